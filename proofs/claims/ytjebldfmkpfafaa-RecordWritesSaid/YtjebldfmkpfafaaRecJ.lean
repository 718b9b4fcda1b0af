/- Layer 10: Parts. -/
import Derived.Test.YtjebldfmkpfafaaRecI
namespace Go.Proofs.Ytjebldfmkpfafaa
open Go.RowKit
set_option maxRecDepth 100000

theorem ownSl {w : World} {e : TypeId} {v : Value} {n : Nat} {xs : List Value} (h : w.ownsRow 0 e 1 v n xs) : SlAt w v xs v.ownBlock.toList := by
  obtain ⟨hl, h2⟩ := h
  rw [Nat.mul_one] at hl
  rcases h2 with ⟨rfl, rfl⟩ | ⟨g, cap, cur, rfl, _, hh, hnc, _, hsz, ht⟩
  · exact ⟨none, 0, by rw [hl], fun h0 => absurd (List.length_eq_zero_iff.1 hl) h0⟩
  · refine ⟨_, cap, by rw [hl], fun _ => ⟨g, 0, rfl, by simp [Value.ownBlock], fun j u hj => ?_⟩⟩
    rw [Nat.zero_add, cell_of_heap hh]
    rw [← ht, Nat.mul_one] at hj
    have hjl : j < n := by
      have := (List.getElem?_eq_some_iff.1 hj).1
      rw [List.length_take] at this
      omega
    rw [List.getElem?_take_of_lt hjl] at hj
    simpa using hj

theorem atK_succ {l : List Sp} {k : Nat} {s : Sp} (h : l[k]? = some s) (hl : ∀ s, s ∈ l → 0 ≤ s.2 ∧ s.2 ≤ 65536) : atK l (k + 1) = atK l k + s.2.toNat * 64 := by
  have hst : l.take (k + 1) = l.take k ++ [s] := by rw [List.take_add_one, h]; rfl
  have h1 := totS_bd (l.take k) (fun s hs => hl s (List.mem_of_mem_take hs))
  have h2 := hl s (List.mem_of_getElem? h)
  unfold atK
  rw [hst, totS_snoc]
  omega

/-- The facts on a record that may be. -/
structure PartsOk (r : Rc) : Prop where
  sp : ∀ s, s ∈ r.sp → 0 ≤ s.2 ∧ s.2 ≤ 65536
  n : r.sp.length ≤ 64
  d : r.dt.length = atK r.sp r.sp.length
  b : r.dt.length ≤ 32768
theorem parts_ok {r : Rc} (h : r.check = 0) (hk : r.kd = 1) : PartsOk r := by
  obtain ⟨hok, h1, _, h2, _, _⟩ := Rc.check_ok h
  have h3 := hok.s2 (by omega)
  obtain ⟨h4, h5⟩ := h2 hk
  have h6 : ∀ s, s ∈ r.sp → 0 ≤ s.2 ∧ s.2 ≤ 65536 := fun s hs => by have := maySp_bd (h3 s hs); omega
  have h7 := totS_bd r.sp h6
  exact ⟨h6, hok.s1 (by omega), by unfold atK; rw [List.take_length]; omega, h1⟩
theorem atK_le {r : Rc} (h : PartsOk r) {k : Nat} {s : Sp} (hs : r.sp[k]? = some s) : atK r.sp k + s.2.toNat * 64 ≤ r.dt.length := by
  rw [← atK_succ hs h.sp, h.d]
  have h1 := totS_take_le r.sp h.sp (k + 1)
  unfold atK
  rw [List.take_length]
  omega

set_option maxHeartbeats 4000000 in
theorem parts_any (r : Rc) (sv : Value) (G : List Nat) (w : World) (hr : r.good w sv G) :
    Calls Try.prog 16 #[r.val sv] w fun e w' => ∃ v F, e = .returned v ∧ SlAt w' v (r.parts.map strV) F ∧ (∀ x, x ∈ F → w.heap.size ≤ x) ∧ Keeps [] w w' := by
  have Ck := Lib.hid (check_any r sv G _ (hr.newer ((Keeps.refl [] w).alloc (rbox r sv))))
  have K0 := Lib.hid ((Keeps.refl [] w).alloc (rbox r sv))
  have CB := Lib.hid (fun w' (k : Keeps [] (w.alloc (rbox r sv)) w') => boxed_new k)
  have Hv := Lib.hid hr.at_
  have hpar : r.parts = if r.check = 0 ∧ r.kd = 1 then partsK r.dt r.sp r.sp.length else [] := rfl
  unfold Rc.val at *
  unfold boxed at CB
  unfold rbox at *
  obtain ⟨ad, cap, rfl, _⟩ := hr.at_
  clear hr
  have nil : ∀ w' : World, SlAt w' (.slice none 0 0) ([].map strV) [] := fun w' => ⟨none, 0, rfl, fun h => absurd rfl h⟩
  by_cases hc : r.check = 0
  · by_cases hk : r.kd = 1
    · have hp : r.parts = partsK r.dt r.sp r.sp.length := by rw [hpar, if_pos ⟨hc, hk⟩]
      have Ok := Lib.hid (parts_ok hc hk)
      have hlen := Ok.out.n
      rw [hc] at Ck
      rw [hp]
      have hkb : (r.kd != 1) = false := by rw [hk]; rfl
      have hbb := Ok.out.b
      clear hpar hp hc hk nil
      go_enter Try.func16, Try.ntmps16
      go_wp2_with (first
        | (go_at_call 14; (with_reducible refine Ck.out.mono ?_); rintro e w1 ⟨rfl, k1⟩; have kv1 := Lib.hid k1; obtain ⟨d0, d1, d2, d3, d4, d5⟩ := CB.out _ k1; clear k1))
      go_loopw [3, 4, 19] (fun ov av iv wr => ∃ k : Nat, k ≤ r.sp.length ∧ iv = .int .i64 k ∧ av = .int .i64 (atK r.sp k) ∧ wr.ownsRow 0 9 1 ov k ((partsK r.dt r.sp k).map strV) ∧ (∀ x, x ∈ ov.ownBlock.toList → w1.heap.size ≤ x) ∧ Keeps [] w1 wr) (fun _ _ iv _ => r.sp.length - (intOf iv).toNat)
      case atStart => exact ⟨0, Nat.zero_le _, rfl, rfl, World.ownsRow_nil _ _ _ _, by simp [Value.ownBlock], Keeps.refl [] _⟩
      case round =>
        obtain ⟨k, hk, rfl, rfl, hrow, hfr, hkk⟩ := hrel
        clear d0 d1 d2 d3 d4 d5
        by_cases hlt : k < r.sp.length
        · obtain ⟨s, hs⟩ : ∃ s, r.sp[k]? = some s := ⟨r.sp[k], by simp [hlt]⟩
          obtain ⟨kb, off, rfl, _, hcc⟩ := (Hv.out.keep ((K0.out.trans kv1.out (by simp)).trans hkk (by simp)) (by simp)).at hs
          have c0 : wr.cell? ⟨kb, off + k * 2, none⟩ = some (.int .i64 s.1) := hcc 0 _ rfl
          have c1 : wr.cell? ⟨kb, off + k * 2 + 1, none⟩ = some (.int .i64 s.2) := hcc 1 _ rfl
          have Kx := Lib.hid ((kv1.out.trans hkk (by simp)).alloc (.cells #[.int .i64 s.1, .int .i64 s.2] 39))
          obtain ⟨e0, e1, e2, e3, e4, e5⟩ := CB.out _ Kx.out
          have hsb := Ok.out.sp s (List.mem_of_getElem? hs)
          have hle := atK_le Ok.out hs
          have hnx := atK_succ hs Ok.out.sp
          have hpn : partsK r.dt r.sp (k + 1) = partsK r.dt r.sp k ++ [(r.dt.drop (atK r.sp k)).take (s.2.toNat * 64)] := by
            rw [partsK]; unfold pieceK; rw [hs]; rfl
          obtain ⟨sa, sn⟩ := s
          dsimp only at *
          obtain ⟨n, rfl⟩ := Int.eq_ofNat_of_zero_le hsb.1
          rw [Int.toNat_natCast] at hle hnx hpn
          have hcut : (str r.dt).extract (atK r.sp k) (atK r.sp k + n * 64) = str ((r.dt.drop (atK r.sp k)).take (n * 64)) := by
            rw [str_extract, str_data, Nat.add_sub_cancel_left]
          generalize (r.dt.drop (atK r.sp k)).take (n * 64) = Pc at *
          generalize atK r.sp k = A at *
          have Hnx := Lib.hid hnx
          obtain ⟨oad, ocap, rfl⟩ := ownsRow_shape hrow
          generalize partsK r.dt r.sp k = L at *
          have hn1 : (n : Int) ≤ 65536 := by omega
          have hw1 : IntKind.i64.wrap ((n : Int) * 64) = ((n * 64 : Nat) : Int) := by rw [IntWalk.i64_in _ ⟨by omega, by omega⟩]; omega
          have hw2 : IntKind.i64.wrap ((A : Int) + ((n * 64 : Nat) : Int)) = ((A + n * 64 : Nat) : Int) := by rw [IntWalk.i64_in _ ⟨by omega, by omega⟩]; omega
          have hki : (k : Int) < (r.sp.length : Int) := by omega
          have hki0 : (0 : Int) ≤ (k : Int) := by omega
          have hb1 : (A : Int) ≤ ((A + n * 64 : Nat) : Int) := by omega
          have hb2 : ((A + n * 64 : Nat) : Int) ≤ (r.dt.length : Int) := by omega
          have Hrow := Lib.hid (hrow.alloc (.cells #[.int .i64 sa, .int .i64 n] 39))
          have Hfr := Lib.hid hfr
          have Hkk := Lib.hid (hkk.alloc (.cells #[.int .i64 sa, .int .i64 n] 39))
          have Hpn := Lib.hid hpn
          clear hrow hfr hkk hpn hcc hs hnx
          go_wp2_with (first
            | (at_builtin; refine wpList_app1 tyStrs rfl (.tmp 26) (.tmp 34) rfl _ _ _ rfl ?hx Hrow.out rfl ?c1 ?c2 ?c3 ?c4)
            | go_in)
          case c1 => rfl
          case c2 => omega
          case c3 => unfold maxLen; omega
          case c4 =>
          intro g' cap' w' hown' hc'
          have Hown3 : Hid (w'.ownsRow 0 9 1 (.slice (some ⟨g', 0, none⟩) (k + 1) cap') (k + 1) ((L ++ [Pc]).map strV)) := by
            rw [List.map_append]
            exact hown'
          have Hc := Lib.hid hc'
          clear hown' hc'
          go_wp2
          go_roundw
          case rel =>
            refine ⟨k + 1, by omega, by go_num, congrArg (Value.int IntKind.i64) (by rw [Hnx.out]; omega), by rw [Hpn.out]; exact Hown3.out, fun x hx => (Hc.out.fresh x hx).elim (Hfr.out x) (fun h => Nat.le_trans Hkk.out.size h), Hkk.out.trans Hc.out.keeps (fun x hx => .inr (Hfr.out x hx))⟩
          case measure => simp [intOf]; omega
        · obtain rfl : k = r.sp.length := by omega
          have Hrow := Lib.hid (ownSl hrow)
          have Hfr := Lib.hid hfr
          have Hkk := Lib.hid hkk
          clear hrow hfr hkk
          go_wp2
          go_ret
          exact ⟨_, _, rfl, Hrow.out, fun x hx => by have := Hfr.out x hx; have := kv1.out.size; simp at this; omega, (K0.out.trans kv1.out (by simp)).trans Hkk.out (by simp)⟩
    · have hp : r.parts = [] := by rw [hpar, if_neg (fun h => hk h.2)]
      have hkb : (r.kd != 1) = true := bne_iff_ne.2 hk
      rw [hc] at Ck
      rw [hp]
      have Nil := Lib.hid nil
      clear hpar hp hc hk nil
      go_enter Try.func16, Try.ntmps16
      go_wp2_with (first
        | (go_at_call 14; (with_reducible refine Ck.out.mono ?_); rintro e w1 ⟨rfl, k1⟩; have kv1 := Lib.hid k1; obtain ⟨d0, d1, d2, d3, d4, d5⟩ := CB.out _ k1; clear k1))
      go_ret
      exact ⟨_, _, rfl, Nil.out _, by simp, K0.out.trans kv1.out (by simp)⟩
  · have hp : r.parts = [] := by rw [hpar, if_neg (fun h => hc h.1)]
    have hcb : (r.check != 0) = true := bne_iff_ne.2 hc
    rw [hp]
    have Nil := Lib.hid nil
    generalize r.check = V at *
    clear hpar hp hc nil
    go_enter Try.func16, Try.ntmps16
    go_wp2_with (first
      | (go_at_call 14; (with_reducible refine Ck.out.mono ?_); rintro e w1 ⟨rfl, k1⟩; have kv1 := Lib.hid k1; clear k1))
    go_ret
    exact ⟨_, _, rfl, Nil.out _, by simp, K0.out.trans kv1.out (by simp)⟩
end Go.Proofs.Ytjebldfmkpfafaa
