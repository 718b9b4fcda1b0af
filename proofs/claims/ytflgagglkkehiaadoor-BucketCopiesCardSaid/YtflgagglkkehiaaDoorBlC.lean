/- Layer 5: same, Same; a bucket beside the document's answer. -/
import Derived.Test.YtflgagglkkehiaaDoorBlB
namespace Go.Proofs.YtflgagglkkehiaaDoor
open Go.RowKit Go.Maps

set_option maxHeartbeats 4000000 in
set_option maxRecDepth 100000 in
theorem sgot_any (s : Bs) (n : Int) (e : Int) (l : List Bs) (la lb : Value) (Ga Gb : List Nat) (w : World) (ha : SlAt w la (l.map strV) Ga) (hb : SlAt w lb (l.map strV) Gb) (hl : l.length ≤ 1000000) :
    Calls Tryd.prog 25 #[.agg #[.string (str s), .int .i64 n, la, .int .i64 e], .agg #[.string (str s), .int .i64 n, lb, .int .i64 e]] w fun e w' => e = .returned (.bool true) ∧ Keeps [] w w' := by
  have Tx : Hid (∀ w', Keeps [] w w' → Calls Tryd.prog 24 #[la, lb] w' fun e w'' => e = .returned (.bool true) ∧ Keeps [] w' w'') := fun w' k => by
    have := texts_any l l la lb Ga Gb w' (ha.keep k (by simp)) (hb.keep k (by simp)) (by omega) (by omega)
    rw [show decide (l = l) = true by simp] at this
    exact this
  have K0 := Lib.hid fun o => (Keeps.refl [] w).alloc o
  obtain ⟨aa, ca, rfl, _⟩ := ha
  obtain ⟨ab, cb, rfl, _⟩ := hb
  rw [List.length_map] at *
  have h1 : (s == s) = true := by simp
  have h2 : (n == n) = true := by simp
  have h3 : (e == e) = true := by simp
  go_enter Tryd.func25, Tryd.ntmps25
  go_wp2_with (go_at_call 24; (with_reducible refine (Tx.out _ ((K0.out _).alloc _)).mono ?_); rintro e w1 ⟨rfl, k1⟩)
  go_ret
  exact ⟨rfl, ((K0.out _).alloc _).trans k1 (by simp)⟩

set_option maxHeartbeats 8000000 in
set_option maxRecDepth 100000 in
theorem samee_any (p r : Nat) (b : Bk) (F F2 : List Nat) (w : World) (hb : BkAt w p b F) (hr : RfAt w r b F2) (N : Nat) (hok : b.ok N) (hN : N ≤ 1000000) :
    Calls Tryd.prog 27 #[.pointer (some ⟨p, 0, none⟩), .pointer (some ⟨r, 0, none⟩)] w fun e w' => e = .returned (.bool true) ∧ Keeps [] w w' := by
  have hml : b.m.length ≤ 1000000 := by have := hok.few; omega
  have hus := hok.fits
  have hq := hok.q63
  have Na := Lib.hid (names_any p b F w hb hok.srt hml)
  have Hb := Lib.hid (fun w' (k : Keeps [] w w') => hb.newer k)
  have Hr := Lib.hid (fun w' (k : Keeps [] w w') => hr.newer k)
  have hKl : (keysO b.m).length = b.m.length := by unfold keysO; rw [List.length_map]
  clear hb hr hok
  go_enter Tryd.func27, Tryd.ntmps27
  go_wp2_with (go_at_call 22; (with_reducible refine (Na.out).mono ?_); rintro e w1 ⟨v1, rfl, hr1, hn1, k1⟩; obtain ⟨a1, c1, rfl⟩ := ownsRow_shape hr1)
  have Us := Lib.hid (fun n => used_any p b F (w1.drewN n) (Hb.out _ (k1.trans ((Keeps.refl [] w1).drewN n) (by simp))))
  have Qu := Lib.hid (fun n => quota_any p b F (w1.drewN n) (Hb.out _ (k1.trans ((Keeps.refl [] w1).drewN n) (by simp))))
  have Wa := Lib.hid (fun n => waits_any p b F (w1.drewN n) (Hb.out _ (k1.trans ((Keeps.refl [] w1).drewN n) (by simp))))
  have Ru := Lib.hid (fun n => rused_any r b F2 (w1.drewN n) (Hr.out _ (k1.trans ((Keeps.refl [] w1).drewN n) (by simp))) hml (by omega))
  obtain ⟨ov, fv, lv, Go', Gf, Gl, hc⟩ := Hr.out _ k1
  obtain ⟨oad, ocap, rfl, hole, _, hoao⟩ := hc.obj.shape
  obtain ⟨lad, lcap, rfl, _⟩ := hc.row.shape
  have x0 := cell_of_heap hc.cells 0
  have x1 := cell_of_heap hc.cells 1
  have x3 := cell_of_heap hc.cells 3
  have e1 : ((b.m.length : Int) != (b.m.length : Int)) = false := by simp
  have e2 : ((usedO b.m : Int) != (usedO b.m : Int)) = false := by simp
  have e3 : ((b.q : Int) != (b.q : Int)) = false := by simp
  have e4 : ((b.l.length : Int) != (b.l.length : Int)) = false := by simp
  have Hobj := Lib.hid hc.obj
  have K1 := Lib.hid k1
  have S1 := Lib.hid (SlAt.own' hr1)
  have Hole := Lib.hid hole
  have Hoao := Lib.hid hoao
  clear hc hr1 hn1 k1 hole hoao
  go_quiet (first
    | (go_at_call 19; exact Calls.quiet_of_same (Us.out _))
    | (go_at_call 29; exact Calls.quiet_of_same (Qu.out _))
    | (go_at_call 15; exact Calls.quiet_of_same (Wa.out _))
    | (go_at_call 48; exact Calls.quiet_of_same (Ru.out _)))
  have kd : Keeps [] w1 (w1.drewN nq) := (Keeps.refl [] w1).drewN nq
  have Kd := Lib.hid kd
  have x0d := kd.cell0 x0
  clear kd x0
  generalize w1.drewN nq = wd at *
  go_wp2
  go_loopw [6] (fun iv wr => ∃ j : Nat, j ≤ b.m.length ∧ iv = .int .i64 j ∧ Keeps [] wd wr) (fun iv _ => b.m.length - (intOf iv).toNat)
  case atStart => exact ⟨0, Nat.zero_le _, rfl, Keeps.refl [] _⟩
  case round =>
    obtain ⟨j, hj, rfl, hkk⟩ := hrel
    have x0r := hkk.cell0 x0d
    clear x0d
    by_cases hlt : j < b.m.length
    · obtain ⟨x, hx⟩ : ∃ x, b.m[j]? = some x := ⟨b.m[j], by simp [hlt]⟩
      obtain ⟨g, off, rfl⟩ := Hoao.out (by have := Hole.out; omega)
      have hcx := (Kd.out.trans hkk (by simp)).cell0 (Hobj.out.cell (by have := Hole.out; omega) _ _ (objV_at b.m j x hx 0 _ rfl))
      rw [Nat.add_zero] at hcx
      obtain ⟨ad', cap', ea, hcs⟩ := S1.out
      have hxk : ((keysO b.m).map strV)[j]? = some (strV x.1) := by unfold keysO; rw [List.getElem?_map, List.getElem?_map, hx]; rfl
      obtain ⟨g1, off1, rfl, _, hcell⟩ := hcs (by intro h0; rw [h0] at hxk; simp at hxk)
      obtain rfl : a1 = some ⟨g1, off1, none⟩ := by injection ea
      have hcy := (Kd.out.trans hkk (by simp)).cell0 (hcell j _ hxk)
      unfold strV at hcy
      have hji : (j : Int) < (b.m.length : Int) := by omega
      have hji0 : (0 : Int) ≤ (j : Int) := by omega
      have hxx : (x.1 == x.1) = true := by simp
      have Hkk := Lib.hid hkk
      clear hx hxk hcell hcs ea hkk
      go_wp2
      go_quiet (fail)
      go_wp2
      go_roundw
      case rel => exact ⟨j + 1, by omega, by go_num, (by first | exact Hkk.out | exact Hkk.out.drew | exact Hkk.out.drewN _)⟩
      case measure => simp [intOf]; omega
    · obtain rfl : j = b.m.length := by omega
      go_wp2
      go_ret
      exact ⟨rfl, (K1.out.trans Kd.out (by simp)).trans hkk (by simp)⟩

def runA (b : Bk) (l : List OpR) : Bk := l.foldl (fun b o => (b.doO o).2) b
theorem runA_snoc (b : Bk) (l : List OpR) (o : OpR) : runA b (l ++ [o]) = ((runA b l).doO o).2 := by
  unfold runA
  rw [List.foldl_append]
  rfl
theorem runA_ok : ∀ (l : List OpR) (b : Bk) (N : Nat), b.ok N → (∀ o, o ∈ l → o.L.length ≤ 20 ∧ ∀ x, x ∈ o.L → i64R x) → (runA b l).ok (N + l.length)
  | [], b, N, h2, _ => h2
  | o :: r, b, N, h2, h => by
    have ho := h o (by simp)
    have := runA_ok r (b.doO o).2 (N + 1) (h2.doO o ho.1 ho.2) (fun o hx => h o (List.mem_cons_of_mem _ hx))
    show (runA (b.doO o).2 r).ok (N + (r.length + 1))
    rw [show N + (r.length + 1) = (N + 1) + r.length by omega]
    exact this

/-- The document's answer, made anew. -/
theorem ref_new (w : World) (q : Nat) : RfAt (w.alloc (.cells #[.slice none 0 0, .int .i64 q, .slice none 0 0, .slice none 0 0] 58)) w.heap.size (newB q) [w.heap.size] :=
  ⟨_, _, _, [], [], [], ⟨heap_alloc_self w _, RowAt.none', RowAt.none', RowAt.none', rfl, by simp, by simp, by simp, by simp, by simp, by simp⟩⟩
theorem list_le (b : Bk) (o : OpR) {N : Nat} (h : b.ok N) (hN : N ≤ 1000000) : (b.doO o).1.l.length ≤ 1000000 := by
  unfold Bk.doO
  repeat' split
  all_goals first
    | (show 0 ≤ 1000000; omega)
    | (show (b.list o.name).1.length ≤ 1000000
       unfold Bk.list
       split
       · refine Nat.le_trans (List.length_filter_le _ _) ?_
         unfold keysO
         rw [List.length_map]
         have := h.few
         omega
       · simp)
end Go.Proofs.YtflgagglkkehiaaDoor
