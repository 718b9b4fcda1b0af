/- What is encoded is decoded, and a sector of which one byte is turned is none: SuperBack answers true at all inputs; without conditions. -/
import Derived.Test.YtcbpkplmaglpcaaSupW
import Derived.Test.YtcbpkplmaglpcaaBytesOf
import Derived.Test.YtcbpkplmaglpcaaOpenS
namespace Go.Proofs.Ytcbpkplmaglpcaa.lawSuperBack
open Go.ChangeShapes Go.WideShapes Go.ChangeAt Go.RowKit
open Go.ChangeMaps (open_string shut_string)

theorem walk_bad (s : Sup) (hg : s.good) (hc : s.check ≠ 0) (at' turn : Int) (W : World) : Calls Try.prog 6 #[s.agg, .int .i64 at', .int .u8 turn] W fun e w' => e = .returned (.bool true) ∧ Keeps [] W w' := by
  have C2 := Lib.hid (fun w => refCheck_any s hg w)
  have Pl := Lib.hid (fun w => plain_any s w)
  have hb : (s.check != 0) = true := by rw [bne_iff_ne]; exact hc
  clear hc hg
  generalize s.check = c at *
  obtain ⟨key, epoch, serial, size, tail, number⟩ := s
  unfold Sup.agg at *
  dsimp only at *
  go_enter Try.func6, Try.ntmps6
  go_wp2_with (first
    | (go_at_call 12; (with_reducible refine (Pl.out _).mono ?_); rintro e w1 ⟨rfl, k1⟩)
    | (go_at_call 16; (with_reducible refine (C2.out _).mono ?_); rintro e w2 ⟨rfl, k2⟩)
    | (go_at_call 9; (with_reducible refine (awake_any _).mono ?_); rintro e w5 ⟨rfl, k5⟩))
  go_ret
  exact ⟨rfl, KT ((Keeps.refl [] W).alloc _) (KT k1 (KT k2 k5))⟩

set_option maxHeartbeats 4000000 in
set_option maxRecDepth 100000 in
theorem walk_good (s : Sup) (hg : s.good) (hc : s.check = 0) (at' turn : Int) (h0 : 0 ≤ turn) (h1 : turn ≤ 255) (W : World) : Calls Try.prog 6 #[s.agg, .int .i64 at', .int .u8 turn] W fun e w' => e = .returned (.bool true) ∧ Keeps [] W w' := by
  have C2 := Lib.hid (fun w => refCheck_any s hg w)
  have En := Lib.hid (fun w => encode_any s hg w)
  have Pl := Lib.hid (fun w => plain_any s w)
  have De := Lib.hid (fun w => decode_any s.sector w (by rw [sector_length]; omega))
  have he : s.encode = (s.sector, 0) := if_pos hc
  rw [he] at En
  rw [decode_sector s hg.key hc] at De
  rw [hc] at C2
  have hl := sector_length s
  have htu := turned s
  have HA := Lib.hid (heap_at (w := W) (o := .cells #[.int .u64 s.key, .int .i64 s.epoch, .int .i64 s.serial, .int .i64 s.size, .int .i64 s.tail, .int .i64 s.number] 25 (0, 0)) rfl)
  clear hc he hg
  generalize s.sector = T at *
  have Htu := Lib.hid htu
  clear htu
  obtain ⟨key, epoch, serial, size, tail, number⟩ := s
  unfold Sup.agg at *
  dsimp only at *
  by_cases hskip : at' < 0 ∨ 64 ≤ at' ∨ turn = 0
  · rcases (show at' < 0 ∨ (¬ at' < 0 ∧ 64 ≤ at') ∨ (¬ at' < 0 ∧ ¬ 64 ≤ at' ∧ turn = 0) by omega) with g | ⟨g, g2⟩ | ⟨g, g2, rfl⟩
    all_goals
      clear hskip
      go_enter Try.func6, Try.ntmps6
      go_wp2_with (first
        | (go_at_call 12; (with_reducible refine (Pl.out _).mono ?_); rintro e w1 ⟨rfl, k1⟩)
        | (go_at_call 16; (with_reducible refine (C2.out _).mono ?_); rintro e w2 ⟨rfl, k2⟩; have K2 := KT k1 k2; obtain ⟨⟨c0, c1, c2, c3, c4, c5⟩, _⟩ := cells6 (K2.some HA.out (by simp)))
        | (go_at_call 17; (with_reducible refine (En.out _).mono ?_); rintro e w3 ⟨rfl, k3⟩; have K3 := KT K2 k3; clear c0 c1 c2 c3 c4 c5)
        | (go_at_call 10; (with_reducible refine (De.out _).mono ?_); rintro e w4 ⟨rfl, k4⟩; have K4 := KT K3 k4; obtain ⟨⟨c0, c1, c2, c3, c4, c5⟩, _⟩ := cells6_was (K4.some HA.out (by simp)))
        | (go_at_call 9; (with_reducible refine (awake_any _).mono ?_); rintro e w5 ⟨rfl, k5⟩))
      go_ret
      exact ⟨rfl, KT ((Keeps.refl [] W).alloc _) (KT (K4.alloc _) k5)⟩
  · obtain ⟨k, rfl⟩ : ∃ k : Nat, at' = k := ⟨at'.toNat, by omega⟩
    obtain ⟨t, rfl⟩ : ∃ t : Nat, turn = t := ⟨turn.toNat, by omega⟩
    have hk : k < 64 := by omega
    have hkT : k < T.length := by omega
    obtain ⟨c, hcc⟩ : ∃ c, T[k]? = some c := ⟨T[k], List.getElem?_eq_getElem hkT⟩
    have hcl := c.toNat_lt
    have hx : bits .xor .u8 (c.toNat : Int) (t : Int) = ((c.toNat ^^^ t : Nat) : Int) := u8_xor_nat _ _ hcl (by omega)
    have hxl : c.toNat ^^^ t < 256 := by
      have := Nat.xor_lt_two_pow (n := 8) (show c.toNat < 2 ^ 8 from hcl) (show t < 2 ^ 8 by omega)
      exact this
    obtain ⟨d, hd⟩ : ∃ d : UInt8, d.toNat = c.toNat ^^^ t := ⟨UInt8.ofNat (c.toNat ^^^ t), by simp only [UInt8.toNat_ofNat']; omega⟩
    have hcd : c ≠ d := by
      intro h
      have h2 : c.toNat ^^^ t = c.toNat ^^^ 0 := by rw [← hd, ← h, Nat.xor_zero]
      have := xor_cancel_l h2
      omega
    rw [← hd] at hx
    have D2 := Lib.hid (fun w => decode_any (T.set k d) w (by rw [List.length_set]; omega))
    rw [Htu.out k c d hcc hcd, nil_agg] at D2
    dsimp only at D2
    obtain ⟨capf, Wf, hcv, hkW, hsW, hcW, hfW⟩ := bytes_of T
    have hset : ∀ (w : World) (b cap : Nat), b = w.heap.size → (convert 47 9 (.slice (some ⟨b, 0, none⟩) 64 cap)).run Try.prog ((Wf w).setCell ⟨b, k, none⟩ (.int .u8 d.toNat)) = .ok (.string (str (T.set k d))) ((Wf w).setCell ⟨b, k, none⟩ (.int .u8 d.toNat)) := by
      rintro w b cap rfl
      exact string_turned (Wf w) _ w.heap.size 64 cap k T d (by omega) rfl (fun j c' hj => hcW w j c' hj)
    have hck : ∀ (w : World) (b : Nat), b = w.heap.size → (Wf w).cell? ⟨b, k, none⟩ = some (.int .u8 c.toNat) := by
      rintro w b rfl
      exact hcW w k c hcc
    have hfk : ∀ (w : World) (b : Nat), b = w.heap.size → (Wf w).frozen? ⟨b, k, none⟩ = false := by
      rintro w b rfl
      exact hfW w k (by omega)
    have hKW : Hid (∀ (w : World) (b : Nat), b = w.heap.size → Keeps [] w ((Wf w).setCell ⟨b, k, none⟩ (.int .u8 d.toNat))) := fun w b hb => (hkW w).setK _ _ _ (by omega)
    rw [hl] at hcv
    generalize T.set k d = TT at *
    have b1 : decide ((k : Int) < 64) = true := by simp; omega
    have b2 : ((t : Int) == 0) = false := by rw [beq_eq_false_iff_ne]; omega
    have b3 : ¬ ((t : Int) = 0) := by omega
    have b4 : (k : Int) < 64 := by omega
    have b5 : ¬ (64 : Int) ≤ (k : Int) := by omega
    have b6 : (0 : Int) ≤ (k : Int) := by omega
    clear hskip hcc hcd hd hxl hkW hcW hfW h0 h1 hkT hk Htu
    go_enter Try.func6, Try.ntmps6
    go_wp2_with (first
        | (go_at_call 12; (with_reducible refine (Pl.out _).mono ?_); rintro e w1 ⟨rfl, k1⟩)
        | (go_at_call 16; (with_reducible refine (C2.out _).mono ?_); rintro e w2 ⟨rfl, k2⟩; have K2 := KT k1 k2; obtain ⟨⟨c0, c1, c2, c3, c4, c5⟩, _⟩ := cells6 (K2.some HA.out (by simp)))
        | (go_at_call 17; (with_reducible refine (En.out _).mono ?_); rintro e w3 ⟨rfl, k3⟩; have K3 := KT K2 k3; clear c0 c1 c2 c3 c4 c5)
        | (go_at_call 10; (with_reducible refine (De.out _).mono ?_); rintro e w4 ⟨rfl, k4⟩; have K4 := KT K3 k4; obtain ⟨⟨c0, c1, c2, c3, c4, c5⟩, _⟩ := cells6_was (K4.some HA.out (by simp)))
        | (go_at_call 10; (with_reducible refine (D2.out _).mono ?_); rintro e w6 ⟨rfl, k6⟩)
        | (go_at_call 9; (with_reducible refine (awake_any _).mono ?_); rintro e w5 ⟨rfl, k5⟩))
    go_ret
    exact ⟨rfl, KT ((Keeps.refl [] W).alloc _) (KT (K4.alloc _) (KT (hKW.out _ _ (by simp)) (KT k6 (KT ((Keeps.refl [] w6).alloc _) k5))))⟩

theorem walk_any (s : Sup) (hg : s.good) (at' turn : Int) (h0 : 0 ≤ turn) (h1 : turn ≤ 255) (W : World) : Calls Try.prog 6 #[s.agg, .int .i64 at', .int .u8 turn] W fun e w' => e = .returned (.bool true) ∧ Keeps [] W w' := by
  by_cases hc : s.check = 0
  · exact walk_good s hg hc at' turn h0 h1 W
  · exact walk_bad s hg hc at' turn W
-- ROWEND
set_option maxRecDepth 100000 in
theorem lifted (os : Os) (started : os.Started) (H : Type) (enc : TypeId × Value → H) :
    ReturnsInHanded {} Try.checked os 6 .any (Rows.superBackSpec.pre6 enc Try.prog Try.f6 Rows.superBackRow.domain false) (Rows.superBackSpec.post enc Try.prog Try.f6 false true false false) := by
  refine returnsInHanded_of_change (C := Try.checked) Try.own started (by kernel_rfl) Try.func6
    (ChangeSpec.witness6 (enc := enc) (C := Try.checked) false ⟨#[], #[.agg #[.int .u64 0, .int .i64 0, .int .i64 0, .int .i64 0, .int .i64 0, .int .i64 0], .int .i64 0, .int .u8 0], []⟩ 8 (by kernel_rfl) (by kernel_rfl) (by kernel_rfl) (by kernel_rfl)) ?_
  intro W base args ds gs before hval0 hW _ _
  have hval : ∀ (j : Nat) t v, Try.f6.params[j]? = some t → args[j]? = some v → Value.okWide Try.prog W .any base t v := hval0
  have hW' := hW
  obtain ⟨p, q, hA0, hV, rfl, hfz, hnd⟩ := hW
  have hA : DataW.TrodAll enc Try.prog W 0 (fun _ => true) true Try.f6.params.toList args.toList ds p := hA0
  rw [Try.params6] at hA hval
  obtain ⟨v0, vs0, d0, ds0, p0, q0, hargs, rfl, rfl, h0, r0⟩ := trodAll_cons hA
  obtain ⟨v1, vs1, d1, ds1, p1, q1, rfl, rfl, rfl, h1, r1⟩ := trodAll_cons r0
  obtain ⟨v2, vs2, d2, ds2, p2, q2, rfl, rfl, rfl, h2, r2⟩ := trodAll_cons r1
  obtain ⟨rfl, rfl, rfl⟩ := trodAll_nil r2
  obtain rfl : args = #[v0, v1, v2] := by cases args; simp_all
  obtain ⟨cs0, n0, x0, rfl, e0⟩ := open_agg Try.underlying25 (hval 0 25 v0 rfl rfl) h0
  obtain ⟨s, c0, gs⟩ := elem_sup e0
  obtain rfl : cs0 = (s.vals).toArray := by rw [← c0]
  obtain ⟨a, rfl, rfl, rfl, wa⟩ := open_int Try.underlying3 (hval 1 3 v1 rfl rfl) h1
  obtain ⟨wa0, wa1⟩ := wf_i64 wa
  obtain ⟨u, rfl, rfl, rfl, wu⟩ := open_int Try.underlying5 (hval 2 5 v2 rfl rfl) h2
  obtain ⟨wu0, wu1⟩ := wf_u8 wu
  refine (walk_any s gs a u wu0 wu1 W).mono fun e W' ⟨he, hk⟩ => ?_
  subst he
  exact ⟨_, rfl, law_end Try.laidOut (by kernel_rfl) rfl rfl Try.underlying4 hW' rfl hk⟩

theorem proved : Rows.SuperBackSaid :=
  OpenClaim.holds_of_wide 6 Try.f6 rfl rfl rfl rfl rfl rfl rfl ⟨rfl, rfl, rfl, rfl, rfl⟩ rfl rfl rfl rfl rfl (by kernel_rfl) Try.func6 (by kernel_rfl)
    (of_decide_eq_true (by kernel_rfl)) (by unfold Func.isWrapper; first | (rw [if_pos (by decide +kernel)]; kernel_rfl) | (rw [if_neg (by decide +kernel)]; exact ⟨rfl, rfl⟩))
    (fun os started H enc _ => lifted os started H enc)
end Go.Proofs.Ytcbpkplmaglpcaa.lawSuperBack
