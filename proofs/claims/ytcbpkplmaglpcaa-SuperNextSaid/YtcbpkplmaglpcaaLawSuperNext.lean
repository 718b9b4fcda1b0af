/- Which superblock is behind another one, or why none: SuperNext answers true at all inputs; without conditions. -/
import Derived.Test.YtcbpkplmaglpcaaSupW
namespace Go.Proofs.Ytcbpkplmaglpcaa.lawSuperNext
open Go.ChangeShapes Go.WideShapes Go.ChangeAt Go.RowKit
open Go.ChangeMaps (open_string shut_string)

set_option maxHeartbeats 4000000 in
theorem walk_bad (s : Sup) (hg : s.good) (hc : s.check ≠ 0) (t n : Int) (ht0 : -9223372036854775808 ≤ t) (ht1 : t ≤ 9223372036854775807) (hn0 : -9223372036854775808 ≤ n) (hn1 : n ≤ 9223372036854775807) (W : World) :
    Calls Try.prog 4 #[s.agg, .int .i64 t, .int .i64 n] W fun e w' => e = .returned (.bool true) ∧ Keeps [] W w' := by
  have C2 := Lib.hid (fun w => refCheck_any s hg w)
  have Nx := Lib.hid (fun w => next_any s hg t n ht0 ht1 hn0 hn1 w)
  have Pl := Lib.hid (fun w => plain_any s w)
  have hb : (s.check != 0) = true := by rw [bne_iff_ne]; exact hc
  have hb2 : (s.check == 0) = false := by rw [beq_eq_false_iff_ne]; exact hc
  have he : s.next t n = (.nil, s.check) := if_pos hc
  rw [he, nil_agg] at Nx
  clear hc he hg
  generalize s.check = c at *
  obtain ⟨key, epoch, serial, size, tail, number⟩ := s
  unfold Sup.agg at *
  dsimp only at *
  go_enter Try.func4, Try.ntmps4
  go_wp2_with (first
    | (go_at_call 15; (with_reducible refine (Nx.out _).mono ?_); rintro e w1 ⟨rfl, k1⟩; obtain ⟨⟨c0, c1, c2, c3, c4, c5⟩, _⟩ := cells6_was (k1.some (heap_at rfl) (by simp)))
    | (go_at_call 12; (with_reducible refine (Pl.out _).mono ?_); rintro e w2 ⟨rfl, k2⟩)
    | (go_at_call 16; (with_reducible refine (C2.out _).mono ?_); rintro e w3 ⟨rfl, k3⟩; have K3 := KT k2 k3; clear c0 c1 c2 c3 c4 c5; obtain ⟨⟨c0, c1, c2, c3, c4, c5⟩, _⟩ := cells6 (K3.some (heap_was (k1.some (heap_at rfl) (by simp))) (by simp)); obtain ⟨⟨x0, x1, x2, x3, x4, x5⟩, _⟩ := cells6_was (K3.some (heap_at rfl) (by simp)))
    | (go_at_call 9; (with_reducible refine (awake_any _).mono ?_); rintro e w9 ⟨rfl, k9⟩))
  go_ret
  exact ⟨rfl, KT (KT (KT (KT (KT ((Keeps.refl [] W).alloc _) k1) ((Keeps.refl [] _).alloc _)) K3) ((Keeps.refl [] _).alloc _)) k9⟩

set_option maxHeartbeats 4000000 in
theorem walk_arg (s : Sup) (hg : s.good) (hc : s.check = 0) (t n : Int) (h : t < s.tail ∨ n < s.number) (ht0 : -9223372036854775808 ≤ t) (ht1 : t ≤ 9223372036854775807) (hn0 : -9223372036854775808 ≤ n) (hn1 : n ≤ 9223372036854775807) (W : World) :
    Calls Try.prog 4 #[s.agg, .int .i64 t, .int .i64 n] W fun e w' => e = .returned (.bool true) ∧ Keeps [] W w' := by
  have C2 := Lib.hid (fun w => refCheck_any s hg w)
  have Nx := Lib.hid (fun w => next_any s hg t n ht0 ht1 hn0 hn1 w)
  have Pl := Lib.hid (fun w => plain_any s w)
  have he : s.next t n = (.nil, 1) := by unfold Sup.next; rw [if_neg (by simp [hc]), if_pos h]
  rw [he, nil_agg] at Nx
  rw [hc] at C2
  clear hc he hg
  obtain ⟨key, epoch, serial, size, tail, number⟩ := s
  unfold Sup.agg at *
  dsimp only at *
  rcases (show t < tail ∨ ¬ t < tail ∧ n < number by omega) with h1 | ⟨h1, h2⟩
  all_goals
    clear h
    go_enter Try.func4, Try.ntmps4
    go_wp2_with (first
      | (go_at_call 15; (with_reducible refine (Nx.out _).mono ?_); rintro e w1 ⟨rfl, k1⟩; obtain ⟨⟨c0, c1, c2, c3, c4, c5⟩, _⟩ := cells6_was (k1.some (heap_at rfl) (by simp)))
      | (go_at_call 12; (with_reducible refine (Pl.out _).mono ?_); rintro e w2 ⟨rfl, k2⟩)
      | (go_at_call 16; (with_reducible refine (C2.out _).mono ?_); rintro e w3 ⟨rfl, k3⟩; have K3 := KT k2 k3; clear c0 c1 c2 c3 c4 c5; obtain ⟨⟨c0, c1, c2, c3, c4, c5⟩, _⟩ := cells6 (K3.some (heap_was (k1.some (heap_at rfl) (by simp))) (by simp)); obtain ⟨⟨x0, x1, x2, x3, x4, x5⟩, _⟩ := cells6_was (K3.some (heap_at rfl) (by simp)))
      | (go_at_call 9; (with_reducible refine (awake_any _).mono ?_); rintro e w9 ⟨rfl, k9⟩))
    go_ret
    exact ⟨rfl, KT (KT (KT (KT (KT ((Keeps.refl [] W).alloc _) k1) ((Keeps.refl [] _).alloc _)) K3) ((Keeps.refl [] _).alloc _)) k9⟩

set_option maxHeartbeats 4000000 in
theorem walk_none (s : Sup) (hg : s.good) (hc : s.check = 0) (t n : Int) (h1 : ¬ t < s.tail) (h2 : ¬ n < s.number) (ht0 : -9223372036854775808 ≤ t) (ht1 : t ≤ 9223372036854775807) (hn0 : -9223372036854775808 ≤ n) (hn1 : n ≤ 9223372036854775807)
    (hgb : (s.behind t n).good) (h3 : (s.behind t n).check ≠ 0) (W : World) :
    Calls Try.prog 4 #[s.agg, .int .i64 t, .int .i64 n] W fun e w' => e = .returned (.bool true) ∧ Keeps [] W w' := by
  have C2 := Lib.hid (fun w => refCheck_any s hg w)
  have CB := Lib.hid (fun w => refCheck_any (s.behind t n) hgb w)
  have Nx := Lib.hid (fun w => next_any s hg t n ht0 ht1 hn0 hn1 w)
  have Pl := Lib.hid (fun w => plain_any s w)
  have he : s.next t n = (.nil, (s.behind t n).check) := by unfold Sup.next; rw [if_neg (by simp [hc]), if_neg (by omega), if_pos h3]
  rw [he, nil_agg] at Nx
  have hs := (check_le s hc).2.1
  rw [hc] at C2
  have hb : ((s.behind t n).check != 0) = true := by rw [bne_iff_ne]; exact h3
  have hb2 : ((s.behind t n).check == 0) = false := by rw [beq_eq_false_iff_ne]; exact h3
  generalize (s.behind t n).check = c at *
  clear hc he hg hgb h3
  obtain ⟨key, epoch, serial, size, tail, number⟩ := s
  unfold Sup.behind Sup.agg at *
  dsimp only at *
  go_enter Try.func4, Try.ntmps4
  go_wp2_with (first
    | (go_at_call 15; (with_reducible refine (Nx.out _).mono ?_); rintro e w1 ⟨rfl, k1⟩; obtain ⟨⟨c0, c1, c2, c3, c4, c5⟩, _⟩ := cells6_was (k1.some (heap_at rfl) (by simp)))
    | (go_at_call 12; (with_reducible refine (Pl.out _).mono ?_); rintro e w2 ⟨rfl, k2⟩)
    | (go_at_call 16; (with_reducible refine (C2.out _).mono ?_); rintro e w3 ⟨rfl, k3⟩; have K3 := KT k2 k3; clear c0 c1 c2 c3 c4 c5; obtain ⟨⟨c0, c1, c2, c3, c4, c5⟩, _⟩ := cells6 (K3.some (heap_was (k1.some (heap_at rfl) (by simp))) (by simp)); obtain ⟨⟨x0, x1, x2, x3, x4, x5⟩, _⟩ := cells6_was (K3.some (heap_at rfl) (by simp)))
    | (go_at_call 16; (with_reducible refine (CB.out _).mono ?_); rintro e w4 ⟨rfl, k4⟩; clear x0 x1 x2 x3 x4 x5; obtain ⟨⟨x0, x1, x2, x3, x4, x5⟩, _⟩ := cells6 (k4.some (heap_was (K3.some (heap_at rfl) (by simp))) (by simp)))
    | (go_at_call 9; (with_reducible refine (awake_any _).mono ?_); rintro e w9 ⟨rfl, k9⟩))
  go_ret
  exact ⟨rfl, KT (KT (KT (KT (KT (KT ((Keeps.refl [] W).alloc _) k1) ((Keeps.refl [] _).alloc _)) K3) ((Keeps.refl [] _).alloc _)) k4) k9⟩

set_option maxHeartbeats 4000000 in
set_option maxRecDepth 100000 in
theorem walk_ok (s : Sup) (hg : s.good) (hc : s.check = 0) (t n : Int) (h1 : ¬ t < s.tail) (h2 : ¬ n < s.number) (ht0 : -9223372036854775808 ≤ t) (ht1 : t ≤ 9223372036854775807) (hn0 : -9223372036854775808 ≤ n) (hn1 : n ≤ 9223372036854775807)
    (hgb : (s.behind t n).good) (h3 : (s.behind t n).check = 0) (W : World) :
    Calls Try.prog 4 #[s.agg, .int .i64 t, .int .i64 n] W fun e w' => e = .returned (.bool true) ∧ Keeps [] W w' := by
  have C2 := Lib.hid (fun w => refCheck_any s hg w)
  have CB := Lib.hid (fun w => refCheck_any (s.behind t n) hgb w)
  have Nx := Lib.hid (fun w => next_any s hg t n ht0 ht1 hn0 hn1 w)
  have Pl := Lib.hid (fun w => plain_any s w)
  have he : s.next t n = (s.behind t n, 0) := by unfold Sup.next; rw [if_neg (by simp [hc]), if_neg (by omega), if_neg (by simp [h3])]
  have PB := Lib.hid (fun w => plain_any (s.behind t n) w)
  rw [he] at Nx
  have hs := (check_le s hc).2.1
  rw [hc] at C2
  rw [h3] at CB
  clear hc he hg hgb h3
  obtain ⟨key, epoch, serial, size, tail, number⟩ := s
  unfold Sup.behind Sup.agg at *
  dsimp only at *
  go_enter Try.func4, Try.ntmps4
  go_wp2_with (first
    | (go_at_call 15; (with_reducible refine (Nx.out _).mono ?_); rintro e w1 ⟨rfl, k1⟩; obtain ⟨⟨c0, c1, c2, c3, c4, c5⟩, _⟩ := cells6_was (k1.some (heap_at rfl) (by simp)))
    | (go_at_call 12; (with_reducible refine (Pl.out _).mono ?_); rintro e w2 ⟨rfl, k2⟩)
    | (go_at_call 16; (with_reducible refine (C2.out _).mono ?_); rintro e w3 ⟨rfl, k3⟩; have K3 := KT k2 k3; clear c0 c1 c2 c3 c4 c5; obtain ⟨⟨c0, c1, c2, c3, c4, c5⟩, _⟩ := cells6 (K3.some (heap_was (k1.some (heap_at rfl) (by simp))) (by simp)); obtain ⟨⟨x0, x1, x2, x3, x4, x5⟩, _⟩ := cells6_was (K3.some (heap_at rfl) (by simp)))
    | (go_at_call 16; (with_reducible refine (CB.out _).mono ?_); rintro e w4 ⟨rfl, k4⟩; clear x0 x1 x2 x3 x4 x5 c0 c1 c2 c3 c4 c5))
  have HX := Lib.hid (k4.some (heap_was (o := .cells #[.int .u64 key, .int .i64 epoch, .int .i64 (serial + 1), .int .i64 size, .int .i64 t, .int .i64 n] 29) (K3.some (heap_at rfl) (by simp))) (by simp))
  have HY := Lib.hid (k4.some (heap_at rfl) (by simp))
  have KS : Hid (∀ w', Keeps [] w4 w' → (w'.cell? ⟨w1.heap.size, 0, none⟩ = some (.int .u64 key) ∧ w'.cell? ⟨w1.heap.size, 1, none⟩ = some (.int .i64 epoch) ∧ w'.cell? ⟨w1.heap.size, 2, none⟩ = some (.int .i64 (serial + 1)) ∧ w'.cell? ⟨w1.heap.size, 3, none⟩ = some (.int .i64 size) ∧ w'.cell? ⟨w1.heap.size, 4, none⟩ = some (.int .i64 t) ∧ w'.cell? ⟨w1.heap.size, 5, none⟩ = some (.int .i64 n)) ∧ w'.cell? ⟨w3.heap.size, 0, none⟩ = some (.int .u64 key) ∧ w'.cell? ⟨w3.heap.size, 1, none⟩ = some (.int .i64 epoch) ∧ w'.cell? ⟨w3.heap.size, 2, none⟩ = some (.int .i64 (serial + 1)) ∧ w'.cell? ⟨w3.heap.size, 3, none⟩ = some (.int .i64 size) ∧ w'.cell? ⟨w3.heap.size, 4, none⟩ = some (.int .i64 t) ∧ w'.cell? ⟨w3.heap.size, 5, none⟩ = some (.int .i64 n)) := fun w' k => ⟨(cells6 (k.some HX.out (by simp))).1, (cells6 (k.some HY.out (by simp))).1⟩
  have K4 : Keeps [] w4 w4.drew := (Keeps.refl [] w4).drew
  go_region_held3 (fun w' => (w'.cell? ⟨w1.heap.size, 0, none⟩ = some (.int .u64 key) ∧ w'.cell? ⟨w1.heap.size, 1, none⟩ = some (.int .i64 epoch) ∧ w'.cell? ⟨w1.heap.size, 2, none⟩ = some (.int .i64 (serial + 1)) ∧ w'.cell? ⟨w1.heap.size, 3, none⟩ = some (.int .i64 size) ∧ w'.cell? ⟨w1.heap.size, 4, none⟩ = some (.int .i64 t) ∧ w'.cell? ⟨w1.heap.size, 5, none⟩ = some (.int .i64 n)) ∧ w'.cell? ⟨w3.heap.size, 0, none⟩ = some (.int .u64 key) ∧ w'.cell? ⟨w3.heap.size, 1, none⟩ = some (.int .i64 epoch) ∧ w'.cell? ⟨w3.heap.size, 2, none⟩ = some (.int .i64 (serial + 1)) ∧ w'.cell? ⟨w3.heap.size, 3, none⟩ = some (.int .i64 size) ∧ w'.cell? ⟨w3.heap.size, 4, none⟩ = some (.int .i64 t) ∧ w'.cell? ⟨w3.heap.size, 5, none⟩ = some (.int .i64 n))
    (exact KS.out _ (by assumption))
    (first
      | (go_at_call 12; (with_reducible refine (PB.out _).mono ?_); rintro e w6 ⟨rfl, k6⟩; have k6' := KT (by assumption) k6; clear k6)
      | (go_at_call 9; (with_reducible refine (awake_any _).mono ?_); rintro e w7 ⟨rfl, k7⟩; have k7' := KT (by assumption) k7; clear k7))
  go_wp2
  go_ret
  exact ⟨rfl, KT (KT (KT (KT (KT (KT ((Keeps.refl [] W).alloc _) k1) ((Keeps.refl [] _).alloc _)) K3) ((Keeps.refl [] _).alloc _)) k4) (by assumption)⟩

theorem walk_any (s : Sup) (hg : s.good) (t n : Int) (ht0 : -9223372036854775808 ≤ t) (ht1 : t ≤ 9223372036854775807) (hn0 : -9223372036854775808 ≤ n) (hn1 : n ≤ 9223372036854775807) (W : World) :
    Calls Try.prog 4 #[s.agg, .int .i64 t, .int .i64 n] W fun e w' => e = .returned (.bool true) ∧ Keeps [] W w' := by
  by_cases hc : s.check = 0
  · by_cases h : t < s.tail ∨ n < s.number
    · exact walk_arg s hg hc t n h ht0 ht1 hn0 hn1 W
    · have hs := (check_le s hc).2.1
      have gb : (s.behind t n).good := ⟨hg.key, hg.e0, hg.e1, by show _ ≤ s.serial + 1; omega, by show s.serial + 1 ≤ _; omega, hg.z0, hg.z1, ht0, ht1, hn0, hn1⟩
      by_cases h3 : (s.behind t n).check = 0
      · exact walk_ok s hg hc t n (fun h1 => h (.inl h1)) (fun h1 => h (.inr h1)) ht0 ht1 hn0 hn1 gb h3 W
      · exact walk_none s hg hc t n (fun h1 => h (.inl h1)) (fun h1 => h (.inr h1)) ht0 ht1 hn0 hn1 gb h3 W
  · exact walk_bad s hg hc t n ht0 ht1 hn0 hn1 W
-- ROWEND
set_option maxRecDepth 100000 in
theorem lifted (os : Os) (started : os.Started) (H : Type) (enc : TypeId × Value → H) :
    ReturnsInHanded {} Try.checked os 4 .any (Rows.superNextSpec.pre6 enc Try.prog Try.f4 Rows.superNextRow.domain false) (Rows.superNextSpec.post enc Try.prog Try.f4 false true false false) := by
  refine returnsInHanded_of_change (C := Try.checked) Try.own started (by kernel_rfl) Try.func4
    (ChangeSpec.witness6 (enc := enc) (C := Try.checked) false ⟨#[], #[.agg #[.int .u64 0, .int .i64 0, .int .i64 0, .int .i64 0, .int .i64 0, .int .i64 0], .int .i64 0, .int .i64 0], []⟩ 8 (by kernel_rfl) (by kernel_rfl) (by kernel_rfl) (by kernel_rfl)) ?_
  intro W base args ds gs before hval0 hW _ _
  have hval : ∀ (j : Nat) t v, Try.f4.params[j]? = some t → args[j]? = some v → Value.okWide Try.prog W .any base t v := hval0
  have hW' := hW
  obtain ⟨p, q, hA0, hV, rfl, hfz, hnd⟩ := hW
  have hA : DataW.TrodAll enc Try.prog W 0 (fun _ => true) true Try.f4.params.toList args.toList ds p := hA0
  rw [Try.params4] at hA hval
  obtain ⟨v0, vs0, d0, ds0, p0, q0, hargs, rfl, rfl, h0, r0⟩ := trodAll_cons hA
  obtain ⟨v1, vs1, d1, ds1, p1, q1, rfl, rfl, rfl, h1, r1⟩ := trodAll_cons r0
  obtain ⟨v2, vs2, d2, ds2, p2, q2, rfl, rfl, rfl, h2, r2⟩ := trodAll_cons r1
  obtain ⟨rfl, rfl, rfl⟩ := trodAll_nil r2
  obtain rfl : args = #[v0, v1, v2] := by cases args; simp_all
  obtain ⟨cs0, n0, x0, rfl, e0⟩ := open_agg Try.underlying25 (hval 0 25 v0 rfl rfl) h0
  obtain ⟨s, c0, gs⟩ := elem_sup e0
  obtain rfl : cs0 = (s.vals).toArray := by rw [← c0]
  obtain ⟨t, rfl, rfl, rfl, wt⟩ := open_int Try.underlying3 (hval 1 3 v1 rfl rfl) h1
  obtain ⟨wt0, wt1⟩ := wf_i64 wt
  obtain ⟨n, rfl, rfl, rfl, wn⟩ := open_int Try.underlying3 (hval 2 3 v2 rfl rfl) h2
  obtain ⟨wn0, wn1⟩ := wf_i64 wn
  refine (walk_any s gs t n wt0 wt1 wn0 wn1 W).mono fun e W' ⟨he, hk⟩ => ?_
  subst he
  exact ⟨_, rfl, law_end Try.laidOut (by kernel_rfl) rfl rfl Try.underlying4 hW' rfl hk⟩

theorem proved : Rows.SuperNextSaid :=
  OpenClaim.holds_of_wide 4 Try.f4 rfl rfl rfl rfl rfl rfl rfl ⟨rfl, rfl, rfl, rfl, rfl⟩ rfl rfl rfl rfl rfl (by kernel_rfl) Try.func4 (by kernel_rfl)
    (of_decide_eq_true (by kernel_rfl)) (by unfold Func.isWrapper; first | (rw [if_pos (by decide +kernel)]; kernel_rfl) | (rw [if_neg (by decide +kernel)]; exact ⟨rfl, rfl⟩))
    (fun os started H enc _ => lifted os started H enc)
end Go.Proofs.Ytcbpkplmaglpcaa.lawSuperNext
