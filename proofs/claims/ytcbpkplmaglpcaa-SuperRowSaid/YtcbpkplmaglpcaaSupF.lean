/- Layer 11: Encode, Next. -/
import Derived.Test.YtcbpkplmaglpcaaSupE
namespace Go.Proofs.Ytcbpkplmaglpcaa
open Go.RowKit

theorem nil_agg : Sup.nil.agg = .agg #[.int .u64 0, .int .i64 0, .int .i64 0, .int .i64 0, .int .i64 0, .int .i64 0] := rfl

/-- One as a sector, or what is wrong. -/
def Sup.encode (s : Sup) : List UInt8 × Int := if s.check = 0 then (s.sector, 0) else ([], s.check)

set_option maxHeartbeats 1000000 in
theorem encode_any (s : Sup) (hg : s.good) (w : World) : Calls Try.prog 17 #[s.agg] w fun e w' => e = .returned (.tuple #[.string (str s.encode.1), .int .i64 s.encode.2]) ∧ Keeps [] w w' := by
  have Hc := Lib.hid (fun w => check_any s hg w)
  by_cases h0 : s.check = 0
  · have hr : s.encode = (s.sector, 0) := if_pos h0
    rw [hr]
    have Hs := Lib.hid (fun w => sector_any s hg.key h0 w)
    rw [h0] at Hc
    clear h0 hr hg
    generalize s.sector = T at *
    obtain ⟨key, epoch, serial, size, tail, number⟩ := s
    unfold Sup.agg at *
    dsimp only at *
    go_enter Try.func17, Try.ntmps17
    go_wp2_with (first
      | (go_at_call 18; (with_reducible refine (Hc.out _).mono ?_); rintro e w1 ⟨rfl, k1⟩; obtain ⟨⟨c0, c1, c2, c3, c4, c5⟩, _⟩ := cells6 (k1.some (heap_at rfl) (by simp)))
      | (go_at_call 25; (with_reducible refine (Hs.out _).mono ?_); rintro e w2 ⟨rfl, k2⟩))
    go_ret2
    exact ⟨rfl, KT ((Keeps.refl [] w).alloc _) (KT k1 k2)⟩
  · have hr : s.encode = ([], s.check) := if_neg h0
    rw [hr]
    have hb : (s.check != 0) = true := by rw [bne_iff_ne]; exact h0
    clear h0 hr hg
    generalize s.check = c at *
    obtain ⟨key, epoch, serial, size, tail, number⟩ := s
    unfold Sup.agg at *
    dsimp only at *
    go_enter Try.func17, Try.ntmps17
    go_wp2_with (first
      | (go_at_call 18; (with_reducible refine (Hc.out _).mono ?_); rintro e w1 ⟨rfl, k1⟩))
    go_ret2
    exact ⟨rfl, KT ((Keeps.refl [] w).alloc _) k1⟩

theorem heap_set245 {w : World} {b : Nat} {a0 a1 a2 a3 a4 a5 : Value} {t : TypeId} (h : w.heap[b]? = some (.cells #[a0, a1, a2, a3, a4, a5] t (0, 0))) (v2 v4 v5 : Value) :
    (((w.setCell ⟨b, 2, none⟩ v2).setCell ⟨b, 4, none⟩ v4).setCell ⟨b, 5, none⟩ v5).heap[b]? = some (.cells #[a0, a1, v2, a3, v4, v5] t (0, 0)) :=
  heap_setCell (heap_setCell (heap_setCell h 2 v2) 4 v4) 5 v5
/-- What the two blocks hold behind the stores and the second call. -/
theorem two_next {w1 w2 : World} {b c : Nat} {a0 a1 a2 a3 a4 a5 v2 v4 v5 : Value} {t : TypeId} {x : Obj} (hA : w1.heap[b]? = some (.cells #[a0, a1, a2, a3, a4, a5] t (0, 0))) (hR : w1.heap[c]? = some x) (hne : c ≠ b)
    (k : Keeps [] (((w1.setCell ⟨b, 2, none⟩ v2).setCell ⟨b, 4, none⟩ v4).setCell ⟨b, 5, none⟩ v5) w2) : w2.heap[b]? = some (.cells #[a0, a1, v2, a3, v4, v5] t (0, 0)) ∧ w2.heap[c]? = some x :=
  ⟨k.some (heap_set245 hA v2 v4 v5) (by simp), k.some (heap_ne (heap_ne (heap_ne hR hne) hne) hne) (by simp)⟩

/-- The one behind another one. -/
def Sup.behind (s : Sup) (t n : Int) : Sup := ⟨s.key, s.epoch, s.serial + 1, s.size, t, n⟩
def Sup.next (s : Sup) (t n : Int) : Sup × Int :=
  if s.check ≠ 0 then (.nil, s.check) else if t < s.tail ∨ n < s.number then (.nil, 1) else if (s.behind t n).check ≠ 0 then (.nil, (s.behind t n).check) else (s.behind t n, 0)

theorem next_bad (s : Sup) (hg : s.good) (t n : Int) (w : World) (h0 : ¬ s.check = 0) : Calls Try.prog 15 #[s.agg, .int .i64 t, .int .i64 n] w fun e w' => e = .returned (.tuple #[Sup.nil.agg, .int .i64 s.check]) ∧ Keeps [] w w' := by
  have Hc := Lib.hid (fun w => check_any s hg w)
  have hb : (s.check != 0) = true := by rw [bne_iff_ne]; exact h0
  rw [nil_agg]
  clear h0 hg
  generalize s.check = c at *
  obtain ⟨key, epoch, serial, size, tail, number⟩ := s
  unfold Sup.agg at *
  dsimp only at *
  go_enter Try.func15, Try.ntmps15
  go_wp2_with (first
    | (go_at_call 18; (with_reducible refine (Hc.out _).mono ?_); rintro e w1 ⟨rfl, k1⟩; obtain ⟨hA, hRES⟩ := two_new k1; obtain ⟨⟨c0, c1, c2, c3, c4, c5⟩, f0, f1, f2, f3, f4, f5⟩ := cells6 hA; obtain ⟨⟨d0, d1, d2, d3, d4, d5⟩, g0, g1, g2, g3, g4, g5⟩ := cells6 hRES; have hz1 := k1.size; simp at hz1))
  refine bodyPost_ret (results_row_tmp rfl rfl (heap_set6 hRES _ _ _ _ _ _) Try.underlying25 rfl (by kernel_rfl)) rfl ⟨rfl, ?_⟩
  refine keeps_set6 ?_ (by omega) _ _ _ _ _ _
  exact KT (((Keeps.refl [] w).alloc _).alloc _) k1

set_option maxHeartbeats 1000000 in
theorem next_arg (s : Sup) (hg : s.good) (t n : Int) (w : World) (h0 : s.check = 0) (h1 : t < s.tail ∨ n < s.number) : Calls Try.prog 15 #[s.agg, .int .i64 t, .int .i64 n] w fun e w' => e = .returned (.tuple #[Sup.nil.agg, .int .i64 1]) ∧ Keeps [] w w' := by
  have Hc := Lib.hid (fun w => check_any s hg w)
  rw [nil_agg]
  rw [h0] at Hc
  clear hg h0
  obtain ⟨key, epoch, serial, size, tail, number⟩ := s
  unfold Sup.agg at *
  dsimp only at *
  rcases (show t < tail ∨ ¬ t < tail ∧ n < number by omega) with h | ⟨h, h2⟩
  all_goals
    clear h1
    go_enter Try.func15, Try.ntmps15
    go_wp2_with (first
      | (go_at_call 18; (with_reducible refine (Hc.out _).mono ?_); rintro e w1 ⟨rfl, k1⟩; obtain ⟨hA, hRES⟩ := two_new k1; obtain ⟨⟨c0, c1, c2, c3, c4, c5⟩, f0, f1, f2, f3, f4, f5⟩ := cells6 hA; obtain ⟨⟨d0, d1, d2, d3, d4, d5⟩, g0, g1, g2, g3, g4, g5⟩ := cells6 hRES; have hz1 := k1.size; simp at hz1))
    refine bodyPost_ret (results_row_tmp rfl rfl (heap_set6 hRES _ _ _ _ _ _) Try.underlying25 rfl (by kernel_rfl)) rfl ⟨rfl, ?_⟩
    refine keeps_set6 ?_ (by omega) _ _ _ _ _ _
    exact KT (((Keeps.refl [] w).alloc _).alloc _) k1

set_option maxHeartbeats 2000000 in
theorem next_go (s : Sup) (hg : s.good) (t n : Int) (ht0 : -9223372036854775808 ≤ t) (ht1 : t ≤ 9223372036854775807) (hn0 : -9223372036854775808 ≤ n) (hn1 : n ≤ 9223372036854775807) (w : World) (h0 : s.check = 0) (h1 : ¬ (t < s.tail ∨ n < s.number)) :
    Calls Try.prog 15 #[s.agg, .int .i64 t, .int .i64 n] w fun e w' => e = .returned (.tuple #[(if (s.behind t n).check ≠ 0 then Sup.nil else s.behind t n).agg, .int .i64 (s.behind t n).check]) ∧ Keeps [] w w' := by
  have Hc := Lib.hid (fun w => check_any s hg w)
  have hs := (check_le s h0).2.1
  have gb : (s.behind t n).good := ⟨hg.key, hg.e0, hg.e1, by show _ ≤ s.serial + 1; omega, by show s.serial + 1 ≤ _; omega, hg.z0, hg.z1, ht0, ht1, hn0, hn1⟩
  have Hb := Lib.hid (fun w => check_any (s.behind t n) gb w)
  rw [h0] at Hc
  clear hg gb h0
  have g1 : ¬ t < s.tail := fun h => h1 (.inl h)
  have g2 : ¬ n < s.number := fun h => h1 (.inr h)
  clear h1
  by_cases hbc : (s.behind t n).check = 0
  · rw [if_neg (by simp [hbc])]
    rw [hbc] at Hb ⊢
    clear hbc
    obtain ⟨key, epoch, serial, size, tail, number⟩ := s
    unfold Sup.behind Sup.agg at *
    dsimp only at *
    go_enter Try.func15, Try.ntmps15
    go_wp2_with (first
      | (go_at_call 18; (with_reducible refine (Hc.out _).mono ?_); rintro e w1 ⟨rfl, k1⟩; obtain ⟨hA, hRES⟩ := two_new k1; obtain ⟨⟨c0, c1, c2, c3, c4, c5⟩, f0, f1, f2, f3, f4, f5⟩ := cells6 hA; obtain ⟨⟨d0, d1, d2, d3, d4, d5⟩, g0, g1, g2, g3, g4, g5⟩ := cells6 hRES; have hz1 := k1.size; simp at hz1)
      | (go_at_call 18; (with_reducible refine (Hb.out _).mono ?_); rintro e w2 ⟨rfl, k2⟩; obtain ⟨hA2, hRES2⟩ := two_next hA hRES (by omega) k2; clear c0 c1 c2 c3 c4 c5 f0 f1 f2 f3 f4 f5 d0 d1 d2 d3 d4 d5 g0 g1 g2 g3 g4 g5; obtain ⟨⟨c0, c1, c2, c3, c4, c5⟩, f0, f1, f2, f3, f4, f5⟩ := cells6 hA2; obtain ⟨⟨d0, d1, d2, d3, d4, d5⟩, g0, g1, g2, g3, g4, g5⟩ := cells6 hRES2; have hz2 := k2.size; simp at hz2))
    refine bodyPost_ret (results_row_tmp rfl rfl (heap_set6 hRES2 _ _ _ _ _ _) Try.underlying25 rfl (by kernel_rfl)) rfl ⟨rfl, ?_⟩
    refine keeps_set6 ?_ (by omega) _ _ _ _ _ _
    exact KT ((((KT (((Keeps.refl [] w).alloc _).alloc _) k1).setK _ _ _ (by omega)).setK _ _ _ (by omega)).setK _ _ _ (by omega)) k2
  · rw [if_pos hbc, nil_agg]
    have hb : ((s.behind t n).check != 0) = true := by rw [bne_iff_ne]; exact hbc
    generalize (s.behind t n).check = c at *
    clear hbc
    obtain ⟨key, epoch, serial, size, tail, number⟩ := s
    unfold Sup.behind Sup.agg at *
    dsimp only at *
    go_enter Try.func15, Try.ntmps15
    go_wp2_with (first
      | (go_at_call 18; (with_reducible refine (Hc.out _).mono ?_); rintro e w1 ⟨rfl, k1⟩; obtain ⟨hA, hRES⟩ := two_new k1; obtain ⟨⟨c0, c1, c2, c3, c4, c5⟩, f0, f1, f2, f3, f4, f5⟩ := cells6 hA; obtain ⟨⟨d0, d1, d2, d3, d4, d5⟩, g0, g1, g2, g3, g4, g5⟩ := cells6 hRES; have hz1 := k1.size; simp at hz1)
      | (go_at_call 18; (with_reducible refine (Hb.out _).mono ?_); rintro e w2 ⟨rfl, k2⟩; obtain ⟨hA2, hRES2⟩ := two_next hA hRES (by omega) k2; clear c0 c1 c2 c3 c4 c5 f0 f1 f2 f3 f4 f5 d0 d1 d2 d3 d4 d5 g0 g1 g2 g3 g4 g5; obtain ⟨⟨c0, c1, c2, c3, c4, c5⟩, f0, f1, f2, f3, f4, f5⟩ := cells6 hA2; obtain ⟨⟨d0, d1, d2, d3, d4, d5⟩, g0, g1, g2, g3, g4, g5⟩ := cells6 hRES2; have hz2 := k2.size; simp at hz2))
    refine bodyPost_ret (results_row_tmp rfl rfl (heap_set6 hRES2 _ _ _ _ _ _) Try.underlying25 rfl (by kernel_rfl)) rfl ⟨rfl, ?_⟩
    refine keeps_set6 ?_ (by omega) _ _ _ _ _ _
    exact KT ((((KT (((Keeps.refl [] w).alloc _).alloc _) k1).setK _ _ _ (by omega)).setK _ _ _ (by omega)).setK _ _ _ (by omega)) k2

theorem next_any (s : Sup) (hg : s.good) (t n : Int) (ht0 : -9223372036854775808 ≤ t) (ht1 : t ≤ 9223372036854775807) (hn0 : -9223372036854775808 ≤ n) (hn1 : n ≤ 9223372036854775807) (w : World) :
    Calls Try.prog 15 #[s.agg, .int .i64 t, .int .i64 n] w fun e w' => e = .returned (.tuple #[(s.next t n).1.agg, .int .i64 (s.next t n).2]) ∧ Keeps [] w w' := by
  unfold Sup.next
  by_cases h0 : s.check = 0
  · rw [if_neg (by simp [h0])]
    by_cases h1 : t < s.tail ∨ n < s.number
    · rw [if_pos h1]
      exact next_arg s hg t n w h0 h1
    · rw [if_neg h1]
      have h := next_go s hg t n ht0 ht1 hn0 hn1 w h0 h1
      by_cases h2 : (s.behind t n).check = 0
      · rw [if_neg (by simp [h2])] at h ⊢
        rwa [h2] at h
      · rw [if_pos h2] at h ⊢
        exact h
  · rw [if_pos h0]
    exact next_bad s hg t n w h0
end Go.Proofs.Ytcbpkplmaglpcaa
