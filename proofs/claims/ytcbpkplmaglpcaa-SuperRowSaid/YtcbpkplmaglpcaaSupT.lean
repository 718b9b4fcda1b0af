/- Layer 11, the reference: Decode. -/
import Derived.Test.YtcbpkplmaglpcaaSupS
import Derived.Test.YtcbpkplmaglpcaaSupG
namespace Go.Proofs.Ytcbpkplmaglpcaa
open Go.RowKit

/-- A number of so many bytes, as the reference reads it. -/
def rnum (x : Nat) : Int := if 1125899906842624 < x then -1 else (x : Int)
def rsupOf (s : List UInt8) : Sup :=
  ⟨num ((s.drop 4).take 8), rnum (num ((s.drop 12).take 4)), rnum (num ((s.drop 20).take 8)), rnum (num ((s.drop 16).take 4)), rnum (num ((s.drop 28).take 8)), rnum (num ((s.drop 36).take 8))⟩

theorem rnum_small {x : Nat} (h : x < 4294967296) : rnum x = x := by unfold rnum; rw [if_neg (by omega)]
theorem rnum_snum {x : Nat} (h0 : 0 ≤ rnum x) (h1 : rnum x < 1099511627776) : rnum x = snum x := by
  unfold rnum snum at *
  split at h0 <;> split at h1 <;> omega
theorem snum_rnum {x : Nat} (h0 : 0 ≤ snum x) : rnum x = snum x := by
  unfold rnum snum at *
  split at h0 <;> omega

theorem cut60 (s : List UInt8) {a b : Nat} (h : a + b ≤ 60) : ((s.take 60).drop a).take b = (s.drop a).take b := by
  rw [List.drop_take, List.take_take, Nat.min_eq_left (by omega)]

theorem rsup_fits (s : List UInt8) : (rsupOf s).fits s = (supOf (s.take 60)).fits s ∧ ((supOf (s.take 60)).fits s = true → rsupOf s = supOf (s.take 60)) := by
  have h4 : ∀ a, num ((s.drop a).take 4) < 4294967296 := fun a => bnum_lt' (n := 4) (List.length_take_le _ _)
  have hs : supOf (s.take 60) = ⟨num ((s.drop 4).take 8), rnum (num ((s.drop 12).take 4)), snum (num ((s.drop 20).take 8)), rnum (num ((s.drop 16).take 4)), snum (num ((s.drop 28).take 8)), snum (num ((s.drop 36).take 8))⟩ := by
    unfold supOf
    rw [cut60 s (by omega), cut60 s (by omega), cut60 s (by omega), cut60 s (by omega), cut60 s (by omega), cut60 s (by omega), rnum_small (h4 12), rnum_small (h4 16)]
  have e1 : (rsupOf s).check = 0 → rsupOf s = supOf (s.take 60) := by
    intro h
    obtain ⟨_, ⟨s0, s1⟩, ⟨n0, n1⟩, _, _, t0, t1⟩ := check_le _ h
    rw [hs]
    unfold rsupOf at *
    dsimp only at *
    rw [rnum_snum s0 s1, rnum_snum n0 n1, rnum_snum t0 t1]
  have e2 : (supOf (s.take 60)).check = 0 → rsupOf s = supOf (s.take 60) := by
    intro h
    obtain ⟨_, ⟨s0, s1⟩, ⟨n0, n1⟩, _, _, t0, t1⟩ := check_le _ h
    rw [hs] at s0 n0 t0 ⊢
    unfold rsupOf
    dsimp only at *
    rw [snum_rnum s0, snum_rnum n0, snum_rnum t0]
  refine ⟨?_, fun h => e2 ?_⟩
  · by_cases h : (rsupOf s).check = 0
    · rw [e1 h]
    · by_cases h' : (supOf (s.take 60)).check = 0
      · rw [e2 h']
      · unfold Sup.fits; simp [h, h']
  · unfold Sup.fits at h
    exact (of_decide_eq_true h).1

theorem decode_sup {s : List UInt8} (h : s.length = 64) (h0 : (crcOpen s).2 = 0) : supDecode s = if (rsupOf s).fits s then (rsupOf s, 0) else (.nil, 12) := by
  have hT : crcOpen s = (s.take 60, 0) := by
    unfold crcOpen at h0 ⊢
    rw [if_neg (by omega)] at h0 ⊢
    rw [h, show 64 - 4 = 60 by rfl] at h0 ⊢
    split at h0
    · rename_i he; rw [if_pos he]
    · simp at h0
  unfold supDecode
  rw [if_neg (by simp [h]), hT, if_neg (by simp)]
  dsimp only
  obtain ⟨h1, h2⟩ := rsup_fits s
  rw [h1]
  by_cases h3 : (supOf (s.take 60)).fits s = true
  · rw [if_pos h3, if_pos h3, h2 h3]
  · rw [if_neg h3, if_neg h3]

theorem open_sum {s : List UInt8} (h : s.length = 64) : (four (crcMore 0 (s.take 60)) = s.drop 60 → (crcOpen s).2 = 0) ∧ (four (crcMore 0 (s.take 60)) ≠ s.drop 60 → (crcOpen s).2 = 13) := by
  unfold crcOpen
  rw [if_neg (by omega), h, show 64 - 4 = 60 by rfl]
  constructor
  · intro h1
    rw [if_pos (by rw [h1, List.take_append_drop])]
  · intro h1
    rw [if_neg]
    intro h2
    have h3 : s.take 60 ++ four (crcMore 0 (s.take 60)) = s.take 60 ++ s.drop 60 := by rw [h2, List.take_append_drop]
    exact h1 (List.append_cancel_left h3)

theorem refDecode_len (s : List UInt8) (w : World) (h : s.length ≠ 64) : Calls Try.prog 11 #[.string (str s)] w fun e w' => e = .returned (.tuple #[Sup.nil.agg, .int .i64 30]) ∧ Keeps [] w w' := by
  rw [nil_agg]
  have hb : ((s.length : Int) != 64) = true := by rw [bne_iff_ne]; omega
  have hRES := heap_at (w := w) (o := .cells #[.int .u64 0, .int .i64 0, .int .i64 0, .int .i64 0, .int .i64 0, .int .i64 0] 29 (0, 0)) rfl
  have HR := Lib.hid hRES
  clear hRES h
  go_enter Try.func11, Try.ntmps11
  go_wp2
  refine bodyPost_ret (results_row_tmp rfl rfl HR.out Try.underlying29 rfl (by kernel_rfl)) rfl ⟨rfl, ?_⟩
  exact (Keeps.refl [] w).alloc _

set_option maxHeartbeats 2000000 in
theorem refDecode_sum (s : List UInt8) (w : World) (h : s.length = 64) (h0 : four (crcMore 0 (s.take 60)) ≠ s.drop 60) : Calls Try.prog 11 #[.string (str s)] w fun e w' => e = .returned (.tuple #[Sup.nil.agg, .int .i64 13]) ∧ Keeps [] w w' := by
  rw [nil_agg]
  have hb : ((s.length : Int) != 64) = false := by rw [h]; rfl
  have x1 : (str s).extract 0 60 = str (s.take 60) := by rw [str_extract, str_data, List.drop_zero, Nat.sub_zero]
  have x2 : (str s).extract 60 64 = str (s.drop 60) := by rw [str_extract, str_data, List.take_of_length_le (by rw [List.length_drop]; omega)]
  have Mo := Lib.hid (fun w => refMore_any 0 (s.take 60) w (by omega) (by rw [List.length_take]; omega))
  have hX := crcMore_lt 0 (s.take 60)
  have Fo := Lib.hid (fun w => refFour_any (crcMore 0 (s.take 60)) w hX)
  have b1 : (four (crcMore 0 (s.take 60)) == s.drop 60) = false := by rw [beq_eq_false_iff_ne]; exact h0
  have b2 : (four (crcMore 0 (s.take 60)) != s.drop 60) = true := by rw [bne_iff_ne]; exact h0
  generalize crcMore 0 (s.take 60) = X at *
  generalize four X = FF at *
  generalize s.take 60 = T at *
  generalize s.drop 60 = D at *
  rw [Int.natCast_zero] at Mo
  clear h0 hX
  have K0 : Keeps [] (w.alloc (.cells #[.int .u64 0, .int .i64 0, .int .i64 0, .int .i64 0, .int .i64 0, .int .i64 0] 29)) (w.alloc (.cells #[.int .u64 0, .int .i64 0, .int .i64 0, .int .i64 0, .int .i64 0, .int .i64 0] 29)).drew := (Keeps.refl [] _).drew
  go_enter Try.func11, Try.ntmps11
  go_wp2
  go_region_held3 (fun _ => True) (trivial)
    (first
      | (go_at_call 27; (with_reducible refine (Mo.out _).mono ?_); rintro e w1 ⟨rfl, rfl⟩)
      | (go_at_call 26; (with_reducible refine (Fo.out _).mono ?_); rintro e w2 ⟨rfl, k2⟩; have k2' := KT (by assumption) k2; have HR := k2'.some (heap_at rfl) (by simp); obtain ⟨⟨d0, d1, d2, d3, d4, d5⟩, f0, f1, f2, f3, f4, f5⟩ := cells6 HR; have HRES := Lib.hid HR; clear HR))
  go_wp2
  refine bodyPost_ret (results_row_tmp rfl rfl (heap_set6 HRES.out _ _ _ _ _ _) Try.underlying29 rfl (by kernel_rfl)) rfl ⟨rfl, ?_⟩
  exact keeps_set6 (KT ((Keeps.refl [] w).alloc _) k2') (by omega) _ _ _ _ _ _

set_option maxHeartbeats 4000000 in
set_option maxRecDepth 100000 in
theorem refDecode_go (s : List UInt8) (w : World) (h : s.length = 64) (h0 : four (crcMore 0 (s.take 60)) = s.drop 60) : Calls Try.prog 11 #[.string (str s)] w fun e w' => e = .returned (.tuple #[(if (rsupOf s).fits s then (rsupOf s, (0 : Int)) else (Sup.nil, 12)).1.agg, .int .i64 (if (rsupOf s).fits s then (rsupOf s, (0 : Int)) else (Sup.nil, 12)).2]) ∧ Keeps [] w w' := by
  generalize hR : (if (rsupOf s).fits s = true then (rsupOf s, (0 : Int)) else (Sup.nil, 12)) = R
  have HR := Lib.hid hR
  clear hR
  have hb : ((s.length : Int) != 64) = false := by rw [h]; rfl
  have x1 : (str s).extract 0 60 = str (s.take 60) := by rw [str_extract, str_data, List.drop_zero, Nat.sub_zero]
  have x2 : (str s).extract 60 64 = str (s.drop 60) := by rw [str_extract, str_data, List.take_of_length_le (by rw [List.length_drop]; omega)]
  have x3 : (str s).extract 4 64 = str (s.drop 4) := by rw [str_extract, str_data, List.take_of_length_le (by rw [List.length_drop]; omega)]
  have Mo := Lib.hid (fun w => refMore_any 0 (s.take 60) w (by omega) (by rw [List.length_take]; omega))
  have hX := crcMore_lt 0 (s.take 60)
  have Fo := Lib.hid (fun w => refFour_any (crcMore 0 (s.take 60)) w hX)
  have Kn := Lib.hid (fun w => refNumber_any (str (s.drop 4)) 8 w (by rw [str_size, List.length_drop]; omega))
  have hr : rfixed (s.drop 4) 0 0 (8 : Int) = (num ((s.drop 4).take 8), 8, 0) := by
    unfold rfixed rtake
    rw [if_neg (by omega), if_neg (by simp), if_neg (by rw [List.length_drop]; show ¬ _ < 8; omega)]
    simp
  rw [str_data, hr] at Kn
  dsimp only at Kn
  clear hr
  have N1 : Hid (∀ w : World, Calls Try.prog 29 #[.string (str s), .int .i64 12, .int .i64 4] w fun e w' => e = .returned (.int .i64 (rnum (num ((s.drop 12).take 4)))) ∧ w = w') := fun w => refNumber11_any s 12 4 w (by omega) (by omega) (by omega) (by omega)
  have N2 : Hid (∀ w : World, Calls Try.prog 29 #[.string (str s), .int .i64 16, .int .i64 4] w fun e w' => e = .returned (.int .i64 (rnum (num ((s.drop 16).take 4)))) ∧ w = w') := fun w => refNumber11_any s 16 4 w (by omega) (by omega) (by omega) (by omega)
  have N3 : Hid (∀ w : World, Calls Try.prog 29 #[.string (str s), .int .i64 20, .int .i64 8] w fun e w' => e = .returned (.int .i64 (rnum (num ((s.drop 20).take 8)))) ∧ w = w') := fun w => refNumber11_any s 20 8 w (by omega) (by omega) (by omega) (by omega)
  have N4 : Hid (∀ w : World, Calls Try.prog 29 #[.string (str s), .int .i64 28, .int .i64 8] w fun e w' => e = .returned (.int .i64 (rnum (num ((s.drop 28).take 8)))) ∧ w = w') := fun w => refNumber11_any s 28 8 w (by omega) (by omega) (by omega) (by omega)
  have N5 : Hid (∀ w : World, Calls Try.prog 29 #[.string (str s), .int .i64 36, .int .i64 8] w fun e w' => e = .returned (.int .i64 (rnum (num ((s.drop 36).take 8)))) ∧ w = w') := fun w => refNumber11_any s 36 8 w (by omega) (by omega) (by omega) (by omega)
  have rb : ∀ a n, n ≤ 8 → -1 ≤ rnum (num ((s.drop a).take n)) ∧ rnum (num ((s.drop a).take n)) ≤ 1125899906842624 := by
    intro a n _
    unfold rnum
    split <;> omega
  have r1 := rb 12 4 (by omega)
  have r2 := rb 16 4 (by omega)
  have r3 := rb 20 8 (by omega)
  have r4 := rb 28 8 (by omega)
  have r5 := rb 36 8 (by omega)
  have hK : num ((s.drop 4).take 8) < 18446744073709551616 := bnum_lt' (n := 8) (List.length_take_le _ _)
  have hq : rsupOf s = ⟨num ((s.drop 4).take 8), rnum (num ((s.drop 12).take 4)), rnum (num ((s.drop 20).take 8)), rnum (num ((s.drop 16).take 4)), rnum (num ((s.drop 28).take 8)), rnum (num ((s.drop 36).take 8))⟩ := rfl
  clear rb
  generalize num ((s.drop 4).take 8) = key at *
  generalize rnum (num ((s.drop 12).take 4)) = A4 at *
  generalize rnum (num ((s.drop 16).take 4)) = C4 at *
  generalize rnum (num ((s.drop 20).take 8)) = S1 at *
  generalize rnum (num ((s.drop 28).take 8)) = S2 at *
  generalize rnum (num ((s.drop 36).take 8)) = S3 at *
  have hg : (⟨key, A4, S1, C4, S2, S3⟩ : Sup).good := ⟨hK, by show _ ≤ A4; omega, by show A4 ≤ _; omega, by show _ ≤ S1; omega, by show S1 ≤ _; omega, by show _ ≤ C4; omega, by show C4 ≤ _; omega, by show _ ≤ S2; omega, by show S2 ≤ _; omega, by show _ ≤ S3; omega, by show S3 ≤ _; omega⟩
  rw [h0] at Fo
  generalize hD60 : s.drop 60 = D at *
  generalize crcMore 0 (s.take 60) = X at *
  generalize s.take 60 = T at *
  generalize s.drop 4 = D4 at *
  rw [Int.natCast_zero] at Mo
  have Hck := Lib.hid (fun w => refCheck_any ⟨key, A4, S1, C4, S2, S3⟩ hg w)
  unfold Sup.agg at Hck
  dsimp only at Hck
  clear h0 hX hD60 hg r1 r2 r3 r4 r5
  have K0 : Keeps [] (w.alloc (.cells #[.int .u64 0, .int .i64 0, .int .i64 0, .int .i64 0, .int .i64 0, .int .i64 0] 29)) (w.alloc (.cells #[.int .u64 0, .int .i64 0, .int .i64 0, .int .i64 0, .int .i64 0, .int .i64 0] 29)).drew := (Keeps.refl [] _).drew
  go_enter Try.func11, Try.ntmps11
  go_wp2
  go_region_held3 (fun _ => True) (trivial)
    (first
      | (go_at_call 27; (with_reducible refine (Mo.out _).mono ?_); rintro e w1 ⟨rfl, rfl⟩)
      | (go_at_call 26; (with_reducible refine (Fo.out _).mono ?_); rintro e w2 ⟨rfl, k2⟩; have k2' := KT (by assumption) k2; have HR2 := k2'.some (heap_at rfl) (by simp); obtain ⟨⟨d0, d1, d2, d3, d4, d5⟩, f0, f1, f2, f3, f4, f5⟩ := cells6 HR2; have HRES := Lib.hid HR2; clear HR2))
  by_cases hc : (⟨key, A4, S1, C4, S2, S3⟩ : Sup).check = 0
  · have Hse := Lib.hid (fun w => refSector_any ⟨key, A4, S1, C4, S2, S3⟩ hK hc w)
    unfold Sup.agg at Hse
    dsimp only at Hse
    rw [hc] at Hck
    by_cases hf : (⟨key, A4, S1, C4, S2, S3⟩ : Sup).sector = s
    · have hR : R = (⟨key, A4, S1, C4, S2, S3⟩, 0) := by rw [← HR.out, hq, if_pos (by unfold Sup.fits; exact decide_eq_true ⟨hc, hf⟩)]
      subst hR
      rw [hf] at Hse
      clear hc hf hq hK HR
      go_wp2_with (first
        | (go_at_call 28; (with_reducible refine (Kn.out _).mono ?_); rintro e w5 ⟨rfl, rfl⟩)
        | (go_at_call 29; (with_reducible refine (N1.out _).mono ?_); rintro e w5 ⟨rfl, rfl⟩)
        | (go_at_call 29; (with_reducible refine (N2.out _).mono ?_); rintro e w5 ⟨rfl, rfl⟩)
        | (go_at_call 29; (with_reducible refine (N3.out _).mono ?_); rintro e w5 ⟨rfl, rfl⟩)
        | (go_at_call 29; (with_reducible refine (N4.out _).mono ?_); rintro e w5 ⟨rfl, rfl⟩)
        | (go_at_call 29; (with_reducible refine (N5.out _).mono ?_); rintro e w5 ⟨rfl, rfl⟩)
        | (go_at_call 16; (with_reducible refine (Hck.out _).mono ?_); rintro e w6 ⟨rfl, k6⟩; clear d0 d1 d2 d3 d4 d5 f0 f1 f2 f3 f4 f5; obtain ⟨⟨c0, c1, c2, c3, c4, c5⟩, _⟩ := cells6 (k6.some (heap_at rfl) (by simp)); obtain ⟨⟨d0, d1, d2, d3, d4, d5⟩, f0, f1, f2, f3, f4, f5⟩ := cells6 (k6.some (heap_was HRES.out) (by simp)))
        | (go_at_call 19; (with_reducible refine (Hse.out _).mono ?_); rintro e w7 ⟨rfl, k7⟩; clear c0 c1 c2 c3 c4 c5 d0 d1 d2 d3 d4 d5 f0 f1 f2 f3 f4 f5; obtain ⟨⟨c0, c1, c2, c3, c4, c5⟩, _⟩ := cells6 ((KT k6 k7).some (heap_at rfl) (by simp)); obtain ⟨⟨d0, d1, d2, d3, d4, d5⟩, f0, f1, f2, f3, f4, f5⟩ := cells6 ((KT k6 k7).some (heap_was HRES.out) (by simp))))
      refine bodyPost_ret (results_row_tmp rfl rfl (heap_set6 ((KT k6 k7).some (heap_was HRES.out) (by simp)) _ _ _ _ _ _) Try.underlying29 rfl (by kernel_rfl)) rfl ⟨rfl, ?_⟩
      exact keeps_set6 (KT ((KT ((Keeps.refl [] w).alloc _) k2').alloc _) (KT k6 k7)) (by omega) _ _ _ _ _ _
    · have hR : R = (Sup.nil, 12) := by rw [← HR.out, hq, if_neg (by unfold Sup.fits; simp [hf])]
      subst hR
      have hb1 : ((⟨key, A4, S1, C4, S2, S3⟩ : Sup).sector == s) = false := by rw [beq_eq_false_iff_ne]; exact hf
      have hb2 : ((⟨key, A4, S1, C4, S2, S3⟩ : Sup).sector != s) = true := by rw [bne_iff_ne]; exact hf
      generalize (⟨key, A4, S1, C4, S2, S3⟩ : Sup).sector = SE at *
      clear hc hf hq hK HR
      go_wp2_with (first
        | (go_at_call 28; (with_reducible refine (Kn.out _).mono ?_); rintro e w5 ⟨rfl, rfl⟩)
        | (go_at_call 29; (with_reducible refine (N1.out _).mono ?_); rintro e w5 ⟨rfl, rfl⟩)
        | (go_at_call 29; (with_reducible refine (N2.out _).mono ?_); rintro e w5 ⟨rfl, rfl⟩)
        | (go_at_call 29; (with_reducible refine (N3.out _).mono ?_); rintro e w5 ⟨rfl, rfl⟩)
        | (go_at_call 29; (with_reducible refine (N4.out _).mono ?_); rintro e w5 ⟨rfl, rfl⟩)
        | (go_at_call 29; (with_reducible refine (N5.out _).mono ?_); rintro e w5 ⟨rfl, rfl⟩)
        | (go_at_call 16; (with_reducible refine (Hck.out _).mono ?_); rintro e w6 ⟨rfl, k6⟩; clear d0 d1 d2 d3 d4 d5 f0 f1 f2 f3 f4 f5; obtain ⟨⟨c0, c1, c2, c3, c4, c5⟩, _⟩ := cells6 (k6.some (heap_at rfl) (by simp)); obtain ⟨⟨d0, d1, d2, d3, d4, d5⟩, f0, f1, f2, f3, f4, f5⟩ := cells6 (k6.some (heap_was HRES.out) (by simp)))
        | (go_at_call 19; (with_reducible refine (Hse.out _).mono ?_); rintro e w7 ⟨rfl, k7⟩; clear c0 c1 c2 c3 c4 c5 d0 d1 d2 d3 d4 d5 f0 f1 f2 f3 f4 f5; obtain ⟨⟨c0, c1, c2, c3, c4, c5⟩, _⟩ := cells6 ((KT k6 k7).some (heap_at rfl) (by simp)); obtain ⟨⟨d0, d1, d2, d3, d4, d5⟩, f0, f1, f2, f3, f4, f5⟩ := cells6 ((KT k6 k7).some (heap_was HRES.out) (by simp))))
      refine bodyPost_ret (results_row_tmp rfl rfl (heap_set6 ((KT k6 k7).some (heap_was HRES.out) (by simp)) _ _ _ _ _ _) Try.underlying29 rfl (by kernel_rfl)) rfl ⟨rfl, ?_⟩
      exact keeps_set6 (KT ((KT ((Keeps.refl [] w).alloc _) k2').alloc _) (KT k6 k7)) (by omega) _ _ _ _ _ _
  · have hR : R = (Sup.nil, 12) := by rw [← HR.out, hq, if_neg (by unfold Sup.fits; simp [hc])]
    subst hR
    have hb1 : ((⟨key, A4, S1, C4, S2, S3⟩ : Sup).check != 0) = true := by rw [bne_iff_ne]; exact hc
    generalize (⟨key, A4, S1, C4, S2, S3⟩ : Sup).check = CK at *
    clear hc hq hK HR
    go_wp2_with (first
        | (go_at_call 28; (with_reducible refine (Kn.out _).mono ?_); rintro e w5 ⟨rfl, rfl⟩)
        | (go_at_call 29; (with_reducible refine (N1.out _).mono ?_); rintro e w5 ⟨rfl, rfl⟩)
        | (go_at_call 29; (with_reducible refine (N2.out _).mono ?_); rintro e w5 ⟨rfl, rfl⟩)
        | (go_at_call 29; (with_reducible refine (N3.out _).mono ?_); rintro e w5 ⟨rfl, rfl⟩)
        | (go_at_call 29; (with_reducible refine (N4.out _).mono ?_); rintro e w5 ⟨rfl, rfl⟩)
        | (go_at_call 29; (with_reducible refine (N5.out _).mono ?_); rintro e w5 ⟨rfl, rfl⟩)
        | (go_at_call 16; (with_reducible refine (Hck.out _).mono ?_); rintro e w6 ⟨rfl, k6⟩; clear d0 d1 d2 d3 d4 d5 f0 f1 f2 f3 f4 f5; obtain ⟨⟨c0, c1, c2, c3, c4, c5⟩, _⟩ := cells6 (k6.some (heap_at rfl) (by simp)); obtain ⟨⟨d0, d1, d2, d3, d4, d5⟩, f0, f1, f2, f3, f4, f5⟩ := cells6 (k6.some (heap_was HRES.out) (by simp))))
    refine bodyPost_ret (results_row_tmp rfl rfl (heap_set6 (k6.some (heap_was HRES.out) (by simp)) _ _ _ _ _ _) Try.underlying29 rfl (by kernel_rfl)) rfl ⟨rfl, ?_⟩
    exact keeps_set6 (KT ((KT ((Keeps.refl [] w).alloc _) k2').alloc _) k6) (by omega) _ _ _ _ _ _

theorem refDecode_any (s : List UInt8) (w : World) : Calls Try.prog 11 #[.string (str s)] w fun e w' => e = .returned (.tuple #[(supDecode s).1.agg, .int .i64 (supDecode s).2]) ∧ Keeps [] w w' := by
  by_cases h : s.length = 64
  · by_cases h0 : four (crcMore 0 (s.take 60)) = s.drop 60
    · rw [decode_sup h ((open_sum h).1 h0)]
      exact refDecode_go s w h h0
    · have hd : supDecode s = (.nil, 13) := by unfold supDecode; rw [if_neg (by simp [h]), (open_sum h).2 h0]; rfl
      rw [hd]
      exact refDecode_sum s w h h0
  · have hd : supDecode s = (.nil, 30) := by unfold supDecode; rw [if_pos h]
    rw [hd]
    exact refDecode_len s w h
end Go.Proofs.Ytcbpkplmaglpcaa
