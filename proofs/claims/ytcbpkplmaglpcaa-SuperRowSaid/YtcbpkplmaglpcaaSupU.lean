/- Layer 11, the reference: Pick. -/
import Derived.Test.YtcbpkplmaglpcaaSupT
import Derived.Test.YtcbpkplmaglpcaaSupH
namespace Go.Proofs.Ytcbpkplmaglpcaa
open Go.RowKit

theorem decode_serial {t : List UInt8} (h : (supDecode t).2 = 0) : 0 ≤ (supDecode t).1.serial := (check_le _ (decode_ok h).1).2.1.1

theorem pick_pick (a b : List UInt8) : pickAt a b 2 = supPick a b := by
  show pickOne 1 (supDecode b) (pickOne 0 (supDecode a) (.nil, 0, 15)) = _
  unfold supPick pickOne pickNo
  generalize supDecode a = X
  generalize supDecode b = Y
  obtain ⟨x, xe⟩ := X
  obtain ⟨y, ye⟩ := Y
  dsimp only
  by_cases h1 : xe = 0 <;> by_cases h2 : x.serial % 2 = 0 <;> by_cases h3 : ye = 0 <;> by_cases h4 : y.serial % 2 = 1 <;> by_cases h5 : y.serial < x.serial <;> simp [h1, h2, h3, h4, h5]

set_option maxHeartbeats 4000000 in
set_option maxRecDepth 100000 in
theorem refPick_any (a b : List UInt8) (w : World) : Calls Try.prog 14 #[.string (str a), .string (str b)] w fun e w' => e = .returned (.tuple #[(supPick a b).1.agg, .int .i64 (supPick a b).2.1, .int .i64 (supPick a b).2.2]) ∧ Keeps [] w w' := by
  unfold supPick
  have hx := decode_serial (t := a)
  have hy := decode_serial (t := b)
  have Da := Lib.hid (fun w => refDecode_any a w)
  have Db := Lib.hid (fun w => refDecode_any b w)
  generalize supDecode a = X at *
  generalize supDecode b = Y at *
  obtain ⟨x, xe⟩ := X
  obtain ⟨y, ye⟩ := Y
  unfold Sup.agg at Da Db
  dsimp only at *
  rcases (show (xe = 0 ∧ x.serial % 2 = 0) ∨ (xe = 0 ∧ ¬ x.serial % 2 = 0) ∨ ¬ xe = 0 by omega) with ⟨rfl, p1⟩ | ⟨rfl, p1⟩ | p1
  · have h0 := hx rfl
    have b1 : (x.serial % 2 == 0) = true := by rw [beq_iff_eq]; exact p1
    rcases (show (ye = 0 ∧ y.serial % 2 = 1) ∨ (ye = 0 ∧ ¬ y.serial % 2 = 1) ∨ ¬ ye = 0 by omega) with ⟨rfl, p2⟩ | ⟨rfl, p2⟩ | p2
    · have h1 := hy rfl
      have b2 : (y.serial % 2 == 1) = true := by rw [beq_iff_eq]; exact p2
      by_cases h5 : y.serial < x.serial
      · rw [if_pos (by simp [p1, p2, h5])]
        clear hx hy p1 p2
        go_enter Try.func14, Try.ntmps14
        go_wp2_with (first
          | (go_at_call 11; (with_reducible refine (Da.out _).mono ?_); rintro e1 w1 ⟨rfl, k1⟩)
          | (go_at_call 11; (with_reducible refine (Db.out _).mono ?_); rintro e2 w2 ⟨rfl, k2⟩; obtain ⟨⟨c0, c1, c2, c3, c4, c5⟩, _⟩ := cells6_was (k2.some (heap_at rfl) (by simp)); have HR := k2.some (heap_was (k1.some (heap_at rfl) (by simp))) (by simp); obtain ⟨⟨d0, d1, d2, d3, d4, d5⟩, f0, f1, f2, f3, f4, f5⟩ := cells6_was HR; have HRES := Lib.hid (heap_was (o := .cells #[.int .u64 y.key, .int .i64 y.epoch, .int .i64 y.serial, .int .i64 y.size, .int .i64 y.tail, .int .i64 y.number] 29) HR); clear HR; have k2' := KT (KT (KT ((Keeps.refl [] w).alloc _) k1) ((Keeps.refl [] _).alloc _)) k2))
        refine bodyPost_ret (results_row_tmp2 rfl rfl (heap_set6 HRES.out _ _ _ _ _ _) Try.underlying29 rfl (by kernel_rfl)) rfl ⟨rfl, ?_⟩
        exact keeps_set6 (k2'.alloc _) (by omega) _ _ _ _ _ _
      · rw [if_neg (by simp [p1, p2, h5]), if_pos (by simp [p2])]
        clear hx hy p1 p2
        go_enter Try.func14, Try.ntmps14
        go_wp2_with (first
          | (go_at_call 11; (with_reducible refine (Da.out _).mono ?_); rintro e1 w1 ⟨rfl, k1⟩)
          | (go_at_call 11; (with_reducible refine (Db.out _).mono ?_); rintro e2 w2 ⟨rfl, k2⟩; obtain ⟨⟨c0, c1, c2, c3, c4, c5⟩, _⟩ := cells6_was (k2.some (heap_at rfl) (by simp)); have HR := k2.some (heap_was (k1.some (heap_at rfl) (by simp))) (by simp); obtain ⟨⟨d0, d1, d2, d3, d4, d5⟩, f0, f1, f2, f3, f4, f5⟩ := cells6_was HR; have HRES := Lib.hid (heap_was (o := .cells #[.int .u64 y.key, .int .i64 y.epoch, .int .i64 y.serial, .int .i64 y.size, .int .i64 y.tail, .int .i64 y.number] 29) HR); clear HR; have k2' := KT (KT (KT ((Keeps.refl [] w).alloc _) k1) ((Keeps.refl [] _).alloc _)) k2))
        refine bodyPost_ret (results_row_tmp2 rfl rfl (heap_set6 HRES.out _ _ _ _ _ _) Try.underlying29 rfl (by kernel_rfl)) rfl ⟨rfl, ?_⟩
        exact keeps_set6 (k2'.alloc _) (by omega) _ _ _ _ _ _
    · have h1 := hy rfl
      have b2 : (y.serial % 2 == 1) = false := by rw [beq_eq_false_iff_ne]; exact p2
      rw [if_pos (by simp [p1, p2])]
      clear hx hy p1 p2
      go_enter Try.func14, Try.ntmps14
      go_wp2_with (first
        | (go_at_call 11; (with_reducible refine (Da.out _).mono ?_); rintro e1 w1 ⟨rfl, k1⟩)
        | (go_at_call 11; (with_reducible refine (Db.out _).mono ?_); rintro e2 w2 ⟨rfl, k2⟩; obtain ⟨⟨c0, c1, c2, c3, c4, c5⟩, _⟩ := cells6_was (k2.some (heap_at rfl) (by simp)); have HR := k2.some (heap_was (k1.some (heap_at rfl) (by simp))) (by simp); obtain ⟨⟨d0, d1, d2, d3, d4, d5⟩, f0, f1, f2, f3, f4, f5⟩ := cells6_was HR; have HRES := Lib.hid (heap_was (o := .cells #[.int .u64 y.key, .int .i64 y.epoch, .int .i64 y.serial, .int .i64 y.size, .int .i64 y.tail, .int .i64 y.number] 29) HR); clear HR; have k2' := KT (KT (KT ((Keeps.refl [] w).alloc _) k1) ((Keeps.refl [] _).alloc _)) k2))
      refine bodyPost_ret (results_row_tmp2 rfl rfl (heap_set6 HRES.out _ _ _ _ _ _) Try.underlying29 rfl (by kernel_rfl)) rfl ⟨rfl, ?_⟩
      exact keeps_set6 (k2'.alloc _) (by omega) _ _ _ _ _ _
    · have b2 : (ye == 0) = false := by rw [beq_eq_false_iff_ne]; exact p2
      rw [if_pos (by simp [p1, p2])]
      clear hx hy p1 p2
      go_enter Try.func14, Try.ntmps14
      go_wp2_with (first
        | (go_at_call 11; (with_reducible refine (Da.out _).mono ?_); rintro e1 w1 ⟨rfl, k1⟩)
        | (go_at_call 11; (with_reducible refine (Db.out _).mono ?_); rintro e2 w2 ⟨rfl, k2⟩; obtain ⟨⟨c0, c1, c2, c3, c4, c5⟩, _⟩ := cells6_was (k2.some (heap_at rfl) (by simp)); have HR := k2.some (heap_was (k1.some (heap_at rfl) (by simp))) (by simp); obtain ⟨⟨d0, d1, d2, d3, d4, d5⟩, f0, f1, f2, f3, f4, f5⟩ := cells6_was HR; have HRES := Lib.hid (heap_was (o := .cells #[.int .u64 y.key, .int .i64 y.epoch, .int .i64 y.serial, .int .i64 y.size, .int .i64 y.tail, .int .i64 y.number] 29) HR); clear HR; have k2' := KT (KT (KT ((Keeps.refl [] w).alloc _) k1) ((Keeps.refl [] _).alloc _)) k2))
      refine bodyPost_ret (results_row_tmp2 rfl rfl (heap_set6 HRES.out _ _ _ _ _ _) Try.underlying29 rfl (by kernel_rfl)) rfl ⟨rfl, ?_⟩
      exact keeps_set6 (k2'.alloc _) (by omega) _ _ _ _ _ _
  · have h0 := hx rfl
    have b1 : (x.serial % 2 == 0) = false := by rw [beq_eq_false_iff_ne]; exact p1
    rcases (show (ye = 0 ∧ y.serial % 2 = 1) ∨ (ye = 0 ∧ ¬ y.serial % 2 = 1) ∨ ¬ ye = 0 by omega) with ⟨rfl, p2⟩ | ⟨rfl, p2⟩ | p2
    · have h1 := hy rfl
      have b2 : (y.serial % 2 == 1) = true := by rw [beq_iff_eq]; exact p2
      rw [if_neg (by simp [p1]), if_pos (by simp [p2])]
      clear hx hy p1 p2
      go_enter Try.func14, Try.ntmps14
      go_wp2_with (first
        | (go_at_call 11; (with_reducible refine (Da.out _).mono ?_); rintro e1 w1 ⟨rfl, k1⟩)
        | (go_at_call 11; (with_reducible refine (Db.out _).mono ?_); rintro e2 w2 ⟨rfl, k2⟩; obtain ⟨⟨c0, c1, c2, c3, c4, c5⟩, _⟩ := cells6_was (k2.some (heap_at rfl) (by simp)); have HR := k2.some (heap_was (k1.some (heap_at rfl) (by simp))) (by simp); obtain ⟨⟨d0, d1, d2, d3, d4, d5⟩, f0, f1, f2, f3, f4, f5⟩ := cells6_was HR; have HRES := Lib.hid (heap_was (o := .cells #[.int .u64 y.key, .int .i64 y.epoch, .int .i64 y.serial, .int .i64 y.size, .int .i64 y.tail, .int .i64 y.number] 29) HR); clear HR; have k2' := KT (KT (KT ((Keeps.refl [] w).alloc _) k1) ((Keeps.refl [] _).alloc _)) k2))
      refine bodyPost_ret (results_row_tmp2 rfl rfl (heap_set6 HRES.out _ _ _ _ _ _) Try.underlying29 rfl (by kernel_rfl)) rfl ⟨rfl, ?_⟩
      exact keeps_set6 (k2'.alloc _) (by omega) _ _ _ _ _ _
    · have h1 := hy rfl
      have b2 : (y.serial % 2 == 1) = false := by rw [beq_eq_false_iff_ne]; exact p2
      rw [if_neg (by simp [p1]), if_neg (by simp [p2])]
      clear hx hy p1 p2
      go_enter Try.func14, Try.ntmps14
      go_wp2_with (first
        | (go_at_call 11; (with_reducible refine (Da.out _).mono ?_); rintro e1 w1 ⟨rfl, k1⟩)
        | (go_at_call 11; (with_reducible refine (Db.out _).mono ?_); rintro e2 w2 ⟨rfl, k2⟩; obtain ⟨⟨c0, c1, c2, c3, c4, c5⟩, _⟩ := cells6_was (k2.some (heap_at rfl) (by simp)); have HR := k2.some (heap_was (k1.some (heap_at rfl) (by simp))) (by simp); obtain ⟨⟨d0, d1, d2, d3, d4, d5⟩, f0, f1, f2, f3, f4, f5⟩ := cells6_was HR; have HRES := Lib.hid (heap_was (o := .cells #[.int .u64 y.key, .int .i64 y.epoch, .int .i64 y.serial, .int .i64 y.size, .int .i64 y.tail, .int .i64 y.number] 29) HR); clear HR; have k2' := KT (KT (KT ((Keeps.refl [] w).alloc _) k1) ((Keeps.refl [] _).alloc _)) k2))
      refine bodyPost_ret (results_row_tmp2 rfl rfl (heap_set6 HRES.out _ _ _ _ _ _) Try.underlying29 rfl (by kernel_rfl)) rfl ⟨rfl, ?_⟩
      exact keeps_set6 (k2'.alloc _) (by omega) _ _ _ _ _ _
    · have b2 : (ye == 0) = false := by rw [beq_eq_false_iff_ne]; exact p2
      rw [if_neg (by simp [p1]), if_neg (by simp [p2])]
      clear hx hy p1 p2
      go_enter Try.func14, Try.ntmps14
      go_wp2_with (first
        | (go_at_call 11; (with_reducible refine (Da.out _).mono ?_); rintro e1 w1 ⟨rfl, k1⟩)
        | (go_at_call 11; (with_reducible refine (Db.out _).mono ?_); rintro e2 w2 ⟨rfl, k2⟩; obtain ⟨⟨c0, c1, c2, c3, c4, c5⟩, _⟩ := cells6_was (k2.some (heap_at rfl) (by simp)); have HR := k2.some (heap_was (k1.some (heap_at rfl) (by simp))) (by simp); obtain ⟨⟨d0, d1, d2, d3, d4, d5⟩, f0, f1, f2, f3, f4, f5⟩ := cells6_was HR; have HRES := Lib.hid (heap_was (o := .cells #[.int .u64 y.key, .int .i64 y.epoch, .int .i64 y.serial, .int .i64 y.size, .int .i64 y.tail, .int .i64 y.number] 29) HR); clear HR; have k2' := KT (KT (KT ((Keeps.refl [] w).alloc _) k1) ((Keeps.refl [] _).alloc _)) k2))
      refine bodyPost_ret (results_row_tmp2 rfl rfl (heap_set6 HRES.out _ _ _ _ _ _) Try.underlying29 rfl (by kernel_rfl)) rfl ⟨rfl, ?_⟩
      exact keeps_set6 (k2'.alloc _) (by omega) _ _ _ _ _ _
  · have b1 : (xe == 0) = false := by rw [beq_eq_false_iff_ne]; exact p1
    rcases (show (ye = 0 ∧ y.serial % 2 = 1) ∨ (ye = 0 ∧ ¬ y.serial % 2 = 1) ∨ ¬ ye = 0 by omega) with ⟨rfl, p2⟩ | ⟨rfl, p2⟩ | p2
    · have h1 := hy rfl
      have b2 : (y.serial % 2 == 1) = true := by rw [beq_iff_eq]; exact p2
      rw [if_neg (by simp [p1]), if_pos (by simp [p2])]
      clear hx hy p1 p2
      go_enter Try.func14, Try.ntmps14
      go_wp2_with (first
        | (go_at_call 11; (with_reducible refine (Da.out _).mono ?_); rintro e1 w1 ⟨rfl, k1⟩)
        | (go_at_call 11; (with_reducible refine (Db.out _).mono ?_); rintro e2 w2 ⟨rfl, k2⟩; obtain ⟨⟨c0, c1, c2, c3, c4, c5⟩, _⟩ := cells6_was (k2.some (heap_at rfl) (by simp)); have HR := k2.some (heap_was (k1.some (heap_at rfl) (by simp))) (by simp); obtain ⟨⟨d0, d1, d2, d3, d4, d5⟩, f0, f1, f2, f3, f4, f5⟩ := cells6_was HR; have HRES := Lib.hid (heap_was (o := .cells #[.int .u64 y.key, .int .i64 y.epoch, .int .i64 y.serial, .int .i64 y.size, .int .i64 y.tail, .int .i64 y.number] 29) HR); clear HR; have k2' := KT (KT (KT ((Keeps.refl [] w).alloc _) k1) ((Keeps.refl [] _).alloc _)) k2))
      refine bodyPost_ret (results_row_tmp2 rfl rfl (heap_set6 HRES.out _ _ _ _ _ _) Try.underlying29 rfl (by kernel_rfl)) rfl ⟨rfl, ?_⟩
      exact keeps_set6 (k2'.alloc _) (by omega) _ _ _ _ _ _
    · have h1 := hy rfl
      have b2 : (y.serial % 2 == 1) = false := by rw [beq_eq_false_iff_ne]; exact p2
      rw [if_neg (by simp [p1]), if_neg (by simp [p2])]
      clear hx hy p1 p2
      go_enter Try.func14, Try.ntmps14
      go_wp2_with (first
        | (go_at_call 11; (with_reducible refine (Da.out _).mono ?_); rintro e1 w1 ⟨rfl, k1⟩)
        | (go_at_call 11; (with_reducible refine (Db.out _).mono ?_); rintro e2 w2 ⟨rfl, k2⟩; obtain ⟨⟨c0, c1, c2, c3, c4, c5⟩, _⟩ := cells6_was (k2.some (heap_at rfl) (by simp)); have HR := k2.some (heap_was (k1.some (heap_at rfl) (by simp))) (by simp); obtain ⟨⟨d0, d1, d2, d3, d4, d5⟩, f0, f1, f2, f3, f4, f5⟩ := cells6_was HR; have HRES := Lib.hid (heap_was (o := .cells #[.int .u64 y.key, .int .i64 y.epoch, .int .i64 y.serial, .int .i64 y.size, .int .i64 y.tail, .int .i64 y.number] 29) HR); clear HR; have k2' := KT (KT (KT ((Keeps.refl [] w).alloc _) k1) ((Keeps.refl [] _).alloc _)) k2))
      refine bodyPost_ret (results_row_tmp2 rfl rfl (heap_set6 HRES.out _ _ _ _ _ _) Try.underlying29 rfl (by kernel_rfl)) rfl ⟨rfl, ?_⟩
      exact keeps_set6 (k2'.alloc _) (by omega) _ _ _ _ _ _
    · have b2 : (ye == 0) = false := by rw [beq_eq_false_iff_ne]; exact p2
      rw [if_neg (by simp [p1]), if_neg (by simp [p2])]
      clear hx hy p1 p2
      go_enter Try.func14, Try.ntmps14
      go_wp2_with (first
        | (go_at_call 11; (with_reducible refine (Da.out _).mono ?_); rintro e1 w1 ⟨rfl, k1⟩)
        | (go_at_call 11; (with_reducible refine (Db.out _).mono ?_); rintro e2 w2 ⟨rfl, k2⟩; obtain ⟨⟨c0, c1, c2, c3, c4, c5⟩, _⟩ := cells6_was (k2.some (heap_at rfl) (by simp)); have HR := k2.some (heap_was (k1.some (heap_at rfl) (by simp))) (by simp); obtain ⟨⟨d0, d1, d2, d3, d4, d5⟩, f0, f1, f2, f3, f4, f5⟩ := cells6_was HR; have HRES := Lib.hid (heap_was (o := .cells #[.int .u64 y.key, .int .i64 y.epoch, .int .i64 y.serial, .int .i64 y.size, .int .i64 y.tail, .int .i64 y.number] 29) HR); clear HR; have k2' := KT (KT (KT ((Keeps.refl [] w).alloc _) k1) ((Keeps.refl [] _).alloc _)) k2))
      refine bodyPost_ret (results_row_tmp2 rfl rfl (heap_set6 HRES.out _ _ _ _ _ _) Try.underlying29 rfl (by kernel_rfl)) rfl ⟨rfl, ?_⟩
      exact keeps_set6 (k2'.alloc _) (by omega) _ _ _ _ _ _
end Go.Proofs.Ytcbpkplmaglpcaa
