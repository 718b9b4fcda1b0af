/- Layer 6: Prefix of the program; the answer's digits. -/
import Derived.Test.YtdjhlnkkbpmfmaaDoorNamB
import Derived.Test.YtdjhlnkkbpmfmaaDoorBytesOf
namespace Go.Proofs.YtdjhlnkkbpmfmaaDoor
open Go.RowKit

set_option maxHeartbeats 2000000 in
set_option maxRecDepth 100000 in
theorem nprefix_any (v : List UInt8) (k : Int) (w : World) (hv : v.length ≤ 1000000) : Calls Tryd.prog 13 #[.string (str v), .int .i64 k] w fun e w' => e = .returned (.tuple #[.string (str (preOf v k).1), .int .i64 (preOf v k).2]) ∧ Keeps [] w w' := by
  have Vo := Lib.hid (fun w => nvolume_any v w (by omega))
  obtain ⟨r, hr⟩ : ∃ r, preOf v k = r := ⟨_, rfl⟩
  have Hr := Lib.hid hr
  rw [hr]
  clear hr
  cases hvo : volOk v
  · rw [hvo, if_neg (by decide)] at Vo
    have h2 : r = ([], 1) := by rw [← Hr.out]; exact if_pos hvo
    subst h2
    clear hvo
    go_enter Tryd.func13, Tryd.ntmps13
    go_wp2_with (go_at_call 15; (with_reducible refine (Vo.out _).mono ?_); rintro e w1 ⟨rfl, k1⟩)
    go_ret2
    exact ⟨rfl, k1⟩
  · rw [hvo, if_pos rfl] at Vo
    have hnv : ¬ volOk v = false := by rw [hvo]; decide
    by_cases h1 : k < 1
    · have h2 : r = ([], 14) := by rw [← Hr.out]; unfold preOf; rw [if_neg hnv, if_pos (.inl h1)]
      subst h2
      clear hvo hnv
      go_enter Tryd.func13, Tryd.ntmps13
      go_wp2_with (go_at_call 15; (with_reducible refine (Vo.out _).mono ?_); rintro e w1 ⟨rfl, k1⟩)
      go_ret2
      exact ⟨rfl, k1⟩
    by_cases h4 : 4 < k
    · have h2 : r = ([], 14) := by rw [← Hr.out]; unfold preOf; rw [if_neg hnv, if_pos (.inr h4)]
      subst h2
      clear hvo hnv
      go_enter Tryd.func13, Tryd.ntmps13
      go_wp2_with (go_at_call 15; (with_reducible refine (Vo.out _).mono ?_); rintro e w1 ⟨rfl, k1⟩)
      go_ret2
      exact ⟨rfl, k1⟩
    have h2 : r = (v ++ [47, letterOf k, 47], 0) := by rw [← Hr.out]; unfold preOf; rw [if_neg hnv, if_neg (by omega)]
    subst h2
    clear hvo hnv Hr
    have hs47 : ByteArray.mk #[47] = str [47] := rfl
    have hsl := slash v (letterOf k)
    have x1 : (ByteArray.mk #[45, 100, 99, 109, 101]).extract 1 2 = str [100] := by decide
    have x2 : (ByteArray.mk #[45, 100, 99, 109, 101]).extract 2 3 = str [99] := by decide
    have x3 : (ByteArray.mk #[45, 100, 99, 109, 101]).extract 3 4 = str [109] := by decide
    have x4 : (ByteArray.mk #[45, 100, 99, 109, 101]).extract 4 5 = str [101] := by decide
    rcases (show k = 1 ∨ k = 2 ∨ k = 3 ∨ k = 4 by omega) with rfl | rfl | rfl | rfl
    all_goals
      have Hsl := Lib.hid hsl
      clear hsl h1 h4
      go_enter Tryd.func13, Tryd.ntmps13
      go_wp2_with (go_at_call 15; (with_reducible refine (Vo.out _).mono ?_); rintro e w1 ⟨rfl, k1⟩)
      go_ret2
      exact ⟨rfl, k1⟩

theorem hexm_front (k n : Nat) : hexm (k + 1) n = hexd ((n / 16 ^ k) % 16) :: hexm k n := by
  induction k generalizing n with
  | zero => simp [hexm]
  | succ k ih =>
    rw [hexm, ih (n / 16), Nat.div_div_eq_div_mul, show 16 * 16 ^ k = 16 ^ (k + 1) by rw [Nat.pow_succ, Nat.mul_comm]]
    rfl
theorem tmod16 (N : Nat) : (N : Int).tmod 16 = ((N % 16 : Nat) : Int) := by
  rw [Int.tmod_eq_emod_of_nonneg (by omega)]; omega
theorem tdiv16 (N : Nat) : (N : Int).tdiv 16 = ((N / 16 : Nat) : Int) := by
  rw [Int.tdiv_eq_ediv_of_nonneg (by omega)]; omega

set_option maxHeartbeats 2000000 in
set_option maxRecDepth 100000 in
theorem digits_any (n : Nat) (hn : n < 1099511627776) (w : World) : Calls Tryd.prog 25 #[.int .i64 n] w fun e w' => e = .returned (.string (str (hexm 10 n))) ∧ Keeps [] w w' := by
  go_enter Tryd.func25, Tryd.ntmps25
  go_wp2
  go_loopw [0, 3, 4] (fun nv sv iv wr => ∃ k N : Nat, k ≤ 10 ∧ iv = .int .i64 k ∧ sv = .string (str (hexm k n)) ∧ nv = .int .i64 N ∧ Hid (N = n / 16 ^ k) ∧ Keeps [] w wr) (fun _ _ iv _ => 10 - (intOf iv).toNat)
  case atStart => exact ⟨0, n, by omega, rfl, rfl, rfl, by show n = n / 16 ^ 0; simp, Keeps.refl [] w⟩
  case round =>
    obtain ⟨k, N, hk, rfl, rfl, rfl, HN, hkk⟩ := hrel
    by_cases hlt : k < 10
    · have hki : (k : Int) < 10 := by omega
      have hki0 : (0 : Int) ≤ (k : Int) := by omega
      have hNl : N < 1099511627776 := by rw [HN.out]; exact Nat.lt_of_le_of_lt (Nat.div_le_self _ _) hn
      have hfr := hexm_front k n
      rw [← HN.out] at hfr
      have hN2 : N / 16 = n / 16 ^ (k + 1) := by rw [HN.out, Nat.div_div_eq_div_mul, Nat.pow_succ]
      have hml := hexm_length k n
      have Hfr := Lib.hid hfr
      have HN2 := Lib.hid hN2
      generalize hexm k n = S at *
      have e1 := tmod16 N
      have e2 := tdiv16 N
      obtain ⟨D, hD⟩ : ∃ D, N % 16 = D := ⟨_, rfl⟩
      obtain ⟨M, hM⟩ : ∃ M, N / 16 = M := ⟨_, rfl⟩
      rw [hD] at e1 Hfr
      rw [hM] at e2 HN2
      have hDl : D < 16 := by omega
      have hM0 : M < 1099511627776 := by omega
      have hDi : (D : Int) ≤ 15 := by omega
      clear hfr hN2 hD hM HN
      by_cases h9 : 9 < D
      · have h9i : (9 : Int) < (D : Int) := by omega
        obtain ⟨Y, hY, hYd⟩ : ∃ Y : Nat, Y = 87 + D ∧ UInt8.ofNat Y = hexd D := ⟨_, rfl, by unfold hexd; rw [if_neg (by omega)]⟩
        have b1 : IntKind.i64.wrap (97 + (D : Int)) = 97 + (D : Int) := IntWalk.i64_in _ ⟨by omega, by omega⟩
        have b2 : IntKind.i64.wrap (97 + (D : Int) - 10) = (Y : Int) := by rw [IntWalk.i64_in _ ⟨by omega, by omega⟩]; omega
        have b3 : IntKind.u8.wrap (Y : Int) = (Y : Int) := IntWalk.u8_in _ ⟨by omega, by omega⟩
        have b4 : IntKind.i64.wrap (48 + (D : Int)) = 48 + (D : Int) := IntWalk.i64_in _ ⟨by omega, by omega⟩
        have hcv := lit_string (P := Tryd.prog) wr Tryd.underlying65 Tryd.underlying5 Tryd.underlying9 (Y : Int)
        rw [Int.toNat_natCast, hYd] at hcv
        have Hkk := Lib.hid hkk
        clear hY hYd hkk
        go_wp2
        go_roundw
        case rel => exact ⟨k + 1, M, by omega, by go_num, by rw [Hfr.out], rfl, HN2.out, Hkk.out.alloc _⟩
        case measure => simp [intOf]; omega
      · have h9i : ¬ (9 : Int) < (D : Int) := by omega
        obtain ⟨Y, hY, hYd⟩ : ∃ Y : Nat, Y = 48 + D ∧ UInt8.ofNat Y = hexd D := ⟨_, rfl, by unfold hexd; rw [if_pos (by omega)]⟩
        have b1 : IntKind.i64.wrap (48 + (D : Int)) = (Y : Int) := by rw [IntWalk.i64_in _ ⟨by omega, by omega⟩]; omega
        have b3 : IntKind.u8.wrap (Y : Int) = (Y : Int) := IntWalk.u8_in _ ⟨by omega, by omega⟩
        have hcv := lit_string (P := Tryd.prog) wr Tryd.underlying65 Tryd.underlying5 Tryd.underlying9 (Y : Int)
        rw [Int.toNat_natCast, hYd] at hcv
        have Hkk := Lib.hid hkk
        clear hY hYd hkk
        go_wp2
        go_roundw
        case rel => exact ⟨k + 1, M, by omega, by go_num, by rw [Hfr.out], rfl, HN2.out, Hkk.out.alloc _⟩
        case measure => simp [intOf]; omega
    · obtain rfl : k = 10 := by omega
      go_wp2
      go_ret
      exact ⟨rfl, hkk⟩
end Go.Proofs.YtdjhlnkkbpmfmaaDoor
