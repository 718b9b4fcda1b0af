/- Layer 3: what the reference's functions answer. -/
import Derived.Test.YtjebldfmkpfafaaWireBk
import Derived.Test.YtjebldfmkpfafaaWireOrd
import Derived.Deep.RegionHeld3
namespace Go.Proofs.Ytjebldfmkpfafaa
open Go.RowKit
set_option maxRecDepth 100000

theorem refFixed_any (x n : Nat) (w : World) (hn : n ≤ 8) (hx : x < 18446744073709551616) :
    Calls Try.prog 31 #[.int .u64 x, .int .i64 n] w fun e w' => e = .returned (.string (str (be x n))) ∧ Keeps [] w w' := by
  go_enter Try.func31, Try.ntmps31
  go_wp2
  go_loopw [0, 5, 6] (fun xv ov iv wr => ∃ k X : Nat, k ≤ n ∧ iv = .int .i64 k ∧ xv = .int .u64 X ∧ X < 18446744073709551616 ∧ ov = .string (str (be x k)) ∧ Hid (X = x / 256 ^ k) ∧ Keeps [] w wr) (fun _ _ iv _ => n - (intOf iv).toNat)
  case atStart => exact ⟨0, x, Nat.zero_le _, rfl, rfl, hx, rfl, by simp [Hid], Keeps.refl _ _⟩
  case round =>
    obtain ⟨k, X, hk, rfl, rfl, hX, rfl, HX, hkp⟩ := hrel
    have hbl : (be x k).length = k := be_length x k
    by_cases hlt : k < n
    · have hcv := lit_string (P := Try.prog) wr Try.underlying41 Try.underlying5 Try.underlying9 ((X : Int) % 256)
      go_wp2
      go_roundw
      case rel => exact ⟨k + 1, X / 256, by omega, by go_num, by go_num, by omega, by
          have e1 : UInt8.ofNat (X % 256) = UInt8.ofNat (x / 256 ^ k) := by
            rw [← HX.out]
            apply UInt8.toNat_inj.1
            simp only [UInt8.toNat_ofNat']
            omega
          rw [e1]; rfl, by unfold Hid; rw [HX.out, Nat.div_div_eq_div_mul, Nat.pow_succ], hkp.alloc _⟩
      case measure => simp [intOf]; omega
    · go_wp2
      go_ret
      have : k = n := by omega
      subst this
      exact ⟨rfl, hkp⟩

theorem vsz_of {x n : Nat} (hx : x < 2 ^ 64) (h1 : 1 ≤ n) (h9 : n ≤ 9) (hlo : n = 1 ∨ 2 ^ (7 * (n - 1)) ≤ x) (hhi : n = 9 ∨ x < 2 ^ (7 * n)) : vsz x = n := by
  have hb := vsz_bd x
  have hle : vsz x ≤ n := by
    rcases hhi with rfl | h
    · exact hb.2
    · exact vsz_le h1 h9 h
  rcases hlo with rfl | h
  · omega
  · apply Nat.le_antisymm hle
    apply Nat.le_of_not_lt
    intro h2
    have h3 := vsz_lt hx (by omega)
    have h4 : 2 ^ (7 * vsz x) ≤ 2 ^ (7 * (n - 1)) := Nat.pow_le_pow_right (by omega) (by omega)
    omega

theorem refSize_any (x : Nat) (w : World) (hx : x < 18446744073709551616) :
    Calls Try.prog 60 #[.int .u64 x] w fun e w' => e = .returned (.int .i64 (vsz x)) ∧ w = w' := by
  have Hx := Lib.hid (show x < 2 ^ 64 by omega)
  go_enter Try.func60, Try.ntmps60
  go_wp2
  go_loop [3, 4] (fun nv mv => ∃ n M : Nat, 1 ≤ n ∧ n ≤ 9 ∧ nv = .int .i64 n ∧ mv = .int .u64 M ∧ Hid (n < 9 → M = 2 ^ (7 * n)) ∧ Hid (n = 1 ∨ 2 ^ (7 * (n - 1)) ≤ x)) (fun nv _ => 9 - (intOf nv).toNat)
  case atStart => exact ⟨1, 128, by omega, by omega, rfl, rfl, fun _ => rfl, .inl rfl⟩
  case round =>
    obtain ⟨n, M, h1, h9, rfl, rfl, HM, Hlo⟩ := hrel
    by_cases hn : n < 9
    · have hM := HM.out hn
      have hMb : M ≤ 72057594037927936 := by rw [hM]; exact Nat.pow_le_pow_right (n := 2) (j := 56) (by omega) (by omega)
      have HM' := Lib.hid hM
      clear hM
      by_cases hc : M ≤ x
      · by_cases hn8 : n + 1 < 9
        · have hMc : M ≤ 562949953421312 := by rw [HM'.out]; exact Nat.pow_le_pow_right (n := 2) (j := 49) (by omega) (by omega)
          go_wp2
          go_round
          case rel => exact ⟨n + 1, 128 * M, by omega, by omega, by go_num, by go_num, fun _ => by rw [HM'.out, Nat.mul_add, Nat.pow_add, Nat.mul_comm], .inr (by rw [Nat.add_sub_cancel, ← HM'.out]; exact hc)⟩
          case measure => simp [intOf]; omega
        · go_wp2
          go_round
          case rel => exact ⟨n + 1, M, by omega, by omega, by go_num, rfl, fun h => absurd h hn8, .inr (by rw [Nat.add_sub_cancel, ← HM'.out]; exact hc)⟩
          case measure => simp [intOf]; omega
      · go_wp2
        go_ret
        exact ⟨ret_int (by rw [vsz_of Hx.out h1 h9 Hlo.out (.inr (by rw [← HM'.out]; omega))]), rfl⟩
    · go_wp2
      go_ret
      exact ⟨ret_int (by rw [vsz_of Hx.out h1 h9 Hlo.out (.inl (by omega))]), rfl⟩

set_option maxHeartbeats 1000000 in
theorem refHead_any (n : Nat) (w : World) (h1 : 1 ≤ n) (h2 : n ≤ 9) :
    Calls Try.prog 61 #[.int .i64 n] w fun r w' => r = .returned (.int .i64 (vhd n)) ∧ w = w' := by
  rcases (show n = 1 ∨ n = 2 ∨ n = 3 ∨ n = 4 ∨ n = 5 ∨ n = 6 ∨ n = 7 ∨ n = 8 ∨ n = 9 by omega) with h | h | h | h | h | h | h | h | h
  all_goals
    subst h
    go_enter Try.func61, Try.ntmps61
    go_wp2
    go_rounds 9
    go_ret
    exact ⟨rfl, rfl⟩
end Go.Proofs.Ytjebldfmkpfafaa
