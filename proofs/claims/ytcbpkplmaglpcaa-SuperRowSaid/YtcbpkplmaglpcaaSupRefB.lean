/- Layers 3, 9, the references: Fixed, Number, May. -/
import Derived.Test.YtcbpkplmaglpcaaSupA
import Derived.Test.YtcbpkplmaglpcaaOpen
namespace Go.Proofs.Ytcbpkplmaglpcaa
open Go.RowKit

theorem refFixed_any (x n : Nat) (w : World) (hn : n ≤ 8) (hx : x < 18446744073709551616) :
    Calls Try.prog 33 #[.int .u64 x, .int .i64 n] w fun e w' => e = .returned (.string (str (be x n))) ∧ Keeps [] w w' := by
  go_enter Try.func33, Try.ntmps33
  go_wp2
  go_loopw [0, 5, 6] (fun xv ov iv wr => ∃ k X : Nat, k ≤ n ∧ iv = .int .i64 k ∧ xv = .int .u64 X ∧ X < 18446744073709551616 ∧ ov = .string (str (be x k)) ∧ Hid (X = x / 256 ^ k) ∧ Keeps [] w wr) (fun _ _ iv _ => n - (intOf iv).toNat)
  case atStart => exact ⟨0, x, Nat.zero_le _, rfl, rfl, hx, rfl, by simp [Hid], Keeps.refl _ _⟩
  case round =>
    obtain ⟨k, X, hk, rfl, rfl, hX, rfl, HX, hkp⟩ := hrel
    have hbl : (be x k).length = k := be_length x k
    by_cases hlt : k < n
    · have hcv := lit_string (P := Try.prog) wr Try.underlying47 Try.underlying5 Try.underlying9 ((X : Int) % 256)
      go_wp2
      go_roundw
      case rel => exact ⟨k + 1, X / 256, by omega, by go_num, by go_num, by omega, by
          have e1 : UInt8.ofNat (X % 256) = UInt8.ofNat (x / 256 ^ k) := by
            rw [← HX.out]
            apply UInt8.toNat_inj.1
            simp only [UInt8.toNat_ofNat']
            omega
          rw [e1]; rfl, by unfold Hid; rw [HX.out, Nat.div_div_eq_div_mul, Nat.pow_succ], hkp.alloc _⟩
      case measure => simp [intOf]; omega
    · go_wp2
      go_ret
      have : k = n := by omega
      subst this
      exact ⟨rfl, hkp⟩

theorem refNumber_any (s : ByteArray) (n : Int) (w : World) (hs : s.size ≤ 140737488351232) :
    Calls Try.prog 28 #[.string s, .int .i64 n] w fun e w' =>
      e = .returned (.tuple #[.int .u64 (rfixed s.data.toList 0 0 n).1, .int .i64 ((rfixed s.data.toList 0 0 n).2.1 : Nat), .int .i64 (rfixed s.data.toList 0 0 n).2.2]) ∧ w = w' := by
  by_cases hb : n < 1 ∨ 8 < n
  · have hr : rfixed s.data.toList 0 0 n = (0, 0, 1) := by unfold rfixed; rw [if_pos ⟨rfl, hb⟩]
    rw [hr]
    clear hr
    rcases hb with hb | hb
    all_goals
      go_enter Try.func28, Try.ntmps28
      go_wp2
      go_ret3
      exact ⟨rfl, rfl⟩
  · obtain ⟨m, rfl⟩ : ∃ m : Nat, n = m := ⟨n.toNat, by omega⟩
    have h1 : 1 ≤ (m : Int) := by omega
    have h8 : (m : Int) ≤ 8 := by omega
    by_cases hl : s.size < m
    · have hr : rfixed s.data.toList 0 0 m = (0, 0, 10) := by
        unfold rfixed rtake; rw [if_neg (by omega), if_neg (by simp), if_pos (by rw [dlen, Int.toNat_natCast]; omega)]; rfl
      rw [hr]
      clear hr hb
      go_enter Try.func28, Try.ntmps28
      go_wp2
      go_ret3
      exact ⟨rfl, rfl⟩
    · have hr : rfixed s.data.toList 0 0 m = (num (s.data.toList.take m), m, 0) := by
        unfold rfixed rtake; rw [if_neg (by omega), if_neg (by simp), if_neg (by rw [dlen, Int.toNat_natCast]; omega)]; simp
      rw [hr]
      clear hr hb
      go_enter Try.func28, Try.ntmps28
      go_wp2
      go_loop [7, 8] (fun xv iv => ∃ k X : Nat, k ≤ m ∧ iv = .int .i64 k ∧ xv = .int .u64 X ∧ Hid (X = num (s.data.toList.take k))) (fun _ iv => m - (intOf iv).toNat)
      case atStart => exact ⟨0, 0, Nat.zero_le _, rfl, rfl, rfl⟩
      case round =>
        obtain ⟨k, X, hk, rfl, rfl, HX⟩ := hrel
        by_cases hlt : k < m
        · have hks : k < s.size := by omega
          have hXb : X < 72057594037927936 := by
            rw [HX.out]
            have h1 := bnum_lt (s.data.toList.take k)
            have h2 : 256 ^ (s.data.toList.take k).length ≤ 256 ^ 7 := Nat.pow_le_pow_right (by omega) (by have := List.length_take_le k s.data.toList; omega)
            omega
          go_wp2
          go_round
          case rel => exact ⟨k + 1, 256 * X + s[k].toNat, by omega, by go_num, by have := s[k].toNat_lt; simp only [bwrap_byte]; rw [IntWalk.u64_in _ ⟨by omega, by omega⟩]; go_num, by
            unfold Hid; rw [List.take_succ_eq_append_getElem (by rw [dlen]; exact hks), bnum_snoc, HX.out, Nat.mul_comm]; rfl⟩
          case measure => simp [intOf]; omega
        · go_wp2
          go_ret3
          have : k = m := by omega
          subst this
          exact ⟨by rw [← HX.out]; rfl, rfl⟩

theorem refMay_any (size tail : Int) (w : World) (h0 : -9223372036854775808 ≤ size) (h1 : size ≤ 9223372036854775807) (_t0 : -9223372036854775808 ≤ tail) (_t1 : tail ≤ 9223372036854775807) :
    Calls Try.prog 30 #[.int .i64 size, .int .i64 tail, .int .i64 tail] w fun e w' => e = .returned (.bool (decide (1 ≤ size ∧ size ≤ 65536 ∧ 0 ≤ tail ∧ tail < 1099511627776))) ∧ w = w' := by
  by_cases a1 : 1 ≤ size
  · by_cases a2 : size ≤ 65536
    · by_cases a3 : 0 ≤ tail
      · by_cases a4 : tail < 1099511627776
        · have hr : decide (1 ≤ size ∧ size ≤ 65536 ∧ 0 ≤ tail ∧ tail < 1099511627776) = true := decide_eq_true ⟨a1, a2, a3, a4⟩
          rw [hr]
          have a0 : (0 : Int) ≤ size := by omega
          go_enter Try.func30, Try.ntmps30
          go_wp2
          go_ret
          exact ⟨ret_bool (by simp <;> omega), rfl⟩
        · have hr : decide (1 ≤ size ∧ size ≤ 65536 ∧ 0 ≤ tail ∧ tail < 1099511627776) = false := decide_eq_false (fun h => a4 h.2.2.2)
          rw [hr]
          go_enter Try.func30, Try.ntmps30
          go_wp2
          go_ret
          exact ⟨ret_bool (by simp <;> omega), rfl⟩
      · have hr : decide (1 ≤ size ∧ size ≤ 65536 ∧ 0 ≤ tail ∧ tail < 1099511627776) = false := decide_eq_false (fun h => a3 h.2.2.1)
        rw [hr]
        go_enter Try.func30, Try.ntmps30
        go_wp2
        go_ret
        exact ⟨ret_bool (by simp <;> omega), rfl⟩
    · have hr : decide (1 ≤ size ∧ size ≤ 65536 ∧ 0 ≤ tail ∧ tail < 1099511627776) = false := decide_eq_false (fun h => a2 h.2.1)
      rw [hr]
      go_enter Try.func30, Try.ntmps30
      go_wp2
      go_ret
      exact ⟨ret_bool (by simp <;> omega), rfl⟩
  · have hr : decide (1 ≤ size ∧ size ≤ 65536 ∧ 0 ≤ tail ∧ tail < 1099511627776) = false := decide_eq_false (fun h => a1 h.1)
    rw [hr]
    go_enter Try.func30, Try.ntmps30
    go_wp2
    go_ret
    exact ⟨ret_bool (by simp <;> omega), rfl⟩
end Go.Proofs.Ytcbpkplmaglpcaa
