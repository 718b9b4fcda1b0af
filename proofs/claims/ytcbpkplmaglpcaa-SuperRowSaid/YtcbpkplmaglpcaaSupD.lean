/- Layer 11: Check of one that is not in range; Encode, number, Slot. -/
import Derived.Test.YtcbpkplmaglpcaaSupC
namespace Go.Proofs.Ytcbpkplmaglpcaa
open Go.RowKit

set_option maxHeartbeats 4000000 in
theorem check_out (s : Sup) (hg : s.good) (hr : ¬ s.inRange) (w : World) : Calls Try.prog 18 #[s.agg] w fun e w' => e = .returned (.int .i64 s.check) ∧ Keeps [] w w' := by
  rw [Sup.check_out hr]
  obtain ⟨key, epoch, serial, size, tail, number⟩ := s
  obtain ⟨k0, e0, e1, s0, s1, z0, z1, t0, t1, n0, n1⟩ := hg
  unfold Sup.inRange at hr
  unfold Sup.agg
  simp only at *
  have Hs1 := Lib.hid (fun w => serial_any serial w)
  have Hs2 := Lib.hid (fun w => serial_any number w)
  rcases (show epoch < 0 ∨ 4294967296 ≤ epoch ∨ (0 ≤ epoch ∧ epoch < 4294967296 ∧ ¬ (0 ≤ serial ∧ serial < 1099511627776)) ∨ (0 ≤ epoch ∧ epoch < 4294967296 ∧ (0 ≤ serial ∧ serial < 1099511627776) ∧ ¬ (0 ≤ number ∧ number < 1099511627776)) by omega) with h | h | ⟨p1, p2, h⟩ | ⟨p1, p2, h3, h⟩
  · have hz : ¬ epoch = 0 := by omega
    clear hr
    go_enter Try.func18, Try.ntmps18
    go_wp2_with (first
      | (go_at_call 31; (with_reducible refine (Hs1.out _).mono ?_); rintro e w1 ⟨rfl, rfl⟩)
      | (go_at_call 31; (with_reducible refine (Hs2.out _).mono ?_); rintro e w1 ⟨rfl, rfl⟩))
    go_ret
    exact ⟨rfl, (Keeps.refl [] w).alloc _⟩
  · have hz : ¬ epoch = 0 := by omega
    have hz1 : ¬ epoch < 0 := by omega
    clear hr
    go_enter Try.func18, Try.ntmps18
    go_wp2_with (first
      | (go_at_call 31; (with_reducible refine (Hs1.out _).mono ?_); rintro e w1 ⟨rfl, rfl⟩)
      | (go_at_call 31; (with_reducible refine (Hs2.out _).mono ?_); rintro e w1 ⟨rfl, rfl⟩))
    go_ret
    exact ⟨rfl, (Keeps.refl [] w).alloc _⟩
  · have hz : ¬ serial = 0 := by omega
    have hz1 : ¬ epoch < 0 := by omega
    have d3 := decide_eq_false h
    rw [d3] at Hs1
    clear hr d3 h
    go_enter Try.func18, Try.ntmps18
    go_wp2_with (first
      | (go_at_call 31; (with_reducible refine (Hs1.out _).mono ?_); rintro e w1 ⟨rfl, rfl⟩)
      | (go_at_call 31; (with_reducible refine (Hs2.out _).mono ?_); rintro e w1 ⟨rfl, rfl⟩))
    go_ret
    exact ⟨rfl, (Keeps.refl [] w).alloc _⟩
  · have hz : ¬ number = 0 := by omega
    have hz1 : ¬ epoch < 0 := by omega
    have d3 := decide_eq_true h3
    rw [d3] at Hs1
    have d4 := decide_eq_false h
    rw [d4] at Hs2
    clear hr d3 h3 d4 h
    go_enter Try.func18, Try.ntmps18
    go_wp2_with (first
      | (go_at_call 31; (with_reducible refine (Hs1.out _).mono ?_); rintro e w1 ⟨rfl, rfl⟩)
      | (go_at_call 31; (with_reducible refine (Hs2.out _).mono ?_); rintro e w1 ⟨rfl, rfl⟩))
    go_ret
    exact ⟨rfl, (Keeps.refl [] w).alloc _⟩

theorem check_any (s : Sup) (hg : s.good) (w : World) : Calls Try.prog 18 #[s.agg] w fun e w' => e = .returned (.int .i64 s.check) ∧ Keeps [] w w' := by
  by_cases hr : s.inRange
  · exact check_in s hg hr w
  · exact check_out s hg hr w

theorem i64_and1 (n : Int) : bits .and .i64 n 1 = n % 2 := by
  have h1 : (BitVec.ofInt 64 1).toNat = 2 ^ 1 - 1 := by decide
  have key : (BitVec.ofInt 64 n &&& BitVec.ofInt 64 1).toNat = (n % ((2 ^ 64 : Nat) : Int)).toNat % 2 ^ 1 := by
    rw [BitVec.toNat_and, BitVec.toNat_ofInt, h1, Nat.and_two_pow_sub_one_eq_mod]
  show IntKind.i64.wrap ((BitVec.ofInt 64 n &&& BitVec.ofInt 64 1).toNat : Nat) = n % 2
  rw [key, IntKind.wrap_i64]
  omega

set_option maxRecDepth 100000 in
theorem number_any (x : Nat) (w : World) (hx : x < 18446744073709551616) : Calls Try.prog 24 #[.int .u64 x] w fun e w' => e = .returned (.int .i64 (if 1099511627776 ≤ x then -1 else (x : Int))) ∧ w = w' := by
  by_cases h : 1099511627776 ≤ x
  · rw [if_pos h]
    have hi : (1099511627776 : Int) ≤ (x : Int) := by omega
    clear h hx
    generalize (x : Int) = y at *
    go_enter Try.func24, Try.ntmps24
    go_wp2
    go_ret
    exact ⟨rfl, rfl⟩
  · rw [if_neg h]
    have hi : ¬ (1099511627776 : Int) ≤ (x : Int) := by omega
    have hi0 : (0 : Int) ≤ (x : Int) := by omega
    clear h hx
    generalize (x : Int) = y at *
    go_enter Try.func24, Try.ntmps24
    go_wp2
    go_ret
    exact ⟨rfl, rfl⟩

theorem slot_any (s : Sup) (w : World) : Calls Try.prog 20 #[s.agg] w fun e w' => e = .returned (.int .i64 (s.serial % 2)) ∧ Keeps [] w w' := by
  obtain ⟨key, epoch, serial, size, tail, number⟩ := s
  unfold Sup.agg
  simp only at *
  have e1 := i64_and1 serial
  go_enter Try.func20, Try.ntmps20
  go_wp2
  go_ret
  exact ⟨rfl, (Keeps.refl [] w).alloc _⟩
end Go.Proofs.Ytcbpkplmaglpcaa
