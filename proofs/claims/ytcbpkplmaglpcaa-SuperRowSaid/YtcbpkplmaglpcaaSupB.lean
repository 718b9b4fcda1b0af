/- Layer 11: a superblock, plain; serial, Check. -/
import Derived.Test.YtcbpkplmaglpcaaSupA
import Derived.Test.YtcbpkplmaglpcaaOpen
namespace Go.Proofs.Ytcbpkplmaglpcaa
open Go.RowKit

/-- What a device's log is. -/
structure Sup where
  key : Nat
  epoch : Int
  serial : Int
  size : Int
  tail : Int
  number : Int

def Sup.agg (s : Sup) : Value := .agg #[.int .u64 s.key, .int .i64 s.epoch, .int .i64 s.serial, .int .i64 s.size, .int .i64 s.tail, .int .i64 s.number]

/-- Each one is a number of its kind. -/
structure Sup.good (s : Sup) : Prop where
  key : s.key < 18446744073709551616
  e0 : -9223372036854775808 ≤ s.epoch
  e1 : s.epoch ≤ 9223372036854775807
  s0 : -9223372036854775808 ≤ s.serial
  s1 : s.serial ≤ 9223372036854775807
  z0 : -9223372036854775808 ≤ s.size
  z1 : s.size ≤ 9223372036854775807
  t0 : -9223372036854775808 ≤ s.tail
  t1 : s.tail ≤ 9223372036854775807
  n0 : -9223372036854775808 ≤ s.number
  n1 : s.number ≤ 9223372036854775807

def Sup.inRange (s : Sup) : Prop := (0 ≤ s.epoch ∧ s.epoch < 4294967296) ∧ (0 ≤ s.serial ∧ s.serial < 1099511627776) ∧ (0 ≤ s.number ∧ s.number < 1099511627776)
def Sup.inRing (s : Sup) : Prop := 1 ≤ s.size ∧ s.size ≤ 65536 ∧ 0 ≤ s.tail ∧ s.tail < 1099511627776
instance (s : Sup) : Decidable s.inRange := by unfold Sup.inRange; infer_instance
instance (s : Sup) : Decidable s.inRing := by unfold Sup.inRing; infer_instance

/-- What is wrong with one. -/
def Sup.check (s : Sup) : Int := if s.inRange then (if s.inRing then 0 else 1) else 31

theorem serial_any (n : Int) (w : World) : Calls Try.prog 31 #[.int .i64 n] w fun e w' => e = .returned (.bool (decide (0 ≤ n ∧ n < 1099511627776))) ∧ w = w' := by
  by_cases a : 0 ≤ n
  · by_cases b : n < 1099511627776
    · have hr : decide (0 ≤ n ∧ n < 1099511627776) = true := decide_eq_true ⟨a, b⟩
      rw [hr]
      go_enter Try.func31, Try.ntmps31
      go_wp2
      go_ret
      exact ⟨ret_bool (by simp <;> omega), rfl⟩
    · have hr : decide (0 ≤ n ∧ n < 1099511627776) = false := decide_eq_false (fun h => b h.2)
      rw [hr]
      go_enter Try.func31, Try.ntmps31
      go_wp2
      go_ret
      exact ⟨ret_bool (by simp <;> omega), rfl⟩
  · have hr : decide (0 ≤ n ∧ n < 1099511627776) = false := decide_eq_false (fun h => a h.1)
    rw [hr]
    go_enter Try.func31, Try.ntmps31
    go_wp2
    go_ret
    exact ⟨ret_bool (by simp <;> omega), rfl⟩

theorem ringCheck_any (size tail : Int) (w : World) (h0 : -9223372036854775808 ≤ size) (h1 : size ≤ 9223372036854775807) (t0 : -9223372036854775808 ≤ tail) (t1 : tail ≤ 9223372036854775807) :
    Calls Try.prog 32 #[.agg #[.int .i64 size, .int .i64 tail, .int .i64 tail]] w fun e w' => e = .returned (.int .i64 (if 1 ≤ size ∧ size ≤ 65536 ∧ 0 ≤ tail ∧ tail < 1099511627776 then 0 else 1)) ∧ Keeps [] w w' := by
  by_cases hr : 1 ≤ size ∧ size ≤ 65536 ∧ 0 ≤ tail ∧ tail < 1099511627776
  · rw [if_pos hr]
    obtain ⟨a1, a2, a3, a4⟩ := hr
    have a0 : (0 : Int) ≤ size := by omega
    go_enter Try.func32, Try.ntmps32
    go_wp2
    all_goals first
      | (exfalso; omega)
      | (go_ret; exact ⟨rfl, (Keeps.refl [] w).alloc _⟩)
  · rw [if_neg hr]
    go_enter Try.func32, Try.ntmps32
    go_wp2
    all_goals first
      | (exfalso; omega)
      | (go_ret; exact ⟨rfl, (Keeps.refl [] w).alloc _⟩)

theorem Sup.check_in {s : Sup} (h : s.inRange) : s.check = if 1 ≤ s.size ∧ s.size ≤ 65536 ∧ 0 ≤ s.tail ∧ s.tail < 1099511627776 then 0 else 1 := by
  unfold Sup.check
  rw [if_pos h]
  by_cases h2 : s.inRing
  · rw [if_pos h2, if_pos (show 1 ≤ s.size ∧ s.size ≤ 65536 ∧ 0 ≤ s.tail ∧ s.tail < 1099511627776 from h2)]
  · rw [if_neg h2, if_neg (show ¬ (1 ≤ s.size ∧ s.size ≤ 65536 ∧ 0 ≤ s.tail ∧ s.tail < 1099511627776) from h2)]
theorem Sup.check_out {s : Sup} (h : ¬ s.inRange) : s.check = 31 := by
  unfold Sup.check
  rw [if_neg h]
end Go.Proofs.Ytcbpkplmaglpcaa
