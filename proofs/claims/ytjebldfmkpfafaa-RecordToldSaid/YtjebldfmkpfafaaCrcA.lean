/- Layer 2: what step, byted, More, Sum do. -/
import Derived.Test.YtjebldfmkpfafaaArr
import Derived.Test.YtjebldfmkpfafaaCrcPure
import Derived.Laws.BitsAllLaws
import Derived.WalkLawsBesides
namespace Go.Proofs.Ytjebldfmkpfafaa
open Go.RowKit
set_option maxRecDepth 100000

theorem step_any (x : Nat) (w : World) (hx : x < 4294967296) : Calls Try.prog 92 #[.int .u32 x] w fun e w' => e = .returned (.int .u32 (crcStep x)) ∧ w = w' := by
  have hb : x / 2 < 4294967296 := by omega
  unfold crcStep
  by_cases h : x % 2 = 1
  · rw [if_pos h]
    have e1 : bits .and .u32 (x : Int) 1 = 1 := by
      have := u32_and_nat x 1 hx (by omega)
      rw [Nat.and_one_is_mod, h] at this
      exact this
    have e2 : bits .and .u32 2197175160 4294967295 = 2197175160 := by
      have := u32_and_nat 2197175160 4294967295 (by omega) (by omega)
      exact this.trans (by decide)
    have e3 : bits .xor .u32 ((x : Int) / 2) 2197175160 = ((x / 2 ^^^ 2197175160 : Nat) : Int) := by
      have := u32_xor_nat (x / 2) 2197175160 hb (by omega)
      rwa [Int.natCast_ediv] at this
    go_enter Try.func92, Try.ntmps92
    go_wp2
    go_ret
    exact ⟨ret_int (by simp), rfl⟩
  · rw [if_neg h]
    have h0 : x % 2 = 0 := by omega
    have e1 : bits .and .u32 (x : Int) 1 = 0 := by
      have := u32_and_nat x 1 hx (by omega)
      rw [Nat.and_one_is_mod, h0] at this
      exact this
    have e2 : bits .and .u32 2197175160 0 = 0 := by
      have := u32_and_nat 2197175160 0 (by omega) (by omega)
      exact this.trans (by decide)
    have e3 : bits .xor .u32 ((x : Int) / 2) 0 = ((x / 2 ^^^ 0 : Nat) : Int) := by
      have := u32_xor_nat (x / 2) 0 hb (by omega)
      rwa [Int.natCast_ediv] at this
    go_enter Try.func92, Try.ntmps92
    go_wp2
    go_ret
    exact ⟨ret_int (by simp), rfl⟩

theorem byted_any (x : Nat) (c : UInt8) (w : World) (hx : x < 4294967296) : Calls Try.prog 75 #[.int .u32 x, .int .u8 c.toNat] w fun e w' => e = .returned (.int .u32 (crcByte x c)) ∧ w = w' := by
  have hcl := c.toNat_lt
  have e1 : bits .xor .u32 (x : Int) (c.toNat : Int) = ((x ^^^ c.toNat : Nat) : Int) := u32_xor_nat x c.toNat hx (by omega)
  have hb := xor_byte_lt hx c
  unfold crcByte
  generalize x ^^^ c.toNat = y at *
  generalize hC : c.toNat = C at *
  clear hC
  go_enter Try.func75, Try.ntmps75
  go_wp2
  go_loop [0, 9] (fun xv iv => ∃ k z : Nat, k ≤ 8 ∧ iv = .int .i64 k ∧ xv = .int .u32 z ∧ Hid (z = crcSteps y k)) (fun _ iv => 8 - (intOf iv).toNat)
  case atStart => exact ⟨0, y, by omega, rfl, by first | rfl | simp [e1], rfl⟩
  case round =>
    obtain ⟨k, z, hk, rfl, rfl, Hz⟩ := hrel
    by_cases hlt : k < 8
    · have hzl : z < 4294967296 := by rw [Hz.out]; exact crcSteps_lt hb k
      go_wp2_with (go_at_call 92; (with_reducible refine (step_any z _ hzl).mono ?_); rintro e w1 ⟨rfl, rfl⟩)
      go_round
      case rel => exact ⟨k + 1, crcStep z, by omega, by go_num, rfl, by unfold Hid; rw [Hz.out]; rfl⟩
      case measure => simp [intOf]; omega
    · obtain rfl : k = 8 := by omega
      go_wp2
      go_ret
      rw [← Hz.out]
      exact ⟨rfl, rfl⟩
end Go.Proofs.Ytjebldfmkpfafaa
