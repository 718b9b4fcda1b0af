/- Layer 2, plain: the check sum, and that a byte that is turned turns it. -/
import Derived.Test.YtjebldfmkpfafaaBase
namespace Go.Proofs.Ytjebldfmkpfafaa
set_option maxRecDepth 100000

/-- A register, moved by a bit. -/
def crcStep (x : Nat) : Nat := (x / 2) ^^^ (if x % 2 = 1 then 2197175160 else 0)
def crcSteps (x : Nat) : Nat → Nat
  | 0 => x
  | n + 1 => crcStep (crcSteps x n)
/-- A register that took a byte. -/
def crcByte (x : Nat) (c : UInt8) : Nat := crcSteps (x ^^^ c.toNat) 8
/-- A register that took bytes. -/
def crcRun (x : Nat) (l : List UInt8) : Nat := l.foldl crcByte x
/-- The check sum of bytes behind others. -/
def crcMore (x : Nat) (l : List UInt8) : Nat := 4294967295 - crcRun (4294967295 - x) l

theorem crcStep_lt {x : Nat} (h : x < 4294967296) : crcStep x < 4294967296 := by
  unfold crcStep
  have h1 : x / 2 < 2 ^ 32 := by omega
  have h2 : (if x % 2 = 1 then 2197175160 else 0) < 2 ^ 32 := by split <;> omega
  exact Nat.xor_lt_two_pow h1 h2

theorem crcSteps_lt {x : Nat} (h : x < 4294967296) : ∀ n, crcSteps x n < 4294967296
  | 0 => h
  | n + 1 => crcStep_lt (crcSteps_lt h n)

theorem xor_byte_lt {x : Nat} (h : x < 4294967296) (c : UInt8) : x ^^^ c.toNat < 4294967296 := by
  have h1 : x < 2 ^ 32 := h
  have h2 : c.toNat < 2 ^ 32 := by have := c.toNat_lt; omega
  exact Nat.xor_lt_two_pow h1 h2

theorem crcByte_lt {x : Nat} (h : x < 4294967296) (c : UInt8) : crcByte x c < 4294967296 := crcSteps_lt (xor_byte_lt h c) 8

theorem crcRun_lt : ∀ (l : List UInt8) {x : Nat}, x < 4294967296 → crcRun x l < 4294967296
  | [], _, h => h
  | c :: r, _, h => crcRun_lt r (crcByte_lt h c)

theorem crcRun_append (x : Nat) (l m : List UInt8) : crcRun x (l ++ m) = crcRun (crcRun x l) m := by unfold crcRun; rw [List.foldl_append]

theorem crcMore_lt (x : Nat) (l : List UInt8) : crcMore x l < 4294967296 := by unfold crcMore; omega

theorem crcMore_append {x : Nat} (h : x < 4294967296) (l m : List UInt8) : crcMore x (l ++ m) = crcMore (crcMore x l) m := by
  have h1 := crcRun_lt l (x := 4294967295 - x) (by omega)
  unfold crcMore
  rw [crcRun_append]
  congr 2
  omega

theorem xor_cancel_r {a b c : Nat} (h : a ^^^ c = b ^^^ c) : a = b := by
  have := congrArg (· ^^^ c) h
  simpa [Nat.xor_assoc, Nat.xor_self] using this
theorem xor_cancel_l {a b c : Nat} (h : a ^^^ b = a ^^^ c) : b = c := by
  rw [Nat.xor_comm a b, Nat.xor_comm a c] at h
  exact xor_cancel_r h

theorem crcStep_inj {x y : Nat} (hx : x < 4294967296) (hy : y < 4294967296) (h : crcStep x = crcStep y) : x = y := by
  have bit : ∀ z : Nat, z < 4294967296 → (crcStep z).testBit 31 = decide (z % 2 = 1) := by
    intro z hz
    unfold crcStep
    rw [Nat.testBit_xor, Nat.testBit_lt_two_pow (show z / 2 < 2 ^ 31 by omega)]
    by_cases h1 : z % 2 = 1
    · rw [if_pos h1]; simp [h1]; decide
    · rw [if_neg h1]; simp [h1]
  have h1 := bit x hx
  have h2 := bit y hy
  rw [h, h2] at h1
  have h3 : x % 2 = y % 2 := by
    have : (y % 2 = 1) ↔ (x % 2 = 1) := by simpa using h1
    omega
  unfold crcStep at h
  rw [h3] at h
  have h4 : x / 2 = y / 2 := xor_cancel_r h
  omega

theorem crcSteps_inj {x y : Nat} (hx : x < 4294967296) (hy : y < 4294967296) : ∀ n, crcSteps x n = crcSteps y n → x = y
  | 0, h => h
  | n + 1, h => crcSteps_inj hx hy n (crcStep_inj (crcSteps_lt hx n) (crcSteps_lt hy n) h)

theorem crcByte_inj {x y : Nat} (hx : x < 4294967296) (hy : y < 4294967296) {c : UInt8} (h : crcByte x c = crcByte y c) : x = y :=
  xor_cancel_r (crcSteps_inj (xor_byte_lt hx c) (xor_byte_lt hy c) 8 h)
theorem crcByte_inj2 {x : Nat} (hx : x < 4294967296) {c d : UInt8} (h : crcByte x c = crcByte x d) : c = d := by
  have h1 := crcSteps_inj (xor_byte_lt hx c) (xor_byte_lt hx d) 8 h
  exact UInt8.toNat_inj.1 (xor_cancel_l h1)

theorem crcRun_inj : ∀ (l : List UInt8) {x y : Nat}, x < 4294967296 → y < 4294967296 → crcRun x l = crcRun y l → x = y
  | [], _, _, _, _, h => h
  | c :: r, _, _, hx, hy, h => crcByte_inj hx hy (crcRun_inj r (crcByte_lt hx c) (crcByte_lt hy c) h)

/-- One byte is turned: the check sum is another one. -/
theorem crcMore_turned {x : Nat} (hx : x < 4294967296) (l m : List UInt8) {c d : UInt8} (hcd : c ≠ d) : crcMore x (l ++ c :: m) ≠ crcMore x (l ++ d :: m) := by
  intro h
  have h0 : 4294967295 - x < 4294967296 := by omega
  have b1 := crcRun_lt (l ++ c :: m) h0
  have b2 := crcRun_lt (l ++ d :: m) h0
  unfold crcMore at h
  have h1 : crcRun (4294967295 - x) (l ++ c :: m) = crcRun (4294967295 - x) (l ++ d :: m) := by omega
  rw [crcRun_append, crcRun_append] at h1
  have h2 := crcRun_lt l h0
  have h3 : crcByte (crcRun (4294967295 - x) l) c = crcByte (crcRun (4294967295 - x) l) d := crcRun_inj m (crcByte_lt h2 c) (crcByte_lt h2 d) h1
  exact hcd (crcByte_inj2 h2 h3)

theorem not_xor {x : Nat} (h : x < 4294967296) : 4294967295 ^^^ x = 4294967295 - x := by
  apply Nat.eq_of_testBit_eq
  intro i
  have e : 4294967295 - x = 2 ^ 32 - (x + 1) := by omega
  rw [e, Nat.testBit_two_pow_sub_succ (by omega), Nat.testBit_xor, show (4294967295 : Nat) = 2 ^ 32 - 1 by rfl, Nat.testBit_two_pow_sub_one]
  by_cases hi : i < 32
  · simp [hi]
  · have : x.testBit i = false := Nat.testBit_lt_two_pow (Nat.lt_of_lt_of_le h (show 2 ^ 32 ≤ 2 ^ i from Nat.pow_le_pow_right (by omega) (by omega)))
    simp [hi, this]

/-- A number as four bytes, the lowest one first. -/
def four (x : Nat) : List UInt8 := [UInt8.ofNat x, UInt8.ofNat (x / 256), UInt8.ofNat (x / 65536), UInt8.ofNat (x / 16777216)]
theorem four_inj {x y : Nat} (hx : x < 4294967296) (hy : y < 4294967296) (h : four x = four y) : x = y := by
  unfold four at h
  simp only [List.cons.injEq, and_true] at h
  obtain ⟨h0, h1, h2, h3⟩ := h
  have e0 := congrArg UInt8.toNat h0
  have e1 := congrArg UInt8.toNat h1
  have e2 := congrArg UInt8.toNat h2
  have e3 := congrArg UInt8.toNat h3
  simp only [UInt8.toNat_ofNat'] at e0 e1 e2 e3
  omega
end Go.Proofs.Ytjebldfmkpfafaa
