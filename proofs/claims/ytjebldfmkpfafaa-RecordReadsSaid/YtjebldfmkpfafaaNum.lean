/- Plain: a number's bytes and the number of bytes. -/
import Derived.Test.YtjebldfmkpfafaaRecP
namespace Go.Proofs.Ytjebldfmkpfafaa
open Go.RowKit
set_option maxRecDepth 100000

theorem bnum_snoc (l : List UInt8) (c : UInt8) : num (l ++ [c]) = num l * 256 + c.toNat := by simp [num, List.foldl_append]
theorem bnum_lt (l : List UInt8) : num l < 256 ^ l.length := by
  suffices h : ∀ n (l : List UInt8), l.length = n → num l < 256 ^ n from h _ l rfl
  intro n
  induction n with
  | zero => intro l hl; rw [List.eq_nil_of_length_eq_zero hl]; simp [num]
  | succ n ih =>
    intro l hl
    obtain ⟨l', c, rfl⟩ : ∃ l' c, l = l' ++ [c] := ⟨l.dropLast, l.getLast (by intro h; simp [h] at hl), (List.dropLast_concat_getLast _).symm⟩
    rw [bnum_snoc, Nat.pow_succ]
    have := ih l' (by simpa using hl)
    have := c.toNat_lt
    omega
theorem bnum_lt' {l : List UInt8} {n : Nat} (h : l.length ≤ n) : num l < 256 ^ n := Nat.lt_of_lt_of_le (bnum_lt l) (Nat.pow_le_pow_right (by omega) h)

theorem bnum_foldl (l : List UInt8) : ∀ a : Nat, l.foldl (fun x c => x * 256 + c.toNat) a = a * 256 ^ l.length + num l := by
  induction l with
  | nil => intro a; simp [num]
  | cons c l ih =>
    intro a
    have h1 := ih (a * 256 + c.toNat)
    have h2 := ih (0 * 256 + c.toNat)
    unfold num
    simp only [List.foldl_cons, List.length_cons] at *
    rw [h1, h2]
    have e : a * 256 * 256 ^ l.length = a * (256 ^ l.length * 256) := by rw [Nat.mul_assoc, Nat.mul_comm 256]
    simp only [Nat.zero_mul, Nat.zero_add, Nat.pow_succ, Nat.add_mul]
    omega
theorem bnum_cons (c : UInt8) (l : List UInt8) : num (c :: l) = c.toNat * 256 ^ l.length + num l := by
  have := bnum_foldl l (0 * 256 + c.toNat)
  rw [show num (c :: l) = l.foldl (fun x c => x * 256 + c.toNat) (0 * 256 + c.toNat) from rfl, this]
  simp only [Nat.zero_mul, Nat.zero_add]

theorem bnum_be (x n : Nat) : num (be x n) = x % 256 ^ n := by
  induction n with
  | zero => simp [be, num, Nat.mod_one]
  | succ n ih =>
    rw [be, bnum_cons, be_length, ih, Nat.mod_pow_succ, Nat.mul_comm]
    simp only [UInt8.toNat_ofNat', Nat.reducePow]
    omega
theorem bnum_be_lt {x n : Nat} (h : x < 256 ^ n) : num (be x n) = x := by rw [bnum_be, Nat.mod_eq_of_lt h]

theorem bwrap_byte (c : UInt8) : IntKind.u64.wrap (c.toNat : Int) = (c.toNat : Int) := by
  have := c.toNat_lt
  exact IntWalk.u64_in _ ⟨by omega, by omega⟩

theorem byte_of {x k X : Nat} (h : X = x / 256 ^ k) : Value.int .u8 ((X : Int) % 256) = u8v (UInt8.ofNat (x / 256 ^ k)) := by
  unfold u8v
  rw [← h]
  simp only [UInt8.toNat_ofNat', Value.int.injEq, true_and]
  omega
end Go.Proofs.Ytjebldfmkpfafaa
