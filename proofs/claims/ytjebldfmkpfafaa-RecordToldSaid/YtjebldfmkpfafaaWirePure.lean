/- Layer 3, plain: bytes of numbers, and what a reader answers; no program in sight. -/
import Derived.Lib.BitFns
import Derived.Lib.ItoaNum
namespace Go.Proofs.Ytjebldfmkpfafaa
set_option maxRecDepth 100000

/-- So many bytes of a number, the high one first. -/
def be (x : Nat) : Nat → List UInt8
  | 0 => []
  | n + 1 => UInt8.ofNat (x / 256 ^ n) :: be x n

/-- The number of bytes, the high one first. -/
def num (l : List UInt8) : Nat := l.foldl (fun x c => x * 256 + c.toNat) 0

/-- How many bytes a number needs. -/
def vsz (x : Nat) : Nat := min (max ((Go.Lib.bitLen x + 6) / 7) 1) 9

/-- The bits of a first byte that tell that there are n. -/
def vhd (n : Nat) : Nat := 256 - 2 ^ (9 - n)

/-- A number in few bytes. -/
def vby (x : Nat) : List UInt8 := if vsz x = 9 then 255 :: be x 8 else UInt8.ofNat (x / 256 ^ (vsz x - 1) + vhd (vsz x)) :: be x (vsz x - 1)

/-- What the next n bytes are, where the reader stands then, and what is wrong. -/
def rtake (l : List UInt8) (p : Nat) (er : Int) (n : Nat) : List UInt8 × Nat × Int :=
  if er ≠ 0 then ([], p, er) else if l.length - p < n then ([], p, 10) else ((l.drop p).take n, p + n, 0)

def rfixed (l : List UInt8) (p : Nat) (er : Int) (n : Int) : Nat × Nat × Int :=
  if er = 0 ∧ (n < 1 ∨ 8 < n) then (0, p, 1) else (num (rtake l p er n.toNat).1, (rtake l p er n.toNat).2)

/-- How many bytes a first byte tells. -/
def vlead (c : UInt8) : Nat := 9 - Go.Lib.bitLen (255 - c.toNat)

/-- The number of so many bytes, of which the first tells how many there are. -/
def vval (t : List UInt8) : Nat :=
  if t.length < 9 then (t.headD 0).toNat % 2 ^ (9 - t.length) * 256 ^ (t.length - 1) + num t.tail else num t.tail

def rvar (l : List UInt8) (p : Nat) (er : Int) : Nat × Nat × Int :=
  if er ≠ 0 then (0, p, er) else if l.length ≤ p then (0, p, 10) else
  let n := vlead (l.getD p 0)
  if l.length - p < n then (0, p, 10) else
  let x := vval ((l.drop p).take n)
  if vsz x = n then (x, p + n, 0) else (0, p, 12)

def rint (l : List UInt8) (p : Nat) (er : Int) (most : Int) : Nat × Nat × Int :=
  let r := rvar l p er
  if r.2.2 = 0 ∧ (most < 0 ∨ most < (r.1 : Int)) then (0, p, 12) else r

def rtext (l : List UInt8) (p : Nat) (er : Int) (most : Int) : List UInt8 × Nat × Int :=
  let r := rint l p er most
  let t := rtake l r.2.1 r.2.2 r.1
  if t.2.2 ≠ 0 then ([], p, t.2.2) else t

def rraw (l : List UInt8) (p : Nat) (er : Int) (n : Int) : List UInt8 × Nat × Int :=
  if er = 0 ∧ n < 0 then ([], p, 1) else rtake l p er n.toNat

/-- What is wrong, or that bytes are left. -/
def rdone (l : List UInt8) (p : Nat) (er : Int) : Int := if er ≠ 0 then er else if p < l.length then 11 else 0

theorem bitLen_lt {x k : Nat} (hx : x < 2 ^ 64) (h : Go.Lib.bitLen x ≤ k) : x < 2 ^ k := by
  by_cases h0 : x = 0
  · rw [h0]; exact Nat.pow_pos (by omega)
  · obtain ⟨_, _, h3⟩ := Go.Lib.bitLenAux_bounds 64 x hx h0
    exact Nat.lt_of_lt_of_le h3 (Nat.pow_le_pow_right (by omega) h)

theorem vsz_bd (x : Nat) : 1 ≤ vsz x ∧ vsz x ≤ 9 := by unfold vsz; omega

/-- A number of n bytes, n at most 8, is below 128 ^ n. -/
theorem vsz_lt {x : Nat} (hx : x < 2 ^ 64) (h : vsz x < 9) : x < 2 ^ (7 * vsz x) := bitLen_lt hx (by unfold vsz at *; omega)
/-- And so the other way round. -/
theorem vsz_le {x n : Nat} (hn : 1 ≤ n) (hn8 : n ≤ 9) (h : x < 2 ^ (7 * n)) : vsz x ≤ n := by
  have := Go.Lib.bitLen_le x (7 * n) (by omega) h
  unfold vsz; omega

theorem be_length (x n : Nat) : (be x n).length = n := by induction n with
  | zero => rfl
  | succ n ih => simp [be, ih]

theorem vby_length (x : Nat) : (vby x).length = vsz x := by
  have := vsz_bd x
  unfold vby
  split
  · rename_i h; simp [be_length, h]
  · simp [be_length]; omega

end Go.Proofs.Ytjebldfmkpfafaa
