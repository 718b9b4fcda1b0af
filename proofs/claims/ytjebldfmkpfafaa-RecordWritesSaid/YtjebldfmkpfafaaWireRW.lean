/- Layer 3, the laws' own: what write and read do. -/
import Derived.Test.YtjebldfmkpfafaaWireOps
namespace Go.Proofs.Ytjebldfmkpfafaa
open Go.RowKit
set_option maxRecDepth 100000

/-- The bytes that a call writes. -/
def wby (o : OpR) : List UInt8 :=
  if o.kind = 0 then (if o.n < 1 ∨ 8 < o.n then [] else be o.x o.n.toNat)
  else if o.kind = 1 ∨ o.kind = 4 then vby o.x
  else if o.kind = 2 then vby o.s.size ++ o.s.data.toList
  else o.s.data.toList
/-- What is wrong with it. -/
def werr (o : OpR) : Int := if o.kind = 0 ∧ (o.n < 1 ∨ 8 < o.n) then 1 else 0

abbrev OpR.agg (o : OpR) : Value := .agg #[.int .i64 o.kind, .int .u64 o.x, .string o.s, .int .i64 o.n]

theorem wby_le (o : OpR) : (wby o).length ≤ o.s.size + 17 := by
  have h1 := vsz_bd o.x
  have h2 := vsz_bd o.s.size
  unfold wby
  split
  · split
    · simp
    · rw [be_length]; omega
  · split
    · rw [vby_length]; omega
    · split
      · simp [vby_length]; omega
      · simp

/-- What a call reads: the number, the text, where the reader stands then, and what is wrong. -/
def rop (l : List UInt8) (p : Nat) (er : Int) (o : OpR) : Nat × List UInt8 × Nat × Int :=
  if o.kind = 0 then ((rfixed l p er o.n).1, [], (rfixed l p er o.n).2)
  else if o.kind = 1 then ((rvar l p er).1, [], (rvar l p er).2)
  else if o.kind = 2 then (0, (rtext l p er o.n).1, (rtext l p er o.n).2)
  else if o.kind = 4 then ((rint l p er o.n).1, [], (rint l p er o.n).2)
  else (0, (rraw l p er o.n).1, (rraw l p er o.n).2)

end Go.Proofs.Ytjebldfmkpfafaa
