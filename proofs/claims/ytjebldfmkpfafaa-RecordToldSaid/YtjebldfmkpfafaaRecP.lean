/- Layer 10, plain: a record, what is wrong with it, its head; no program in sight. -/
import Derived.Test.YtjebldfmkpfafaaWireMath
import Derived.Test.YtjebldfmkpfafaaCrcPure
import Derived.Test.YtjebldfmkpfafaaCrcB
namespace Go.Proofs.Ytjebldfmkpfafaa

abbrev Sp := Int × Int
def maySp (s : Sp) : Bool := decide (0 ≤ s.1) && decide (s.1 ≤ 65536) && decide (1 ≤ s.2) && decide (s.2 ≤ 65536 - s.1)
def totS : List Sp → Int
  | [] => 0
  | s :: r => s.2 + totS r

structure Rc where
  ep : Int
  nr : Int
  kd : Int
  sp : List Sp
  dt : List UInt8
  tx : List UInt8

namespace Rc
def spok (r : Rc) : Bool := decide (1 ≤ r.sp.length) && decide (r.sp.length ≤ 64) && decide (r.tx = []) && r.sp.all maySp
def written (r : Rc) : Int := if r.spok = false ∨ 512 < totS r.sp then 1 else if (r.dt.length : Int) ≠ totS r.sp * 64 then 30 else 0
def trimmed (r : Rc) : Int := if r.spok = false ∨ r.dt ≠ [] then 1 else 0
def noted (r : Rc) : Int := if 0 < r.sp.length ∨ r.dt ≠ [] ∨ 512 < r.tx.length then 1 else 0
def nums (r : Rc) : Prop := 0 ≤ r.ep ∧ r.ep < 4294967296 ∧ 0 ≤ r.nr ∧ r.nr < 1099511627776
instance (r : Rc) : Decidable r.nums := by unfold nums; infer_instance
def check (r : Rc) : Int :=
  if r.nums then (if r.kd = 1 then r.written else if r.kd = 2 then r.trimmed else if r.kd = 3 then r.noted else 14) else 31

/-- The spans, as they are written. -/
def spB (l : List Sp) : List UInt8 := l.flatMap fun s => vby s.1.toNat ++ vby s.2.toNat
def bodyB (r : Rc) (sum : Nat) : List UInt8 :=
  vby r.ep.toNat ++ vby r.nr.toNat ++ vby r.kd.toNat ++ (if r.kd = 3 then vby r.tx.length ++ r.tx else vby r.sp.length ++ spB r.sp) ++ (if r.kd = 1 then be sum 4 else [])
def secs (n : Nat) : Nat := (n + 71) / 64
def foreB (b : List UInt8) : List UInt8 := [76, 82] ++ be (secs b.length) 2 ++ b ++ List.replicate (secs b.length * 64 - 8 - b.length) 0
def headB (r : Rc) (sum : Nat) : List UInt8 := foreB (r.bodyB sum) ++ four (crcMore 0 (foreB (r.bodyB sum)))
def enc (r : Rc) : List UInt8 := r.headB (crcMore 0 r.dt) ++ r.dt
end Rc

theorem maySp_bd {s : Sp} (h : maySp s = true) : 0 ≤ s.1 ∧ s.1 ≤ 65536 ∧ 1 ≤ s.2 ∧ s.2 ≤ 65536 ∧ s.1 + s.2 ≤ 65536 := by
  unfold maySp at h
  simp only [Bool.and_eq_true, decide_eq_true_eq] at h
  omega
theorem totS_snoc : ∀ (l : List Sp) (s : Sp), totS (l ++ [s]) = totS l + s.2
  | [], s => by show s.2 + 0 = 0 + s.2; omega
  | x :: r, s => by
    show x.2 + totS (r ++ [s]) = x.2 + totS r + s.2
    rw [totS_snoc r s]; omega
theorem totS_bd : ∀ (l : List Sp), (∀ s, s ∈ l → 0 ≤ s.2 ∧ s.2 ≤ 65536) → 0 ≤ totS l ∧ totS l ≤ 65536 * l.length
  | [], _ => ⟨Int.le_refl _, by show (0 : Int) ≤ 65536 * ((0 : Nat) : Int); omega⟩
  | s :: r, h => by
    have h1 := h s (by simp)
    have h2 := totS_bd r (fun x hx => h x (List.mem_cons_of_mem _ hx))
    show 0 ≤ s.2 + totS r ∧ s.2 + totS r ≤ 65536 * ((r.length + 1 : Nat) : Int)
    omega
theorem Rc.spok_spec {r : Rc} (h : r.spok = true) : 1 ≤ r.sp.length ∧ r.sp.length ≤ 64 ∧ r.tx = [] ∧ ∀ s, s ∈ r.sp → maySp s = true := by
  unfold Rc.spok at h
  simp only [Bool.and_eq_true, decide_eq_true_eq, List.all_eq_true] at h
  exact ⟨h.1.1.1, h.1.1.2, h.1.2, h.2⟩
end Go.Proofs.Ytjebldfmkpfafaa
