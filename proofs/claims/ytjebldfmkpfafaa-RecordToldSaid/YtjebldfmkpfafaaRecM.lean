/- Layer 10: what is read of a record: spans. -/
import Derived.Test.YtjebldfmkpfafaaRecC
import Derived.Test.YtjebldfmkpfafaaWireH
namespace Go.Proofs.Ytjebldfmkpfafaa
open Go.RowKit
set_option maxRecDepth 100000

theorem tySps : SlTy Try.prog 22 39 2 16 (.agg #[.int .i64 0, .int .i64 0]) := SlTy.mk' Try.underlying22 (by kernel_rfl) rfl (by decide)

/-- So many spans are read. -/
def rspK (l : List UInt8) (p : Nat) (er : Int) : Nat → List Sp × Nat × Int
  | 0 => ([], p, er)
  | k + 1 => ((rspK l p er k).1 ++ [(((rint l (rspK l p er k).2.1 (rspK l p er k).2.2 65536).1 : Int), ((rint l (rint l (rspK l p er k).2.1 (rspK l p er k).2.2 65536).2.1 (rint l (rspK l p er k).2.1 (rspK l p er k).2.2 65536).2.2 65536).1 : Int))],
      (rint l (rint l (rspK l p er k).2.1 (rspK l p er k).2.2 65536).2.1 (rint l (rspK l p er k).2.1 (rspK l p er k).2.2 65536).2.2 65536).2)
theorem rspK_len (l : List UInt8) (p : Nat) (er : Int) : ∀ k, (rspK l p er k).1.length = k
  | 0 => rfl
  | k + 1 => by rw [rspK, List.length_append, rspK_len l p er k]; rfl
theorem rspK_le (l : List UInt8) (p : Nat) (er : Int) (hp : p ≤ l.length) : ∀ k, (rspK l p er k).2.1 ≤ l.length
  | 0 => hp
  | k + 1 => by
    have h := rspK_le l p er hp k
    have h1 := (rint_facts l _ (rspK l p er k).2.2 65536 h).1
    exact (rint_facts l _ (rint l (rspK l p er k).2.1 (rspK l p er k).2.2 65536).2.2 65536 h1).1
theorem rint_most (l : List UInt8) (p : Nat) (er most : Int) (hp : p ≤ l.length) (hm : 0 ≤ most) : ((rint l p er most).1 : Int) ≤ most := by
  obtain ⟨_, h2, h3⟩ := rint_facts l p er most hp
  by_cases h : (rint l p er most).2.2 = 0
  · exact (h3 h).2
  · rw [(h2 h).1]; omega
theorem rspK_bd (l : List UInt8) (p : Nat) (er : Int) (hp : p ≤ l.length) : ∀ k, ∀ s, s ∈ (rspK l p er k).1 → 0 ≤ s.1 ∧ s.1 ≤ 65536 ∧ 0 ≤ s.2 ∧ s.2 ≤ 65536
  | 0, s, h => by simp [rspK] at h
  | k + 1, s, h => by
    rw [rspK, List.mem_append, List.mem_singleton] at h
    rcases h with h | h
    · exact rspK_bd l p er hp k s h
    · have h0 := rspK_le l p er hp k
      have h1 := rint_most l _ (rspK l p er k).2.2 65536 h0 (by decide)
      have h2 := rint_most l _ (rint l (rspK l p er k).2.1 (rspK l p er k).2.2 65536).2.2 65536 (rint_facts l _ (rspK l p er k).2.2 65536 h0).1 (by decide)
      rw [h]
      dsimp only
      omega

theorem own_lt {w : World} {e : TypeId} {size n : Nat} {v : Value} {xs : List Value} (h : w.ownsRow 0 e size v n xs) : ∀ x, x ∈ v.ownBlock.toList → x < w.heap.size := by
  intro x hx
  rcases h.2 with ⟨rfl, _⟩ | ⟨g, cap, cur, rfl, _, hg, _⟩
  · simp [Value.ownBlock] at hx
  · simp [Value.ownBlock] at hx
    subst hx
    exact (Array.getElem?_eq_some_iff.1 hg).1

/-- The record that is being read, at block c, its spans its own. -/
def RecAt (w : World) (c : Nat) (r : Rc) (F : List Nat) : Prop :=
  ∃ sv, w.heap[c]? = some (.cells #[.int .i64 r.ep, .int .i64 r.nr, .int .i64 r.kd, sv, .string (str r.dt), .string (str r.tx)] 24 (0, 0)) ∧ F = c :: sv.ownBlock.toList ∧ w.ownsRow 0 39 2 sv r.sp.length (r.sp.flatMap spV)
theorem RecAt.keep {w w' : World} {c : Nat} {r : Rc} {F G : List Nat} (h : RecAt w c r F) (k : Keeps G w w') (hd : ∀ x, x ∈ F → x ∉ G) : RecAt w' c r F := by
  obtain ⟨sv, h1, rfl, h2⟩ := h
  exact ⟨sv, k.some h1 (hd c (by simp)), rfl, own_keep h2 k (fun x hx => hd x (by simp [hx]))⟩
theorem RecAt.lt {w : World} {c : Nat} {r : Rc} {F : List Nat} (h : RecAt w c r F) : ∀ x, x ∈ F → x < w.heap.size := by
  obtain ⟨sv, h1, rfl, h2⟩ := h
  intro x hx
  rcases List.mem_cons.1 hx with rfl | hx
  · exact (Array.getElem?_eq_some_iff.1 h1).1
  · exact own_lt h2 x hx
end Go.Proofs.Ytjebldfmkpfafaa
