/- Layer 6, plain: rising lists. -/
import Derived.Test.YtdjhlnkkbpmfmaaDoorBase
import Derived.Lib.SlicesCompact
namespace Go.Proofs.YtdjhlnkkbpmfmaaDoor
open Go.Lib

def Rises (l : List Int) : Prop := l.Pairwise (· < ·)

theorem rises_same : ∀ (xs ys : List Int), Rises xs → Rises ys → (∀ x, x ∈ xs ↔ x ∈ ys) → xs = ys
  | [], [], _, _, _ => rfl
  | [], y :: ys, _, _, h => absurd ((h y).2 (by simp)) (by simp)
  | x :: xs, [], _, _, h => absurd ((h x).1 (by simp)) (by simp)
  | x :: xs, y :: ys, hx, hy, h => by
    have hx' := List.pairwise_cons.1 hx
    have hy' := List.pairwise_cons.1 hy
    have e : x = y := by
      rcases List.mem_cons.1 ((h x).1 (by simp)) with e | e
      · exact e
      · rcases List.mem_cons.1 ((h y).2 (by simp)) with e2 | e2
        · exact e2.symm
        · have h1 := hy'.1 x e
          have h2 := hx'.1 y e2
          omega
    subst e
    congr 1
    refine rises_same xs ys hx'.2 hy'.2 (fun z => ?_)
    have hz := h z
    rw [List.mem_cons, List.mem_cons] at hz
    constructor
    · intro hm
      have h1 := hx'.1 z hm
      rcases hz.1 (.inr hm) with e | e
      · omega
      · exact e
    · intro hm
      have h1 := hy'.1 z hm
      rcases hz.2 (.inr hm) with e | e
      · omega
      · exact e

/-- What a rising list is behind one number more. -/
def insertR (W : List Int) (n : Int) (at' : Nat) : List Int := W.take at' ++ [n] ++ W.drop at'
theorem insert_rises {W : List Int} {n : Int} {k : Nat} (hW : Rises W) (h1 : ∀ x, x ∈ W.take k → x < n) (h2 : ∀ x, x ∈ W.drop k → n < x) : Rises (insertR W n k) ∧ ∀ x, x ∈ insertR W n k ↔ x = n ∨ x ∈ W := by
  have hs := hW
  unfold Rises at hs
  rw [← List.take_append_drop k W, List.pairwise_append] at hs
  obtain ⟨s1, s2, s3⟩ := hs
  refine ⟨?_, fun x => ?_⟩
  · unfold Rises insertR
    rw [List.pairwise_append, List.pairwise_append]
    refine ⟨⟨s1, by simp, fun x hx y hy => ?_⟩, s2, fun x hx y hy => ?_⟩
    · rw [List.mem_singleton] at hy
      rw [hy]
      exact h1 x hx
    · rcases List.mem_append.1 hx with hx | hx
      · exact s3 x hx y hy
      · rw [List.mem_singleton] at hx
        rw [hx]
        exact h2 y hy
  · unfold insertR
    rw [List.mem_append, List.mem_append, List.mem_singleton]
    have := List.mem_append (a := x) (s := W.take k) (t := W.drop k)
    rw [List.take_append_drop] at this
    rw [this]
    constructor
    · rintro ((h | h) | h)
      · exact .inr (.inl h)
      · exact .inl h
      · exact .inr (.inr h)
    · rintro (h | h | h)
      · exact .inl (.inr h)
      · exact .inl (.inl h)
      · exact .inr h
/-- Where it belongs. -/
theorem rises_drop {W : List Int} {n : Int} {k : Nat} (hW : Rises W) (hk : ∀ x, W[k]? = some x → n < x) : ∀ x, x ∈ W.drop k → n < x := by
  intro x hx
  obtain ⟨j, hj, rfl⟩ := List.getElem_of_mem hx
  rw [List.length_drop] at hj
  rw [List.getElem_drop]
  have h0 := hk (W[k]'(by omega)) (List.getElem?_eq_getElem (by omega))
  by_cases hj0 : j = 0
  · subst hj0; simpa using h0
  · have := List.pairwise_iff_getElem.1 hW k (k + j) (by omega) (by omega) (by omega)
    omega

/-- Compact of what does not fall rises, and has the same numbers. -/
theorem compact_rises (zs : List Int) (hs : zs.Pairwise (· ≤ ·)) : Rises (compact zs) ∧ ∀ x, x ∈ compact zs ↔ x ∈ zs := by
  have key : ∀ m, m ≤ zs.length → Rises (compactUpTo zs.toArray m) ∧ (∀ x, x ∈ compactUpTo zs.toArray m ↔ x ∈ zs.take m) ∧ (∀ x, x ∈ compactUpTo zs.toArray m → ∀ h : 0 < m ∧ m - 1 < zs.length, x ≤ zs[m - 1]'h.2) := by
    intro m
    induction m with
    | zero => intro _; exact ⟨by simp [compactUpTo, Rises], by simp [compactUpTo], by simp [compactUpTo]⟩
    | succ m ih =>
      intro hm
      obtain ⟨h1, h2, h3⟩ := ih (by omega)
      have hml : m < zs.length := by omega
      have e1 : zs.toArray[m]! = zs[m] := by simp [hml]
      rw [compactUpTo_succ]
      have ht : zs.take (m + 1) = zs.take m ++ [zs[m]] := List.take_succ_eq_append_getElem hml
      by_cases h0 : m = 0
      · subst h0
        have hk : keeps zs.toArray 0 = true := by simp [keeps]
        have hz : compactUpTo zs.toArray 0 = [] := by simp [compactUpTo]
        rw [if_pos hk, hz, List.nil_append, ht, e1]
        refine ⟨by simp [Rises], by simp, ?_⟩
        intro x hx h
        rw [List.mem_singleton] at hx
        rw [hx]
        exact Int.le_refl _
      have hle : zs[m - 1]'(by omega) ≤ zs[m] := List.pairwise_iff_getElem.1 hs (m - 1) m (by omega) hml (by omega)
      have e2 : zs.toArray[m - 1]! = zs[m - 1]'(by omega) := by
        have : m - 1 < zs.length := by omega
        simp [this]
      by_cases hk : keeps zs.toArray m = true
      · rw [if_pos hk, ht, e1]
        have hne : zs[m] ≠ zs[m - 1]'(by omega) := by
          unfold keeps at hk
          rw [decide_eq_true_eq, e1, e2] at hk
          exact hk.resolve_left h0
        refine ⟨?_, fun x => by rw [List.mem_append, List.mem_append, h2 x], ?_⟩
        · unfold Rises
          rw [List.pairwise_append]
          refine ⟨h1, by simp, fun x hx y hy => ?_⟩
          rw [List.mem_singleton] at hy
          have := h3 x hx ⟨by omega, by omega⟩
          omega
        · intro x hx h
          rcases List.mem_append.1 hx with hx | hx
          · have := h3 x hx ⟨by omega, by omega⟩
            simp only [Nat.add_sub_cancel]
            omega
          · rw [List.mem_singleton] at hx
            rw [hx]
            simp
      · rw [if_neg hk, List.append_nil, ht]
        have heq : zs[m] = zs[m - 1]'(by omega) := by
          unfold keeps at hk
          rw [decide_eq_true_eq, e1, e2] at hk
          by_cases h : zs[m] = zs[m - 1]'(by omega)
          · exact h
          · exact absurd (.inr h) hk
        refine ⟨h1, fun x => ?_, ?_⟩
        · rw [h2 x, List.mem_append, List.mem_singleton]
          constructor
          · exact .inl
          · rintro (h | h)
            · exact h
            · rw [h, heq]
              rw [List.mem_take_iff_getElem]
              exact ⟨m - 1, by omega, rfl⟩
        · intro x hx h
          have := h3 x hx ⟨by omega, by omega⟩
          simp only [Nat.add_sub_cancel]
          omega
  have := key zs.length (Nat.le_refl _)
  rw [List.take_length] at this
  exact ⟨this.1, this.2.1⟩

theorem sort_falls (zs : List Int) : (zs.mergeSort fun x y => decide (x ≤ y)).Pairwise (· ≤ ·) := by
  have h := List.pairwise_mergeSort (le := fun x y : Int => decide (x ≤ y)) (fun a b c h1 h2 => by simp at *; omega) (fun a b => by simp; omega) zs
  exact h.imp (fun h => by simpa using h)
/-- Sorted, compacted: it is the rising list of the same numbers. -/
theorem sorted_rises (zs W : List Int) (hW : Rises W) (h : ∀ x, x ∈ W ↔ x ∈ zs) : compact (zs.mergeSort fun x y => decide (x ≤ y)) = W := by
  obtain ⟨h1, h2⟩ := compact_rises _ (sort_falls zs)
  refine rises_same _ _ h1 hW (fun x => ?_)
  rw [h2, h, List.mem_mergeSort]
end Go.Proofs.YtdjhlnkkbpmfmaaDoor
