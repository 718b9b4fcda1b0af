/- Arguments of bytes and of whole numbers, opened. -/
import Derived.Test.YtjebldfmkpfafaaOpen
namespace Go.Proofs.Ytjebldfmkpfafaa
open Go.ChangeShapes Go.WideShapes Go.ChangeAt Go.RowKit Go.Deep
set_option maxRecDepth 100000

theorem wf_u8 {a : Int} (h : (Lit.int .u8 a).wf = true) : 0 ≤ a ∧ a ≤ 255 := by
  simp [Lit.wf, IntKind.min, IntKind.max, IntKind.signed, IntKind.bits] at h
  omega

theorem elem_u8 {H : Type} {enc : TypeId × Value → H} {P : Program} {W : World} {n : Nat} {cs : List Value} {x : DataW H × List MemPlace} {e : TypeId} (he : P.underlying e = some (.int .u8)) (h : DataW.trod enc P W 0 (fun _ => true) true n e cs = some x) : ∃ c : UInt8, cs = [u8v c] ∧ True := by
  obtain ⟨a, rfl, _, hw⟩ := DataW.trod_int he h
  obtain ⟨h0, h1⟩ := wf_u8 hw
  refine ⟨UInt8.ofNat a.toNat, ?_, trivial⟩
  unfold u8v
  congr 2
  simp only [UInt8.toNat_ofNat']
  omega

theorem elem_int {H : Type} {enc : TypeId × Value → H} {P : Program} {W : World} {n : Nat} {cs : List Value} {x : DataW H × List MemPlace} {e : TypeId} (he : P.underlying e = some (.int .i64)) (h : DataW.trod enc P W 0 (fun _ => true) true n e cs = some x) : ∃ a : Int, cs = [.int .i64 a] ∧ -9223372036854775808 ≤ a ∧ a ≤ 9223372036854775807 := by
  obtain ⟨a, h1, h2⟩ := elem_i64 he h
  exact ⟨a, h1, h2⟩

/-- A slice that is an element's part, opened. -/
theorem open_inner {α H : Type} {enc : TypeId × Value → H} {P : Program} {W : World} {t e : TypeId} {v : Value} {m : Nat} {y : DataW H × List MemPlace} (f : α → List Value) (good : α → Prop) (c : Nat) (hc : P.cellsOf e = c) (hc0 : 0 < c)
    (ht : P.underlying t = some (.slice e))
    (hel : ∀ n cs' x, DataW.trod enc P W 0 (fun _ => true) true n e cs' = some x → ∃ a, cs' = f a ∧ good a)
    (hf : DataW.trod enc P W 0 (fun _ => true) true m t [v] = some y) :
    ∃ (xs : List α) (G : List Nat), SlRows W v f c xs G ∧ (∀ a, a ∈ xs → good a) ∧ (∀ k, k ∈ G → k < W.heap.size) ∧ xs.length ≤ 9223372036854775807 := by
  rcases open_slice ht hf with ⟨hcs, _⟩ | ⟨a, len', cap', m, n, D, Pl, hcs, _, hl, hcm, hm, _, hi⟩
  · simp at hcs
    subst hcs
    exact ⟨[], [], ⟨_, _, rfl, fun h => absurd rfl h⟩, by simp, by simp, by simp⟩
  · simp at hcs
    subst hcs
    simp only [if_true] at hm
    obtain ⟨xs, hxl, hxs⟩ := list_of (Q := fun i (x : α) => W.cells? 0 (a.add (i * c)) c = some (f x) ∧ good x) len' (fun i hil => by
      obtain ⟨cs', h1, h2⟩ := hi i (by omega)
      obtain ⟨x, rfl, hg⟩ := hel _ _ _ h2
      exact ⟨x, by rw [← hc]; exact h1, hg⟩)
    have hgood : ∀ x, x ∈ xs → good x := fun x hx => by
      obtain ⟨i, hi'⟩ := List.mem_iff_getElem?.1 hx
      exact (hxs i x hi').2
    by_cases h0 : xs = []
    · exact ⟨xs, [], ⟨_, _, by rw [hxl], fun h => absurd h0 h⟩, hgood, by simp, by unfold maxLen at hcm; omega⟩
    · obtain ⟨x0, hx0⟩ : ∃ x, xs[0]? = some x := ⟨xs[0]'(List.length_pos_iff.2 h0), by simp⟩
      obtain ⟨hb, hlen, hcell⟩ := World.cells?_some (hxs 0 x0 hx0).1
      have hc1 := hcell 0 hc0
      rw [List.getElem?_eq_getElem (by omega), Nat.zero_mul] at hc1
      obtain ⟨k, off, spot⟩ := a
      have hspot : spot = none := by simpa [Addr.add] using World.cell?_spot hc1
      subst hspot
      have hk : k < W.heap.size := by simpa [Addr.add] using World.block_lt_of_cell? W _ hc1
      refine ⟨xs, [k], ⟨_, _, by rw [hxl], fun _ => ⟨k, off, rfl, by simp, fun i x hix j u hj => ?_⟩⟩, hgood, one_lt hk, by unfold maxLen at hcm; omega⟩
      obtain ⟨_, hlen, hcell⟩ := World.cells?_some (hxs i x hix).1
      have hjl : j < c := by
        have := (List.getElem?_eq_some_iff.1 hj).1
        omega
      have h2 := hcell j hjl
      rw [hj] at h2
      rwa [add_plain, add_plain] at h2
end Go.Proofs.Ytjebldfmkpfafaa
