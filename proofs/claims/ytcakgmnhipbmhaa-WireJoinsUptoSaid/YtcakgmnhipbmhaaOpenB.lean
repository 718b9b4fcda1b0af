/- Arguments that are slices, opened, with the bulk of what they hold. -/
import Derived.Test.YtcakgmnhipbmhaaOpen
import Derived.Test.YtcakgmnhipbmhaaRows
namespace Go.Proofs.Ytcakgmnhipbmhaa
open Go.ChangeShapes Go.WideShapes Go.ChangeAt Go.RowKit Go.Deep

theorem sum_le {α β : Type} (g : α → Nat) (B : β → Nat) : ∀ (xs : List α) (ys : List β), xs.length = ys.length → (∀ (i : Nat) (x : α) (y : β), xs[i]? = some x → ys[i]? = some y → g x ≤ B y) → (xs.map g).sum ≤ (ys.map B).sum
  | [], [], _, _ => by simp
  | x :: xs, y :: ys, hl, h => by
    have h1 := sum_le g B xs ys (by simpa using hl) (fun i a b ha hb => h (i + 1) a b (by simpa using ha) (by simpa using hb))
    have h0 := h 0 x y rfl rfl
    simp only [List.map_cons, List.sum_cons]
    omega
  | [], _ :: _, hl, _ => by simp at hl
  | _ :: _, [], hl, _ => by simp at hl

theorem open_rowsB {α H : Type} {enc : TypeId × Value → H} {P : Program} {W : World} {t e : TypeId} {v : Value} {d : DataW H} {p : List MemPlace} {r : Reach} {b0 : Nat} (f : α → List Value) (good : α → Prop) (c : Nat) (hc : P.cellsOf e = c) (hc0 : 0 < c)
    (g : α → Nat) (B : DataW H → Nat) (hB : ∀ el sp, (el.map B).sum ≤ B (.slice el sp))
    (ht : P.underlying t = some (.slice e)) (hok : Value.okWide P W r b0 t v)
    (hel : ∀ n cs' x, DataW.trod enc P W 0 (fun _ => true) true n e cs' = some x → ∃ a, cs' = f a ∧ good a ∧ g a ≤ B x.1)
    (h : DataW.Trod enc P W 0 (fun _ => true) true t v d p) :
    ∃ (xs : List α) (G : List Nat), SlRows W v f c xs G ∧ (∀ a, a ∈ xs → good a) ∧ (∀ k, k ∈ G → k < W.heap.size) ∧ xs.length ≤ 9223372036854775807 ∧ (xs.map g).sum ≤ B d := by
  obtain ⟨a0, len, cap, rfl⟩ := okWide_slice ht hok
  obtain ⟨fuel, hf⟩ := h
  rcases open_slice ht hf with ⟨hcs, _⟩ | ⟨a, len', cap', m, n, D, Pl, hcs, _, hl, hcm, hm, hx, hi⟩
  · simp [Value.cells] at hcs
    obtain ⟨rfl, rfl, rfl⟩ := hcs
    exact ⟨[], [], ⟨_, _, rfl, fun h => absurd rfl h⟩, by simp, by simp, by simp, by simp⟩
  · simp [Value.cells] at hcs
    obtain ⟨rfl, rfl, rfl⟩ := hcs
    simp only [if_true] at hm
    obtain ⟨xs, hxl, hxs⟩ := list_of (Q := fun i (x : α) => W.cells? 0 (a.add (i * c)) c = some (f x) ∧ good x ∧ g x ≤ B (D i)) len (fun i hil => by
      obtain ⟨cs', h1, h2⟩ := hi i (by omega)
      obtain ⟨x, rfl, hg, hgB⟩ := hel _ _ _ h2
      exact ⟨x, by rw [← hc]; exact h1, hg, hgB⟩)
    have hgood : ∀ x, x ∈ xs → good x := fun x hx => by
      obtain ⟨i, hi'⟩ := List.mem_iff_getElem?.1 hx
      exact (hxs i x hi').2.1
    have hsum : (xs.map g).sum ≤ B d := by
      simp only [Prod.mk.injEq] at hx
      rw [hx.1]
      refine Nat.le_trans (sum_le g B xs ((List.range len).map D) (by simp [hxl]) (fun i x y hix hiy => ?_)) (hB _ _)
      rw [List.getElem?_map] at hiy
      obtain ⟨j, hj, rfl⟩ := Option.map_eq_some_iff.1 hiy
      have hjl : i < len := by
        have := (List.getElem?_eq_some_iff.1 hix).1
        omega
      rw [List.getElem?_range hjl] at hj
      simp only [Option.some.injEq] at hj
      subst hj
      exact (hxs i x hix).2.2
    by_cases h0 : xs = []
    · exact ⟨xs, [], ⟨_, _, by rw [hxl], fun h => absurd h0 h⟩, hgood, by simp, by unfold maxLen at hcm; omega, hsum⟩
    · obtain ⟨x0, hx0⟩ : ∃ x, xs[0]? = some x := ⟨xs[0]'(List.length_pos_iff.2 h0), by simp⟩
      obtain ⟨hb, hlen, hcell⟩ := World.cells?_some (hxs 0 x0 hx0).1
      have hc1 := hcell 0 hc0
      rw [List.getElem?_eq_getElem (by omega), Nat.zero_mul] at hc1
      obtain ⟨k, off, spot⟩ := a
      have hspot : spot = none := by simpa [Addr.add] using World.cell?_spot hc1
      subst hspot
      have hk : k < W.heap.size := by simpa [Addr.add] using World.block_lt_of_cell? W _ hc1
      refine ⟨xs, [k], ⟨_, _, by rw [hxl], fun _ => ⟨k, off, rfl, by simp, fun i x hix j u hj => ?_⟩⟩, hgood, one_lt hk, by unfold maxLen at hcm; omega, hsum⟩
      obtain ⟨_, hlen, hcell⟩ := World.cells?_some (hxs i x hix).1
      have hjl : j < c := by
        have := (List.getElem?_eq_some_iff.1 hj).1
        omega
      have h2 := hcell j hjl
      rw [hj] at h2
      rwa [add_plain, add_plain] at h2

theorem elem_stringB {H : Type} {enc : TypeId × Value → H} {P : Program} {W : World} {n : Nat} {cs : List Value} {x : DataW H × List MemPlace} {e : TypeId} (he : P.underlying e = some .string) (h : DataW.trod enc P W 0 (fun _ => true) true n e cs = some x) :
    ∃ s : ByteArray, cs = [.string s] ∧ s.size ≤ 9223372036854775807 ∧ s.size ≤ Rows.uptoBulk x.1 := by
  obtain ⟨s, rfl, hx, hw⟩ := DataW.trod_string he h
  refine ⟨s, rfl, by unfold maxLen at hw; omega, ?_⟩
  rw [hx]
  simp only [Rows.uptoBulk, dlen]
  omega

theorem bulk_slice {H : Type} (el sp : List (DataW H)) : (el.map Rows.uptoBulk).sum ≤ Rows.uptoBulk (.slice el sp) := by
  have h : ∀ l : List (DataW H), (l.map Rows.uptoBulk).sum = Rows.uptoBulkAll l := by
    intro l
    induction l with
    | nil => simp [Rows.uptoBulkAll]
    | cons a r ih => simp [Rows.uptoBulkAll, ih]
  rw [h]
  simp only [Rows.uptoBulk]
  omega
end Go.Proofs.Ytcakgmnhipbmhaa
