/- Arguments that are slices, opened: each element's cells. -/
import Derived.Test.YtjebldfmkpfafaaLaw
import Derived.Deep.Slices
import Derived.Deep.Fields
namespace Go.Proofs.Ytjebldfmkpfafaa
open Go.ChangeShapes Go.WideShapes Go.ChangeAt Go.RowKit Go.Deep
set_option maxRecDepth 100000
open Go.ChangeMaps (open_string shut_string)

theorem ret_bool {a b : Bool} (h : a = b) : Ending.returned (.bool a) = .returned (.bool b) := by rw [h]

/-- The slice value v has elements xs; each has the cells f x, c of them; G: the block that they lie in. -/
def SlRows {α : Type} (w : World) (v : Value) (f : α → List Value) (c : Nat) (xs : List α) (G : List Nat) : Prop :=
  ∃ ad cap, v = .slice ad xs.length cap ∧ (xs ≠ [] → ∃ k off, ad = some ⟨k, off, none⟩ ∧ k ∈ G ∧ ∀ i a, xs[i]? = some a → ∀ j u, (f a)[j]? = some u → w.cell? ⟨k, off + i * c + j, none⟩ = some u)

theorem SlRows.keep {α : Type} {w w' : World} {v : Value} {f : α → List Value} {c : Nat} {xs : List α} {F G : List Nat} (h : SlRows w v f c xs G) (k : Keeps F w w') (hd : ∀ x, x ∈ G → x ∉ F) : SlRows w' v f c xs G := by
  obtain ⟨ad, cap, rfl, h2⟩ := h
  refine ⟨ad, cap, rfl, fun h0 => ?_⟩
  obtain ⟨b, off, rfl, hb, hc⟩ := h2 h0
  refine ⟨b, off, rfl, hb, fun i a hi j u hj => ?_⟩
  have := hc i a hi j u hj
  rw [← this]
  exact k.cell (World.block_lt_of_cell? w _ this) (hd _ hb)

/-- Elements of one cell each. -/
theorem SlRows.slAt {α : Type} {w : World} {v : Value} {f : α → Value} {xs : List α} {G : List Nat} (h : SlRows w v (fun a => [f a]) 1 xs G) : SlAt w v (xs.map f) G := by
  obtain ⟨ad, cap, rfl, h2⟩ := h
  refine ⟨ad, cap, by rw [List.length_map], fun h0 => ?_⟩
  obtain ⟨b, off, rfl, hb, hc⟩ := h2 (by simpa using h0)
  refine ⟨b, off, rfl, hb, fun j u hj => ?_⟩
  rw [List.getElem?_map] at hj
  obtain ⟨a, ha, rfl⟩ := Option.map_eq_some_iff.1 hj
  have := hc j a ha 0 (f a) rfl
  rwa [Nat.mul_one, Nat.add_zero] at this

theorem list_of {α : Type} {Q : Nat → α → Prop} : ∀ n : Nat, (∀ i, i < n → ∃ a, Q i a) → ∃ xs : List α, xs.length = n ∧ ∀ i a, xs[i]? = some a → Q i a
  | 0, _ => ⟨[], rfl, fun i a h => by simp at h⟩
  | n + 1, h => by
    obtain ⟨xs, hl, hx⟩ := list_of n (fun i hi => h i (by omega))
    obtain ⟨a, ha⟩ := h n (by omega)
    refine ⟨xs ++ [a], by simp [hl], fun i b hb => ?_⟩
    by_cases hi : i < n
    · rw [List.getElem?_append_left (by omega)] at hb
      exact hx i b hb
    · rw [List.getElem?_append_right (by omega), hl] at hb
      have : i - n = 0 := by
        rcases Nat.eq_zero_or_pos (i - n) with h0 | h0
        · exact h0
        · rw [List.getElem?_eq_none (by simp; omega)] at hb; cases hb
      rw [this] at hb
      have hin : i = n := by omega
      simp at hb
      subst hb; subst hin
      exact ha

theorem open_agg {H : Type} {enc : TypeId × Value → H} {P : Program} {W : World} {t : TypeId} {fs : Array Field} {v : Value} {d : DataW H} {p : List MemPlace} {r : Reach} {b0 : Nat}
    (ht : P.underlying t = some (.struct fs)) (hok : Value.okWide P W r b0 t v) (h : DataW.Trod enc P W 0 (fun _ => true) true t v d p) :
    ∃ cs n x, v = .agg cs ∧ DataW.trod enc P W 0 (fun _ => true) true n t cs.toList = some x := by
  obtain ⟨cs, rfl, _⟩ := okWide_struct ht hok
  obtain ⟨n, hn⟩ := h
  exact ⟨cs, n, _, rfl, hn⟩

theorem open_rows {α H : Type} {enc : TypeId × Value → H} {P : Program} {W : World} {t e : TypeId} {v : Value} {d : DataW H} {p : List MemPlace} {r : Reach} {b0 : Nat} (f : α → List Value) (good : α → Prop) (c : Nat) (hc : P.cellsOf e = c) (hc0 : 0 < c)
    (ht : P.underlying t = some (.slice e)) (hok : Value.okWide P W r b0 t v)
    (hel : ∀ n cs' x, DataW.trod enc P W 0 (fun _ => true) true n e cs' = some x → ∃ a, cs' = f a ∧ good a)
    (h : DataW.Trod enc P W 0 (fun _ => true) true t v d p) :
    ∃ (xs : List α) (G : List Nat), SlRows W v f c xs G ∧ (∀ a, a ∈ xs → good a) ∧ (∀ k, k ∈ G → k < W.heap.size) ∧ xs.length ≤ 9223372036854775807 := by
  obtain ⟨a0, len, cap, rfl⟩ := okWide_slice ht hok
  obtain ⟨fuel, hf⟩ := h
  rcases open_slice ht hf with ⟨hcs, _⟩ | ⟨a, len', cap', m, n, D, Pl, hcs, _, hl, hcm, hm, _, hi⟩
  · simp [Value.cells] at hcs
    obtain ⟨rfl, rfl, rfl⟩ := hcs
    exact ⟨[], [], ⟨_, _, rfl, fun h => absurd rfl h⟩, by simp, by simp, by simp⟩
  · simp [Value.cells] at hcs
    obtain ⟨rfl, rfl, rfl⟩ := hcs
    simp only [if_true] at hm
    obtain ⟨xs, hxl, hxs⟩ := list_of (Q := fun i (x : α) => W.cells? 0 (a.add (i * c)) c = some (f x) ∧ good x) len (fun i hil => by
      obtain ⟨cs', h1, h2⟩ := hi i (by omega)
      obtain ⟨x, rfl, hg⟩ := hel _ _ _ h2
      exact ⟨x, by rw [← hc]; exact h1, hg⟩)
    have hgood : ∀ x, x ∈ xs → good x := fun x hx => by
      obtain ⟨i, hi'⟩ := List.mem_iff_getElem?.1 hx
      exact (hxs i x hi').2
    by_cases h0 : xs = []
    · exact ⟨xs, [], ⟨_, _, by rw [hxl], fun h => absurd h0 h⟩, hgood, by simp, by unfold maxLen at hcm; omega⟩
    · obtain ⟨x0, hx0⟩ : ∃ x, xs[0]? = some x := ⟨xs[0]'(List.length_pos_iff.2 h0), by simp⟩
      obtain ⟨hb, hlen, hcell⟩ := World.cells?_some (hxs 0 x0 hx0).1
      have hc1 := hcell 0 hc0
      rw [List.getElem?_eq_getElem (by omega), Nat.zero_mul] at hc1
      obtain ⟨k, off, spot⟩ := a
      have hspot : spot = none := by simpa [Addr.add] using World.cell?_spot hc1
      subst hspot
      have hk : k < W.heap.size := by simpa [Addr.add] using World.block_lt_of_cell? W _ hc1
      refine ⟨xs, [k], ⟨_, _, by rw [hxl], fun _ => ⟨k, off, rfl, by simp, fun i x hix j u hj => ?_⟩⟩, hgood, one_lt hk, by unfold maxLen at hcm; omega⟩
      obtain ⟨_, hlen, hcell⟩ := World.cells?_some (hxs i x hix).1
      have hjl : j < c := by
        have := (List.getElem?_eq_some_iff.1 hj).1
        omega
      have h2 := hcell j hjl
      rw [hj] at h2
      rwa [add_plain, add_plain] at h2

section
variable {H : Type} {enc : TypeId × Value → H} {P : Program} {W : World} {n : Nat} {cs : List Value} {x : DataW H × List MemPlace} {e : TypeId}
/-- A struct of one-cell fields, read field by field. -/
theorem elem_fields {fs : Array Field} (ht : P.underlying e = some (.struct fs)) (hone : oneCellFields P fs = true) (hC : P.cellsOf e = fs.size) (h : DataW.trod enc P W 0 (fun _ => true) true n e cs = some x) :
    ∃ m, cs.length = fs.size ∧ ∀ (j : Nat) (f : Field) (v : Value), fs[j]? = some f → cs[j]? = some v → ∃ y, DataW.trod enc P W 0 (fun _ => true) true m f.type [v] = some y := by
  obtain ⟨xs, m, _, _, hcl, hxl, hf⟩ := DataW.trod_struct ht h
  refine ⟨m, by rw [hcl, hC], fun j f v hj hv => ?_⟩
  obtain ⟨ho, hk⟩ := hone_of hone j f hj
  have h1 := hf j f hj
  rw [ho, hk] at h1
  have hjl : j < fs.size := (Array.getElem?_eq_some_iff.1 hj).1
  obtain ⟨hjc, rfl⟩ := List.getElem?_eq_some_iff.1 hv
  rw [List.drop_eq_getElem_cons hjc, List.take_succ_cons, List.take_zero, List.getElem?_eq_getElem (by omega)] at h1
  exact ⟨_, h1⟩
theorem elem_u64 (he : P.underlying e = some (.int .u64)) (h : DataW.trod enc P W 0 (fun _ => true) true n e cs = some x) : ∃ a : Nat, cs = [.int .u64 a] ∧ a < 18446744073709551616 := by
  obtain ⟨a, rfl, _, hw⟩ := DataW.trod_int he h
  obtain ⟨m, rfl, hm⟩ := wf_u64 hw
  exact ⟨m, rfl, hm⟩
theorem elem_i64 (he : P.underlying e = some (.int .i64)) (h : DataW.trod enc P W 0 (fun _ => true) true n e cs = some x) : ∃ a : Int, cs = [.int .i64 a] ∧ -9223372036854775808 ≤ a ∧ a ≤ 9223372036854775807 := by
  obtain ⟨a, rfl, _, hw⟩ := DataW.trod_int he h
  exact ⟨a, rfl, wf_i64 hw⟩
theorem elem_string (he : P.underlying e = some .string) (h : DataW.trod enc P W 0 (fun _ => true) true n e cs = some x) : ∃ s : ByteArray, cs = [.string s] ∧ s.size ≤ 9223372036854775807 := by
  obtain ⟨s, rfl, _, hw⟩ := DataW.trod_string he h
  exact ⟨s, rfl, by unfold maxLen at hw; omega⟩
end
end Go.Proofs.Ytjebldfmkpfafaa
