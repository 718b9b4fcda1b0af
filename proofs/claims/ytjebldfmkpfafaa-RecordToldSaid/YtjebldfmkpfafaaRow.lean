/- Results that lie in a block of cells (a struct by value); a block of six cells. -/
import Derived.Test.YtjebldfmkpfafaaRun
import Derived.Laws.Rows
import Derived.Laws.ResultCell
namespace Go.Proofs.Ytjebldfmkpfafaa
open Go.RowKit
set_option maxRecDepth 100000

theorem KT {a b c : World} (h : Keeps [] a b) (k : Keeps [] b c) : Keeps [] a c := h.trans k (by simp)
theorem Keeps.setK {w w' : World} (h : Keeps [] w w') (b o : Nat) (u : Value) (hb : w.heap.size ≤ b) : Keeps [] w (w'.setCell ⟨b, o, none⟩ u) := h.setCell (.inr hb) u

section
variable {P : Program} {fn : Func} {p u u2 : Tmp} {ty : TypeId} {tmps : Array Value} {w : World} {g : Nat} {t : TypeId} {cs : Array Value} {fr : Nat × Nat} {d : TypeDesc}
theorem results_row (h : fn.results = #[.cell p ty]) (hp : tmps.getD p undef = .pointer (some ⟨g, 0, none⟩)) (hg : w.heap[g]? = some (.cells cs t fr))
    (hu : P.underlying ty = some d) (hd : (match d with | .struct _ | .array _ _ => true | _ => false) = true) (hi : (P.info? ty).map (·.size) = some cs.size) : (results fn tmps).run P w = .ok (.agg cs) w :=
  results_cell_row h tmps w g t cs fr d hp hg hu hd hi
theorem results_row_tmp (h : fn.results = #[.cell p ty, .tmp u]) (hp : tmps.getD p undef = .pointer (some ⟨g, 0, none⟩)) (hg : w.heap[g]? = some (.cells cs t fr))
    (hu : P.underlying ty = some d) (hd : (match d with | .struct _ | .array _ _ => true | _ => false) = true) (hi : (P.info? ty).map (·.size) = some cs.size) :
    (results fn tmps).run P w = .ok (.tuple #[.agg cs, tmps.getD u undef]) w := by
  have hp' : tmps[p]?.getD undef = .pointer (some ⟨g, 0, none⟩) := by simpa using hp
  simp [results, h, hp', asAddr, run_loadVar_row w g t ty cs fr d hg hu hd hi]
theorem results_row_tmp2 (h : fn.results = #[.cell p ty, .tmp u, .tmp u2]) (hp : tmps.getD p undef = .pointer (some ⟨g, 0, none⟩)) (hg : w.heap[g]? = some (.cells cs t fr))
    (hu : P.underlying ty = some d) (hd : (match d with | .struct _ | .array _ _ => true | _ => false) = true) (hi : (P.info? ty).map (·.size) = some cs.size) :
    (results fn tmps).run P w = .ok (.tuple #[.agg cs, tmps.getD u undef, tmps.getD u2 undef]) w := by
  have hp' : tmps[p]?.getD undef = .pointer (some ⟨g, 0, none⟩) := by simpa using hp
  simp [results, h, hp', asAddr, run_loadVar_row w g t ty cs fr d hg hu hd hi]
end

/-- A block of six cells: what each one is. -/
theorem cells6 {w : World} {b : Nat} {a0 a1 a2 a3 a4 a5 : Value} {t : TypeId} (h : w.heap[b]? = some (.cells #[a0, a1, a2, a3, a4, a5] t (0, 0))) :
    (w.cell? ⟨b, 0, none⟩ = some a0 ∧ w.cell? ⟨b, 1, none⟩ = some a1 ∧ w.cell? ⟨b, 2, none⟩ = some a2 ∧ w.cell? ⟨b, 3, none⟩ = some a3 ∧ w.cell? ⟨b, 4, none⟩ = some a4 ∧ w.cell? ⟨b, 5, none⟩ = some a5) ∧
    (w.frozen? ⟨b, 0, none⟩ = false ∧ w.frozen? ⟨b, 1, none⟩ = false ∧ w.frozen? ⟨b, 2, none⟩ = false ∧ w.frozen? ⟨b, 3, none⟩ = false ∧ w.frozen? ⟨b, 4, none⟩ = false ∧ w.frozen? ⟨b, 5, none⟩ = false) :=
  ⟨⟨cell_of_heap h 0, cell_of_heap h 1, cell_of_heap h 2, cell_of_heap h 3, cell_of_heap h 4, cell_of_heap h 5⟩, ⟨free_of_heap h 0, free_of_heap h 1, free_of_heap h 2, free_of_heap h 3, free_of_heap h 4, free_of_heap h 5⟩⟩
/-- It is written whole. -/
theorem heap_set6 {w : World} {b : Nat} {a0 a1 a2 a3 a4 a5 : Value} {t : TypeId} (h : w.heap[b]? = some (.cells #[a0, a1, a2, a3, a4, a5] t (0, 0))) (v0 v1 v2 v3 v4 v5 : Value) :
    ((((((w.setCell ⟨b, 0, none⟩ v0).setCell ⟨b, 1, none⟩ v1).setCell ⟨b, 2, none⟩ v2).setCell ⟨b, 3, none⟩ v3).setCell ⟨b, 4, none⟩ v4).setCell ⟨b, 5, none⟩ v5).heap[b]? = some (.cells #[v0, v1, v2, v3, v4, v5] t (0, 0)) :=
  heap_setCell (heap_setCell (heap_setCell (heap_setCell (heap_setCell (heap_setCell h 0 v0) 1 v1) 2 v2) 3 v3) 4 v4) 5 v5
theorem keeps_set6 {w0 w : World} (h : Keeps [] w0 w) {b : Nat} (hb : w0.heap.size ≤ b) (v0 v1 v2 v3 v4 v5 : Value) :
    Keeps [] w0 ((((((w.setCell ⟨b, 0, none⟩ v0).setCell ⟨b, 1, none⟩ v1).setCell ⟨b, 2, none⟩ v2).setCell ⟨b, 3, none⟩ v3).setCell ⟨b, 4, none⟩ v4).setCell ⟨b, 5, none⟩ v5) :=
  (((((h.setK b 0 v0 hb).setK b 1 v1 hb).setK b 2 v2 hb).setK b 3 v3 hb).setK b 4 v4 hb).setK b 5 v5 hb
theorem heap_ne {w : World} {b c o : Nat} {v : Value} {x : Obj} (h : w.heap[b]? = some x) (hne : b ≠ c) : (w.setCell ⟨c, o, none⟩ v).heap[b]? = some x := (Below.heap_setCell _ _ _ _ (by simpa using hne)).trans h
theorem heap_at {w : World} {o : Obj} {k : Nat} (h : k = w.heap.size) : (w.alloc o).heap[k]? = some o := by subst h; exact heap_alloc_self w o
theorem heap_was {w : World} {o x : Obj} {k : Nat} (h : w.heap[k]? = some x) : (w.alloc o).heap[k]? = some x := (World.heap_alloc_lt _ _ _ (Array.getElem?_eq_some_iff.1 h).1).trans h
/-- What two new blocks hold, behind a call that keeps them. -/
theorem two_new {w w1 : World} {o1 o2 : Obj} (k : Keeps [] ((w.alloc o1).alloc o2) w1) : w1.heap[w.heap.size]? = some o1 ∧ w1.heap[w.heap.size + 1]? = some o2 :=
  ⟨k.some (heap_was (heap_at rfl)) (by simp), k.some (heap_at (by simp)) (by simp)⟩
/-- The same, said of the world behind one new block more. -/
theorem cells6_was {w : World} {b : Nat} {a0 a1 a2 a3 a4 a5 : Value} {t : TypeId} (h : w.heap[b]? = some (.cells #[a0, a1, a2, a3, a4, a5] t (0, 0))) :
    ((∀ o, (w.alloc o).cell? ⟨b, 0, none⟩ = some a0) ∧ (∀ o, (w.alloc o).cell? ⟨b, 1, none⟩ = some a1) ∧ (∀ o, (w.alloc o).cell? ⟨b, 2, none⟩ = some a2) ∧ (∀ o, (w.alloc o).cell? ⟨b, 3, none⟩ = some a3) ∧ (∀ o, (w.alloc o).cell? ⟨b, 4, none⟩ = some a4) ∧ (∀ o, (w.alloc o).cell? ⟨b, 5, none⟩ = some a5) ) ∧
    ((∀ o, (w.alloc o).frozen? ⟨b, 0, none⟩ = false) ∧ (∀ o, (w.alloc o).frozen? ⟨b, 1, none⟩ = false) ∧ (∀ o, (w.alloc o).frozen? ⟨b, 2, none⟩ = false) ∧ (∀ o, (w.alloc o).frozen? ⟨b, 3, none⟩ = false) ∧ (∀ o, (w.alloc o).frozen? ⟨b, 4, none⟩ = false) ∧ (∀ o, (w.alloc o).frozen? ⟨b, 5, none⟩ = false) ) :=
  ⟨⟨fun _ => cell_of_heap (heap_was h) 0, fun _ => cell_of_heap (heap_was h) 1, fun _ => cell_of_heap (heap_was h) 2, fun _ => cell_of_heap (heap_was h) 3, fun _ => cell_of_heap (heap_was h) 4, fun _ => cell_of_heap (heap_was h) 5⟩,
   ⟨fun _ => free_of_heap (heap_was h) 0, fun _ => free_of_heap (heap_was h) 1, fun _ => free_of_heap (heap_was h) 2, fun _ => free_of_heap (heap_was h) 3, fun _ => free_of_heap (heap_was h) 4, fun _ => free_of_heap (heap_was h) 5⟩⟩
end Go.Proofs.Ytjebldfmkpfafaa
