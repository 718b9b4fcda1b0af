/- SuperTorn's walks. -/
import Derived.Test.YtcbpkplmaglpcaaSupW
import Derived.Test.YtcbpkplmaglpcaaSupTornP
import Derived.Test.YtcbpkplmaglpcaaBytesOf
namespace Go.Proofs.Ytcbpkplmaglpcaa
open Go.RowKit

theorem cells6_was2 {w : World} {b : Nat} {a0 a1 a2 a3 a4 a5 : Value} {t : TypeId} (h : w.heap[b]? = some (.cells #[a0, a1, a2, a3, a4, a5] t (0, 0))) :
    (∀ o o2, ((w.alloc o).alloc o2).cell? ⟨b, 0, none⟩ = some a0) ∧ (∀ o o2, ((w.alloc o).alloc o2).cell? ⟨b, 1, none⟩ = some a1) ∧ (∀ o o2, ((w.alloc o).alloc o2).cell? ⟨b, 2, none⟩ = some a2) ∧ (∀ o o2, ((w.alloc o).alloc o2).cell? ⟨b, 3, none⟩ = some a3) ∧ (∀ o o2, ((w.alloc o).alloc o2).cell? ⟨b, 4, none⟩ = some a4) ∧ (∀ o o2, ((w.alloc o).alloc o2).cell? ⟨b, 5, none⟩ = some a5) :=
  ⟨fun _ _ => cell_of_heap (heap_was (heap_was h)) 0, fun _ _ => cell_of_heap (heap_was (heap_was h)) 1, fun _ _ => cell_of_heap (heap_was (heap_was h)) 2, fun _ _ => cell_of_heap (heap_was (heap_was h)) 3, fun _ _ => cell_of_heap (heap_was (heap_was h)) 4, fun _ _ => cell_of_heap (heap_was (heap_was h)) 5⟩

end Go.Proofs.Ytcbpkplmaglpcaa
