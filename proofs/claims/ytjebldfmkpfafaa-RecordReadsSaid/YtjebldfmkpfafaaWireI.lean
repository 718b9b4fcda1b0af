/- Layer 3: the chapter's examples, as the laws ask them. -/
import Derived.Test.YtjebldfmkpfafaaWireH
namespace Go.Proofs.Ytjebldfmkpfafaa
open Go.RowKit
set_option maxRecDepth 100000

theorem OutAt.new (w : World) : OutAt (w.alloc (.cells #[.slice none 0 0] 82)) w.heap.size [] [w.heap.size] :=
  ⟨.slice none 0 0, heap_alloc_self w _, rfl, World.ownsRow_nil _ _ _ _⟩

theorem OutAt.new' {w : World} {k : Nat} (h : k = w.heap.size) : OutAt (w.alloc (.cells #[.slice none 0 0] 82)) k [] [k] := by subst h; exact OutAt.new w

theorem awake_bytes : [5, 300, 18446744073709551615].flatMap vby = [5, 129, 44, 255, 255, 255, 255, 255, 255, 255, 255, 255] := by decide +kernel
theorem awake_read : rvar [128, 5] 0 0 = (0, 0, 12) := by decide +kernel

end Go.Proofs.Ytjebldfmkpfafaa
