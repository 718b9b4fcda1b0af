/- The check sum of one part. -/
import Derived.Test.YtjebldfmkpfafaaRecP
import Derived.Test.YtjebldfmkpfafaaBytesOf
namespace Go.Proofs.Ytjebldfmkpfafaa
open Go.RowKit

/-- The check sum of one part, laid into a block. -/
theorem sum1_any (s : List UInt8) (w : World) (k : Nat) (hs : s.length ≤ 9223372036854775807) (hk : w.heap[k]? = some (.cells #[.string (str s)] 9 (0, 0))) :
    Calls Try.prog 27 #[.slice (some ⟨k, 0, none⟩) 1 1] w fun e w' => e = .returned (.int .u32 (crcMore 0 s)) ∧ w = w' := by
  have h := sum_any [s] (.slice (some ⟨k, 0, none⟩) 1 1) [k] w ⟨_, _, rfl, fun _ => ⟨k, 0, rfl, by simp, fun j u hj => ?_⟩⟩ (fun t ht => by simp at ht; subst ht; exact hs) (by simp)
  · rw [show [s].flatten = s by simp] at h
    exact h
  · rw [Nat.zero_add, cell_of_heap hk]
    simpa [strV] using hj
end Go.Proofs.Ytjebldfmkpfafaa
