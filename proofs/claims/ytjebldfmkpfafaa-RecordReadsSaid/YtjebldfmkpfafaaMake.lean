/- string(make([]byte, n)): the bytes 0. -/
import Derived.Test.YtjebldfmkpfafaaBytesOf
namespace Go.Proofs.Ytjebldfmkpfafaa
open Go.RowKit
set_option maxRecDepth 100000

theorem tyU8s : SlTy Try.prog 41 5 1 1 (.int .u8 0) := SlTy.mk' Try.underlying41 (by kernel_rfl) rfl (by decide)

/-- n bytes 0 are made; they are a string, also behind what keeps memory. -/
theorem make_zeros (n : Nat) (hn : n ≤ 140737488351232) : ∃ Z : Array Value,
    (∀ w, (Instr.makeSlice 41 (.int .i64 n) (.int .i64 n)).run Try.prog w = .ok (.slice (some ⟨w.heap.size, 0, none⟩) n n) (w.alloc (.cells Z 5))) ∧
    (∀ w w' : World, Keeps [] (w.alloc (.cells Z 5)) w' → (convert 41 9 (.slice (some ⟨w.heap.size, 0, none⟩) n n)).run Try.prog w' = .ok (.string (str (List.replicate n 0))) w') := by
  obtain ⟨hu, ⟨i, hi, hz, hsz, hby⟩, _, _⟩ := tyU8s
  have hr := fun w => run_make (P := Try.prog) w 41 5 i _ hu hi hz .i64 .i64 n n (by omega) (by omega) (by rw [hby]; omega) (by omega)
  have hZ : ∀ j, j < n → (madeCells (Value.int .u8 0).cells (n * 1))[j]? = some (.int .u8 0) := by
    intro j hj
    have e : (Value.int .u8 0).cells = #[.int .u8 0] := rfl
    rw [e]
    simp [madeCells, hj]
    rw [show j % 1 = 0 from Nat.mod_one j]
    rfl
  rw [hsz] at hr
  refine ⟨madeCells (Value.int .u8 0).cells (n * 1), hr, fun w w' hk => ?_⟩
  have hheap := hk.some (heap_at (w := w) (k := w.heap.size) rfl) (by simp)
  refine (run_convert_bytes_arg (P := Try.prog) w' 41 5 Try.underlying41 Try.underlying5 w.heap.size 0 n n (List.replicate n 0) (by simp) (fun j hj => ?_) 9 Try.underlying9).trans ?_
  · rw [Nat.zero_add, cell_of_heap hheap, hZ j hj]
    simp [hj]
  · congr 2
    unfold str strOfNums
    simp
end Go.Proofs.Ytjebldfmkpfafaa
