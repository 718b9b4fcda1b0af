/- []byte(s), a byte of it turned, and string(b). -/
import Derived.Test.YtjebldfmkpfafaaRow
import Derived.Lib.ConvBytes
namespace Go.Proofs.Ytjebldfmkpfafaa
open Go.RowKit
set_option maxRecDepth 100000

theorem bytes_of (l : List UInt8) : ∃ (capf : World → Nat) (Wf : World → World),
    (∀ w : World, (convert 9 41 (.string (str l))).run Try.prog w = .ok (.slice (some ⟨w.heap.size, 0, none⟩) l.length (capf w)) (Wf w)) ∧
    (∀ w : World, Keeps [] w (Wf w)) ∧ (∀ w : World, (Wf w).heap.size = w.heap.size + 1) ∧
    (∀ (w : World) j c, l[j]? = some c → (Wf w).cell? ⟨w.heap.size, j, none⟩ = some (u8v c)) ∧ (∀ (w : World) j, j < l.length → (Wf w).frozen? ⟨w.heap.size, j, none⟩ = false) := by
  refine ⟨fun w => grownCap w (str l).size 0 5, fun w => Lib.bytesWorld w 5 (str l), fun w => ?_, fun w => ?_, fun w => Lib.bytesWorld_size w _ _, fun w j c hj => ?_, fun w j hj => ?_⟩
  · have h := Lib.run_convert_string_bytes (P := Try.prog) w 9 41 5 (str l) Try.underlying9 Try.underlying41 Try.underlying5
    rw [str_size] at h
    exact h
  · exact ⟨rfl, rfl, rfl, by rw [Lib.bytesWorld_size]; omega, fun k hk _ => Lib.bytesWorld_at_old w _ _ k hk⟩
  · have hjl : j < l.length := (List.getElem?_eq_some_iff.1 hj).1
    rw [Lib.bytesWorld_cell w _ _ j (by rw [str_size]; exact hjl), str_data, List.getD_eq_getElem?_getD, hj]
    rfl
  · have hh := Lib.bytesWorld_at_new w 5 (str l)
    have hsz : l.length ≤ (Lib.bytesCells w 5 (str l)).size := by
      simp only [Lib.bytesCells, Array.size_append, Array.size_map, Array.size_replicate]
      have : (str l).data.size = l.length := by simp [str]
      omega
    simp only [World.frozen?, hh]
    simp
    omega

/-- string(b), the cells known. -/
theorem string_back (w : World) (b n cap : Nat) (l : List UInt8) (hl : l.length = n) (hc : ∀ j c, l[j]? = some c → w.cell? ⟨b, j, none⟩ = some (u8v c)) :
    (convert 41 9 (.slice (some ⟨b, 0, none⟩) n cap)).run Try.prog w = .ok (.string (str l)) w := by
  refine (run_convert_bytes_arg (P := Try.prog) w 41 5 Try.underlying41 Try.underlying5 b 0 n cap (l.map fun c => (c.toNat : Int)) (by simpa using hl) (fun i hi => ?_) 9 Try.underlying9).trans ?_
  · have hil : i < l.length := by omega
    rw [Nat.zero_add, hc i l[i] (List.getElem?_eq_getElem hil)]
    simp [List.getElem?_eq_getElem hil, u8v, List.getD_eq_getElem?_getD]
  · congr 2
    unfold str strOfNums
    congr 2
    rw [List.map_map]
    simp [Function.comp_def]

/-- One byte of them is turned. -/
theorem string_turned (w W : World) (b n cap k : Nat) (l : List UInt8) (d : UInt8) (hl : l.length = n) (hW : W = w.setCell ⟨b, k, none⟩ (u8v d)) (hc : ∀ j c, l[j]? = some c → w.cell? ⟨b, j, none⟩ = some (u8v c)) :
    (convert 41 9 (.slice (some ⟨b, 0, none⟩) n cap)).run Try.prog W = .ok (.string (str (l.set k d))) W := by
  subst hW
  refine string_back _ b n cap (l.set k d) (by rw [List.length_set]; exact hl) (fun j c hj => ?_)
  by_cases hjk : j = k
  · subst hjk
    have hjl : j < l.length := by
      have := (List.getElem?_eq_some_iff.1 hj).1
      rwa [List.length_set] at this
    rw [List.getElem?_set_self hjl] at hj
    obtain rfl : d = c := by simpa using hj
    have h1 := hc j l[j] (List.getElem?_eq_getElem hjl)
    exact World.cell?_setCell_same _ _ _ h1
  · rw [List.getElem?_set_ne (fun h => hjk h.symm)] at hj
    rw [← hc j c hj]
    exact World.cell?_setCell_other _ _ _ _ (by intro h; injection h with _ h2 _; exact hjk h2.symm)
end Go.Proofs.Ytjebldfmkpfafaa
