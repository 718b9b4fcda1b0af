/- Layer 10: the chapter's examples. -/
import Derived.Test.YtjebldfmkpfafaaRecI
import Derived.Test.YtjebldfmkpfafaaMake
namespace Go.Proofs.Ytjebldfmkpfafaa
open Go.RowKit
set_option maxRecDepth 100000

set_option maxHeartbeats 2000000 in
theorem rsize_any (r : Rc) (sv : Value) (G : List Nat) (w : World) (hr : r.good w sv G) (hG : ∀ k, k ∈ G → k < w.heap.size) (hl : r.encV.1.length ≤ 9223372036854775807) :
    Calls Try.prog 15 #[r.val sv] w fun e w' => e = .returned (.int .i64 (r.encV.1.length / 64 : Nat)) ∧ Keeps [] w w' := by
  have En := Lib.hid (encode_any r sv G _ (hr.newer ((Keeps.refl [] w).alloc (rbox r sv))) (fun k hk => by have := hG k hk; simp; omega))
  have K0 := Lib.hid ((Keeps.refl [] w).alloc (rbox r sv))
  generalize r.encV = V at *
  obtain ⟨V1, V2⟩ := V
  dsimp only at *
  have hl2 : (V1.length : Int) ≤ 9223372036854775807 := by omega
  unfold Rc.val at *
  unfold rbox at *
  obtain ⟨ad, cap, rfl, _⟩ := hr.at_
  clear hr hG
  go_enter Try.func15, Try.ntmps15
  go_wp2_with (first
    | (go_at_call 13; (with_reducible refine En.out.mono ?_); rintro e w1 ⟨rfl, k1⟩))
  go_ret
  exact ⟨rfl, K0.out.trans k1 (by simp)⟩

def rHi : Rc := ⟨1, 2, 3, [], [], [104, 105]⟩
def rZe : Rc := ⟨0, 0, 1, [(3, 1)], List.replicate 64 0, []⟩
theorem rHi_len : rHi.encV.1.length = 64 := by decide +kernel
theorem rHi_ok : rHi.encV.2 = 0 := by decide +kernel
theorem rHi_take : (rHi.encV.1.drop 0).take 10 = [76, 82, 0, 1, 1, 2, 3, 2, 104, 105] := by decide +kernel
theorem rZe_len : rZe.encV.1.length = 128 := by decide +kernel
theorem spLit {w' : World} {k : Nat} (s : Sp) (hk : w'.heap[k]? = some (.cells #[.int .i64 s.1, .int .i64 s.2] 39 (0, 0))) : SpAt w' (.slice (some ⟨k, 0, none⟩) 1 1) [s] [k] := by
  refine ⟨_, _, rfl, fun _ => ⟨k, 0, rfl, by simp, fun i a hi j u hj => ?_⟩⟩
  cases i with
  | zero =>
    simp at hi
    subst hi
    rw [cell_of_heap hk]
    unfold spV at hj
    simpa using hj
  | succ i => simp at hi

set_option maxHeartbeats 4000000 in
theorem awake_any (w : World) : Calls Try.prog 10 #[] w fun e w' => e = .returned (.bool true) ∧ Keeps [] w w' := by
  have g1 : ∀ w : World, rHi.good w (.slice none 0 0) [] := fun w => ⟨by unfold i64R rHi; dsimp only; omega, by unfold i64R rHi; dsimp only; omega, by unfold i64R rHi; dsimp only; omega, ⟨none, 0, rfl, fun h => absurd rfl h⟩, by simp [rHi], by simp [rHi], by simp [rHi], by simp [rHi]⟩
  have E1 := Lib.hid (fun w => encode_any rHi (.slice none 0 0) [] w (g1 w) (by simp))
  have h1 := rHi_len
  have h2 := rHi_ok
  have h3 : (str rHi.encV.1).extract 0 10 = str [76, 82, 0, 1, 1, 2, 3, 2, 104, 105] := by rw [str_extract, str_data, rHi_take]
  rw [h2] at E1
  unfold Rc.val at E1
  have Sz : Hid (∀ (w' : World) k, w'.heap[k]? = some (.cells #[.int .i64 3, .int .i64 1] 39 (0, 0)) → Calls Try.prog 15 #[.agg #[.int .i64 0, .int .i64 0, .int .i64 1, .slice (some ⟨k, 0, none⟩) 1 1, .string (str (List.replicate 64 0)), .string (str [])]] w' fun e w'' => e = .returned (.int .i64 2) ∧ Keeps [] w' w'') := fun w' k hk => by
    have h := rsize_any rZe (.slice (some ⟨k, 0, none⟩) 1 1) [k] w' ⟨by unfold i64R rZe; dsimp only; omega, by unfold i64R rZe; dsimp only; omega, by unfold i64R rZe; dsimp only; omega, spLit (3, 1) hk, by simp [rZe, spG, i64R], by simp [rZe], by simp [rZe], by simp [rZe]⟩ (by simp; exact (Array.getElem?_eq_some_iff.1 hk).1) (by rw [rZe_len]; decide)
    rw [rZe_len] at h
    exact h
  generalize rHi.encV.1 = T at *
  have e1 : rHi.ep = 1 := rfl
  have e2 : rHi.nr = 2 := rfl
  have e3 : rHi.kd = 3 := rfl
  have e4 : rHi.dt = [] := rfl
  have e5 : rHi.tx = [104, 105] := rfl
  rw [e1, e2, e3, e4, e5] at E1
  have hz := str_empty
  have hhi : ByteArray.mk #[104, 105] = str [104, 105] := rfl
  have hmg : ByteArray.mk #[76, 82, 0, 1, 1, 2, 3, 2, 104, 105] = str [76, 82, 0, 1, 1, 2, 3, 2, 104, 105] := rfl
  obtain ⟨Z0, hmk, hcv⟩ := make_zeros 64 (by omega)
  have hmk' : ∀ w, (Instr.makeSlice 41 (.int .i64 64) (.int .i64 64)).run Try.prog w = .ok (.slice (some ⟨w.heap.size, 0, none⟩) 64 64) (w.alloc (.cells Z0 5)) := hmk
  have hcv' : ∀ (w : World) (o : Obj), (convert 41 9 (.slice (some ⟨w.heap.size + 1, 0, none⟩) 64 64)).run Try.prog ((w.alloc o).alloc (.cells Z0 5)) = .ok (.string (str (List.replicate 64 0))) ((w.alloc o).alloc (.cells Z0 5)) := fun w o => by
    have h := hcv (w.alloc o) _ (Keeps.refl [] _)
    rw [show (w.alloc o).heap.size = w.heap.size + 1 by simp] at h
    exact h
  generalize str (List.replicate 64 (0 : UInt8)) = ZZ at *
  clear g1 hmk hcv e1 e2 e3 e4 e5 h2
  go_enter Try.func10, Try.ntmps10
  go_wp2_with (first
    | (go_at_call 13; (with_reducible refine (E1.out _).mono ?_); rintro e w1 ⟨rfl, k1⟩)
    | (go_at_call 15; (with_reducible refine (Sz.out _ _ ?hp).mono ?_); (case hp => exact heap_was (heap_at rfl)); rintro e w2 ⟨rfl, k2⟩))
  go_ret
  exact ⟨rfl, k1.trans (((Keeps.refl [] w1).alloc _).alloc _ |>.trans k2 (by simp)) (by simp)⟩
end Go.Proofs.Ytjebldfmkpfafaa
