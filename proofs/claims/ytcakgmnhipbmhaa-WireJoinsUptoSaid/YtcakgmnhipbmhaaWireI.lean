/- Layer 3: the chapter's examples, as the laws ask them. -/
import Derived.Test.YtcakgmnhipbmhaaWireH
namespace Go.Proofs.Ytcakgmnhipbmhaa
open Go.RowKit

theorem OutAt.new (w : World) : OutAt (w.alloc (.cells #[.slice none 0 0] 26)) w.heap.size [] [w.heap.size] :=
  ⟨.slice none 0 0, heap_alloc_self w _, rfl, World.ownsRow_nil _ _ _ _⟩

theorem OutAt.new' {w : World} {k : Nat} (h : k = w.heap.size) : OutAt (w.alloc (.cells #[.slice none 0 0] 26)) k [] [k] := by subst h; exact OutAt.new w

theorem awake_bytes : [5, 300, 18446744073709551615].flatMap vby = [5, 129, 44, 255, 255, 255, 255, 255, 255, 255, 255, 255] := by decide +kernel
theorem awake_read : rvar [128, 5] 0 0 = (0, 0, 12) := by decide +kernel

set_option maxHeartbeats 400000 in
theorem awake_any (w : World) : Calls Try.prog 10 #[] w fun e w' => e = .returned (.bool true) ∧ Keeps [] w w' := by
  go_enter Try.func10, Try.ntmps10
  go_wp2_with (go_at_call 11; refine (outVar_any w.heap.size [w.heap.size] [] [5, 300, 18446744073709551615] _ (by decide) (by decide) ((OutAt.new w).keep ((Keeps.refl [] _).alloc _) (by simp)) _ [w.heap.size + 1] (SlAt.lit' [u64v 5, u64v 300, u64v 18446744073709551615] 22 (by simp) rfl) (by simp) (by simp)).mono ?_; rintro e w1 ⟨rfl, F1, ho1, hch1⟩)
  rw [List.nil_append, awake_bytes] at ho1
  have Ho1 := Lib.hid ho1
  have hk1 : Keeps [] w w1 := ((Keeps.refl [] w).alloc _).trans hch1.alloc.keeps (by simp)
  clear ho1 hch1
  go_wp2_with (go_at_call 14; refine (read_any _ _).mono ?_; rintro e w2 ⟨rfl, hi2, hk2⟩)
  have hv := inVar_any _ _ _ _ _ hi2 (by simp) (by decide)
  rw [show rvar (ByteArray.data ⟨#[128, 5]⟩).toList 0 0 = (0, 0, 12) from awake_read] at hv
  have Hv := Lib.hid hv
  clear hv hi2
  go_wp2_with (first | (go_at_call 15; refine Hv.out.mono ?_; rintro e w3 ⟨rfl, hto⟩))
  have Ho3 := Lib.hid ((Ho1.out.keep hk2 (by simp)).keep hto.2 (fun x hx hx' => by have := Ho1.out.lt x hx; simp at hx'; omega))
  go_wp2_with (first | (go_at_call 12; refine (outString_any _ _ _ _ Ho3.out).mono ?_; rintro e w4 ⟨rfl, rfl⟩) | (go_at_call 16; refine (inErr_any _ _ _ _ _ hto.1).mono ?_; rintro e w4 ⟨rfl, rfl⟩))
  go_ret
  exact ⟨rfl, (hk1.trans hk2 (by simp)).trans hto.2 (fun x hx => .inr (by simp at hx; have := hk1.size; omega))⟩
end Go.Proofs.Ytcakgmnhipbmhaa
