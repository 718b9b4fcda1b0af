/- Layer 11, the laws' own functions: Plain, awake. -/
import Derived.Test.YtcbpkplmaglpcaaSupU
import Derived.Test.YtcbpkplmaglpcaaMake
import Derived.Deep.DeepCutAuto
namespace Go.Proofs.Ytcbpkplmaglpcaa
open Go.RowKit

theorem plain_any (s : Sup) (w : World) : Calls Try.prog 12 #[s.agg] w fun e w' => e = .returned s.agg ∧ Keeps [] w w' := by
  obtain ⟨key, epoch, serial, size, tail, number⟩ := s
  unfold Sup.agg
  dsimp only
  go_enter Try.func12, Try.ntmps12
  go_wp2
  refine bodyPost_ret (results_row rfl rfl (heap_at (by simp)) Try.underlying29 rfl (by kernel_rfl)) rfl ⟨rfl, ?_⟩
  exact ((Keeps.refl [] w).alloc _).alloc _

theorem bcell {W w1 : World} (hb : Keeps [] W w1) : (∀ b o, b < W.heap.size → w1.cell? ⟨b, o, none⟩ = W.cell? ⟨b, o, none⟩) ∧ (∀ b o, b < W.heap.size → w1.frozen? ⟨b, o, none⟩ = W.frozen? ⟨b, o, none⟩) :=
  ⟨fun b o h => hb.below.cell (p := ⟨b, o, none⟩) h, fun b o h => hb.below.frozen (p := ⟨b, o, none⟩) h⟩

theorem zeros_none : supDecode (List.replicate 64 0) = (.nil, 13) := by
  have h : (crcOpen (List.replicate 64 0)).2 = 13 := by
    refine (open_sum (by simp)).2 ?_
    have e1 : (List.replicate 64 (0 : UInt8)).take 60 = List.replicate 60 0 := by simp
    have e2 : (List.replicate 64 (0 : UInt8)).drop 60 = List.replicate 4 0 := by simp
    rw [e1, e2]
    decide +kernel
  unfold supDecode
  rw [if_neg (by simp), h]
  rfl

theorem pick_zeros : pickAt (List.replicate 64 0) (List.replicate 64 0) 2 = (.nil, 0, 15) := by
  show pickOne 1 (supDecode _) (pickOne 0 (supDecode _) (.nil, 0, 15)) = _
  rw [zeros_none]
  rfl

theorem next_awake : (⟨0, 0, 3, 4, 0, 0⟩ : Sup).next 0 0 = (⟨0, 0, 4, 4, 0, 0⟩, 0) := by rfl

set_option maxHeartbeats 4000000 in
set_option maxRecDepth 100000 in
theorem awake_any (w : World) : Calls Try.prog 9 #[] w fun e w' => e = .returned (.bool true) ∧ Keeps [] w w' := by
  have Hn : Hid (∀ w : World, Calls Try.prog 15 #[.agg #[.int .u64 0, .int .i64 0, .int .i64 3, .int .i64 4, .int .i64 0, .int .i64 0], .int .i64 0, .int .i64 0] w fun e w' => e = .returned (.tuple #[.agg #[.int .u64 0, .int .i64 0, .int .i64 4, .int .i64 4, .int .i64 0, .int .i64 0], .int .i64 0]) ∧ Keeps [] w w') := fun w => by
    have h := next_any ⟨0, 0, 3, 4, 0, 0⟩ ⟨by decide, by decide, by decide, by decide, by decide, by decide, by decide, by decide, by decide, by decide, by decide⟩ 0 0 (by decide) (by decide) (by decide) (by decide) w
    rw [next_awake] at h
    exact h
  have Hp := Lib.hid (fun w => pick_any (List.replicate 64 0) (List.replicate 64 0) w (by simp) (by simp))
  rw [pick_zeros, nil_agg] at Hp
  have S1 : Hid (∀ w : World, Calls Try.prog 20 #[.agg #[.int .u64 0, .int .i64 0, .int .i64 3, .int .i64 4, .int .i64 0, .int .i64 0]] w fun e w' => e = .returned (.int .i64 1) ∧ Keeps [] w w') := fun w => slot_any ⟨0, 0, 3, 4, 0, 0⟩ w
  have S2 : Hid (∀ w : World, Calls Try.prog 20 #[.agg #[.int .u64 0, .int .i64 0, .int .i64 4, .int .i64 4, .int .i64 0, .int .i64 0]] w fun e w' => e = .returned (.int .i64 0) ∧ Keeps [] w w') := fun w => slot_any ⟨0, 0, 4, 4, 0, 0⟩ w
  dsimp only at Hp
  obtain ⟨Z, hmk, hcv⟩ := make_zeros 64 (by omega)
  generalize List.replicate 64 (0 : UInt8) = ZZ at *
  have hmk' : ∀ w, (Instr.makeSlice 47 (.int .i64 64) (.int .i64 64)).run Try.prog w = .ok (.slice (some ⟨w.heap.size, 0, none⟩) 64 64) (w.alloc (.cells Z 5)) := hmk
  have c1 : ∀ (w : World) (b : Nat), b = w.heap.size → (convert 47 9 (.slice (some ⟨b, 0, none⟩) 64 64)).run Try.prog (w.alloc (.cells Z 5)).drew = .ok (.string (str ZZ)) (w.alloc (.cells Z 5)).drew := by
    rintro w b rfl
    exact hcv w _ (Keeps.refl [] _).drew
  have c2 : ∀ (w : World) (b : Nat) (o : Obj), b = w.heap.size → (convert 47 9 (.slice (some ⟨b, 0, none⟩) 64 64)).run Try.prog ((w.alloc (.cells Z 5)).alloc o).drew = .ok (.string (str ZZ)) ((w.alloc (.cells Z 5)).alloc o).drew := by
    rintro w b o rfl
    exact hcv w _ ((Keeps.refl [] _).alloc _).drew
  have c3 : ∀ (w : World) (b : Nat) (o o2 : Obj), b = w.heap.size → (convert 47 9 (.slice (some ⟨b, 0, none⟩) 64 64)).run Try.prog (((w.alloc (.cells Z 5)).alloc o).alloc o2).drew = .ok (.string (str ZZ)) (((w.alloc (.cells Z 5)).alloc o).alloc o2).drew := by
    rintro w b o o2 rfl
    exact hcv w _ (((Keeps.refl [] _).alloc _).alloc _).drew
  clear hmk hcv
  go_enter Try.func9, Try.ntmps9
  go_upto_region 3 with (first
    | (go_at_call 15; (with_reducible refine (Hn.out _).mono ?_); rintro e w1 ⟨rfl, k1⟩))
  have hA := k1.some (heap_at rfl) (by simp)
  have HB := Lib.hid (heap_at (w := w1) (o := .cells #[.int .u64 0, .int .i64 0, .int .i64 4, .int .i64 4, .int .i64 0, .int .i64 0] 25) rfl)
  have HA := Lib.hid (heap_was (o := .cells #[.int .u64 0, .int .i64 0, .int .i64 4, .int .i64 4, .int .i64 0, .int .i64 0] 25) hA)
  have K1 := Lib.hid k1
  clear hA k1
  go_cut [6] (fun s6 wx => s6 = .int .i64 15 ∧ Keeps [] (w1.alloc (.cells #[.int .u64 0, .int .i64 0, .int .i64 4, .int .i64 4, .int .i64 0, .int .i64 0] 25)) wx)
  case first =>
    have z0 : ∀ w : World, (w.alloc (.cells #[.int .u64 0, .int .i64 0, .int .i64 0, .int .i64 0, .int .i64 0, .int .i64 0] 25)).cell? ⟨w.heap.size, 0, none⟩ = some (.int .u64 0) := fun w => cell_of_heap (heap_at rfl) 0
    have y0 : ∀ w : World, (w.alloc (.cells #[.int .u64 0, .int .i64 0, .int .i64 0, .int .i64 0, .int .i64 0, .int .i64 0] 25)).frozen? ⟨w.heap.size, 0, none⟩ = false := fun w => free_of_heap (heap_at rfl) 0
    have z1 : ∀ w : World, (w.alloc (.cells #[.int .u64 0, .int .i64 0, .int .i64 0, .int .i64 0, .int .i64 0, .int .i64 0] 25)).cell? ⟨w.heap.size, 1, none⟩ = some (.int .i64 0) := fun w => cell_of_heap (heap_at rfl) 1
    have y1 : ∀ w : World, (w.alloc (.cells #[.int .u64 0, .int .i64 0, .int .i64 0, .int .i64 0, .int .i64 0, .int .i64 0] 25)).frozen? ⟨w.heap.size, 1, none⟩ = false := fun w => free_of_heap (heap_at rfl) 1
    have z2 : ∀ w : World, (w.alloc (.cells #[.int .u64 0, .int .i64 0, .int .i64 0, .int .i64 0, .int .i64 0, .int .i64 0] 25)).cell? ⟨w.heap.size, 2, none⟩ = some (.int .i64 0) := fun w => cell_of_heap (heap_at rfl) 2
    have y2 : ∀ w : World, (w.alloc (.cells #[.int .u64 0, .int .i64 0, .int .i64 0, .int .i64 0, .int .i64 0, .int .i64 0] 25)).frozen? ⟨w.heap.size, 2, none⟩ = false := fun w => free_of_heap (heap_at rfl) 2
    have z3 : ∀ w : World, (w.alloc (.cells #[.int .u64 0, .int .i64 0, .int .i64 0, .int .i64 0, .int .i64 0, .int .i64 0] 25)).cell? ⟨w.heap.size, 3, none⟩ = some (.int .i64 0) := fun w => cell_of_heap (heap_at rfl) 3
    have y3 : ∀ w : World, (w.alloc (.cells #[.int .u64 0, .int .i64 0, .int .i64 0, .int .i64 0, .int .i64 0, .int .i64 0] 25)).frozen? ⟨w.heap.size, 3, none⟩ = false := fun w => free_of_heap (heap_at rfl) 3
    have z4 : ∀ w : World, (w.alloc (.cells #[.int .u64 0, .int .i64 0, .int .i64 0, .int .i64 0, .int .i64 0, .int .i64 0] 25)).cell? ⟨w.heap.size, 4, none⟩ = some (.int .i64 0) := fun w => cell_of_heap (heap_at rfl) 4
    have y4 : ∀ w : World, (w.alloc (.cells #[.int .u64 0, .int .i64 0, .int .i64 0, .int .i64 0, .int .i64 0, .int .i64 0] 25)).frozen? ⟨w.heap.size, 4, none⟩ = false := fun w => free_of_heap (heap_at rfl) 4
    have z5 : ∀ w : World, (w.alloc (.cells #[.int .u64 0, .int .i64 0, .int .i64 0, .int .i64 0, .int .i64 0, .int .i64 0] 25)).cell? ⟨w.heap.size, 5, none⟩ = some (.int .i64 0) := fun w => cell_of_heap (heap_at rfl) 5
    have y5 : ∀ w : World, (w.alloc (.cells #[.int .u64 0, .int .i64 0, .int .i64 0, .int .i64 0, .int .i64 0, .int .i64 0] 25)).frozen? ⟨w.heap.size, 5, none⟩ = false := fun w => free_of_heap (heap_at rfl) 5
    clear S1 S2 Hn HA HB K1
    go_region_with (first
      | (go_at_call 13; (with_reducible refine (Hp.out _).mono ?_); rintro e w2 ⟨rfl, k2⟩; obtain ⟨hc2, hf2⟩ := bcell k2; have z2 := k2.size; simp at z2))
    all_goals
      go_wp2_with fail
      go_meet
      refine ⟨rfl, ?_⟩
      first
        | (with_reducible refine Keeps.alloc ?_ _)
        | (with_reducible refine keeps_set6 ?_ (by simp <;> omega) _ _ _ _ _ _)
      (with_reducible refine KT ?_ k2)
      (with_reducible refine Keeps.drew ?_)
      repeat (first
        | (with_reducible exact Keeps.refl _ _)
        | (with_reducible refine Keeps.alloc ?_ _))
  case rest =>
    obtain ⟨rfl, hk⟩ := hcut
    have ha := hk.some HA.out (by simp)
    have hb := hk.some HB.out (by simp)
    obtain ⟨⟨c0, c1, c2, c3, c4, c5⟩, _⟩ := cells6 ha
    obtain ⟨⟨d0, d1, d2, d3, d4, d5⟩, _⟩ := cells6 hb
    have Ha := Lib.hid ha
    have Hb := Lib.hid hb
    have Hk := Lib.hid hk
    clear ha hb hk HA HB Hp Hn
    go_wp2_with (first
      | (go_at_call 20; (with_reducible refine (S1.out _).mono ?_); rintro e w3 ⟨rfl, k3⟩; obtain ⟨⟨b0, b1, b2, b3, b4, b5⟩, _⟩ := cells6 (k3.some Hb.out (by simp)))
      | (go_at_call 20; (with_reducible refine (S2.out _).mono ?_); rintro e w4 ⟨rfl, k4⟩))
    go_ret
    exact ⟨rfl, KT (KT (KT (KT (KT ((Keeps.refl [] w).alloc _) K1.out) ((Keeps.refl [] _).alloc _)) Hk.out) k3) k4⟩
end Go.Proofs.Ytcbpkplmaglpcaa
