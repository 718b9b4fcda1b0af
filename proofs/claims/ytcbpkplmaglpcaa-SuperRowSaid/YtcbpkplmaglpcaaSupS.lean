/- Layer 11, the reference: Sector. -/
import Derived.Test.YtcbpkplmaglpcaaSupR
import Derived.Test.YtcbpkplmaglpcaaMake
namespace Go.Proofs.Ytcbpkplmaglpcaa
open Go.RowKit

theorem refFixed8 (x : Nat) (w : World) (hx : x < 18446744073709551616) : Calls Try.prog 33 #[.int .u64 x, .int .i64 8] w fun e w' => e = .returned (.string (str (be x 8))) ∧ Keeps [] w w' := refFixed_any x 8 w (by omega) hx
theorem refFixed4 (x : Nat) (w : World) (hx : x < 18446744073709551616) : Calls Try.prog 33 #[.int .u64 x, .int .i64 4] w fun e w' => e = .returned (.string (str (be x 4))) ∧ Keeps [] w w' := refFixed_any x 4 w (by omega) hx

set_option maxHeartbeats 4000000 in
set_option maxRecDepth 100000 in
theorem refSector_any (s : Sup) (hk : s.key < 18446744073709551616) (hc : s.check = 0) (w : World) : Calls Try.prog 19 #[s.agg] w fun e w' => e = .returned (.string (str s.sector)) ∧ Keeps [] w w' := by
  obtain ⟨⟨e0, e1⟩, ⟨s0, s1⟩, ⟨n0, n1⟩, z0, z1, t0, t1⟩ := check_le s hc
  clear hc
  unfold Sup.sector Sup.body
  obtain ⟨key, epoch, serial, size, tail, number⟩ := s
  unfold Sup.agg
  dsimp only at *
  obtain ⟨E, rfl⟩ : ∃ n : Nat, epoch = n := ⟨epoch.toNat, by omega⟩
  obtain ⟨S, rfl⟩ : ∃ n : Nat, serial = n := ⟨serial.toNat, by omega⟩
  obtain ⟨Z, rfl⟩ : ∃ n : Nat, size = n := ⟨size.toNat, by omega⟩
  obtain ⟨T, rfl⟩ : ∃ n : Nat, tail = n := ⟨tail.toNat, by omega⟩
  obtain ⟨N, rfl⟩ : ∃ n : Nat, number = n := ⟨number.toNat, by omega⟩
  simp only [Int.toNat_natCast]
  have BK := Lib.hid (fun w => refFixed8 key w hk)
  have BE := Lib.hid (fun w => refFixed4 E w (by omega))
  have BZ := Lib.hid (fun w => refFixed4 Z w (by omega))
  have BS := Lib.hid (fun w => refFixed8 S w (by omega))
  have BT := Lib.hid (fun w => refFixed8 T w (by omega))
  have BN := Lib.hid (fun w => refFixed8 N w (by omega))
  have lK : (be key 8).length = 8 := be_length _ _
  have lE : (be E 4).length = 4 := be_length _ _
  have lZ : (be Z 4).length = 4 := be_length _ _
  have lS : (be S 8).length = 8 := be_length _ _
  have lT : (be T 8).length = 8 := be_length _ _
  have lN : (be N 8).length = 8 := be_length _ _
  have wE : IntKind.u64.wrap (E : Int) = E := IntWalk.u64_in _ ⟨by omega, by omega⟩
  have wZ : IntKind.u64.wrap (Z : Int) = Z := IntWalk.u64_in _ ⟨by omega, by omega⟩
  have wS : IntKind.u64.wrap (S : Int) = S := IntWalk.u64_in _ ⟨by omega, by omega⟩
  have wT : IntKind.u64.wrap (T : Int) = T := IntWalk.u64_in _ ⟨by omega, by omega⟩
  have wN : IntKind.u64.wrap (N : Int) = N := IntWalk.u64_in _ ⟨by omega, by omega⟩
  generalize be key 8 = K at *
  generalize be E 4 = E' at *
  generalize be Z 4 = Z' at *
  generalize be S 8 = S' at *
  generalize be T 8 = T' at *
  generalize be N 8 = N' at *
  have hmag : (ByteArray.mk #[76, 83, 85, 80]) = str [76, 83, 85, 80] := rfl
  have hL : ([76, 83, 85, 80] ++ K ++ E' ++ Z' ++ S' ++ T' ++ N' ++ List.replicate 8 0 ++ S' : List UInt8) = 76 :: 83 :: 85 :: 80 :: (K ++ (E' ++ (Z' ++ (S' ++ (T' ++ (N' ++ 0 :: 0 :: 0 :: 0 :: 0 :: 0 :: 0 :: 0 :: S')))))) := by simp [List.replicate]
  rw [hL]
  have hMo := fun w => refMore_any 0 (76 :: 83 :: 85 :: 80 :: (K ++ (E' ++ (Z' ++ (S' ++ (T' ++ (N' ++ 0 :: 0 :: 0 :: 0 :: 0 :: 0 :: 0 :: 0 :: S')))))) : List UInt8) w (by omega) (by simp [lK, lE, lZ, lS, lT, lN])
  rw [Int.natCast_zero] at hMo
  have hX := crcMore_lt 0 (76 :: 83 :: 85 :: 80 :: (K ++ (E' ++ (Z' ++ (S' ++ (T' ++ (N' ++ 0 :: 0 :: 0 :: 0 :: 0 :: 0 :: 0 :: 0 :: S')))))) : List UInt8)
  generalize crcMore 0 (76 :: 83 :: 85 :: 80 :: (K ++ (E' ++ (Z' ++ (S' ++ (T' ++ (N' ++ 0 :: 0 :: 0 :: 0 :: 0 :: 0 :: 0 :: 0 :: S')))))) : List UInt8) = X at *
  have Mo := Lib.hid hMo
  have Fo := Lib.hid (fun w => refFour_any X w hX)
  have lF : (four X).length = 4 := rfl
  generalize four X = FF at *
  clear hMo hX
  have KS : Hid (∀ w', Keeps [] (w.alloc (.cells #[.int .u64 key, .int .i64 E, .int .i64 S, .int .i64 Z, .int .i64 T, .int .i64 N] 29)) w' → (w'.cell? ⟨w.heap.size, 0, none⟩ = some (.int .u64 key) ∧ w'.cell? ⟨w.heap.size, 1, none⟩ = some (.int .i64 E) ∧ w'.cell? ⟨w.heap.size, 2, none⟩ = some (.int .i64 S) ∧ w'.cell? ⟨w.heap.size, 3, none⟩ = some (.int .i64 Z) ∧ w'.cell? ⟨w.heap.size, 4, none⟩ = some (.int .i64 T) ∧ w'.cell? ⟨w.heap.size, 5, none⟩ = some (.int .i64 N))) :=
    fun w' k => ⟨k.cell0 (cell_new rfl _ _ 0), k.cell0 (cell_new rfl _ _ 1), k.cell0 (cell_new rfl _ _ 2), k.cell0 (cell_new rfl _ _ 3), k.cell0 (cell_new rfl _ _ 4), k.cell0 (cell_new rfl _ _ 5)⟩
  have K0 : Keeps [] (w.alloc (.cells #[.int .u64 key, .int .i64 E, .int .i64 S, .int .i64 Z, .int .i64 T, .int .i64 N] 29)) (w.alloc (.cells #[.int .u64 key, .int .i64 E, .int .i64 S, .int .i64 Z, .int .i64 T, .int .i64 N] 29)).drew := (Keeps.refl [] _).drew
  clear hL hk e0 e1 s0 s1 n0 n1 z0 z1 t0 t1
  go_enter Try.func19, Try.ntmps19
  go_wp2
  go_region_held3 (fun w' => w'.cell? ⟨w.heap.size, 0, none⟩ = some (.int .u64 key) ∧ w'.cell? ⟨w.heap.size, 1, none⟩ = some (.int .i64 E) ∧ w'.cell? ⟨w.heap.size, 2, none⟩ = some (.int .i64 S) ∧ w'.cell? ⟨w.heap.size, 3, none⟩ = some (.int .i64 Z) ∧ w'.cell? ⟨w.heap.size, 4, none⟩ = some (.int .i64 T) ∧ w'.cell? ⟨w.heap.size, 5, none⟩ = some (.int .i64 N))
    (exact KS.out _ (by assumption))
    (first
      | (go_at_call 33; (with_reducible refine (BK.out _).mono ?_); rintro e w1 ⟨rfl, k1⟩; have k1' := KT (by assumption) k1; clear k1)
      | (go_at_call 33; (with_reducible refine (BE.out _).mono ?_); rintro e w1 ⟨rfl, k1⟩; have k1' := KT (by assumption) k1; clear k1)
      | (go_at_call 33; (with_reducible refine (BZ.out _).mono ?_); rintro e w1 ⟨rfl, k1⟩; have k1' := KT (by assumption) k1; clear k1)
      | (go_at_call 33; (with_reducible refine (BS.out _).mono ?_); rintro e w1 ⟨rfl, k1⟩; have k1' := KT (by assumption) k1; clear k1)
      | (go_at_call 33; (with_reducible refine (BT.out _).mono ?_); rintro e w1 ⟨rfl, k1⟩; have k1' := KT (by assumption) k1; clear k1)
      | (go_at_call 33; (with_reducible refine (BN.out _).mono ?_); rintro e w1 ⟨rfl, k1⟩; have k1' := KT (by assumption) k1; clear k1))
  go_wp2
  clear BK BE BZ BT BN
  have K2 := (show Keeps [] (w.alloc (.cells #[.int .u64 key, .int .i64 E, .int .i64 S, .int .i64 Z, .int .i64 T, .int .i64 N] 29)) w1 by assumption).drew
  obtain ⟨Z0, hmk, hcv⟩ := make_zeros 8 (by omega)
  have hmk' : ∀ w, (Instr.makeSlice 47 (.int .i64 8) (.int .i64 8)).run Try.prog w = .ok (.slice (some ⟨w.heap.size, 0, none⟩) 8 8) (w.alloc (.cells Z0 5)) := hmk
  have hcv' : ∀ w : World, (convert 47 9 (.slice (some ⟨w.heap.size, 0, none⟩) 8 8)).run Try.prog (w.alloc (.cells Z0 5)) = .ok (.string (str (List.replicate 8 0))) (w.alloc (.cells Z0 5)) := fun w => hcv w _ (Keeps.refl [] _)
  have hcv3 : ∀ w : World, (convert 47 9 (.slice (some ⟨w.heap.size, 0, none⟩) 8 8)).run Try.prog (w.alloc (.cells Z0 5)).drew = .ok (.string (str (List.replicate 8 0))) (w.alloc (.cells Z0 5)).drew := fun w => hcv w _ (Keeps.refl [] _).drew
  have Hcv := Lib.hid hcv
  have w8 : IntKind.i64.wrap 8 = 8 := by decide
  clear hmk hcv
  obtain ⟨_, _, c2, _⟩ := KS.out _ (show Keeps [] (w.alloc (.cells #[.int .u64 key, .int .i64 E, .int .i64 S, .int .i64 Z, .int .i64 T, .int .i64 N] 29)) w1 by assumption)
  have c4 : ∀ o : Obj, (w1.alloc o).cell? ⟨w.heap.size, 2, none⟩ = some (.int .i64 S) := fun o => (KS.out _ (Keeps.alloc (by assumption) o)).2.2.1
  go_region_with (first
      | (go_at_call 33; (with_reducible refine (BS.out _).mono ?_); rintro e w2 ⟨rfl, k2⟩; (first | have hcv2 := Hcv.out _ _ k2.ofDrew | skip); (first | have k2' := KT (by assumption) k2 | have k2' := KT (Keeps.alloc (by assumption) _) k2 | have k2' := KT (Keeps.drew (Keeps.alloc (by assumption) _)) k2); (first | obtain ⟨_, _, c3, _⟩ := KS.out _ k2' | skip); clear k2))
  all_goals
    clear BS c2 c4
    go_wp2_with (first
      | (go_at_call 27; (with_reducible refine (Mo.out _).mono ?_); rintro e w7 ⟨rfl, rfl⟩)
      | (go_at_call 26; (with_reducible refine (Fo.out _).mono ?_); rintro e w8 ⟨rfl, k8⟩))
    go_ret
    refine ⟨by simp, KT ((Keeps.refl [] w).alloc (.cells #[.int .u64 key, .int .i64 E, .int .i64 S, .int .i64 Z, .int .i64 T, .int .i64 N] 29)) ?_⟩
    first | exact KT (by assumption) k8 | exact KT (Keeps.drew (by assumption)) k8 | exact KT (Keeps.alloc (by assumption) _) k8 | exact KT (Keeps.drew (Keeps.alloc (by assumption) _)) k8
end Go.Proofs.Ytcbpkplmaglpcaa
