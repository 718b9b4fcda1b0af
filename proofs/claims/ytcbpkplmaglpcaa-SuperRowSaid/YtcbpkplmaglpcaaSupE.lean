/- Layer 11: sector, Encode. -/
import Derived.Test.YtcbpkplmaglpcaaSupPure
import Derived.Test.YtcbpkplmaglpcaaSupD
import Derived.Test.YtcbpkplmaglpcaaRow
import Derived.Deep.RegionHeld3
import Derived.Test.YtcbpkplmaglpcaaShelf
namespace Go.Proofs.Ytcbpkplmaglpcaa
open Go.RowKit

theorem repeat0_any (w : World) : Calls Try.prog 37 #[.string ⟨#[0]⟩, .int .i64 8] w fun e w' => e = .returned (.string (str (List.replicate 8 0))) ∧ Keeps [] w w' := by
  have h := Try.strings_Repeat ⟨#[0]⟩ 8 w (by omega) (by simp [ByteArray.size])
  exact h.mono fun e w' ⟨he, hb⟩ => ⟨he, Keeps.of_below hb⟩

set_option maxHeartbeats 4000000 in
theorem sector_any (s : Sup) (hk : s.key < 18446744073709551616) (hc : s.check = 0) (w : World) : Calls Try.prog 25 #[s.agg] w fun e w' => e = .returned (.string (str s.sector)) ∧ Keeps [] w w' := by
  obtain ⟨⟨e0, e1⟩, ⟨s0, s1⟩, ⟨n0, n1⟩, z0, z1, t0, t1⟩ := check_le s hc
  clear hc
  unfold Sup.sector Sup.body
  obtain ⟨key, epoch, serial, size, tail, number⟩ := s
  unfold Sup.agg
  dsimp only at *
  obtain ⟨E, rfl⟩ : ∃ n : Nat, epoch = n := ⟨epoch.toNat, by omega⟩
  obtain ⟨S, rfl⟩ : ∃ n : Nat, serial = n := ⟨serial.toNat, by omega⟩
  obtain ⟨Z, rfl⟩ : ∃ n : Nat, size = n := ⟨size.toNat, by omega⟩
  obtain ⟨T, rfl⟩ : ∃ n : Nat, tail = n := ⟨tail.toNat, by omega⟩
  obtain ⟨N, rfl⟩ : ∃ n : Nat, number = n := ⟨number.toNat, by omega⟩
  simp only [Int.toNat_natCast]
  have BK := Lib.hid (fun w => bytes64_any key w hk)
  have BE := Lib.hid (fun w => bytes32_any E w (by omega))
  have BZ := Lib.hid (fun w => bytes32_any Z w (by omega))
  have BS := Lib.hid (fun w => bytes64_any S w (by omega))
  have BT := Lib.hid (fun w => bytes64_any T w (by omega))
  have BN := Lib.hid (fun w => bytes64_any N w (by omega))
  have lK : (be key 8).length = 8 := be_length _ _
  have lE : (be E 4).length = 4 := be_length _ _
  have lZ : (be Z 4).length = 4 := be_length _ _
  have lS : (be S 8).length = 8 := be_length _ _
  have lT : (be T 8).length = 8 := be_length _ _
  have lN : (be N 8).length = 8 := be_length _ _
  have wE : IntKind.u32.wrap (E : Int) = E := IntWalk.u32_in _ ⟨by omega, by omega⟩
  have wZ : IntKind.u32.wrap (Z : Int) = Z := IntWalk.u32_in _ ⟨by omega, by omega⟩
  have wS : IntKind.u64.wrap (S : Int) = S := IntWalk.u64_in _ ⟨by omega, by omega⟩
  have wT : IntKind.u64.wrap (T : Int) = T := IntWalk.u64_in _ ⟨by omega, by omega⟩
  have wN : IntKind.u64.wrap (N : Int) = N := IntWalk.u64_in _ ⟨by omega, by omega⟩
  generalize be key 8 = K at *
  generalize be E 4 = E' at *
  generalize be Z 4 = Z' at *
  generalize be S 8 = S' at *
  generalize be T 8 = T' at *
  generalize be N 8 = N' at *
  have hmag : (ByteArray.mk #[76, 83, 85, 80]) = str [76, 83, 85, 80] := rfl
  have hsl := fun w => seal_any (76 :: 83 :: 85 :: 80 :: (K ++ (E' ++ (Z' ++ (S' ++ (T' ++ (N' ++ 0 :: 0 :: 0 :: 0 :: 0 :: 0 :: 0 :: 0 :: S')))))) : List UInt8) w (by simp [lK, lE, lZ, lS, lT, lN])
  have hL : ([76, 83, 85, 80] ++ K ++ E' ++ Z' ++ S' ++ T' ++ N' ++ List.replicate 8 0 ++ S' : List UInt8) = 76 :: 83 :: 85 :: 80 :: (K ++ (E' ++ (Z' ++ (S' ++ (T' ++ (N' ++ 0 :: 0 :: 0 :: 0 :: 0 :: 0 :: 0 :: 0 :: S')))))) := by simp [List.replicate]
  rw [hL]
  generalize hY : (76 :: 83 :: 85 :: 80 :: (K ++ (E' ++ (Z' ++ (S' ++ (T' ++ (N' ++ 0 :: 0 :: 0 :: 0 :: 0 :: 0 :: 0 :: 0 :: S')))))) : List UInt8) ++ four (crcMore 0 (76 :: 83 :: 85 :: 80 :: (K ++ (E' ++ (Z' ++ (S' ++ (T' ++ (N' ++ 0 :: 0 :: 0 :: 0 :: 0 :: 0 :: 0 :: 0 :: S')))))) : List UInt8)) = Y at *
  have Hsl := Lib.hid hsl
  have KS : Hid (∀ w', Keeps [] (w.alloc (.cells #[.int .u64 key, .int .i64 E, .int .i64 S, .int .i64 Z, .int .i64 T, .int .i64 N] 25)) w' → (w'.cell? ⟨w.heap.size, 0, none⟩ = some (.int .u64 key) ∧ w'.cell? ⟨w.heap.size, 1, none⟩ = some (.int .i64 E) ∧ w'.cell? ⟨w.heap.size, 2, none⟩ = some (.int .i64 S) ∧ w'.cell? ⟨w.heap.size, 3, none⟩ = some (.int .i64 Z) ∧ w'.cell? ⟨w.heap.size, 4, none⟩ = some (.int .i64 T) ∧ w'.cell? ⟨w.heap.size, 5, none⟩ = some (.int .i64 N))) :=
    fun w' k => ⟨k.cell0 (cell_new rfl _ _ 0), k.cell0 (cell_new rfl _ _ 1), k.cell0 (cell_new rfl _ _ 2), k.cell0 (cell_new rfl _ _ 3), k.cell0 (cell_new rfl _ _ 4), k.cell0 (cell_new rfl _ _ 5)⟩
  have K0 : Keeps [] (w.alloc (.cells #[.int .u64 key, .int .i64 E, .int .i64 S, .int .i64 Z, .int .i64 T, .int .i64 N] 25)) (w.alloc (.cells #[.int .u64 key, .int .i64 E, .int .i64 S, .int .i64 Z, .int .i64 T, .int .i64 N] 25)).drew := (Keeps.refl [] _).drew
  clear hY hL hsl hk e0 e1 s0 s1 n0 n1 z0 z1 t0 t1
  go_enter Try.func25, Try.ntmps25
  go_wp2
  go_region_held3 (fun w' => w'.cell? ⟨w.heap.size, 0, none⟩ = some (.int .u64 key) ∧ w'.cell? ⟨w.heap.size, 1, none⟩ = some (.int .i64 E) ∧ w'.cell? ⟨w.heap.size, 2, none⟩ = some (.int .i64 S) ∧ w'.cell? ⟨w.heap.size, 3, none⟩ = some (.int .i64 Z) ∧ w'.cell? ⟨w.heap.size, 4, none⟩ = some (.int .i64 T) ∧ w'.cell? ⟨w.heap.size, 5, none⟩ = some (.int .i64 N))
    (exact KS.out _ (by assumption))
    (first
      | (go_at_call 35; (with_reducible refine (BK.out _).mono ?_); rintro e w1 ⟨rfl, k1⟩; have k1' := KT (by assumption) k1; clear k1)
      | (go_at_call 36; (with_reducible refine (BE.out _).mono ?_); rintro e w1 ⟨rfl, k1⟩; have k1' := KT (by assumption) k1; clear k1)
      | (go_at_call 36; (with_reducible refine (BZ.out _).mono ?_); rintro e w1 ⟨rfl, k1⟩; have k1' := KT (by assumption) k1; clear k1)
      | (go_at_call 35; (with_reducible refine (BS.out _).mono ?_); rintro e w1 ⟨rfl, k1⟩; have k1' := KT (by assumption) k1; clear k1)
      | (go_at_call 35; (with_reducible refine (BT.out _).mono ?_); rintro e w1 ⟨rfl, k1⟩; have k1' := KT (by assumption) k1; clear k1)
      | (go_at_call 35; (with_reducible refine (BN.out _).mono ?_); rintro e w1 ⟨rfl, k1⟩; have k1' := KT (by assumption) k1; clear k1))
  have RP := Lib.hid (fun w => repeat0_any w)
  go_wp2_with (first
    | (go_at_call 35; (with_reducible refine (BS.out _).mono ?_); rintro e w2 ⟨rfl, k2⟩; have k2' := KT (by assumption) k2; clear k2)
    | (go_at_call 37; (with_reducible refine (RP.out _).mono ?_); rintro e w3 ⟨rfl, k3⟩; have k3' := KT (by assumption) k3; clear k3)
    | (go_at_call 34; (with_reducible refine (Hsl.out _).mono ?_); rintro e w4 ⟨rfl, k4⟩; have k4' := KT (by assumption) k4; clear k4))
  go_ret
  exact ⟨rfl, KT ((Keeps.refl [] w).alloc _) (by assumption)⟩
end Go.Proofs.Ytcbpkplmaglpcaa
