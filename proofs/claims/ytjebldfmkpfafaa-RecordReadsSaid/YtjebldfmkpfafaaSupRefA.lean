/- Layers 2, 3, 9, the references: More, Four, Fixed, Number, May. -/
import Derived.Test.YtjebldfmkpfafaaRecP
import Derived.Test.YtjebldfmkpfafaaSupA
namespace Go.Proofs.Ytjebldfmkpfafaa
open Go.RowKit
set_option maxRecDepth 100000

set_option maxHeartbeats 2000000 in
theorem refMore_any (x : Nat) (s : List UInt8) (w : World) (hx : x < 4294967296) (hs : s.length ≤ 140737488351232) :
    Calls Try.prog 32 #[.int .u32 x, .string (str s)] w fun e w' => e = .returned (.int .u32 (crcMore x s)) ∧ w = w' := by
  unfold crcMore
  have hx0 : 4294967295 - x < 4294967296 := by omega
  have hxe : (4294967295 : Int) - (x : Int) = ((4294967295 - x : Nat) : Int) := by omega
  generalize 4294967295 - x = X at *
  go_enter Try.func32, Try.ntmps32
  go_wp2
  go_loop [5, 6] (fun xv iv => ∃ k z : Nat, k ≤ s.length ∧ iv = .int .i64 k ∧ xv = .int .u32 z ∧ Hid (z = crcRun X (s.take k))) (fun _ iv => s.length - (intOf iv).toNat)
  case atStart => exact ⟨0, X, Nat.zero_le _, rfl, by first | rfl | rw [hxe] | go_num, rfl⟩
  case round =>
    obtain ⟨k, z, hk, rfl, rfl, Hz⟩ := hrel
    have hzl : z < 4294967296 := by rw [Hz.out]; exact crcRun_lt _ hx0
    by_cases hlt : k < s.length
    · have hki : (k : Int) < (s.length : Int) := by omega
      have hki0 : (0 : Int) ≤ (k : Int) := by omega
      have hsz : k < (str s).size := by rw [str_size]; exact hlt
      have hst : s.take (k + 1) = s.take k ++ [(str s)[k]'hsz] := List.take_succ_eq_append_getElem hlt
      have Hst := Lib.hid hst
      clear hst
      have hcl := ((str s)[k]'hsz).toNat_lt
      have e1 : bits .xor .u32 (z : Int) (((str s)[k]'hsz).toNat : Int) = ((z ^^^ ((str s)[k]'hsz).toNat : Nat) : Int) := u32_xor_nat z _ hzl (by omega)
      have hb := xor_byte_lt hzl ((str s)[k]'hsz)
      have Hy : Hid (crcRun X (s.take (k + 1)) = crcSteps (z ^^^ ((str s)[k]'hsz).toNat) 8) := by unfold Hid; rw [Hst.out, run_snoc_byte, ← Hz.out]; rfl
      generalize hyy : z ^^^ ((str s)[k]'hsz).toNat = y at *
      clear hyy Hst
      go_wp2
      go_loop [5, 7] (fun xv nv => ∃ j u : Nat, j ≤ 8 ∧ nv = .int .i64 j ∧ xv = .int .u32 u ∧ Hid (u = crcSteps y j)) (fun _ nv => 8 - (intOf nv).toNat)
      case atStart => exact ⟨0, y, by omega, rfl, by first | rfl | rw [e1], rfl⟩
      case round =>
        obtain ⟨j, u, hj, rfl, rfl, Hu⟩ := hrel
        by_cases hltj : j < 8
        · have hul : u < 4294967296 := by rw [Hu.out]; exact crcSteps_lt hb j
          by_cases ho : u % 2 = 1
          · have b1 : ((u : Int) % 2 == 1) = true := by rw [beq_iff_eq]; omega
            have e3 : bits .xor .u32 ((u : Int) / 2) 2197175160 = ((u / 2 ^^^ 2197175160 : Nat) : Int) := by
              have := u32_xor_nat (u / 2) 2197175160 (by omega) (by omega)
              rwa [Int.natCast_ediv] at this
            have Hn : Hid (u / 2 ^^^ 2197175160 = crcSteps y (j + 1)) := by unfold Hid; rw [crcSteps, ← Hu.out, crcStep, if_pos ho]
            go_wp2
            go_round
            case rel => exact ⟨j + 1, u / 2 ^^^ 2197175160, by omega, by go_num, by first | rfl | rw [e3], Hn⟩
            case measure => simp [intOf] <;> omega
          · have b1 : ((u : Int) % 2 == 1) = false := by rw [beq_eq_false_iff_ne]; omega
            have Hn : Hid (u / 2 = crcSteps y (j + 1)) := by unfold Hid; rw [crcSteps, ← Hu.out, crcStep, if_neg ho, Nat.xor_zero]
            go_wp2
            go_round
            case rel => exact ⟨j + 1, u / 2, by omega, by go_num, by first | rfl | go_num, Hn⟩
            case measure => simp [intOf] <;> omega
        · obtain rfl : j = 8 := by omega
          go_wp2
          go_round
          case rel => exact ⟨k + 1, u, by omega, by go_num, rfl, by unfold Hid; rw [Hy.out, Hu.out]⟩
          case measure => simp [intOf] <;> omega
    · obtain rfl : k = s.length := by omega
      rw [List.take_length] at Hz
      have hze : (4294967295 : Int) - (z : Int) = ((4294967295 - z : Nat) : Int) := by omega
      go_wp2
      go_ret
      rw [← Hz.out]
      exact ⟨ret_int (by omega), rfl⟩

/-- What is left of a number behind so many bytes: the lowest one first. -/
theorem four_four (x : Nat) : four x = [UInt8.ofNat x, UInt8.ofNat (x / 256), UInt8.ofNat (x / 65536), UInt8.ofNat (x / 16777216)] := rfl
theorem four_take {x k : Nat} (hk : k < 4) : (four x).take (k + 1) = (four x).take k ++ [UInt8.ofNat (x / 256 ^ k)] := by
  rcases (show k = 0 ∨ k = 1 ∨ k = 2 ∨ k = 3 by omega) with rfl | rfl | rfl | rfl <;> simp [four]

set_option maxHeartbeats 1000000 in
theorem refFour_any (x : Nat) (w : World) (hx : x < 4294967296) : Calls Try.prog 33 #[.int .u32 x] w fun e w' => e = .returned (.string (str (four x))) ∧ Keeps [] w w' := by
  go_enter Try.func33, Try.ntmps33
  go_wp2
  go_loopw [0, 3, 4] (fun xv ov iv wr => ∃ k X : Nat, k ≤ 4 ∧ iv = .int .i64 k ∧ xv = .int .u32 X ∧ X < 4294967296 ∧ Hid (X = x / 256 ^ k) ∧ wr.ownsRow 0 5 1 ov k (((four x).take k).map u8v) ∧ (∀ x, x ∈ ov.ownBlock.toList → w.heap.size ≤ x) ∧ Keeps [] w wr) (fun _ _ iv _ => 4 - (intOf iv).toNat)
  case atStart => exact ⟨0, x, by omega, rfl, rfl, hx, by simp [Hid], World.ownsRow_nil _ _ _ _, by simp [Value.ownBlock], Keeps.refl _ _⟩
  case round =>
    obtain ⟨k, X, hk, rfl, rfl, hX, HX, hown, hfr, hkk⟩ := hrel
    by_cases hlt : k < 4
    · obtain ⟨ad, cap, hv⟩ := ownsRow_shape hown
      subst hv
      have Hown := Lib.hid hown
      have Hc1 := Lib.hid (byte_of HX.out)
      have HX' : Hid (X / 256 = x / 256 ^ (k + 1)) := by unfold Hid; rw [HX.out, Nat.div_div_eq_div_mul, Nat.pow_succ]
      clear hown
      go_wp2_with (at_builtin; refine wpList_app1 tyBytes rfl (.tmp 9) (.tmp 13) rfl _ _ _ rfl rfl Hown.out rfl ?c1 ?c2 ?c3 ?c4)
      case c1 => rfl
      case c2 => omega
      case c3 => unfold maxLen; omega
      case c4 =>
      intro g' cap' w' hown' hc'
      have hown2 : w'.ownsRow 0 5 1 (.slice (some ⟨g', 0, none⟩) (k + 1) cap') (k + 1) (((four x).take (k + 1)).map u8v) := by
        rw [four_take hlt, List.map_append, List.map_cons, List.map_nil, ← Hc1.out, List.map_take]
        exact hown'
      have Hown2 := Lib.hid hown2
      have Hc := Lib.hid hc'
      clear hown' hown2 hc'
      go_wp2
      go_roundw
      case rel => exact ⟨k + 1, X / 256, by omega, by go_num, by go_num, by omega, HX', Hown2.out, fun x hx => (Hc.out.fresh x hx).elim (hfr x) (fun h => Nat.le_trans hkk.size h), hkk.trans Hc.out.keeps (fun x hx => .inr (hfr x hx))⟩
      case measure => simp [intOf] <;> omega
    · obtain rfl : k = 4 := by omega
      rw [List.take_of_length_le (show (four x).length ≤ 4 by simp [four])] at hown
      have hcv := own_string (P := Try.prog) Try.underlying41 Try.underlying5 Try.underlying9 hown
      clear hown
      go_wp2
      go_ret
      exact ⟨rfl, hkk⟩
end Go.Proofs.Ytjebldfmkpfafaa
