/- strconv.FormatInt at the base 16. -/
import Derived.Test.YtdjhlnkkbpmfmaaDoorNamC
import Derived.Laws.BitsAllLaws
namespace Go.Proofs.YtdjhlnkkbpmfmaaDoor
open Go.RowKit

/-- The table's cell that is read. -/
def TabC (w : World) : Prop := w.cell? ⟨3, 15, none⟩ = some (.int .u8 4)
theorem TabC.kept {w w' : World} (h : TabC w) (k : Keeps [] w w') : TabC w' := k.cell0 h

theorem pow2_any (w : World) : Calls Tryd.prog 70 #[.int .i64 16] w fun e w' => e = .returned (.bool true) ∧ w' = w := by
  go_enter Tryd.func70, Tryd.ntmps70
  go_wp2
  go_ret
  exact ⟨rfl, rfl⟩

theorem trail64_any (w : World) (h : TabC w) : Calls Tryd.prog 81 #[.int .u64 16] w fun e w' => e = .returned (.int .i64 4) ∧ w' = w := by
  unfold TabC at h
  have b1 : IntKind.u64.wrap (-16) = 18446744073709551600 := by decide
  have b2 : bits BinOp.and IntKind.u64 16 18446744073709551600 = 16 := by kernel_rfl
  have b3 : IntKind.u64.wrap (16 * 285870213051353865) = 4573923408821661840 := by decide
  go_enter Tryd.func81, Tryd.ntmps81
  go_wp2
  go_ret
  exact ⟨rfl, rfl⟩
theorem trail_any (w : World) (h : TabC w) : Calls Tryd.prog 71 #[.int .u64 16] w fun e w' => e = .returned (.int .i64 4) ∧ w' = w := by
  have T := Lib.hid (trail64_any w h)
  clear h
  go_enter Tryd.func71, Tryd.ntmps71
  go_wp2_with (go_at_call 81; (with_reducible refine T.out.mono ?_); rintro e w1 ⟨rfl, rfl⟩)
  go_ret
  exact ⟨rfl, rfl⟩

/-- A block whose cells from i on are these bytes. -/
def Tail (w : World) (b i : Nat) (D : List UInt8) : Prop := ∃ (cs : Array Value) (t : TypeId), w.heap[b]? = some (.cells cs t (0, 0)) ∧ cs.size = 65 ∧ i + D.length = 65 ∧ ∀ j c, D[j]? = some c → cs[i + j]? = some (u8v c)
theorem Tail.cell {w : World} {b i : Nat} {D : List UInt8} (h : Tail w b i D) (k : Nat) (hk : k < 65) : ∃ v, w.cell? ⟨b, k, none⟩ = some v := by
  obtain ⟨cs, t, h1, h2, _, _⟩ := h
  have hl : k < cs.size := by omega
  exact ⟨cs[k], by rw [cell_of_heap h1, Array.getElem?_eq_getElem hl]⟩
theorem Tail.free {w : World} {b i : Nat} {D : List UInt8} (h : Tail w b i D) (k : Nat) : w.frozen? ⟨b, k, none⟩ = false := by
  obtain ⟨cs, t, h1, _, _, _⟩ := h
  exact free_of_heap h1 k
theorem Tail.push {w : World} {b i : Nat} {D : List UInt8} (h : Tail w b (i + 1) D) (c : UInt8) : Tail (w.setCell ⟨b, i, none⟩ (u8v c)) b i (c :: D) := by
  obtain ⟨cs, t, h1, h2, h3, h4⟩ := h
  refine ⟨_, t, heap_setCell h1 i (u8v c), by simpa using h2, by simp only [List.length_cons]; omega, fun j d hj => ?_⟩
  cases j with
  | zero =>
    obtain rfl : c = d := by simpa using hj
    rw [Nat.add_zero, Array.getElem?_setIfInBounds_self_of_lt (by omega)]
  | succ j =>
    rw [Array.getElem?_setIfInBounds_ne (by omega), show i + (j + 1) = i + 1 + j by omega]
    exact h4 j d (by simpa using hj)
/-- They are a string. -/
theorem Tail.back {w : World} {b i : Nat} {D : List UInt8} (h : Tail w b i D) (n cap : Nat) (hn : n = D.length) : (convert 65 9 (.slice (some ⟨b, i, none⟩) n cap)).run Tryd.prog w = .ok (.string (str D)) w := by
  obtain ⟨cs, t, h1, h2, h3, h4⟩ := h
  refine (run_convert_bytes_arg (P := Tryd.prog) w 65 5 Tryd.underlying65 Tryd.underlying5 b i n cap (D.map fun c => (c.toNat : Int)) (by simpa using hn.symm) (fun j hj => ?_) 9 Tryd.underlying9).trans ?_
  · have hjl : j < D.length := by omega
    rw [cell_of_heap h1, h4 j D[j] (List.getElem?_eq_getElem hjl)]
    simp [List.getElem?_eq_getElem hjl, u8v, List.getD_eq_getElem?_getD]
  · congr 2
    unfold str strOfNums
    congr 2
    rw [List.map_map]
    simp [Function.comp_def]

abbrev digs : ByteArray := ⟨#[48, 49, 50, 51, 52, 53, 54, 55, 56, 57, 97, 98, 99, 100, 101, 102, 103, 104, 105, 106, 107, 108, 109, 110, 111, 112, 113, 114, 115, 116, 117, 118, 119, 120, 121, 122]⟩
theorem and15 (U : Nat) (h : U < 18446744073709551616) : bits BinOp.and IntKind.u64 (U : Int) 15 = ((U % 16 : Nat) : Int) := by
  have e := u64_and_nat U 15 h (by omega)
  rw [Nat.and_two_pow_sub_one_eq_mod U 4] at e
  exact e
theorem digs_at : ∀ (d : Nat) (h : d < digs.size), d < 16 → digs[d]'h = hexd d := by decide

set_option maxHeartbeats 4000000 in
set_option maxRecDepth 100000 in
theorem formatBits_any (u : Nat) (hu : u < 9223372036854775808) (w : World) (hT : TabC w) : Calls Tryd.prog 48 #[.slice none 0 0, .int .u64 u, .int .i64 16, .bool false, .bool false] w fun e w' =>
    e = .returned (.tuple #[.slice none 0 0, .string (str (hexs u))]) ∧ Keeps [] w w' := by
  have P2 := Lib.hid (fun w => pow2_any w)
  have HT := Lib.hid (fun (w' : World) (k : Keeps [] w w') => trail_any w' (hT.kept k))
  go_enter Tryd.func48, Tryd.ntmps48
  go_wp2_with (first
    | (go_at_call 70; (with_reducible refine (P2.out _).mono ?_); rintro e w1 ⟨rfl, rfl⟩)
    | (go_at_call 71; (refine (HT.out _ ((Keeps.refl [] w).alloc _)).mono ?_); rintro e w1 ⟨rfl, rfl⟩))
  go_loopw [1, 13] (fun uv iv wr => ∃ (i U : Nat) (D : List UInt8), uv = .int .u64 U ∧ iv = .int .i64 i ∧ Hid (hexs u = hexs U ++ D) ∧ Hid (Tail wr w.heap.size i D) ∧ D.length ≤ 15 ∧ i + D.length = 65 ∧ U * 16 ^ D.length ≤ u ∧ Keeps [] w wr) (fun uv _ _ => (intOf uv).toNat)
  case atStart =>
    refine ⟨65, u, [], rfl, rfl, by show hexs u = _; simp, ⟨_, _, heap_at rfl, by decide, rfl, fun j c hj => by simp at hj⟩, by simp, rfl, by simp, (Keeps.refl [] w).alloc _⟩
  case round =>
    obtain ⟨i, U, D, rfl, rfl, HX, HTl, hD, hiD, hU, hk⟩ := hrel
    by_cases hlt : 16 ≤ U
    · have hU63 : U < 9223372036854775808 := by
        have h1 : 0 < 16 ^ D.length := Nat.pow_pos (by omega)
        have h2 : U * 1 ≤ U * 16 ^ D.length := Nat.mul_le_mul_left U h1
        omega
      have hlti : (16 : Int) ≤ (U : Int) := by omega
      have ha := and15 U (by omega)
      obtain ⟨d, hd⟩ : ∃ d, U % 16 = d := ⟨_, rfl⟩
      rw [hd] at ha
      obtain ⟨j, rfl⟩ : ∃ j, i = j + 1 := ⟨i - 1, by omega⟩
      have b1 : IntKind.i64.wrap (((j + 1 : Nat) : Int) - 1) = (j : Int) := by rw [IntWalk.i64_in _ ⟨by omega, by omega⟩]; omega
      have hji : (j : Int) < 65 := by omega
      have hji0 : (0 : Int) ≤ (j : Int) := by omega
      have hfr := HTl.out.free j
      obtain ⟨vj, hvj⟩ := HTl.out.cell j (by omega)
      have hdl : d < 16 := by omega
      have hdi : (d : Int) < 36 := by omega
      have hdi0 : (0 : Int) ≤ (d : Int) := by omega
      have Hd := Lib.hid hd
      have Hdl := Lib.hid hdl
      have hU2 : U / 16 * 16 ^ (D.length + 1) ≤ u := by
        have h3 : U / 16 * 16 ≤ U := Nat.div_mul_le_self U 16
        have h4 := Nat.mul_le_mul_right (16 ^ D.length) h3
        rw [Nat.pow_succ, Nat.mul_comm (16 ^ D.length) 16, ← Nat.mul_assoc]
        omega
      have hD2 : D.length + 1 ≤ 15 := by
        have h1 : 1 * 16 ^ (D.length + 1) ≤ U / 16 * 16 ^ (D.length + 1) := Nat.mul_le_mul_right _ (by omega)
        have h5 : ¬ 16 ≤ D.length + 1 := fun h => by
          have h6 : 16 ^ 16 ≤ 16 ^ (D.length + 1) := Nat.pow_le_pow_right (by omega) h
          have h7 : (16 : Nat) ^ 16 = 18446744073709551616 := by decide
          omega
        omega
      have HU2 := Lib.hid hU2
      have HD2 := Lib.hid hD2
      have Hk := Lib.hid hk
      clear hd hdl hU2 hD2 hk hU
      go_wp2
      go_roundw
      case rel =>
        refine ⟨j, U / 16, hexd d :: D, by rw [Int.natCast_ediv]; rfl, rfl, ?_, ?_, by simpa using HD2.out, by simp only [List.length_cons]; omega, HU2.out, Hk.out.setK _ _ _ (Nat.le_refl _)⟩
        · show hexs u = _
          rw [HX.out, hexs_big (by omega), Hd.out, List.append_assoc]
          rfl
        · have h := HTl.out.push (hexd d)
          have e := digs_at d (by have := Hdl.out; show d < 36; omega) Hdl.out
          show Tail (wr.setCell ⟨w.heap.size, j, none⟩ (u8v (digs[d]'(by have := Hdl.out; show d < 36; omega)))) w.heap.size j (hexd d :: D)
          rw [e]
          exact h
      case measure =>
        simp [intOf]
        omega
    · have hlti : ¬ (16 : Int) ≤ (U : Int) := by omega
      obtain ⟨j, rfl⟩ : ∃ j, i = j + 1 := ⟨i - 1, by omega⟩
      have b1 : IntKind.i64.wrap (((j + 1 : Nat) : Int) - 1) = (j : Int) := by rw [IntWalk.i64_in _ ⟨by omega, by omega⟩]; omega
      have hji : (j : Int) < 65 := by omega
      have hji2 : (j : Int) ≤ 65 := by omega
      have hji0 : (0 : Int) ≤ (j : Int) := by omega
      have hfr := HTl.out.free j
      obtain ⟨vj, hvj⟩ := HTl.out.cell j (by omega)
      have hdi : (U : Int) < 36 := by omega
      have hdi0 : (0 : Int) ≤ (U : Int) := by omega
      have hU36 : U < digs.size := by show U < 36; omega
      have hT2 : Tail (wr.setCell ⟨w.heap.size, j, none⟩ (u8v (digs[U]'hU36))) w.heap.size j (hexd U :: D) := by
        rw [digs_at U hU36 (by omega)]
        exact HTl.out.push (hexd U)
      have hcv := hT2.back (65 - j) (65 - j) (by simp only [List.length_cons]; omega)
      have Hk := Lib.hid hk
      unfold digs u8v at hcv
      clear hT2 hk
      go_wp2
      go_ret2
      refine ⟨?_, Hk.out.setK _ _ _ (Nat.le_refl _)⟩
      rw [HX.out, hexs_small (by omega)]
      rfl

theorem fi16_any (u : Nat) (hu : u < 9223372036854775808) (w : World) (hT : TabC w) : Calls Tryd.prog 34 #[.int .i64 u, .int .i64 16] w fun e w' => e = .returned (.string (str (hexs u))) ∧ Keeps [] w w' := by
  have B := Lib.hid (formatBits_any u hu w hT)
  have h0 : ¬ (u : Int) < 0 := by omega
  have b1 : IntKind.u64.wrap (u : Int) = (u : Int) := IntWalk.u64_in _ ⟨by omega, by omega⟩
  clear hT
  go_enter Tryd.func34, Tryd.ntmps34
  go_wp2_with (go_at_call 48; (with_reducible refine B.out.mono ?_); rintro e w1 ⟨rfl, k1⟩)
  go_ret
  exact ⟨rfl, k1⟩
theorem format16_any (u : Nat) (hu : u < 9223372036854775808) (w : World) (hT : TabC w) : Calls Tryd.prog 23 #[.int .i64 u, .int .i64 16] w fun e w' => e = .returned (.string (str (hexs u))) ∧ Keeps [] w w' := by
  have B := Lib.hid (fi16_any u hu w hT)
  clear hT
  go_enter Tryd.func23, Tryd.ntmps23
  go_wp2_with (go_at_call 34; (with_reducible refine B.out.mono ?_); rintro e w1 ⟨rfl, k1⟩)
  go_ret
  exact ⟨rfl, k1⟩
end Go.Proofs.YtdjhlnkkbpmfmaaDoor
