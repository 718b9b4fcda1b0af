/- Which superblock a sector is, and which one of two is picked, or why none: SuperReads answers true at all inputs; without conditions. -/
import Derived.Test.YtcbpkplmaglpcaaSupW
namespace Go.Proofs.Ytcbpkplmaglpcaa.lawSuperReads
open Go.ChangeShapes Go.WideShapes Go.ChangeAt Go.RowKit
open Go.ChangeMaps (open_string shut_string)

theorem walk_long (a b : List UInt8) (W : World) (h : 100 < a.length ∨ 100 < b.length) : Calls Try.prog 3 #[.string (str a), .string (str b)] W fun e w' => e = .returned (.bool true) ∧ Keeps [] W w' := by
  rcases (show 100 < a.length ∨ (¬ 100 < a.length ∧ 100 < b.length) by omega) with h1 | ⟨h0, h1⟩
  · have hi : (100 : Int) < (a.length : Int) := by omega
    clear h h1
    go_enter Try.func3, Try.ntmps3
    go_wp2_with (go_at_call 9; (with_reducible refine (awake_any _).mono ?_); rintro e w9 ⟨rfl, k9⟩)
    go_ret
    exact ⟨rfl, k9⟩
  · have hi : (100 : Int) < (b.length : Int) := by omega
    have hj : ¬ (100 : Int) < (a.length : Int) := by omega
    clear h h1 h0
    go_enter Try.func3, Try.ntmps3
    go_wp2_with (go_at_call 9; (with_reducible refine (awake_any _).mono ?_); rintro e w9 ⟨rfl, k9⟩)
    go_ret
    exact ⟨rfl, k9⟩

set_option maxHeartbeats 4000000 in
set_option maxRecDepth 100000 in
theorem walk_short (a b : List UInt8) (W : World) (ha : a.length ≤ 100) (hb : b.length ≤ 100) : Calls Try.prog 3 #[.string (str a), .string (str b)] W fun e w' => e = .returned (.bool true) ∧ Keeps [] W w' := by
  have D1 := Lib.hid (fun w => decode_any a w (by omega))
  have D2 := Lib.hid (fun w => refDecode_any a w)
  have P1 := Lib.hid (fun w => pick_any a b w (by omega) (by omega))
  have P2 := Lib.hid (fun w => refPick_any a b w)
  rw [← pick_pick a b] at P2
  generalize supDecode a = X at *
  generalize pickAt a b 2 = P at *
  obtain ⟨x, e⟩ := X
  obtain ⟨p, at', g⟩ := P
  have Px := Lib.hid (fun w => plain_any x w)
  have Pp := Lib.hid (fun w => plain_any p w)
  unfold Sup.agg at *
  dsimp only at *
  have hi : ¬ (100 : Int) < (a.length : Int) := by omega
  have hj : ¬ (100 : Int) < (b.length : Int) := by omega
  clear ha hb
  go_enter Try.func3, Try.ntmps3
  go_wp2_with (first
    | (go_at_call 10; (with_reducible refine (D1.out _).mono ?_); rintro e w1 ⟨rfl, k1⟩)
    | (go_at_call 11; (with_reducible refine (D2.out _).mono ?_); rintro e w2 ⟨rfl, k2⟩))
  have HX := Lib.hid (heap_was (o := (.cells #[.int .u64 x.key, .int .i64 x.epoch, .int .i64 x.serial, .int .i64 x.size, .int .i64 x.tail, .int .i64 x.number] 29)) (k2.some (heap_at rfl) (by simp)))
  have HY := Lib.hid (heap_at (w := w2) (o := (.cells #[.int .u64 x.key, .int .i64 x.epoch, .int .i64 x.serial, .int .i64 x.size, .int .i64 x.tail, .int .i64 x.number] 29)) rfl)
  have KS : Hid (∀ w', Keeps [] (w2.alloc (.cells #[.int .u64 x.key, .int .i64 x.epoch, .int .i64 x.serial, .int .i64 x.size, .int .i64 x.tail, .int .i64 x.number] 29)) w' → (w'.cell? ⟨w1.heap.size, 0, none⟩ = some (.int .u64 x.key) ∧ w'.cell? ⟨w1.heap.size, 1, none⟩ = some (.int .i64 x.epoch) ∧ w'.cell? ⟨w1.heap.size, 2, none⟩ = some (.int .i64 x.serial) ∧ w'.cell? ⟨w1.heap.size, 3, none⟩ = some (.int .i64 x.size) ∧ w'.cell? ⟨w1.heap.size, 4, none⟩ = some (.int .i64 x.tail) ∧ w'.cell? ⟨w1.heap.size, 5, none⟩ = some (.int .i64 x.number)) ∧ w'.cell? ⟨w2.heap.size, 0, none⟩ = some (.int .u64 x.key) ∧ w'.cell? ⟨w2.heap.size, 1, none⟩ = some (.int .i64 x.epoch) ∧ w'.cell? ⟨w2.heap.size, 2, none⟩ = some (.int .i64 x.serial) ∧ w'.cell? ⟨w2.heap.size, 3, none⟩ = some (.int .i64 x.size) ∧ w'.cell? ⟨w2.heap.size, 4, none⟩ = some (.int .i64 x.tail) ∧ w'.cell? ⟨w2.heap.size, 5, none⟩ = some (.int .i64 x.number)) := fun w' k => ⟨(cells6 (k.some HX.out (by simp))).1, (cells6 (k.some HY.out (by simp))).1⟩
  have K4 : Keeps [] (w2.alloc (.cells #[.int .u64 x.key, .int .i64 x.epoch, .int .i64 x.serial, .int .i64 x.size, .int .i64 x.tail, .int .i64 x.number] 29)) (w2.alloc (.cells #[.int .u64 x.key, .int .i64 x.epoch, .int .i64 x.serial, .int .i64 x.size, .int .i64 x.tail, .int .i64 x.number] 29)).drew := (Keeps.refl [] _).drew
  go_region_held3 (fun w' => (w'.cell? ⟨w1.heap.size, 0, none⟩ = some (.int .u64 x.key) ∧ w'.cell? ⟨w1.heap.size, 1, none⟩ = some (.int .i64 x.epoch) ∧ w'.cell? ⟨w1.heap.size, 2, none⟩ = some (.int .i64 x.serial) ∧ w'.cell? ⟨w1.heap.size, 3, none⟩ = some (.int .i64 x.size) ∧ w'.cell? ⟨w1.heap.size, 4, none⟩ = some (.int .i64 x.tail) ∧ w'.cell? ⟨w1.heap.size, 5, none⟩ = some (.int .i64 x.number)) ∧ w'.cell? ⟨w2.heap.size, 0, none⟩ = some (.int .u64 x.key) ∧ w'.cell? ⟨w2.heap.size, 1, none⟩ = some (.int .i64 x.epoch) ∧ w'.cell? ⟨w2.heap.size, 2, none⟩ = some (.int .i64 x.serial) ∧ w'.cell? ⟨w2.heap.size, 3, none⟩ = some (.int .i64 x.size) ∧ w'.cell? ⟨w2.heap.size, 4, none⟩ = some (.int .i64 x.tail) ∧ w'.cell? ⟨w2.heap.size, 5, none⟩ = some (.int .i64 x.number))
    (exact KS.out _ (by assumption))
    (first | (go_at_call 12; (with_reducible refine (Px.out _).mono ?_); rintro e w3 ⟨rfl, k3⟩; have k3' := KT K4 k3))
  go_wp2_with (first
    | (go_at_call 13; (with_reducible refine (P1.out _).mono ?_); rintro e w4 ⟨rfl, k4⟩)
    | (go_at_call 14; (with_reducible refine (P2.out _).mono ?_); rintro e w5 ⟨rfl, k5⟩))
  have GX := Lib.hid (heap_was (o := (.cells #[.int .u64 p.key, .int .i64 p.epoch, .int .i64 p.serial, .int .i64 p.size, .int .i64 p.tail, .int .i64 p.number] 29)) (k5.some (heap_at rfl) (by simp)))
  have GY := Lib.hid (heap_at (w := w5) (o := (.cells #[.int .u64 p.key, .int .i64 p.epoch, .int .i64 p.serial, .int .i64 p.size, .int .i64 p.tail, .int .i64 p.number] 29)) rfl)
  have KP : Hid (∀ w', Keeps [] (w5.alloc (.cells #[.int .u64 p.key, .int .i64 p.epoch, .int .i64 p.serial, .int .i64 p.size, .int .i64 p.tail, .int .i64 p.number] 29)) w' → (w'.cell? ⟨w4.heap.size, 0, none⟩ = some (.int .u64 p.key) ∧ w'.cell? ⟨w4.heap.size, 1, none⟩ = some (.int .i64 p.epoch) ∧ w'.cell? ⟨w4.heap.size, 2, none⟩ = some (.int .i64 p.serial) ∧ w'.cell? ⟨w4.heap.size, 3, none⟩ = some (.int .i64 p.size) ∧ w'.cell? ⟨w4.heap.size, 4, none⟩ = some (.int .i64 p.tail) ∧ w'.cell? ⟨w4.heap.size, 5, none⟩ = some (.int .i64 p.number)) ∧ w'.cell? ⟨w5.heap.size, 0, none⟩ = some (.int .u64 p.key) ∧ w'.cell? ⟨w5.heap.size, 1, none⟩ = some (.int .i64 p.epoch) ∧ w'.cell? ⟨w5.heap.size, 2, none⟩ = some (.int .i64 p.serial) ∧ w'.cell? ⟨w5.heap.size, 3, none⟩ = some (.int .i64 p.size) ∧ w'.cell? ⟨w5.heap.size, 4, none⟩ = some (.int .i64 p.tail) ∧ w'.cell? ⟨w5.heap.size, 5, none⟩ = some (.int .i64 p.number)) := fun w' k => ⟨(cells6 (k.some GX.out (by simp))).1, (cells6 (k.some GY.out (by simp))).1⟩
  have K6 : Keeps [] (w5.alloc (.cells #[.int .u64 p.key, .int .i64 p.epoch, .int .i64 p.serial, .int .i64 p.size, .int .i64 p.tail, .int .i64 p.number] 29)) (w5.alloc (.cells #[.int .u64 p.key, .int .i64 p.epoch, .int .i64 p.serial, .int .i64 p.size, .int .i64 p.tail, .int .i64 p.number] 29)).drew := (Keeps.refl [] _).drew
  go_region_held3 (fun w' => (w'.cell? ⟨w4.heap.size, 0, none⟩ = some (.int .u64 p.key) ∧ w'.cell? ⟨w4.heap.size, 1, none⟩ = some (.int .i64 p.epoch) ∧ w'.cell? ⟨w4.heap.size, 2, none⟩ = some (.int .i64 p.serial) ∧ w'.cell? ⟨w4.heap.size, 3, none⟩ = some (.int .i64 p.size) ∧ w'.cell? ⟨w4.heap.size, 4, none⟩ = some (.int .i64 p.tail) ∧ w'.cell? ⟨w4.heap.size, 5, none⟩ = some (.int .i64 p.number)) ∧ w'.cell? ⟨w5.heap.size, 0, none⟩ = some (.int .u64 p.key) ∧ w'.cell? ⟨w5.heap.size, 1, none⟩ = some (.int .i64 p.epoch) ∧ w'.cell? ⟨w5.heap.size, 2, none⟩ = some (.int .i64 p.serial) ∧ w'.cell? ⟨w5.heap.size, 3, none⟩ = some (.int .i64 p.size) ∧ w'.cell? ⟨w5.heap.size, 4, none⟩ = some (.int .i64 p.tail) ∧ w'.cell? ⟨w5.heap.size, 5, none⟩ = some (.int .i64 p.number))
    (exact KP.out _ (by assumption))
    (first
      | (go_at_call 12; (with_reducible refine (Pp.out _).mono ?_); rintro e w6 ⟨rfl, k6⟩; have k6' := KT K6 k6)
      | (go_at_call 9; (with_reducible refine (awake_any _).mono ?_); rintro e w7 ⟨rfl, k7⟩; have k7' := KT k6' k7))
  go_wp2
  go_ret
  exact ⟨rfl, KT k1 (KT ((Keeps.refl [] w1).alloc _) (KT k2 (KT ((Keeps.refl [] w2).alloc _) (KT k3' (KT k4 (KT ((Keeps.refl [] w4).alloc _) (KT k5 (KT ((Keeps.refl [] w5).alloc _) k7'))))))))⟩

theorem walk_any (a b : ByteArray) (W : World) : Calls Try.prog 3 #[.string a, .string b] W fun e w' => e = .returned (.bool true) ∧ Keeps [] W w' := by
  rw [← str_self a, ← str_self b]
  by_cases h : 100 < a.data.toList.length ∨ 100 < b.data.toList.length
  · exact walk_long _ _ W h
  · exact walk_short _ _ W (by omega) (by omega)
-- ROWEND
set_option maxRecDepth 100000 in
theorem lifted (os : Os) (started : os.Started) (H : Type) (enc : TypeId × Value → H) :
    ReturnsInHanded {} Try.checked os 3 .any (Rows.superReadsSpec.pre6 enc Try.prog Try.f3 Rows.superReadsRow.domain false) (Rows.superReadsSpec.post enc Try.prog Try.f3 false true false false) := by
  refine returnsInHanded_of_change (C := Try.checked) Try.own started (by kernel_rfl) Try.func3
    (ChangeSpec.witness6 (enc := enc) (C := Try.checked) false ⟨#[], #[.string .empty, .string .empty], []⟩ 8 (by kernel_rfl) (by kernel_rfl) (by kernel_rfl) (by kernel_rfl)) ?_
  intro W base args ds gs before hval0 hW _ _
  have hval : ∀ (j : Nat) t v, Try.f3.params[j]? = some t → args[j]? = some v → Value.okWide Try.prog W .any base t v := hval0
  have hW' := hW
  obtain ⟨p, q, hA0, hV, rfl, hfz, hnd⟩ := hW
  have hA : DataW.TrodAll enc Try.prog W 0 (fun _ => true) true Try.f3.params.toList args.toList ds p := hA0
  rw [Try.params3] at hA hval
  obtain ⟨v0, vs0, d0, ds0, p0, q0, hargs, rfl, rfl, h0, r0⟩ := trodAll_cons hA
  obtain ⟨v1, vs1, d1, ds1, p1, q1, rfl, rfl, rfl, h1, r1⟩ := trodAll_cons r0
  obtain ⟨rfl, rfl, rfl⟩ := trodAll_nil r1
  obtain rfl : args = #[v0, v1] := by cases args; simp_all
  obtain ⟨a, rfl, rfl, rfl, wa⟩ := open_string Try.underlying9 (hval 0 9 v0 rfl rfl) h0
  unfold maxLen at wa
  obtain ⟨b, rfl, rfl, rfl, wb⟩ := open_string Try.underlying9 (hval 1 9 v1 rfl rfl) h1
  unfold maxLen at wb
  refine (walk_any a b W).mono fun e W' ⟨he, hk⟩ => ?_
  subst he
  exact ⟨_, rfl, law_end Try.laidOut (by kernel_rfl) rfl rfl Try.underlying4 hW' rfl hk⟩

theorem proved : Rows.SuperReadsSaid :=
  OpenClaim.holds_of_wide 3 Try.f3 rfl rfl rfl rfl rfl rfl rfl ⟨rfl, rfl, rfl, rfl, rfl⟩ rfl rfl rfl rfl rfl (by kernel_rfl) Try.func3 (by kernel_rfl)
    (of_decide_eq_true (by kernel_rfl)) (by unfold Func.isWrapper; first | (rw [if_pos (by decide +kernel)]; kernel_rfl) | (rw [if_neg (by decide +kernel)]; exact ⟨rfl, rfl⟩))
    (fun os started H enc _ => lifted os started H enc)
end Go.Proofs.Ytcbpkplmaglpcaa.lawSuperReads
