/-
What is proved: RecordReads. For every string of at most 4000 bytes: Head and Decode answer what the document's answer does: which record its sectors begin with, how many sectors its head and its data have, or why there is none. No conditions.
-/
import Derived.Test.YtjebldfmkpfafaaRecK
import Derived.Test.YtjebldfmkpfafaaBytesOf
import Derived.Test.YtjebldfmkpfafaaRecY
import Derived.Test.YtjebldfmkpfafaaRecRd
namespace Go.Proofs.Ytjebldfmkpfafaa.lawRecordReads
open Go.ChangeShapes Go.WideShapes Go.ChangeAt Go.RowKit
open Go.ChangeMaps (open_string shut_string)
set_option maxRecDepth 100000

set_option maxHeartbeats 4000000 in
theorem walk_long (s : List UInt8) (W : World) (hs : 4000 < s.length) (h63 : s.length ≤ 9223372036854775807) : Calls Try.prog 6 #[.string (str s)] W fun e w' => e = .returned (.bool true) ∧ Keeps [] W w' := by
  have Aw := Lib.hid (fun w => awake_any w)
  have h1 : decide (4000 < (s.length : Int)) = true := decide_eq_true (by omega)
  have h2 : (s.length : Int) ≤ 9223372036854775807 := by omega
  go_enter Try.func6, Try.ntmps6
  go_wp2_with (first
    | (go_at_call 10; (with_reducible refine (Aw.out _).mono ?_); rintro e w1 ⟨rfl, k1⟩))
  go_ret
  exact ⟨rfl, k1⟩

set_option maxHeartbeats 8000000 in
theorem walk (s : List UInt8) (W : World) (hs : s.length ≤ 4000) : Calls Try.prog 6 #[.string (str s)] W fun e w' => e = .returned (.bool true) ∧ Keeps [] W w' := by
  have Aw := Lib.hid (fun w => awake_any w)
  have h1 : decide (4000 < (s.length : Int)) = false := decide_eq_false (by omega)
  have He := Lib.hid (fun w => head_all s w (by omega))
  have Ro := Lib.hid (fun w => ropen_any s w (by omega))
  have De := Lib.hid (fun w => dec_all s w (by omega))
  have Rd := Lib.hid (fun w => rdec_any s w (by omega))
  unfold HeadPost headV at He
  unfold OpenQ at Ro
  unfold DecPost at De Rd
  generalize openV s = TA at *
  generalize decV s = TB at *
  obtain ⟨A, N, X, ea⟩ := TA
  obtain ⟨B, M, eb⟩ := TB
  have Sa := Lib.hid (fun w v1 v2 G1 G2 (h1 : A.good w v1 G1) (h2 : A.good w v2 G2) => same_any A v1 v2 G1 G2 w h1 h2)
  have Sb := Lib.hid (fun w v1 v2 G1 G2 (h1 : B.good w v1 G1) (h2 : B.good w v2 G2) => same_any B v1 v2 G1 G2 w h1 h2)
  unfold Rc.val at *
  dsimp only at *
  generalize A.sects = SX at *
  generalize (if A.kd = 1 then be X 4 else []) = BX at *
  clear hs
  go_enter Try.func6, Try.ntmps6
  go_wp2_with (first
    | (go_at_call 20; (with_reducible refine (He.out _).mono ?_); rintro e w1 ⟨sv1, G1, rfl, hg1, _, k1⟩; obtain ⟨ad1, cap1, rfl, _⟩ := hg1.at_; have H1 := Lib.hid hg1; have K1 := Lib.hid k1; clear hg1 k1)
    | (go_at_call 21; (with_reducible refine (Ro.out _).mono ?_); rintro e w2 ⟨sv2, G2, rfl, hg2, _, k2⟩; obtain ⟨ad2, cap2, rfl, _⟩ := hg2.at_; have H2 := Lib.hid hg2; have K2 := Lib.hid k2; clear hg2 k2)
    | (go_at_call 18; (with_reducible refine (De.out _).mono ?_); rintro e w3 ⟨sv3, G3, rfl, hg3, _, k3⟩; obtain ⟨ad3, cap3, rfl, _⟩ := hg3.at_; have H3 := Lib.hid hg3; have K3 := Lib.hid k3; clear hg3 k3)
    | (go_at_call 22; (with_reducible refine (Rd.out _).mono ?_); rintro e w4 ⟨sv4, G4, rfl, hg4, _, k4⟩; obtain ⟨ad4, cap4, rfl, _⟩ := hg4.at_; have H4 := Lib.hid hg4; have K4 := Lib.hid k4; clear hg4 k4; have L4 := Lib.hid ((Keeps.refl [] w4).alloc (.cells #[.int .i64 B.ep, .int .i64 B.nr, .int .i64 B.kd, .slice ad4 B.sp.length cap4, .string (str B.dt), .string (str B.tx)] 29)); have L3 := Lib.hid (KT ((Keeps.refl [] w3).alloc (.cells #[.int .i64 B.ep, .int .i64 B.nr, .int .i64 B.kd, .slice ad3 B.sp.length cap3, .string (str B.dt), .string (str B.tx)] 24)) (KT K4.out L4.out)); have L2 := Lib.hid (KT ((Keeps.refl [] w2).alloc (.cells #[.int .i64 A.ep, .int .i64 A.nr, .int .i64 A.kd, .slice ad2 A.sp.length cap2, .string (str A.dt), .string (str A.tx)] 29)) (KT K3.out L3.out)); have L1 := Lib.hid (KT ((Keeps.refl [] w1).alloc (.cells #[.int .i64 A.ep, .int .i64 A.nr, .int .i64 A.kd, .slice ad1 A.sp.length cap1, .string (str A.dt), .string (str A.tx)] 24)) (KT K2.out L2.out)); have C1 := Lib.hid ((KT K2.out L2.out).some (heap_at (w := w1) (k := w1.heap.size) (o := (.cells #[.int .i64 A.ep, .int .i64 A.nr, .int .i64 A.kd, .slice ad1 A.sp.length cap1, .string (str A.dt), .string (str A.tx)] 24)) rfl) (by simp)); have C2 := Lib.hid ((KT K3.out L3.out).some (heap_at (w := w2) (k := w2.heap.size) (o := (.cells #[.int .i64 A.ep, .int .i64 A.nr, .int .i64 A.kd, .slice ad2 A.sp.length cap2, .string (str A.dt), .string (str A.tx)] 29)) rfl) (by simp)); have C3 := Lib.hid ((KT K4.out L4.out).some (heap_at (w := w3) (k := w3.heap.size) (o := (.cells #[.int .i64 B.ep, .int .i64 B.nr, .int .i64 B.kd, .slice ad3 B.sp.length cap3, .string (str B.dt), .string (str B.tx)] 24)) rfl) (by simp)); have C4 := Lib.hid (heap_at (w := w4) (k := w4.heap.size) (o := (.cells #[.int .i64 B.ep, .int .i64 B.nr, .int .i64 B.kd, .slice ad4 B.sp.length cap4, .string (str B.dt), .string (str B.tx)] 29)) rfl); have CY : Hid (∀ w', Keeps [] (w4.alloc (.cells #[.int .i64 B.ep, .int .i64 B.nr, .int .i64 B.kd, .slice ad4 B.sp.length cap4, .string (str B.dt), .string (str B.tx)] 29)) w' → ((w'.cell? ⟨w1.heap.size, 0, none⟩ = some (.int .i64 A.ep) ∧ w'.cell? ⟨w1.heap.size, 1, none⟩ = some (.int .i64 A.nr) ∧ w'.cell? ⟨w1.heap.size, 2, none⟩ = some (.int .i64 A.kd) ∧ w'.cell? ⟨w1.heap.size, 3, none⟩ = some (.slice ad1 A.sp.length cap1) ∧ w'.cell? ⟨w1.heap.size, 4, none⟩ = some (.string (str A.dt)) ∧ w'.cell? ⟨w1.heap.size, 5, none⟩ = some (.string (str A.tx))) ∧ (w'.cell? ⟨w2.heap.size, 0, none⟩ = some (.int .i64 A.ep) ∧ w'.cell? ⟨w2.heap.size, 1, none⟩ = some (.int .i64 A.nr) ∧ w'.cell? ⟨w2.heap.size, 2, none⟩ = some (.int .i64 A.kd) ∧ w'.cell? ⟨w2.heap.size, 3, none⟩ = some (.slice ad2 A.sp.length cap2) ∧ w'.cell? ⟨w2.heap.size, 4, none⟩ = some (.string (str A.dt)) ∧ w'.cell? ⟨w2.heap.size, 5, none⟩ = some (.string (str A.tx))) ∧ (w'.cell? ⟨w3.heap.size, 0, none⟩ = some (.int .i64 B.ep) ∧ w'.cell? ⟨w3.heap.size, 1, none⟩ = some (.int .i64 B.nr) ∧ w'.cell? ⟨w3.heap.size, 2, none⟩ = some (.int .i64 B.kd) ∧ w'.cell? ⟨w3.heap.size, 3, none⟩ = some (.slice ad3 B.sp.length cap3) ∧ w'.cell? ⟨w3.heap.size, 4, none⟩ = some (.string (str B.dt)) ∧ w'.cell? ⟨w3.heap.size, 5, none⟩ = some (.string (str B.tx))) ∧ (w'.cell? ⟨w4.heap.size, 0, none⟩ = some (.int .i64 B.ep) ∧ w'.cell? ⟨w4.heap.size, 1, none⟩ = some (.int .i64 B.nr) ∧ w'.cell? ⟨w4.heap.size, 2, none⟩ = some (.int .i64 B.kd) ∧ w'.cell? ⟨w4.heap.size, 3, none⟩ = some (.slice ad4 B.sp.length cap4) ∧ w'.cell? ⟨w4.heap.size, 4, none⟩ = some (.string (str B.dt)) ∧ w'.cell? ⟨w4.heap.size, 5, none⟩ = some (.string (str B.tx))))) := (fun w' k => ⟨(cells6 (k.some C1.out (by simp))).1, (cells6 (k.some C2.out (by simp))).1, (cells6 (k.some C3.out (by simp))).1, (cells6 (k.some C4.out (by simp))).1⟩); have Kp := Keeps.refl [] (w4.alloc (.cells #[.int .i64 B.ep, .int .i64 B.nr, .int .i64 B.kd, .slice ad4 B.sp.length cap4, .string (str B.dt), .string (str B.tx)] 29)); (try clear x0 x1 x2 x3 x4 x5 y0 y1 y2 y3 y4 y5 z0 z1 z2 z3 z4 z5 v0 v1 v2 v3 v4 v5); obtain ⟨⟨x0, x1, x2, x3, x4, x5⟩, ⟨y0, y1, y2, y3, y4, y5⟩, ⟨z0, z1, z2, z3, z4, z5⟩, v0, v1, v2, v3, v4, v5⟩ := CY.out _ Kp)
    | (go_at_call 23; (with_reducible refine (Sa.out _ _ _ _ _ (H1.out.newer (KT L1.out Kp)) (H2.out.newer (KT L2.out Kp))).mono ?_); rintro e w8 ⟨rfl, k8⟩; replace Kp := KT Kp k8; clear k8; (try clear x0 x1 x2 x3 x4 x5 y0 y1 y2 y3 y4 y5 z0 z1 z2 z3 z4 z5 v0 v1 v2 v3 v4 v5); obtain ⟨⟨x0, x1, x2, x3, x4, x5⟩, ⟨y0, y1, y2, y3, y4, y5⟩, ⟨z0, z1, z2, z3, z4, z5⟩, v0, v1, v2, v3, v4, v5⟩ := CY.out _ Kp)
    | (go_at_call 23; (with_reducible refine (Sb.out _ _ _ _ _ (H3.out.newer (KT L3.out Kp)) (H4.out.newer (KT L4.out Kp))).mono ?_); rintro e w8 ⟨rfl, k8⟩; replace Kp := KT Kp k8; clear k8; (try clear x0 x1 x2 x3 x4 x5 y0 y1 y2 y3 y4 y5 z0 z1 z2 z3 z4 z5 v0 v1 v2 v3 v4 v5); obtain ⟨⟨x0, x1, x2, x3, x4, x5⟩, ⟨y0, y1, y2, y3, y4, y5⟩, ⟨z0, z1, z2, z3, z4, z5⟩, v0, v1, v2, v3, v4, v5⟩ := CY.out _ Kp)
    | (go_at_call 10; (with_reducible refine (Aw.out _).mono ?_); rintro e w8 ⟨rfl, k8⟩; replace Kp := KT Kp k8; clear k8))
  go_ret
  exact ⟨rfl, KT K1.out (KT L1.out Kp)⟩

theorem walk_any (s : ByteArray) (W : World) (h63 : s.size ≤ 9223372036854775807) : Calls Try.prog 6 #[.string s] W fun e w' => e = .returned (.bool true) ∧ Keeps [] W w' := by
  rw [← str_self s]
  have hl : s.data.toList.length ≤ 9223372036854775807 := by rw [dlen]; exact h63
  generalize s.data.toList = l at *
  by_cases hs : 4000 < l.length
  · exact walk_long l W hs hl
  · exact walk l W (by omega)
-- ROWEND
set_option maxRecDepth 100000 in
theorem lifted (os : Os) (started : os.Started) (H : Type) (enc : TypeId × Value → H) :
    ReturnsInHanded {} Try.checked os 6 .any (Rows.recordReadsSpec.pre6 enc Try.prog Try.f6 Rows.recordReadsRow.domain false) (Rows.recordReadsSpec.post enc Try.prog Try.f6 false true false false) := by
  refine returnsInHanded_of_change (C := Try.checked) Try.own started (by kernel_rfl) Try.func6
    (ChangeSpec.witness6 (enc := enc) (C := Try.checked) false ⟨#[], #[.string .empty], []⟩ 8 (by kernel_rfl) (by kernel_rfl) (by kernel_rfl) (by kernel_rfl)) ?_
  intro W base args ds gs before hval0 hW _ _
  have hval : ∀ (j : Nat) t v, Try.f6.params[j]? = some t → args[j]? = some v → Value.okWide Try.prog W .any base t v := hval0
  have hW' := hW
  obtain ⟨p, q, hA0, hV, rfl, hfz, hnd⟩ := hW
  have hA : DataW.TrodAll enc Try.prog W 0 (fun _ => true) true Try.f6.params.toList args.toList ds p := hA0
  rw [Try.params6] at hA hval
  obtain ⟨v0, vs0, d0, ds0, p0, q0, hargs, rfl, rfl, h0, r0⟩ := trodAll_cons hA
  obtain ⟨rfl, rfl, rfl⟩ := trodAll_nil r0
  obtain rfl : args = #[v0] := by cases args; simp_all
  obtain ⟨s, rfl, rfl, rfl, ws⟩ := open_string Try.underlying9 (hval 0 9 v0 rfl rfl) h0
  unfold maxLen at ws
  refine (walk_any s W (by omega)).mono fun e W' ⟨he, hk⟩ => ?_
  subst he
  exact ⟨_, rfl, law_end Try.laidOut (by kernel_rfl) rfl rfl Try.underlying4 hW' rfl hk⟩

theorem proved : Rows.RecordReadsSaid :=
  OpenClaim.holds_of_wide 6 Try.f6 rfl rfl rfl rfl rfl rfl rfl ⟨rfl, rfl, rfl, rfl, rfl⟩ rfl rfl rfl rfl rfl (by kernel_rfl) Try.func6 (by kernel_rfl)
    (of_decide_eq_true (by kernel_rfl)) (by unfold Func.isWrapper; first | (rw [if_pos (by decide +kernel)]; kernel_rfl) | (rw [if_neg (by decide +kernel)]; exact ⟨rfl, rfl⟩))
    (fun os started H enc _ => lifted os started H enc)
end Go.Proofs.Ytjebldfmkpfafaa.lawRecordReads
