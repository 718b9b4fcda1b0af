/- What is wrong with a superblock, which sector it is, and in which one it stands: SuperWrites answers true at all inputs; without conditions. -/
import Derived.Test.YtcbpkplmaglpcaaSupW
namespace Go.Proofs.Ytcbpkplmaglpcaa.lawSuperWrites
open Go.ChangeShapes Go.WideShapes Go.ChangeAt Go.RowKit
open Go.ChangeMaps (open_string shut_string)

set_option maxHeartbeats 2000000 in
theorem walk_bad (s : Sup) (hg : s.good) (hc : s.check ≠ 0) (W : World) : Calls Try.prog 5 #[s.agg] W fun e w' => e = .returned (.bool true) ∧ Keeps [] W w' := by
  have C1 := Lib.hid (fun w => check_any s hg w)
  have C2 := Lib.hid (fun w => refCheck_any s hg w)
  have En := Lib.hid (fun w => encode_any s hg w)
  have Pl := Lib.hid (fun w => plain_any s w)
  have hb : (s.check != 0) = true := by rw [bne_iff_ne]; exact hc
  have he : s.encode = ([], s.check) := if_neg hc
  rw [he] at En
  clear hc he hg
  have hst : ByteArray.mk #[] = str [] := rfl
  generalize s.check = c at *
  have HC := Lib.hid (cellsS (s := s) (heap_at (w := W) (o := .cells #[.int .u64 s.key, .int .i64 s.epoch, .int .i64 s.serial, .int .i64 s.size, .int .i64 s.tail, .int .i64 s.number] 25 (0, 0)) rfl))
  obtain ⟨key, epoch, serial, size, tail, number⟩ := s
  unfold Sup.agg at *
  dsimp only at *
  go_enter Try.func5, Try.ntmps5
  go_wp2_with (first
    | (go_at_call 12; (with_reducible refine (Pl.out _).mono ?_); rintro e w1 ⟨rfl, k1⟩)
    | (go_at_call 16; (with_reducible refine (C2.out _).mono ?_); rintro e w2 ⟨rfl, k2⟩; have K2 := KT k1 k2; obtain ⟨c0, c1, c2, c3, c4, c5⟩ := HC.out _ K2)
    | (go_at_call 17; (with_reducible refine (En.out _).mono ?_); rintro e w3 ⟨rfl, k3⟩; have K3 := KT K2 k3; clear c0 c1 c2 c3 c4 c5; obtain ⟨c0, c1, c2, c3, c4, c5⟩ := HC.out _ K3)
    | (go_at_call 18; (with_reducible refine (C1.out _).mono ?_); rintro e w4 ⟨rfl, k4⟩)
    | (go_at_call 9; (with_reducible refine (awake_any _).mono ?_); rintro e w5 ⟨rfl, k5⟩))
  go_ret
  exact ⟨rfl, KT ((Keeps.refl [] W).alloc _) (KT K3 (KT k4 k5))⟩

set_option maxHeartbeats 4000000 in
set_option maxRecDepth 100000 in
theorem walk_good (s : Sup) (hg : s.good) (hc : s.check = 0) (W : World) : Calls Try.prog 5 #[s.agg] W fun e w' => e = .returned (.bool true) ∧ Keeps [] W w' := by
  have C1 := Lib.hid (fun w => check_any s hg w)
  have C2 := Lib.hid (fun w => refCheck_any s hg w)
  have En := Lib.hid (fun w => encode_any s hg w)
  have Pl := Lib.hid (fun w => plain_any s w)
  have Se := Lib.hid (fun w => refSector_any s hg.key hc w)
  have Sl := Lib.hid (fun w => slot_any s w)
  have he : s.encode = (s.sector, 0) := if_pos hc
  rw [he] at En
  have hs := (check_le s hc).2.1.1
  rw [hc] at C1 C2
  have ht : s.serial.tmod 2 = s.serial % 2 := Int.tmod_eq_emod_of_nonneg hs
  have hM : 0 ≤ s.serial % 2 ∧ s.serial % 2 ≤ 1 := by omega
  clear hc he hg
  have HC := Lib.hid (cellsS (s := s) (heap_at (w := W) (o := .cells #[.int .u64 s.key, .int .i64 s.epoch, .int .i64 s.serial, .int .i64 s.size, .int .i64 s.tail, .int .i64 s.number] 25 (0, 0)) rfl))
  generalize s.sector = T at *
  obtain ⟨key, epoch, serial, size, tail, number⟩ := s
  unfold Sup.agg at *
  dsimp only at *
  generalize serial % 2 = M at *
  have wM : IntKind.i64.wrap M = M := IntWalk.i64_in _ ⟨by omega, by omega⟩
  clear hM
  go_enter Try.func5, Try.ntmps5
  go_wp2_with (first
    | (go_at_call 12; (with_reducible refine (Pl.out _).mono ?_); rintro e w1 ⟨rfl, k1⟩)
    | (go_at_call 16; (with_reducible refine (C2.out _).mono ?_); rintro e w2 ⟨rfl, k2⟩; have K2 := KT k1 k2; obtain ⟨c0, c1, c2, c3, c4, c5⟩ := HC.out _ K2)
    | (go_at_call 17; (with_reducible refine (En.out _).mono ?_); rintro e w3 ⟨rfl, k3⟩; have K3 := KT K2 k3; clear c0 c1 c2 c3 c4 c5; obtain ⟨c0, c1, c2, c3, c4, c5⟩ := HC.out _ K3)
    | (go_at_call 18; (with_reducible refine (C1.out _).mono ?_); rintro e w4 ⟨rfl, k4⟩; have K4 := KT K3 k4; clear c0 c1 c2 c3 c4 c5))
  have K5 := K4.drew
  go_region_held3 (fun w' => w'.cell? ⟨W.heap.size, 0, none⟩ = some (.int .u64 key) ∧ w'.cell? ⟨W.heap.size, 1, none⟩ = some (.int .i64 epoch) ∧ w'.cell? ⟨W.heap.size, 2, none⟩ = some (.int .i64 serial) ∧ w'.cell? ⟨W.heap.size, 3, none⟩ = some (.int .i64 size) ∧ w'.cell? ⟨W.heap.size, 4, none⟩ = some (.int .i64 tail) ∧ w'.cell? ⟨W.heap.size, 5, none⟩ = some (.int .i64 number))
    (exact HC.out _ (by assumption))
    (first
      | (go_at_call 12; (with_reducible refine (Pl.out _).mono ?_); rintro e w6 ⟨rfl, k6⟩; have k6' := KT (by assumption) k6; clear k6)
      | (go_at_call 19; (with_reducible refine (Se.out _).mono ?_); rintro e w6 ⟨rfl, k6⟩; have k6' := KT (by assumption) k6; clear k6)
      | (go_at_call 20; (with_reducible refine (Sl.out _).mono ?_); rintro e w6 ⟨rfl, k6⟩; have k6' := KT (by assumption) k6; clear k6)
      | (go_at_call 9; (with_reducible refine (awake_any _).mono ?_); rintro e w6 ⟨rfl, k6⟩; have k6' := KT (by assumption) k6; clear k6))
  go_wp2
  go_ret
  exact ⟨rfl, KT ((Keeps.refl [] W).alloc _) (by assumption)⟩

theorem walk_any (s : Sup) (hg : s.good) (W : World) : Calls Try.prog 5 #[s.agg] W fun e w' => e = .returned (.bool true) ∧ Keeps [] W w' := by
  by_cases hc : s.check = 0
  · exact walk_good s hg hc W
  · exact walk_bad s hg hc W
-- ROWEND
set_option maxRecDepth 100000 in
theorem lifted (os : Os) (started : os.Started) (H : Type) (enc : TypeId × Value → H) :
    ReturnsInHanded {} Try.checked os 5 .any (Rows.superWritesSpec.pre6 enc Try.prog Try.f5 Rows.superWritesRow.domain false) (Rows.superWritesSpec.post enc Try.prog Try.f5 false true false false) := by
  refine returnsInHanded_of_change (C := Try.checked) Try.own started (by kernel_rfl) Try.func5
    (ChangeSpec.witness6 (enc := enc) (C := Try.checked) false ⟨#[], #[.agg #[.int .u64 0, .int .i64 0, .int .i64 0, .int .i64 0, .int .i64 0, .int .i64 0]], []⟩ 8 (by kernel_rfl) (by kernel_rfl) (by kernel_rfl) (by kernel_rfl)) ?_
  intro W base args ds gs before hval0 hW _ _
  have hval : ∀ (j : Nat) t v, Try.f5.params[j]? = some t → args[j]? = some v → Value.okWide Try.prog W .any base t v := hval0
  have hW' := hW
  obtain ⟨p, q, hA0, hV, rfl, hfz, hnd⟩ := hW
  have hA : DataW.TrodAll enc Try.prog W 0 (fun _ => true) true Try.f5.params.toList args.toList ds p := hA0
  rw [Try.params5] at hA hval
  obtain ⟨v0, vs0, d0, ds0, p0, q0, hargs, rfl, rfl, h0, r0⟩ := trodAll_cons hA
  obtain ⟨rfl, rfl, rfl⟩ := trodAll_nil r0
  obtain rfl : args = #[v0] := by cases args; simp_all
  obtain ⟨cs0, n0, x0, rfl, e0⟩ := open_agg Try.underlying25 (hval 0 25 v0 rfl rfl) h0
  obtain ⟨s, c0, gs⟩ := elem_sup e0
  obtain rfl : cs0 = (s.vals).toArray := by rw [← c0]
  refine (walk_any s gs W).mono fun e W' ⟨he, hk⟩ => ?_
  subst he
  exact ⟨_, rfl, law_end Try.laidOut (by kernel_rfl) rfl rfl Try.underlying4 hW' rfl hk⟩

theorem proved : Rows.SuperWritesSaid :=
  OpenClaim.holds_of_wide 5 Try.f5 rfl rfl rfl rfl rfl rfl rfl ⟨rfl, rfl, rfl, rfl, rfl⟩ rfl rfl rfl rfl rfl (by kernel_rfl) Try.func5 (by kernel_rfl)
    (of_decide_eq_true (by kernel_rfl)) (by unfold Func.isWrapper; first | (rw [if_pos (by decide +kernel)]; kernel_rfl) | (rw [if_neg (by decide +kernel)]; exact ⟨rfl, rfl⟩))
    (fun os started H enc _ => lifted os started H enc)
end Go.Proofs.Ytcbpkplmaglpcaa.lawSuperWrites
