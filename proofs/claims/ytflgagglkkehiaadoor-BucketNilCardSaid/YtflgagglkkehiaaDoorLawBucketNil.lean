/- lighterlaw05.BucketNil, whatever its input: true, and the input reads as it did. A nil bucket has nothing. Conditions: the tied card's. -/
import Derived.Test.YtflgagglkkehiaaDoorBkN
import Derived.Test.YtflgagglkkehiaaDoorBkX
import Derived.Test.YtflgagglkkehiaaDoorCards
import Derived.Test.YtflgagglkkehiaaDoorTie
import Derived.SevenTiedAt
namespace Go.Proofs.YtflgagglkkehiaaDoor.lawBucketNil
open Go.ChangeShapes Go.WideShapes Go.ChangeAt Go.RowKit

theorem SlRows.lit {α : Type} (w : World) (f : α → List Value) (a : α) (c : Nat) (t : TypeId) : SlRows (w.alloc (.cells (f a).toArray t)) (.slice (some ⟨w.heap.size, 0, none⟩) 1 1) f c [a] [w.heap.size] := by
  refine ⟨_, _, rfl, fun _ => ⟨_, _, rfl, by simp, fun i x hi j u hj => ?_⟩⟩
  cases i with
  | zero =>
    simp at hi
    subst hi
    rw [Nat.zero_mul, Nat.zero_add, cell_of_heap (heap_alloc_self w _)]
    simpa using hj
  | succ i => simp at hi

set_option maxHeartbeats 8000000 in
set_option maxRecDepth 100000 in
theorem walk (o : OpR) (w : World) (hg : o.good w) :
    Calls Tryd.prog 10 #[.agg o.vals.toArray] w fun e w' => e = .returned (.bool true) ∧ Keeps [] w w' := by
  have hz := str_empty
  have Aw := Lib.hid awake_any
  have K0 := Lib.hid fun o => (Keeps.refl [] w).alloc o
  obtain ⟨ask, name, data, at_, n, lv, L⟩ := o
  have Fe : Hid (∀ ob, Calls Tryd.prog 20 #[.slice (some ⟨w.heap.size + 1, 0, none⟩) 1 1] ((w.alloc ob).alloc (.cells (OpR.vals ⟨ask, name, data, at_, n, lv, L⟩).toArray 42)) fun e w' => e = .returned (.bool (few [⟨ask, name, data, at_, n, lv, L⟩])) ∧ Keeps [] ((w.alloc ob).alloc (.cells (OpR.vals ⟨ask, name, data, at_, n, lv, L⟩).toArray 42)) w') := fun ob => by
    have hs : (w.alloc ob).heap.size = w.heap.size + 1 := by simp
    have h1 := SlRows.lit (w.alloc ob) OpR.vals ⟨ask, name, data, at_, n, lv, L⟩ 6 42
    rw [hs] at h1
    exact few_any [⟨ask, name, data, at_, n, lv, L⟩] _ _ _ h1 (fun o ho => by rw [List.mem_singleton.1 ho]; exact hg.newer (((Keeps.refl [] w).alloc ob).alloc _)) (by simp)
  have Nd := Lib.hid (fun w1 => ndo_any w1 ⟨ask, name, data, at_, n, lv, L⟩)
  have hB := heap_alloc_self w (.cells (OpR.vals ⟨ask, name, data, at_, n, lv, L⟩).toArray 42)
  have hra : ∀ w1, Keeps [] (w.alloc (.cells (OpR.vals ⟨ask, name, data, at_, n, lv, L⟩).toArray 42)) w1 → w1.rangeAt w.heap.size 0 (OpR.vals ⟨ask, name, data, at_, n, lv, L⟩) := fun w1 k j u hj => by
    rw [Nat.zero_add]
    refine k.cell0 ?_
    rw [cell_of_heap hB]
    simpa using hj
  have hc0 : ∀ w1, Keeps [] (w.alloc (.cells (OpR.vals ⟨ask, name, data, at_, n, lv, L⟩).toArray 42)) w1 → w1.cell? ⟨w.heap.size, 0, none⟩ = some (.int .i64 ask) := fun w1 k => hra w1 k 0 _ rfl
  unfold OpR.vals at *
  dsimp only at *
  have Hra := Lib.hid hra
  have Hc0 := Lib.hid hc0
  have N0 := Lib.hid nnames
  have U0 := Lib.hid nused
  have Q0 := Lib.hid nquota
  have W0 := Lib.hid nwaits
  have C0 := Lib.hid ncopy
  have hso : (Tryd.prog.info? 42).map (·.size) = some 6 := sizeOp
  clear hra hc0 hB hg
  by_cases hf : few [⟨ask, name, data, at_, n, lv, L⟩] = true
  · rw [hf] at Fe
    rcases (show (0 ≤ ask ∧ ask ≤ 4) ∨ (0 ≤ ask ∧ 4 < ask) ∨ ask < 0 by omega) with ⟨h1, h2⟩ | ⟨h1, h2⟩ | h1
    · rw [if_pos ⟨h1, h2⟩] at Nd
      go_enter Tryd.func10, Tryd.ntmps10
      go_wp2_with (first
        | (go_at_call 20; (with_reducible refine (Fe.out _).mono ?_); rintro e w1 ⟨rfl, k1⟩; have k1' := Lib.hid (((Keeps.refl [] (w.alloc (.cells #[.int .i64 ask, .string (str name), .string (str data), .int .i64 at_, .int .i64 n, lv] 42))).alloc (.cells #[.int .i64 ask, .string (str name), .string (str data), .int .i64 at_, .int .i64 n, lv] 42)).trans k1 (by simp)); have Hr1 := Lib.hid (Hra.out _ k1'.out))
        | ((with_reducible refine wpList_run (w' := w1) (o := ⟨some 11, _, _, _, _, _⟩) ?_ (.agg #[.int .i64 ask, .string (str name), .string (str data), .int .i64 at_, .int .i64 n, lv]) ?_ ?_); exact rfl; exact exec_load w1 42 w.heap.size 0 [.int .i64 ask, .string (str name), .string (str data), .int .i64 at_, .int .i64 n, lv] _ Hr1.out Tryd.underlying42 rfl hso _ _ (.tmp 1) rfl rfl)
        | (go_at_call 21; (with_reducible refine (Nd.out _).mono ?_); rintro e w3 ⟨rfl, k3⟩; have d0 : ∀ ob, (w3.alloc ob).cell? ⟨w.heap.size, 0, none⟩ = some (.int .i64 ask) := fun ob => Hc0.out _ ((k1'.out.trans k3 (by simp)).alloc ob))
        | (go_at_call 22; (with_reducible refine (N0.out _).mono ?_); rintro e w4 ⟨rfl, rfl⟩)
        | (go_at_call 19; (with_reducible refine (U0.out _).mono ?_); rintro e w4 ⟨rfl, rfl⟩)
        | (go_at_call 29; (with_reducible refine (Q0.out _).mono ?_); rintro e w4 ⟨rfl, rfl⟩)
        | (go_at_call 15; (with_reducible refine (W0.out _).mono ?_); rintro e w4 ⟨rfl, rfl⟩)
        | (go_at_call 28; (with_reducible refine (C0.out _).mono ?_); rintro e w4 ⟨rfl, rfl⟩)
        | (go_at_call 12; (with_reducible refine (Aw.out _).mono ?_); rintro e w5 ⟨rfl, k5⟩))
      go_ret
      exact ⟨rfl, (((((K0.out _).trans k1'.out (by simp)).trans k3 (by simp)).alloc _).trans k5 (by simp))⟩
    · rw [if_neg (by omega)] at Nd
      have d1 : decide (ask ≤ 4) = false := decide_eq_false (by omega)
      go_enter Tryd.func10, Tryd.ntmps10
      go_wp2_with (first
        | (go_at_call 20; (with_reducible refine (Fe.out _).mono ?_); rintro e w1 ⟨rfl, k1⟩; have k1' := Lib.hid (((Keeps.refl [] (w.alloc (.cells #[.int .i64 ask, .string (str name), .string (str data), .int .i64 at_, .int .i64 n, lv] 42))).alloc (.cells #[.int .i64 ask, .string (str name), .string (str data), .int .i64 at_, .int .i64 n, lv] 42)).trans k1 (by simp)); have Hr1 := Lib.hid (Hra.out _ k1'.out))
        | ((with_reducible refine wpList_run (w' := w1) (o := ⟨some 11, _, _, _, _, _⟩) ?_ (.agg #[.int .i64 ask, .string (str name), .string (str data), .int .i64 at_, .int .i64 n, lv]) ?_ ?_); exact rfl; exact exec_load w1 42 w.heap.size 0 [.int .i64 ask, .string (str name), .string (str data), .int .i64 at_, .int .i64 n, lv] _ Hr1.out Tryd.underlying42 rfl hso _ _ (.tmp 1) rfl rfl)
        | (go_at_call 21; (with_reducible refine (Nd.out _).mono ?_); rintro e w3 ⟨rfl, k3⟩; have d0 : ∀ ob, (w3.alloc ob).cell? ⟨w.heap.size, 0, none⟩ = some (.int .i64 ask) := fun ob => Hc0.out _ ((k1'.out.trans k3 (by simp)).alloc ob))
        | (go_at_call 22; (with_reducible refine (N0.out _).mono ?_); rintro e w4 ⟨rfl, rfl⟩)
        | (go_at_call 19; (with_reducible refine (U0.out _).mono ?_); rintro e w4 ⟨rfl, rfl⟩)
        | (go_at_call 29; (with_reducible refine (Q0.out _).mono ?_); rintro e w4 ⟨rfl, rfl⟩)
        | (go_at_call 15; (with_reducible refine (W0.out _).mono ?_); rintro e w4 ⟨rfl, rfl⟩)
        | (go_at_call 28; (with_reducible refine (C0.out _).mono ?_); rintro e w4 ⟨rfl, rfl⟩)
        | (go_at_call 12; (with_reducible refine (Aw.out _).mono ?_); rintro e w5 ⟨rfl, k5⟩))
      go_ret
      exact ⟨rfl, (((((K0.out _).trans k1'.out (by simp)).trans k3 (by simp)).alloc _).trans k5 (by simp))⟩
    · rw [if_neg (by omega)] at Nd
      have d1 : decide (0 ≤ ask) = false := decide_eq_false (by omega)
      go_enter Tryd.func10, Tryd.ntmps10
      go_wp2_with (first
        | (go_at_call 20; (with_reducible refine (Fe.out _).mono ?_); rintro e w1 ⟨rfl, k1⟩; have k1' := Lib.hid (((Keeps.refl [] (w.alloc (.cells #[.int .i64 ask, .string (str name), .string (str data), .int .i64 at_, .int .i64 n, lv] 42))).alloc (.cells #[.int .i64 ask, .string (str name), .string (str data), .int .i64 at_, .int .i64 n, lv] 42)).trans k1 (by simp)); have Hr1 := Lib.hid (Hra.out _ k1'.out))
        | ((with_reducible refine wpList_run (w' := w1) (o := ⟨some 11, _, _, _, _, _⟩) ?_ (.agg #[.int .i64 ask, .string (str name), .string (str data), .int .i64 at_, .int .i64 n, lv]) ?_ ?_); exact rfl; exact exec_load w1 42 w.heap.size 0 [.int .i64 ask, .string (str name), .string (str data), .int .i64 at_, .int .i64 n, lv] _ Hr1.out Tryd.underlying42 rfl hso _ _ (.tmp 1) rfl rfl)
        | (go_at_call 21; (with_reducible refine (Nd.out _).mono ?_); rintro e w3 ⟨rfl, k3⟩; have d0 : ∀ ob, (w3.alloc ob).cell? ⟨w.heap.size, 0, none⟩ = some (.int .i64 ask) := fun ob => Hc0.out _ ((k1'.out.trans k3 (by simp)).alloc ob))
        | (go_at_call 22; (with_reducible refine (N0.out _).mono ?_); rintro e w4 ⟨rfl, rfl⟩)
        | (go_at_call 19; (with_reducible refine (U0.out _).mono ?_); rintro e w4 ⟨rfl, rfl⟩)
        | (go_at_call 29; (with_reducible refine (Q0.out _).mono ?_); rintro e w4 ⟨rfl, rfl⟩)
        | (go_at_call 15; (with_reducible refine (W0.out _).mono ?_); rintro e w4 ⟨rfl, rfl⟩)
        | (go_at_call 28; (with_reducible refine (C0.out _).mono ?_); rintro e w4 ⟨rfl, rfl⟩)
        | (go_at_call 12; (with_reducible refine (Aw.out _).mono ?_); rintro e w5 ⟨rfl, k5⟩))
      go_ret
      exact ⟨rfl, (((((K0.out _).trans k1'.out (by simp)).trans k3 (by simp)).alloc _).trans k5 (by simp))⟩
  · have hf2 := Bool.eq_false_iff.2 hf
    rw [hf2] at Fe
    clear hf hf2
    go_enter Tryd.func10, Tryd.ntmps10
    go_wp2_with (first
        | (go_at_call 20; (with_reducible refine (Fe.out _).mono ?_); rintro e w1 ⟨rfl, k1⟩; have k1' := Lib.hid (((Keeps.refl [] (w.alloc (.cells #[.int .i64 ask, .string (str name), .string (str data), .int .i64 at_, .int .i64 n, lv] 42))).alloc (.cells #[.int .i64 ask, .string (str name), .string (str data), .int .i64 at_, .int .i64 n, lv] 42)).trans k1 (by simp)); have Hr1 := Lib.hid (Hra.out _ k1'.out))
        | ((with_reducible refine wpList_run (w' := w1) (o := ⟨some 11, _, _, _, _, _⟩) ?_ (.agg #[.int .i64 ask, .string (str name), .string (str data), .int .i64 at_, .int .i64 n, lv]) ?_ ?_); exact rfl; exact exec_load w1 42 w.heap.size 0 [.int .i64 ask, .string (str name), .string (str data), .int .i64 at_, .int .i64 n, lv] _ Hr1.out Tryd.underlying42 rfl hso _ _ (.tmp 1) rfl rfl)
        | (go_at_call 21; (with_reducible refine (Nd.out _).mono ?_); rintro e w3 ⟨rfl, k3⟩; have d0 : ∀ ob, (w3.alloc ob).cell? ⟨w.heap.size, 0, none⟩ = some (.int .i64 ask) := fun ob => Hc0.out _ ((k1'.out.trans k3 (by simp)).alloc ob))
        | (go_at_call 22; (with_reducible refine (N0.out _).mono ?_); rintro e w4 ⟨rfl, rfl⟩)
        | (go_at_call 19; (with_reducible refine (U0.out _).mono ?_); rintro e w4 ⟨rfl, rfl⟩)
        | (go_at_call 29; (with_reducible refine (Q0.out _).mono ?_); rintro e w4 ⟨rfl, rfl⟩)
        | (go_at_call 15; (with_reducible refine (W0.out _).mono ?_); rintro e w4 ⟨rfl, rfl⟩)
        | (go_at_call 28; (with_reducible refine (C0.out _).mono ?_); rintro e w4 ⟨rfl, rfl⟩)
        | (go_at_call 12; (with_reducible refine (Aw.out _).mono ?_); rintro e w5 ⟨rfl, k5⟩))
    go_ret
    exact ⟨rfl, ((K0.out _).trans k1'.out (by simp)).trans k5 (by simp)⟩

-- ROWEND
set_option maxRecDepth 100000 in
theorem lifted (os : Os) (started : os.Started) (H : Type) (enc : TypeId × Value → H) :
    ReturnsInHanded {} Tryd.checked os 10 .any (fun w args => (Rows.bucketNilSpec.pre enc Tryd.prog Tryd.f10 [] false w args ∧ laidMetH Tryd.prog laidU w) ∧ sizedMet enc Tryd.prog Tryd.f10 (OpenSpec.ofChange Rows.bucketNilSpec) false w args)
      (Rows.bucketNilSpec.post enc Tryd.prog Tryd.f10 false true false false) := by
  refine returnsInHanded_of_change_and (C := Tryd.checked) (X := fun w _ => laidMetH Tryd.prog laidU w) (fun _ _ _ hh h => h.of_heap hh) Tryd.own started (by kernel_rfl) Tryd.func10
    (ChangeSpec.witness_shaped (enc := enc) (C := Tryd.checked) (os := os) (X := fun w _ => laidMetH Tryd.prog laidU w) false (World.laidAll Tryd.prog os laidU) #[.agg #[.int .i64 0, .string .empty, .string .empty, .int .i64 0, .int .i64 0, .slice none 0 0]] 8 (World.laidAll_os _ _ _) (World.shaped_of_ZipB (by kernel_rfl) (by kernel_rfl)) (by kernel_rfl) (by kernel_rfl) (by kernel_rfl) (by rw [MakeChecks.laidMetH_plain _ _ _ (by kernel_rfl)]; exact laidMet_laidAll _ (by kernel_rfl) (by kernel_rfl))) ?_
  intro W base args ds gs before hval0 hW _ _ hL _
  have hval : ∀ (j : Nat) t v, Tryd.f10.params[j]? = some t → args[j]? = some v → Value.okWide Tryd.prog W .any base t v := hval0
  have hW' := hW
  obtain ⟨p, q, hA0, hV, rfl, hfz, hnd⟩ := hW
  have hA : DataW.TrodAll enc Tryd.prog W 0 (fun _ => true) true Tryd.f10.params.toList args.toList ds p := hA0
  rw [Tryd.params10] at hA hval
  obtain ⟨v0, vs0, d0, ds0, p0, q0, hargs, rfl, rfl, h0, r0⟩ := trodAll_cons hA
  obtain ⟨rfl, rfl, rfl⟩ := trodAll_nil r0
  obtain rfl : args = #[v0] := by cases args; simp_all
  obtain ⟨cs0, n0, x0, rfl, e0⟩ := open_agg Tryd.underlying42 (hval 0 42 v0 rfl rfl) h0
  obtain ⟨o, c0, go⟩ := elem_op e0
  obtain rfl : cs0 = (o.vals).toArray := by rw [← c0]
  refine (walk o W go).mono fun e W' ⟨he, hk⟩ => ?_
  subst he
  exact ⟨_, rfl, law_end Tryd.laidOut (by kernel_rfl) rfl rfl Tryd.underlying4 hW' rfl hk⟩

theorem row_holds : Rows.BucketNilSaid :=
  OpenClaim.holds_of_wide 10 Tryd.f10 rfl rfl rfl rfl rfl rfl rfl ⟨rfl, rfl, rfl, rfl, rfl⟩ rfl rfl rfl rfl rfl (by kernel_rfl) Tryd.func10 (by kernel_rfl)
    (of_decide_eq_true (by kernel_rfl)) (by unfold Func.isWrapper; first | (rw [if_pos (by decide +kernel)]; kernel_rfl) | (rw [if_neg (by decide +kernel)]; exact ⟨rfl, rfl⟩))
    (fun os started H enc _ => lifted os started H enc)
theorem proved : Rows.BucketNilCardSaid :=
  Claim7.holds_tied_plain_at .later [] [.data, .pinned] true (true, "e4129f4e5938461e8878458e06df438afec1d99629e799e21c52c19d7c204c58") true
    row_holds (fun _ h => by cases h) (by kernel_rfl) (fun _ h => by cases h) bucketNil_row_tie rfl ⟨rfl, rfl⟩ (by kernel_rfl) rfl
    (fun f fn hf hfn => by
      obtain rfl : f = 10 := Option.some.inj ((show Tryd.prog.funcNamed "lighter/lighterlaw05.BucketNil" = some 10 by kernel_rfl).symm.trans hf) |>.symm
      obtain rfl : fn = Tryd.f10 := (Option.some.inj (Tryd.func10.symm.trans hfn)).symm
      exact ⟨by kernel_rfl, fun j t ht => by
        rw [Tryd.params10] at ht
        have hm : t ∈ [42] := by simpa using Array.mem_of_getElem? ht
        have hall : ([42].all fun u => !Tryd.prog.wantsStandIn u) = true := by kernel_rfl
        exact (show Tryd.prog.wantsStandIn t = false by simpa using List.all_eq_true.1 hall t hm)⟩)
    (by kernel_rfl)
end Go.Proofs.YtflgagglkkehiaaDoor.lawBucketNil
