/- Parse of Print is the name, and Print of Parse the text: NamesBack answers true at all inputs; without conditions but for the tables of Go's library that the row lays. -/
import Derived.Test.YtdjhlnkkbpmfmaaDoorNamLE
import Derived.Test.YtdjhlnkkbpmfmaaDoorNamX
import Derived.Test.YtdjhlnkkbpmfmaaDoorCards
import Derived.Test.YtdjhlnkkbpmfmaaDoorTie
import Derived.SevenTiedAt
namespace Go.Proofs.YtdjhlnkkbpmfmaaDoor.lawNamesBack
open Go.ChangeShapes Go.WideShapes Go.ChangeAt Go.RowKit
open Go.ChangeMaps (open_string shut_string)

theorem walk_any (s : NameR) (t : ByteArray) (W : World) (hL : laidMetH Tryd.prog laid3 W) : Calls Tryd.prog 7 #[.agg s.vals.toArray, .string t] W fun e w' => e = .returned (.bool true) ∧ Keeps [] W w' := by
  obtain ⟨v, k, n⟩ := s
  by_cases h : 100 < v.size ∨ 100 < t.size
  · exact walk_long v t k n h W (tabC_of hL)
  · have := walk v.data.toList k n t (by rw [dlen]; omega) (by omega) W (tabC_of hL)
    rw [str_self] at this
    exact this

-- ROWEND
set_option maxRecDepth 100000 in
theorem lifted (os : Os) (started : os.Started) (H : Type) (enc : TypeId × Value → H) :
    ReturnsInHanded {} Tryd.checked os 7 .any (fun w args => (Rows.namesBackSpec.pre enc Tryd.prog Tryd.f7 [] false w args ∧ laidMetH Tryd.prog laid3 w) ∧ sizedMet enc Tryd.prog Tryd.f7 (OpenSpec.ofChange Rows.namesBackSpec) false w args)
      (Rows.namesBackSpec.post enc Tryd.prog Tryd.f7 false true false false) := by
  refine returnsInHanded_of_change_and (C := Tryd.checked) (X := fun w _ => laidMetH Tryd.prog laid3 w) (fun _ _ _ hh h => h.of_heap hh) Tryd.own started (by kernel_rfl) Tryd.func7
    (ChangeSpec.witness_shaped (enc := enc) (C := Tryd.checked) (os := os) (X := fun w _ => laidMetH Tryd.prog laid3 w) false (World.doorLaid Tryd.prog 400 os) #[.agg #[.string .empty, .int .i64 0, .int .i64 0], .string .empty] 8 rfl (World.shaped_of_RefB (by kernel_rfl) (by kernel_rfl)) (by kernel_rfl) (by kernel_rfl) (by kernel_rfl) (door_met os _)) ?_
  intro W base args ds gs before hval0 hW _ _ hL _
  have hval : ∀ (j : Nat) t v, Tryd.f7.params[j]? = some t → args[j]? = some v → Value.okWide Tryd.prog W .any base t v := hval0
  have hW' := hW
  obtain ⟨p, q, hA0, hV, rfl, hfz, hnd⟩ := hW
  have hA : DataW.TrodAll enc Tryd.prog W 0 (fun _ => true) true Tryd.f7.params.toList args.toList ds p := hA0
  rw [Tryd.params7] at hA hval
  obtain ⟨v0, vs0, d0, ds0, p0, q0, hargs, rfl, rfl, h0, r0⟩ := trodAll_cons hA
  obtain ⟨v1, vs1, d1, ds1, p1, q1, rfl, rfl, rfl, h1, r1⟩ := trodAll_cons r0
  obtain ⟨rfl, rfl, rfl⟩ := trodAll_nil r1
  obtain rfl : args = #[v0, v1] := by cases args; simp_all
  obtain ⟨cs0, n0, x0, rfl, e0⟩ := open_agg Tryd.underlying23 (hval 0 23 v0 rfl rfl) h0
  obtain ⟨s, c0, gs⟩ := elem_name e0
  obtain rfl : cs0 = (s.vals).toArray := by rw [← c0]
  obtain ⟨t, rfl, rfl, rfl, wt⟩ := open_string Tryd.underlying9 (hval 1 9 v1 rfl rfl) h1
  unfold maxLen at wt
  refine (walk_any s t W hL).mono fun e W' ⟨he, hk⟩ => ?_
  subst he
  exact ⟨_, rfl, law_end Tryd.laidOut (by kernel_rfl) rfl rfl Tryd.underlying4 hW' rfl hk⟩

theorem row_holds : Rows.NamesBackSaid :=
  OpenClaim.holds_of_wide 7 Tryd.f7 rfl rfl rfl rfl rfl rfl rfl ⟨rfl, rfl, rfl, rfl, rfl⟩ rfl rfl rfl rfl rfl (by kernel_rfl) Tryd.func7 (by kernel_rfl)
    (of_decide_eq_true (by kernel_rfl)) (by unfold Func.isWrapper; first | (rw [if_pos (by decide +kernel)]; kernel_rfl) | (rw [if_neg (by decide +kernel)]; exact ⟨rfl, rfl⟩))
    (fun os started H enc _ => lifted os started H enc)
theorem proved : Rows.NamesBackCardSaid :=
  Claim7.holds_tied_plain_at .later [] [.data, .data, .data] true (true, "26b2cc9c3f49e4949bc51066b1427384f19d46f4a3ab545aeda3a152b4766243") false
    row_holds (fun _ h => by cases h) (by kernel_rfl) (fun _ h => by cases h) namesBack_row_tie rfl ⟨rfl, rfl⟩ (by kernel_rfl) rfl
    (fun f fn hf hfn => by
      obtain rfl : f = 7 := Option.some.inj ((show Tryd.prog.funcNamed "lighter/lighterlaw06.NamesBack" = some 7 by kernel_rfl).symm.trans hf) |>.symm
      obtain rfl : fn = Tryd.f7 := (Option.some.inj (Tryd.func7.symm.trans hfn)).symm
      exact ⟨by kernel_rfl, fun j t ht => by
        rw [Tryd.params7] at ht
        have hm : t ∈ [23, 9] := by simpa using Array.mem_of_getElem? ht
        have hall : ([23, 9].all fun u => !Tryd.prog.wantsStandIn u) = true := by kernel_rfl
        exact (show Tryd.prog.wantsStandIn t = false by simpa using List.all_eq_true.1 hall t hm)⟩)
    (by kernel_rfl)
end Go.Proofs.YtdjhlnkkbpmfmaaDoor.lawNamesBack
