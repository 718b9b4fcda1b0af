/- Each name is sifted by its own volume and kind, and by no other kind of it: NamesKinds answers true at all inputs; without conditions but for the tables of Go's library that the row lays. -/
import Derived.Test.YtdjhlnkkbpmfmaaDoorNamLG
import Derived.Test.YtdjhlnkkbpmfmaaDoorNamX
import Derived.Test.YtdjhlnkkbpmfmaaDoorCards
import Derived.Test.YtdjhlnkkbpmfmaaDoorTie
import Derived.SevenTiedAt
namespace Go.Proofs.YtdjhlnkkbpmfmaaDoor.lawNamesKinds
open Go.ChangeShapes Go.WideShapes Go.ChangeAt Go.RowKit

theorem walk_any (l : List NameR) (v : Value) (G : List Nat) (a : Int) (W : World) (hv : SlRows W v NameR.vals 3 l G) (ha0 : -9223372036854775808 ≤ a) (ha1 : a ≤ 9223372036854775807) (hL : laidMetH Tryd.prog laid3 W) :
    Calls Tryd.prog 9 #[v, .int .i64 a] W fun e w' => e = .returned (.bool true) ∧ Keeps [] W w' := by
  by_cases h : 20 < l.length ∨ l.length = 0
  · obtain ⟨ad, cap, rfl, _⟩ := hv
    exact walk_out ad _ cap a h W (tabC_of hL)
  · exact walk l v G a W hv (by omega) (by omega) ha0 ha1 (tabC_of hL)

-- ROWEND
set_option maxRecDepth 100000 in
theorem lifted (os : Os) (started : os.Started) (H : Type) (enc : TypeId × Value → H) :
    ReturnsInHanded {} Tryd.checked os 9 .any (fun w args => (Rows.namesKindsSpec.pre enc Tryd.prog Tryd.f9 [] false w args ∧ laidMetH Tryd.prog laid3 w) ∧ sizedMet enc Tryd.prog Tryd.f9 (OpenSpec.ofChange Rows.namesKindsSpec) false w args)
      (Rows.namesKindsSpec.post enc Tryd.prog Tryd.f9 false true false false) := by
  refine returnsInHanded_of_change_and (C := Tryd.checked) (X := fun w _ => laidMetH Tryd.prog laid3 w) (fun _ _ _ hh h => h.of_heap hh) Tryd.own started (by kernel_rfl) Tryd.func9
    (ChangeSpec.witness_shaped (enc := enc) (C := Tryd.checked) (os := os) (X := fun w _ => laidMetH Tryd.prog laid3 w) false (World.doorLaid Tryd.prog 400 os) #[.slice none 0 0, .int .i64 0] 8 rfl (World.shaped_of_RefB (by kernel_rfl) (by kernel_rfl)) (by kernel_rfl) (by kernel_rfl) (by kernel_rfl) (door_met os _)) ?_
  intro W base args ds gs before hval0 hW _ _ hL _
  have hval : ∀ (j : Nat) t v, Tryd.f9.params[j]? = some t → args[j]? = some v → Value.okWide Tryd.prog W .any base t v := hval0
  have hW' := hW
  obtain ⟨p, q, hA0, hV, rfl, hfz, hnd⟩ := hW
  have hA : DataW.TrodAll enc Tryd.prog W 0 (fun _ => true) true Tryd.f9.params.toList args.toList ds p := hA0
  rw [Tryd.params9] at hA hval
  obtain ⟨v0, vs0, d0, ds0, p0, q0, hargs, rfl, rfl, h0, r0⟩ := trodAll_cons hA
  obtain ⟨v1, vs1, d1, ds1, p1, q1, rfl, rfl, rfl, h1, r1⟩ := trodAll_cons r0
  obtain ⟨rfl, rfl, rfl⟩ := trodAll_nil r1
  obtain rfl : args = #[v0, v1] := by cases args; simp_all
  obtain ⟨l, Gl, hl, gl, bl, ll⟩ := open_rows NameR.vals NameR.good 3 (by kernel_rfl) (by decide) Tryd.underlying47 (hval 0 47 v0 rfl rfl) (fun _ _ _ h => elem_name h) h0
  obtain ⟨a, rfl, rfl, rfl, wa⟩ := open_int Tryd.underlying3 (hval 1 3 v1 rfl rfl) h1
  obtain ⟨wa0, wa1⟩ := wf_i64 wa
  refine (walk_any l v0 Gl a W hl wa0 wa1 hL).mono fun e W' ⟨he, hk⟩ => ?_
  subst he
  exact ⟨_, rfl, law_end Tryd.laidOut (by kernel_rfl) rfl rfl Tryd.underlying4 hW' rfl hk⟩

theorem row_holds : Rows.NamesKindsSaid :=
  OpenClaim.holds_of_wide 9 Tryd.f9 rfl rfl rfl rfl rfl rfl rfl ⟨rfl, rfl, rfl, rfl, rfl⟩ rfl rfl rfl rfl rfl (by kernel_rfl) Tryd.func9 (by kernel_rfl)
    (of_decide_eq_true (by kernel_rfl)) (by unfold Func.isWrapper; first | (rw [if_pos (by decide +kernel)]; kernel_rfl) | (rw [if_neg (by decide +kernel)]; exact ⟨rfl, rfl⟩))
    (fun os started H enc _ => lifted os started H enc)
theorem proved : Rows.NamesKindsCardSaid :=
  Claim7.holds_tied_plain_at .later [] [.data, .data, .data] true (true, "26b2cc9c3f49e4949bc51066b1427384f19d46f4a3ab545aeda3a152b4766243") false
    row_holds (fun _ h => by cases h) (by kernel_rfl) (fun _ h => by cases h) namesKinds_row_tie rfl ⟨rfl, rfl⟩ (by kernel_rfl) rfl
    (fun f fn hf hfn => by
      obtain rfl : f = 9 := Option.some.inj ((show Tryd.prog.funcNamed "lighter/lighterlaw06.NamesKinds" = some 9 by kernel_rfl).symm.trans hf) |>.symm
      obtain rfl : fn = Tryd.f9 := (Option.some.inj (Tryd.func9.symm.trans hfn)).symm
      exact ⟨by kernel_rfl, fun j t ht => by
        rw [Tryd.params9] at ht
        have hm : t ∈ [47, 3] := by simpa using Array.mem_of_getElem? ht
        have hall : ([47, 3].all fun u => !Tryd.prog.wantsStandIn u) = true := by kernel_rfl
        exact (show Tryd.prog.wantsStandIn t = false by simpa using List.all_eq_true.1 hall t hm)⟩)
    (by kernel_rfl)
end Go.Proofs.YtdjhlnkkbpmfmaaDoor.lawNamesKinds
