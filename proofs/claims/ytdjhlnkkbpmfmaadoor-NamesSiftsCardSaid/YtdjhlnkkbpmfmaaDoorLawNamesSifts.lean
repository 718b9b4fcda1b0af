/- Which numbers a volume's objects of a kind have, rising: NamesSifts answers true at all inputs; without conditions but for the tables of Go's library that the row lays. -/
import Derived.Test.YtdjhlnkkbpmfmaaDoorNamLF
import Derived.Test.YtdjhlnkkbpmfmaaDoorNamX
import Derived.Test.YtdjhlnkkbpmfmaaDoorCards
import Derived.Test.YtdjhlnkkbpmfmaaDoorTie
import Derived.SevenTiedAt
namespace Go.Proofs.YtdjhlnkkbpmfmaaDoor.lawNamesSifts
open Go.ChangeShapes Go.WideShapes Go.ChangeAt Go.RowKit
open Go.ChangeMaps (open_string shut_string)

theorem walk_any (l : List ByteArray) (v : Value) (G : List Nat) (u : ByteArray) (k : Int) (W : World) (hv : SlRows W v (fun s => [Value.string s]) 1 l G) (hL : laidMetH Tryd.prog laid3 W) :
    Calls Tryd.prog 8 #[v, .string u, .int .i64 k] W fun e w' => e = .returned (.bool true) ∧ Keeps [] W w' := by
  have hs := hv.slAt
  by_cases h : 40 < l.length ∨ 100 < u.size
  · obtain ⟨ad, cap, rfl, _⟩ := hs
    rw [List.length_map]
    exact walk_big ad _ cap u k h W (tabC_of hL)
  · have := walk l v G u.data.toList k W hs (by omega) (by rw [dlen]; omega) (tabC_of hL)
    rw [str_self] at this
    exact this

-- ROWEND
set_option maxRecDepth 100000 in
theorem lifted (os : Os) (started : os.Started) (H : Type) (enc : TypeId × Value → H) :
    ReturnsInHanded {} Tryd.checked os 8 .any (fun w args => (Rows.namesSiftsSpec.pre enc Tryd.prog Tryd.f8 [] false w args ∧ laidMetH Tryd.prog laid3 w) ∧ sizedMet enc Tryd.prog Tryd.f8 (OpenSpec.ofChange Rows.namesSiftsSpec) false w args)
      (Rows.namesSiftsSpec.post enc Tryd.prog Tryd.f8 false true false false) := by
  refine returnsInHanded_of_change_and (C := Tryd.checked) (X := fun w _ => laidMetH Tryd.prog laid3 w) (fun _ _ _ hh h => h.of_heap hh) Tryd.own started (by kernel_rfl) Tryd.func8
    (ChangeSpec.witness_shaped (enc := enc) (C := Tryd.checked) (os := os) (X := fun w _ => laidMetH Tryd.prog laid3 w) false (World.doorLaid Tryd.prog 400 os) #[.slice none 0 0, .string .empty, .int .i64 0] 8 rfl (World.shaped_of_RefB (by kernel_rfl) (by kernel_rfl)) (by kernel_rfl) (by kernel_rfl) (by kernel_rfl) (door_met os _)) ?_
  intro W base args ds gs before hval0 hW _ _ hL _
  have hval : ∀ (j : Nat) t v, Tryd.f8.params[j]? = some t → args[j]? = some v → Value.okWide Tryd.prog W .any base t v := hval0
  have hW' := hW
  obtain ⟨p, q, hA0, hV, rfl, hfz, hnd⟩ := hW
  have hA : DataW.TrodAll enc Tryd.prog W 0 (fun _ => true) true Tryd.f8.params.toList args.toList ds p := hA0
  rw [Tryd.params8] at hA hval
  obtain ⟨v0, vs0, d0, ds0, p0, q0, hargs, rfl, rfl, h0, r0⟩ := trodAll_cons hA
  obtain ⟨v1, vs1, d1, ds1, p1, q1, rfl, rfl, rfl, h1, r1⟩ := trodAll_cons r0
  obtain ⟨v2, vs2, d2, ds2, p2, q2, rfl, rfl, rfl, h2, r2⟩ := trodAll_cons r1
  obtain ⟨rfl, rfl, rfl⟩ := trodAll_nil r2
  obtain rfl : args = #[v0, v1, v2] := by cases args; simp_all
  obtain ⟨l, Gl, hl, gl, bl, ll⟩ := open_rows (fun s => [Value.string s]) (fun s => s.size ≤ 9223372036854775807) 1 (by kernel_rfl) (by decide) Tryd.underlying43 (hval 0 43 v0 rfl rfl) (fun _ _ _ h => elem_string Tryd.underlying9 h) h0
  obtain ⟨u, rfl, rfl, rfl, wu⟩ := open_string Tryd.underlying9 (hval 1 9 v1 rfl rfl) h1
  unfold maxLen at wu
  obtain ⟨k, rfl, rfl, rfl, wk⟩ := open_int Tryd.underlying3 (hval 2 3 v2 rfl rfl) h2
  obtain ⟨wk0, wk1⟩ := wf_i64 wk
  refine (walk_any l v0 Gl u k W hl hL).mono fun e W' ⟨he, hk⟩ => ?_
  subst he
  exact ⟨_, rfl, law_end Tryd.laidOut (by kernel_rfl) rfl rfl Tryd.underlying4 hW' rfl hk⟩

theorem row_holds : Rows.NamesSiftsSaid :=
  OpenClaim.holds_of_wide 8 Tryd.f8 rfl rfl rfl rfl rfl rfl rfl ⟨rfl, rfl, rfl, rfl, rfl⟩ rfl rfl rfl rfl rfl (by kernel_rfl) Tryd.func8 (by kernel_rfl)
    (of_decide_eq_true (by kernel_rfl)) (by unfold Func.isWrapper; first | (rw [if_pos (by decide +kernel)]; kernel_rfl) | (rw [if_neg (by decide +kernel)]; exact ⟨rfl, rfl⟩))
    (fun os started H enc _ => lifted os started H enc)
theorem proved : Rows.NamesSiftsCardSaid :=
  Claim7.holds_tied_plain_at .later [] [.data, .data, .data] true (true, "26b2cc9c3f49e4949bc51066b1427384f19d46f4a3ab545aeda3a152b4766243") false
    row_holds (fun _ h => by cases h) (by kernel_rfl) (fun _ h => by cases h) namesSifts_row_tie rfl ⟨rfl, rfl⟩ (by kernel_rfl) rfl
    (fun f fn hf hfn => by
      obtain rfl : f = 8 := Option.some.inj ((show Tryd.prog.funcNamed "lighter/lighterlaw06.NamesSifts" = some 8 by kernel_rfl).symm.trans hf) |>.symm
      obtain rfl : fn = Tryd.f8 := (Option.some.inj (Tryd.func8.symm.trans hfn)).symm
      exact ⟨by kernel_rfl, fun j t ht => by
        rw [Tryd.params8] at ht
        have hm : t ∈ [43, 9, 3] := by simpa using Array.mem_of_getElem? ht
        have hall : ([43, 9, 3].all fun u => !Tryd.prog.wantsStandIn u) = true := by kernel_rfl
        exact (show Tryd.prog.wantsStandIn t = false by simpa using List.all_eq_true.1 hall t hm)⟩)
    (by kernel_rfl)
end Go.Proofs.YtdjhlnkkbpmfmaaDoor.lawNamesSifts
