/- Which bytes are written, call by call, and how many a number needs: WireWrites answers true at all inputs. -/
import Derived.Test.YtcakgmnhipbmhaaWireRef6
import Derived.Test.YtcakgmnhipbmhaaWireBk
import Derived.Deep.RegionHeld3
namespace Go.Proofs.Ytcakgmnhipbmhaa.lawWireWrites
open Go.ChangeShapes Go.WideShapes Go.ChangeAt Go.RowKit

set_option maxHeartbeats 4000000 in
set_option maxRecDepth 100000 in
theorem walk (l : List OpR) (v : Value) (G : List Nat) (w : World) (hg : ∀ o, o ∈ l → o.good) (h : OpsAt w v l G) (hG : ∀ k, k ∈ G → k < w.heap.size) (hf : fewB l = true) :
    Calls Try.prog 5 #[v] w fun e w' => e = .returned (.bool true) ∧ Keeps [] w w' := by
  have hf2 := hf
  unfold fewB at hf2
  simp only [Bool.and_eq_true, List.all_eq_true, decide_eq_true_eq] at hf2
  obtain ⟨hsz, hlen⟩ := hf2
  have hwl := wall_bound l hsz
  have Hg := Lib.hid hg
  have Hsz := Lib.hid hsz
  have Hh := Lib.hid h
  have HG := Lib.hid hG
  have Hf := Lib.hid (few_any l w v G h (by omega))
  rw [hf] at Hf
  obtain ⟨ad, cap, rfl, h2⟩ := h
  clear hg hsz hG hf
  go_enter Try.func5, Try.ntmps5
  go_wp2_with (go_at_call 20; (with_reducible refine Hf.out.mono ?_); rintro e w1 ⟨rfl, rfl⟩)
  obtain ⟨wo, rfl⟩ : ∃ wo : World, wo = w := ⟨_, rfl⟩
  go_loopw [4, 5] (fun av iv wr => ∃ (k : Nat) (F1 : List Nat), k ≤ l.length ∧ iv = .int .i64 k ∧ av = .string (str (wall (l.take k))) ∧ OutAt wr wo.heap.size (wall (l.take k)) F1 ∧ Chg [] F1 wo wr) (fun _ iv _ => l.length - (intOf iv).toNat)
  case atStart => exact ⟨0, [wo.heap.size], Nat.zero_le _, rfl, rfl, OutAt.new wo, Chg.new wo _⟩
  case round =>
    obtain ⟨k, F1, hk, rfl, rfl, ho1, hk1⟩ := hrel
    by_cases hlt : k < l.length
    · obtain ⟨o, ho⟩ : ∃ o, l[k]? = some o := ⟨l[k], by simp [hlt]⟩
      have h0 : l ≠ [] := by intro h; subst h; simp at hlt
      obtain ⟨b, off, had, _, _⟩ := h2 h0
      subst had
      have hcell := fun w' (hk : Keeps [] wo w') => (Hh.out.keep hk (by simp)).cells _ _ _ _ ho rfl
      obtain ⟨c0, c1, c2, c3⟩ := hcell wr hk1.keeps
      have Hcell := Lib.hid hcell
      have hgo := Hg.out o (List.mem_of_getElem? ho)
      have hso := Hsz.out o (List.mem_of_getElem? ho)
      have hwt := wall_take ho
      have hwk := wall_le (l := l) k
      have hwk1 := wall_le (l := l) (k + 1)
      have hwr := write_any wo.heap.size F1 (wall (l.take k)) o wr hgo (by omega) (by omega) ho1
      have htx := fun w => text_any o w hgo hso
      have hx0 := hgo.x0
      have hfin : str (wall (l.take k)) ++ str (wby o) = str (wall (l.take (k + 1))) := by rw [hwt, str_append]
      have hT : (((str (wall (l.take k))).size : Nat) : Int) ≤ 8388608 := by rw [str_size]; omega
      have hU : (((str (wby o)).size : Nat) : Int) ≤ 8388608 := by rw [str_size]; have := wby_le o; omega
      rw [← hwt] at hwr
      generalize str (wall (l.take k)) = T at *
      generalize str (wby o) = U at *
      obtain ⟨Z, hZ⟩ : ∃ Z, Z = str (wall (l.take (k + 1))) := ⟨_, rfl⟩
      rw [← hZ] at hfin
      obtain ⟨ev, hev⟩ : ∃ ev, ev = werr o := ⟨_, rfl⟩
      rw [← hev] at hwr
      have hee : (ev != ev) = false := by simp
      have hsz9 : ((vsz o.x : Int) != (vsz o.x : Int)) = false := by simp
      have hzz : (T ++ U) = Z := hfin
      have HZ := Lib.hid hZ
      have Hwr := Lib.hid hwr
      have Htx := Lib.hid htx
      clear hcell ho hgo h2 h0 hwt hwk hwk1 hwr htx hso hZ hfin
      by_cases hb : o.kind = 0 ∧ (o.n < 1 ∨ 8 < o.n)
      · have hev1 : ev = 1 := by rw [hev]; unfold werr; rw [if_pos hb]
        subst hev1
        have e0 : (o.kind == 0) = true := by simpa using hb.1
        rcases hb.2 with hb1 | hb1
        all_goals
          clear hb hev
          go_wp2_with (first | (go_at_call 21; (with_reducible refine Hwr.out.mono ?_); rintro e w1 ⟨rfl, F2, ho2, hch2⟩; have hk2 := hk1.trans hch2; obtain ⟨d0, d1, d2, d3⟩ := Hcell.out _ hk2.keeps) | (go_at_call 22; (with_reducible refine (Htx.out _).mono ?_); rintro e w2 ⟨rfl, hk3⟩; have hk4 := hk2.keeps.trans hk3 (by simp); obtain ⟨g0, g1, g2, g3⟩ := Hcell.out _ hk4))
          have ho3 := ho2.keep hk3 (by simp)
          have hO : ∀ n, Calls Try.prog 12 #[.pointer (some ⟨wo.heap.size, 0, none⟩)] (w2.drewN n) fun e w' => e = .returned (.string Z) ∧ w2.drewN n = w' := by
            intro n
            rw [HZ.out]
            exact outString_any _ _ _ _ (ho3.keep ((Keeps.refl [] _).drewN n) (by simp))
          have HO := Lib.hid hO
          clear hO
          go_quiet (first | (go_at_call 12; exact Calls.quiet_of_same (Calls_flip (HO.out _))) | (go_at_call 13; exact Calls.quiet_of_same (Calls_flip (size_any o.x _ (by omega)))) | (go_at_call 23; exact Calls.quiet_of_same (Calls_flip (refSize_any o.x _ (by omega)))))
          go_wp2_with fail
          go_roundw
          case rel => exact ⟨k + 1, F2, by omega, by go_num, by rw [HZ.out], ho3.keep ((Keeps.refl [] _).drewN _) (by simp), ⟨hk4.drewN _, hk2.fresh⟩⟩
          case measure => simp [intOf]; omega
      · have hev1 : ev = 0 := by rw [hev]; unfold werr; rw [if_neg hb]
        subst hev1
        by_cases k0 : o.kind = 0
        · have e0 : (o.kind == 0) = true := by simpa using k0
          have h1 : 1 ≤ o.n := by
            have h1 : ¬ o.n < 1 := fun h => hb ⟨k0, .inl h⟩
            omega
          have h8 : o.n ≤ 8 := by
            have h2 : ¬ 8 < o.n := fun h => hb ⟨k0, .inr h⟩
            omega
          clear hb hev k0
          go_wp2_with (first | (go_at_call 21; (with_reducible refine Hwr.out.mono ?_); rintro e w1 ⟨rfl, F2, ho2, hch2⟩; have hk2 := hk1.trans hch2; obtain ⟨d0, d1, d2, d3⟩ := Hcell.out _ hk2.keeps) | (go_at_call 22; (with_reducible refine (Htx.out _).mono ?_); rintro e w2 ⟨rfl, hk3⟩; have hk4 := hk2.keeps.trans hk3 (by simp); obtain ⟨g0, g1, g2, g3⟩ := Hcell.out _ hk4))
          have ho3 := ho2.keep hk3 (by simp)
          have hO : ∀ n, Calls Try.prog 12 #[.pointer (some ⟨wo.heap.size, 0, none⟩)] (w2.drewN n) fun e w' => e = .returned (.string Z) ∧ w2.drewN n = w' := by
            intro n
            rw [HZ.out]
            exact outString_any _ _ _ _ (ho3.keep ((Keeps.refl [] _).drewN n) (by simp))
          have HO := Lib.hid hO
          clear hO
          go_quiet (first | (go_at_call 12; exact Calls.quiet_of_same (Calls_flip (HO.out _))) | (go_at_call 13; exact Calls.quiet_of_same (Calls_flip (size_any o.x _ (by omega)))) | (go_at_call 23; exact Calls.quiet_of_same (Calls_flip (refSize_any o.x _ (by omega)))))
          go_wp2_with fail
          go_roundw
          case rel => exact ⟨k + 1, F2, by omega, by go_num, by rw [HZ.out], ho3.keep ((Keeps.refl [] _).drewN _) (by simp), ⟨hk4.drewN _, hk2.fresh⟩⟩
          case measure => simp [intOf]; omega
        · have e0 : (o.kind == 0) = false := by simpa using k0
          clear hb hev k0
          go_wp2_with (first | (go_at_call 21; (with_reducible refine Hwr.out.mono ?_); rintro e w1 ⟨rfl, F2, ho2, hch2⟩; have hk2 := hk1.trans hch2; obtain ⟨d0, d1, d2, d3⟩ := Hcell.out _ hk2.keeps) | (go_at_call 22; (with_reducible refine (Htx.out _).mono ?_); rintro e w2 ⟨rfl, hk3⟩; have hk4 := hk2.keeps.trans hk3 (by simp); obtain ⟨g0, g1, g2, g3⟩ := Hcell.out _ hk4))
          have ho3 := ho2.keep hk3 (by simp)
          have hO : ∀ n, Calls Try.prog 12 #[.pointer (some ⟨wo.heap.size, 0, none⟩)] (w2.drewN n) fun e w' => e = .returned (.string Z) ∧ w2.drewN n = w' := by
            intro n
            rw [HZ.out]
            exact outString_any _ _ _ _ (ho3.keep ((Keeps.refl [] _).drewN n) (by simp))
          have HO := Lib.hid hO
          clear hO
          go_quiet (first | (go_at_call 12; exact Calls.quiet_of_same (Calls_flip (HO.out _))) | (go_at_call 13; exact Calls.quiet_of_same (Calls_flip (size_any o.x _ (by omega)))) | (go_at_call 23; exact Calls.quiet_of_same (Calls_flip (refSize_any o.x _ (by omega)))))
          go_wp2_with fail
          go_roundw
          case rel => exact ⟨k + 1, F2, by omega, by go_num, by rw [HZ.out], ho3.keep ((Keeps.refl [] _).drewN _) (by simp), ⟨hk4.drewN _, hk2.fresh⟩⟩
          case measure => simp [intOf]; omega
    · go_wp2_with (go_at_call 10; (with_reducible refine (awake_any _).mono ?_); rintro e w6 ⟨rfl, hk6⟩)
      go_ret
      exact ⟨rfl, hk1.keeps.trans hk6 (by simp)⟩

theorem walk_any (l : List OpR) (v : Value) (G : List Nat) (w : World) (hg : ∀ o, o ∈ l → o.good) (h : OpsAt w v l G) (hG : ∀ k, k ∈ G → k < w.heap.size) (hl : l.length ≤ 9223372036854775807) :
    Calls Try.prog 5 #[v] w fun e w' => e = .returned (.bool true) ∧ Keeps [] w w' := by
  cases hf : fewB l
  · have Hf := Lib.hid (few_any l w v G h hl)
    rw [hf] at Hf
    clear h hf
    go_enter Try.func5, Try.ntmps5
    go_wp2_with (first | (go_at_call 20; (with_reducible refine Hf.out.mono ?_); rintro e w5 ⟨rfl, rfl⟩) | (go_at_call 10; (with_reducible refine (awake_any _).mono ?_); rintro e w6 ⟨rfl, hk6⟩))
    go_ret
    exact ⟨rfl, hk6⟩
  · exact walk l v G w hg h hG hf
-- ROWEND
set_option maxRecDepth 100000 in
theorem lifted (os : Os) (started : os.Started) (H : Type) (enc : TypeId × Value → H) :
    ReturnsInHanded {} Try.checked os 5 .any (Rows.wireWritesSpec.pre6 enc Try.prog Try.f5 Rows.wireWritesRow.domain false) (Rows.wireWritesSpec.post enc Try.prog Try.f5 false true false false) := by
  refine returnsInHanded_of_change (C := Try.checked) Try.own started (by kernel_rfl) Try.func5
    (ChangeSpec.witness6 (enc := enc) (C := Try.checked) false ⟨#[], #[.slice none 0 0], []⟩ 8 (by kernel_rfl) (by kernel_rfl) (by kernel_rfl) (by kernel_rfl)) ?_
  intro W base args ds gs before hval0 hW _ _
  have hval : ∀ (j : Nat) t v, Try.f5.params[j]? = some t → args[j]? = some v → Value.okWide Try.prog W .any base t v := hval0
  have hW' := hW
  obtain ⟨p, q, hA0, hV, rfl, hfz, hnd⟩ := hW
  have hA : DataW.TrodAll enc Try.prog W 0 (fun _ => true) true Try.f5.params.toList args.toList ds p := hA0
  rw [Try.params5] at hA hval
  obtain ⟨v0, vs0, d0, ds0, p0, q0, hargs, rfl, rfl, h0, r0⟩ := trodAll_cons hA
  obtain ⟨rfl, rfl, rfl⟩ := trodAll_nil r0
  obtain rfl : args = #[v0] := by cases args; simp_all
  obtain ⟨l, Gl, hl, gl, bl, ll⟩ := open_rows OpR.vals OpR.good 4 (by kernel_rfl) (by decide) Try.underlying41 (hval 0 41 v0 rfl rfl) (fun _ _ _ h => elem_op h) h0
  refine (walk_any l v0 Gl W gl hl bl ll).mono fun e W' ⟨he, hk⟩ => ?_
  subst he
  exact ⟨_, rfl, law_end Try.laidOut (by kernel_rfl) rfl rfl Try.underlying4 hW' rfl hk⟩

theorem proved : Rows.WireWritesSaid :=
  OpenClaim.holds_of_wide 5 Try.f5 rfl rfl rfl rfl rfl rfl rfl ⟨rfl, rfl, rfl, rfl, rfl⟩ rfl rfl rfl rfl rfl (by kernel_rfl) Try.func5 (by kernel_rfl)
    (of_decide_eq_true (by kernel_rfl)) (by unfold Func.isWrapper; first | (rw [if_pos (by decide +kernel)]; kernel_rfl) | (rw [if_neg (by decide +kernel)]; exact ⟨rfl, rfl⟩))
    (fun os started H enc _ => lifted os started H enc)
end Go.Proofs.Ytcakgmnhipbmhaa.lawWireWrites
