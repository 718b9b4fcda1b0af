/- What each call answers, and what a device has, call by call, crashes and stops between them: SsdPlays answers true at all inputs; without conditions. -/
import Derived.Test.YtddehagceenbnaaSsdRefG
namespace Go.Proofs.Ytddehagceenbnaa.lawSsdPlays
open Go.ChangeShapes Go.WideShapes Go.ChangeAt Go.RowKit

theorem newR_like (n : Nat) : Like (Dev.newR n) (Dev.new n) := ⟨rfl, rfl, rfl, rfl, rfl⟩

theorem refNew (n : Nat) (i : Int) (hi : i = n) (w : World) (h1 : 1 ≤ n) (h2 : n ≤ 65536) :
    Calls Try.prog 21 #[.int .i64 i] w fun e w' => ∃ b F, e = .returned (.pointer (some ⟨b, 0, none⟩)) ∧ Ref w' b (Dev.new n) F 0 ∧ Keeps [] w w' ∧ ∀ x, x ∈ F → w.heap.size ≤ x := by
  subst hi
  exact (refNew_any n w h2).mono fun _ _ ⟨b, vL, vP, he, hr, hn⟩ => ⟨b, _, he, ⟨⟨vL, vP, hr.like (newR_like n), rfl⟩, Dev.new_ok h1 h2, Nat.le_refl _⟩, hn.keeps, hn.fresh⟩

theorem few_sound {l : List OpS} (h : fewB l = true) : (∀ o, o ∈ l → o.data.size ≤ 640) ∧ l.length ≤ 50 := by
  unfold fewB at h
  simp only [Bool.and_eq_true, List.all_eq_true, decide_eq_true_eq] at h
  refine ⟨fun o ho => ?_, h.2⟩
  have := h.1 o ho
  unfold smallB at this
  rw [Bool.and_eq_true, decide_eq_true_eq] at this
  exact this.1

set_option maxHeartbeats 4000000 in
set_option maxRecDepth 100000 in
theorem walk_no (s : Int) (l : List OpS) (v : Value) (G : List Nat) (W : World) (hv : OpsAt W v l G) (hl : l.length ≤ 9223372036854775807) (hg : ∀ o, o ∈ l → o.good W) (h : (40 < s ∧ s ≤ 65536) ∨ (s ≤ 40 ∧ fewB l = false) ∨ (65536 < s ∧ fewB l = false)) :
    Calls Try.prog 7 #[.int .i64 s, v] W fun e w' => e = .returned (.bool true) ∧ Keeps [] W w' := by
  have Hf : Hid (Calls Try.prog 18 #[v] W fun e w'' => e = .returned (.bool (fewB l)) ∧ W = w'') := few_any l W v G hv W hl hg
  obtain ⟨ad, cap, rfl, _⟩ := hv
  clear hg
  rcases h with ⟨h1, h2⟩ | ⟨h1, h2⟩ | ⟨h1, h2⟩
  · have d1 : decide (40 < s) = true := by simpa using h1
    have d2 : decide (s ≤ 65536) = true := by simpa using h2
    go_enter Try.func7, Try.ntmps7
    go_wp2_with (go_at_call 11; (with_reducible refine (awake_any _).mono ?_); rintro e w6 ⟨rfl, hk6⟩)
    go_ret
    exact ⟨rfl, hk6⟩
  · rw [h2] at Hf
    clear h2
    have d1 : decide (40 < s) = false := by simpa using h1
    go_enter Try.func7, Try.ntmps7
    go_wp2_with (first | (go_at_call 18; (with_reducible refine Hf.out.mono ?_); rintro e w3 ⟨rfl, rfl⟩) | (go_at_call 11; (with_reducible refine (awake_any _).mono ?_); rintro e w6 ⟨rfl, hk6⟩))
    go_ret
    exact ⟨rfl, hk6⟩
  · rw [h2] at Hf
    clear h2
    have d1 : decide (40 < s) = true := by simp; omega
    have d2 : decide (s ≤ 65536) = false := by simp; omega
    go_enter Try.func7, Try.ntmps7
    go_wp2_with (first | (go_at_call 18; (with_reducible refine Hf.out.mono ?_); rintro e w3 ⟨rfl, rfl⟩) | (go_at_call 11; (with_reducible refine (awake_any _).mono ?_); rintro e w6 ⟨rfl, hk6⟩))
    go_ret
    exact ⟨rfl, hk6⟩

set_option maxHeartbeats 4000000 in
set_option maxRecDepth 100000 in
theorem walk_bad (s : Int) (l : List OpS) (v : Value) (G : List Nat) (W : World) (hv : OpsAt W v l G) (hl : l.length ≤ 9223372036854775807) (hg : ∀ o, o ∈ l → o.good W) (hf : fewB l = true) (h : s < 1 ∨ 65536 < s) :
    Calls Try.prog 7 #[.int .i64 s, v] W fun e w' => e = .returned (.bool true) ∧ Keeps [] W w' := by
  have Hf : Hid (Calls Try.prog 18 #[v] W fun e w'' => e = .returned (.bool (fewB l)) ∧ W = w'') := few_any l W v G hv W hl hg
  rw [hf] at Hf
  obtain ⟨ad, cap, rfl, _⟩ := hv
  have Hn := Lib.hid (new_no s W h)
  clear hg hf
  rcases h with h | h
  · have d1 : decide (40 < s) = false := by simp; omega
    have d3 : decide (s < 1) = true := by simpa using h
    go_enter Try.func7, Try.ntmps7
    go_wp2_with (first | (go_at_call 18; (with_reducible refine Hf.out.mono ?_); rintro e w3 ⟨rfl, rfl⟩) | (go_at_call 10; (with_reducible refine Hn.out.mono ?_); rintro e w3 ⟨rfl, rfl⟩) | (go_at_call 11; (with_reducible refine (awake_any _).mono ?_); rintro e w6 ⟨rfl, hk6⟩))
    go_ret
    exact ⟨rfl, hk6⟩
  · have d1 : decide (40 < s) = true := by simp; omega
    have d2 : decide (s ≤ 65536) = false := by simp; omega
    have d3 : decide (s < 1) = false := by simp; omega
    have d4 : decide (65536 < s) = true := by simpa using h
    go_enter Try.func7, Try.ntmps7
    go_wp2_with (first | (go_at_call 18; (with_reducible refine Hf.out.mono ?_); rintro e w3 ⟨rfl, rfl⟩) | (go_at_call 10; (with_reducible refine Hn.out.mono ?_); rintro e w3 ⟨rfl, rfl⟩) | (go_at_call 11; (with_reducible refine (awake_any _).mono ?_); rintro e w6 ⟨rfl, hk6⟩))
    go_ret
    exact ⟨rfl, hk6⟩

set_option maxHeartbeats 8000000 in
set_option maxRecDepth 100000 in
theorem walk_yes (S : Nat) (l : List OpS) (v : Value) (G : List Nat) (W : World) (hv : OpsAt W v l G) (hg : ∀ o, o ∈ l → o.good W) (hf : fewB l = true) (h1 : 1 ≤ S) (h2 : S ≤ 40) :
    Calls Try.prog 7 #[.int .i64 S, v] W fun e w' => e = .returned (.bool true) ∧ Keeps [] W w' := by
  obtain ⟨hsm, hlen⟩ := few_sound hf
  have Hf : Hid (Calls Try.prog 18 #[v] W fun e w'' => e = .returned (.bool (fewB l)) ∧ W = w'') := few_any l W v G hv W (by omega) hg
  rw [hf] at Hf
  have Hv : Hid (∀ w', Keeps [] W w' → OpsAt w' v l G) := fun w' k => hv.keep k (by simp)
  obtain ⟨ad, cap, rfl, hcs⟩ := hv
  have Hcs : Hid (l ≠ [] → ∃ b off, ad = some ⟨b, off, none⟩) := fun h => by obtain ⟨b, off, h1, _⟩ := hcs h; exact ⟨b, off, h1⟩
  have Hg := Lib.hid hg
  have Hsm := Lib.hid hsm
  have hl50 : (l.length : Int) ≤ 50 := by omega
  have d1 : decide (40 < (S : Int)) = false := by simp; omega
  have d3 : decide ((S : Int) < 1) = false := by simp; omega
  have d4 : decide (65536 < (S : Int)) = false := by simp; omega
  clear hg hsm hf hcs
  go_enter Try.func7, Try.ntmps7
  go_wp2_with (go_at_call 18; (with_reducible refine Hf.out.mono ?_); rintro e w3 ⟨rfl, rfl⟩)
  (with_reducible refine (hasNew S _ rfl _ h1 (by omega)).mono ?_)
  rintro e w1 ⟨b, F, rfl, ha1, k1, f1⟩
  go_wp2_with fail
  (with_reducible refine (refNew S _ rfl _ h1 (by omega)).mono ?_)
  rintro e w2 ⟨r, F2, rfl, hr2, k2, f2⟩
  have ha2 := ha1.kept k2
  have na2 := ((New.refl W).add k1 f1).step k2
  have nr2 := ((New.refl W).add k1 f1).add k2 f2
  have hdj : ∀ x, x ∈ F2 → x ∉ F := fun x hx hx' => by have := f2 x hx; have := ha1.lt x hx'; omega
  have hi : Inv (Dev.new S) := rfl
  generalize Dev.new S = D at *
  clear k1 k2 f1 f2 ha1
  go_wp2_with fail
  (with_reducible refine (same_any b r D F F2 0 _ ha2 hr2 hi (by omega)).mono ?_)
  rintro e w3 ⟨rfl, k3⟩
  have ha3 := ha2.kept k3
  have hr3 := hr2.kept k3
  have na3 := na2.step k3
  have nr3 := nr2.step k3
  have Hi := Lib.hid hi
  clear ha2 hr2 na2 nr2 k3 hi
  go_wp2
  obtain ⟨wo, rfl⟩ : ∃ wo : World, wo = W := ⟨_, rfl⟩
  go_loopw [8] (fun iv wr => ∃ (k : Nat) (d : Dev) (F1 F2 : List Nat), k ≤ l.length ∧ iv = .int .i64 k ∧ Has wr b d F1 (10 * k) ∧ Ref wr r d F2 (10 * k) ∧ New wo wr F1 ∧ New wo wr F2 ∧ (∀ x, x ∈ F2 → x ∉ F1) ∧ Hid (Inv d)) (fun iv _ => l.length - (intOf iv).toNat)
  case atStart => exact ⟨0, D, F, F2, Nat.zero_le _, rfl, ha3, hr3, na3, nr3, hdj, Hi.out⟩
  case round =>
    obtain ⟨k, d, F1, F2', hk, rfl, ha, hr, na, nr, hdj2, HI⟩ := hrel
    clear ha3 hr3 na3 nr3 hdj
    by_cases hlt : k < l.length
    · obtain ⟨o, ho⟩ : ∃ o, l[k]? = some o := ⟨l[k], by simp [hlt]⟩
      have hom := List.mem_of_getElem? ho
      have hgo := Hg.out o hom
      have hsz := Hsm.out o hom
      obtain ⟨bo, off, rfl⟩ := Hcs.out (by intro h0; rw [h0] at hlt; simp at hlt)
      obtain ⟨c0, c1, c2, c3, c4⟩ := (Hv.out _ na.keeps).cells _ _ _ _ ho rfl
      obtain ⟨ka, kc, hkv⟩ : ∃ ka kc, o.kv = .slice ka o.keep.length kc := by obtain ⟨_, ⟨ka, kc, h, _⟩, _⟩ := hgo.k0; exact ⟨ka, kc, by rw [h, List.length_map]⟩
      have hoa : o.agg = .agg #[.int .i64 o.ask, .int .i64 o.pos, .int .i64 o.n, .string o.data, .slice ka o.keep.length kc] := by unfold OpS.agg; rw [hkv]
      rw [hkv] at c4
      have hki : (k : Int) < (l.length : Int) := by omega
      have hki0 : (0 : Int) ≤ (k : Int) := by omega
      have hdo := does_any wo wr b d F1 (10 * k) na ha (by omega) o hgo hsz
      have hinv := inv_does HI.out o
      have has := fun w' (n' : New wo w' F2') (r' : Ref w' r d F2' (10 * k)) => asked_any wo w' r d F2' (10 * k) n' r' HI.out (by omega) o hgo hsz
      rw [hoa] at hdo has
      generalize d.does o = R at *
      obtain ⟨d', R1, R2⟩ := R
      dsimp only at hdo has hinv
      have Ho := Lib.hid ho
      have Hkv := Lib.hid hkv
      have Has := Lib.hid has
      have Hinv := Lib.hid hinv
      have Hr := Lib.hid hr
      have Na := Lib.hid na
      have Nr := Lib.hid nr
      have Hdj := Lib.hid hdj2
      clear ho hom hgo hsz hkv hoa has hinv hr na nr hdj2
      go_wp2_with fail
      (with_reducible refine hdo.mono ?_)
      rintro e w4 ⟨rfl, F4, ha4, ca4⟩
      have hr4 := Hr.out.apart ca4 Hdj.out
      have na4 := Na.out.chg ca4
      have nr4 := Nr.out.other Na.out ca4
      have hdj4 : ∀ x, x ∈ F4 → x ∉ F2' := fun x hx hx' => ca4.apart (fun k hk => Hr.out.lt k hk) Hdj.out x hx' hx
      have hask := Has.out w4 nr4 hr4
      obtain ⟨q0, q1, q2, q3, q4⟩ := (Hv.out _ na4.keeps).cells _ _ _ _ Ho.out rfl
      rw [Hkv.out] at q4
      clear hdo ca4 ha
      go_wp2_with fail
      (with_reducible refine hask.mono ?_)
      rintro e w5 ⟨rfl, F5, hr5, cr5⟩
      have ha5 := ha4.apart cr5 hdj4
      have na5 := na4.other nr4 cr5
      have nr5 := nr4.chg cr5
      have hdj5 : ∀ x, x ∈ F5 → x ∉ F4 := fun x hx hx' => cr5.apart (fun k hk => ha4.lt k hk) hdj4 x hx' hx
      have hsame := same_any b r d' F4 F5 (10 * k + 10) w5 ha5 hr5 Hinv.out (by omega)
      have Hdj5 := Lib.hid hdj5
      clear hask q0 q1 q2 q3 q4 c0 c1 c2 c3 c4 hr4 na4 nr4 hdj4 cr5 ha4 hdj5
      go_wp2_with ((with_reducible refine hsame.mono ?_); rintro e w6 ⟨rfl, k6⟩)
      go_roundw
      case rel => exact ⟨k + 1, d', F4, F5, by omega, by go_num, (ha5.kept k6).le (by omega), (hr5.kept k6).le (by omega), na5.step k6, nr5.step k6, Hdj5.out, Hinv.out⟩
      case measure => simp [intOf]; omega
    · have hend : (l.length : Int) ≤ (k : Int) := by omega
      have Kn := Lib.hid na.keeps
      clear ha hr na nr hdj2
      go_wp2_with (go_at_call 11; (with_reducible refine (awake_any _).mono ?_); rintro e w6 ⟨rfl, hk6⟩)
      go_ret
      exact ⟨rfl, KT Kn.out hk6⟩

theorem walk_any (s : Int) (l : List OpS) (v : Value) (G : List Nat) (W : World) (hv : OpsAt W v l G) (hl : l.length ≤ 9223372036854775807) (hg : ∀ o, o ∈ l → o.good W) :
    Calls Try.prog 7 #[.int .i64 s, v] W fun e w' => e = .returned (.bool true) ∧ Keeps [] W w' := by
  by_cases h1 : 40 < s ∧ s ≤ 65536
  · exact walk_no s l v G W hv hl hg (.inl h1)
  · cases hf : fewB l
    · exact walk_no s l v G W hv hl hg (.inr (by by_cases h2 : s ≤ 40; exact .inl ⟨h2, hf⟩; exact .inr ⟨by omega, hf⟩))
    · by_cases h2 : s < 1 ∨ 65536 < s
      · exact walk_bad s l v G W hv hl hg hf h2
      · obtain ⟨S, rfl⟩ : ∃ S : Nat, s = S := ⟨s.toNat, by omega⟩
        exact walk_yes S l v G W hv hg hf (by omega) (by omega)
-- ROWEND
set_option maxRecDepth 100000 in
theorem lifted (os : Os) (started : os.Started) (H : Type) (enc : TypeId × Value → H) :
    ReturnsInHanded {} Try.checked os 7 .any (Rows.ssdPlaysSpec.pre6 enc Try.prog Try.f7 Rows.ssdPlaysRow.domain false) (Rows.ssdPlaysSpec.post enc Try.prog Try.f7 false true false false) := by
  refine returnsInHanded_of_change (C := Try.checked) Try.own started (by kernel_rfl) Try.func7
    (ChangeSpec.witness6 (enc := enc) (C := Try.checked) false ⟨#[], #[.int .i64 0, .slice none 0 0], []⟩ 8 (by kernel_rfl) (by kernel_rfl) (by kernel_rfl) (by kernel_rfl)) ?_
  intro W base args ds gs before hval0 hW _ _
  have hval : ∀ (j : Nat) t v, Try.f7.params[j]? = some t → args[j]? = some v → Value.okWide Try.prog W .any base t v := hval0
  have hW' := hW
  obtain ⟨p, q, hA0, hV, rfl, hfz, hnd⟩ := hW
  have hA : DataW.TrodAll enc Try.prog W 0 (fun _ => true) true Try.f7.params.toList args.toList ds p := hA0
  rw [Try.params7] at hA hval
  obtain ⟨v0, vs0, d0, ds0, p0, q0, hargs, rfl, rfl, h0, r0⟩ := trodAll_cons hA
  obtain ⟨v1, vs1, d1, ds1, p1, q1, rfl, rfl, rfl, h1, r1⟩ := trodAll_cons r0
  obtain ⟨rfl, rfl, rfl⟩ := trodAll_nil r1
  obtain rfl : args = #[v0, v1] := by cases args; simp_all
  obtain ⟨s, rfl, rfl, rfl, ws⟩ := open_int Try.underlying3 (hval 0 3 v0 rfl rfl) h0
  obtain ⟨ws0, ws1⟩ := wf_i64 ws
  obtain ⟨l, Gl, hl, gl, bl, ll⟩ := open_rows OpS.vals (OpS.good W) 5 (by kernel_rfl) (by decide) Try.underlying38 (hval 1 38 v1 rfl rfl) (fun _ _ _ h => elem_op h) h1
  refine (walk_any s l v1 Gl W hl ll gl).mono fun e W' ⟨he, hk⟩ => ?_
  subst he
  exact ⟨_, rfl, law_end Try.laidOut (by kernel_rfl) rfl rfl Try.underlying4 hW' rfl hk⟩

theorem proved : Rows.SsdPlaysSaid :=
  OpenClaim.holds_of_wide 7 Try.f7 rfl rfl rfl rfl rfl rfl rfl ⟨rfl, rfl, rfl, rfl, rfl⟩ rfl rfl rfl rfl rfl (by kernel_rfl) Try.func7 (by kernel_rfl)
    (of_decide_eq_true (by kernel_rfl)) (by unfold Func.isWrapper; first | (rw [if_pos (by decide +kernel)]; kernel_rfl) | (rw [if_neg (by decide +kernel)]; exact ⟨rfl, rfl⟩))
    (fun os started H enc _ => lifted os started H enc)
end Go.Proofs.Ytddehagceenbnaa.lawSsdPlays
