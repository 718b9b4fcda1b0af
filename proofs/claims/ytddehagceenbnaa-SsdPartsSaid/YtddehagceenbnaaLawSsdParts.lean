/- Sectors that are read, or written, in parts are those that are read, or written, at once: SsdParts answers true at all inputs; without conditions. -/
import Derived.Test.YtddehagceenbnaaSsdQ
import Derived.Test.YtddehagceenbnaaSsdX
import Derived.Test.YtddehagceenbnaaOpen
namespace Go.Proofs.Ytddehagceenbnaa.lawSsdParts
open Go.ChangeShapes Go.WideShapes Go.ChangeAt Go.RowKit
open Go.ChangeMaps (open_string)

set_option maxHeartbeats 4000000 in
set_option maxRecDepth 100000 in
theorem walk_no (s : ByteArray) (a c : Int) (w : World) (N : Nat) (hdv : (s.size : Int) / 64 = (N : Int)) (hN : (N : Int) ≤ 144115188075855872)
    (h : (((s.size : Int) % 64) != 0) = true ∨ ((((s.size : Int) % 64) != 0) = false ∧ (10 < (N : Int) ∨ ((N : Int) ≤ 10 ∧ (a < 0 ∨ (0 ≤ a ∧ (10 < a ∨ (a ≤ 10 ∧ (c < 0 ∨ (0 ≤ c ∧ (N : Int) < c)))))))))) :
    Calls Try.prog 4 #[.string s, .int .i64 a, .int .i64 c] w fun e w' => e = .returned (.bool true) ∧ Keeps [] w w' := by
  rcases h with h | ⟨h1, h | ⟨h2, h | ⟨h3, h | ⟨h4, h | ⟨h5, h⟩⟩⟩⟩⟩
  all_goals
    go_enter Try.func4, Try.ntmps4
    go_wp2_with fail
    (with_reducible refine (hasNew 20 _ (by omega) _ (by omega) (by omega)).mono ?_)
    rintro e w1 ⟨b, F, rfl, h1, k1, f1⟩
    go_wp2_with fail
    (with_reducible refine (hasNew 20 _ (by omega) _ (by omega) (by omega)).mono ?_)
    rintro e w2 ⟨b2, F2, rfl, h2, k2, f2⟩
    go_wp2_with (go_at_call 11; (with_reducible refine (awake_any _).mono ?_); rintro e w6 ⟨rfl, hk6⟩)
    go_ret
    exact ⟨rfl, (k1.trans k2 (by simp)).trans hk6 (by simp)⟩

set_option maxHeartbeats 4000000 in
set_option maxRecDepth 100000 in
theorem walk_yes (s : ByteArray) (A C N : Nat) (w : World) (hs : s.size = 64 * N) (h2 : N ≤ 10) (h3 : A ≤ 10) (h4 : C ≤ N) :
    Calls Try.prog 4 #[.string s, .int .i64 A, .int .i64 C] w fun e w' => e = .returned (.bool true) ∧ Keeps [] w w' := by
  obtain ⟨DA, DB1, DB2, X, q1, q2, q3, q4, q5, q6, q7, q8, q9, q10, q11⟩ := parts_plain s.data.toList A C N (by rw [dlen]; exact hs) h2 h3 h4
  have hx1 : s.extract 0 (64 * C) = str (s.data.toList.take (64 * C)) := by rw [str_extract, List.drop_zero, Nat.sub_zero]
  have hx2 : s.extract (64 * C) s.size = str (s.data.toList.drop (64 * C)) := by rw [str_extract, List.take_of_length_le (by rw [List.length_drop, dlen]; omega)]
  have hx3 : (str X).extract (64 * A) (64 * (A + N)) = s := by rw [str_extract, str_data, show 64 * (A + N) - 64 * A = 64 * N by omega, q9, str_self]
  have hx4 : str (X.take (64 * (A + C))) ++ str (X.drop (64 * (A + C))) = str X := by rw [str_append, List.take_append_drop]
  have hlen : (X.take (64 * (A + C))).length + (X.drop (64 * (A + C))).length ≤ 1280 := by rw [List.length_take, List.length_drop]; omega
  generalize X.take (64 * (A + C)) = T1 at *
  generalize X.drop (64 * (A + C)) = T2 at *
  have hcat : ¬ (9223372036854775807 < T1.length + T2.length) := by omega
  have ht1 : (64 * (A : Int)).toNat = 64 * A := by omega
  have ht2 : (64 * ((A : Int) + (N : Int))).toNat = 64 * (A + N) := by omega
  have hsz : (s.size : Int) = 64 * (N : Int) := by omega
  have hm : (64 * (N : Int)) % 64 = 0 := by omega
  have hd : (64 * (N : Int)) / 64 = (N : Int) := by omega
  have b1 : (N : Int) ≤ 10 := by omega
  have b2 : (A : Int) ≤ 10 := by omega
  have b3 : (0 : Int) ≤ (A : Int) := by omega
  have b4 : (0 : Int) ≤ (C : Int) := by omega
  have b5 : (C : Int) ≤ (N : Int) := by omega
  have W1 : Hid (∀ b F w, Has w b (Dev.new 20) F 0 → Calls Try.prog 12 #[.pointer (some ⟨b, 0, none⟩), .int .i64 A, .string s] w fun e w' => e = .returned (.int .i64 0) ∧ ∃ F', Has w' b DA F' 1000 ∧ Chg F F' w w') := fun b F w h =>
    (hasWrite h (by omega) A s (by omega) (by omega)).mono fun _ _ ⟨he, F', hh, hc⟩ => ⟨by rw [he, q1], F', by rw [q1] at hh; exact hh.le (by omega), hc⟩
  have W2 : Hid (∀ b F w, Has w b (Dev.new 20) F 0 → Calls Try.prog 12 #[.pointer (some ⟨b, 0, none⟩), .int .i64 A, .string (str (s.data.toList.take (64 * C)))] w fun e w' => e = .returned (.int .i64 0) ∧ ∃ F', Has w' b DB1 F' 1000 ∧ Chg F F' w w') := fun b F w h =>
    (hasWrite h (by omega) A (str (s.data.toList.take (64 * C))) (by rw [str_size, List.length_take]; omega) (by omega)).mono fun _ _ ⟨he, F', hh, hc⟩ => ⟨by rw [he, str_data, q2], F', by rw [str_data, q2] at hh; exact hh.le (by rw [str_size, List.length_take]; omega), hc⟩
  have W3 : Hid (∀ b F w, Has w b DB1 F 1000 → Calls Try.prog 12 #[.pointer (some ⟨b, 0, none⟩), .int .i64 ((A : Int) + (C : Int)), .string (str (s.data.toList.drop (64 * C)))] w fun e w' => e = .returned (.int .i64 0) ∧ ∃ F', Has w' b DB2 F' 2000 ∧ Chg F F' w w') := fun b F w h => by
    have e : ((A : Int) + (C : Int)) = ((A + C : Nat) : Int) := by omega
    rw [e]
    exact (hasWrite h (by omega) ((A + C : Nat) : Int) (str (s.data.toList.drop (64 * C))) (by rw [str_size, List.length_drop, dlen]; omega) (by omega)).mono fun _ _ ⟨he, F', hh, hc⟩ => ⟨by rw [he, str_data, q3], F', by rw [str_data, q3] at hh; exact hh.le (by rw [str_size, List.length_drop, dlen]; omega), hc⟩
  have R1 : Hid (∀ b F w, Has w b DA F 1000 → Calls Try.prog 17 #[.pointer (some ⟨b, 0, none⟩), .int .i64 0, .int .i64 20] w fun e w' => e = .returned (.tuple #[.string (str X), .int .i64 0]) ∧ Keeps [] w w') := fun b F w h =>
    (hasRead h 0 20 (by omega)).mono fun _ _ ⟨he, hk⟩ => ⟨by rw [he, q4], hk⟩
  have R2 : Hid (∀ b F w, Has w b DB2 F 2000 → Calls Try.prog 17 #[.pointer (some ⟨b, 0, none⟩), .int .i64 0, .int .i64 20] w fun e w' => e = .returned (.tuple #[.string (str X), .int .i64 0]) ∧ Keeps [] w w') := fun b F w h =>
    (hasRead h 0 20 (by omega)).mono fun _ _ ⟨he, hk⟩ => ⟨by rw [he, q5], hk⟩
  have R3 : Hid (∀ b F w, Has w b DA F 1000 → Calls Try.prog 17 #[.pointer (some ⟨b, 0, none⟩), .int .i64 0, .int .i64 ((A : Int) + (C : Int))] w fun e w' => e = .returned (.tuple #[.string (str T1), .int .i64 0]) ∧ Keeps [] w w') := fun b F w h => by
    have e : ((A : Int) + (C : Int)) = ((A + C : Nat) : Int) := by omega
    rw [e]
    exact (hasRead h 0 ((A + C : Nat) : Int) (by omega)).mono fun _ _ ⟨he, hk⟩ => ⟨by rw [he, q6], hk⟩
  have R4 : Hid (∀ b F w, Has w b DA F 1000 → Calls Try.prog 17 #[.pointer (some ⟨b, 0, none⟩), .int .i64 ((A : Int) + (C : Int)), .int .i64 (20 - (A : Int) - (C : Int))] w fun e w' => e = .returned (.tuple #[.string (str T2), .int .i64 0]) ∧ Keeps [] w w') := fun b F w h => by
    have e : ((A : Int) + (C : Int)) = ((A + C : Nat) : Int) := by omega
    have e2 : (20 - (A : Int) - (C : Int)) = ((20 - A - C : Nat) : Int) := by omega
    rw [e, e2]
    exact (hasRead h ((A + C : Nat) : Int) ((20 - A - C : Nat) : Int) (by omega)).mono fun _ _ ⟨he, hk⟩ => ⟨by rw [he, q7], hk⟩
  have P1 : Hid (∀ b F w, Has w b DA F 1000 → Calls Try.prog 15 #[.pointer (some ⟨b, 0, none⟩)] w fun e w' => e = .returned (.int .i64 N) ∧ w = w') := fun b F w h => by rw [← q10]; exact pending_any b DA F w h.at'
  have P2 : Hid (∀ b F w, Has w b DB2 F 2000 → Calls Try.prog 15 #[.pointer (some ⟨b, 0, none⟩)] w fun e w' => e = .returned (.int .i64 N) ∧ w = w') := fun b F w h => by rw [← q11]; exact pending_any b DB2 F w h.at'
  clear q1 q2 q3 q4 q5 q6 q7 q9 q10 q11 hs
  go_enter Try.func4, Try.ntmps4
  go_wp2_with fail
  (with_reducible refine (hasNew 20 _ (by omega) _ (by omega) (by omega)).mono ?_)
  rintro e w1 ⟨ba, Fa, rfl, ha1, k1, f1⟩
  go_wp2_with fail
  (with_reducible refine (hasNew 20 _ (by omega) _ (by omega) (by omega)).mono ?_)
  rintro e w2 ⟨bb, Fb, rfl, hb2, k2, f2⟩
  have ha2 := ha1.kept k2
  have na2 := ((New.refl w).add k1 f1).step k2
  have nb2 := (((New.refl w).add k1 f1).step (Keeps.refl _ _)).add k2 f2
  have hdj : ∀ x, x ∈ Fb → x ∉ Fa := fun x hx hx' => by have := f2 x hx; have := ha1.lt x hx'; omega
  clear k1 k2 f1 f2 ha1
  go_wp2_with fail
  (with_reducible refine (W1.out _ _ _ ha2).mono ?_)
  rintro e w3 ⟨rfl, Fa3, ha3, ca3⟩
  have hb3 := hb2.apart ca3 hdj
  have na3 := na2.chg ca3
  have nb3 := nb2.other na2 ca3
  have hdj3 : ∀ x, x ∈ Fa3 → x ∉ Fb := fun x hx hx' => ca3.apart (fun k hk => hb2.lt k hk) hdj x hx' hx
  clear ca3 na2 nb2 ha2 hb2 hdj
  go_wp2_with fail
  (with_reducible refine (W2.out _ _ _ hb3).mono ?_)
  rintro e w4 ⟨rfl, Fb4, hb4, cb4⟩
  have ha4 := ha3.apart cb4 hdj3
  have nb4 := nb3.chg cb4
  have hdj4 : ∀ x, x ∈ Fb4 → x ∉ Fa3 := fun x hx hx' => cb4.apart (fun k hk => ha3.lt k hk) hdj3 x hx' hx
  clear cb4 na3 nb3 ha3 hb3 hdj3
  go_wp2_with fail
  (with_reducible refine (W3.out _ _ _ hb4).mono ?_)
  rintro e w5 ⟨rfl, Fb5, hb5, cb5⟩
  have ha5 := ha4.apart cb5 (fun x hx hx' => hdj4 x hx' hx)
  have nb5 := (nb4.chg cb5).keeps
  clear cb5 nb4 ha4 hb4 hdj4
  go_wp2_with fail
  (with_reducible refine (R1.out _ _ _ ha5).mono ?_)
  rintro e w6 ⟨rfl, k6⟩
  go_wp2_with fail
  (with_reducible refine (R2.out _ _ _ (hb5.kept k6)).mono ?_)
  rintro e w7 ⟨rfl, k7⟩
  have ha7 := (ha5.kept k6).kept k7
  have hb7 := (hb5.kept k6).kept k7
  have nk7 := KT (KT nb5 k6) k7
  clear k6 k7 nb5 ha5 hb5
  go_wp2_with fail
  (with_reducible refine (R3.out _ _ _ ha7).mono ?_)
  rintro e w8 ⟨rfl, k8⟩
  go_wp2_with fail
  (with_reducible refine (R4.out _ _ _ (ha7.kept k8)).mono ?_)
  rintro e w9 ⟨rfl, k9⟩
  have ha9 := (ha7.kept k8).kept k9
  have hb9 := (hb7.kept k8).kept k9
  have Nk9 := Lib.hid (KT (KT nk7 k8) k9)
  clear k8 k9 nk7 ha7 hb7
  go_wp2_with (first | (go_at_call 15; (with_reducible refine (P1.out _ _ _ ha9).mono ?_); rintro e wp ⟨rfl, rfl⟩) | (go_at_call 15; (with_reducible refine (P2.out _ _ _ hb9).mono ?_); rintro e wp ⟨rfl, rfl⟩) | (go_at_call 11; (with_reducible refine (awake_any _).mono ?_); rintro e wz ⟨rfl, hkz⟩))
  go_ret
  exact ⟨rfl, Nk9.out.trans hkz (by simp)⟩

theorem walk_any (s : ByteArray) (a c : Int) (w : World) (hs : s.size ≤ 9223372036854775807) :
    Calls Try.prog 4 #[.string s, .int .i64 a, .int .i64 c] w fun e w' => e = .returned (.bool true) ∧ Keeps [] w w' := by
  by_cases h : s.size % 64 = 0 ∧ s.size / 64 ≤ 10 ∧ 0 ≤ a ∧ a ≤ 10 ∧ 0 ≤ c ∧ c ≤ ((s.size / 64 : Nat) : Int)
  · obtain ⟨h1, h2, h3, h4, h5, h6⟩ := h
    obtain ⟨A, rfl⟩ : ∃ A : Nat, a = A := ⟨a.toNat, by omega⟩
    obtain ⟨C, rfl⟩ : ∃ C : Nat, c = C := ⟨c.toNat, by omega⟩
    exact walk_yes s A C (s.size / 64) w (by omega) h2 (by omega) (by omega)
  · refine walk_no s a c w (s.size / 64) (by omega) (by omega) ?_
    have e1 : ((((s.size : Int) % 64) != 0) = true) ↔ ¬ (s.size % 64 = 0) := by rw [bne_iff_ne]; omega
    have e2 : ((((s.size : Int) % 64) != 0) = false) ↔ s.size % 64 = 0 := by rw [bne_eq_false_iff_eq]; omega
    rw [e1, e2]
    omega
-- ROWEND
set_option maxRecDepth 100000 in
theorem lifted (os : Os) (started : os.Started) (H : Type) (enc : TypeId × Value → H) :
    ReturnsInHanded {} Try.checked os 4 .any (Rows.ssdPartsSpec.pre6 enc Try.prog Try.f4 Rows.ssdPartsRow.domain false) (Rows.ssdPartsSpec.post enc Try.prog Try.f4 false true false false) := by
  refine returnsInHanded_of_change (C := Try.checked) Try.own started (by kernel_rfl) Try.func4
    (ChangeSpec.witness6 (enc := enc) (C := Try.checked) false ⟨#[], #[.string .empty, .int .i64 0, .int .i64 0], []⟩ 8 (by kernel_rfl) (by kernel_rfl) (by kernel_rfl) (by kernel_rfl)) ?_
  intro W base args ds gs before hval0 hW _ _
  have hval : ∀ (j : Nat) t v, Try.f4.params[j]? = some t → args[j]? = some v → Value.okWide Try.prog W .any base t v := hval0
  have hW' := hW
  obtain ⟨p, q, hA0, hV, rfl, hfz, hnd⟩ := hW
  have hA : DataW.TrodAll enc Try.prog W 0 (fun _ => true) true Try.f4.params.toList args.toList ds p := hA0
  rw [Try.params4] at hA hval
  obtain ⟨v0, vs0, d0, ds0, p0, q0, hargs, rfl, rfl, h0, r0⟩ := trodAll_cons hA
  obtain ⟨v1, vs1, d1, ds1, p1, q1, rfl, rfl, rfl, h1, r1⟩ := trodAll_cons r0
  obtain ⟨v2, vs2, d2, ds2, p2, q2, rfl, rfl, rfl, h2, r2⟩ := trodAll_cons r1
  obtain ⟨rfl, rfl, rfl⟩ := trodAll_nil r2
  obtain rfl : args = #[v0, v1, v2] := by cases args; simp_all
  obtain ⟨s, rfl, rfl, rfl, ws⟩ := open_string Try.underlying9 (hval 0 9 v0 rfl rfl) h0
  unfold maxLen at ws
  obtain ⟨a, rfl, rfl, rfl, wa⟩ := open_int Try.underlying3 (hval 1 3 v1 rfl rfl) h1
  obtain ⟨wa0, wa1⟩ := wf_i64 wa
  obtain ⟨c, rfl, rfl, rfl, wc⟩ := open_int Try.underlying3 (hval 2 3 v2 rfl rfl) h2
  obtain ⟨wc0, wc1⟩ := wf_i64 wc
  refine (walk_any s a c W ws).mono fun e W' ⟨he, hk⟩ => ?_
  subst he
  exact ⟨_, rfl, law_end Try.laidOut (by kernel_rfl) rfl rfl Try.underlying4 hW' rfl hk⟩

theorem proved : Rows.SsdPartsSaid :=
  OpenClaim.holds_of_wide 4 Try.f4 rfl rfl rfl rfl rfl rfl rfl ⟨rfl, rfl, rfl, rfl, rfl⟩ rfl rfl rfl rfl rfl (by kernel_rfl) Try.func4 (by kernel_rfl)
    (of_decide_eq_true (by kernel_rfl)) (by unfold Func.isWrapper; first | (rw [if_pos (by decide +kernel)]; kernel_rfl) | (rw [if_neg (by decide +kernel)]; exact ⟨rfl, rfl⟩))
    (fun os started H enc _ => lifted os started H enc)
end Go.Proofs.Ytddehagceenbnaa.lawSsdParts
