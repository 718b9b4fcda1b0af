/- What was written ahead of a barrier is there behind each crash, and a sector is as it was lasting, as a pending write has it, or torn between: SsdLasts answers true at all inputs; without conditions. -/
import Derived.Test.YtddehagceenbnaaSsdQ
import Derived.Test.YtddehagceenbnaaSsdY
import Derived.Test.YtddehagceenbnaaOpenS
namespace Go.Proofs.Ytddehagceenbnaa.lawSsdLasts
open Go.ChangeShapes Go.WideShapes Go.ChangeAt Go.RowKit

set_option maxHeartbeats 4000000 in
set_option maxRecDepth 100000 in
theorem walk_no (f : UInt8) (al ak : Option Addr) (nl cl nk ck : Nat) (w : World) (h : 10 < (nl : Int) ∨ ((nl : Int) ≤ 10 ∧ 20 < (nk : Int))) :
    Calls Try.prog 3 #[.int .u8 f.toNat, .slice al nl cl, .slice ak nk ck] w fun e w' => e = .returned (.bool true) ∧ Keeps [] w w' := by
  rcases h with h | ⟨h1, h⟩
  all_goals
    go_enter Try.func3, Try.ntmps3
    go_wp2_with fail
    (with_reducible refine (hasNew 3 _ (by omega) _ (by omega) (by omega)).mono ?_)
    rintro e w1 ⟨b, F, rfl, h1, k1, f1⟩
    go_wp2_with (go_at_call 11; (with_reducible refine (awake_any _).mono ?_); rintro e w6 ⟨rfl, hk6⟩)
    go_ret
    exact ⟨rfl, k1.trans hk6 (by simp)⟩

theorem full_c (c : UInt8) (v : Int) (hv : v = c.toNat) (w : World) : Calls Try.prog 13 #[.int .u8 v] w fun e w' => e = .returned (.string (str (fullL c))) ∧ Keeps [] w w' := by subst hv; exact full_any c w

set_option maxHeartbeats 8000000 in
set_option maxRecDepth 100000 in
theorem walk_yes (f : UInt8) (l : List UInt8) (keep : List Int) (lv kv : Value) (G G2 : List Nat) (w : World) (hl : l.length ≤ 10) (hk : keep.length ≤ 20) (hlv : SlAt w lv (l.map u8v) G) (hkv : SlAt w kv (keep.map (Value.int .i64)) G2)
    (hG : ∀ k, k ∈ G → k < w.heap.size) (hG2 : ∀ k, k ∈ G2 → k < w.heap.size) :
    Calls Try.prog 3 #[.int .u8 f.toNat, lv, kv] w fun e w' => e = .returned (.bool true) ∧ Keeps [] w w' := by
  obtain ⟨s1, s2, s3⟩ := lasts_start f
  rw [List.append_assoc] at s1 s2
  have Fc := Lib.hid full_c
  have Hkv := Lib.hid hkv
  obtain ⟨al, cl, rfl, hlc⟩ := hlv
  obtain ⟨ak, ck, rfl, _⟩ := hkv
  simp only [List.length_map] at *
  have hl1 : (l.length : Int) ≤ 10 := by omega
  have hk1 : (keep.length : Int) ≤ 20 := by omega
  have Hlc := Lib.hid hlc
  have HG := Lib.hid hG
  have HG2 := Lib.hid hG2
  have x3 := fullL_len f
  have S1 := Lib.hid s1
  have S2 := Lib.hid s2
  have S3 := Lib.hid s3
  generalize hC : f.toNat = C at *
  have HC := Lib.hid hC
  clear hC hlc hG hG2 s1 s2 s3
  have Ff : Hid (∀ w, Calls Try.prog 13 #[.int .u8 C] w fun e w' => e = .returned (.string (str (fullL f))) ∧ Keeps [] w w') := fun w => full_c f C (by rw [HC.out]) w
  go_enter Try.func3, Try.ntmps3
  go_wp2_with fail
  (with_reducible refine (hasNew 3 _ (by omega) _ (by omega) (by omega)).mono ?_)
  rintro e w1 ⟨b, F, rfl, h1, k1, f1⟩
  have n1 := (New.refl w).add k1 f1
  go_wp2_with fail
  (with_reducible refine (Ff.out _).mono ?_)
  rintro e w2 ⟨rfl, k2⟩
  go_wp2_with fail
  (with_reducible refine (Ff.out _).mono ?_)
  rintro e w3 ⟨rfl, k3⟩
  go_wp2_with fail
  (with_reducible refine (Ff.out _).mono ?_)
  rintro e w4 ⟨rfl, k4⟩
  have h4 := ((h1.kept k2).kept k3).kept k4
  have n4 := ((n1.step k2).step k3).step k4
  clear h1 k1 f1 n1 k2 k3 k4
  go_wp2_with fail
  (with_reducible refine (hasWrite h4 (by omega) 0 (str (fullL f ++ (fullL f ++ fullL f))) (by rw [str_size]; simp only [List.length_append, fullL_len]; omega) (by omega)).mono ?_)
  rintro e w5 ⟨rfl, F5, h5, c5⟩
  have n5 := n4.chg c5
  have h5' := h5.le (B' := 1000) (by rw [str_size]; simp only [List.length_append, fullL_len]; omega)
  have hb5 := hasBarrier h5' (by omega)
  rw [str_data, S2.out] at hb5
  clear h4 n4 c5 h5 h5'
  go_wp2_with fail
  (with_reducible refine hb5.mono ?_)
  rintro e w6 ⟨rfl, F6, h6, c6⟩
  have n6 := n5.chg c6
  have hb6 := hasBarrier h6 (by omega)
  rw [S3.out] at hb6
  clear hb5 n5 c6 h6
  go_wp2_with fail
  (with_reducible refine hb6.mono ?_)
  rintro e w7 ⟨rfl, F7, h7, c7⟩
  have n7 := n6.chg c7
  clear hb6 n6 c7
  go_wp2
  go_loopw [9] (fun iv wr => ∃ (k : Nat) (F1 : List Nat), k ≤ l.length ∧ iv = .int .i64 k ∧ Has wr b (lastsD f (l.take k)) F1 1000 ∧ New w wr F1) (fun iv _ => l.length - (intOf iv).toNat)
  case atStart => exact ⟨0, F7, Nat.zero_le _, rfl, by simpa using h7, n7⟩
  case round =>
    obtain ⟨k, F1, hk2, rfl, hh, hn⟩ := hrel
    by_cases hlt : k < l.length
    · obtain ⟨c, hc⟩ : ∃ c, l[k]? = some c := ⟨l[k], by simp [hlt]⟩
      obtain ⟨kb, off, rfl, hkb, hcell⟩ := Hlc.out (by intro h0; rw [List.map_eq_nil_iff] at h0; rw [h0] at hlt; simp at hlt)
      have ck0 := hn.keeps.cell0 (hcell k (u8v c) (by rw [List.getElem?_map, hc]; rfl))
      unfold u8v at ck0
      have hst := lasts_step f (l.take k) c
      have htk : l.take k ++ [c] = l.take (k + 1) := by rw [List.take_add_one, hc]; rfl
      rw [htk] at hst
      have Hst := Lib.hid hst
      have Hcell := Lib.hid hcell
      have Hc := Lib.hid hc
      have hki : (k : Int) < (l.length : Int) := by omega
      have hki0 : (0 : Int) ≤ (k : Int) := by omega
      clear hst hcell hc htk h7 n7
      go_wp2_with (go_at_call 13; (with_reducible refine (Fc.out c _ rfl _).mono ?_); rintro e w8 ⟨rfl, k8⟩)
      have hw8 := hasWrite (hh.kept k8) (by omega) 1 (str (fullL c)) (by rw [str_size, fullL_len]; omega) (by omega)
      rw [str_data, Hst.out] at hw8
      have n8 := hn.step k8
      clear hh hn k8
      go_wp2_with ((with_reducible refine hw8.mono ?_); rintro e w9 ⟨rfl, F9, h9, c9⟩)
      go_roundw
      case rel => exact ⟨k + 1, F9, by omega, by go_num, ⟨h9.at', h9.ok, by simp [lastsD]; omega⟩, n8.chg c9⟩
      case measure => simp [intOf]; omega
    · obtain rfl : k = l.length := by omega
      rw [List.take_length] at hh
      clear h7 n7
      obtain ⟨S, H, T, p1, p2, p3, p4, p5, p6, p7, p8, p9, p10⟩ := lasts_plain f l keep
      have hp := pending_any b _ F1 _ hh.at'
      have hpl : (lastsD f l).pend.length = l.length := by simp [lastsD]
      rw [hpl] at hp
      have hcr := hasCrash hh (by omega) _ keep G2 ((Hkv.out).keep hn.keeps (by simp)) (fun k hk => Nat.lt_of_lt_of_le (HG2.out k hk) hn.keeps.size) (fun k hk hk' => by have := hn.fresh k hk'; have := HG2.out k hk; omega)
      generalize lastsD f l = D at *
      generalize hD1 : D.crash keep = D1 at *
      generalize hD2 : D1.crash [1, 1, 1] = D2 at *
      have HD2 := Lib.hid hD2
      have P1 := Lib.hid p1
      have P2 := Lib.hid p2
      have P6 := Lib.hid p6
      have P7 := Lib.hid p7
      have P8 := Lib.hid p8
      have P9 := Lib.hid p9
      have P10 := Lib.hid p10
      have y1 : (str S).extract 0 64 = str (fullL f) := by rw [str_extract, str_data, List.drop_zero, Nat.sub_zero, p4]
      have y2 : (str S).extract 128 192 = str (fullL f) := by rw [str_extract, str_data, p5, List.take_of_length_le (by rw [x3]; omega)]
      have y3 : (str S).extract 64 96 = str H := by rw [str_extract, str_data, p6]
      have y4 : (str S).extract 96 128 = str T := by rw [str_extract, str_data, p7]
      clear p1 p2 p4 p5 p6 p7 p8 p9 p10 hD1 hD2 hpl
      go_wp2_with fail
      (with_reducible refine hp.mono ?_)
      rintro e wp ⟨rfl, rfl⟩
      clear hp
      go_wp2_with fail
      (with_reducible refine hcr.mono ?_)
      rintro e wa ⟨rfl, Fa, ha, ca⟩
      have na := hn.chg ca
      have hra := hasRead ha 0 3 (by omega)
      rw [P1.out] at hra
      clear hcr ca hn hh
      go_wp2_with fail
      (with_reducible refine hra.mono ?_)
      rintro e wb ⟨rfl, kb⟩
      have hb := ha.kept kb
      have nb := na.step kb
      clear hra ha na kb
      go_wp2_with fail
      (with_reducible refine (hasCrash (hb.kept ((Keeps.refl [] _).alloc _)) (by omega) _ [1, 1, 1] [wb.heap.size] (SlAt.lit wb [.int .i64 1, .int .i64 1, .int .i64 1] _ 3 rfl) (one_lt (by simp)) (one_any (fun k hk => hb.lt k hk) (Nat.le_refl _))).mono ?_)
      rintro e wc ⟨rfl, Fc2, hc, cc⟩
      have nc := (nb.step ((Keeps.refl [] _).alloc _)).chg cc
      rw [HD2.out] at hc
      have hrc := hasRead hc 0 3 (by omega)
      rw [P2.out] at hrc
      clear hb nb cc
      go_wp2_with fail
      (with_reducible refine hrc.mono ?_)
      rintro e wd ⟨rfl, kd⟩
      have hd := hc.kept kd
      have nd := nc.step kd
      clear hrc hc nc kd
      go_wp2
      have Nd := Lib.hid nd.keeps
      have hp2 : Hid (∀ w', Keeps [] wd w' → Calls Try.prog 15 #[.pointer (some ⟨b, 0, none⟩)] w' fun e w'' => e = .returned (.int .i64 0) ∧ w' = w'') := fun w' k => by
        have h := pending_any b _ Fc2 _ (hd.kept k).at'
        rw [P10.out] at h
        exact h
      clear hd nd
      go_region_held3 (fun w' => Keeps [] wd w') (first | exact (Keeps.refl [] wd).drew | (exact Keeps.trans (by assumption) (by assumption) (by simp)))
        (first | (go_at_call 13; (with_reducible refine (Ff.out _).mono ?_); rintro e we ⟨rfl, ke⟩))
      have hKf : Keeps [] wd we := by assumption
      have Kf := Lib.hid hKf
      clear hKf
      have x5 := full_take f 32
      go_wp2_with (go_at_call 13; (with_reducible refine (Ff.out _).mono ?_); rintro e wg ⟨rfl, kg⟩)
      have hKg : Keeps [] wd wg := by exact KT (KT Kf.out (by assumption)) kg
      clear kg
      obtain ⟨wo, hwo⟩ : ∃ wo : World, wo = wg := ⟨_, rfl⟩
      rw [← hwo] at hKg ⊢
      clear hwo
      have Kg := Lib.hid hKg
      clear hKg
      go_loopw [16, 17, 18] (fun hv tv iv wr => ∃ (k : Nat) (B1 B2 : Bool), k ≤ l.length ∧ iv = .int .i64 k ∧ hv = .bool B1 ∧ tv = .bool B2 ∧ Hid ((∃ c, c ∈ f :: l.take k ∧ H = (fullL c).take 32) → B1 = true) ∧ Hid ((∃ c, c ∈ f :: l.take k ∧ T = (fullL c).take 32) → B2 = true) ∧ Keeps [] wd wr) (fun _ _ iv _ => l.length - (intOf iv).toNat)
      case atStart => exact ⟨0, _, _, Nat.zero_le _, rfl, rfl, rfl, fun ⟨c, hc, h⟩ => by simp at hc; subst hc; simp [h], fun ⟨c, hc, h⟩ => by simp at hc; subst hc; simp [h], Kg.out⟩
      case round =>
        obtain ⟨k, B1, B2, hk2, rfl, rfl, rfl, HB1, HB2, hkr⟩ := hrel
        by_cases hlt : k < l.length
        · obtain ⟨c, hc⟩ : ∃ c, l[k]? = some c := ⟨l[k], by simp [hlt]⟩
          obtain ⟨kb, off, rfl, hkb, hcell⟩ := Hlc.out (by intro h0; rw [List.map_eq_nil_iff] at h0; rw [h0] at hlt; simp at hlt)
          have ck0 := (KT Nd.out hkr).cell0 (hcell k (u8v c) (by rw [List.getElem?_map, hc]; rfl))
          unfold u8v at ck0
          have htk : l.take k ++ [c] = l.take (k + 1) := by rw [List.take_add_one, hc]; rfl
          have Hcell := Lib.hid hcell
          have Hc := Lib.hid hc
          have Htk := Lib.hid htk
          have hki : (k : Int) < (l.length : Int) := by omega
          have hki0 : (0 : Int) ≤ (k : Int) := by omega
          have x6 := full_take c 32
          have x7 := fullL_len c
          have x8 : ∀ w', Keeps [] wr w' → w'.cell? ⟨kb, off + k, none⟩ = some (.int .u8 c.toNat) := fun w' kk => kk.cell0 ck0
          have X8 := Lib.hid x8
          have step : ∀ (X : List UInt8) (B B' : Bool), ((∃ c, c ∈ f :: l.take k ∧ X = (fullL c).take 32) → B = true) → (B = true → B' = true) → (X = (fullL c).take 32 → B' = true) → ((∃ c, c ∈ f :: l.take (k + 1) ∧ X = (fullL c).take 32) → B' = true) := by
            intro X B B' h1 h2 h3 ⟨c', hc', hX⟩
            rw [← Htk.out] at hc'
            rcases List.mem_cons.1 hc' with h | h
            · exact h2 (h1 ⟨c', by simp [h], hX⟩)
            · rcases List.mem_append.1 h with h | h
              · exact h2 (h1 ⟨c', by simp [h], hX⟩)
              · simp at h; subst h; exact h3 hX
          have Step := Lib.hid step
          clear hcell hc htk x8 step
          cases B1 <;> cases B2
          all_goals
            go_wp2_with (go_at_call 13; (with_reducible refine (Fc.out c _ rfl _).mono ?_); rintro e w8 ⟨rfl, k8⟩; have ck1 := X8.out _ (by first | exact k8 | exact KT (by assumption) k8))
            go_roundw
            case rel => exact ⟨k + 1, _, _, by omega, by go_num, rfl, rfl, (by first | exact fun _ => rfl | exact Step.out _ _ _ HB1.out (by simp) (by simp)), (by first | exact fun _ => rfl | exact Step.out _ _ _ HB2.out (by simp) (by simp)), by first | exact hkr | exact KT hkr (by assumption) | exact KT (KT hkr (by assumption)) (by assumption)⟩
            case measure => simp [intOf]; omega
        · obtain rfl : k = l.length := by omega
          rw [List.take_length] at HB1 HB2
          have e1 := HB1.out P8.out
          have e2 := HB2.out P9.out
          subst e1 e2
          go_wp2_with (first | (go_at_call 15; (with_reducible refine (hp2.out _ hkr).mono ?_); rintro e wq ⟨rfl, rfl⟩) | (go_at_call 11; (with_reducible refine (awake_any _).mono ?_); rintro e wz ⟨rfl, hkz⟩))
          go_ret
          exact ⟨rfl, KT (KT Nd.out hkr) hkz⟩

theorem walk_any (v : Int) (hv0 : 0 ≤ v) (hv1 : v ≤ 255) (l : List UInt8) (keep : List Int) (lv kv : Value) (G G2 : List Nat) (w : World) (hlv : SlAt w lv (l.map u8v) G) (hkv : SlAt w kv (keep.map (Value.int .i64)) G2)
    (hG : ∀ k, k ∈ G → k < w.heap.size) (hG2 : ∀ k, k ∈ G2 → k < w.heap.size) :
    Calls Try.prog 3 #[.int .u8 v, lv, kv] w fun e w' => e = .returned (.bool true) ∧ Keeps [] w w' := by
  have e : v = ((UInt8.ofNat v.toNat).toNat : Int) := by simp only [UInt8.toNat_ofNat']; omega
  rw [e]
  by_cases h1 : l.length ≤ 10
  · by_cases h2 : keep.length ≤ 20
    · exact walk_yes _ l keep lv kv G G2 w h1 h2 hlv hkv hG hG2
    · obtain ⟨al, cl, rfl, _⟩ := hlv
      obtain ⟨ak, ck, rfl, _⟩ := hkv
      simp only [List.length_map]
      exact walk_no _ al ak l.length cl keep.length ck w (.inr ⟨by omega, by omega⟩)
  · obtain ⟨al, cl, rfl, _⟩ := hlv
    obtain ⟨ak, ck, rfl, _⟩ := hkv
    simp only [List.length_map]
    exact walk_no _ al ak l.length cl keep.length ck w (.inl (by omega))
-- ROWEND
set_option maxRecDepth 100000 in
theorem lifted (os : Os) (started : os.Started) (H : Type) (enc : TypeId × Value → H) :
    ReturnsInHanded {} Try.checked os 3 .any (Rows.ssdLastsSpec.pre6 enc Try.prog Try.f3 Rows.ssdLastsRow.domain false) (Rows.ssdLastsSpec.post enc Try.prog Try.f3 false true false false) := by
  refine returnsInHanded_of_change (C := Try.checked) Try.own started (by kernel_rfl) Try.func3
    (ChangeSpec.witness6 (enc := enc) (C := Try.checked) false ⟨#[], #[.int .u8 0, .slice none 0 0, .slice none 0 0], []⟩ 8 (by kernel_rfl) (by kernel_rfl) (by kernel_rfl) (by kernel_rfl)) ?_
  intro W base args ds gs before hval0 hW _ _
  have hval : ∀ (j : Nat) t v, Try.f3.params[j]? = some t → args[j]? = some v → Value.okWide Try.prog W .any base t v := hval0
  have hW' := hW
  obtain ⟨p, q, hA0, hV, rfl, hfz, hnd⟩ := hW
  have hA : DataW.TrodAll enc Try.prog W 0 (fun _ => true) true Try.f3.params.toList args.toList ds p := hA0
  rw [Try.params3] at hA hval
  obtain ⟨v0, vs0, d0, ds0, p0, q0, hargs, rfl, rfl, h0, r0⟩ := trodAll_cons hA
  obtain ⟨v1, vs1, d1, ds1, p1, q1, rfl, rfl, rfl, h1, r1⟩ := trodAll_cons r0
  obtain ⟨v2, vs2, d2, ds2, p2, q2, rfl, rfl, rfl, h2, r2⟩ := trodAll_cons r1
  obtain ⟨rfl, rfl, rfl⟩ := trodAll_nil r2
  obtain rfl : args = #[v0, v1, v2] := by cases args; simp_all
  obtain ⟨f, rfl, rfl, rfl, wf⟩ := open_int Try.underlying5 (hval 0 5 v0 rfl rfl) h0
  obtain ⟨wf0, wf1⟩ := wf_u8 wf
  obtain ⟨l, Gl, hl, gl, bl, ll⟩ := open_rows (fun c : UInt8 => [u8v c]) (fun _ => True) 1 (by kernel_rfl) (by decide) Try.underlying22 (hval 1 22 v1 rfl rfl) (fun _ _ _ h => elem_u8 Try.underlying5 h) h1
  obtain ⟨keep, Gkeep, hkeep, gkeep, bkeep, lkeep⟩ := open_rows (fun a : Int => [.int .i64 a]) (fun a => -9223372036854775808 ≤ a ∧ a ≤ 9223372036854775807) 1 (by kernel_rfl) (by decide) Try.underlying23 (hval 2 23 v2 rfl rfl) (fun _ _ _ h => elem_int Try.underlying3 h) h2
  refine (walk_any f wf0 wf1 l keep v1 v2 Gl Gkeep W hl.slAt hkeep.slAt bl bkeep).mono fun e W' ⟨he, hk⟩ => ?_
  subst he
  exact ⟨_, rfl, law_end Try.laidOut (by kernel_rfl) rfl rfl Try.underlying4 hW' rfl hk⟩

theorem proved : Rows.SsdLastsSaid :=
  OpenClaim.holds_of_wide 3 Try.f3 rfl rfl rfl rfl rfl rfl rfl ⟨rfl, rfl, rfl, rfl, rfl⟩ rfl rfl rfl rfl rfl (by kernel_rfl) Try.func3 (by kernel_rfl)
    (of_decide_eq_true (by kernel_rfl)) (by unfold Func.isWrapper; first | (rw [if_pos (by decide +kernel)]; kernel_rfl) | (rw [if_neg (by decide +kernel)]; exact ⟨rfl, rfl⟩))
    (fun os started H enc _ => lifted os started H enc)
end Go.Proofs.Ytddehagceenbnaa.lawSsdLasts
