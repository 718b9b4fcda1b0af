/- lighterlaw05.BucketPlays, whatever its input: true, and the input reads as it did. What each call answers, and which objects there are, call by call, whatever the fates. Conditions: the tied card's. -/
import Derived.Test.YtflgagglkkehiaaDoorBlC
import Derived.Test.YtflgagglkkehiaaDoorBkX
import Derived.Deep.RegionHeld3
import Derived.Test.YtflgagglkkehiaaDoorCards
import Derived.Test.YtflgagglkkehiaaDoorTie
import Derived.SevenTiedAt
namespace Go.Proofs.YtflgagglkkehiaaDoor.lawBucketPlays
open Go.ChangeShapes Go.WideShapes Go.ChangeAt Go.RowKit

set_option maxHeartbeats 4000000 in
set_option maxRecDepth 100000 in
theorem walk_out (l : List OpR) (v : Value) (G : List Nat) (q : Int) (w : World) (hv : SlRows w v OpR.vals 6 l G) (hg : ∀ o, o ∈ l → o.good w) (hl : l.length ≤ 9223372036854775807) (h : ¬ (0 ≤ q ∧ few l = true)) :
    Calls Tryd.prog 8 #[.int .i64 q, v] w fun e w' => e = .returned (.bool true) ∧ Keeps [] w w' := by
  have Aw := Lib.hid awake_any
  have Fe := Lib.hid (few_any l v G w hv hg hl)
  clear hv hg
  by_cases h1 : few l = true
  · rw [h1] at Fe
    have h0 : q < 0 := by
      by_cases h2 : q < 0
      · exact h2
      · exact absurd ⟨by omega, h1⟩ h
    have Nn := Lib.hid (fun w' => new_neg q w' h0)
    clear h h1
    go_enter Tryd.func8, Tryd.ntmps8
    go_wp2_with (first
      | (go_at_call 20; (with_reducible refine (Fe.out).mono ?_); rintro e w2 ⟨rfl, k2⟩)
      | (go_at_call 11; (with_reducible refine (Nn.out _).mono ?_); rintro e w1 ⟨rfl, rfl⟩)
      | (go_at_call 12; (with_reducible refine (Aw.out _).mono ?_); rintro e w9 ⟨rfl, k9⟩))
    go_ret
    exact ⟨rfl, k2.trans k9 (by simp)⟩
  · rw [Bool.eq_false_iff.2 h1] at Fe
    clear h h1
    go_enter Tryd.func8, Tryd.ntmps8
    go_wp2_with (first
      | (go_at_call 20; (with_reducible refine (Fe.out).mono ?_); rintro e w2 ⟨rfl, k2⟩)
      | (go_at_call 12; (with_reducible refine (Aw.out _).mono ?_); rintro e w9 ⟨rfl, k9⟩))
    go_ret
    exact ⟨rfl, k2.trans k9 (by simp)⟩

set_option maxHeartbeats 16000000 in
set_option maxRecDepth 100000 in
theorem walk (l : List OpR) (v : Value) (G : List Nat) (q : Nat) (w : World) (hv : SlRows w v OpR.vals 6 l G) (hg : ∀ o, o ∈ l → o.good w) (hfew : few l = true) (hq : q ≤ 9223372036854775807) :
    Calls Tryd.prog 8 #[.int .i64 q, v] w fun e w' => e = .returned (.bool true) ∧ Keeps [] w w' := by
  obtain ⟨hl60, hsp⟩ := few_spec hfew
  have Aw := Lib.hid awake_any
  have Fe := Lib.hid (few_any l v G w hv hg (by omega))
  rw [hfew] at Fe
  have N := Lib.hid (fun w' (k : Keeps [] w w') => m_new (w0 := w) (w := w') q hq k)
  have Hrk := Lib.hid (fun k => runA_ok (l.take k) (newB q) 0 (newB_ok q hq 0) (fun o ho => ⟨(hsp o (List.mem_of_mem_take ho)).2.2, (hg o (List.mem_of_mem_take ho)).L⟩))
  have Hv := Lib.hid hv
  have Hg := Lib.hid hg
  have Hsp := Lib.hid hsp
  obtain ⟨ad, cap, rfl, _⟩ := hv
  have hq0 : ¬ ((q : Int) < 0) := by omega
  clear hg hfew hsp
  go_enter Tryd.func8, Tryd.ntmps8
  go_wp2_with (first
    | (go_at_call 20; (with_reducible refine (Fe.out).mono ?_); rintro e w2 ⟨rfl, k2⟩)
    | (go_at_call 11; (with_reducible refine (N.out _ k2).mono ?_); rintro e w1 ⟨p, rfl, m1⟩))
  obtain ⟨F0, hb0, hF0, kw1⟩ := m1
  have hr0 := ref_new w1 q
  have kal : Keeps [] w1 (w1.alloc (.cells #[.slice none 0 0, .int .i64 q, .slice none 0 0, .slice none 0 0] 58)) := (Keeps.refl [] w1).alloc _
  have start : ∃ F1 F2 : List Nat, BkAt (w1.alloc (.cells #[.slice none 0 0, .int .i64 q, .slice none 0 0, .slice none 0 0] 58)) p (runA (newB q) (l.take 0)) F1 ∧ RfAt (w1.alloc (.cells #[.slice none 0 0, .int .i64 q, .slice none 0 0, .slice none 0 0] 58)) w1.heap.size (runA (newB q) (l.take 0)) F2 ∧ (∀ x, x ∈ F1 → w.heap.size ≤ x) ∧ (∀ x, x ∈ F2 → w.heap.size ≤ x) ∧ (∀ x, x ∈ F2 → x ∉ F1) ∧ Keeps [] w (w1.alloc (.cells #[.slice none 0 0, .int .i64 q, .slice none 0 0, .slice none 0 0] 58)) :=
    ⟨F0, [w1.heap.size], hb0.newer kal, hr0, hF0, (fun x hx => by rw [List.mem_singleton] at hx; have := kw1.size; omega), (fun x hx h => by rw [List.mem_singleton] at hx; have := hb0.lt x h; omega), kw1.trans kal (by simp)⟩
  have Start := Lib.hid start
  clear start kal hr0 hb0 hF0 kw1 k2
  generalize w1.alloc (.cells #[.slice none 0 0, .int .i64 q, .slice none 0 0, .slice none 0 0] 58) = w3 at *
  generalize w1.heap.size = r at *
  go_loopw [8] (fun iv wr => ∃ (k : Nat) (F1 F2 : List Nat), k ≤ l.length ∧ iv = .int .i64 k ∧ BkAt wr p (runA (newB q) (l.take k)) F1 ∧ RfAt wr r (runA (newB q) (l.take k)) F2 ∧ (∀ x, x ∈ F1 → w.heap.size ≤ x) ∧ (∀ x, x ∈ F2 → w.heap.size ≤ x) ∧ (∀ x, x ∈ F2 → x ∉ F1) ∧ Keeps [] w wr) (fun iv _ => l.length - (intOf iv).toNat)
  case atStart =>
    obtain ⟨F1, F2, h⟩ := Start.out
    exact ⟨0, F1, F2, Nat.zero_le _, rfl, h⟩
  case round =>
    obtain ⟨k, F1, F2, hk, rfl, hb, hr, g1, g2, hdj, hkk⟩ := hrel
    clear Start
    by_cases hlk : k < l.length
    · obtain ⟨o, ho⟩ : ∃ o, l[k]? = some o := ⟨l[k], by simp [hlk]⟩
      obtain ⟨b, off, rfl, _, hc⟩ := Hv.out.at ho
      have hmem := List.mem_of_getElem? ho
      have hgd := Hg.out o hmem
      have hL := (Hsp.out o hmem).2.2
      have hst : l.take (k + 1) = l.take k ++ [o] := by rw [List.take_add_one, ho]; rfl
      have hok := (Hrk.out k).mono (M := 60) (by rw [List.length_take]; omega)
      have hnx := runA_snoc (newB q) (l.take k) o
      rw [← hst] at hnx
      generalize runA (newB q) (l.take k) = bk at *
      have hok2 := hok.doO o hL hgd.L
      have hll := list_le bk o hok (by omega)
      have Hc : Hid (∀ w', Keeps [] w w' → ((w'.cell? ⟨b, off + k * 6, none⟩ = some (.int .i64 o.ask) ∧ w'.cell? ⟨b, off + k * 6 + 1, none⟩ = some (.string (str o.name)) ∧ w'.cell? ⟨b, off + k * 6 + 2, none⟩ = some (.string (str o.data)) ∧ w'.cell? ⟨b, off + k * 6 + 3, none⟩ = some (.int .i64 o.at_) ∧ w'.cell? ⟨b, off + k * 6 + 4, none⟩ = some (.int .i64 o.n) ∧ w'.cell? ⟨b, off + k * 6 + 5, none⟩ = some o.lv))) := fun w' kk => ⟨kk.cell0 (hc 0 _ rfl), kk.cell0 (hc 1 _ rfl), kk.cell0 (hc 2 _ rfl), kk.cell0 (hc 3 _ rfl), kk.cell0 (hc 4 _ rfl), kk.cell0 (hc 5 _ rfl)⟩
      have hlv : ∃ a n c, o.lv = .slice a n c := by
        rcases hgd.src with ⟨h1, _⟩ | ⟨a, c, h1, _⟩
        · exact ⟨_, _, _, h1⟩
        · exact ⟨_, _, _, h1⟩
      obtain ⟨oa, on, oc, holv⟩ := hlv
      have hkd : Keeps [] wr wr.drew := (Keeps.refl [] wr).drew
      have hdo := do_any p bk F1 wr.drew (hb.newer hkd) 60 hok (by omega) o (hgd.newer (hkk.trans hkd (by simp))) hL
      have has : ∀ w', RfAt w' r bk F2 → Keeps [] w w' → Calls Tryd.prog 26 #[.pointer (some ⟨r, 0, none⟩), .agg o.vals.toArray] w' fun e w'' => ∃ v F', e = .returned v ∧ GotAt w' w'' v (bk.doO o).1 F' ∧ RfAt w'' r (bk.doO o).2 F' ∧ Chg F2 F' w' w'' := fun w' h kk => ask_any r bk F2 w' h 60 hok (by omega) o (hgd.newer kk) hL
      have hlt1 := hb.lt
      have hlt2 := hr.lt
      generalize (bk.doO o).1 = gg at *
      generalize (bk.doO o).2 = b2 at *
      obtain ⟨gs, gn, gl, ge⟩ := gg
      have two : Hid (∀ (w4 : World) (v : Value) (F4 : List Nat), GotAt wr.drew w4 v ⟨gs, gn, gl, ge⟩ F4 → BkAt w4 p b2 F4 → Chg F1 F4 wr.drew w4 → ∃ la ln lc Ga, v = .agg #[.string (str gs), .int .i64 gn, .slice la ln lc, .int .i64 ge] ∧ SlAt w4 (.slice la ln lc) (gl.map strV) Ga ∧ (∀ x, x ∈ Ga → x ∉ F2) ∧ RfAt w4 r bk F2 ∧ Keeps [] w w4 ∧ (∀ x, x ∈ F4 → w.heap.size ≤ x) ∧ (∀ x, x ∈ F2 → x ∉ F4)) := fun w4 v F4 ⟨lv, e1, hrow, hnew⟩ h4 q4 => by
        obtain ⟨la, lc, rfl⟩ := ownsRow_shape hrow
        refine ⟨la, _, lc, _, e1, SlAt.own' hrow, fun x hx h => ?_, (hr.newer hkd).keep q4.keeps hdj, (hkk.trans hkd (by simp)).trans q4.keeps (fun x hx => .inr (g1 x hx)), fun x hx => ?_, fun x hx h => ?_⟩
        · have := (hnew x hx).1
          have := hlt2 x h
          have : wr.drew.heap.size = wr.heap.size := rfl
          omega
        · rcases q4.fresh x hx with h | h
          · exact g1 x h
          · have := hkk.size; have : wr.drew.heap.size = wr.heap.size := rfl; omega
        · rcases q4.fresh x h with h | h
          · exact hdj x hx h
          · have := hlt2 x hx; have : wr.drew.heap.size = wr.heap.size := rfl; omega
      have three : Hid (∀ (w4 w5 : World) (v : Value) (F4 F5 Ga : List Nat) (la : Value), SlAt w4 la (gl.map strV) Ga → (∀ x, x ∈ Ga → x ∉ F2) → BkAt w4 p b2 F4 → RfAt w4 r bk F2 → Keeps [] w w4 → (∀ x, x ∈ F2 → x ∉ F4) → GotAt w4 w5 v ⟨gs, gn, gl, ge⟩ F5 → RfAt w5 r b2 F5 → Chg F2 F5 w4 w5 → ∃ lb ln lc, v = .agg #[.string (str gs), .int .i64 gn, .slice lb ln lc, .int .i64 ge] ∧ (∀ w', Keeps [] w5 w' → Calls Tryd.prog 25 #[.agg #[.string (str gs), .int .i64 gn, la, .int .i64 ge], .agg #[.string (str gs), .int .i64 gn, .slice lb ln lc, .int .i64 ge]] w' fun e w'' => e = .returned (.bool true) ∧ Keeps [] w' w'') ∧ (∀ w', Keeps [] w5 w' → Calls Tryd.prog 27 #[.pointer (some ⟨p, 0, none⟩), .pointer (some ⟨r, 0, none⟩)] w' fun e w'' => e = .returned (.bool true) ∧ Keeps [] w' w'') ∧ BkAt w5 p b2 F4 ∧ Keeps [] w w5 ∧ (∀ x, x ∈ F5 → w.heap.size ≤ x) ∧ (∀ x, x ∈ F5 → x ∉ F4)) := fun w4 w5 v F4 F5 Ga la hsa hga hb4 hr4 kw4 hd4 ⟨lv, e1, hrow, hnew⟩ hr5 q5 => by
        obtain ⟨lb, lc, rfl⟩ := ownsRow_shape hrow
        have hsa5 := hsa.keep q5.keeps hga
        have hsb5 := SlAt.own' hrow
        have hlt4 := hb4.lt
        have hb5 : BkAt w5 p b2 F4 := hb4.keep q5.keeps (fun x hx h => hd4 x h hx)
        refine ⟨lb, _, lc, e1, fun w' kk => ?_, fun w' kk => ?_, hb5, kw4.trans q5.keeps (fun x hx => .inr (g2 x hx)), fun x hx => ?_, fun x hx h => ?_⟩
        · exact sgot_any gs gn ge gl _ _ _ _ w' (hsa5.keep kk (by simp)) (hsb5.keep kk (by simp)) hll
        · exact samee_any p r b2 F4 F5 w' (hb5.newer kk) (hr5.newer kk) 61 hok2 (by omega)
        · rcases q5.fresh x hx with h | h
          · exact g2 x h
          · have := kw4.size; omega
        · rcases q5.fresh x hx with h' | h'
          · exact hd4 x h' h
          · have := hlt4 x h; omega
      have Hdo := Lib.hid hdo
      have Has := Lib.hid has
      have Hnx := Lib.hid hnx
      have Hcw := Lib.hid (Hc.out _ hkk)
      have hki : (k : Int) < (l.length : Int) := by omega
      have hki0 : (0 : Int) ≤ (k : Int) := by omega
      clear hdo has hnx hb hr g1 g2 hdj hkk hkd hok hok2 hll hlt1 hlt2 hst ho hc hgd hL
      unfold OpR.vals at Hdo Has
      rw [holv] at Hdo Has Hc Hcw
      go_wp2
      go_region_held3 (fun w' => w'.cell? ⟨b, off + k * 6, none⟩ = some (.int .i64 o.ask) ∧ w'.cell? ⟨b, off + k * 6 + 1, none⟩ = some (.string (str o.name)) ∧ w'.cell? ⟨b, off + k * 6 + 2, none⟩ = some (.string (str o.data)) ∧ w'.cell? ⟨b, off + k * 6 + 3, none⟩ = some (.int .i64 o.at_) ∧ w'.cell? ⟨b, off + k * 6 + 4, none⟩ = some (.int .i64 o.n) ∧ w'.cell? ⟨b, off + k * 6 + 5, none⟩ = some (.slice oa on oc))
        (first | exact Hcw.out | exact D4.out | exact D5.out | exact D6.out | exact D7.out)
        (first
          | (go_at_call 21; refine (Hdo.out).mono ?_; rintro e w4 ⟨v4, F4, rfl, hg4, hb4, q4⟩; obtain ⟨la, ln, lc, Ga, rfl, hsa, hga, hr4, kw4, ge4, hd4⟩ := two.out _ _ _ hg4 hb4 q4; have D4 := Lib.hid (Hc.out _ kw4))
          | (go_at_call 26; refine (Has.out _ hr4 kw4).mono ?_; rintro e w5 ⟨v5, F5, rfl, hg5, hr5, q5⟩; obtain ⟨lb, lbn, lbc, rfl, hsm, hSm, hb5, kw5, ge5, hd5⟩ := three.out _ _ _ _ _ _ _ hsa hga hb4 hr4 kw4 hd4 hg5 hr5 q5; have D5 := Lib.hid (Hc.out _ kw5))
          | (go_at_call 25; refine (hsm _ (Keeps.refl [] _)).mono ?_; rintro e w6 ⟨rfl, k6⟩; have D6 := Lib.hid (Hc.out _ (kw5.trans k6 (by simp))))
          | (go_at_call 27; refine (hSm _ k6).mono ?_; rintro e w7 ⟨rfl, k7⟩; have D7 := Lib.hid (Hc.out _ ((kw5.trans k6 (by simp)).trans k7 (by simp)))))
      have k57 : Keeps [] w5 w7 := k6.trans k7 (by simp)
      have Fin := Lib.hid (And.intro (hb5.newer k57) (And.intro (hr5.newer k57) (And.intro ge4 (And.intro ge5 (And.intro hd5 (kw5.trans k57 (by simp)))))))
      clear hb5 hr5 ge4 ge5 hd5 kw5 k57 k6 k7 hsm hSm hsa hga hr4 kw4 hd4 hg4 hb4 q4 hg5 q5 Hcw D4 D5 D6 D7
      go_wp2
      go_roundw
      case rel => exact ⟨k + 1, F4, F5, by omega, by go_num, by rw [Hnx.out]; exact Fin.out.1, by rw [Hnx.out]; exact Fin.out.2.1, Fin.out.2.2⟩
      case measure => simp [intOf]; omega
    · obtain rfl : k = l.length := by omega
      clear hb hr g1 g2 hdj
      go_wp2_with (go_at_call 12; (with_reducible refine (Aw.out _).mono ?_); rintro e w15 ⟨rfl, k15⟩)
      go_ret
      exact ⟨rfl, hkk.trans k15 (by simp)⟩

theorem walk_any (l : List OpR) (v : Value) (G : List Nat) (q : Int) (W : World) (hv : SlRows W v OpR.vals 6 l G) (hg : ∀ o, o ∈ l → o.good W) (hl : l.length ≤ 9223372036854775807) (hq : q ≤ 9223372036854775807) :
    Calls Tryd.prog 8 #[.int .i64 q, v] W fun e w' => e = .returned (.bool true) ∧ Keeps [] W w' := by
  by_cases h : 0 ≤ q ∧ few l = true
  · obtain ⟨h0, h2⟩ := h
    obtain ⟨qn, rfl⟩ : ∃ qn : Nat, q = qn := ⟨q.toNat, by omega⟩
    exact walk l v G qn W hv hg h2 (by omega)
  · exact walk_out l v G q W hv hg hl h

-- ROWEND
set_option maxRecDepth 100000 in
theorem lifted (os : Os) (started : os.Started) (H : Type) (enc : TypeId × Value → H) :
    ReturnsInHanded {} Tryd.checked os 8 .any (fun w args => (Rows.bucketPlaysSpec.pre enc Tryd.prog Tryd.f8 [] false w args ∧ laidMetH Tryd.prog laidU w) ∧ sizedMet enc Tryd.prog Tryd.f8 (OpenSpec.ofChange Rows.bucketPlaysSpec) false w args)
      (Rows.bucketPlaysSpec.post enc Tryd.prog Tryd.f8 false true false false) := by
  refine returnsInHanded_of_change_and (C := Tryd.checked) (X := fun w _ => laidMetH Tryd.prog laidU w) (fun _ _ _ hh h => h.of_heap hh) Tryd.own started (by kernel_rfl) Tryd.func8
    (ChangeSpec.witness_shaped (enc := enc) (C := Tryd.checked) (os := os) (X := fun w _ => laidMetH Tryd.prog laidU w) false (World.laidAll Tryd.prog os laidU) #[.int .i64 0, .slice none 0 0] 8 (World.laidAll_os _ _ _) (World.shaped_of_ZipB (by kernel_rfl) (by kernel_rfl)) (by kernel_rfl) (by kernel_rfl) (by kernel_rfl) (by rw [MakeChecks.laidMetH_plain _ _ _ (by kernel_rfl)]; exact laidMet_laidAll _ (by kernel_rfl) (by kernel_rfl))) ?_
  intro W base args ds gs before hval0 hW _ _ hL _
  have hval : ∀ (j : Nat) t v, Tryd.f8.params[j]? = some t → args[j]? = some v → Value.okWide Tryd.prog W .any base t v := hval0
  have hW' := hW
  obtain ⟨p, q, hA0, hV, rfl, hfz, hnd⟩ := hW
  have hA : DataW.TrodAll enc Tryd.prog W 0 (fun _ => true) true Tryd.f8.params.toList args.toList ds p := hA0
  rw [Tryd.params8] at hA hval
  obtain ⟨v0, vs0, d0, ds0, p0, q0, hargs, rfl, rfl, h0, r0⟩ := trodAll_cons hA
  obtain ⟨v1, vs1, d1, ds1, p1, q1, rfl, rfl, rfl, h1, r1⟩ := trodAll_cons r0
  obtain ⟨rfl, rfl, rfl⟩ := trodAll_nil r1
  obtain rfl : args = #[v0, v1] := by cases args; simp_all
  obtain ⟨q, rfl, rfl, rfl, wq⟩ := open_int Tryd.underlying3 (hval 0 3 v0 rfl rfl) h0
  obtain ⟨wq0, wq1⟩ := wf_i64 wq
  obtain ⟨l, Gl, hl, gl, bl, ll⟩ := open_rows OpR.vals (OpR.good W) 6 (by kernel_rfl) (by decide) Tryd.underlying38 (hval 1 38 v1 rfl rfl) (fun _ _ _ h => elem_op h) h1
  refine (walk_any l v1 Gl q W hl gl ll wq1).mono fun e W' ⟨he, hk⟩ => ?_
  subst he
  exact ⟨_, rfl, law_end Tryd.laidOut (by kernel_rfl) rfl rfl Tryd.underlying4 hW' rfl hk⟩

theorem row_holds : Rows.BucketPlaysSaid :=
  OpenClaim.holds_of_wide 8 Tryd.f8 rfl rfl rfl rfl rfl rfl rfl ⟨rfl, rfl, rfl, rfl, rfl⟩ rfl rfl rfl rfl rfl (by kernel_rfl) Tryd.func8 (by kernel_rfl)
    (of_decide_eq_true (by kernel_rfl)) (by unfold Func.isWrapper; first | (rw [if_pos (by decide +kernel)]; kernel_rfl) | (rw [if_neg (by decide +kernel)]; exact ⟨rfl, rfl⟩))
    (fun os started H enc _ => lifted os started H enc)
theorem proved : Rows.BucketPlaysCardSaid :=
  Claim7.holds_tied_plain_at .later [] [.data, .pinned] true (true, "e4129f4e5938461e8878458e06df438afec1d99629e799e21c52c19d7c204c58") true
    row_holds (fun _ h => by cases h) (by kernel_rfl) (fun _ h => by cases h) bucketPlays_row_tie rfl ⟨rfl, rfl⟩ (by kernel_rfl) rfl
    (fun f fn hf hfn => by
      obtain rfl : f = 8 := Option.some.inj ((show Tryd.prog.funcNamed "lighter/lighterlaw05.BucketPlays" = some 8 by kernel_rfl).symm.trans hf) |>.symm
      obtain rfl : fn = Tryd.f8 := (Option.some.inj (Tryd.func8.symm.trans hfn)).symm
      exact ⟨by kernel_rfl, fun j t ht => by
        rw [Tryd.params8] at ht
        have hm : t ∈ [3, 38] := by simpa using Array.mem_of_getElem? ht
        have hall : ([3, 38].all fun u => !Tryd.prog.wantsStandIn u) = true := by kernel_rfl
        exact (show Tryd.prog.wantsStandIn t = false by simpa using List.all_eq_true.1 hall t hm)⟩)
    (by kernel_rfl)
end Go.Proofs.YtflgagglkkehiaaDoor.lawBucketPlays
