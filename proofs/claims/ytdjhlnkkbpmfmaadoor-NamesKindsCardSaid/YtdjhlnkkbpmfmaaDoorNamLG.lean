/- NamesKinds, walked. -/
import Derived.Test.YtdjhlnkkbpmfmaaDoorNamW
import Derived.Deep.DeepCutAuto
namespace Go.Proofs.YtdjhlnkkbpmfmaaDoor.lawNamesKinds
open Go.RowKit

set_option maxHeartbeats 4000000 in
set_option maxRecDepth 100000 in
theorem walk_out (ad : Option Addr) (n cap : Nat) (a : Int) (h : 20 < n ∨ n = 0) (W : World) (hT : TabC W) : Calls Tryd.prog 9 #[.slice ad n cap, .int .i64 a] W fun e w' => e = .returned (.bool true) ∧ Keeps [] W w' := by
  have Aw := Lib.hid (awake_any W hT)
  clear hT
  by_cases h1 : 20 < n
  · have hi : (20 : Int) < (n : Int) := by omega
    clear h h1
    go_enter Tryd.func9, Tryd.ntmps9
    go_wp2_with (go_at_call 10; (with_reducible refine Aw.out.mono ?_); rintro e w1 ⟨rfl, k1⟩)
    go_ret
    exact ⟨rfl, k1⟩
  · obtain rfl : n = 0 := by omega
    clear h h1
    go_enter Tryd.func9, Tryd.ntmps9
    go_wp2_with (go_at_call 10; (with_reducible refine Aw.out.mono ?_); rintro e w1 ⟨rfl, k1⟩)
    go_ret
    exact ⟨rfl, k1⟩

def isW (r : NameR) (u : List UInt8) (k n : Int) : Bool := decide (r.pr.2 = 0) && (r.v.data.toList == u) && decide (r.k = k) && decide (r.n = n)
def wantB (l : List NameR) (u : List UInt8) (k n : Int) : Bool := l.any fun r => isW r u k n
theorem wantB_iff (l : List NameR) (u : List UInt8) (k n : Int) : wantB l u k n = true ↔ Want l u k n := by
  unfold wantB isW Want
  rw [List.any_eq_true]
  constructor
  · rintro ⟨r, hr, h⟩
    simp only [Bool.and_eq_true, decide_eq_true_eq, beq_iff_eq] at h
    exact ⟨r, hr, h.1.1.1, h.1.1.2, h.1.2, h.2⟩
  · rintro ⟨r, hr, h1, h2, h3, h4⟩
    exact ⟨r, hr, by simp [h1, h2, h3, h4]⟩
theorem wantB_snoc (l : List NameR) (r : NameR) (u : List UInt8) (k n : Int) : wantB (l ++ [r]) u k n = (wantB l u k n || isW r u k n) := by
  unfold wantB
  simp

set_option maxHeartbeats 16000000 in
set_option maxRecDepth 100000 in
theorem walk (l : List NameR) (v : Value) (G : List Nat) (a : Int) (W : World) (hv : SlRows W v NameR.vals 3 l G) (hl : l.length ≤ 20) (h0 : 0 < l.length) (_ha0 : -9223372036854775808 ≤ a) (_ha1 : a ≤ 9223372036854775807) (hT : TabC W) :
    Calls Tryd.prog 9 #[v, .int .i64 a] W fun e w' => e = .returned (.bool true) ∧ Keeps [] W w' := by
  have Aw := Lib.hid (fun (w' : World) (k : Keeps [] W w') => awake_any w' (hT.kept k))
  have Pr := Lib.hid (fun (r : NameR) (w' : World) (k : Keeps [] W w') => nprintR r w' (hT.kept k))
  obtain ⟨ad, cap, rfl, hc⟩ := hv
  obtain ⟨b, off, rfl, _, hcell⟩ := hc (by intro e; rw [e] at h0; simp at h0)
  have KL : Hid (∀ (i : Nat) (r : NameR), l[i]? = some r → ∀ w', Keeps [] W w' → w'.cell? ⟨b, off + i * 3, none⟩ = some (.string r.v) ∧ w'.cell? ⟨b, off + i * 3 + 1, none⟩ = some (.int .i64 r.k) ∧ w'.cell? ⟨b, off + i * 3 + 2, none⟩ = some (.int .i64 r.n)) := fun i r hr w' k =>
    ⟨k.cell0 (hcell i r hr 0 (.string r.v) rfl), k.cell0 (hcell i r hr 1 (.int .i64 r.k) rfl), k.cell0 (hcell i r hr 2 (.int .i64 r.n) rfl)⟩
  have Hl := Lib.hid hl
  have H0 := Lib.hid h0
  have hi : ¬ (20 : Int) < (l.length : Int) := by omega
  have hi0 : ((l.length : Int) == 0) = false := by rw [beq_eq_false_iff_ne]; omega
  have hi1 : ¬ (l.length : Int) = 0 := by omega
  obtain ⟨q, hq1, hq2⟩ : ∃ q : Nat, (a.tmod (l.length : Int) + (l.length : Int)).tmod (l.length : Int) = (q : Int) ∧ q < l.length := by
    have h1 : (0 : Int) < (l.length : Int) := by omega
    have h2 := Int.lt_tmod_of_pos a h1
    have h3 := Int.tmod_lt_of_pos a h1
    have h4 := Int.tmod_nonneg (l.length : Int) (show 0 ≤ a.tmod (l.length : Int) + (l.length : Int) by omega)
    have h5 := Int.tmod_lt_of_pos (a.tmod (l.length : Int) + (l.length : Int)) h1
    exact ⟨((a.tmod (l.length : Int) + (l.length : Int)).tmod (l.length : Int)).toNat, by omega, by omega⟩
  have hw1 : IntKind.i64.wrap (a.tmod (l.length : Int) + (l.length : Int)) = a.tmod (l.length : Int) + (l.length : Int) := by
    have h1 : (0 : Int) < (l.length : Int) := by omega
    have h2 := Int.lt_tmod_of_pos a h1
    have h3 := Int.tmod_lt_of_pos a h1
    exact IntWalk.i64_in _ ⟨by omega, by omega⟩
  have Hq1 := Lib.hid hq1
  have Hw1 := Lib.hid hw1
  have Hq2 := Lib.hid hq2
  clear hT hl h0 hcell hc hq1 hw1 hq2
  go_enter Tryd.func9, Tryd.ntmps9
  go_wp2_with fail
  go_loopw [5, 6] (fun ov iv wr => ∃ (i m : Nat), i ≤ l.length ∧ iv = .int .i64 i ∧ Hid ((txt (l.take i)).length = m) ∧ Hid (wr.ownsRow 0 9 1 ov m ((txt (l.take i)).map Value.string)) ∧ Hid (∀ x, x ∈ ov.ownBlock.toList → W.heap.size ≤ x) ∧ Hid (∀ r, r ∈ l.take i → r.v.size ≤ 100) ∧ Keeps [] W wr) (fun _ iv _ => l.length - (intOf iv).toNat)
  case atStart => exact ⟨0, 0, Nat.zero_le _, rfl, rfl, World.ownsRow_nil _ _ _ _, by simp [Hid, Value.ownBlock], by simp [Hid], Keeps.refl [] _⟩
  case round =>
    obtain ⟨i, m, hil, rfl, Hm, Hrow, Hfr, Hsm, hkk⟩ := hrel
    obtain ⟨ad2, cap2, rfl⟩ := ownsRow_shape Hrow.out
    have hm20 : m ≤ 20 := by
      have h1 := txt_le (l.take i)
      have h2 := Hl.out
      have h3 := Hm.out
      rw [List.length_take] at h1
      omega
    have Hkk := Lib.hid hkk
    by_cases hlt : i < l.length
    · have hki : (i : Int) < (l.length : Int) := by omega
      have hki0 : (0 : Int) ≤ (i : Int) := by omega
      obtain ⟨r, hr⟩ : ∃ r, l[i]? = some r := ⟨l[i], by simp [hlt]⟩
      obtain ⟨c0, c1, c2⟩ := KL.out i r hr wr hkk
      have Np := Lib.hid (fun (w' : World) (k : Keeps [] W w') => Pr.out r w' k)
      have hst : l.take (i + 1) = l.take i ++ [r] := by rw [List.take_add_one, hr]; rfl
      have htx := txt_snoc (l.take i) r
      rw [← hst] at htx
      have Htx := Lib.hid htx
      obtain ⟨T, e, hpr⟩ : ∃ T e, r.pr = (T, e) := ⟨_, _, rfl⟩
      rw [hpr] at Np
      have Hpr := Lib.hid hpr
      have Hst := Lib.hid hst
      have KLr := Lib.hid (KL.out i r hr)
      have Hrk := Lib.hid (fun (w' : World) (k : Keeps [] wr w') => own_keep Hrow.out k (by simp))
      clear hkk hst htx hpr hr
      by_cases hz : 100 < r.v.size
      · have hzi : (100 : Int) < (r.v.size : Int) := by omega
        clear hz
        go_wp2_with (first
          | (go_at_call 11; (with_reducible refine (Np.out _ Hkk.out).mono ?_); rintro e w1 ⟨rfl, k1⟩; clear c0 c1 c2; obtain ⟨c0, c1, c2⟩ := KLr.out _ (KT Hkk.out k1))
          | (go_at_call 10; (with_reducible refine (Aw.out _ (KT Hkk.out k1)).mono ?_); rintro e w2 ⟨rfl, k2⟩))
        go_ret
        exact ⟨rfl, KT (KT Hkk.out k1) k2⟩
      have hzi : ¬ (100 : Int) < (r.v.size : Int) := by omega
      have Hsm2 : Hid (∀ x, x ∈ l.take (i + 1) → x.v.size ≤ 100) := fun x hx => by
        rw [Hst.out, List.mem_append, List.mem_singleton] at hx
        rcases hx with hx | hx
        · exact Hsm.out x hx
        · rw [hx]; omega
      clear hz
      by_cases he : e = 0
      · subst he
        have Htx2 : Hid (txt (l.take (i + 1)) = txt (l.take i) ++ [str T]) := by
          have h := Htx.out
          rw [Hpr.out, if_pos rfl] at h
          exact h
        go_wp2_with (first
          | (go_at_call 11; (with_reducible refine (Np.out _ Hkk.out).mono ?_); rintro e w1 ⟨rfl, k1⟩; clear c0 c1 c2; obtain ⟨c0, c1, c2⟩ := KLr.out _ (KT Hkk.out k1))
          | (at_builtin; refine wpList_app1 tyStrs rfl (.tmp 53) (.tmp 55) rfl _ _ _ rfl rfl (Hrk.out _ k1) rfl (by intro u hu; simp at hu; subst hu; rfl) (by omega) (by unfold maxLen; omega) ?_; intro g2 cp2 w2 ho2 hc2; have Ho2 := Lib.hid ho2; have Hc2 := Lib.hid hc2; clear ho2 hc2))
        go_roundw
        case rel =>
          refine ⟨i + 1, m + 1, by omega, by go_num, by rw [Htx2.out, List.length_append, Hm.out]; rfl, ?_, fun x hx => (Hc2.out.fresh x hx).elim (Hfr.out x) (fun h => Nat.le_trans (Nat.le_trans Hkk.out.size k1.size) h), Hsm2.out, (KT Hkk.out k1).trans Hc2.out.keeps (fun x hx => .inr (Hfr.out x hx))⟩
          rw [Htx2.out, List.map_append]
          exact Ho2.out
        case measure => simp [intOf]; omega
      · have hb : (e == 0) = false := by rw [beq_eq_false_iff_ne]; exact he
        have Htx2 : Hid (txt (l.take (i + 1)) = txt (l.take i)) := by
          have h := Htx.out
          rw [Hpr.out, if_neg he, List.append_nil] at h
          exact h
        clear he
        go_wp2_with (go_at_call 11; (with_reducible refine (Np.out _ Hkk.out).mono ?_); rintro e w1 ⟨rfl, k1⟩; clear c0 c1 c2; obtain ⟨c0, c1, c2⟩ := KLr.out _ (KT Hkk.out k1))
        go_roundw
        case rel =>
          refine ⟨i + 1, m, by omega, by go_num, by rw [Htx2.out]; exact Hm.out, ?_, Hfr.out, Hsm2.out, KT Hkk.out k1⟩
          rw [Htx2.out]
          exact Hrk.out _ k1
        case measure => simp [intOf]; omega
    · obtain rfl : i = l.length := by omega
      have hrow := Hrow.out
      have hsm := Hsm.out
      rw [List.take_length] at hrow hsm
      have hmm := Hm.out
      rw [List.take_length] at hmm
      have hq2 := Hq2.out
      obtain ⟨r, hr⟩ : ∃ r, l[q]? = some r := ⟨l[q], by simp [hq2]⟩
      have hqi : (q : Int) < (l.length : Int) := by omega
      have hqi0 : (0 : Int) ≤ (q : Int) := by omega
      have hq1 := Hq1.out
      have hw1 := Hw1.out
      obtain ⟨c0, c1, c2⟩ := KL.out q r hr wr hkk
      obtain ⟨wo, rfl⟩ : ∃ wo : World, wo = wr := ⟨_, rfl⟩
      have Ka : Hid (Keeps [] wo (wo.alloc (.cells #[.string r.v, .int .i64 r.k, .int .i64 r.n] 23))) := (Keeps.refl [] wo).alloc _
      have HO := Lib.hid (heap_at (w := wo) (o := .cells #[.string r.v, .int .i64 r.k, .int .i64 r.n] 23 (0, 0)) rfl)
      have KN : Hid (∀ w', Keeps [] (wo.alloc (.cells #[.string r.v, .int .i64 r.k, .int .i64 r.n] 23)) w' → w'.cell? ⟨wo.heap.size, 0, none⟩ = some (.string r.v) ∧ w'.cell? ⟨wo.heap.size, 1, none⟩ = some (.int .i64 r.k) ∧ w'.cell? ⟨wo.heap.size, 2, none⟩ = some (.int .i64 r.n)) :=
        fun w' k => ⟨cell_of_heap (k.some HO.out (by simp)) 0, cell_of_heap (k.some HO.out (by simp)) 1, cell_of_heap (k.some HO.out (by simp)) 2⟩
      obtain ⟨d0, d1, d2⟩ := KN.out _ (Keeps.refl [] _)
      have Np := Lib.hid (fun (w' : World) (k : Keeps [] W w') => Pr.out r w' k)
      obtain ⟨T, f, hpr⟩ : ∃ T e, r.pr = (T, e) := ⟨_, _, rfl⟩
      rw [hpr] at Np
      have Hpr := Lib.hid hpr
      have Hr := Lib.hid hr
      have Sf : Hid (∀ (kd : Int) (w' : World), Keeps [] wo w' → Calls Tryd.prog 22 #[.slice ad2 m cap2, .string r.v, .int .i64 kd] w' fun e w2 => ∃ (v' : Value) (F : List Nat), e = .returned v' ∧ SlAt w2 v' ((Lib.compact ((selL (txt l) r.v.data.toList kd).mergeSort fun x y => decide (x ≤ y))).map intV) F ∧ (∀ x, x ∈ F → w'.heap.size ≤ x) ∧ Keeps [] w' w2) := fun kd w' k => by
        have h := sift_any (txt l) (.slice ad2 m cap2) _ r.v.data.toList kd w' ((SlAt.own hrow).keep k (by simp)) (by have := txt_le l; have := Hl.out; omega) (txt_small l)
        rw [str_self] at h
        exact h
      clear hkk hpr hr hrow hsm hmm hq2
      go_wp2_with (go_at_call 11; (with_reducible refine (Np.out _ (KT Hkk.out Ka.out)).mono ?_); rintro e w1 ⟨rfl, k1⟩)
      have Kw1 : Hid (Keeps [] wo w1) := KT Ka.out k1
      have K1h := Lib.hid k1
      clear c0 c1 c2 d0 d1 d2 k1 hq1 hw1
      go_loopw [12] (fun kv wr => ∃ kd : Nat, 1 ≤ kd ∧ kd ≤ 5 ∧ kv = .int .i64 kd ∧ Keeps [] w1 wr) (fun kv _ => 5 - (intOf kv).toNat)
      case atStart => exact ⟨1, by omega, by omega, rfl, Keeps.refl [] _⟩
      case round =>
        obtain ⟨kd, hk1, hk5, rfl, hk⟩ := hrel
        have Hk := Lib.hid hk
        clear hk
        by_cases hk4 : kd ≤ 4
        · have hki : (kd : Int) ≤ 4 := by omega
          obtain ⟨d0, d1, d2⟩ := KN.out _ (KT K1h.out Hk.out)
          have hst := sift_txt l r.v.data.toList (kd : Int)
          have Sf1 := Lib.hid (Sf.out (kd : Int))
          have hcl := Lib.compact_length_le ((selL (txt l) r.v.data.toList (kd : Int)).mergeSort fun x y => decide (x ≤ y))
          rw [List.length_mergeSort] at hcl
          have HMl := Lib.hid hcl
          clear hcl
          generalize Lib.compact ((selL (txt l) r.v.data.toList (kd : Int)).mergeSort fun x y => decide (x ≤ y)) = M at *
          have Hst := Lib.hid hst
          have Sf2 : Hid (∀ w', Keeps [] wo w' → Calls Tryd.prog 22 #[.slice ad2 m cap2, .string r.v, .int .i64 (kd : Int)] w' fun e w2 => ∃ (ad3 : Option Addr) (cap3 : Nat) (F : List Nat), e = .returned (.slice ad3 M.length cap3) ∧ SlAt w2 (.slice ad3 M.length cap3) (M.map intV) F ∧ Keeps [] w' w2) := fun w' k => by
            refine (Sf1.out w' k).mono ?_
            rintro e w2 ⟨v', F, rfl, hs, _, k2⟩
            have hs2 := hs
            obtain ⟨ad3, cap3, rfl, _⟩ := hs2
            rw [List.length_map] at hs ⊢
            exact ⟨ad3, cap3, F, rfl, hs, k2⟩
          have hML : M.length ≤ 1000000 := by
            have h1 := txt_le l
            have h2 := selL_le (txt l) r.v.data.toList (kd : Int)
            have h3 := Hl.out
            have h4 := HMl.out
            omega
          have HM := Lib.hid hML
          clear hst Sf1 hML
          go_wp2_with (go_at_call 22; (with_reducible refine (Sf2.out _ (KT Kw1.out Hk.out)).mono ?_); rintro e w3 ⟨ad3, cap3, F, rfl, hsl, k3⟩; have Hsl := Lib.hid hsl; have K3 := Lib.hid k3; clear hsl k3 d0 d1 d2)
          have KN3 := Lib.hid (fun (w' : World) (k : Keeps [] w3 w') => KN.out w' (KT K1h.out (KT Hk.out (KT K3.out k))))
          have KW3 := Lib.hid (fun (w' : World) (k : Keeps [] w3 w') => KT Hkk.out (KT Kw1.out (KT Hk.out (KT K3.out k))))
          have K13 := Lib.hid (fun (w' : World) (k : Keeps [] w3 w') => KT Hk.out (KT K3.out k))
          clear Sf2 Sf
          go_loopw [14, 16] (fun tv iv wr => ∃ i : Nat, i ≤ M.length ∧ iv = .int .i64 i ∧ tv = .bool (decide (r.n ∈ M.take i)) ∧ Keeps [] w3 wr) (fun _ iv _ => M.length - (intOf iv).toNat)
          case atStart => exact ⟨0, Nat.zero_le _, rfl, by simp, Keeps.refl [] _⟩
          case round =>
            obtain ⟨i, hi3, rfl, rfl, hk3⟩ := hrel
            have Hk3 := Lib.hid hk3
            by_cases hlt3 : i < M.length
            · have hki3 : (i : Int) < (M.length : Int) := by omega
              have hki30 : (0 : Int) ≤ (i : Int) := by omega
              obtain ⟨x, hx⟩ : ∃ x, M[i]? = some x := ⟨M[i], by simp [hlt3]⟩
              obtain ⟨ad4, cap4, e1, hc4⟩ := Hsl.out
              obtain ⟨bm, om, rfl, _, hcm⟩ := hc4 (by intro e; rw [List.map_eq_nil_iff] at e; rw [e] at hlt3; simp at hlt3)
              obtain rfl : ad3 = some ⟨bm, om, none⟩ := by injection e1
              have m0 := hk3.cell0 (hcm i (intV x) (by rw [List.getElem?_map, hx]; rfl))
              unfold intV at m0
              have m0' : ∀ k, (wr.drewN k).cell? ⟨bm, om + i, none⟩ = some (.int .i64 x) := fun _ => m0
              obtain ⟨n0, n1, n2⟩ := KN3.out _ hk3
              have hdec : decide (r.n ∈ M.take (i + 1)) = (decide (r.n ∈ M.take i) || decide (r.n = x)) := by
                rw [List.take_add_one, hx]
                simp [List.mem_append]
              have Hdec := Lib.hid hdec
              have hpre : i = 0 ∨ ∃ j y, i = j + 1 ∧ wr.cell? ⟨bm, om + j, none⟩ = some (.int .i64 y) ∧ ¬ x ≤ y := by
                cases i with
                | zero => exact .inl rfl
                | succ j =>
                  right
                  refine ⟨j, M[j], rfl, hk3.cell0 (hcm j (intV M[j]) (by rw [List.getElem?_map, List.getElem?_eq_getElem (by omega)]; rfl)), ?_⟩
                  have h1 := List.pairwise_iff_getElem.1 Hst.out.1 j (j + 1) (by omega) hlt3 (by omega)
                  have h2 : M[j + 1] = x := by
                    rw [List.getElem?_eq_getElem hlt3] at hx
                    injection hx
                  omega
              have hxe : decide (r.n = x) = (x == r.n) := by
                by_cases e : x = r.n
                · rw [e]; simp
                · rw [decide_eq_false (fun h => e h.symm), beq_eq_false_iff_ne.2 e]
              rw [hxe] at Hdec
              generalize decide (r.n ∈ M.take i) = t at *
              obtain ⟨s, hs⟩ : ∃ s, (x == r.n) = s := ⟨_, rfl⟩
              rw [hs] at Hdec
              clear hk3 hcm hc4 e1 hx hdec hxe n0 n1
              rcases hpre with rfl | ⟨j, y, rfl, m1, hxy⟩
              · rw [Nat.add_zero] at m0
                simp only [Nat.add_zero] at m0'
                cases t
                all_goals
                  go_upto_region 23 with (fail)
                  go_quiet (fail)
                  go_upto_region 24 with (fail)
                  go_quiet (fail)
                  go_wp2_with fail
                  go_roundw
                  case rel => exact ⟨1, by omega, by go_num, by rw [Hdec.out]; simp, by first | exact Hk3.out | exact Hk3.out.drewN _ | exact (Hk3.out.drewN _).drewN _⟩
                  case measure => simp [intOf]; omega
              · have m1' : ∀ k, (wr.drewN k).cell? ⟨bm, om + j, none⟩ = some (.int .i64 y) := fun _ => m1
                have b1 : IntKind.i64.wrap (((j + 1 : Nat) : Int) - 1) = (j : Int) := by have := Hl.out; rw [IntWalk.i64_in _ ⟨by omega, by have := HM.out; omega⟩]; omega
                have b2 : (j : Int) < (M.length : Int) := by omega
                have b5 : (j : Int) ≤ 1000000 := by have := HM.out; omega
                have b3 : (0 : Int) ≤ (j : Int) := by omega
                have b4 : (0 : Int) < ((j + 1 : Nat) : Int) := by omega
                cases t
                all_goals
                  go_upto_region 23 with (fail)
                  go_quiet (fail)
                  go_upto_region 24 with (fail)
                  go_quiet (fail)
                  go_wp2_with fail
                  go_roundw
                  case rel => exact ⟨j + 1 + 1, by omega, by go_num, by rw [Hdec.out]; simp, by first | exact Hk3.out | exact Hk3.out.drewN _ | exact (Hk3.out.drewN _).drewN _⟩
                  case measure => simp [intOf]; omega
            · obtain rfl : i = M.length := by omega
              rw [List.take_length]
              obtain ⟨w4, rfl⟩ : ∃ w4 : World, w4 = wr := ⟨_, rfl⟩
              have hBB : decide (r.n ∈ M) = wantB l r.v.data.toList (kd : Int) r.n := by
                rw [Bool.eq_iff_iff, decide_eq_true_eq, wantB_iff]
                exact Hst.out.2 r.n
              rw [hBB]
              have hown : (kd : Int) = r.k → f = 0 → wantB l r.v.data.toList (kd : Int) r.n = true := fun e1 e2 => by
                rw [wantB_iff]
                exact ⟨r, List.mem_of_getElem? Hr.out, by rw [Hpr.out]; exact e2, rfl, e1.symm, rfl⟩
              have Hown := Lib.hid hown
              obtain ⟨B, hB⟩ : ∃ B, wantB l r.v.data.toList (kd : Int) r.n = B := ⟨_, rfl⟩
              rw [hB]
              have HB := Lib.hid hB
              clear hk3 hBB hown hB
              go_wp2_with fail
              go_loopw [15, 17] (fun tv iv wr => ∃ i : Nat, i ≤ l.length ∧ iv = .int .i64 i ∧ tv = .bool (wantB (l.take i) r.v.data.toList (kd : Int) r.n) ∧ Keeps [] w4 wr) (fun _ iv _ => l.length - (intOf iv).toNat)
              case atStart => exact ⟨0, Nat.zero_le _, rfl, by simp [wantB], Keeps.refl [] _⟩
              case round =>
                obtain ⟨i, hi4, rfl, rfl, hk4'⟩ := hrel
                have Hk4 := Lib.hid hk4'
                clear hk4'
                by_cases hlt4 : i < l.length
                · have hki4 : (i : Int) < (l.length : Int) := by omega
                  have hki40 : (0 : Int) ≤ (i : Int) := by omega
                  obtain ⟨z, hz⟩ : ∃ z, l[i]? = some z := ⟨l[i], by simp [hlt4]⟩
                  have hws := wantB_snoc (l.take i) z r.v.data.toList (kd : Int) r.n
                  have hst4 : l.take (i + 1) = l.take i ++ [z] := by rw [List.take_add_one, hz]; rfl
                  rw [← hst4] at hws
                  have Hws := Lib.hid hws
                  have KLz := Lib.hid (KL.out i z hz)
                  obtain ⟨c0, c1, c2⟩ := KLz.out wr (KW3.out _ (KT Hk3.out Hk4.out))
                  have Np := Lib.hid (fun (w' : World) (k : Keeps [] W w') => Pr.out z w' k)
                  obtain ⟨T2, e2, hpr2⟩ : ∃ T e, z.pr = (T, e) := ⟨_, _, rfl⟩
                  rw [hpr2] at Np
                  have hvb : (z.v.data.toList == r.v.data.toList) = (z.v.toList == r.v.toList) := by rw [ByteArray.toList_eq, ByteArray.toList_eq]
                  have hisW : isW z r.v.data.toList (kd : Int) r.n = ((e2 == 0) && (z.v.toList == r.v.toList) && (z.k == (kd : Int)) && (z.n == r.n)) := by
                    unfold isW
                    rw [hpr2, hvb]
                    rfl
                  rw [hisW] at Hws
                  generalize wantB (l.take i) r.v.data.toList (kd : Int) r.n = t at *
                  obtain ⟨q1, g1⟩ : ∃ q, (e2 == 0) = q := ⟨_, rfl⟩
                  obtain ⟨q2, g2⟩ : ∃ q, (z.v.toList == r.v.toList) = q := ⟨_, rfl⟩
                  obtain ⟨q3, g3⟩ : ∃ q, (z.k == (kd : Int)) = q := ⟨_, rfl⟩
                  obtain ⟨q4, g4⟩ : ∃ q, (z.n == r.n) = q := ⟨_, rfl⟩
                  rw [g1, g2, g3, g4] at Hws
                  clear hws hst4 hz hpr2 hvb hisW
                  have hcs : t = true ∨ (t = false ∧ q1 = false) ∨ (t = false ∧ q1 = true ∧ q2 = false) ∨ (t = false ∧ q1 = true ∧ q2 = true ∧ q3 = false) ∨ (t = false ∧ q1 = true ∧ q2 = true ∧ q3 = true) := by
                    cases t <;> cases q1 <;> cases q2 <;> cases q3 <;> simp
                  rcases hcs with rfl | ⟨rfl, rfl⟩ | ⟨rfl, rfl, rfl⟩ | ⟨rfl, rfl, rfl, rfl⟩ | ⟨rfl, rfl, rfl, rfl⟩
                  all_goals
                    go_upto_region 30 with (go_at_call 11; (with_reducible refine (Np.out _ (KW3.out _ (KT Hk3.out Hk4.out))).mono ?_); rintro e w5 ⟨rfl, k5⟩; clear c0 c1 c2; obtain ⟨c0, c1, c2⟩ := KLz.out _ (KW3.out _ (KT Hk3.out (KT Hk4.out k5))); obtain ⟨n0, n1, n2⟩ := KN3.out _ (KT Hk3.out (KT Hk4.out k5)))
                    go_quiet (fail)
                    go_wp2_with fail
                    go_roundw
                    case rel => exact ⟨i + 1, by omega, by go_num, by rw [Hws.out]; simp, by first | exact KT Hk4.out k5 | exact (KT Hk4.out k5).drewN _⟩
                    case measure => simp [intOf]; omega
                · obtain rfl : i = l.length := by omega
                  rw [List.take_length, HB.out]
                  obtain ⟨n0, n1, n2⟩ := KN3.out _ (KT Hk3.out Hk4.out)
                  have hcs : ((kd : Int) == r.k) = false ∨ (((kd : Int) == r.k) = true ∧ (f == 0) = false) ∨ (((kd : Int) == r.k) = true ∧ (f == 0) = true ∧ B = true) := by
                    by_cases e1 : (kd : Int) = r.k
                    · by_cases e2 : f = 0
                      · right; right
                        exact ⟨beq_iff_eq.2 e1, beq_iff_eq.2 e2, by rw [← HB.out]; exact Hown.out e1 e2⟩
                      · right; left
                        exact ⟨beq_iff_eq.2 e1, beq_eq_false_iff_ne.2 e2⟩
                    · left
                      exact beq_eq_false_iff_ne.2 e1
                  rcases hcs with g1 | ⟨g1, g2⟩ | ⟨g1, g2, rfl⟩
                  all_goals
                    go_wp2_with fail
                    go_roundw
                    case rel => exact ⟨kd + 1, by omega, by omega, by go_num, K13.out _ (KT Hk3.out Hk4.out)⟩
                    case measure => simp [intOf]; omega
        · obtain rfl : kd = 5 := by omega
          go_wp2_with (go_at_call 10; (with_reducible refine (Aw.out _ (KT Hkk.out (KT Kw1.out Hk.out))).mono ?_); rintro e w5 ⟨rfl, k5⟩)
          go_ret
          exact ⟨rfl, KT (KT Hkk.out (KT Kw1.out Hk.out)) k5⟩
end Go.Proofs.YtdjhlnkkbpmfmaaDoor.lawNamesKinds
