/- Calls of some sectors turn nothing of another one, in what it has and in what lasts: SsdApart answers true at all inputs; without conditions. -/
import Derived.Test.YtddehagceenbnaaSsdZ
namespace Go.Proofs.Ytddehagceenbnaa.lawSsdApart
open Go.ChangeShapes Go.WideShapes Go.ChangeAt Go.RowKit

theorem good_keep {W w : World} {o : OpS} (h : o.good W) (k : Keeps [] W w) : o.good w :=
  ⟨h.a0, h.a1, h.p0, h.p1, h.n0, h.n1, h.s0, by obtain ⟨G, h1, h2⟩ := h.k0; exact ⟨G, h1.keep k (by simp), fun x hx => Nat.lt_of_lt_of_le (h2 x hx) k.size⟩, h.k1⟩

theorem makeInts (n : Nat) (h2 : n ≤ 100000) : ∃ Z : Array Value, Z = ((List.replicate n (0 : Int)).map (Value.int .i64)).toArray ∧
    ∀ w, (Instr.makeSlice 23 (.int .i64 n) (.int .i64 n)).run Try.prog w = .ok (.slice (some ⟨w.heap.size, 0, none⟩) n n) (w.alloc (.cells Z 3)) := by
  obtain ⟨i, hi, hz, hsz, hby⟩ := info_parts (P := Try.prog) (e := 3) (z := .int .i64 0) (size := 1) (bytes := 8) (by kernel_rfl)
  have hr := fun w => run_make (P := Try.prog) w 23 3 i _ Try.underlying23 hi hz .i64 .i64 n n (by omega) (by omega) (by rw [hby]; omega) (by omega)
  simp only [Int.toNat_natCast] at hr
  refine ⟨_, ?_, hr⟩
  apply Array.toList_inj.1
  rw [hsz, Nat.mul_one, List.map_replicate]
  exact made_same 1 (.int .i64 0) (by decide) n

set_option maxHeartbeats 4000000 in
set_option maxRecDepth 100000 in
theorem walk_no (x y : UInt8) (l : List OpS) (kept : Bool) (v : Value) (G : List Nat) (W : World) (hv : OpsAt W v l G) (hl : l.length ≤ 9223372036854775807) (hg : ∀ o, o ∈ l → o.good W) (h : fewB l = false) :
    Calls Try.prog 6 #[.agg #[.int .u8 x.toNat, .int .u8 y.toNat], v, .bool kept] W fun e w' => e = .returned (.bool true) ∧ Keeps [] W w' := by
  have Hf : Hid (∀ w', Keeps [] W w' → Calls Try.prog 18 #[v] w' fun e w'' => e = .returned (.bool (fewB l)) ∧ w' = w'') := fun w' k => few_any l w' v G (hv.keep k (by simp)) W hl hg
  obtain ⟨ad, cap, rfl, _⟩ := hv
  rw [h] at Hf
  have k0 : Keeps [] W (W.alloc (.cells #[.int .u8 x.toNat, .int .u8 y.toNat] 45)) := (Keeps.refl [] W).alloc _
  clear h hg
  go_enter Try.func6, Try.ntmps6
  go_wp2_with fail
  (with_reducible refine (hasNew 20 _ (by omega) _ (by omega) (by omega)).mono ?_)
  rintro e w1 ⟨ba, Fa, rfl, ha1, k1, f1⟩
  have k12 := KT k0 k1
  clear ha1 k0 k1 f1
  go_wp2_with (first | (go_at_call 18; (with_reducible refine (Hf.out _ (by assumption)).mono ?_); rintro e w3 ⟨rfl, rfl⟩) | (go_at_call 11; (with_reducible refine (awake_any _).mono ?_); rintro e w6 ⟨rfl, hk6⟩))
  go_ret
  exact ⟨rfl, KT k12 hk6⟩

theorem full_c (c : UInt8) (v : Int) (hv : v = c.toNat) (w : World) : Calls Try.prog 13 #[.int .u8 v] w fun e w' => e = .returned (.string (str (fullL c))) ∧ Keeps [] w w' := by subst hv; exact full_any c w

set_option maxHeartbeats 8000000 in
set_option maxRecDepth 100000 in
theorem walk_yes (x y : UInt8) (l : List OpS) (kept : Bool) (v : Value) (G : List Nat) (W : World) (hv : OpsAt W v l G) (hg : ∀ o, o ∈ l → o.good W) (hf : fewB l = true) :
    Calls Try.prog 6 #[.agg #[.int .u8 x.toNat, .int .u8 y.toNat], v, .bool kept] W fun e w' => e = .returned (.bool true) ∧ Keeps [] W w' := by
  have hf2 := hf
  unfold fewB at hf2
  simp only [Bool.and_eq_true, List.all_eq_true, decide_eq_true_eq] at hf2
  obtain ⟨hsm, hlen⟩ := hf2
  have Hf : Hid (∀ w', Keeps [] W w' → Calls Try.prog 18 #[v] w' fun e w'' => e = .returned (.bool (fewB l)) ∧ w' = w'') := fun w' k => few_any l w' v G (hv.keep k (by simp)) W (by omega) hg
  rw [hf] at Hf
  have Hv : Hid (∀ w', Keeps [] W w' → OpsAt w' v l G) := fun w' k => hv.keep k (by simp)
  obtain ⟨ad, cap, rfl, hcs⟩ := hv
  have Hcs : Hid (l ≠ [] → ∃ b off, ad = some ⟨b, off, none⟩) := fun h => by obtain ⟨b, off, h1, _⟩ := hcs h; exact ⟨b, off, h1⟩
  have Hg := Lib.hid hg
  have Hsm := Lib.hid hsm
  have hl50 : (l.length : Int) ≤ 50 := by omega
  obtain ⟨s1, s2, s3, s4, s5⟩ := aside_start x y
  have S2 := Lib.hid s2
  have S4 := Lib.hid s4
  have S5 := Lib.hid s5
  have k0 : Keeps [] W (W.alloc (.cells #[.int .u8 x.toNat, .int .u8 y.toNat] 45)) := (Keeps.refl [] W).alloc _
  have hb0 := heap_alloc_self W (.cells #[.int .u8 x.toNat, .int .u8 y.toNat] 45)
  have Fx : Hid (∀ w, Calls Try.prog 13 #[.int .u8 x.toNat] w fun e w' => e = .returned (.string (str (fullL x))) ∧ Keeps [] w w') := fun w => full_any x w
  have Fy : Hid (∀ w, Calls Try.prog 13 #[.int .u8 y.toNat] w fun e w' => e = .returned (.string (str (fullL y))) ∧ Keeps [] w w') := fun w => full_any y w
  generalize hX : (x.toNat : Int) = X at *
  generalize hY : (y.toNat : Int) = Y at *
  have HW0 : Hid (∃ W0, W.alloc (.cells #[.int .u8 X, .int .u8 Y] 45) = W0) := ⟨_, rfl⟩
  obtain ⟨W0, hW0⟩ := HW0.out
  rw [hW0] at k0 hb0
  have Hb0 : Hid (∀ w', Keeps [] W0 w' → w'.cell? ⟨W.heap.size, 0, none⟩ = some (.int .u8 X) ∧ w'.cell? ⟨W.heap.size, 1, none⟩ = some (.int .u8 Y)) := fun w' k => ⟨k.cell0 (cell_of_heap hb0 0), k.cell0 (cell_of_heap hb0 1)⟩
  have HK0 := Lib.hid k0
  have HWe := Lib.hid hW0
  clear hg hsm hf hcs s1 s2 s3 s4 s5 k0 hb0 hX hY hW0
  go_enter Try.func6, Try.ntmps6
  go_wp2_with fail
  rw [HWe.out]
  (with_reducible refine (hasNew 20 _ (by omega) _ (by omega) (by omega)).mono ?_)
  rintro e w1 ⟨b, F, rfl, h1, k1, f1⟩
  have n1 := (New.refl W0).add k1 f1
  have kf := KT HK0.out k1
  clear k1 f1
  go_wp2_with (go_at_call 18; (with_reducible refine (Hf.out _ kf).mono ?_); rintro e w3 ⟨rfl, rfl⟩; obtain ⟨cx, cy⟩ := Hb0.out _ n1.keeps; clear kf)
  (with_reducible refine (Fx.out _).mono ?_)
  rintro e w2 ⟨rfl, k2⟩
  have h2 := h1.kept k2
  have n2 := n1.step k2
  clear h1 n1 k2 cx cy
  go_wp2_with fail
  (with_reducible refine (hasWrite h2 (by omega) 19 (str (fullL x)) (by rw [str_size, fullL_len]; omega) (by omega)).mono ?_)
  rintro e w3 ⟨rfl, F3, h3, c3⟩
  have n3 := n2.chg c3
  have h3' := h3.le (B' := 1) (by rw [str_size, fullL_len]; omega)
  rw [str_data] at h3'
  clear h2 n2 h3 c3
  go_wp2_with fail
  (with_reducible refine (hasBarrier h3' (by omega)).mono ?_)
  rintro e w4 ⟨rfl, F4, h4, c4⟩
  have n4 := n3.chg c4
  obtain ⟨cx, cy⟩ := Hb0.out _ n4.keeps
  clear h3' n3 c4
  go_wp2_with fail
  (with_reducible refine (Fy.out _).mono ?_)
  rintro e w5 ⟨rfl, k5⟩
  have h5 := h4.kept k5
  have n5 := n4.step k5
  clear h4 n4 k5 cx cy
  go_wp2_with fail
  (with_reducible refine (hasWrite h5 (by omega) 19 (str (fullL y)) (by rw [str_size, fullL_len]; omega) (by omega)).mono ?_)
  rintro e w6 ⟨rfl, F6, h6, c6⟩
  have n6 := n5.chg c6
  have h6' := h6.le (B' := 10) (by rw [str_size, fullL_len]; omega)
  rw [str_data] at h6'
  clear h5 n5 h6 c6
  generalize (((Dev.new 20).write 19 (fullL x)).1.barrier.1.write 19 (fullL y)).1 = D0 at *
  go_wp2
  obtain ⟨wo, rfl⟩ : ∃ wo : World, wo = W0 := ⟨_, rfl⟩
  go_loopw [9, 10] (fun nv iv wr => ∃ (k N : Nat) (d : Dev) (F1 : List Nat), k ≤ l.length ∧ iv = .int .i64 k ∧ nv = .int .i64 N ∧ Hid (N = d.pend.length) ∧ N ≤ 10 * k + 10 ∧ Has wr b d F1 (10 * k + 10) ∧ New wo wr F1 ∧ Hid (Aside x y d)) (fun _ iv _ => l.length - (intOf iv).toNat)
  case atStart => exact ⟨0, 1, D0, F6, Nat.zero_le _, rfl, rfl, S5.out.symm, by omega, h6', n6, S4.out⟩
  case round =>
    obtain ⟨k, N, d, F1, hk, rfl, rfl, HN, hN, hh, hn, HA⟩ := hrel
    clear h6' n6
    by_cases hlt : k < l.length
    · obtain ⟨o, ho⟩ : ∃ o, l[k]? = some o := ⟨l[k], by simp [hlt]⟩
      have hom := List.mem_of_getElem? ho
      have hgo := good_keep (Hg.out o hom) HK0.out
      have hsz := Hsm.out o hom
      unfold smallB at hsz
      rw [Bool.and_eq_true, decide_eq_true_eq] at hsz
      obtain ⟨hsz1, _⟩ := hsz
      obtain ⟨bo, off, rfl⟩ := Hcs.out (by intro h0; rw [h0] at hlt; simp at hlt)
      obtain ⟨c0, c1, c2, c3, c4⟩ := (Hv.out _ (KT HK0.out hn.keeps)).cells _ _ _ _ ho rfl
      obtain ⟨ka, kc, hkv⟩ : ∃ ka kc, o.kv = .slice ka o.keep.length kc := by obtain ⟨_, ⟨ka, kc, h, _⟩, _⟩ := hgo.k0; exact ⟨ka, kc, by rw [h, List.length_map]⟩
      rw [hkv] at c4
      have hki : (k : Int) < (l.length : Int) := by omega
      have hki0 : (0 : Int) ≤ (k : Int) := by omega
      have ha0 := hgo.a0
      have hdo := fun w' (k' : Keeps [] wr w') => does_any wo w' b d F1 (10 * k + 10) (hn.step k') (hh.kept k') (by omega) o hgo hsz1
      have hpe := fun w' (k' : Keeps [] wr w') => pending_any b d F1 w' (hh.kept k').at'
      rw [← HN.out] at hpe
      unfold OpS.agg at hdo
      rw [hkv] at hdo
      have Hdo := Lib.hid hdo
      have Hpe := Lib.hid hpe
      have Hh := Lib.hid hh
      have Hn := Lib.hid hn
      have Ha := Lib.hid (fun h0 h1 => aside_does HA.out o h0 h1 hsz1)
      have knew : Keeps [] wr (wr.alloc (.cells #[.int .i64 o.ask, .int .i64 o.pos, .int .i64 o.n, .string o.data, .slice ka o.keep.length kc] 41)) := (Keeps.refl [] wr).alloc _
      have Kn := Lib.hid knew
      clear ho hom hgo hsz1 hkv hdo hpe hh hn knew
      by_cases e0 : o.ask = 0
      · have b0 : (o.ask != 0) = false := by simpa using e0
        have E0 := Lib.hid e0
        clear e0
        by_cases e1 : o.pos ≤ 8
        · have b1 : decide (8 < o.pos) = false := by simp; omega
          go_wp2_with fail
          (with_reducible refine (Hpe.out _ Kn.out).mono ?_)
          rintro e w7 ⟨rfl, rfl⟩
          go_wp2_with fail
          (with_reducible refine (Hdo.out _ Kn.out).mono ?_)
          rintro e w8 ⟨rfl, F8, h8, c8⟩
          have n8 := (Hn.out.step Kn.out).chg c8
          have hp8 := pending_any b _ F8 _ h8.at'
          have Ha8 := Lib.hid (Ha.out E0.out e1)
          have hfew8 := h8.few
          generalize (d.does o).1 = d8 at *
          generalize hN8 : d8.pend.length = N8 at *
          have HN8 := Lib.hid hN8
          clear c8 hN8 c0 c1 c2 c3 c4
          go_wp2_with fail
          (with_reducible refine hp8.mono ?_)
          rintro e w9 ⟨rfl, rfl⟩
          clear hp8
          have hw : IntKind.i64.wrap ((N : Int) + (N8 : Int)) = (N : Int) + (N8 : Int) := IntWalk.i64_in _ ⟨by omega, by omega⟩
          go_wp2
          go_roundw
          case rel => exact ⟨k + 1, N8, d8, F8, by omega, by go_num, by go_num, HN8.out.symm, by omega, h8.le (by omega), n8, Ha8.out⟩
          case measure => simp [intOf]; omega
        · have b1 : decide (8 < o.pos) = true := by simp; omega
          go_wp2
          go_roundw
          case rel => exact ⟨k + 1, N, d, F1, by omega, by go_num, rfl, HN.out, by omega, (Hh.out.kept Kn.out).le (by omega), Hn.out.step Kn.out, HA.out⟩
          case measure => simp [intOf]; omega
      · have b0 : (o.ask != 0) = true := by simpa using e0
        clear e0
        go_wp2
        go_roundw
        case rel => exact ⟨k + 1, N, d, F1, by omega, by go_num, rfl, HN.out, by omega, (Hh.out.kept Kn.out).le (by omega), Hn.out.step Kn.out, HA.out⟩
        case measure => simp [intOf]; omega
    · have hend : (l.length : Int) ≤ (k : Int) := by omega
      have hN1 : N ≤ 510 := by omega
      have hr := hasRead hh 19 1 (by omega)
      rw [aside_read HA.out] at hr
      have hN0 : 1 ≤ N := by rw [HN.out]; obtain ⟨r, hr, _⟩ := HA.out.pend; rw [hr]; simp
      clear hN hlt
      go_wp2_with fail
      (with_reducible refine hr.mono ?_)
      rintro e w7 ⟨rfl, k7⟩
      have h7 := hh.kept k7
      have n7 := hn.step k7
      have hpe := fun w' (k' : Keeps [] w7 w') => pending_any b d F1 w' (h7.kept k').at'
      rw [← HN.out] at hpe
      have Hpe := Lib.hid hpe
      obtain ⟨cx, cy⟩ := Hb0.out _ n7.keeps
      clear hr hh hn k7 hpe
      go_wp2_with fail
      (with_reducible refine (Fy.out _).mono ?_)
      rintro e w8 ⟨rfl, k8⟩
      go_wp2_with fail
      (with_reducible refine (Hpe.out _ k8).mono ?_)
      rintro e w9 ⟨rfl, rfl⟩
      have h8 := h7.kept k8
      have n8 := n7.step k8
      clear h7 n7 k8 cx cy
      obtain ⟨Z, hZ, hmk⟩ := makeInts N (by omega)
      have a1 : (1 : Int) ≤ (N : Int) := by omega
      have hb8 := heap_alloc_self w8 (.cells Z 3)
      have HZ := Lib.hid hZ
      have Hb8 := Lib.hid hb8
      clear hZ hb8
      have h10 := h8.kept ((Keeps.refl [] w8).alloc (.cells Z 3))
      have n10 := n8.step ((Keeps.refl [] w8).alloc (.cells Z 3))
      have hBF : ∀ z, z ∈ F1 → z ∉ [w8.heap.size] := fun z hz hz' => by rw [List.mem_singleton] at hz'; have := h8.lt z hz; omega
      have hB0 : wo.heap.size ≤ w8.heap.size := n8.keeps.size
      have HBF := Lib.hid hBF
      have H10 := Lib.hid h10
      have N10 := Lib.hid n10
      clear h8 n8 hBF h10 n10
      go_wp2
      have hcells : (w8.alloc (.cells Z 3)).heap[w8.heap.size]? = some (.cells ((List.replicate N (0 : Int)).map (Value.int .i64)).toArray 3 (0, 0)) := by rw [← HZ.out]; exact Hb8.out
      generalize w8.alloc (.cells Z 3) = w10 at *
      generalize w8.heap.size = B at *
      have Hcells := Lib.hid hcells
      clear hmk hcells Hb8
      go_loopw [16] (fun iv wr => ∃ (k : Nat) (ks : List Int), 1 ≤ k ∧ k ≤ N ∧ iv = .int .i64 k ∧ Hid (ks.length = N) ∧ Hid (ks[0]? = some 0) ∧ wr.heap[B]? = some (.cells (ks.map (Value.int .i64)).toArray 3 (0, 0)) ∧ Keeps [B] w10 wr) (fun iv _ => N - (intOf iv).toNat)
      case atStart => exact ⟨1, List.replicate N 0, by omega, hN0, rfl, by unfold Hid; simp, by unfold Hid; rw [List.getElem?_replicate, if_pos (by omega)], Hcells.out, Keeps.refl _ _⟩
      case round =>
        obtain ⟨k2, ks, hk1, hk2, rfl, Hkl, Hk0, hbk, hkk⟩ := hrel
        by_cases hlt2 : k2 < N
        · have hki2 : (k2 : Int) < (N : Int) := by omega
          have hki20 : (0 : Int) ≤ (k2 : Int) := by omega
          have ck := cell_of_heap hbk k2
          rw [List.getElem?_toArray, List.getElem?_map, List.getElem?_eq_getElem (by rw [Hkl.out]; exact hlt2)] at ck
          have fk := free_of_heap hbk k2
          have hset : ∀ u : Int, (wr.setCell ⟨B, k2, none⟩ (.int .i64 u)).heap[B]? = some (.cells ((ks.set k2 u).map (Value.int .i64)).toArray 3 (0, 0)) := fun u => by
            rw [heap_setCell hbk k2 _]
            congr 2
            apply Array.toList_inj.1
            simp [List.map_set]
          have Hset := Lib.hid hset
          clear hset hbk
          go_wp2
          go_roundw
          case rel => exact ⟨k2 + 1, ks.set k2 _, by omega, by omega, by go_num, by unfold Hid; rw [List.length_set]; exact Hkl.out, by unfold Hid; rw [List.getElem?_set_ne (by omega)]; exact Hk0.out, Hset.out _, hkk.setCell (p := ⟨B, k2, none⟩) (by simp) _⟩
          case measure => simp [intOf]; omega
        · have hend2 : (N : Int) ≤ (k2 : Int) := by omega
          have hh := H10.out.keep hkk HBF.out
          have hB10 : ∀ z, z ∈ [B] → z ∉ F1 := fun z hz hz' => HBF.out z hz' hz
          obtain ⟨q, ks', hks⟩ : ∃ q ks', ks = q :: ks' := by
            cases ks with
            | nil => have := Hkl.out; simp at this; omega
            | cons a r => exact ⟨a, r, rfl⟩
          subst hks
          have hq : q = 0 := by have := Hk0.out; simpa using this
          subst hq
          have hsl : ∀ (w' : World) (r : List Int), r.length = N → w'.heap[B]? = some (.cells (r.map (Value.int .i64)).toArray 3 (0, 0)) → SlAt w' (.slice (some ⟨B, 0, none⟩) N N) (r.map (Value.int .i64)) [B] := fun w' r hr hb => by
            refine ⟨_, N, by rw [List.length_map, hr], fun _ => ⟨B, 0, rfl, by simp, fun j u hj => ?_⟩⟩
            rw [Nat.zero_add, cell_of_heap hb]
            simpa using hj
          have ck := cell_of_heap hbk 0
          rw [List.getElem?_toArray] at ck
          have ck0 : wr.cell? ⟨B, 0, none⟩ = some (.int .i64 0) := ck
          have fk := free_of_heap hbk 0
          have hn : Keeps [] wo wr := N10.out.keeps.trans hkk (fun z hz => .inr (by rw [List.mem_singleton] at hz; omega))
          obtain ⟨cx, cy⟩ := Hb0.out _ hn
          have hlB : B < wr.heap.size := (Array.getElem?_eq_some_iff.1 hbk).1
          have hnew : New wo wr F1 := ⟨hn, N10.out.fresh⟩
          clear hlt2 ck
          cases kept
          · have hcr := hasCrash hh (by omega) _ (0 :: ks') [B] (hsl _ _ Hkl.out hbk) (one_lt hlB) hB10
            have hre := aside_crash HA.out 0 ks' (.inl rfl)
            rw [if_neg (by decide)] at hre
            clear hh hsl hbk ck0 fk
            go_wp2_with fail
            (with_reducible refine hcr.mono ?_)
            rintro e wa ⟨rfl, Fa, ha, ca⟩
            have na := hnew.chg ca
            have hr2 := hasRead ha 19 1 (by omega)
            rw [hre] at hr2
            clear hcr ca hnew hn ha hre
            go_wp2_with fail
            (with_reducible refine hr2.mono ?_)
            rintro e wb ⟨rfl, kb⟩
            have kz := KT HK0.out (KT na.keeps kb)
            clear hr2 na kb
            go_wp2_with (first | (go_at_call 13; (with_reducible refine (Fx.out _).mono ?_); rintro e wc ⟨rfl, kc⟩) | (go_at_call 11; (with_reducible refine (awake_any _).mono ?_); rintro e wd ⟨rfl, kd⟩))
            go_ret
            exact ⟨rfl, KT (KT kz kc) kd⟩
          · have hb2 : (wr.setCell ⟨B, 0, none⟩ (.int .i64 1)).heap[B]? = some (.cells ((1 :: ks').map (Value.int .i64)).toArray 3 (0, 0)) := by
              rw [heap_setCell hbk 0 _]
              congr 2
            have hks2 : Keeps [B] wr (wr.setCell ⟨B, 0, none⟩ (.int .i64 1)) := (Keeps.refl [B] wr).setCell (p := ⟨B, 0, none⟩) (by simp) _
            have hh2 := hh.keep hks2 HBF.out
            have hn2 : Keeps [] wo (wr.setCell ⟨B, 0, none⟩ (.int .i64 1)) := hn.trans hks2 (fun z hz => .inr (by rw [List.mem_singleton] at hz; omega))
            have hcr := hasCrash hh2 (by omega) _ (1 :: ks') [B] (hsl _ _ Hkl.out hb2) (one_lt (Nat.lt_of_lt_of_le hlB hks2.size)) hB10
            have hre := aside_crash HA.out 1 ks' (.inr rfl)
            rw [if_pos rfl] at hre
            have hnew2 : New wo (wr.setCell ⟨B, 0, none⟩ (.int .i64 1)) F1 := ⟨hn2, N10.out.fresh⟩
            obtain ⟨cx2, cy2⟩ := Hb0.out _ hn2
            clear hh hsl hbk hh2 hnew hb2 hks2 hn
            go_wp2_with fail
            (with_reducible refine hcr.mono ?_)
            rintro e wa ⟨rfl, Fa, ha, ca⟩
            have na := hnew2.chg ca
            have hr2 := hasRead ha 19 1 (by omega)
            rw [hre] at hr2
            clear hcr ca hnew2 hn2 ha hre
            go_wp2_with fail
            (with_reducible refine hr2.mono ?_)
            rintro e wb ⟨rfl, kb⟩
            have kz := KT HK0.out (KT na.keeps kb)
            clear hr2 na kb
            go_wp2_with (first | (go_at_call 13; (with_reducible refine (Fy.out _).mono ?_); rintro e wc ⟨rfl, kc⟩) | (go_at_call 11; (with_reducible refine (awake_any _).mono ?_); rintro e wd ⟨rfl, kd⟩))
            go_ret
            exact ⟨rfl, KT (KT kz kc) kd⟩

theorem walk_any (x y : UInt8) (l : List OpS) (kept : Bool) (v : Value) (G : List Nat) (W : World) (hv : OpsAt W v l G) (hl : l.length ≤ 9223372036854775807) (hg : ∀ o, o ∈ l → o.good W) :
    Calls Try.prog 6 #[.agg #[.int .u8 x.toNat, .int .u8 y.toNat], v, .bool kept] W fun e w' => e = .returned (.bool true) ∧ Keeps [] W w' := by
  cases hf : fewB l
  · exact walk_no x y l kept v G W hv hl hg hf
  · exact walk_yes x y l kept v G W hv hg hf

theorem open_arr2 {H : Type} {enc : TypeId × Value → H} {P : Program} {W : World} {t e : TypeId} {v : Value} {d : DataW H} {p : List MemPlace} {r : Reach} {b0 : Nat} (hc : P.cellsOf t = 2) (hc1 : P.cellsOf e = 1)
    (ht : P.underlying t = some (.array 2 e)) (he : P.underlying e = some (.int .u8)) (hok : Value.okWide P W r b0 t v) (h : DataW.Trod enc P W 0 (fun _ => true) true t v d p) : ∃ x y : UInt8, v = .agg #[.int .u8 x.toNat, .int .u8 y.toNat] := by
  simp only [Value.okWide, ht] at hok
  obtain ⟨cs, rfl, h2, _⟩ := hok
  obtain ⟨n, hn⟩ := h
  obtain ⟨xs, m, _, _, hcl, hxl, hi⟩ := DataW.trod_array ht hn
  have hcl2 : cs.toList.length = 2 := by rw [← hc]; exact hcl
  match hcs : cs.toList, hcl2 with
  | [c0, c1], _ =>
    have hcs' : (Value.agg cs).cells.toList = [c0, c1] := hcs
    rw [hcs'] at hi
    have h0 := hi 0 (by omega)
    have h1 := hi 1 (by omega)
    rw [hc1] at h0 h1
    simp only [Nat.zero_mul, List.drop_zero, Nat.one_mul, List.drop_succ_cons, List.take_succ_cons, List.take_zero] at h0 h1
    rw [List.getElem?_eq_getElem (by omega)] at h0 h1
    obtain ⟨x, ex, _⟩ := elem_u8 he h0
    obtain ⟨y, ey, _⟩ := elem_u8 he h1
    simp only [List.cons.injEq, and_true] at ex ey
    refine ⟨x, y, ?_⟩
    congr 1
    apply Array.toList_inj.1
    rw [hcs, ex, ey]
    rfl
-- ROWEND
set_option maxRecDepth 100000 in
theorem lifted (os : Os) (started : os.Started) (H : Type) (enc : TypeId × Value → H) :
    ReturnsInHanded {} Try.checked os 6 .any (Rows.ssdApartSpec.pre6 enc Try.prog Try.f6 Rows.ssdApartRow.domain false) (Rows.ssdApartSpec.post enc Try.prog Try.f6 false true false false) := by
  refine returnsInHanded_of_change (C := Try.checked) Try.own started (by kernel_rfl) Try.func6
    (ChangeSpec.witness6 (enc := enc) (C := Try.checked) false ⟨#[], #[.agg #[.int .u8 0, .int .u8 0], .slice none 0 0, .bool false], []⟩ 8 (by kernel_rfl) (by kernel_rfl) (by kernel_rfl) (by kernel_rfl)) ?_
  intro W base args ds gs before hval0 hW _ _
  have hval : ∀ (j : Nat) t v, Try.f6.params[j]? = some t → args[j]? = some v → Value.okWide Try.prog W .any base t v := hval0
  have hW' := hW
  obtain ⟨p, q, hA0, hV, rfl, hfz, hnd⟩ := hW
  have hA : DataW.TrodAll enc Try.prog W 0 (fun _ => true) true Try.f6.params.toList args.toList ds p := hA0
  rw [Try.params6] at hA hval
  obtain ⟨v0, vs0, d0, ds0, p0, q0, hargs, rfl, rfl, h0, r0⟩ := trodAll_cons hA
  obtain ⟨v1, vs1, d1, ds1, p1, q1, rfl, rfl, rfl, h1, r1⟩ := trodAll_cons r0
  obtain ⟨v2, vs2, d2, ds2, p2, q2, rfl, rfl, rfl, h2, r2⟩ := trodAll_cons r1
  obtain ⟨rfl, rfl, rfl⟩ := trodAll_nil r2
  obtain rfl : args = #[v0, v1, v2] := by cases args; simp_all
  obtain ⟨x, y, rfl⟩ := open_arr2 (by kernel_rfl) (by kernel_rfl) Try.underlying45 Try.underlying5 (hval 0 45 v0 rfl rfl) h0
  obtain ⟨l, Gl, hl, gl, bl, ll⟩ := open_rows OpS.vals (OpS.good W) 5 (by kernel_rfl) (by decide) Try.underlying38 (hval 1 38 v1 rfl rfl) (fun _ _ _ h => elem_op h) h1
  obtain ⟨kept, rfl, rfl, rfl⟩ := open_bool Try.underlying4 (hval 2 4 v2 rfl rfl) h2
  refine (walk_any x y l kept v1 Gl W hl ll gl).mono fun e W' ⟨he, hk⟩ => ?_
  subst he
  exact ⟨_, rfl, law_end Try.laidOut (by kernel_rfl) rfl rfl Try.underlying4 hW' rfl hk⟩

theorem proved : Rows.SsdApartSaid :=
  OpenClaim.holds_of_wide 6 Try.f6 rfl rfl rfl rfl rfl rfl rfl ⟨rfl, rfl, rfl, rfl, rfl⟩ rfl rfl rfl rfl rfl (by kernel_rfl) Try.func6 (by kernel_rfl)
    (of_decide_eq_true (by kernel_rfl)) (by unfold Func.isWrapper; first | (rw [if_pos (by decide +kernel)]; kernel_rfl) | (rw [if_neg (by decide +kernel)]; exact ⟨rfl, rfl⟩))
    (fun os started H enc _ => lifted os started H enc)
end Go.Proofs.Ytddehagceenbnaa.lawSsdApart
