/- Layer 5, the document's answer: List, Land. -/
import Derived.Test.YtflgagglkkehiaaDoorBkY
namespace Go.Proofs.YtflgagglkkehiaaDoor
open Go.RowKit Go.Maps

theorem rcV_at : ∀ (l : List Cl) (k : Nat) (c : Cl), l[k]? = some c → ∀ j u, (rcV c)[j]? = some u → (l.flatMap rcV)[k * 3 + j]? = some u
  | [], k, c, h, _, _, _ => by simp at h
  | y :: r, 0, c, h, j, u, hj => by
    simp at h
    subst h
    rw [List.flatMap_cons, Nat.zero_mul, Nat.zero_add, List.getElem?_append_left (List.getElem?_eq_some_iff.1 hj).1]
    exact hj
  | y :: r, k + 1, c, h, j, u, hj => by
    rw [List.getElem?_cons_succ] at h
    have := rcV_at r k c h j u hj
    rw [List.flatMap_cons, List.getElem?_append_right (by show 3 ≤ _; omega), show (k + 1) * 3 + j - (rcV y).length = k * 3 + j by show _ - 3 = _; omega]
    exact this
theorem rc_drop (l : List Cl) (j : Nat) : (l.drop j).flatMap rcV = (l.flatMap rcV).drop (j * 3) := by
  induction l generalizing j with
  | nil => simp
  | cons y r ih =>
    cases j with
    | zero => simp
    | succ j => rw [List.drop_succ_cons, List.flatMap_cons, ih j, show (j + 1) * 3 = (rcV y).length + j * 3 by show _ = 3 + j * 3; omega, List.drop_length_add_append]
theorem rc_len (l : List Cl) : (l.flatMap rcV).length = l.length * 3 := by
  induction l with
  | nil => rfl
  | cons y r ih => rw [List.flatMap_cons, List.length_append, ih, List.length_cons]; show 3 + _ = _; omega
def Bk.setl (b : Bk) (x : List Cl) : Bk := { b with l := x }
theorem act_setl (b : Bk) (x : List Cl) (c : Cl) : ((b.setl x).act c).2 = ((b.act c).2).setl x := by
  unfold Bk.act Bk.put Bk.rem Bk.setl
  by_cases hc : c.1 = true
  · rw [if_pos hc, if_pos hc]
    dsimp only
    by_cases h1 : (getO b.m c.2.1).isSome = true
    · rw [if_pos h1, if_pos h1]
    · rw [if_neg h1, if_neg h1]
      by_cases h2 : b.q < usedO b.m + c.2.2.length
      · rw [if_pos h2, if_pos h2]
      · rw [if_neg h2, if_neg h2]
  · rw [if_neg hc, if_neg hc]
    dsimp only
    by_cases h1 : (getO b.m c.2.1).isSome = true
    · rw [if_pos h1, if_pos h1]
    · rw [if_neg h1, if_neg h1]
theorem landF_setl (x : List Cl) : ∀ (l : List Cl) (b : Bk), landF (b.setl x) l = (landF b l).setl x
  | [], _ => rfl
  | c :: r, b => by
    show landF ((b.setl x).act c).2 r = _
    rw [act_setl, landF_setl x r]
    rfl
theorem land_eq (b : Bk) (n : Int) : b.land n = (landF b (b.l.take (b.cut n))).setl (b.l.drop (b.cut n)) := by
  show landF (b.setl (b.l.drop (b.cut n))) _ = _
  rw [landF_setl]
theorem landF_ok : ∀ (l : List Cl) (b : Bk) (N : Nat), b.ok N → (∀ c, c ∈ l → c.2.2.length ≤ 65536) → (landF b l).ok (N + l.length)
  | [], _, _, h, _ => h
  | c :: r, b, N, h, hn => by
    have := landF_ok r (b.act c).2 (N + 1) (h.act c (hn c (by simp))) (fun c hc => hn c (List.mem_cons_of_mem _ hc))
    show (landF (b.act c).2 r).ok (N + (r.length + 1))
    rw [show N + (r.length + 1) = N + 1 + r.length by omega]
    exact this

section
set_option maxHeartbeats 8000000
set_option maxRecDepth 100000

/-- The late calls are cut. -/
theorem rcut (p : Nat) (b : Bk) (F F1 : List Nat) (w wr : World) (h : RfAt wr p b F1) (hch : Chg F F1 w wr) (K : Nat) (hK : K ≤ b.l.length) :
    ∃ lad lcap, wr.cell? ⟨p, 3, none⟩ = some (.slice lad b.l.length lcap) ∧ wr.frozen? ⟨p, 3, none⟩ = false ∧ K ≤ lcap ∧ b.l.length ≤ lcap ∧ (lcap = K → (RfAt (wr.setCell ⟨p, 3, none⟩ (.slice lad 0 0)) p (b.setl (b.l.drop K)) F1 ∧ Chg F F1 w (wr.setCell ⟨p, 3, none⟩ (.slice lad 0 0)))) ∧
      (lcap ≠ K → ∃ g off, lad = some ⟨g, off, none⟩ ∧ RfAt (wr.setCell ⟨p, 3, none⟩ (.slice (some ⟨g, off + K * 3, none⟩) (b.l.length - K) (lcap - K))) p (b.setl (b.l.drop K)) F1 ∧ Chg F F1 w (wr.setCell ⟨p, 3, none⟩ (.slice (some ⟨g, off + K * 3, none⟩) (b.l.length - K) (lcap - K)))) := by
  obtain ⟨ov, fv, lv, Go', Gf, Gl, hc⟩ := h
  obtain ⟨lad, lcap, rfl, hle, hcm, hao⟩ := hc.row.shape
  have hF := hc.foot
  have fin : ∀ lv', RowAt wr 3 lv' (b.l.drop K).length ((b.l.drop K).flatMap rcV) Gl → RfAt (wr.setCell ⟨p, 3, none⟩ lv') p (b.setl (b.l.drop K)) F1 ∧ Chg F F1 w (wr.setCell ⟨p, 3, none⟩ lv') := fun lv' h => by
    obtain ⟨h1, h2⟩ := hc.setL (l' := b.l.drop K) h hc.pl hc.ol hc.fl
    rw [← hF] at h1
    exact ⟨⟨_, _, _, _, _, _, h1⟩, hch.trans ⟨h2.mono (by intro z hz; rw [List.mem_singleton] at hz; rw [hz, hF]; simp), fun k hk => .inl hk⟩⟩
  refine ⟨lad, lcap, cell_of_heap hc.cells 3, free_of_heap hc.cells 3, by omega, hle, fun he => ?_, fun hne => ?_⟩
  · refine fin _ ?_
    rw [rc_drop, List.length_drop, show b.l.length - K = 0 by omega, List.drop_eq_nil_of_le (by rw [rc_len]; omega)]
    exact hc.row.cut
  · obtain ⟨g, off, rfl⟩ := hao (by omega)
    refine ⟨g, off, rfl, fin _ ?_⟩
    rw [rc_drop, List.length_drop]
    exact hc.row.drop K hK (by omega)

theorem rland_drop (p : Nat) (b : Bk) (F : List Nat) (w : World) (hb : RfAt w p b F) (n : Int) (hl : b.l.length ≤ 1000000) :
    Calls Tryd.prog 47 #[.pointer (some ⟨p, 0, none⟩), .int .i64 n, .bool true] w fun e w' => e = .returned (.int .i64 (b.cut n)) ∧ RfAt w' p (b.drop n) F ∧ Chg F F w w' := by
  obtain ⟨K, hK⟩ : ∃ K, b.cut n = K := ⟨_, rfl⟩
  have hKl : K ≤ b.l.length := by rw [← hK]; unfold Bk.cut; omega
  have hmin : min (max n 0) (b.l.length : Int) = (K : Int) := by rw [← hK]; unfold Bk.cut; omega
  have hdr : b.drop n = b.setl (b.l.drop K) := by unfold Bk.drop Bk.setl; rw [hK]
  obtain ⟨lad, lcap, c3, f3, hKc, hlc, h1, h2⟩ := rcut p b F F w w hb (Chg.refl _ _) K hKl
  rw [hK, hdr]
  have H1 := Lib.hid h1
  have H2 := Lib.hid h2
  clear h1 h2 hb hdr hK
  by_cases hcK : lcap = K
  · subst hcK
    have hlK : b.l.length = lcap := by omega
    have h3 := Lib.hid (H1.out rfl)
    rw [hlK] at hmin c3 hl hKl
    clear H1 H2 hlK hlc
    go_enter Tryd.func47, Tryd.ntmps47
    go_wp2
    go_loopw [7] (fun iv wr => iv = .int .i64 0 ∧ wr = w) (fun _ _ => 0)
    case atStart => exact ⟨rfl, rfl⟩
    case round =>
      obtain ⟨rfl, rfl⟩ := hrel
      by_cases hk0 : 0 < lcap
      · have d1 : decide ((0 : Int) < (lcap : Int)) = true := decide_eq_true (by omega)
        have d2 : decide (0 < lcap) = true := decide_eq_true hk0
        go_wp2
        go_ret
        exact ⟨rfl, h3.out⟩
      · have d1 : decide ((0 : Int) < (lcap : Int)) = false := decide_eq_false (by omega)
        have d2 : decide (0 < lcap) = false := decide_eq_false hk0
        go_wp2
        go_ret
        exact ⟨rfl, h3.out⟩
  · obtain ⟨g, off, rfl, h3⟩ := H2.out hcK
    have H3 := Lib.hid h3
    clear h3 H1 H2
    go_enter Tryd.func47, Tryd.ntmps47
    go_wp2
    go_loopw [7] (fun iv wr => iv = .int .i64 0 ∧ wr = w) (fun _ _ => 0)
    case atStart => exact ⟨rfl, rfl⟩
    case round =>
      obtain ⟨rfl, rfl⟩ := hrel
      by_cases hk0 : 0 < K
      · have d1 : decide ((0 : Int) < (K : Int)) = true := decide_eq_true (by omega)
        have d2 : decide (0 < K) = true := decide_eq_true hk0
        go_wp2
        go_ret
        exact ⟨rfl, H3.out⟩
      · have d1 : decide ((0 : Int) < (K : Int)) = false := decide_eq_false (by omega)
        have d2 : decide (0 < K) = false := decide_eq_false hk0
        go_wp2
        go_ret
        exact ⟨rfl, H3.out⟩

theorem rland_act (p : Nat) (b : Bk) (F : List Nat) (w : World) (hb : RfAt w p b F) (N : Nat) (hok : b.ok N) (hN : N ≤ 400000) (n : Int) :
    Calls Tryd.prog 47 #[.pointer (some ⟨p, 0, none⟩), .int .i64 n, .bool false] w fun e w' => e = .returned (.int .i64 (b.cut n)) ∧ ∃ F', RfAt w' p (b.land n) F' ∧ Chg F F' w w' := by
  obtain ⟨K, hK⟩ : ∃ K, b.cut n = K := ⟨_, rfl⟩
  have hKl : K ≤ b.l.length := by rw [← hK]; unfold Bk.cut; omega
  have hmin : min (max n 0) (b.l.length : Int) = (K : Int) := by rw [← hK]; unfold Bk.cut; omega
  have hll : b.l.length ≤ 400000 := by have := hok.few; omega
  have hle := land_eq b n
  rw [hK] at hle ⊢
  rw [hle]
  obtain ⟨lad0, lcap0, c30, f30, _, hlc0, _⟩ := rcut p b F F w w hb (Chg.refl _ _) K hKl
  have Hok := Lib.hid (fun j => landF_ok (b.l.take j) b N hok (fun c hc => (hok.nm c (List.mem_of_mem_take hc)).2))
  have Hnm := Lib.hid hok.nm
  clear hle hK hok
  go_enter Tryd.func47, Tryd.ntmps47
  go_wp2
  clear c30 f30 hlc0
  go_loopw [7] (fun iv wr => ∃ (j : Nat) (F1 : List Nat), j ≤ K ∧ iv = .int .i64 j ∧ RfAt wr p (landF b (b.l.take j)) F1 ∧ Chg F F1 w wr) (fun iv _ => K - (intOf iv).toNat)
  case atStart => exact ⟨0, F, Nat.zero_le _, rfl, hb, Chg.refl _ _⟩
  case round =>
    obtain ⟨j, F1, hj, rfl, hr, hch⟩ := hrel
    clear hb
    by_cases hlt : j < K
    · obtain ⟨c, hcl⟩ : ∃ c, b.l[j]? = some c := ⟨b.l[j]'(by omega), by simp⟩
      have hst : b.l.take (j + 1) = b.l.take j ++ [c] := by rw [List.take_add_one, hcl]; rfl
      have hnx : landF b (b.l.take (j + 1)) = ((landF b (b.l.take j)).act c).2 := by rw [hst, landF_snoc]
      have hokj := Hok.out j
      rw [List.length_take] at hokj
      have hlj := landF_l (b.l.take j) b
      have hn := Hnm.out c (List.mem_of_getElem? hcl)
      generalize landF b (b.l.take j) = bk at *
      have hact := ract_any p bk F1 wr hr _ hokj (by omega) c hn.1 hn.2
      obtain ⟨ov, fv, lv, Go', Gf, Gl, hc⟩ := hr
      obtain ⟨lad, lcap, rfl, hlc, _, hao⟩ := hc.row.shape
      rw [hlj] at hlc
      obtain ⟨g, off, rfl⟩ := hao (by omega)
      have c3 := cell_of_heap hc.cells 3
      have hra : wr.rangeAt g (off + j * 3) (rcV c) := fun i u hi => by
        have := hc.row.cell (by omega) _ _ (rcV_at bk.l j c (by rw [hlj]; exact hcl) i u hi)
        rwa [← Nat.add_assoc] at this
      have hd1 : decide ((j : Int) < (K : Int)) = true := decide_eq_true (by omega)
      have hd2 : decide (j < K) = true := decide_eq_true hlt
      rw [hlj] at c3
      have hji : (j : Int) < (b.l.length : Int) := by omega
      have hji0 : (0 : Int) ≤ (j : Int) := by omega
      have Hact := Lib.hid hact
      have Hra := Lib.hid hra
      have Hnx := Lib.hid hnx
      have Hch := Lib.hid hch
      unfold rcA at Hact
      clear hact hra hnx hch hc hokj hst hcl hn hlj hlc hao
      go_wp2_with (first
        | ((with_reducible refine wpList_run (w' := wr) (o := ⟨some 32, _, _, _, _, _⟩) ?_ (.agg #[.bool c.1, .string (str c.2.1), .string (str c.2.2)]) ?_ ?_); exact rfl; exact exec_load wr 94 g (off + j * 3) [.bool c.1, .string (str c.2.1), .string (str c.2.2)] _ Hra.out Tryd.underlying94 rfl sizeRc _ _ (.tmp 31) rfl rfl)
        | (go_at_call 62; (with_reducible refine (Hact.out).mono ?_); rintro e w2 ⟨rfl, F2, h3, h4⟩))
      go_roundw
      case rel => exact ⟨j + 1, F2, by omega, by go_num, by rw [Hnx.out]; exact h3, Hch.out.trans h4⟩
      case measure => simp [intOf]; omega
    · obtain rfl : j = K := by omega
      have hlj := landF_l (b.l.take j) b
      obtain ⟨bk, hbk⟩ : ∃ bk, landF b (b.l.take j) = bk := ⟨_, rfl⟩
      rw [hbk] at hlj hr
      have Hbk := Lib.hid hbk
      clear hbk
      rw [← hlj] at hKl hmin hll
      have hd1 : decide ((j : Int) < (j : Int)) = false := decide_eq_false (by omega)
      obtain ⟨lad, lcap, c3, f3, hKc, hlc, h1, h2⟩ := rcut p bk F F1 w wr hr hch j hKl
      rw [hlj] at h1 h2 c3 hlc hKl
      have H1 := Lib.hid h1
      have H2 := Lib.hid h2
      clear h1 h2 hr hch hmin
      by_cases hcK : lcap = j
      · subst hcK
        have hlK : b.l.length = lcap := by omega
        have h3 := Lib.hid (H1.out rfl)
        rw [hlK] at c3 hKl
        clear H1 H2 hlK hlc hlj hll
        go_wp2
        go_ret
        exact ⟨rfl, F1, by rw [Hbk.out]; exact h3.out⟩
      · obtain ⟨g, off, rfl, h3⟩ := H2.out hcK
        have H3 := Lib.hid h3
        clear h3 H1 H2 hlj hll
        go_wp2
        go_ret
        exact ⟨rfl, F1, by rw [Hbk.out]; exact H3.out⟩
end
end Go.Proofs.YtflgagglkkehiaaDoor
