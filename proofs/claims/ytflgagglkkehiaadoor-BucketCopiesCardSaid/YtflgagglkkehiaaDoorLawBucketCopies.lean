/- lighterlaw05.BucketCopies, whatever its input: true, and the input reads as it did. A copy is the same, goes its own way, and comes to the same by the same calls. Conditions: the tied card's. -/
import Derived.Test.YtflgagglkkehiaaDoorBlE
import Derived.Test.YtflgagglkkehiaaDoorBkX
import Derived.Deep.RegionHeld3
import Derived.Test.YtflgagglkkehiaaDoorCards
import Derived.Test.YtflgagglkkehiaaDoorTie
import Derived.SevenTiedAt
namespace Go.Proofs.YtflgagglkkehiaaDoor.lawBucketCopies
open Go.ChangeShapes Go.WideShapes Go.ChangeAt Go.RowKit

set_option maxHeartbeats 4000000 in
set_option maxRecDepth 100000 in
theorem walk_out (l m : List OpR) (v u : Value) (G E : List Nat) (w : World) (hv : SlRows w v OpR.vals 6 l G) (hu : SlRows w u OpR.vals 6 m E) (hg : ∀ o, o ∈ l → o.good w) (hh : ∀ o, o ∈ m → o.good w) (hl : l.length ≤ 9223372036854775807) (hm : m.length ≤ 9223372036854775807) (h : ¬ (few l = true ∧ few m = true)) :
    Calls Tryd.prog 9 #[v, u] w fun e w' => e = .returned (.bool true) ∧ Keeps [] w w' := by
  have N : Hid (Calls Tryd.prog 11 #[.int .i64 2000] w fun e w' => ∃ p, e = .returned (.tuple #[.pointer (some ⟨p, 0, none⟩), .int .i64 0]) ∧ Mine w w' p (newB 2000)) := m_new (w0 := w) (w := w) 2000 (by omega) (Keeps.refl _ _)
  have Aw := Lib.hid awake_any
  have Fe := Lib.hid (show ∀ w', Keeps [] w w' → _ from fun w' k => few_any l v G w' (hv.keep k (by simp)) (fun o ho => (hg o ho).newer k) hl)
  have Fm := Lib.hid (show ∀ w', Keeps [] w w' → _ from fun w' k => few_any m u E w' (hu.keep k (by simp)) (fun o ho => (hh o ho).newer k) hm)
  clear hv hg hu hh
  by_cases h1 : few l = true
  · have h2 : few m = false := by
      rw [Bool.eq_false_iff]
      exact fun h2 => h ⟨h1, h2⟩
    rw [h1] at Fe
    rw [h2] at Fm
    clear h h1 h2
    go_enter Tryd.func9, Tryd.ntmps9
    go_wp2_with (first
      | (go_at_call 11; (with_reducible refine (N.out).mono ?_); rintro e w1 ⟨p, rfl, m1⟩)
      | (go_at_call 20; (with_reducible refine (Fm.out _ (m1.keeps.trans k2 (by simp))).mono ?_); rintro e w3 ⟨rfl, k3⟩)
      | (go_at_call 20; (with_reducible refine (Fe.out _ m1.keeps).mono ?_); rintro e w2 ⟨rfl, k2⟩)
      | (go_at_call 12; (with_reducible refine (Aw.out _).mono ?_); rintro e w9 ⟨rfl, k9⟩))
    go_ret
    exact ⟨rfl, ((m1.keeps.trans k2 (by simp)).trans k3 (by simp)).trans k9 (by simp)⟩
  · rw [Bool.eq_false_iff.2 h1] at Fe
    clear h h1
    go_enter Tryd.func9, Tryd.ntmps9
    go_wp2_with (first
      | (go_at_call 11; (with_reducible refine (N.out).mono ?_); rintro e w1 ⟨p, rfl, m1⟩)
      | (go_at_call 20; (with_reducible refine (Fe.out _ m1.keeps).mono ?_); rintro e w2 ⟨rfl, k2⟩)
      | (go_at_call 12; (with_reducible refine (Aw.out _).mono ?_); rintro e w9 ⟨rfl, k9⟩))
    go_ret
    exact ⟨rfl, (m1.keeps.trans k2 (by simp)).trans k9 (by simp)⟩

set_option maxHeartbeats 16000000 in
set_option maxRecDepth 100000 in
theorem walk (l m : List OpR) (v u : Value) (G E : List Nat) (w : World) (hv : SlRows w v OpR.vals 6 l G) (hu : SlRows w u OpR.vals 6 m E) (hg : ∀ o, o ∈ l → o.good w) (hh : ∀ o, o ∈ m → o.good w) (hfew : few l = true) (hfm : few m = true) :
    Calls Tryd.prog 9 #[v, u] w fun e w' => e = .returned (.bool true) ∧ Keeps [] w w' := by
  obtain ⟨hl60, hsp⟩ := few_spec hfew
  obtain ⟨hm60, hsm⟩ := few_spec hfm
  have N : Hid (Calls Tryd.prog 11 #[.int .i64 2000] w fun e w' => ∃ p, e = .returned (.tuple #[.pointer (some ⟨p, 0, none⟩), .int .i64 0]) ∧ Mine w w' p (newB 2000)) := m_new (w0 := w) (w := w) 2000 (by omega) (Keeps.refl _ _)
  have Aw := Lib.hid awake_any
  have Fe := Lib.hid (show ∀ w', Keeps [] w w' → _ from fun w' k => few_any l v G w' (hv.keep k (by simp)) (fun o ho => (hg o ho).newer k) (by omega))
  have Fm := Lib.hid (show ∀ w', Keeps [] w w' → _ from fun w' k => few_any m u E w' (hu.keep k (by simp)) (fun o ho => (hh o ho).newer k) (by omega))
  rw [hfew] at Fe
  rw [hfm] at Fm
  have Hrk := Lib.hid (fun k => runA_ok (l.take k) (newB 2000) 0 (newB_ok 2000 (by omega) 0) (fun o ho => ⟨(hsp o (List.mem_of_mem_take ho)).2.2, (hg o (List.mem_of_mem_take ho)).L⟩))
  have Hrm := Lib.hid (fun (b : Bk) (hb : b.ok 60) k => runA_ok (m.take k) b 60 hb (fun o ho => ⟨(hsm o (List.mem_of_mem_take ho)).2.2, (hh o (List.mem_of_mem_take ho)).L⟩))
  have Hv := Lib.hid hv
  have Hg := Lib.hid hg
  have Hsp := Lib.hid hsp
  have Hu := Lib.hid hu
  have Hh := Lib.hid hh
  have Hsm := Lib.hid hsm
  have hso : (Tryd.prog.info? 42).map (·.size) = some 6 := sizeOp
  have Hso := Lib.hid hso
  obtain ⟨ad, cap, rfl, _⟩ := hv
  obtain ⟨au, cau, rfl, _⟩ := hu
  clear hg hfew hsp hh hfm hsm hso
  go_enter Tryd.func9, Tryd.ntmps9
  go_wp2_with (first
    | (go_at_call 11; (with_reducible refine (N.out).mono ?_); rintro e w1 ⟨p, rfl, m1⟩)
    | (go_at_call 20; (with_reducible refine (Fm.out _ (m1.keeps.trans k2 (by simp))).mono ?_); rintro e w3 ⟨rfl, k3⟩)
    | (go_at_call 20; (with_reducible refine (Fe.out _ m1.keeps).mono ?_); rintro e w2 ⟨rfl, k2⟩))
  have m3 := (m1.newer k2).newer k3
  clear m1 k2 k3
  obtain ⟨F0, hb0, hF0, kw3⟩ := m3
  have hr0 := ref_new w3 2000
  have kal : Keeps [] w3 (w3.alloc (.cells #[.slice none 0 0, .int .i64 2000, .slice none 0 0, .slice none 0 0] 58)) := (Keeps.refl [] w3).alloc _
  have start : ∃ F1 F2 : List Nat, Two w (w3.alloc (.cells #[.slice none 0 0, .int .i64 2000, .slice none 0 0, .slice none 0 0] 58)) p w3.heap.size (runA (newB 2000) (l.take 0)) (runA (newB 2000) (l.take 0)) F1 F2 :=
    ⟨F0, [w3.heap.size], hb0.newer kal, hr0, hF0, (fun x hx => by rw [List.mem_singleton] at hx; have := kw3.size; omega), (fun x hx h => by rw [List.mem_singleton] at hx; have := hb0.lt x h; omega), kw3.trans kal (by simp)⟩
  have Start := Lib.hid start
  clear start kal hr0 hb0 hF0 kw3
  generalize w3.alloc (.cells #[.slice none 0 0, .int .i64 2000, .slice none 0 0, .slice none 0 0] 58) = w4 at *
  generalize w3.heap.size = r at *
  go_loopw [8] (fun iv wr => ∃ (k : Nat) (F1 F2 : List Nat), k ≤ l.length ∧ iv = .int .i64 k ∧ Two w wr p r (runA (newB 2000) (l.take k)) (runA (newB 2000) (l.take k)) F1 F2) (fun iv _ => l.length - (intOf iv).toNat)
  case atStart =>
    obtain ⟨F1, F2, h⟩ := Start.out
    exact ⟨0, F1, F2, Nat.zero_le _, rfl, h⟩
  case round =>
    obtain ⟨k, F1, F2, hk, rfl, h2⟩ := hrel
    clear Start
    by_cases hlk : k < l.length
    · obtain ⟨o, ho⟩ : ∃ o, l[k]? = some o := ⟨l[k], by simp [hlk]⟩
      obtain ⟨b, off, rfl, _, hc⟩ := Hv.out.at ho
      have hmem := List.mem_of_getElem? ho
      have hgd := Hg.out o hmem
      have hL := (Hsp.out o hmem).2.2
      have hst : l.take (k + 1) = l.take k ++ [o] := by rw [List.take_add_one, ho]; rfl
      have hok := (Hrk.out k).mono (M := 60) (by rw [List.length_take]; omega)
      have hnx := runA_snoc (newB 2000) (l.take k) o
      rw [← hst] at hnx
      generalize runA (newB 2000) (l.take k) = bk at *
      have hra : Hid (∀ w', Keeps [] w w' → w'.rangeAt b (off + k * 6) o.vals) := fun w' kk j u hj => kk.cell0 (hc j u hj)
      have hc0 : wr.cell? ⟨b, off + k * 6, none⟩ = some (.int .i64 o.ask) := hra.out _ h2.kk 0 _ rfl
      have Hdo := Lib.hid (do_any p bk F1 wr h2.hb 60 hok (by omega) o (hgd.newer h2.kk) hL)
      have Has : Hid (∀ w', RfAt w' r bk F2 → Keeps [] w w' → Calls Tryd.prog 26 #[.pointer (some ⟨r, 0, none⟩), .agg o.vals.toArray] w' fun e w'' => ∃ v F', e = .returned v ∧ GotAt w' w'' v (bk.doO o).1 F' ∧ RfAt w'' r (bk.doO o).2 F' ∧ Chg F2 F' w' w'') := fun w' h kk => ask_any r bk F2 w' h 60 hok (by omega) o (hgd.newer kk) hL
      have hki : (k : Int) < (l.length : Int) := by omega
      have hki0 : (0 : Int) ≤ (k : Int) := by omega
      have Hnx := Lib.hid hnx
      have H2 := Lib.hid h2
      clear hnx hok hst ho hgd hL h2 hc
      go_wp2_with (first
        | ((with_reducible refine wpList_run (w' := wr) (o := ⟨some 55, _, _, _, _, _⟩) ?_ (.agg o.vals.toArray) ?_ ?_); exact rfl; exact exec_load wr 42 b (off + k * 6) o.vals _ (hra.out _ H2.out.kk) Tryd.underlying42 rfl Hso.out _ _ (.tmp 54) rfl rfl)
        | (go_at_call 21; (with_reducible refine (Hdo.out).mono ?_); rintro e w5 ⟨v5, F5, rfl, hg5, hb5, q5⟩; have t5 := Lib.hid (H2.out.does hb5 q5); clear hg5 hb5 q5; have hc5 := hra.out _ t5.out.kk 0 _ rfl)
        | ((with_reducible refine wpList_run (w' := w5) (o := ⟨some 61, _, _, _, _, _⟩) ?_ (.agg o.vals.toArray) ?_ ?_); exact rfl; exact exec_load w5 42 b (off + k * 6) o.vals _ (hra.out _ t5.out.kk) Tryd.underlying42 rfl Hso.out _ _ (.tmp 60) rfl rfl)
        | (go_at_call 26; (with_reducible refine (Has.out _ t5.out.hr t5.out.kk).mono ?_); rintro e w6 ⟨v6, F6, rfl, hg6, hr6, q6⟩; have t6 := Lib.hid (t5.out.asks hr6 q6); clear hg6 hr6 q6))
      go_roundw
      case rel => exact ⟨k + 1, F5, F6, by omega, by go_num, by rw [Hnx.out]; exact t6.out⟩
      case measure => simp [intOf]; omega
    · obtain rfl : k = l.length := by omega
      rw [List.take_length] at h2
      have hok := (Hrk.out l.length).mono (M := 60) (by rw [List.length_take]; omega)
      rw [List.take_length] at hok
      generalize runA (newB 2000) l = bl at *
      have H2 := Lib.hid h2
      have Hok := Lib.hid hok
      have Hcp := Lib.hid (copy_any p bl F1 wr h2.hb 60 hok (by omega))
      have Hsa := Lib.hid (fun (w' : World) (q : Nat) (F : List Nat) (hb : BkAt w' q bl F) (hr : RfAt w' r bl F2) => samee_any q r bl F F2 w' hb hr 60 hok (by omega))
      clear h2 hok
      go_wp2_with (first
        | (go_at_call 28; (with_reducible refine (Hcp.out).mono ?_); rintro e w5 ⟨c, Fc, rfl, hc5, hF5, k5⟩; have t5 := Lib.hid (H2.out.newer k5))
        | (go_at_call 27; (with_reducible refine (Hsa.out _ c _ hc5 t5.out.hr).mono ?_); rintro e w6 ⟨rfl, k6⟩))
      obtain ⟨W0, hW0⟩ : ∃ W0, W0 = wr := ⟨_, rfl⟩
      subst hW0
      have th0 : Third W0 w6 c (.slice none 0 0) bl m 0 [] Fc [] [] := Third.start (hc5.newer k6) hF5
      have T0 := Lib.hid th0
      have K0 := Lib.hid (k5.trans k6 (by simp))
      clear th0 hc5 hF5 k5 k6 t5 Hcp
      go_loopw [10, 11] (fun fv iv wq => ∃ (k : Nat) (xs : List Value) (Fc Gf G : List Nat), k ≤ m.length ∧ iv = .int .i64 k ∧ Third W0 wq c fv bl m k xs Fc Gf G ∧ Keeps [] W0 wq) (fun _ iv _ => m.length - (intOf iv).toNat)
      case atStart => exact ⟨0, [], Fc, [], [], Nat.zero_le _, rfl, T0.out, K0.out⟩
      case round =>
        obtain ⟨k, xs, Fc, Gf, Gg, hk, rfl, h3, k3⟩ := hrel
        clear T0 K0
        by_cases hlk : k < m.length
        · obtain ⟨o, ho⟩ : ∃ o, m[k]? = some o := ⟨m[k], by simp [hlk]⟩
          obtain ⟨b, off, rfl, _, hc⟩ := Hu.out.at ho
          have hmem := List.mem_of_getElem? ho
          have hgd := Hh.out o hmem
          have hL := (Hsm.out o hmem).2.2
          have hok := (Hrm.out bl Hok.out k).mono (M := 120) (by rw [List.length_take]; omega)
          have kw := H2.out.kk.trans k3 (by simp)
          have hra : Hid (wr.rangeAt b (off + k * 6) o.vals) := fun j u hj => kw.cell0 (hc j u hj)
          have hc0 : wr.cell? ⟨b, off + k * 6, none⟩ = some (.int .i64 o.ask) := hra.out 0 _ rfl
          have Hdo := Lib.hid (do_any c _ Fc wr h3.hc 120 hok (by omega) o (hgd.newer kw) hL)
          obtain ⟨fad, fcap, rfl, _⟩ := h3.row.shape
          have hki : (k : Int) < (m.length : Int) := by omega
          have hki0 : (0 : Int) ≤ (k : Int) := by omega
          have H3 := Lib.hid h3
          have K3 := Lib.hid k3
          have Ho := Lib.hid ho
          clear hok ho hgd hL h3 k3 kw hc
          go_wp2_with (first
            | ((with_reducible refine wpList_run (w' := wr) (o := ⟨some 84, _, _, _, _, _⟩) ?_ (.agg o.vals.toArray) ?_ ?_); exact rfl; exact exec_load wr 42 b (off + k * 6) o.vals _ hra.out Tryd.underlying42 rfl Hso.out _ _ (.tmp 83) rfl rfl)
            | (go_at_call 21; (with_reducible refine (Hdo.out).mono ?_); rintro e w7 ⟨v7, F7, rfl, ⟨lv7, rfl, hrow7, hnew7⟩, hb7, q7⟩; obtain ⟨la, lc, rfl⟩ := ownsRow_shape hrow7
               obtain ⟨V, G7, wq, hrun, hrow, hq⟩ := exec_appR (P := Tryd.prog) tyGots 63 w7 (w7.alloc (.cells (#[.string (str ((runA bl (m.take k)).doO o).1.s), .int .i64 ((runA bl (m.take k)).doO o).1.n, .slice la ((runA bl (m.take k)).doO o).1.l.length lc, .int .i64 ((runA bl (m.take k)).doO o).1.e]) 45)) w7.heap.size _ ((Keeps.refl [] _).alloc _) (heap_alloc_self w7 _) (H3.out.row.keep q7.keeps H3.out.d1) rfl (by simp [Value.oneCell']) (by omega) (by unfold maxLen; omega)
               have Nx := Lib.hid (H3.out.next K3.out Ho.out hrow7 hnew7 hb7 q7 hrow hq)
               obtain ⟨va, vc, rfl, _⟩ := hrow.shape
               have Hrun := Lib.hid hrun
               clear hrow7 hnew7 hb7 q7 hrow hq hrun)
            | ((with_reducible refine wpList_run (w' := w7.alloc (.cells (#[.string (str ((runA bl (m.take k)).doO o).1.s), .int .i64 ((runA bl (m.take k)).doO o).1.n, .slice la ((runA bl (m.take k)).doO o).1.l.length lc, .int .i64 ((runA bl (m.take k)).doO o).1.e]) 45)) (o := ⟨some 86, _, _, _, _, _⟩) ?_ (.slice (some ⟨w7.heap.size, 0, none⟩) 1 1) ?_ ?_); exact rfl; exact exec_buildOne w7 63 45 [.string (str ((runA bl (m.take k)).doO o).1.s), .int .i64 ((runA bl (m.take k)).doO o).1.n, .slice la ((runA bl (m.take k)).doO o).1.l.length lc, .int .i64 ((runA bl (m.take k)).doO o).1.e] Tryd.underlying63 sizeGot (by kernel_rfl) (by simp) (by simp) _ _ (.tmp 85) rfl rfl)
            | ((with_reducible refine wpList_run (w' := wq) (o := ⟨some 87, _, _, _, _, _⟩) ?_ (.slice va (k + 1) vc) ?_ ?_); exact rfl; exact Hrun.out _ _ (.tmp 79) (.tmp 86) rfl rfl rfl rfl))
          go_roundw
          case rel =>
            obtain ⟨xs', G2, hn, hk2⟩ := Nx.out
            exact ⟨k + 1, xs', F7, G7, G2, by omega, by go_num, hn, hk2⟩
          case measure => simp [intOf]; omega
        · obtain rfl : k = m.length := by omega
          have t7 := H2.out.newer k3
          have hdj0 : ∀ x, x ∈ Fc ++ Gf ++ Gg → x ∉ F1 ∧ x ∉ F2 := fun x hx => ⟨fun h => by have := H2.out.hb.lt x h; have := h3.new x hx; omega, fun h => by have := H2.out.hr.lt x h; have := h3.new x hx; omega⟩
          have T7 := Lib.hid t7
          have H3 := Lib.hid h3
          obtain ⟨fad, fcap, rfl, _⟩ := h3.row.shape
          clear h3 k3 t7
          go_wp2_with (go_at_call 27; (with_reducible refine (Hsa.out _ p _ T7.out.hb T7.out.hr).mono ?_); rintro e w8 ⟨rfl, k8⟩)
          have S8 : Hid (Two w w8 p r (runA bl (m.take 0)) (runA bl (m.take 0)) F1 F2) := T7.out.newer k8
          have H8 := Lib.hid (H3.out.keep k8 (by simp))
          have Hdj0 := Lib.hid hdj0
          clear k8 T7 H3 hdj0 Hsa H2
          generalize hnm : m.length = nm at *
          go_loopw [12] (fun iv wq => ∃ (k : Nat) (F1 F2 : List Nat), k ≤ nm ∧ iv = .int .i64 k ∧ Two w wq p r (runA bl (m.take k)) (runA bl (m.take k)) F1 F2 ∧ Third W0 wq c (.slice fad nm fcap) bl m nm xs Fc Gf Gg ∧ (∀ x, x ∈ Fc ++ Gf ++ Gg → x ∉ F1 ∧ x ∉ F2)) (fun iv _ => nm - (intOf iv).toNat)
          case atStart => exact ⟨0, F1, F2, Nat.zero_le _, rfl, S8.out, H8.out, Hdj0.out⟩
          case round =>
            obtain ⟨k, F1, F2, hk, rfl, h2, h3, hdj⟩ := hrel
            clear S8 H8 Hdj0
            by_cases hlk : k < nm
            · obtain ⟨o, ho⟩ : ∃ o, m[k]? = some o := ⟨m[k]'(by omega), by simp [hnm, hlk]⟩
              obtain ⟨b, off, rfl, hnm2, hc⟩ := Hu.out.at ho
              have hmem := List.mem_of_getElem? ho
              have hgd := Hh.out o hmem
              have hL := (Hsm.out o hmem).2.2
              have hok := (Hrm.out bl Hok.out k).mono (M := 120) (by rw [List.length_take]; omega)
              have hst : m.take (k + 1) = m.take k ++ [o] := by rw [List.take_add_one, ho]; rfl
              have hnx := runA_snoc bl (m.take k) o
              rw [← hst] at hnx
              obtain ⟨fa, fn, fc, Gi, x0, x1, x2, x3, hs2, hsub⟩ := h3.first.2 k o hlk ho
              have hcap : 0 < fcap := by obtain ⟨_, _, e, h, _⟩ := h3.row.shape; injection e with _ _ e; omega
              obtain ⟨g, fo, rfl⟩ : ∃ g fo, fad = some ⟨g, fo, none⟩ := by
                obtain ⟨a', c', e, _, _, h⟩ := h3.row.shape
                injection e with e1 _ e2
                subst e2
                obtain ⟨g, fo, e3⟩ := h hcap
                exact ⟨g, fo, e1.trans e3⟩
              have hfirst := h3.row.cell hcap
              have hgG : g ∈ Gf := by
                obtain ⟨a', c', e, _, _, _, _, h⟩ := h3.row
                injection e with e1 _ e2
                subst e2
                obtain ⟨g', o', e3, e4, _⟩ := h hcap
                rw [e3] at e1
                injection e1 with e1
                injection e1 with e1
                rw [e1, e4]; simp
              generalize runA bl (m.take k) = bk at *
              have hok2 := hok.doO o hL hgd.L
              have hll := list_le bk o hok (by omega)
              have kw := h2.kk
              have hra : Hid (wr.rangeAt b (off + k * 6) o.vals) := fun j u hj => kw.cell0 (hc j u hj)
              have hc0 : wr.cell? ⟨b, off + k * 6, none⟩ = some (.int .i64 o.ask) := hra.out 0 _ rfl
              have Hdo := Lib.hid (do_any p bk F1 wr h2.hb 120 hok (by omega) o (hgd.newer kw) hL)
              have Has : Hid (∀ w', RfAt w' r bk F2 → Keeps [] w w' → Calls Tryd.prog 26 #[.pointer (some ⟨r, 0, none⟩), .agg o.vals.toArray] w' fun e w'' => ∃ v F', e = .returned v ∧ GotAt w' w'' v (bk.doO o).1 F' ∧ RfAt w'' r (bk.doO o).2 F' ∧ Chg F2 F' w' w'') := fun w' h kk => ask_any r bk F2 w' h 120 hok (by omega) o (hgd.newer kk) hL
              generalize (bk.doO o).1 = gg at *
              generalize (bk.doO o).2 = b2 at *
              obtain ⟨gs, gn, gl, ge⟩ := gg
              have hki : (k : Int) < (nm : Int) := by omega
              have hki0 : (0 : Int) ≤ (k : Int) := by omega
              have H2 := Lib.hid h2
              have H3 := Lib.hid h3
              have Hnx := Lib.hid hnx
              have Hc := Lib.hid hc
              have Hf := Lib.hid (And.intro hfirst (And.intro hgG (And.intro hs2 hsub)))
              have Hx := Lib.hid (And.intro x0 (And.intro x1 (And.intro x2 x3)))
              have Hdj := Lib.hid hdj
              clear hok hok2 hst ho hgd hL h2 h3 kw hc hnx hfirst hgG hs2 hsub x0 x1 x2 x3 hdj hnm2
              go_wp2_with (first
                | ((with_reducible refine wpList_run (w' := wr) (o := ⟨some 102, _, _, _, _, _⟩) ?_ (.agg o.vals.toArray) ?_ ?_); exact rfl; exact exec_load wr 42 b (off + k * 6) o.vals _ hra.out Tryd.underlying42 rfl Hso.out _ _ (.tmp 101) rfl rfl)
                | (go_at_call 21; (with_reducible refine (Hdo.out).mono ?_); rintro e w7 ⟨v7, F7, rfl, ⟨lv7, rfl, hrow7, hnew7⟩, hb7, q7⟩; obtain ⟨la, lc, rfl⟩ := ownsRow_shape hrow7
                   have t7 := Lib.hid (H2.out.does hb7 q7)))
              have Hrow7 := Lib.hid hrow7
              have Hnew7 := Lib.hid (fun x (hx : x ∈ (Value.slice la gl.length lc).ownBlock.toList) => (hnew7 x hx).1)
              have Hk7 := Lib.hid q7.keeps
              have H37 := Lib.hid (H3.out.keep q7.keeps (fun x hx => (Hdj.out x hx).1))
              have HF7 := Lib.hid (fun x (hx : x ∈ Fc ++ Gf ++ Gg) (h : x ∈ F7) => (q7.fresh x h).elim (fun h => (Hdj.out x hx).1 h) (fun h => by have := H3.out.lt x hx; omega))
              clear hrow7 hnew7 hb7 q7 Hdo H3
              obtain ⟨W8, hW8⟩ : ∃ W8, W8 = w7.alloc (.cells #[.string (str gs), .int .i64 gn, .slice la gl.length lc, .int .i64 ge] 45) := ⟨_, rfl⟩
              rw [← hW8]
              obtain ⟨X, hX⟩ : ∃ X, X = w7.heap.size := ⟨_, rfl⟩
              rw [← hX]
              have kd : Keeps [] w7 W8.drew := by rw [hW8]; exact ((Keeps.refl [] w7).alloc _).drew
              have hWX : W8.heap[X]? = some (.cells #[.string (str gs), .int .i64 gn, .slice la gl.length lc, .int .i64 ge] 45) := by rw [hW8, hX]; exact heap_alloc_self w7 _
              have hXF : X ∉ F2 := fun h => by have := t7.out.hr.lt X h; omega
              have cells : Hid (∀ w', Keeps F2 W8.drew w' → Keeps [] w w' → ((w'.cell? ⟨X, 0, none⟩ = some (.string (str gs)) ∧ w'.cell? ⟨X, 1, none⟩ = some (.int .i64 gn) ∧ w'.cell? ⟨X, 2, none⟩ = some (.slice la gl.length lc) ∧ w'.cell? ⟨X, 3, none⟩ = some (.int .i64 ge)) ∧ (w'.cell? ⟨b, off + k * 6, none⟩ = some (.int .i64 o.ask) ∧ w'.cell? ⟨b, off + k * 6 + 1, none⟩ = some (.string (str o.name)) ∧ w'.cell? ⟨b, off + k * 6 + 2, none⟩ = some (.string (str o.data)) ∧ w'.cell? ⟨b, off + k * 6 + 3, none⟩ = some (.int .i64 o.at_) ∧ w'.cell? ⟨b, off + k * 6 + 4, none⟩ = some (.int .i64 o.n) ∧ w'.cell? ⟨b, off + k * 6 + 5, none⟩ = some o.lv) ∧ (w'.cell? ⟨g, fo + k * 4, none⟩ = some (.string (str gs)) ∧ w'.cell? ⟨g, fo + k * 4 + 1, none⟩ = some (.int .i64 gn) ∧ w'.cell? ⟨g, fo + k * 4 + 2, none⟩ = some (.slice fa fn fc) ∧ w'.cell? ⟨g, fo + k * 4 + 3, none⟩ = some (.int .i64 ge)))) := fun w' k1 k2 => by
                have hh := k1.some (w := W8.drew) hWX hXF
                have hf := (H37.out.keep kd (by simp)).row.keep (w' := w') k1 (fun x hx => (Hdj.out x (by simp [hx])).2)
                have hcap : 0 < fcap := by
                  obtain ⟨_, _, e, h, _⟩ := hf.shape
                  simp only [Value.slice.injEq] at e
                  omega
                have hf4 := hf.cell hcap
                refine ⟨⟨cell_of_heap hh 0, cell_of_heap hh 1, cell_of_heap hh 2, cell_of_heap hh 3⟩, ⟨k2.cell0 (Hc.out 0 _ rfl), k2.cell0 (Hc.out 1 _ rfl), k2.cell0 (Hc.out 2 _ rfl), k2.cell0 (Hc.out 3 _ rfl), k2.cell0 (Hc.out 4 _ rfl), k2.cell0 (Hc.out 5 _ rfl)⟩, hf4 _ _ Hx.out.1, ?_, ?_, ?_⟩
                · rw [Nat.add_assoc]; exact hf4 _ _ Hx.out.2.1
                · rw [Nat.add_assoc]; exact hf4 _ _ Hx.out.2.2.1
                · rw [Nat.add_assoc]; exact hf4 _ _ Hx.out.2.2.2
              have t8 : Two w W8.drew p r b2 bk F7 F2 := t7.out.newer kd
              have three : Hid (∀ (w9 : World) (v : Value) (F9 : List Nat), GotAt W8.drew w9 v ⟨gs, gn, gl, ge⟩ F9 → RfAt w9 r b2 F9 → Chg F2 F9 W8.drew w9 → ∃ lb ln lc2, v = .agg #[.string (str gs), .int .i64 gn, .slice lb ln lc2, .int .i64 ge] ∧ (∀ w', Keeps [] w9 w' → Calls Tryd.prog 25 #[.agg #[.string (str gs), .int .i64 gn, .slice la gl.length lc, .int .i64 ge], .agg #[.string (str gs), .int .i64 gn, .slice lb ln lc2, .int .i64 ge]] w' fun e w'' => e = .returned (.bool true) ∧ Keeps [] w' w'') ∧ (∀ w', Keeps [] w9 w' → Calls Tryd.prog 25 #[.agg #[.string (str gs), .int .i64 gn, .slice la gl.length lc, .int .i64 ge], .agg #[.string (str gs), .int .i64 gn, .slice fa fn fc, .int .i64 ge]] w' fun e w'' => e = .returned (.bool true) ∧ Keeps [] w' w'') ∧ Keeps F2 W8.drew w9 ∧ Keeps [] w w9 ∧ Hid (Two w w9 p r b2 b2 F7 F9 ∧ Third W0 w9 c (.slice (some ⟨g, fo, none⟩) nm fcap) bl m nm xs Fc Gf Gg ∧ ∀ x, x ∈ Fc ++ Gf ++ Gg → x ∉ F7 ∧ x ∉ F9)) := fun w9 v F9 ⟨lv, e1, hrow, hnew⟩ hr9 q9 => by
                obtain ⟨lb, lc2, rfl⟩ := ownsRow_shape hrow
                have hsx : SlAt w9 (.slice la gl.length lc) (gl.map strV) _ := ((SlAt.own' Hrow7.out).keep kd (by simp)).keep q9.keeps (fun x hx h => by have := Hnew7.out x hx; have := H2.out.hr.lt x h; omega)
                have hsv := SlAt.own' hrow
                have h3 := H37.out.keep kd (by simp)
                have hs1 : SlAt w9 (.slice fa fn fc) (gl.map strV) _ := (((Hf.out.2.2.1.keep (Hk7.out) (fun x hx => (Hdj.out x (by simp [Hf.out.2.2.2 x hx])).1)).keep kd (by simp))).keep q9.keeps (fun x hx => (Hdj.out x (by simp [Hf.out.2.2.2 x hx])).2)
                have t9 := t8.asks hr9 q9
                refine ⟨lb, _, lc2, e1, fun w' kk => ?_, fun w' kk => ?_, ?_, t9.kk, t9, h3.keep q9.keeps (fun x hx => (Hdj.out x hx).2), fun x hx => ⟨HF7.out x hx, fun h => ?_⟩⟩
                · exact sgot_any gs gn ge gl _ _ _ _ w' (hsx.keep kk (by simp)) (hsv.keep kk (by simp)) hll
                · exact sgot_any gs gn ge gl _ _ _ _ w' (hsx.keep kk (by simp)) (hs1.keep kk (by simp)) hll
                · exact q9.keeps
                · rcases q9.fresh x h with h | h
                  · exact (Hdj.out x hx).2 h
                  · have := h3.lt x hx; omega
              have hlv : ∃ a n c, o.lv = .slice a n c := by
                rcases (Hh.out o hmem).src with ⟨h1, _⟩ | ⟨a, c, h1, _⟩
                · exact ⟨_, _, _, h1⟩
                · exact ⟨_, _, _, h1⟩
              obtain ⟨oa, on, oc, holv⟩ := hlv
              have D8 := Lib.hid (cells.out W8.drew (Keeps.refl _ _) t8.kk)
              unfold OpR.vals at Has
              rw [holv] at Has cells D8
              have T8 := Lib.hid t8
              clear t8 kd hWX hXF hra hc0 hW8 hX
              go_region_held3 (fun w' => (w'.cell? ⟨X, 0, none⟩ = some (.string (str gs)) ∧ w'.cell? ⟨X, 1, none⟩ = some (.int .i64 gn) ∧ w'.cell? ⟨X, 2, none⟩ = some (.slice la gl.length lc) ∧ w'.cell? ⟨X, 3, none⟩ = some (.int .i64 ge)) ∧ (w'.cell? ⟨b, off + k * 6, none⟩ = some (.int .i64 o.ask) ∧ w'.cell? ⟨b, off + k * 6 + 1, none⟩ = some (.string (str o.name)) ∧ w'.cell? ⟨b, off + k * 6 + 2, none⟩ = some (.string (str o.data)) ∧ w'.cell? ⟨b, off + k * 6 + 3, none⟩ = some (.int .i64 o.at_) ∧ w'.cell? ⟨b, off + k * 6 + 4, none⟩ = some (.int .i64 o.n) ∧ w'.cell? ⟨b, off + k * 6 + 5, none⟩ = some (.slice oa on oc)) ∧ (w'.cell? ⟨g, fo + k * 4, none⟩ = some (.string (str gs)) ∧ w'.cell? ⟨g, fo + k * 4 + 1, none⟩ = some (.int .i64 gn) ∧ w'.cell? ⟨g, fo + k * 4 + 2, none⟩ = some (.slice fa fn fc) ∧ w'.cell? ⟨g, fo + k * 4 + 3, none⟩ = some (.int .i64 ge)))
                (first | exact D8.out | exact D9.out | exact D10.out | exact D11.out)
                (first
                  | (go_at_call 26; refine (Has.out _ T8.out.hr T8.out.kk).mono ?_; rintro e w9 ⟨v9, F9, rfl, hg9, hr9, q9⟩; obtain ⟨lb, lbn, lbc, rfl, sA, sB, kF, kw9, hend⟩ := three.out _ _ _ hg9 hr9 q9; have D9 := Lib.hid (cells.out _ kF kw9))
                  | (go_at_call 25; refine (sB _ k10).mono ?_; rintro e w11 ⟨rfl, k11⟩; have D11 := Lib.hid (cells.out _ ((kF.trans k10 (by simp)).trans k11 (by simp)) ((kw9.trans k10 (by simp)).trans k11 (by simp))))
                  | (go_at_call 25; refine (sA _ (Keeps.refl [] _)).mono ?_; rintro e w10 ⟨rfl, k10⟩; have D10 := Lib.hid (cells.out _ (kF.trans k10 (by simp)) (kw9.trans k10 (by simp)))))
              have k911 : Keeps [] w9 w11 := k10.trans k11 (by simp)
              have Fin := Lib.hid (And.intro (hend.out.1.newer k911) (And.intro (hend.out.2.1.keep k911 (by simp)) hend.out.2.2))
              clear hg9 hr9 q9 sA sB kF kw9 hend D8 D9 D10 D11 k10 k11 k911 T8 three Has cells
              go_wp2
              go_roundw
              case rel => exact ⟨k + 1, F7, F9, by omega, by go_num, by rw [Hnx.out]; exact Fin.out⟩
              case measure => simp [intOf]; omega
            · obtain rfl : k = nm := by omega
              have hok := (Hrm.out bl Hok.out k).mono (M := 120) (by rw [List.length_take]; omega)
              have hcc := h3.hc
              have Hsa := Lib.hid (fun (w' : World) (q : Nat) (F : List Nat) (hb : BkAt w' q (runA bl (m.take k)) F) (hr : RfAt w' r (runA bl (m.take k)) F2) => samee_any q r _ F F2 w' hb hr 120 hok (by omega))
              generalize runA bl (m.take k) = bz at *
              have H2 := Lib.hid h2
              have Hcc := Lib.hid hcc
              clear h2 h3 hcc hok hdj
              go_wp2_with (first
                | (go_at_call 27; (with_reducible refine (Hsa.out _ c _ (Hcc.out.newer k9) (H2.out.newer k9).hr).mono ?_); rintro e w10 ⟨rfl, k10⟩)
                | (go_at_call 27; (with_reducible refine (Hsa.out _ p _ H2.out.hb H2.out.hr).mono ?_); rintro e w9 ⟨rfl, k9⟩)
                | (go_at_call 12; (with_reducible refine (Aw.out _).mono ?_); rintro e w15 ⟨rfl, k15⟩))
              go_ret
              exact ⟨rfl, ((H2.out.kk.trans k9 (by simp)).trans k10 (by simp)).trans k15 (by simp)⟩
theorem walk_any (l m : List OpR) (v u : Value) (G E : List Nat) (W : World) (hv : SlRows W v OpR.vals 6 l G) (hu : SlRows W u OpR.vals 6 m E) (hg : ∀ o, o ∈ l → o.good W) (hh : ∀ o, o ∈ m → o.good W) (hl : l.length ≤ 9223372036854775807) (hm : m.length ≤ 9223372036854775807) :
    Calls Tryd.prog 9 #[v, u] W fun e w' => e = .returned (.bool true) ∧ Keeps [] W w' := by
  by_cases h : few l = true ∧ few m = true
  · exact walk l m v u G E W hv hu hg hh h.1 h.2
  · exact walk_out l m v u G E W hv hu hg hh hl hm h

-- ROWEND
set_option maxRecDepth 100000 in
theorem lifted (os : Os) (started : os.Started) (H : Type) (enc : TypeId × Value → H) :
    ReturnsInHanded {} Tryd.checked os 9 .any (fun w args => (Rows.bucketCopiesSpec.pre enc Tryd.prog Tryd.f9 [] false w args ∧ laidMetH Tryd.prog laidU w) ∧ sizedMet enc Tryd.prog Tryd.f9 (OpenSpec.ofChange Rows.bucketCopiesSpec) false w args)
      (Rows.bucketCopiesSpec.post enc Tryd.prog Tryd.f9 false true false false) := by
  refine returnsInHanded_of_change_and (C := Tryd.checked) (X := fun w _ => laidMetH Tryd.prog laidU w) (fun _ _ _ hh h => h.of_heap hh) Tryd.own started (by kernel_rfl) Tryd.func9
    (ChangeSpec.witness_shaped (enc := enc) (C := Tryd.checked) (os := os) (X := fun w _ => laidMetH Tryd.prog laidU w) false (World.laidAll Tryd.prog os laidU) #[.slice none 0 0, .slice none 0 0] 8 (World.laidAll_os _ _ _) (World.shaped_of_ZipB (by kernel_rfl) (by kernel_rfl)) (by kernel_rfl) (by kernel_rfl) (by kernel_rfl) (by rw [MakeChecks.laidMetH_plain _ _ _ (by kernel_rfl)]; exact laidMet_laidAll _ (by kernel_rfl) (by kernel_rfl))) ?_
  intro W base args ds gs before hval0 hW _ _ hL _
  have hval : ∀ (j : Nat) t v, Tryd.f9.params[j]? = some t → args[j]? = some v → Value.okWide Tryd.prog W .any base t v := hval0
  have hW' := hW
  obtain ⟨p, q, hA0, hV, rfl, hfz, hnd⟩ := hW
  have hA : DataW.TrodAll enc Tryd.prog W 0 (fun _ => true) true Tryd.f9.params.toList args.toList ds p := hA0
  rw [Tryd.params9] at hA hval
  obtain ⟨v0, vs0, d0, ds0, p0, q0, hargs, rfl, rfl, h0, r0⟩ := trodAll_cons hA
  obtain ⟨v1, vs1, d1, ds1, p1, q1, rfl, rfl, rfl, h1, r1⟩ := trodAll_cons r0
  obtain ⟨rfl, rfl, rfl⟩ := trodAll_nil r1
  obtain rfl : args = #[v0, v1] := by cases args; simp_all
  obtain ⟨l, Gl, hl, gl, bl, ll⟩ := open_rows OpR.vals (OpR.good W) 6 (by kernel_rfl) (by decide) Tryd.underlying38 (hval 0 38 v0 rfl rfl) (fun _ _ _ h => elem_op h) h0
  obtain ⟨m, Gm, hm, gm, bm, lm⟩ := open_rows OpR.vals (OpR.good W) 6 (by kernel_rfl) (by decide) Tryd.underlying38 (hval 1 38 v1 rfl rfl) (fun _ _ _ h => elem_op h) h1
  refine (walk_any l m v0 v1 Gl Gm W hl hm gl gm ll lm).mono fun e W' ⟨he, hk⟩ => ?_
  subst he
  exact ⟨_, rfl, law_end Tryd.laidOut (by kernel_rfl) rfl rfl Tryd.underlying4 hW' rfl hk⟩

theorem row_holds : Rows.BucketCopiesSaid :=
  OpenClaim.holds_of_wide 9 Tryd.f9 rfl rfl rfl rfl rfl rfl rfl ⟨rfl, rfl, rfl, rfl, rfl⟩ rfl rfl rfl rfl rfl (by kernel_rfl) Tryd.func9 (by kernel_rfl)
    (of_decide_eq_true (by kernel_rfl)) (by unfold Func.isWrapper; first | (rw [if_pos (by decide +kernel)]; kernel_rfl) | (rw [if_neg (by decide +kernel)]; exact ⟨rfl, rfl⟩))
    (fun os started H enc _ => lifted os started H enc)
theorem proved : Rows.BucketCopiesCardSaid :=
  Claim7.holds_tied_plain_at .later [] [.data, .pinned] true (true, "e4129f4e5938461e8878458e06df438afec1d99629e799e21c52c19d7c204c58") true
    row_holds (fun _ h => by cases h) (by kernel_rfl) (fun _ h => by cases h) bucketCopies_row_tie rfl ⟨rfl, rfl⟩ (by kernel_rfl) rfl
    (fun f fn hf hfn => by
      obtain rfl : f = 9 := Option.some.inj ((show Tryd.prog.funcNamed "lighter/lighterlaw05.BucketCopies" = some 9 by kernel_rfl).symm.trans hf) |>.symm
      obtain rfl : fn = Tryd.f9 := (Option.some.inj (Tryd.func9.symm.trans hfn)).symm
      exact ⟨by kernel_rfl, fun j t ht => by
        rw [Tryd.params9] at ht
        have hm : t ∈ [38, 38] := by simpa using Array.mem_of_getElem? ht
        have hall : ([38, 38].all fun u => !Tryd.prog.wantsStandIn u) = true := by kernel_rfl
        exact (show Tryd.prog.wantsStandIn t = false by simpa using List.all_eq_true.1 hall t hm)⟩)
    (by kernel_rfl)
end Go.Proofs.YtflgagglkkehiaaDoor.lawBucketCopies
