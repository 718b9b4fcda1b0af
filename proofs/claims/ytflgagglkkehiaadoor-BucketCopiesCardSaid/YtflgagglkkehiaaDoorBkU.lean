/- Layer 5, the document's answer: do, of a Put. -/
import Derived.Test.YtflgagglkkehiaaDoorBkT
namespace Go.Proofs.YtflgagglkkehiaaDoor
open Go.RowKit Go.Maps

/-- How many names are ahead of k. -/
def ahead (m : Ob) (k : Bs) : Nat := (m.takeWhile (fun x => bytesBefore x.1 k)).length
theorem ahead_spec {m : Ob} {k : Bs} : ahead m k ≤ m.length ∧ (∀ j x, j < ahead m k → m[j]? = some x → bytesBefore x.1 k = true) ∧ (∀ x, m[ahead m k]? = some x → bytesBefore x.1 k = false) := by
  unfold ahead
  induction m with
  | nil => simp
  | cons y r ih =>
    obtain ⟨h1, h2, h3⟩ := ih
    by_cases hy : bytesBefore y.1 k = true
    · rw [List.takeWhile_cons, if_pos hy, List.length_cons, List.length_cons]
      refine ⟨by omega, fun j x hj hx => ?_, fun x hx => h3 x (by simpa using hx)⟩
      cases j with
      | zero => simp at hx; rw [← hx]; exact hy
      | succ j => exact h2 j x (by omega) (by simpa using hx)
    · rw [List.takeWhile_cons, if_neg hy]
      refine ⟨by simp, fun j x hj => by simp at hj, fun x hx => ?_⟩
      simp at hx
      rw [← hx]
      exact Bool.eq_false_iff.2 hy
theorem put_ahead {m : Ob} {k v : Bs} (h : getO m k = none) : putO m k v = m.take (ahead m k) ++ (k, v) :: m.drop (ahead m k) := by
  unfold putO
  rw [del_none h]
  have hne := get_none.1 h
  clear h
  unfold ahead
  induction m with
  | nil => rfl
  | cons y r ih =>
    have hy := hne y (by simp)
    have ihr := ih (fun p hp => hne p (List.mem_cons_of_mem _ hp))
    unfold insO
    by_cases hb : bytesBefore k y.1 = true
    · rw [if_pos hb]
      have h2 : ¬ bytesBefore y.1 k = true := by
        rw [bb_lt, decide_eq_true_eq] at *
        exact fun h => List.lt_irrefl _ (List.lt_trans hb h)
      rw [List.takeWhile_cons, if_neg h2]
      rfl
    · rw [if_neg hb]
      have h2 : bytesBefore y.1 k = true := by
        rw [bb_lt, decide_eq_true_eq] at *
        exact Classical.byContradiction fun h3 => hy (List.le_antisymm (List.not_lt.1 hb) (List.not_lt.1 h3))
      rw [List.takeWhile_cons, if_pos h2, List.length_cons, List.take_succ_cons, List.drop_succ_cons, List.cons_append, ihr]

theorem used_small (m : Ob) (h : ∀ p, p ∈ m → p.2.length ≤ 65536) : usedO m ≤ m.length * 65536 := by
  induction m with
  | nil => simp [usedO]
  | cons y r ih =>
    have h1 := h y (by simp)
    have h2 := ih (fun p hp => h p (List.mem_cons_of_mem _ hp))
    unfold usedO at *
    simp only [List.map_cons, List.sum_cons, List.length_cons]
    omega

set_option maxHeartbeats 8000000 in
set_option maxRecDepth 100000 in
theorem rput_any (p : Nat) (b : Bk) (F : List Nat) (w : World) (hb : RfAt w p b F) (N : Nat) (hok : b.ok N) (hN : N ≤ 1000000) (k v : Bs) (_hk : k.length ≤ 64) (hv : v.length ≤ 65536) :
    Calls Tryd.prog 62 #[.pointer (some ⟨p, 0, none⟩), .agg #[.bool true, .string (str k), .string (str v)]] w fun e w' => e = .returned (.int .i64 (b.put k v).1) ∧ ∃ F', RfAt w' p (b.put k v).2 F' ∧ Chg F F' w w' := by
  obtain ⟨B, hB⟩ : ∃ B, w.heap.size = B := ⟨_, rfl⟩
  obtain ⟨w0, hw0⟩ : ∃ w0, w.alloc (.cells #[.bool true, .string (str k), .string (str v)] 94) = w0 := ⟨_, rfl⟩
  have k0 : Keeps [] w w0 := by rw [← hw0]; exact (Keeps.refl [] w).alloc _
  have hbx := heap_alloc_self w (.cells #[.bool true, .string (str k), .string (str v)] 94)
  rw [hw0, hB] at hbx
  have hml : b.m.length ≤ 1000000 := by have := hok.few; omega
  have hlt := hb.lt
  have hb0 := hb.newer k0
  have Fi := Lib.hid (rfind_any p b F w0 hb0 k hml)
  have hBF : B ∉ F := fun h => by have := hlt B h; omega
  have hB0 : B < w0.heap.size := (Array.getElem?_eq_some_iff.1 hbx).1
  have x0 := cell_of_heap hbx 0
  have x1 := cell_of_heap hbx 1
  have x2 := cell_of_heap hbx 2
  by_cases hg : (getO b.m k).isSome = true
  · have hrm : b.put k v = (16, b) := by unfold Bk.put; rw [if_pos hg]
    have hfi : findI b.m k = (posO b.m k : Int) := by unfold findI; rw [if_pos hg]
    rw [hrm]
    rw [hfi] at Fi
    generalize posO b.m k = P at *
    have hP0 : (0 : Int) ≤ (P : Int) := by omega
    have Hb0 := Lib.hid hb0
    have K0 := Lib.hid k0
    clear hrm hfi hg hok hb hb0 k0 hlt hbx
    go_enter Tryd.func62, Tryd.ntmps62
    go_wp2_with (go_at_call 61; (with_reducible refine (Fi.out).mono ?_); rintro e w5 ⟨rfl, hw5⟩; rw [hw5]; clear hw5)
    go_ret
    exact ⟨rfl, F, Hb0.out, Chg.old K0.out (Chg.refl _ _)⟩
  · have hfi : findI b.m k = -1 := by unfold findI; rw [if_neg hg]
    rw [hfi] at Fi
    have hus := hok.fits
    have hq63 := hok.q63
    have Us := Lib.hid (fun n => rused_any p b F (w0.drewN n) (hb0.newer ((Keeps.refl [] w0).drewN n)) hml (by omega))
    obtain ⟨ov, fv, lv, Go', Gf, Gl, hc⟩ := hb0
    have c01 := cell_of_heap hc.cells 1
    have hw : IntKind.i64.wrap ((usedO b.m : Int) + (v.length : Int)) = (usedO b.m : Int) + (v.length : Int) := by
      have := used_small b.m hok.ln
      have h6 : b.m.length * 65536 ≤ 65536000000 := by omega
      rw [IntWalk.i64_in _ ⟨by omega, by omega⟩]
    by_cases hr : b.q < usedO b.m + v.length
    · have hrm : b.put k v = (33, b) := by unfold Bk.put; rw [if_neg hg, if_pos hr]
      rw [hrm]
      have hd : decide ((b.q : Int) < (usedO b.m : Int) + (v.length : Int)) = true := decide_eq_true (by omega)
      have Hc := Lib.hid hc
      have K0 := Lib.hid k0
      clear hrm hfi hg hok hb k0 hlt hbx hc
      go_enter Tryd.func62, Tryd.ntmps62
      go_wp2_with (go_at_call 61; (with_reducible refine (Fi.out).mono ?_); rintro e w5 ⟨rfl, hw5⟩; rw [hw5]; clear hw5)
      go_quiet ((go_at_call 48; exact Calls.quiet_of_same (Us.out _)))
      go_wp2
      go_ret
      exact ⟨rfl, F, ⟨_, _, _, _, _, _, Hc.out.newer ((Keeps.refl [] w0).drewN _)⟩, Chg.old K0.out (Chg.drew0 _ _ _)⟩
    · have hgn : getO b.m k = none := by simpa using hg
      have hrm : b.put k v = (0, { b with m := putO b.m k v }) := by unfold Bk.put; rw [if_neg hg, if_neg hr]
      rw [hrm]
      rw [put_ahead hgn]
      have hd : decide ((b.q : Int) < (usedO b.m : Int) + (v.length : Int)) = false := decide_eq_false (by omega)
      obtain ⟨hJ1, hJ2, hJ3⟩ := ahead_spec (m := b.m) (k := k)
      generalize ahead b.m k = J at *
      obtain ⟨oad, ocap, rfl, hle, hcm, hao⟩ := hc.obj.shape
      have HJ2 := Lib.hid hJ2
      have HJ3 := Lib.hid hJ3
      have Hc := Lib.hid hc
      have K0 := Lib.hid k0
      have Hao := Lib.hid hao
      have Hle := Lib.hid hle
      have Hbx := Lib.hid hbx
      have HBF := Lib.hid hBF
      clear hrm hfi hg hok hb k0 hlt hbx hc hJ2 hJ3 hr hgn hao hle
      go_enter Tryd.func62, Tryd.ntmps62
      go_wp2_with (go_at_call 61; (with_reducible refine (Fi.out).mono ?_); rintro e w5 ⟨rfl, hw5⟩; rw [hw5]; clear hw5)
      go_quiet ((go_at_call 48; exact Calls.quiet_of_same (Us.out _)))
      go_wp2
      have hq0 : Keeps [] w0 (w0.drewN nq) := (Keeps.refl [] w0).drewN nq
      generalize w0.drewN nq = wd at *
      clear x0 x1 x2 c01
      go_loopw [8, 7] (fun iv ov wr => ∃ j : Nat, j ≤ J ∧ iv = .int .i64 j ∧ wr.ownsRow 0 86 2 ov j ((b.m.take j).flatMap objV) ∧ (∀ x, x ∈ ov.ownBlock.toList → w0.heap.size ≤ x) ∧ Keeps [] w0 wr) (fun iv _ _ => J - (intOf iv).toNat)
      case atStart => exact ⟨0, Nat.zero_le _, rfl, World.ownsRow_nil _ _ _ _, by simp [Value.ownBlock], hq0⟩
      case round =>
        obtain ⟨j, hj, rfl, hrow, hfr, hkk⟩ := hrel
        clear hq0
        have hcr := Hc.out.newer hkk
        have c0 := cell_of_heap hcr.cells 0
        have hbr := hkk.some Hbx.out (by simp)
        have y1 := cell_of_heap hbr 1
        have y2 := cell_of_heap hbr 2
        obtain ⟨rad, rcap, rfl⟩ := ownsRow_shape hrow
        by_cases hlt : j < J
        · obtain ⟨x, hx⟩ : ∃ x, b.m[j]? = some x := ⟨b.m[j]'(by omega), by simp⟩
          obtain ⟨g, off, rfl⟩ := Hao.out (by have := Hle.out; omega)
          have hcx := hcr.obj.cell (by have := Hle.out; omega) _ _ (objV_at b.m j x hx 0 _ rfl)
          rw [Nat.add_zero] at hcx
          have hra : wr.rangeAt g (off + j * 2) (objV x) := fun i u hi => by
            have := hcr.obj.cell (by have := Hle.out; omega) _ _ (objV_at b.m j x hx i u hi)
            rwa [← Nat.add_assoc] at this
          have hless : Op.bytesLess x.1 k = true := by
            have := HJ2.out j x hlt hx
            rw [bb_lt] at this
            rw [bytesLess_eq]
            exact this
          have hst : (b.m.take (j + 1)).flatMap objV = (b.m.take j).flatMap objV ++ objV x := by rw [List.take_add_one, hx]; simp
          have hji : (j : Int) < (b.m.length : Int) := by omega
          have hji0 : (0 : Int) ≤ (j : Int) := by omega
          have Hrow := Lib.hid hrow
          have Hfr := Lib.hid hfr
          have Hkk := Lib.hid hkk
          have Hra := Lib.hid hra
          have Hst := Lib.hid hst
          clear hrow hfr hkk hra hst hx hcr hbr
          go_wp2
          go_quiet (fail)
          have hkd : Keeps [] wr (wr.drewN nq) := (Keeps.refl [] wr).drewN nq
          have hrowd := Lib.hid (own_keep Hrow.out hkd (by simp))
          have hrad : Hid ((wr.drewN nq).rangeAt g (off + j * 2) (objV x)) := fun i u hi => hkd.cell0 (Hra.out i u hi)
          have c0d := hkd.cell0 c0
          have hkkd := Lib.hid (Hkk.out.trans hkd (by simp))
          clear hkd Hrow Hra Hkk
          generalize wr.drewN nq = wd at *
          go_wp2_with (first
            | ((with_reducible refine wpList_run (w' := wd) (o := ⟨some 81, _, _, _, _, _⟩) ?_ (.agg #[.string (str x.1), .string (str x.2)]) ?_ ?_); exact rfl; exact exec_load wd 86 g (off + j * 2) [.string (str x.1), .string (str x.2)] _ hrad.out Tryd.underlying86 rfl sizeObj _ _ (.tmp 80) rfl rfl)
            | (at_builtin; refine wpList_app1 tyObjs rfl (.tmp 74) (.tmp 82) rfl _ _ _ rfl rfl hrowd.out rfl ?c1 ?c2 ?c3 ?c4)
            | go_in)
          case c1 => first | exact ⟨rfl, rfl⟩ | trivial | simp [Value.oneCell']
          case c2 => omega
          case c3 => unfold maxLen; omega
          case c4 =>
          intro g' cap' w' hown' hc'
          have Hown3 : Hid (w'.ownsRow 0 86 2 (.slice (some ⟨g', 0, none⟩) (j + 1) cap') (j + 1) ((b.m.take (j + 1)).flatMap objV)) := by
            rw [Hst.out]
            exact hown'
          have Hch := Lib.hid hc'
          clear hown' hc'
          go_wp2
          go_roundw
          case rel => exact ⟨j + 1, by omega, by go_num, Hown3.out, fun z hz => (Hch.out.fresh z hz).elim (Hfr.out z) (fun h => Nat.le_trans hkkd.out.size h), hkkd.out.trans Hch.out.keeps (fun z hz => .inr (Hfr.out z hz))⟩
          case measure => simp [intOf]; omega
        · obtain rfl : j = J := by omega
          have hless : ∀ x, b.m[j]? = some x → Op.bytesLess x.1 k = false := fun x hx => by
            have := HJ3.out x hx
            rw [bb_lt] at this
            rw [bytesLess_eq]
            exact this
          have hobs : ∀ x, b.m[j]? = some x → ∃ g off, oad = some ⟨g, off, none⟩ ∧ wr.cell? ⟨g, off + j * 2, none⟩ = some (.string (str x.1)) := fun x hx => by
            have hlx := (List.getElem?_eq_some_iff.1 hx).1
            obtain ⟨g, off, e⟩ := Hao.out (by have := Hle.out; omega)
            subst e
            have hcx := hcr.obj.cell (by have := Hle.out; omega) _ _ (objV_at b.m j x hx 0 _ rfl)
            rw [Nat.add_zero] at hcx
            exact ⟨g, off, rfl, hcx⟩
          have Hrow := Lib.hid hrow
          have Hfr := Lib.hid hfr
          have Hkk := Lib.hid hkk
          clear hrow hfr hkk hcr hbr y1
          by_cases hjl : j < b.m.length
          · obtain ⟨x, hx⟩ : ∃ x, b.m[j]? = some x := ⟨b.m[j], by simp [hjl]⟩
            obtain ⟨g0, off0, rfl, hcx⟩ := hobs x hx
            have hls := hless x hx
            have hji : (j : Int) < (b.m.length : Int) := by omega
            have hji0 : (0 : Int) ≤ (j : Int) := by omega
            have y1 := cell_of_heap (Hkk.out.some Hbx.out (by simp)) 1
            clear hobs hless hx
            go_wp2
            go_quiet (fail)
            have hkd : Keeps [] wr (wr.drewN nq) := (Keeps.refl [] wr).drewN nq
            have hrowd := Lib.hid (own_keep Hrow.out hkd (by simp))
            have hkkd := Lib.hid (Hkk.out.trans hkd (by simp))
            clear hkd Hrow Hkk c0
            generalize wr.drewN nq = wd at *
            have hbd := hkkd.out.some Hbx.out (by simp)
            have y1 := cell_of_heap hbd 1
            have y2 := cell_of_heap hbd 2
            clear hbd
            go_wp2_with (first
              | (at_builtin; refine wpList_app1 tyObjs rfl (.tmp 86) (.tmp 92) rfl _ _ _ rfl rfl hrowd.out rfl ?c1 ?c2 ?c3 ?c4)
              | go_in)
            case c1 => first | exact ⟨rfl, rfl⟩ | trivial | simp [Value.oneCell']
            case c2 => omega
            case c3 => unfold maxLen; omega
            case c4 =>
            intro g' cap' w6 hown6 hch6
            have k6 : Keeps [] w0 w6 := hkkd.out.trans hch6.keeps (fun z hz => .inr (Hfr.out z hz))
            have hc6 := Hc.out.newer k6
            have hG6 : ∀ z, z ∈ [g'] → w0.heap.size ≤ z := fun z hz => (hch6.fresh z hz).elim (Hfr.out z) (fun h => Nat.le_trans hkkd.out.size h)
            have hrw6 := RowAt.own hown6 (by omega)
            have hsrc : ∃ X, X = (if ocap = j then Value.slice (some ⟨g0, off0, none⟩) 0 0 else .slice (some ⟨g0, off0 + j * 2, none⟩) (b.m.length - j) (ocap - j)) ∧ SrcAt w6 2 X (b.m.length - j) ((b.m.flatMap objV).drop (j * 2)) := by
              by_cases hcp : ocap = j
              · refine ⟨_, rfl, ?_⟩
                have := Hle.out
                rw [if_pos hcp, show b.m.length - j = 0 by omega, List.drop_eq_nil_of_le (by rw [objs_len]; omega)]
                exact .inr ⟨_, _, rfl, rfl, fun i u hi => by simp at hi⟩
              · refine ⟨_, rfl, ?_⟩
                have := Hle.out
                rw [if_neg hcp]
                exact hc6.obj.srcDrop j (ocap - j) (by omega) (by omega)
            obtain ⟨X, hX, hXs⟩ := hsrc
            obtain ⟨V2, G2, w7, hrun2, hrow2, hch2⟩ := exec_appM (P := Tryd.prog) tyObjs 55 w6 w6 X (b.m.length - j) _ (Keeps.refl [] w6) hXs hrw6 (fun u hu => objs_one b.m u (List.mem_of_mem_drop hu)) (by omega) (by unfold maxLen; omega)
            have hG2 : ∀ z, z ∈ G2 → w0.heap.size ≤ z := fun z hz => (hch2.fresh z hz).elim (hG6 z) (fun h => Nat.le_trans k6.size h)
            have k7 : Keeps [] w0 w7 := k6.trans hch2.keeps (fun z hz => .inr (hG6 z hz))
            have hc7 := Hc.out.newer k7
            have hlt0 := Hc.out.lt
            have hF := Hc.out.foot
            have hnews : (b.m.take j).flatMap objV ++ [.string (str k), .string (str v)] ++ (b.m.flatMap objV).drop (j * 2) = (b.m.take j ++ (k, v) :: b.m.drop j).flatMap objV := by
              rw [← objs_drop, List.flatMap_append, List.flatMap_cons, List.append_assoc]
              rfl
            have hlen : j + 1 + (b.m.length - j) = (b.m.take j ++ (k, v) :: b.m.drop j).length := by rw [List.length_append, List.length_cons, List.length_take, List.length_drop]; omega
            replace hrow2 : RowAt w7 2 V2 (b.m.take j ++ (k, v) :: b.m.drop j).length ((b.m.take j ++ (k, v) :: b.m.drop j).flatMap objV) G2 := by
              rw [← hlen, ← hnews]
              exact hrow2
            have apG : ∀ z, z ∈ F → z ∉ G2 := fun z hz h => by have := hG2 z h; have := hlt0 z hz; omega
            have hset := hc7.setO hrow2 (apG p (by rw [hF]; simp)) (fun z hz => apG z (by rw [hF]; simp [hz])) (fun z hz => apG z (by rw [hF]; simp [hz]))
            obtain ⟨a2, q2, rfl, _⟩ := hrow2.shape
            have fin := Chg.old K0.out (⟨(k7.mono (by simp)).trans hset.2 (fun z hz => .inl (by rw [List.mem_singleton] at hz; rw [hz, hF]; simp)), fun z hz => by
              simp only [List.mem_cons, List.mem_append] at hz
              rw [hF]
              rcases hz with rfl | hz | hz | hz
              · simp
              · exact .inr (hG2 z hz)
              · simp [hz]
              · simp [hz]⟩ : Chg F (p :: (G2 ++ (Gf ++ Gl))) w0 _)
            generalize hD : (b.m.take j ++ (k, v) :: b.m.drop j).length = D at *
            have Fin := Lib.hid (And.intro hset.1 fin)
            have Hrun2 := Lib.hid hrun2
            have c06 := cell_of_heap hc6.cells 0
            have c07 := cell_of_heap hc7.cells 0
            have f07 := free_of_heap hc7.cells 0
            have hjn : (j : Int) ≤ (b.m.length : Int) := by omega
            clear hset fin apG hF hlt0 hG2 hG6 hc6 hc7 hch6 hch2 hrun2 hrow2 hXs hown6 hrw6 hnews hlen y1 y2
            by_cases hcp : ocap = j
            · exact absurd hcp (by have := Hle.out; omega)
            · rw [if_neg hcp] at hX
              subst hX
              go_wp2_with ((with_reducible refine wpList_run (w' := w7) (o := ⟨some 102, _, _, _, _, _⟩) ?_ (.slice a2 D q2) ?_ ?_); exact rfl; exact Hrun2.out _ _ (.tmp 95) (.tmp 101) rfl rfl rfl rfl)
              go_ret
              exact ⟨rfl, _, ⟨_, _, _, _, _, _, Fin.out.1⟩, Fin.out.2⟩
          · have hji : ¬ ((j : Int) < (b.m.length : Int)) := by omega
            clear hobs hless
            rcases Nat.eq_or_lt_of_le (show j ≤ ocap from Nat.le_trans hJ1 Hle.out) with hjo | hjo
            · subst hjo
              go_wp2
              go_quiet (fail)
              have hkd : Keeps [] wr (wr.drewN nq) := (Keeps.refl [] wr).drewN nq
              have hrowd := Lib.hid (own_keep Hrow.out hkd (by simp))
              have hkkd := Lib.hid (Hkk.out.trans hkd (by simp))
              clear hkd Hrow Hkk c0
              generalize wr.drewN nq = wd at *
              have hbd := hkkd.out.some Hbx.out (by simp)
              have y1 := cell_of_heap hbd 1
              have y2 := cell_of_heap hbd 2
              clear hbd
              go_wp2_with (first
                | (at_builtin; refine wpList_app1 tyObjs rfl (.tmp 86) (.tmp 92) rfl _ _ _ rfl rfl hrowd.out rfl ?c1 ?c2 ?c3 ?c4)
                | go_in)
              case c1 => first | exact ⟨rfl, rfl⟩ | trivial | simp [Value.oneCell']
              case c2 => omega
              case c3 => unfold maxLen; omega
              case c4 =>
              intro g' cap' w6 hown6 hch6
              have k6 : Keeps [] w0 w6 := hkkd.out.trans hch6.keeps (fun z hz => .inr (Hfr.out z hz))
              have hc6 := Hc.out.newer k6
              have hG6 : ∀ z, z ∈ [g'] → w0.heap.size ≤ z := fun z hz => (hch6.fresh z hz).elim (Hfr.out z) (fun h => Nat.le_trans hkkd.out.size h)
              have hrw6 := RowAt.own hown6 (by omega)
              have hsrc : ∃ X, X = Value.slice oad 0 0 ∧ SrcAt w6 2 X (b.m.length - j) ((b.m.flatMap objV).drop (j * 2)) := by
                refine ⟨_, rfl, ?_⟩
                have := Hle.out
                rw [show b.m.length - j = 0 by omega, List.drop_eq_nil_of_le (by rw [objs_len]; omega)]
                cases oad with
                | none => exact .inl ⟨rfl, rfl, rfl⟩
                | some a => exact .inr ⟨_, _, rfl, rfl, fun i u hi => by simp at hi⟩
              obtain ⟨X, hX, hXs⟩ := hsrc
              obtain ⟨V2, G2, w7, hrun2, hrow2, hch2⟩ := exec_appM (P := Tryd.prog) tyObjs 55 w6 w6 X (b.m.length - j) _ (Keeps.refl [] w6) hXs hrw6 (fun u hu => objs_one b.m u (List.mem_of_mem_drop hu)) (by omega) (by unfold maxLen; omega)
              have hG2 : ∀ z, z ∈ G2 → w0.heap.size ≤ z := fun z hz => (hch2.fresh z hz).elim (hG6 z) (fun h => Nat.le_trans k6.size h)
              have k7 : Keeps [] w0 w7 := k6.trans hch2.keeps (fun z hz => .inr (hG6 z hz))
              have hc7 := Hc.out.newer k7
              have hlt0 := Hc.out.lt
              have hF := Hc.out.foot
              have hnews : (b.m.take j).flatMap objV ++ [.string (str k), .string (str v)] ++ (b.m.flatMap objV).drop (j * 2) = (b.m.take j ++ (k, v) :: b.m.drop j).flatMap objV := by
                rw [← objs_drop, List.flatMap_append, List.flatMap_cons, List.append_assoc]
                rfl
              have hlen : j + 1 + (b.m.length - j) = (b.m.take j ++ (k, v) :: b.m.drop j).length := by rw [List.length_append, List.length_cons, List.length_take, List.length_drop]; omega
              replace hrow2 : RowAt w7 2 V2 (b.m.take j ++ (k, v) :: b.m.drop j).length ((b.m.take j ++ (k, v) :: b.m.drop j).flatMap objV) G2 := by
                rw [← hlen, ← hnews]
                exact hrow2
              have apG : ∀ z, z ∈ F → z ∉ G2 := fun z hz h => by have := hG2 z h; have := hlt0 z hz; omega
              have hset := hc7.setO hrow2 (apG p (by rw [hF]; simp)) (fun z hz => apG z (by rw [hF]; simp [hz])) (fun z hz => apG z (by rw [hF]; simp [hz]))
              obtain ⟨a2, q2, rfl, _⟩ := hrow2.shape
              have fin := Chg.old K0.out (⟨(k7.mono (by simp)).trans hset.2 (fun z hz => .inl (by rw [List.mem_singleton] at hz; rw [hz, hF]; simp)), fun z hz => by
                simp only [List.mem_cons, List.mem_append] at hz
                rw [hF]
                rcases hz with rfl | hz | hz | hz
                · simp
                · exact .inr (hG2 z hz)
                · simp [hz]
                · simp [hz]⟩ : Chg F (p :: (G2 ++ (Gf ++ Gl))) w0 _)
              generalize hD : (b.m.take j ++ (k, v) :: b.m.drop j).length = D at *
              have Fin := Lib.hid (And.intro hset.1 fin)
              have Hrun2 := Lib.hid hrun2
              have c06 := cell_of_heap hc6.cells 0
              have c07 := cell_of_heap hc7.cells 0
              have f07 := free_of_heap hc7.cells 0
              have hjn : (j : Int) ≤ (b.m.length : Int) := by omega
              clear hset fin apG hF hlt0 hG2 hG6 hc6 hc7 hch6 hch2 hrun2 hrow2 hXs hown6 hrw6 hnews hlen y1 y2
              have hlj : b.m.length = j := by have := Hle.out; omega
              rw [hlj] at c06 c07
              clear hlj
              subst hX
              go_wp2_with ((with_reducible refine wpList_run (w' := w7) (o := ⟨some 102, _, _, _, _, _⟩) ?_ (.slice a2 D q2) ?_ ?_); exact rfl; exact Hrun2.out _ _ (.tmp 95) (.tmp 101) rfl rfl rfl rfl)
              go_ret
              exact ⟨rfl, _, ⟨_, _, _, _, _, _, Fin.out.1⟩, Fin.out.2⟩
            · obtain ⟨g0, off0, rfl⟩ := Hao.out (by omega)
              go_wp2
              go_quiet (fail)
              have hkd : Keeps [] wr (wr.drewN nq) := (Keeps.refl [] wr).drewN nq
              have hrowd := Lib.hid (own_keep Hrow.out hkd (by simp))
              have hkkd := Lib.hid (Hkk.out.trans hkd (by simp))
              clear hkd Hrow Hkk c0
              generalize wr.drewN nq = wd at *
              have hbd := hkkd.out.some Hbx.out (by simp)
              have y1 := cell_of_heap hbd 1
              have y2 := cell_of_heap hbd 2
              clear hbd
              go_wp2_with (first
                | (at_builtin; refine wpList_app1 tyObjs rfl (.tmp 86) (.tmp 92) rfl _ _ _ rfl rfl hrowd.out rfl ?c1 ?c2 ?c3 ?c4)
                | go_in)
              case c1 => first | exact ⟨rfl, rfl⟩ | trivial | simp [Value.oneCell']
              case c2 => omega
              case c3 => unfold maxLen; omega
              case c4 =>
              intro g' cap' w6 hown6 hch6
              have k6 : Keeps [] w0 w6 := hkkd.out.trans hch6.keeps (fun z hz => .inr (Hfr.out z hz))
              have hc6 := Hc.out.newer k6
              have hG6 : ∀ z, z ∈ [g'] → w0.heap.size ≤ z := fun z hz => (hch6.fresh z hz).elim (Hfr.out z) (fun h => Nat.le_trans hkkd.out.size h)
              have hrw6 := RowAt.own hown6 (by omega)
              have hsrc : ∃ X, X = (if ocap = j then Value.slice (some ⟨g0, off0, none⟩) 0 0 else .slice (some ⟨g0, off0 + j * 2, none⟩) (b.m.length - j) (ocap - j)) ∧ SrcAt w6 2 X (b.m.length - j) ((b.m.flatMap objV).drop (j * 2)) := by
                by_cases hcp : ocap = j
                · refine ⟨_, rfl, ?_⟩
                  have := Hle.out
                  rw [if_pos hcp, show b.m.length - j = 0 by omega, List.drop_eq_nil_of_le (by rw [objs_len]; omega)]
                  exact .inr ⟨_, _, rfl, rfl, fun i u hi => by simp at hi⟩
                · refine ⟨_, rfl, ?_⟩
                  have := Hle.out
                  rw [if_neg hcp]
                  exact hc6.obj.srcDrop j (ocap - j) (by omega) (by omega)
              obtain ⟨X, hX, hXs⟩ := hsrc
              obtain ⟨V2, G2, w7, hrun2, hrow2, hch2⟩ := exec_appM (P := Tryd.prog) tyObjs 55 w6 w6 X (b.m.length - j) _ (Keeps.refl [] w6) hXs hrw6 (fun u hu => objs_one b.m u (List.mem_of_mem_drop hu)) (by omega) (by unfold maxLen; omega)
              have hG2 : ∀ z, z ∈ G2 → w0.heap.size ≤ z := fun z hz => (hch2.fresh z hz).elim (hG6 z) (fun h => Nat.le_trans k6.size h)
              have k7 : Keeps [] w0 w7 := k6.trans hch2.keeps (fun z hz => .inr (hG6 z hz))
              have hc7 := Hc.out.newer k7
              have hlt0 := Hc.out.lt
              have hF := Hc.out.foot
              have hnews : (b.m.take j).flatMap objV ++ [.string (str k), .string (str v)] ++ (b.m.flatMap objV).drop (j * 2) = (b.m.take j ++ (k, v) :: b.m.drop j).flatMap objV := by
                rw [← objs_drop, List.flatMap_append, List.flatMap_cons, List.append_assoc]
                rfl
              have hlen : j + 1 + (b.m.length - j) = (b.m.take j ++ (k, v) :: b.m.drop j).length := by rw [List.length_append, List.length_cons, List.length_take, List.length_drop]; omega
              replace hrow2 : RowAt w7 2 V2 (b.m.take j ++ (k, v) :: b.m.drop j).length ((b.m.take j ++ (k, v) :: b.m.drop j).flatMap objV) G2 := by
                rw [← hlen, ← hnews]
                exact hrow2
              have apG : ∀ z, z ∈ F → z ∉ G2 := fun z hz h => by have := hG2 z h; have := hlt0 z hz; omega
              have hset := hc7.setO hrow2 (apG p (by rw [hF]; simp)) (fun z hz => apG z (by rw [hF]; simp [hz])) (fun z hz => apG z (by rw [hF]; simp [hz]))
              obtain ⟨a2, q2, rfl, _⟩ := hrow2.shape
              have fin := Chg.old K0.out (⟨(k7.mono (by simp)).trans hset.2 (fun z hz => .inl (by rw [List.mem_singleton] at hz; rw [hz, hF]; simp)), fun z hz => by
                simp only [List.mem_cons, List.mem_append] at hz
                rw [hF]
                rcases hz with rfl | hz | hz | hz
                · simp
                · exact .inr (hG2 z hz)
                · simp [hz]
                · simp [hz]⟩ : Chg F (p :: (G2 ++ (Gf ++ Gl))) w0 _)
              generalize hD : (b.m.take j ++ (k, v) :: b.m.drop j).length = D at *
              have Fin := Lib.hid (And.intro hset.1 fin)
              have Hrun2 := Lib.hid hrun2
              have c06 := cell_of_heap hc6.cells 0
              have c07 := cell_of_heap hc7.cells 0
              have f07 := free_of_heap hc7.cells 0
              have hjn : (j : Int) ≤ (b.m.length : Int) := by omega
              clear hset fin apG hF hlt0 hG2 hG6 hc6 hc7 hch6 hch2 hrun2 hrow2 hXs hown6 hrw6 hnews hlen y1 y2
              by_cases hcp : ocap = j
              · exact absurd hcp (by have := Hle.out; omega)
              · rw [if_neg hcp] at hX
                subst hX
                go_wp2_with ((with_reducible refine wpList_run (w' := w7) (o := ⟨some 102, _, _, _, _, _⟩) ?_ (.slice a2 D q2) ?_ ?_); exact rfl; exact Hrun2.out _ _ (.tmp 95) (.tmp 101) rfl rfl rfl rfl)
                go_ret
                exact ⟨rfl, _, ⟨_, _, _, _, _, _, Fin.out.1⟩, Fin.out.2⟩
end Go.Proofs.YtflgagglkkehiaaDoor
