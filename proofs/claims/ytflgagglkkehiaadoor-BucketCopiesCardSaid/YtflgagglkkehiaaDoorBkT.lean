/- Layer 5, the document's answer: do. -/
import Derived.Test.YtflgagglkkehiaaDoorBkR
import Derived.Laws.Strings
import Derived.Sort.Walk0
namespace Go.Proofs.YtflgagglkkehiaaDoor
open Go.RowKit Go.Maps

theorem tyObjs : SlTy Tryd.prog 55 86 2 32 (.agg #[.string ⟨#[]⟩, .string ⟨#[]⟩]) := SlTy.mk' Tryd.underlying55 (by kernel_rfl) rfl (by decide)
theorem sizeObj : (Tryd.prog.info? 86).map (·.size) = some 2 := by kernel_rfl
theorem objs_one (l : Ob) : ∀ u ∈ l.flatMap objV, u.oneCell' = true := by
  intro u hu
  obtain ⟨x, _, hx⟩ := List.mem_flatMap.1 hu
  unfold objV at hx
  simp only [List.mem_cons, List.not_mem_nil, or_false] at hx
  rcases hx with rfl | rfl <;> rfl
theorem objs_len (l : Ob) : (l.flatMap objV).length = l.length * 2 := by
  induction l with
  | nil => rfl
  | cons y r ih => rw [List.flatMap_cons, List.length_append, ih, List.length_cons]; show 2 + _ = _; omega
theorem objs_take (l : Ob) (k : Nat) : (l.take k).flatMap objV = (l.flatMap objV).take (k * 2) := by
  induction l generalizing k with
  | nil => simp
  | cons y r ih =>
    cases k with
    | zero => simp
    | succ j => rw [List.take_succ_cons, List.flatMap_cons, List.flatMap_cons, ih, show (j + 1) * 2 = (objV y).length + j * 2 by show _ = 2 + j * 2; omega, List.take_length_add_append]
theorem objs_drop (l : Ob) (k : Nat) : (l.drop k).flatMap objV = (l.flatMap objV).drop (k * 2) := by
  induction l generalizing k with
  | nil => simp
  | cons y r ih =>
    cases k with
    | zero => simp
    | succ j => rw [List.drop_succ_cons, List.flatMap_cons, ih, show (j + 1) * 2 = (objV y).length + j * 2 by show _ = 2 + j * 2; omega, List.drop_length_add_append]

/-- A beginning of a row, as what is appended. -/
theorem RowAt.srcTake {w : World} {size n cap : Nat} {ad : Option Addr} {xs : List Value} {G : List Nat} (h : RowAt w size (.slice ad n cap) n xs G) (k c : Nat) (hk : k ≤ n) (h0 : 0 < cap) : SrcAt w size (.slice ad k c) k (xs.take (k * size)) := by
  obtain ⟨ad', cap', e1, h2, h3, h4, h5, h6⟩ := h
  injection e1 with e2 _ e3
  subst e2; subst e3
  obtain ⟨g, off, rfl, _, _, h7, _⟩ := h6 h0
  have hkn : k * size ≤ n * size := Nat.mul_le_mul_right _ hk
  refine .inr ⟨_, c, rfl, by rw [List.length_take, h2]; omega, fun j u hj => ?_⟩
  have hjl : j < k * size := by
    have := (List.getElem?_eq_some_iff.1 hj).1
    rw [List.length_take] at this
    omega
  rw [List.getElem?_take_of_lt hjl] at hj
  rw [Addr.add_lit]
  exact h7 j u hj
/-- Its end. -/
theorem RowAt.srcDrop {w : World} {size n cap g off : Nat} {xs : List Value} {G : List Nat} (h : RowAt w size (.slice (some ⟨g, off, none⟩) n cap) n xs G) (k c : Nat) (hk : k ≤ n) (h0 : 0 < cap) : SrcAt w size (.slice (some ⟨g, off + k * size, none⟩) (n - k) c) (n - k) (xs.drop (k * size)) := by
  have hc := h.cell h0
  obtain ⟨ad', cap', e1, h2, h3, h4, h5, h6⟩ := h
  have hnk : (n - k) * size + k * size = n * size := by rw [← Nat.add_mul, Nat.sub_add_cancel hk]
  refine .inr ⟨_, c, rfl, by rw [List.length_drop, h2]; omega, fun j u hj => ?_⟩
  rw [List.getElem?_drop] at hj
  rw [Addr.add_lit]
  have := hc _ _ hj
  rwa [← Nat.add_assoc] at this

theorem del_pos {m : Ob} (hs : Srt m) {k : Bs} (h : (getO m k).isSome = true) : delO m k = m.take (posO m k) ++ m.drop (posO m k + 1) := by
  induction m with
  | nil => simp [getO] at h
  | cons y r ih =>
    unfold Srt at hs
    rw [List.pairwise_cons] at hs
    unfold posO delO getO at *
    rw [List.findIdx_cons]
    by_cases hy : y.1 = k
    · have hb : (y.1 == k) = true := beq_iff_eq.2 hy
      rw [hb, List.filter_cons_of_neg (by simp [hy])]
      simp only [cond_true, List.take_zero, List.nil_append, Nat.zero_add, List.drop_succ_cons, List.drop_zero]
      rw [List.filter_eq_self]
      intro p hp
      have := hs.1 p hp
      rw [bb_lt, decide_eq_true_eq, hy] at this
      simp only [Bool.not_eq_true', beq_eq_false_iff_ne]
      intro e
      rw [e] at this
      exact List.lt_irrefl _ this
    · have hb : (y.1 == k) = false := beq_eq_false_iff_ne.2 hy
      rw [hb, List.filter_cons_of_pos (by simp [hy])]
      rw [List.find?_cons_of_neg (by simp [hy])] at h
      simp only [cond_false, List.take_succ_cons, List.drop_succ_cons, List.cons_append]
      rw [ih hs.2 h]

set_option maxHeartbeats 4000000 in
set_option maxRecDepth 100000 in
theorem rrem_any (p : Nat) (b : Bk) (F : List Nat) (w : World) (hb : RfAt w p b F) (N : Nat) (hok : b.ok N) (hN : N ≤ 1000000) (k v : Bs) :
    Calls Tryd.prog 62 #[.pointer (some ⟨p, 0, none⟩), .agg #[.bool false, .string (str k), .string (str v)]] w fun e w' => e = .returned (.int .i64 (b.rem k).1) ∧ ∃ F', RfAt w' p (b.rem k).2 F' ∧ Chg F F' w w' := by
  obtain ⟨B, hB⟩ : ∃ B, w.heap.size = B := ⟨_, rfl⟩
  have K0 := Lib.hid fun o => (Keeps.refl [] w).alloc o
  have hml : b.m.length ≤ 1000000 := by have := hok.few; omega
  have hlt := hb.lt
  have Fi : Hid (∀ ob, Calls Tryd.prog 61 #[.pointer (some ⟨p, 0, none⟩), .string (str k)] (w.alloc ob) fun e w' => e = .returned (.int .i64 (findI b.m k)) ∧ w' = w.alloc ob) := fun ob => rfind_any p b F (w.alloc ob) (hb.newer ((Keeps.refl [] w).alloc ob)) k hml
  by_cases hg : (getO b.m k).isSome = true
  · have hrm : b.rem k = (0, { b with m := delO b.m k }) := by unfold Bk.rem; rw [if_pos hg]
    have hfi : findI b.m k = (posO b.m k : Int) := by unfold findI; rw [if_pos hg]
    rw [hrm]
    rw [hfi] at Fi
    have hPl := pos_spec.2.1.2 hg
    rw [del_pos hok.srt hg]
    generalize posO b.m k = P at *
    obtain ⟨ov, fv, lv, Go', Gf, Gl, hc⟩ := hb
    obtain ⟨ad, cap, rfl, hle, hcm, hao⟩ := hc.obj.shape
    obtain ⟨g, off, rfl⟩ := hao (by omega)
    obtain ⟨w0, hw0⟩ : ∃ w0, w.alloc (.cells #[.bool false, .string (str k), .string (str v)] 94) = w0 := ⟨_, rfl⟩
    have k0 : Keeps [] w w0 := by rw [← hw0]; exact (Keeps.refl [] w).alloc _
    have hbx := heap_alloc_self w (.cells #[.bool false, .string (str k), .string (str v)] 94)
    rw [hw0, hB] at hbx
    have x0 := cell_of_heap hbx 0
    have x1 := cell_of_heap hbx 1
    have x2 := cell_of_heap hbx 2
    have Fi0 := Fi.out (.cells #[.bool false, .string (str k), .string (str v)] 94)
    rw [hw0] at Fi0
    have Fi1 := Lib.hid Fi0
    clear Fi0 Fi hbx
    have hc0 := hc.newer k0
    obtain ⟨V1, G1, w1, hrun1, hrow1, hch1⟩ := exec_appM (P := Tryd.prog) tyObjs 55 w0 w0 (.slice (some ⟨g, off, none⟩) P cap) P _ (Keeps.refl [] w0) (hc0.obj.srcTake P cap (by omega) (by omega)) (RowAt.none' (size := 2) (w := w0)) (fun u hu => objs_one b.m u (List.mem_of_mem_take hu)) (by omega) (by unfold maxLen; omega)
    rw [List.nil_append, Nat.zero_add] at hrow1
    have hk1 : Keeps [] w0 w1 := hch1.keeps
    have hc1 := hc0.newer hk1
    obtain ⟨X, hX, hXs⟩ : ∃ X, X = (if cap = P + 1 then Value.slice (some ⟨g, off, none⟩) 0 0 else .slice (some ⟨g, off + (P + 1) * 2, none⟩) (b.m.length - (P + 1)) (cap - (P + 1))) ∧ SrcAt w1 2 X (b.m.length - (P + 1)) ((b.m.flatMap objV).drop ((P + 1) * 2)) := by
      by_cases hcp : cap = P + 1
      · refine ⟨_, rfl, ?_⟩
        rw [if_pos hcp, show b.m.length - (P + 1) = 0 by omega, List.drop_eq_nil_of_le (by rw [objs_len]; omega)]
        exact .inr ⟨_, _, rfl, rfl, fun j u hj => by simp at hj⟩
      · refine ⟨_, rfl, ?_⟩
        rw [if_neg hcp]
        exact hc1.obj.srcDrop (P + 1) _ (by omega) (by omega)
    obtain ⟨V2, G2, w2, hrun2, hrow2, hch2⟩ := exec_appM (P := Tryd.prog) tyObjs 55 w1 w1 X (b.m.length - (P + 1)) _ (Keeps.refl [] w1) hXs hrow1 (fun u hu => objs_one b.m u (List.mem_of_mem_drop hu)) (by omega) (by unfold maxLen; omega)
    have hG1 : ∀ x, x ∈ G1 → w0.heap.size ≤ x := fun x hx => (hch1.fresh x hx).elim (by simp) id
    have hG2 : ∀ x, x ∈ G2 → w0.heap.size ≤ x := fun x hx => (hch2.fresh x hx).elim (hG1 x) (fun h => Nat.le_trans hk1.size h)
    have hk2 : Keeps [] w0 w2 := hk1.trans hch2.keeps (fun x hx => .inr (hG1 x hx))
    have hc2 := hc0.newer hk2
    have hlt0 := hc0.lt
    rw [← objs_take, ← objs_drop, ← List.flatMap_append] at hrow2
    have hlen : P + (b.m.length - (P + 1)) = (b.m.take P ++ b.m.drop (P + 1)).length := by rw [List.length_append, List.length_take, List.length_drop]; omega
    rw [hlen] at hrow2
    have hF := hc.foot
    have apG : ∀ x, x ∈ F → x ∉ G2 := fun x hx h => by have := hG2 x h; have := hlt0 x hx; omega
    have hset := hc2.setO hrow2 (apG p (by rw [hF]; simp)) (fun x hx => apG x (by rw [hF]; simp [hx])) (fun x hx => apG x (by rw [hF]; simp [hx]))
    obtain ⟨a1, q1, rfl, _⟩ := hrow1.shape
    obtain ⟨D, hD⟩ : ∃ D, (b.m.take P ++ b.m.drop (P + 1)).length = D := ⟨_, rfl⟩
    have hshp := hrow2.shape
    rw [hD] at hshp
    obtain ⟨a2, q2, rfl, _⟩ := hshp
    have c00 := cell_of_heap hc0.cells 0
    have c01 := cell_of_heap hc1.cells 0
    have f02 := free_of_heap hc2.cells 0
    have c02 := cell_of_heap hc2.cells 0
    have Hrun1 := Lib.hid hrun1
    have Hrun2 := Lib.hid hrun2
    have hw : IntKind.i64.wrap ((P : Int) + 1) = (P : Int) + 1 := by rw [IntWalk.i64_in _ ⟨by omega, by omega⟩]
    have hPn : ((P : Int) + 1).toNat = P + 1 := by omega
    have hPl2 : (P : Int) + 1 ≤ (b.m.length : Int) := by omega
    have hP0 : ¬ ((P : Int) < 0) := by omega
    have fin : ∃ F', RfAt (w2.setCell ⟨p, 0, none⟩ (.slice a2 D q2)) p { b with m := b.m.take P ++ b.m.drop (P + 1) } F' ∧ Chg F F' w (w2.setCell ⟨p, 0, none⟩ (.slice a2 D q2)) := by
      refine ⟨_, ⟨_, _, _, _, _, _, hset.1⟩, ((k0.trans hk2 (by simp)).mono (by simp)).trans hset.2 (fun x hx => .inl (by rw [List.mem_singleton] at hx; rw [hx, hF]; simp)), fun x hx => ?_⟩
      simp only [List.mem_cons, List.mem_append] at hx
      rw [hF]
      rcases hx with rfl | hx | hx | hx
      · simp
      · exact .inr (Nat.le_trans k0.size (hG2 x hx))
      · simp [hx]
      · simp [hx]
    have Fin := Lib.hid fin
    clear fin hset apG hF hlt0 hG2 hG1 hk1 hk2 hc1 hc2 hc0 hch1 hch2 hrun1 hrun2 hrow1 hXs hc hok hlt hg hao
    clear hlen hrow2 hrm hfi hD
    by_cases hcp : cap = P + 1
    · rw [if_pos hcp] at hX
      subst hX
      subst hcp
      go_enter Tryd.func62, Tryd.ntmps62
      go_wp2_with (first
        | (go_at_call 61; (with_reducible refine (Fi1.out).mono ?_); rintro e w5 ⟨rfl, hw5⟩; rw [hw5]; clear hw5)
        | ((with_reducible refine wpList_run (w' := w1) (o := ⟨some 26, _, _, _, _, _⟩) ?_ (.slice a1 P q1) ?_ ?_); exact rfl; exact Hrun1.out _ _ (.tmp 19) (.tmp 25) rfl rfl rfl rfl)
        | ((with_reducible refine wpList_run (w' := w2) (o := ⟨some 36, _, _, _, _, _⟩) ?_ (.slice a2 D q2) ?_ ?_); exact rfl; exact Hrun2.out _ _ (.tmp 28) (.tmp 35) rfl rfl rfl rfl))
      go_ret
      exact ⟨rfl, Fin.out⟩
    · rw [if_neg hcp] at hX
      subst hX
      go_enter Tryd.func62, Tryd.ntmps62
      go_wp2_with (first
        | (go_at_call 61; (with_reducible refine (Fi1.out).mono ?_); rintro e w5 ⟨rfl, hw5⟩; rw [hw5]; clear hw5)
        | ((with_reducible refine wpList_run (w' := w1) (o := ⟨some 26, _, _, _, _, _⟩) ?_ (.slice a1 P q1) ?_ ?_); exact rfl; exact Hrun1.out _ _ (.tmp 19) (.tmp 25) rfl rfl rfl rfl)
        | ((with_reducible refine wpList_run (w' := w2) (o := ⟨some 36, _, _, _, _, _⟩) ?_ (.slice a2 D q2) ?_ ?_); exact rfl; exact Hrun2.out _ _ (.tmp 28) (.tmp 35) rfl rfl rfl rfl))
      go_ret
      exact ⟨rfl, Fin.out⟩
  · have hrm : b.rem k = (15, b) := by unfold Bk.rem; rw [if_neg hg]
    have hfi : findI b.m k = -1 := by unfold findI; rw [if_neg hg]
    rw [hrm]
    rw [hfi] at Fi
    clear hrm hfi hg hok
    go_enter Tryd.func62, Tryd.ntmps62
    go_wp2_with (go_at_call 61; (with_reducible refine (Fi.out _).mono ?_); rintro e w1 ⟨rfl, rfl⟩)
    go_ret
    exact ⟨rfl, F, hb.newer (K0.out _), Chg.old (K0.out _) (Chg.refl _ _)⟩
end Go.Proofs.YtflgagglkkehiaaDoor
