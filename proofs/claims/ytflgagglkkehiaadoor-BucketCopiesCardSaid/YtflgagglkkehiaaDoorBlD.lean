/- Layer 5: a copy. -/
import Derived.Test.YtflgagglkkehiaaDoorBlC
import Derived.Test.YtflgagglkkehiaaDoorClone
import Derived.Laws.Cover3
namespace Go.Proofs.YtflgagglkkehiaaDoor
open Go.RowKit Go.Maps

theorem calls_one (l : List Cl) : ∀ u, u ∈ l.flatMap callV → u.oneCell' = true := by
  intro u hu
  obtain ⟨c, _, hc⟩ := List.mem_flatMap.1 hu
  unfold callV fnV at hc
  simp only [List.mem_cons, List.not_mem_nil, or_false] at hc
  rcases hc with rfl | rfl | rfl <;> rfl
theorem calls_len (l : List Cl) : (l.flatMap callV).length = l.length * 3 := by
  induction l with
  | nil => rfl
  | cons c r ih => rw [List.flatMap_cons, List.length_append, ih, List.length_cons]; show 3 + _ = _; omega

theorem eql_nil_slice {P : Program} (w : World) (t e : TypeId) (a : Option Addr) (l c : Nat) (h : P.underlying t = some (.slice e)) : (binOp .eql t (.slice a l c) (.slice none 0 0)).run P w = .ok (.bool a.isNone) w := by
  simp only [binOp]
  simp [run_equal_slice_nil w t e a l c h]

set_option maxHeartbeats 4000000 in
set_option maxRecDepth 100000 in
/-- slices.Clone at whatever slice of late calls. -/
theorem clonec_any (w : World) (v : Value) (l : List Cl) (G : List Nat) (hrow : RowAt w 3 v l.length (l.flatMap callV) G) (hl : l.length ≤ 1000000) :
    Calls Tryd.prog 50 #[v] w fun e w' => ∃ v' G', e = .returned v' ∧ RowAt w' 3 v' l.length (l.flatMap callV) G' ∧ (∀ x, x ∈ G' → w.heap.size ≤ x) ∧ Keeps [] w w' := by
  obtain ⟨ad, cap, rfl, hle, hcm, hao⟩ := hrow.shape
  cases ad with
  | none =>
    have hc0 : cap = 0 := by
      rcases Nat.eq_zero_or_pos cap with h | h
      · exact h
      · obtain ⟨g, off, e⟩ := hao h; cases e
    have hl0 : l = [] := List.length_eq_zero_iff.1 (by omega)
    subst hl0 hc0
    have hq := fun w => eql_nil_slice (P := Tryd.prog) w 67 _ none 0 0 Tryd.underlying67
    clear hrow hao
    go_enter Tryd.func50, Tryd.ntmps50
    go_wp2
    go_ret
    exact ⟨_, _, rfl, RowAt.none', by simp, Keeps.refl _ _⟩
  | some a =>
    have hsrc : SrcAt w 3 (.slice (some a) l.length cap) l.length (l.flatMap callV) := by
      refine .inr ⟨a, cap, rfl, calls_len l, fun j u hj => ?_⟩
      have h0 : 0 < cap := by
        rcases Nat.eq_zero_or_pos cap with h | h
        · have : l = [] := List.length_eq_zero_iff.1 (by omega)
          subst this
          cases hj
        · exact h
      obtain ⟨g, off, e⟩ := hao h0
      injection e with e
      subst e
      rw [Addr.add_lit]
      exact hrow.cell h0 j u hj
    have hk0 : Keeps [] w (w.alloc (.cells #[] 75)) := (Keeps.refl [] w).alloc _
    have hrow0 : RowAt (w.alloc (.cells #[] 75)) 3 (.slice (some ⟨w.heap.size, 0, none⟩) 0 0) 0 [] [] := ⟨_, _, rfl, by simp, Nat.le_refl _, Nat.zero_le _, (by simp), fun h => absurd h (by omega)⟩
    obtain ⟨V, G', wq, hrun, hrw, hch⟩ := exec_appM (P := Tryd.prog) tyCalls 67 (w.alloc (.cells #[] 75)) (w.alloc (.cells #[] 75)) (.slice (some a) l.length cap) l.length _ (Keeps.refl [] _) (hsrc.newer hk0) hrow0 (calls_one l) (by omega) (by unfold maxLen; omega)
    rw [Nat.zero_add, List.nil_append] at hrw
    have hq := fun w => eql_nil_slice (P := Tryd.prog) w 67 _ (some a) l.length cap Tryd.underlying67
    have Hrun := Lib.hid hrun
    have Hrw := Lib.hid hrw
    have Hch := Lib.hid hch
    have hsz : w.heap.size ≤ (w.alloc (.cells #[] 75)).heap.size := hk0.size
    have Hk0 := Lib.hid hk0
    clear hrow hao hsrc hrow0 hrun hrw hch hk0
    obtain ⟨va, vc, rfl, _⟩ := Hrw.out.shape
    generalize hn : l.length = n at *
    go_enter Tryd.func50, Tryd.ntmps50
    go_wp2_with ((with_reducible refine wpList_run (w' := wq) (o := ⟨some 7, _, _, _, _, _⟩) ?_ (.slice va n vc) ?_ ?_); exact rfl; exact Hrun.out _ _ (.tmp 5) (.tmp 6) rfl rfl rfl rfl)
    go_ret
    exact ⟨_, G', rfl, Hrw.out, fun x hx => (Hch.out.fresh x hx).elim (by simp) (fun h => Nat.le_trans hsz h), Hk0.out.trans Hch.out.keeps (by simp)⟩

theorem BkAt.of {w : World} {p : Nat} {b : Bk} {mb : Nat} {fv lv : Value} {Gf Gl : List Nat} (h1 : w.heap[p]? = some (.cells #[.map (some mb), .int .i64 b.q, .int .i64 (usedO b.m), fv, lv] 69))
    (h2 : w.ownsMap Tryd.prog 9 (plainElem Tryd.prog 9) mb b.m.length (datO b.m)) (h3 : RowAt w 1 fv b.f.length (b.f.map intV) Gf) (h4 : RowAt w 3 lv b.l.length (b.l.flatMap callV) Gl)
    (d1 : p ≠ mb) (d2 : p ∉ Gf) (d3 : p ∉ Gl) (d4 : mb ∉ Gf) (d5 : mb ∉ Gl) (d6 : ∀ x, x ∈ Gf → x ∉ Gl) : BkAt w p b (p :: mb :: (Gf ++ Gl)) := ⟨mb, fv, lv, Gf, Gl, h1, h2, h3, h4, rfl, d1, d2, d3, d4, d5, d6⟩

set_option maxHeartbeats 4000000 in
set_option maxRecDepth 100000 in
/-- Copy: the same, in new memory. -/
theorem copy_any (p : Nat) (b : Bk) (F : List Nat) (w : World) (hb : BkAt w p b F) (N : Nat) (hok : b.ok N) (hN : N ≤ 1000000) :
    Calls Tryd.prog 28 #[.pointer (some ⟨p, 0, none⟩)] w fun e w' => ∃ c F', e = .returned (.pointer (some ⟨c, 0, none⟩)) ∧ BkAt w' c b F' ∧ (∀ x, x ∈ F' → w.heap.size ≤ x) ∧ Keeps [] w w' := by
  have hfl := hok.fl
  have hll : b.l.length ≤ 1000000 := by have := hok.few; omega
  obtain ⟨mb, fv, lv, Gf, Gl, hc⟩ := hb
  have H0 : Hid (∀ w', Keeps [] w w' → Calls Tryd.prog 49 #[.map (some mb)] w' fun e w'' => e = .returned (.map (some w'.heap.size)) ∧ w''.ownsMap Tryd.prog 9 (plainElem Tryd.prog 9) w'.heap.size b.m.length (datO b.m) ∧ Keeps [] w' w'' ∧ w'.heap.size < w''.heap.size) := fun w' k => by
    have := AnyW.maps_Clone_owns Tryd.clone49 9 (plainElem Tryd.prog 9) mb b.m.length (datO b.m) w' (hc.newer k).own
    refine this.mono fun e w'' ⟨h1, h2, _, h4⟩ => ⟨h1, h2, ofBelow h4, ownsMap_lt h2⟩
  have H1 : Hid (∀ w', Keeps [] w w' → Calls Tryd.prog 30 #[fv] w' fun e w'' => ∃ v', e = .returned v' ∧ w''.ownsRow 0 3 1 v' b.f.length (b.f.map intV) ∧ (∀ x, x ∈ v'.ownBlock.toList → w'.heap.size ≤ x) ∧ Keeps [] w' w'') := fun w' k => clone_any w' fv b.f Gf (hc.newer k).fat (by omega)
  have H2 : Hid (∀ w', Keeps [] w w' → Calls Tryd.prog 50 #[lv] w' fun e w'' => ∃ v' G', e = .returned v' ∧ RowAt w'' 3 v' b.l.length (b.l.flatMap callV) G' ∧ (∀ x, x ∈ G' → w'.heap.size ≤ x) ∧ Keeps [] w' w'') := fun w' k => clonec_any w' lv b.l Gl (hc.newer k).row hll
  have Hc := Lib.hid (fun w' (k : Keeps [] w w') => (fun x : Nat × Nat => And.intro (cell_of_heap (hc.newer k).cells 0) (And.intro (cell_of_heap (hc.newer k).cells 1) (And.intro (cell_of_heap (hc.newer k).cells 2) (And.intro (cell_of_heap (hc.newer k).cells 3) (cell_of_heap (hc.newer k).cells 4))))) (0, 0))
  obtain ⟨fad, fcap, rfl, _⟩ := hc.fat.shape
  obtain ⟨lad, lcap, rfl, _⟩ := hc.row.shape
  clear hc hok
  go_enter Tryd.func28, Tryd.ntmps28
  have hkd : Keeps [] w w.drew := (Keeps.refl [] w).drew
  have Hcw := Lib.hid (Hc.out w (Keeps.refl [] w))
  go_wp2
  go_region_held3 (fun w' => w'.cell? ⟨p, 0, none⟩ = some (.map (some mb)) ∧ w'.cell? ⟨p, 1, none⟩ = some (.int .i64 b.q) ∧ w'.cell? ⟨p, 2, none⟩ = some (.int .i64 (usedO b.m)) ∧ w'.cell? ⟨p, 3, none⟩ = some (.slice fad b.f.length fcap) ∧ w'.cell? ⟨p, 4, none⟩ = some (.slice lad b.l.length lcap))
    (first | exact Hcw.out | exact D1.out | exact D2.out | exact D3.out | exact Hc.out _ ((((hkd.trans k1 (by simp)).trans k2 (by simp)).trans k3 (by simp)).alloc _))
    (first
      | (go_at_call 49; refine (H0.out _ hkd).mono ?_; rintro e w1 ⟨rfl, o1, k1, s1⟩; have D1 := Lib.hid (Hc.out _ (hkd.trans k1 (by simp))))
      | (go_at_call 30; refine (H1.out _ (hkd.trans k1 (by simp))).mono ?_; rintro e w2 ⟨v2, rfl, r2, f2, k2⟩; have D2 := Lib.hid (Hc.out _ ((hkd.trans k1 (by simp)).trans k2 (by simp))); obtain ⟨a2, c2, rfl⟩ := ownsRow_shape r2)
      | (go_at_call 50; refine (H2.out _ ((hkd.trans k1 (by simp)).trans k2 (by simp))).mono ?_; rintro e w3 ⟨v3, G3, rfl, r3, f3, k3⟩; have D3 := Lib.hid (Hc.out _ (((hkd.trans k1 (by simp)).trans k2 (by simp)).trans k3 (by simp))); obtain ⟨a3, c3, rfl, _⟩ := r3.shape))
  have K3 : Keeps [] w w3 := ((hkd.trans k1 (by simp)).trans k2 (by simp)).trans k3 (by simp)
  have hs2 := k2.size
  have hs3 := k3.size
  have hsd : w.drew.heap.size = w.heap.size := rfl
  have hf2 : ∀ x, x ∈ (Value.slice a2 b.f.length c2).ownBlock.toList → w1.heap.size ≤ x ∧ x < w2.heap.size := fun x hx => ⟨f2 x hx, (RowAt.own r2 (by omega)).lt x hx⟩
  have hg3 : ∀ x, x ∈ G3 → w2.heap.size ≤ x ∧ x < w3.heap.size := fun x hx => ⟨f3 x hx, r3.lt x hx⟩
  have o3 := ownsMap_heap (ownsMap_heap o1 (k2.block _ (ownsMap_lt o1) (by simp))) (k3.block _ (by omega) (by simp))
  have r23 := (RowAt.own r2 (by omega)).keep k3 (by simp)
  clear Hcw D1 D2 D3 Hc H0 H1 H2
  have go : ∀ w', Keeps [] w3 w' → w'.heap[w3.heap.size]? = some (.cells #[.map (some w.heap.size), .int .i64 b.q, .int .i64 (usedO b.m), .slice a2 b.f.length c2, .slice a3 b.l.length c3] 69) → BkAt w' w3.heap.size b (w3.heap.size :: w.heap.size :: ((Value.slice a2 b.f.length c2).ownBlock.toList ++ G3)) ∧ (∀ x, x ∈ (w3.heap.size :: w.heap.size :: ((Value.slice a2 b.f.length c2).ownBlock.toList ++ G3)) → w.heap.size ≤ x) ∧ Keeps [] w w' := by
    intro w' kk hcell
    refine ⟨BkAt.of hcell (ownsMap_heap o3 (kk.block _ (by have := k3.size; omega) (by simp))) (r23.keep kk (by simp)) (r3.keep kk (by simp)) (by omega) (fun h => by have := hf2 _ h; omega) (fun h => by have := hg3 _ h; omega) (fun h => by have := hf2 _ h; omega) (fun h => by have := hg3 _ h; omega) (fun x h h' => by have := hf2 x h; have := hg3 x h'; omega), fun x hx => ?_, K3.trans kk (by simp)⟩
    simp only [List.mem_cons, List.mem_append] at hx
    rcases hx with rfl | rfl | hx | hx
    · omega
    · omega
    · have := hf2 x hx; omega
    · have := hg3 x hx; omega
  have Go := Lib.hid go
  clear go hf2 hg3 o3 r23 r2 r3 o1 f2 f3 k1 k2 k3 K3 hs2 hs3 s1
  go_wp2
  go_ret
  obtain ⟨q1, q2, q3⟩ := Go.out _ ((Keeps.refl [] w3).alloc _) (heap_alloc_self w3 _)
  exact ⟨_, _, rfl, q1, q2, q3⟩
end Go.Proofs.YtflgagglkkehiaaDoor
