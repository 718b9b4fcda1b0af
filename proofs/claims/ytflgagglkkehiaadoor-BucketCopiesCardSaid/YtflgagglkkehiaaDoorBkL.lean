/- Layer 5: texts; a law's call on a bucket of its own; runs of calls. -/
import Derived.Test.YtflgagglkkehiaaDoorBkK
namespace Go.Proofs.YtflgagglkkehiaaDoor
open Go.RowKit Go.Maps

set_option maxHeartbeats 4000000 in
set_option maxRecDepth 100000 in
theorem texts_any (xs ys : List Bs) (va vb : Value) (Ga Gb : List Nat) (w : World) (ha : SlAt w va (xs.map strV) Ga) (hb : SlAt w vb (ys.map strV) Gb) (hx : xs.length ≤ 140737488355328) (_hy : ys.length ≤ 140737488355328) :
    Calls Tryd.prog 24 #[va, vb] w fun e w' => e = .returned (.bool (decide (xs = ys))) ∧ Keeps [] w w' := by
  have Ha := Lib.hid ha
  have Hb := Lib.hid hb
  obtain ⟨aa, ca, rfl, _⟩ := ha
  obtain ⟨ab, cb, rfl, _⟩ := hb
  rw [List.length_map, List.length_map]
  obtain ⟨r, hr⟩ : ∃ r, decide (xs = ys) = r := ⟨_, rfl⟩
  rw [hr]
  have Hr := Lib.hid hr
  clear hr
  by_cases hlen : xs.length = ys.length
  · have hle : (xs.length : Int) ≤ 140737488355328 := by omega
    rw [← hlen]
    have hyl : ys.length = xs.length := hlen.symm
    clear hlen
    have Hyl := Lib.hid hyl
    clear hyl
    go_enter Tryd.func24, Tryd.ntmps24
    go_wp2
    go_loopw [5] (fun iv wr => ∃ k : Nat, k ≤ xs.length ∧ iv = .int .i64 k ∧ Hid (xs.take k = ys.take k) ∧ Keeps [] w wr) (fun iv _ => xs.length - (intOf iv).toNat)
    case atStart => exact ⟨0, Nat.zero_le _, rfl, rfl, Keeps.refl [] _⟩
    case round =>
      obtain ⟨k, hk, rfl, heq, hkk⟩ := hrel
      by_cases hlt : k < xs.length
      · have hlt2 : k < ys.length := by have := Hyl.out; omega
        have hki : (k : Int) < (xs.length : Int) := by omega
        have hki0 : (0 : Int) ≤ (k : Int) := by omega
        obtain ⟨ad', cap', e1, hc⟩ := Ha.out
        obtain ⟨b, off, rfl, _, hcell⟩ := hc (by intro h0; rw [List.map_eq_nil_iff] at h0; rw [h0] at hlt; simp at hlt)
        obtain rfl : aa = some ⟨b, off, none⟩ := by injection e1
        obtain ⟨ad2, cap2, e2, hc2⟩ := Hb.out
        obtain ⟨b2, off2, rfl, _, hcell2⟩ := hc2 (by intro h0; rw [List.map_eq_nil_iff] at h0; rw [h0] at hlt2; simp at hlt2)
        obtain rfl : ab = some ⟨b2, off2, none⟩ := by injection e2
        obtain ⟨x, hx⟩ : ∃ x, xs[k]? = some x := ⟨xs[k], by simp [hlt]⟩
        obtain ⟨y, hy⟩ : ∃ y, ys[k]? = some y := ⟨ys[k], by simp [hlt2]⟩
        have c0 := hkk.cell0 (hcell k (strV x) (by rw [List.getElem?_map, hx]; rfl))
        have d0 := hkk.cell0 (hcell2 k (strV y) (by rw [List.getElem?_map, hy]; rfl))
        unfold strV at c0 d0
        have hs1 : xs.take (k + 1) = xs.take k ++ [x] := by rw [List.take_add_one, hx]; rfl
        have hs2 : ys.take (k + 1) = ys.take k ++ [y] := by rw [List.take_add_one, hy]; rfl
        have Hs1 := Lib.hid hs1
        have Hs2 := Lib.hid hs2
        have Hkk := Lib.hid hkk
        have hxk := Lib.hid hx
        have hyk := Lib.hid hy
        clear hs1 hs2 hkk hx hy hcell hcell2 hc hc2 e1 e2 hlt2
        by_cases hxy : x = y
        · subst hxy
          go_wp2
          go_quiet (fail)
          go_wp2
          go_roundw
          case rel => exact ⟨k + 1, by omega, by go_num, by show _ = _; rw [Hs1.out, Hs2.out, heq.out], by first | exact Hkk.out | exact Hkk.out.drew | exact Hkk.out.drewN _⟩
          case measure => simp [intOf]; omega
        · have hb2 : (x == y) = false := beq_eq_false_iff_ne.2 hxy
          have hvo : r = false := by
            rw [← Hr.out, decide_eq_false_iff_not]
            intro e
            have h1 := hxk.out
            rw [e, hyk.out] at h1
            exact hxy (by injection h1 with h1; exact h1.symm)
          subst hvo
          have hxy2 := hxy
          clear hxy
          go_wp2
          go_quiet (fail)
          go_wp2
          go_ret
          exact ⟨rfl, by first | exact Hkk.out | exact Hkk.out.drew | exact Hkk.out.drewN _⟩
      · have hkl : k = xs.length := by omega
        have hvo : r = true := by
          rw [← Hr.out, decide_eq_true_eq]
          have h1 := heq.out
          rw [List.take_of_length_le (by omega), List.take_of_length_le (by have := Hyl.out; omega)] at h1
          exact h1
        subst hvo
        have hki : ¬ (k : Int) < (xs.length : Int) := by omega
        clear hkl
        go_wp2
        go_ret
        exact ⟨rfl, hkk⟩
  · have hvo : r = false := by
      rw [← Hr.out, decide_eq_false_iff_not]
      intro e
      exact hlen (by rw [e])
    subst hvo
    have hb2 : ((xs.length : Int) != (ys.length : Int)) = true := bne_nat_ne hlen
    clear hlen
    go_enter Tryd.func24, Tryd.ntmps24
    go_wp2
    go_ret
    exact ⟨rfl, Keeps.refl [] _⟩

theorem m_do {w0 w : World} {p : Nat} {b : Bk} (h : Mine w0 w p b) {N : Nat} (hok : b.ok N) (hN : N ≤ 1000000) (o : OpR) (ho : o.good w) (hL : o.L.length ≤ 20) :
    Calls Tryd.prog 21 #[.pointer (some ⟨p, 0, none⟩), .agg o.vals.toArray] w fun e w' => ∃ lv, e = .returned (.agg #[.string (str (b.doO o).1.s), .int .i64 (b.doO o).1.n, lv, .int .i64 (b.doO o).1.e]) ∧ (∃ a n c, lv = .slice a n c) ∧ Mine w0 w' p (b.doO o).2 := by
  obtain ⟨F, h1, h2, h3⟩ := h
  refine (do_any p b F w h1 N hok hN o ho hL).mono ?_
  rintro e w' ⟨v, F', rfl, ⟨lv, rfl, hr, _⟩, h4, h5⟩
  obtain ⟨a, c, rfl⟩ := ownsRow_shape hr
  exact ⟨_, rfl, ⟨_, _, _, rfl⟩, Mine.step h2 h3 h4 h5⟩
theorem vals_one {w : World} {o : OpR} (h : o.good w) : ∀ v ∈ o.vals, v.oneCell' = true := by
  intro v hv
  unfold OpR.vals at hv
  simp only [List.mem_cons, List.not_mem_nil, or_false] at hv
  rcases hv with rfl | rfl | rfl | rfl | rfl | rfl
  · rfl
  · rfl
  · rfl
  · rfl
  · rfl
  · rcases h.src with ⟨h1, _⟩ | ⟨a, c, h1, _⟩ <;> rw [h1] <;> rfl
theorem sizeOp : (Tryd.prog.info? 42).map (·.size) = some 6 := by kernel_rfl
end Go.Proofs.YtflgagglkkehiaaDoor
