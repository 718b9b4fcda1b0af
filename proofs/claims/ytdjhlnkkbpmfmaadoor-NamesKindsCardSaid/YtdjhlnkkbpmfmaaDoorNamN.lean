/- Layer 6: ints; the chapter's examples. -/
import Derived.Test.YtdjhlnkkbpmfmaaDoorNamM
namespace Go.Proofs.YtdjhlnkkbpmfmaaDoor
open Go.RowKit

theorem SlAt.own {w : World} {e : TypeId} {v : Value} {n : Nat} {xs : List Value} (h : w.ownsRow 0 e 1 v n xs) : SlAt w v xs v.ownBlock.toList := by
  obtain ⟨hl, h2⟩ := h
  rw [Nat.mul_one] at hl
  rcases h2 with ⟨rfl, rfl⟩ | ⟨g, cap, cur, rfl, _, hh, hnc, _, hsz, ht⟩
  · exact ⟨none, 0, by rw [hl], fun h0 => absurd (List.length_eq_zero_iff.1 hl) h0⟩
  · refine ⟨_, cap, by rw [hl], fun _ => ⟨g, 0, rfl, by simp [Value.ownBlock], fun j u hj => ?_⟩⟩
    rw [Nat.zero_add, cell_of_heap hh]
    rw [← ht, Nat.mul_one] at hj
    have hjl : j < n := by
      have := (List.getElem?_eq_some_iff.1 hj).1
      rw [List.length_take] at this
      omega
    rw [List.getElem?_take_of_lt hjl] at hj
    simpa using hj

set_option maxHeartbeats 4000000 in
set_option maxRecDepth 100000 in
theorem ints_any (xs ys : List Int) (va vb : Value) (Ga Gb : List Nat) (w : World) (ha : SlAt w va (xs.map intV) Ga) (hb : SlAt w vb (ys.map intV) Gb) (hx : xs.length ≤ 140737488355328) (_hy : ys.length ≤ 140737488355328) :
    Calls Tryd.prog 17 #[va, vb] w fun e w' => e = .returned (.bool (decide (xs = ys))) ∧ Keeps [] w w' := by
  have Ha := Lib.hid ha
  have Hb := Lib.hid hb
  obtain ⟨aa, ca, rfl, _⟩ := ha
  obtain ⟨ab, cb, rfl, _⟩ := hb
  rw [List.length_map, List.length_map]
  obtain ⟨r, hr⟩ : ∃ r, decide (xs = ys) = r := ⟨_, rfl⟩
  rw [hr]
  have Hr := Lib.hid hr
  clear hr
  by_cases hlen : xs.length = ys.length
  · have hle : (xs.length : Int) ≤ 140737488355328 := by omega
    have Hlen := Lib.hid hlen
    rw [← hlen]
    have hyl : ys.length = xs.length := hlen.symm
    clear hlen
    have Hyl := Lib.hid hyl
    clear hyl
    go_enter Tryd.func17, Tryd.ntmps17
    go_wp2
    go_loopw [5] (fun iv wr => ∃ k : Nat, k ≤ xs.length ∧ iv = .int .i64 k ∧ Hid (xs.take k = ys.take k) ∧ Keeps [] w wr) (fun iv _ => xs.length - (intOf iv).toNat)
    case atStart => exact ⟨0, Nat.zero_le _, rfl, rfl, Keeps.refl [] _⟩
    case round =>
      obtain ⟨k, hk, rfl, heq, hkk⟩ := hrel
      by_cases hlt : k < xs.length
      · have hlt2 : k < ys.length := by have := Hyl.out; omega
        have hki : (k : Int) < (xs.length : Int) := by omega
        have hki0 : (0 : Int) ≤ (k : Int) := by omega
        obtain ⟨ad', cap', e1, hc⟩ := Ha.out
        obtain ⟨b, off, rfl, _, hcell⟩ := hc (by intro h0; rw [List.map_eq_nil_iff] at h0; rw [h0] at hlt; simp at hlt)
        obtain rfl : aa = some ⟨b, off, none⟩ := by injection e1
        obtain ⟨ad2, cap2, e2, hc2⟩ := Hb.out
        obtain ⟨b2, off2, rfl, _, hcell2⟩ := hc2 (by intro h0; rw [List.map_eq_nil_iff] at h0; rw [h0] at hlt2; simp at hlt2)
        obtain rfl : ab = some ⟨b2, off2, none⟩ := by injection e2
        obtain ⟨x, hx⟩ : ∃ x, xs[k]? = some x := ⟨xs[k], by simp [hlt]⟩
        obtain ⟨y, hy⟩ : ∃ y, ys[k]? = some y := ⟨ys[k], by simp [hlt2]⟩
        have c0 := hkk.cell0 (hcell k (intV x) (by rw [List.getElem?_map, hx]; rfl))
        have d0 := hkk.cell0 (hcell2 k (intV y) (by rw [List.getElem?_map, hy]; rfl))
        unfold intV at c0 d0
        have hs1 : xs.take (k + 1) = xs.take k ++ [x] := by rw [List.take_add_one, hx]; rfl
        have hs2 : ys.take (k + 1) = ys.take k ++ [y] := by rw [List.take_add_one, hy]; rfl
        have Hs1 := Lib.hid hs1
        have Hs2 := Lib.hid hs2
        have Hkk := Lib.hid hkk
        have hxk := Lib.hid hx
        have hyk := Lib.hid hy
        clear hs1 hs2 hkk hx hy hcell hcell2 hc hc2 e1 e2 hlt2
        by_cases hxy : x = y
        · have hb2 : (x != y) = false := by rw [hxy]; exact bne_self_eq_false y
          have Hxy := Lib.hid hxy
          clear hxy
          go_wp2
          go_quiet (fail)
          go_wp2
          go_roundw
          case rel => exact ⟨k + 1, by omega, by go_num, by show _ = _; rw [Hs1.out, Hs2.out, heq.out, Hxy.out], by first | exact Hkk.out | exact Hkk.out.drew | exact Hkk.out.drewN _⟩
          case measure => simp [intOf]; omega
        · have hb2 : (x != y) = true := bne_iff_ne.2 hxy
          have hvo : r = false := by
            rw [← Hr.out, decide_eq_false_iff_not]
            intro e
            have h1 := hxk.out
            rw [e, hyk.out] at h1
            exact hxy (by injection h1 with h1; exact h1.symm)
          subst hvo
          clear hxy
          go_wp2
          go_quiet (fail)
          go_wp2
          go_ret
          exact ⟨rfl, by first | exact Hkk.out | exact Hkk.out.drew | exact Hkk.out.drewN _⟩
      · have hkl : k = xs.length := by omega
        have hvo : r = true := by
          rw [← Hr.out, decide_eq_true_eq]
          have h1 := heq.out
          rw [List.take_of_length_le (by omega), List.take_of_length_le (by have := Hyl.out; omega)] at h1
          exact h1
        subst hvo
        have hki : ¬ (k : Int) < (xs.length : Int) := by omega
        clear hkl
        go_wp2
        go_ret
        exact ⟨rfl, hkk⟩
  · have hvo : r = false := by
      rw [← Hr.out, decide_eq_false_iff_not]
      intro e
      exact hlen (by rw [e])
    subst hvo
    have hb2 : ((xs.length : Int) != (ys.length : Int)) = true := bne_nat_ne hlen
    clear hlen
    go_enter Tryd.func17, Tryd.ntmps17
    go_wp2
    go_ret
    exact ⟨rfl, Keeps.refl [] _⟩

theorem vol_print : prtOf [118, 111, 108] 1 255 = ([118, 111, 108, 47, 100, 47, 48, 48, 48, 48, 48, 48, 48, 48, 102, 102], 0) := by decide

set_option maxHeartbeats 4000000 in
set_option maxRecDepth 100000 in
theorem awake_any (w : World) (hT : TabC w) : Calls Tryd.prog 10 #[] w fun e w' => e = .returned (.bool true) ∧ Keeps [] w w' := by
  have Pr : Hid (∀ w' : World, Keeps [] w w' → Calls Tryd.prog 11 #[.agg #[.string (str [118, 111, 108]), .int .i64 1, .int .i64 255]] w' fun e w2 => e = .returned (.tuple #[.string (str [118, 111, 108, 47, 100, 47, 48, 48, 48, 48, 48, 48, 48, 48, 102, 102]), .int .i64 0]) ∧ Keeps [] w' w2) := fun w' k => by
    have h := nprint_any [118, 111, 108] 1 255 w' (by decide) (hT.kept k)
    rw [vol_print] at h
    exact h
  have s1 : ByteArray.mk #[118, 111, 108] = str [118, 111, 108] := rfl
  have s2 : ByteArray.mk #[118, 111, 108, 47, 100, 47, 48, 48, 48, 48, 48, 48, 48, 48, 102, 102] = str [118, 111, 108, 47, 100, 47, 48, 48, 48, 48, 48, 48, 48, 48, 102, 102] := rfl
  have Rn : Hid (∀ (w1 : World), Calls Tryd.prog 18 #[.slice (some ⟨w1.heap.size, 0, none⟩) 3 3, .int .i64 1] (w1.alloc (.cells #[.int .i64 1, .int .i64 2, .int .i64 4] 3)) fun e w2 => ∃ v', e = .returned v' ∧ w2.ownsRow 0 3 1 v' 2 ([1, 2].map intV) ∧ (∀ x, x ∈ v'.ownBlock.toList → w1.heap.size < x) ∧ Keeps [] w1 w2) := fun w1 => by
    refine (run_any [1, 2, 4] _ [w1.heap.size] 1 _ (SlAt.lit w1 ([1, 2, 4].map intV) 3 3 rfl) (by simp) (by omega) (by omega) (fun x hx => ?_)).mono ?_
    · simp only [List.mem_cons, List.not_mem_nil, or_false] at hx
      unfold i64R
      omega
    · rintro e w2 ⟨v', m, rfl, h1, h2, h3, h4, h5⟩
      obtain rfl : m = 2 := run_same h1 h2 (fun j hj => by rcases (show j = 0 ∨ j = 1 by omega) with rfl | rfl <;> decide) (by decide)
      exact ⟨v', rfl, h3, fun x hx => by have := h4 x hx; simp at this; omega, KT ((Keeps.refl [] w1).alloc _) h5⟩
  have It : Hid (∀ (w1 : World) (v' : Value) (w2 : World), w2.ownsRow 0 3 1 v' 2 ([1, 2].map intV) → (w1 = w2.alloc (.cells #[.int .i64 1, .int .i64 2] 3)) → Calls Tryd.prog 17 #[v', .slice (some ⟨w2.heap.size, 0, none⟩) 2 2] w1 fun e w3 => e = .returned (.bool true) ∧ Keeps [] w1 w3) := fun w1 v' w2 h e => by
    subst e
    exact ints_any [1, 2] [1, 2] v' _ _ _ _ (SlAt.own (h.alloc _)) (SlAt.lit w2 ([1, 2].map intV) 3 2 rfl) (by simp) (by simp)
  clear hT
  go_enter Tryd.func10, Tryd.ntmps10
  go_wp2_with (first
    | (go_at_call 11; (with_reducible refine (Pr.out _ (Keeps.refl [] _)).mono ?_); rintro e w1 ⟨rfl, k1⟩)
    | (go_at_call 18; (with_reducible refine (Rn.out _).mono ?_); rintro e w2 ⟨v', rfl, h2, h3, k2⟩)
    | (go_at_call 17; (with_reducible refine (It.out _ _ _ h2 rfl).mono ?_); rintro e w3 ⟨rfl, k3⟩))
  go_ret
  exact ⟨rfl, KT k1 (KT (k2.alloc _) k3)⟩
end Go.Proofs.YtdjhlnkkbpmfmaaDoor
