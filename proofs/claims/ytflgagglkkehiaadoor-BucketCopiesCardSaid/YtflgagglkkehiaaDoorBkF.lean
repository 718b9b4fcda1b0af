/- Layer 5: Land. -/
import Derived.Test.YtflgagglkkehiaaDoorBkE
namespace Go.Proofs.YtflgagglkkehiaaDoor
open Go.RowKit Go.Maps

theorem zeroCall : ∃ z : Value, z.cells.size = 3 ∧ ∀ w, (zeroValue 75).run Tryd.prog w = .ok z w := zero_any (by kernel_rfl)
theorem callV_one (c : Cl) : ∀ v ∈ callV c, v.oneCell' = true := by
  obtain ⟨t, k, v⟩ := c
  intro u hu
  unfold callV at hu
  simp only [List.mem_cons, List.not_mem_nil, or_false] at hu
  rcases hu with rfl | rfl | rfl <;> rfl

theorem callV_at : ∀ (l : List Cl) (k : Nat) (c : Cl), l[k]? = some c → ∀ j u, (callV c)[j]? = some u → (l.flatMap callV)[k * 3 + j]? = some u
  | [], k, c, h, _, _, _ => by simp at h
  | y :: r, 0, c, h, j, u, hj => by
    simp at h
    subst h
    rw [List.flatMap_cons, Nat.zero_mul, Nat.zero_add, List.getElem?_append_left (List.getElem?_eq_some_iff.1 hj).1]
    exact hj
  | y :: r, k + 1, c, h, j, u, hj => by
    rw [List.getElem?_cons_succ] at h
    have := callV_at r k c h j u hj
    rw [List.flatMap_cons, List.getElem?_append_right (by show 3 ≤ _; omega), show (k + 1) * 3 + j - (callV y).length = k * 3 + j by show _ - 3 = _; omega]
    exact this
theorem Bk.act_len (b : Bk) (c : Cl) : (b.act c).2.m.length + (b.act c).2.l.length ≤ b.m.length + b.l.length + 1 := by
  unfold Bk.act Bk.put Bk.rem
  by_cases hc : c.1 = true
  · rw [if_pos hc]
    by_cases h2 : (getO b.m c.2.1).isSome = true
    · rw [if_pos h2]; show b.m.length + b.l.length ≤ _; omega
    · rw [if_neg h2]
      split
      · show b.m.length + b.l.length ≤ _; omega
      · have hn : getO b.m c.2.1 = none := by simpa using h2
        show (putO b.m _ _).length + b.l.length ≤ _
        rw [put_length _ hn]; omega
  · rw [if_neg hc]
    split
    · have := del_length b.m c.2.1
      show (delO b.m _).length + b.l.length ≤ _
      omega
    · show b.m.length + b.l.length ≤ _; omega
def landF (b0 : Bk) (l : List Cl) : Bk := l.foldl (fun b c => (b.act c).2) b0
theorem landF_snoc (b0 : Bk) (l : List Cl) (c : Cl) : landF b0 (l ++ [c]) = ((landF b0 l).act c).2 := by
  unfold landF
  rw [List.foldl_append]
  rfl

set_option maxHeartbeats 2000000 in
set_option maxRecDepth 100000 in
theorem bland_any (p : Nat) (b : Bk) (F : List Nat) (w : World) (hb : BkAt w p b F) (N : Nat) (hok : b.ok N) (hN : N ≤ 1000000) (n : Int) :
    Calls Tryd.prog 16 #[.pointer (some ⟨p, 0, none⟩), .int .i64 n] w fun e w' => e = .returned (.int .i64 (b.cut n)) ∧ BkAt w' p (b.land n) F ∧ Chg F F w w' := by
  have hfst := first_any p b F w hb n (by have := hok.few; omega)
  have Hf := Lib.hid hfst
  obtain ⟨z, hz1, hz2⟩ := zeroCall
  obtain ⟨K, hK⟩ : ∃ K, b.cut n = K := ⟨_, rfl⟩
  have hKl : K ≤ b.l.length := by rw [← hK]; unfold Bk.cut; omega
  have hK6 : K ≤ 1000000 := by have := hok.few; omega
  have hland : b.land n = landF (b.drop n) (b.l.take K) := by unfold Bk.land landF; rw [hK]
  have hd0 : (b.drop n).ok N := hok.drop n
  have hdl : (b.drop n).m.length + (b.drop n).l.length + K ≤ N := by
    have := hok.few
    show b.m.length + (b.l.drop (b.cut n)).length + K ≤ N
    rw [List.length_drop, hK]
    omega
  have hnm := hok.nm
  rw [hK] at Hf ⊢
  rw [hland]
  clear hfst hb hland hK hok
  generalize b.drop n = b0 at *
  have Hnm := Lib.hid hnm
  have Hd0 := Lib.hid hd0
  have Hdl := Lib.hid hdl
  have Hz1 := Lib.hid hz1
  have Hz2 := Lib.hid hz2
  have HKl := Lib.hid hKl
  clear hnm hd0 hdl hz1 hz2 hKl
  go_enter Tryd.func16, Tryd.ntmps16
  go_wp2_with (go_at_call 34; (with_reducible refine (Hf.out).mono ?_); rintro e w1 ⟨v, mb, fv, lv, Gf, Gl, rfl, h1, h2, h3⟩; obtain ⟨ad, cap, rfl, hKc, _, hao⟩ := h1.shape)
  have Hao := Lib.hid hao
  have HKc := Lib.hid hKc
  clear hao hKc
  go_loopw [13] (fun iv wr => ∃ k : Nat, k ≤ K ∧ iv = .int .i64 k ∧ BkC wr p (landF b0 (b.l.take k)) F mb fv lv Gf Gl ∧ RowAt wr 3 (.slice ad K cap) K ((b.l.take K).flatMap callV) Gl ∧ (landF b0 (b.l.take k)).ok N ∧ (landF b0 (b.l.take k)).m.length + (landF b0 (b.l.take k)).l.length + K ≤ N + k ∧ Chg F F w wr) (fun iv _ => K - (intOf iv).toNat)
  case atStart => exact ⟨0, Nat.zero_le _, rfl, h2, h1, Hd0.out, Hdl.out, h3⟩
  case round =>
    obtain ⟨k, hk, rfl, hc, hrow, hok, hlen, hch⟩ := hrel
    clear h1 h2 h3
    by_cases hlt : k < K
    · obtain ⟨c, hcl⟩ : ∃ c, b.l[k]? = some c := ⟨b.l[k]'(by have := HKl.out; omega), by simp⟩
      have hst : b.l.take (k + 1) = b.l.take k ++ [c] := by rw [List.take_add_one, hcl]; rfl
      have hn := Hnm.out c (List.mem_of_getElem? hcl)
      have hnx : landF b0 (b.l.take (k + 1)) = ((landF b0 (b.l.take k)).act c).2 := by rw [hst, landF_snoc]
      generalize landF b0 (b.l.take k) = bk at *
      have hokn := hok.actF c hn.2 (by omega)
      have hlenn := bk.act_len c
      obtain ⟨g, off, rfl⟩ := Hao.out (by have := HKc.out; omega)
      have hra : wr.rangeAt g (off + k * 3) (callV c) := fun j u hj => by
        have h1 := callV_at (b.l.take K) k c (by rw [List.getElem?_take_of_lt hlt]; exact hcl) j u hj
        have := hrow.cell (by have := HKc.out; omega) _ _ h1
        rwa [← Nat.add_assoc] at this
      have hact := fun w' (h : BkC w' p bk F mb fv lv Gf Gl) => act_c p bk F w' mb fv lv Gf Gl h N hok hN c hn.1 hn.2
      have hi3 : (Tryd.prog.info? 75).map (·.size) = some (callV c).length := sizeCall
      have hone := callV_one c
      have hk0 : (0 : Int) ≤ (k : Int) := by omega
      have hk1 : (k : Int) < (K : Int) := by omega
      have Hra := Lib.hid hra
      have Hact := Lib.hid hact
      have Hi3 := Lib.hid hi3
      have Hone := Lib.hid hone
      have Hc := Lib.hid hc
      have Hrow := Lib.hid hrow
      have Hokn := Lib.hid hokn
      have Hlenn := Lib.hid hlenn
      have Hnx := Lib.hid hnx
      clear hra hact hi3 hone hc hrow hokn hlenn hnx hst hcl hn hok
      have hk2 : Keeps [] wr (wr.alloc (.cells (callV c).toArray 75)) := (Keeps.refl [] wr).alloc _
      have Hk2 := Lib.hid hk2
      have Hc2 := Lib.hid (Hc.out.newer hk2)
      have hcn := cell_of_heap (heap_alloc_self wr (.cells (callV c).toArray 75))
      have e1 : (wr.alloc (.cells (callV c).toArray 75)).cell? ⟨wr.heap.size, 1, none⟩ = some (.string (str c.2.1)) := (hcn 1).trans rfl
      have e2 : (wr.alloc (.cells (callV c).toArray 75)).cell? ⟨wr.heap.size, 2, none⟩ = some (.string (str c.2.2)) := (hcn 2).trans rfl
      have e0 : (wr.alloc (.cells (callV c).toArray 75)).cell? ⟨wr.heap.size, 0, none⟩ = some (.func (.func (if c.1 then 33 else 53)) #[] #[]) := (hcn 0).trans rfl
      clear hcn hk2
      rcases hct : c.1
      all_goals
        simp only [hct, if_true, Bool.false_eq_true, if_false] at e0 Hact
        go_wp2_with (first
          | ((with_reducible refine wpList_run (w' := wr) (o := ⟨some 16, _, _, _, _, _⟩) ?_ (.agg (callV c).toArray) ?_ ?_); exact rfl; exact exec_load wr 75 g (off + k * 3) (callV c) _ Hra.out Tryd.underlying75 rfl Hi3.out _ _ (.tmp 15) rfl rfl)
          | ((with_reducible refine wpList_run (w' := wr.alloc (.cells z.cells 75)) (o := ⟨some 7, _, _, _, _, _⟩) ?_ (.pointer (some ⟨wr.heap.size, 0, none⟩)) ?_ ?_); exact rfl; exact exec_alloc _ 75 _ _ rfl z Hz2.out)
          | ((with_reducible refine wpList_runS (w' := wr.alloc (.cells (callV c).toArray 75)) (o := ⟨none, .store 75 _ _, _, _, _, _⟩) ?_ ?_ ?_); exact rfl; exact exec_storeNew wr 75 z.cells (callV c) Hi3.out (by rw [Hz1.out]; rfl) Hone.out _ _ (.tmp 7) (.tmp 16) rfl rfl rfl)
          | (go_at_call 33; (with_reducible refine (Hact.out _ Hc2.out).mono ?_); rintro e w3 ⟨rfl, q1, q2⟩)
          | (go_at_call 53; (with_reducible refine (Hact.out _ Hc2.out).mono ?_); rintro e w3 ⟨rfl, q1, q2⟩))
        go_roundw
        case rel =>
          refine ⟨k + 1, by omega, by go_num, by rw [Hnx.out]; exact q1, (Hrow.out.keep Hk2.out (by simp)).keep q2 (fun x hx => ?_), by rw [Hnx.out]; exact Hokn.out, by have := Hlenn.out; rw [Hnx.out]; omega, hch.trans (Chg.old Hk2.out ⟨q2.mono (fun x hx => ?_), fun x hx => .inl hx⟩)⟩
          · simp only [List.mem_cons, List.not_mem_nil, or_false]
            rintro (rfl | rfl)
            · exact Hc.out.pl hx
            · exact Hc.out.ml hx
          · rw [Hc.out.foot]
            simp only [List.mem_cons, List.not_mem_nil, or_false] at hx
            rcases hx with rfl | rfl <;> simp
        case measure => simp [intOf]; omega
    · obtain rfl : k = K := by omega
      go_wp2
      go_ret
      exact ⟨rfl, ⟨_, _, _, _, _, hc⟩, hch⟩
end Go.Proofs.YtflgagglkkehiaaDoor
