/- Layer 5: calls that are not too many, or too great; a row of calls as it is read. -/
import Derived.Test.YtflgagglkkehiaaDoorBkJ
import Derived.Test.YtflgagglkkehiaaDoorOpenS
namespace Go.Proofs.YtflgagglkkehiaaDoor
open Go.RowKit Go.Maps

def fewO (o : OpR) : Bool := !(decide (300 < o.name.length) || (decide (300 < o.data.length) && decide (o.data.length ≤ 65536)) || decide (20 < o.L.length))
def few (l : List OpR) : Bool := l.all fewO && decide (l.length ≤ 60)
theorem few_spec {l : List OpR} (h : few l = true) : l.length ≤ 60 ∧ ∀ o, o ∈ l → o.name.length ≤ 300 ∧ (o.data.length ≤ 300 ∨ 65536 < o.data.length) ∧ o.L.length ≤ 20 := by
  unfold few at h
  rw [Bool.and_eq_true, List.all_eq_true, decide_eq_true_eq] at h
  refine ⟨h.2, fun o ho => ?_⟩
  have := h.1 o ho
  unfold fewO at this
  simp at this
  omega

theorem SlRows.at {α : Type} {w : World} {ad : Option Addr} {f : α → List Value} {c n cap : Nat} {xs : List α} {G : List Nat} (h : SlRows w (.slice ad n cap) f c xs G) {k : Nat} {a : α} (hk : xs[k]? = some a) :
    ∃ b off, ad = some ⟨b, off, none⟩ ∧ n = xs.length ∧ ∀ j u, (f a)[j]? = some u → w.cell? ⟨b, off + k * c + j, none⟩ = some u := by
  obtain ⟨ad', cap', e1, h2⟩ := h
  obtain ⟨b, off, e2, _, hc⟩ := h2 (by intro h0; rw [h0] at hk; simp at hk)
  injection e1 with e3 e4 _
  exact ⟨b, off, by rw [e3]; exact e2, e4, fun j u hj => hc k a hk j u hj⟩

set_option maxHeartbeats 4000000 in
set_option maxRecDepth 100000 in
theorem few_any (l : List OpR) (v : Value) (G : List Nat) (w : World) (hv : SlRows w v OpR.vals 6 l G) (hg : ∀ o, o ∈ l → o.good w) (hl : l.length ≤ 9223372036854775807) :
    Calls Tryd.prog 20 #[v] w fun e w' => e = .returned (.bool (few l)) ∧ Keeps [] w w' := by
  have Hv := Lib.hid hv
  obtain ⟨ad, cap, rfl, _⟩ := hv
  have Hg := Lib.hid hg
  clear hg
  have hli : (l.length : Int) ≤ 9223372036854775807 := by omega
  obtain ⟨r, hr⟩ : ∃ r, few l = r := ⟨_, rfl⟩
  rw [hr]
  have Hr := Lib.hid hr
  clear hr
  go_enter Tryd.func20, Tryd.ntmps20
  go_wp2
  go_loopw [3] (fun iv wr => ∃ k : Nat, k ≤ l.length ∧ iv = .int .i64 k ∧ Hid ((l.take k).all fewO = true) ∧ Keeps [] w wr) (fun iv _ => l.length - (intOf iv).toNat)
  case atStart => exact ⟨0, Nat.zero_le _, rfl, by show ([].all fewO) = true; rfl, Keeps.refl [] _⟩
  case round =>
    obtain ⟨k, hk, rfl, hall, hkk⟩ := hrel
    by_cases hlt : k < l.length
    · obtain ⟨o, ho⟩ : ∃ o, l[k]? = some o := ⟨l[k], by simp [hlt]⟩
      obtain ⟨b, off, rfl, _, hc⟩ := Hv.out.at ho
      have hgd := Hg.out o (List.mem_of_getElem? ho)
      have hc1 := hkk.cell0 (hc 1 _ rfl)
      have hc2 := hkk.cell0 (hc 2 _ rfl)
      have hc5 := hkk.cell0 (hc 5 _ rfl)
      obtain ⟨la, lc, hlv⟩ : ∃ a c, o.lv = .slice a o.L.length c := by
        rcases hgd.src with ⟨h1, h2⟩ | ⟨a, c, h1, _⟩
        · exact ⟨none, 0, by rw [h1]; have : o.L = [] := by simpa using h2
                             rw [this]; rfl⟩
        · exact ⟨some a, c, by rw [h1, List.length_map]⟩
      rw [hlv] at hc5
      have hst : l.take (k + 1) = l.take k ++ [o] := by rw [List.take_add_one, ho]; rfl
      have hki : (k : Int) < (l.length : Int) := by omega
      have hki0 : (0 : Int) ≤ (k : Int) := by omega
      have Hkk := Lib.hid hkk
      have Hst := Lib.hid hst
      have hmem := Lib.hid (List.mem_of_getElem? ho)
      clear hc hkk hst ho hgd hlv
      rcases (show (300 < o.name.length) ∨ (o.name.length ≤ 300 ∧ 300 < o.data.length ∧ o.data.length ≤ 65536) ∨ (o.name.length ≤ 300 ∧ o.data.length ≤ 300 ∧ 20 < o.L.length) ∨ (o.name.length ≤ 300 ∧ 65536 < o.data.length ∧ 20 < o.L.length) ∨ (o.name.length ≤ 300 ∧ o.data.length ≤ 300 ∧ o.L.length ≤ 20) ∨ (o.name.length ≤ 300 ∧ 65536 < o.data.length ∧ o.L.length ≤ 20) by omega) with hq | hq | hq | hq | hq | hq
      · have n1 : decide (300 < (o.name.length : Int)) = true := decide_eq_true (by omega)
        have hf : fewO o = false := by unfold fewO; simp; omega
        have hvo : r = false := by
          rw [← Hr.out]
          unfold few
          rw [Bool.and_eq_false_iff]
          left
          rw [List.all_eq_false]
          exact ⟨o, hmem.out, by rw [hf]; simp⟩
        subst hvo
        clear hf
        go_wp2
        go_ret
        exact ⟨rfl, Hkk.out⟩
      · have n1 : decide (300 < (o.name.length : Int)) = false := decide_eq_false (by omega)
        have d1 : decide (300 < (o.data.length : Int)) = true := decide_eq_true (by omega)
        have e1 : decide ((o.data.length : Int) ≤ 65536) = true := decide_eq_true (by omega)
        have hf : fewO o = false := by unfold fewO; simp; omega
        have hvo : r = false := by
          rw [← Hr.out]
          unfold few
          rw [Bool.and_eq_false_iff]
          left
          rw [List.all_eq_false]
          exact ⟨o, hmem.out, by rw [hf]; simp⟩
        subst hvo
        clear hf
        go_wp2
        go_ret
        exact ⟨rfl, Hkk.out⟩
      · have n1 : decide (300 < (o.name.length : Int)) = false := decide_eq_false (by omega)
        have d1 : decide (300 < (o.data.length : Int)) = false := decide_eq_false (by omega)
        have l1 : decide (20 < (o.L.length : Int)) = true := decide_eq_true (by omega)
        have hf : fewO o = false := by unfold fewO; simp; omega
        have hvo : r = false := by
          rw [← Hr.out]
          unfold few
          rw [Bool.and_eq_false_iff]
          left
          rw [List.all_eq_false]
          exact ⟨o, hmem.out, by rw [hf]; simp⟩
        subst hvo
        clear hf
        go_wp2
        go_ret
        exact ⟨rfl, Hkk.out⟩
      · have n1 : decide (300 < (o.name.length : Int)) = false := decide_eq_false (by omega)
        have d1 : decide (300 < (o.data.length : Int)) = true := decide_eq_true (by omega)
        have e1 : decide ((o.data.length : Int) ≤ 65536) = false := decide_eq_false (by omega)
        have l1 : decide (20 < (o.L.length : Int)) = true := decide_eq_true (by omega)
        have hf : fewO o = false := by unfold fewO; simp; omega
        have hvo : r = false := by
          rw [← Hr.out]
          unfold few
          rw [Bool.and_eq_false_iff]
          left
          rw [List.all_eq_false]
          exact ⟨o, hmem.out, by rw [hf]; simp⟩
        subst hvo
        clear hf
        go_wp2
        go_ret
        exact ⟨rfl, Hkk.out⟩
      · have n1 : decide (300 < (o.name.length : Int)) = false := decide_eq_false (by omega)
        have d1 : decide (300 < (o.data.length : Int)) = false := decide_eq_false (by omega)
        have l1 : decide (20 < (o.L.length : Int)) = false := decide_eq_false (by omega)
        have hf : fewO o = true := by unfold fewO; simp; omega
        have Hf := Lib.hid hf
        clear hf
        go_wp2
        go_roundw
        case rel => exact ⟨k + 1, by omega, by go_num, by show _ = true; rw [Hst.out, List.all_append, hall.out]; simp [Hf.out], Hkk.out⟩
        case measure => simp [intOf]; omega
      · have n1 : decide (300 < (o.name.length : Int)) = false := decide_eq_false (by omega)
        have d1 : decide (300 < (o.data.length : Int)) = true := decide_eq_true (by omega)
        have e1 : decide ((o.data.length : Int) ≤ 65536) = false := decide_eq_false (by omega)
        have l1 : decide (20 < (o.L.length : Int)) = false := decide_eq_false (by omega)
        have hf : fewO o = true := by unfold fewO; simp; omega
        have Hf := Lib.hid hf
        clear hf
        go_wp2
        go_roundw
        case rel => exact ⟨k + 1, by omega, by go_num, by show _ = true; rw [Hst.out, List.all_append, hall.out]; simp [Hf.out], Hkk.out⟩
        case measure => simp [intOf]; omega
    · obtain rfl : k = l.length := by omega
      rw [List.take_length] at hall
      have hvo : r = decide ((l.length : Int) ≤ 60) := by
        rw [← Hr.out]
        unfold few
        rw [hall.out, Bool.true_and, decide_eq_decide]
        omega
      have Hvo := Lib.hid hvo
      clear hvo
      go_wp2
      go_ret
      refine ⟨ret_bool ?_, hkk⟩
      rw [Hvo.out]

/-! ## arguments, opened -/
section
open Go.ChangeShapes Go.WideShapes Go.ChangeAt Go.Deep

/-- A slice of ints that is an element's part, opened. -/
theorem open_ints {H : Type} {enc : TypeId × Value → H} {P : Program} {W : World} {t e : TypeId} {v : Value} {m : Nat} {y : DataW H × List MemPlace} (hc : P.cellsOf e = 1)
    (ht : P.underlying t = some (.slice e)) (he : P.underlying e = some (.int .i64))
    (hf : DataW.trod enc P W 0 (fun _ => true) true m t [v] = some y) :
    ∃ (xs : List Int), SlSrc W v (xs.map intV) ∧ (∀ a, a ∈ xs → i64R a) := by
  rcases open_slice ht hf with ⟨hcs, _⟩ | ⟨a, len', cap', m, n, D, Pl, hcs, _, hl, hcm, hm, _, hi⟩
  · simp at hcs
    subst hcs
    exact ⟨[], .inl ⟨rfl, rfl⟩, by simp⟩
  · simp at hcs
    subst hcs
    simp only [if_true] at hm
    obtain ⟨xs, hxl, hxs⟩ := list_of (Q := fun i (x : Int) => W.cells? 0 (a.add (i * 1)) 1 = some [intV x] ∧ i64R x) len' (fun i hil => by
      obtain ⟨cs', h1, h2⟩ := hi i (by omega)
      obtain ⟨x, rfl, hg⟩ := elem_i64 he h2
      exact ⟨x, by rw [← hc]; exact h1, hg⟩)
    refine ⟨xs, .inr ⟨a, cap', by rw [List.length_map, hxl], fun j u hj => ?_⟩, fun x hx => ?_⟩
    · rw [List.getElem?_map] at hj
      obtain ⟨x, hx, rfl⟩ := Option.map_eq_some_iff.1 hj
      obtain ⟨_, _, hcell⟩ := World.cells?_some (hxs j x hx).1
      have h0 := hcell 0 (by omega)
      rw [Nat.mul_one] at h0
      have e2 : (a.add j).add 0 = a.add j := by unfold Addr.add; split <;> simp_all
      rw [e2] at h0
      exact h0
    · obtain ⟨i, hi'⟩ := List.mem_iff_getElem?.1 hx
      exact (hxs i x hi').2

theorem elem_op {H : Type} {enc : TypeId × Value → H} {W : World} {n : Nat} {cs : List Value} {x : DataW H × List MemPlace} (h : DataW.trod enc Tryd.prog W 0 (fun _ => true) true n 42 cs = some x) :
    ∃ s : OpR, cs = s.vals ∧ s.good W := by
  obtain ⟨m, hl, hf⟩ := elem_fields Tryd.underlying42 (by kernel_rfl) (by kernel_rfl) h
  match cs, hl with
  | [c0, c1, c2, c3, c4, c5], _ =>
    obtain ⟨y0, h0⟩ := hf 0 _ c0 rfl rfl
    obtain ⟨y1, h1⟩ := hf 1 _ c1 rfl rfl
    obtain ⟨y2, h2⟩ := hf 2 _ c2 rfl rfl
    obtain ⟨y3, h3⟩ := hf 3 _ c3 rfl rfl
    obtain ⟨y4, h4⟩ := hf 4 _ c4 rfl rfl
    obtain ⟨y5, h5⟩ := hf 5 _ c5 rfl rfl
    obtain ⟨a, e0, a0⟩ := elem_i64 Tryd.underlying3 h0
    obtain ⟨s1, e1, b1⟩ := elem_string Tryd.underlying9 h1
    obtain ⟨s2, e2, b2⟩ := elem_string Tryd.underlying9 h2
    obtain ⟨b, e3, b0⟩ := elem_i64 Tryd.underlying3 h3
    obtain ⟨c, e4, d0⟩ := elem_i64 Tryd.underlying3 h4
    obtain ⟨L, hs, hL⟩ := open_ints (by kernel_rfl) Tryd.underlying40 Tryd.underlying3 h5
    simp only [List.cons.injEq, and_true] at e0 e1 e2 e3 e4
    subst e0 e1 e2 e3 e4
    exact ⟨⟨a, s1.data.toList, s2.data.toList, b, c, c5, L⟩, by unfold OpR.vals; rw [str_self, str_self], ⟨a0, by rw [dlen]; unfold maxLen; exact b1, by rw [dlen]; unfold maxLen; exact b2, b0, d0, hs, hL⟩⟩
end
end Go.Proofs.YtflgagglkkehiaaDoor
