/- Layer 5: named, may, next, fails, New, Waits, Used, Quota, find. -/
import Derived.Test.YtflgagglkkehiaaDoorBkO
import Derived.Test.YtflgagglkkehiaaDoorShelf
import Derived.Shelf.Strings.SlTrimAscii
namespace Go.Proofs.YtflgagglkkehiaaDoor
open Go.RowKit Go.Maps Go.Shelf

theorem ofBelow {w w' : World} (h : Below w.heap.size w w') : Keeps [] w w' := Keeps.of_below h
theorem str_empty : ByteArray.mk #[] = str [] := rfl
theorem trim_any (s : Bs) (w : World) (hs : s.length ≤ 64) :
    Calls Tryd.prog 64 #[.string (str s), .string (str alph)] w fun e w' => ∃ r : Bs, e = .returned (.string (str r)) ∧ (r = [] ↔ s.all (alph.contains ·) = true) ∧ Keeps [] w w' := by
  have h := Any.strings_Trim_laid Tryd.lays160 (by kernel_rfl) (str s) (str alph) w (by rw [str_size]; omega) (by decide) (ascii_of_all (by decide))
  change Calls Tryd.prog 64 _ _ _ at h
  refine h.mono ?_
  rintro e w' ⟨rfl, hB⟩
  exact ⟨_, rfl, trim_all s alph, ofBelow hB⟩

set_option maxHeartbeats 1000000 in
set_option maxRecDepth 100000 in
theorem named_any (s : Bs) (w : World) (h63 : s.length ≤ maxLen) :
    Calls Tryd.prog 51 #[.string (str s)] w fun e w' => e = .returned (.bool (nameB s)) ∧ Keeps [] w w' := by
  have hal : ByteArray.mk #[97, 98, 99, 100, 101, 102, 103, 104, 105, 106, 107, 108, 109, 110, 111, 112, 113, 114, 115, 116, 117, 118, 119, 120, 121, 122, 48, 49, 50, 51, 52, 53, 54, 55, 56, 57, 46, 45, 95, 47] = str alph := rfl
  obtain ⟨r, hr⟩ : ∃ r, nameB s = r := ⟨_, rfl⟩
  rw [hr]
  have Hr := Lib.hid hr
  clear hr
  have hz := str_empty
  by_cases h0 : s = []
  · have hvo : r = false := by rw [← Hr.out]; subst h0; rfl
    subst hvo
    subst h0
    go_enter Tryd.func51, Tryd.ntmps51
    go_wp2
    go_ret
    exact ⟨rfl, Keeps.refl [] _⟩
  · by_cases h1 : s.length ≤ 64
    · have htr := trim_any s w h1
      have hb : s.isEmpty = false := by simpa using h0
      have hl : decide ((s.length : Int) ≤ 64) = true := decide_eq_true (by omega)
      have Htr := Lib.hid htr
      have H0 := Lib.hid h0
      have H1 := Lib.hid h1
      clear htr h0 h1
      go_enter Tryd.func51, Tryd.ntmps51
      go_wp2_with (go_at_call 64; (with_reducible refine (Htr.out).mono ?_); rintro e w1 ⟨t, rfl, ht, k1⟩)
      have hvo : r = t.isEmpty := by
        rw [← Hr.out]
        unfold nameB
        rw [decide_eq_true H0.out, decide_eq_true H1.out, Bool.true_and, Bool.true_and, Bool.eq_iff_iff, ← ht]
        simp
      rw [hvo]
      go_ret
      exact ⟨rfl, k1⟩
    · have hvo : r = false := by rw [← Hr.out]; unfold nameB; rw [decide_eq_false h1]; simp
      subst hvo
      have hb : s.isEmpty = false := by simpa using h0
      have hl : decide ((s.length : Int) ≤ 64) = false := decide_eq_false (by omega)
      go_enter Tryd.func51, Tryd.ntmps51
      go_wp2
      go_ret
      exact ⟨rfl, Keeps.refl [] _⟩

set_option maxHeartbeats 1000000 in
set_option maxRecDepth 100000 in
theorem may_any (p : Nat) (s : Bs) (r : Bool) (w : World) (h63 : s.length ≤ maxLen) :
    Calls Tryd.prog 31 #[.pointer (some ⟨p, 0, none⟩), .string (str s), .bool r] w fun e w' => e = .returned (.int .i64 (if nameB s && r then 0 else 1)) ∧ Keeps [] w w' := by
  have hn := named_any s w h63
  generalize nameB s = n at *
  have Hn := Lib.hid hn
  clear hn
  go_enter Tryd.func31, Tryd.ntmps31
  cases n <;> cases r
  all_goals
    go_wp2_with (go_at_call 51; (with_reducible refine (Hn.out).mono ?_); rintro e w1 ⟨rfl, k1⟩)
    go_ret
    exact ⟨rfl, k1⟩

set_option maxHeartbeats 1000000 in
set_option maxRecDepth 100000 in
theorem may_nil (s : Bs) (r : Bool) (w : World) :
    Calls Tryd.prog 31 #[.pointer none, .string (str s), .bool r] w fun e w' => e = .returned (.int .i64 2) ∧ Keeps [] w w' := by
  go_enter Tryd.func31, Tryd.ntmps31
  go_wp2
  go_ret
  exact ⟨rfl, Keeps.refl [] _⟩

theorem tmod4 (x : Int) : -4 < x.tmod 4 ∧ x.tmod 4 < 4 ∧ (x.tmod 4 + 4) % 4 = x % 4 := by
  rcases Int.le_total 0 x with h | h
  · rw [Int.tmod_eq_emod_of_nonneg h]; omega
  · obtain ⟨y, rfl⟩ : ∃ y, x = -y := ⟨-x, by omega⟩
    rw [Int.neg_tmod, Int.tmod_eq_emod_of_nonneg (by omega)]; omega

set_option maxHeartbeats 1000000 in
set_option maxRecDepth 100000 in
theorem next_any (p : Nat) (b : Bk) (F : List Nat) (w : World) (hb : BkAt w p b F) (h64 : ∀ x, x ∈ b.f → i64R x) :
    Calls Tryd.prog 52 #[.pointer (some ⟨p, 0, none⟩)] w fun e w' => e = .returned (.int .i64 b.fate) ∧ BkAt w' p b.tick F ∧ Chg F F w w' := by
  obtain ⟨mb, fv, lv, Gf, Gl, hc⟩ := hb
  obtain ⟨ad, cap, rfl, hle, hcm, hao⟩ := hc.fat.shape
  have c3 := cell_of_heap hc.cells 3
  have f3 := free_of_heap hc.cells 3
  have hpF : p ∈ F := by rw [hc.foot]; simp
  have hFe := hc.foot
  have Hc := Lib.hid hc
  have HpF := Lib.hid hpF
  have HF := Lib.hid hFe
  have Hcm := Lib.hid hcm
  clear hFe hpF
  rcases hf : b.f with _ | ⟨x, r⟩
  · have hfate : b.fate = 0 := by unfold Bk.fate; rw [hf]
    have htick : b.tick = b := by unfold Bk.tick; rw [hf]; cases b; simp at hf; subst hf; rfl
    rw [hfate, htick]
    rw [hf] at c3
    clear hc hf hle hao hcm f3 h64
    go_enter Tryd.func52, Tryd.ntmps52
    go_wp2
    go_ret
    exact ⟨rfl, ⟨_, _, _, _, _, Hc.out⟩, Chg.refl _ _⟩
  · have hfate : b.fate = x % 4 := by unfold Bk.fate; rw [hf]
    have hx : i64R x := h64 x (by rw [hf]; simp)
    rw [hf] at hle
    simp only [List.length_cons] at hle
    obtain ⟨g, off, rfl⟩ := hao (by omega)
    have cx := hc.fat.cell (by omega) 0 (intV x) (by rw [hf]; rfl)
    rw [Nat.add_zero] at cx
    have hfl : b.f.length = r.length + 1 := by rw [hf]; rfl
    have htf : b.tick.f = r := by unfold Bk.tick; rw [hf]; rfl
    rw [hfate]
    unfold intV at cx
    rw [hfl] at c3
    obtain ⟨y, hy⟩ : ∃ y, x % 4 = y := ⟨_, rfl⟩
    rw [hy]
    have hm0 := tmod4 x
    obtain ⟨t, ht⟩ : ∃ t, x.tmod 4 = t := ⟨_, rfl⟩
    rw [ht] at hm0
    have hm1 : (t + 4).tmod 4 = y := by rw [Int.tmod_eq_emod_of_nonneg (by omega)]; omega
    have hm2 : IntKind.i64.wrap t = t := by rw [IntWalk.i64_in _ ⟨by omega, by omega⟩]
    have hm3 : IntKind.i64.wrap (t + 4) = t + 4 := by rw [IntWalk.i64_in _ ⟨by omega, by omega⟩]
    have hm4 : IntKind.i64.wrap y = y := by rw [IntWalk.i64_in _ ⟨by omega, by omega⟩]
    have hrl : (r.length : Int) + 1 ≠ 0 := by omega
    have hrl0 : (((r.length : Int) + 1) == 0) = false := by rw [beq_eq_false_iff_ne]; omega
    have hfp : ∀ {fv' : Value}, RowAt w 1 fv' b.tick.f.length (b.tick.f.map intV) Gf → BkAt (w.setCell ⟨p, 3, none⟩ fv') p b.tick F ∧ Chg F F w (w.setCell ⟨p, 3, none⟩ fv') := fun h => by
      obtain ⟨h1, h2⟩ := hc.setF (f' := b.tick.f) h hc.pf hc.mf hc.dj
      rw [← HF.out] at h1
      exact ⟨⟨_, _, _, _, _, h1⟩, h2.mono (by intro z hz; rw [List.mem_singleton] at hz; rw [hz]; exact HpF.out), fun k hk => .inl hk⟩
    have hrow := hc.fat
    by_cases hc1 : cap = 1
    · have hr0 : r = [] := List.length_eq_zero_iff.1 (by omega)
      subst hr0
      subst hc1
      have hrow2 := hfp (fv' := .slice (some ⟨g, off, none⟩) 0 0) (by rw [htf]; exact hrow.cut)
      clear hfp hrow hc hao
      go_enter Tryd.func52, Tryd.ntmps52
      go_wp2
      go_ret
      exact ⟨rfl, hrow2⟩
    · have hrow2 := hfp (fv' := .slice (some ⟨g, off + 1, none⟩) r.length (cap - 1)) (by
        have := hrow.drop 1 (by omega) (by omega)
        rw [htf]
        rw [hfl, hf] at this
        simpa using this)
      clear hfp hrow hc hao
      go_enter Tryd.func52, Tryd.ntmps52
      go_wp2
      go_ret
      exact ⟨rfl, hrow2⟩
end Go.Proofs.YtflgagglkkehiaaDoor
