/- Layer 5, the document's answer: Get, List, Land. -/
import Derived.Test.YtflgagglkkehiaaDoorBkW
namespace Go.Proofs.YtflgagglkkehiaaDoor
open Go.RowKit Go.Maps

section
set_option maxHeartbeats 4000000
set_option maxRecDepth 100000

theorem rget_any (p : Nat) (b : Bk) (F : List Nat) (w : World) (hb : RfAt w p b F) (N : Nat) (hok : b.ok N) (hN : N ≤ 1000000) (k : Bs) (hk : k.length ≤ maxLen) (A n : Int) :
    Calls Tryd.prog 43 #[.pointer (some ⟨p, 0, none⟩), .string (str k), .int .i64 A, .int .i64 n] w fun e w' => e = .returned (.tuple #[.string (str (b.get k A n).1), .int .i64 (b.get k A n).2]) ∧ RfAt w' p (b.get2 k A n) F ∧ Chg F F w w' := by
  have hz := str_empty
  have Nm := Lib.hid (rname_any k w hk)
  have Nx := Lib.hid (rnext_any p b F w hb hok.f64)
  have hml : b.m.length ≤ 1000000 := by have := hok.few; omega
  have Fi := Lib.hid (fun w' (h : RfAt w' p b.tick F) => rfind_any p b.tick F w' h k hml)
  by_cases hc : nameB k = true ∧ 0 ≤ A ∧ 0 ≤ n
  · obtain ⟨hnk, hA, hn⟩ := hc
    have hcc : (nameB k && decide (0 ≤ A) && decide (0 ≤ n)) = true := by rw [hnk, decide_eq_true hA, decide_eq_true hn]; rfl
    have hp : b.get k A n = if (b.look k).2 = 0 then (if ((b.look k).1.length : Int) < A then ([], 31) else (((b.look k).1.drop A.toNat).take n.toNat, 0)) else ([], (b.look k).2) := by unfold Bk.get; rw [if_pos hcc]
    have hp2 : b.get2 k A n = b.tick := by unfold Bk.get2; rw [if_pos hcc]
    rw [hp2]
    rw [hnk] at Nm
    have hA' : ¬ A < 0 := by omega
    have hn' : ¬ n < 0 := by omega
    obtain ⟨a, rfl⟩ : ∃ a : Nat, A = a := ⟨A.toNat, by omega⟩
    obtain ⟨m, rfl⟩ : ∃ m : Nat, n = m := ⟨n.toNat, by omega⟩
    by_cases hf : b.fate = 0
    · rw [hf] at Nx
      cases hg : getO b.m k with
      | none =>
        have hl : b.look k = ([], 15) := by unfold Bk.look; rw [if_pos hf, hg]
        rw [hl] at hp
        have hp' : b.get k a m = ([], 15) := hp
        rw [hp']
        have hfi : findI b.tick.m k = -1 := by unfold findI; rw [show getO b.tick.m k = none from hg]; rfl
        rw [hfi] at Fi
        clear hp hp2 hf hfi hok hb hcc hl hp' hnk
        go_enter Tryd.func43, Tryd.ntmps43
        go_wp2_with (first
          | (go_at_call 58; (with_reducible refine (Nm.out).mono ?_); rintro e w1 ⟨rfl, hw1⟩; rw [hw1]; clear hw1)
          | (go_at_call 60; (with_reducible refine (Nx.out).mono ?_); rintro e w2 ⟨rfl, h1, h2⟩)
          | (go_at_call 61; (with_reducible refine (Fi.out _ h1).mono ?_); rintro e w3 ⟨rfl, hw3⟩; rw [hw3]; clear hw3))
        go_ret2
        exact ⟨rfl, h1, h2⟩
      | some v =>
        have hl : b.look k = (v, 0) := by unfold Bk.look; rw [if_pos hf, hg]
        rw [hl] at hp
        have hvl : v.length ≤ 65536 := hok.ln _ (get_mem hg)
        have hgs : (getO b.tick.m k).isSome = true := by rw [show getO b.tick.m k = some v from hg]; rfl
        obtain ⟨hP1, hP2, hP3⟩ := pos_spec (m := b.tick.m) (k := k)
        have hPl := hP2.2 hgs
        have hfi : findI b.tick.m k = (posO b.tick.m k : Int) := by unfold findI; rw [if_pos hgs]
        rw [hfi] at Fi
        obtain ⟨x, hx⟩ : ∃ x, b.tick.m[posO b.tick.m k]? = some x := ⟨b.tick.m[posO b.tick.m k], by simp [hPl]⟩
        have hxv : x.2 = v := by
          have h9 := (hP3 x hx).2
          rw [show getO b.tick.m k = some v from hg] at h9
          injection h9 with h9
          exact h9.symm
        generalize posO b.tick.m k = P at *
        have hcx : ∀ w', RfAt w' p b.tick F → ∃ g off n c, w'.cell? ⟨p, 0, none⟩ = some (.slice (some ⟨g, off, none⟩) n c) ∧ P < n ∧ w'.cell? ⟨g, off + P * 2 + 1, none⟩ = some (.string (str v)) := fun w' ⟨ov, fv, lv, Go', Gf, Gl, h⟩ => by
          obtain ⟨ad, cap, rfl, hle, _, hao⟩ := h.obj.shape
          obtain ⟨g, off, rfl⟩ := hao (by omega)
          refine ⟨g, off, _, _, cell_of_heap h.cells 0, hPl, ?_⟩
          have := h.obj.cell (by omega) _ _ (objV_at b.tick.m P x hx 1 _ rfl)
          rwa [← Nat.add_assoc, hxv] at this
        have Hcx := Lib.hid hcx
        have hP0 : (0 : Int) ≤ (P : Int) := by omega
        dsimp only at hp
        rw [if_pos rfl] at hp
        clear hp2 hf hfi hok hb hcx hP1 hP2 hP3 hx hxv hgs hl hcc hnk
        by_cases hlt : v.length < a
        · rw [if_pos (by omega)] at hp
          rw [hp]
          have d1 : decide ((v.length : Int) < (a : Int)) = true := decide_eq_true (by omega)
          clear hp
          go_enter Tryd.func43, Tryd.ntmps43
          go_wp2_with (first
            | (go_at_call 58; (with_reducible refine (Nm.out).mono ?_); rintro e w1 ⟨rfl, hw1⟩; rw [hw1]; clear hw1)
            | (go_at_call 60; (with_reducible refine (Nx.out).mono ?_); rintro e w2 ⟨rfl, h1, h2⟩; obtain ⟨g, off, n9, c9, hc0, hPn, hc1⟩ := Hcx.out _ h1; have hPi : (P : Int) < (n9 : Int) := (by omega))
            | (go_at_call 61; (with_reducible refine (Fi.out _ h1).mono ?_); rintro e w3 ⟨rfl, hw3⟩; rw [hw3]; clear hw3))
          go_ret2
          exact ⟨rfl, h1, h2⟩
        · rw [if_neg (by omega)] at hp
          rw [hp]
          have d1 : decide ((v.length : Int) < (a : Int)) = false := decide_eq_false (by omega)
          have hle : (a : Int) ≤ (v.length : Int) := by omega
          have hex : (str v).extract a v.length = str (v.drop a) := by
            rw [str_extract, str_data, List.take_of_length_le (by rw [List.length_drop]; omega)]
          have hta : ((a : Int)).toNat = a := by omega
          have htm : ((m : Int)).toNat = m := by omega
          rw [hta, htm]
          have hdl : (v.drop a).length = v.length - a := List.length_drop
          generalize v.drop a = s at *
          clear hp
          by_cases hm : m < s.length
          · have d2 : decide ((m : Int) < (s.length : Int)) = true := decide_eq_true (by omega)
            have hml2 : (m : Int) ≤ (s.length : Int) := by omega
            have hex2 : (str s).extract 0 m = str (s.take m) := by rw [str_extract, str_data, List.drop_zero, Nat.sub_zero]
            generalize s.take m = s2 at *
            go_enter Tryd.func43, Tryd.ntmps43
            go_wp2_with (first
              | (go_at_call 58; (with_reducible refine (Nm.out).mono ?_); rintro e w1 ⟨rfl, hw1⟩; rw [hw1]; clear hw1)
              | (go_at_call 60; (with_reducible refine (Nx.out).mono ?_); rintro e w2 ⟨rfl, h1, h2⟩; obtain ⟨g, off, n9, c9, hc0, hPn, hc1⟩ := Hcx.out _ h1; have hPi : (P : Int) < (n9 : Int) := (by omega))
              | (go_at_call 61; (with_reducible refine (Fi.out _ h1).mono ?_); rintro e w3 ⟨rfl, hw3⟩; rw [hw3]; clear hw3))
            go_ret2
            exact ⟨rfl, h1, h2⟩
          · have d2 : decide ((m : Int) < (s.length : Int)) = false := decide_eq_false (by omega)
            rw [List.take_of_length_le (by omega)]
            go_enter Tryd.func43, Tryd.ntmps43
            go_wp2_with (first
              | (go_at_call 58; (with_reducible refine (Nm.out).mono ?_); rintro e w1 ⟨rfl, hw1⟩; rw [hw1]; clear hw1)
              | (go_at_call 60; (with_reducible refine (Nx.out).mono ?_); rintro e w2 ⟨rfl, h1, h2⟩; obtain ⟨g, off, n9, c9, hc0, hPn, hc1⟩ := Hcx.out _ h1; have hPi : (P : Int) < (n9 : Int) := (by omega))
              | (go_at_call 61; (with_reducible refine (Fi.out _ h1).mono ?_); rintro e w3 ⟨rfl, hw3⟩; rw [hw3]; clear hw3))
            go_ret2
            exact ⟨rfl, h1, h2⟩
    · have hl : b.look k = ([], 34) := by unfold Bk.look; rw [if_neg hf]
      rw [hl] at hp
      have hp' : b.get k a m = ([], 34) := hp
      rw [hp']
      have hne : (b.fate != 0) = true := bne_iff_ne.2 hf
      generalize b.fate = f at *
      clear hp hp2 hf hok hb hcc hl hp' hnk
      go_enter Tryd.func43, Tryd.ntmps43
      go_wp2_with (first
          | (go_at_call 58; (with_reducible refine (Nm.out).mono ?_); rintro e w1 ⟨rfl, hw1⟩; rw [hw1]; clear hw1)
          | (go_at_call 60; (with_reducible refine (Nx.out).mono ?_); rintro e w2 ⟨rfl, h1, h2⟩)
          | (go_at_call 61; (with_reducible refine (Fi.out _ h1).mono ?_); rintro e w3 ⟨rfl, hw3⟩; rw [hw3]; clear hw3))
      go_ret2
      exact ⟨rfl, h1, h2⟩
  · have hcc : ¬ (nameB k && decide (0 ≤ A) && decide (0 ≤ n)) = true := by
      rw [Bool.and_eq_true, Bool.and_eq_true, decide_eq_true_eq, decide_eq_true_eq, and_assoc]
      exact hc
    have hp : b.get k A n = ([], 1) := by unfold Bk.get; rw [if_neg hcc]
    have hp2 : b.get2 k A n = b := by unfold Bk.get2; rw [if_neg hcc]
    rw [hp, hp2]
    clear hp hp2 hcc
    by_cases hnk : nameB k = true
    · rw [hnk] at Nm
      by_cases hA : A < 0
      · clear hc hnk hok
        go_enter Tryd.func43, Tryd.ntmps43
        go_wp2_with (go_at_call 58; (with_reducible refine (Nm.out).mono ?_); rintro e w1 ⟨rfl, hw1⟩; rw [hw1]; clear hw1)
        go_ret2
        exact ⟨rfl, hb, Chg.refl _ _⟩
      · have hn : n < 0 := by
          by_cases h : n < 0
          · exact h
          · exact absurd ⟨hnk, by omega, by omega⟩ hc
        clear hc hnk hok
        go_enter Tryd.func43, Tryd.ntmps43
        go_wp2_with (go_at_call 58; (with_reducible refine (Nm.out).mono ?_); rintro e w1 ⟨rfl, hw1⟩; rw [hw1]; clear hw1)
        go_ret2
        exact ⟨rfl, hb, Chg.refl _ _⟩
    · rw [Bool.eq_false_iff.2 hnk] at Nm
      clear hc hnk hok
      go_enter Tryd.func43, Tryd.ntmps43
      go_wp2_with (go_at_call 58; (with_reducible refine (Nm.out).mono ?_); rintro e w1 ⟨rfl, hw1⟩; rw [hw1]; clear hw1)
      go_ret2
      exact ⟨rfl, hb, Chg.refl _ _⟩
end
end Go.Proofs.YtflgagglkkehiaaDoor
