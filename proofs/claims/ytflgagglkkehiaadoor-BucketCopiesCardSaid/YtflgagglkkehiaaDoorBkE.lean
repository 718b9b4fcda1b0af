/- Layer 5: Put, Delete, Size, Get, Drop. -/
import Derived.Test.YtflgagglkkehiaaDoorBkD
namespace Go.Proofs.YtflgagglkkehiaaDoor
open Go.RowKit Go.Maps

set_option maxHeartbeats 1000000 in
set_option maxRecDepth 100000 in
theorem bput_any (p : Nat) (b : Bk) (F : List Nat) (w : World) (hb : BkAt w p b F) (N : Nat) (hok : b.ok N) (hN : N ≤ 1000000) (k v : Bs) (hk : k.length ≤ maxLen) :
    Calls Tryd.prog 14 #[.pointer (some ⟨p, 0, none⟩), .string (str k), .string (str v)] w fun e w' => e = .returned (.int .i64 (b.put' k v).1) ∧ ∃ F', BkAt w' p (b.put' k v).2 F' ∧ Chg F F' w w' := by
  obtain ⟨r, hr⟩ : ∃ r, decide (v.length ≤ 65536) = r := ⟨_, rfl⟩
  have hr2 : decide ((v.length : Int) ≤ 65536) = r := by rw [← hr]; by_cases h : v.length ≤ 65536 <;> simp [h] <;> omega
  have hm := may_any p k r w hk
  have Hm := Lib.hid hm
  clear hm
  have Hb := Lib.hid hb
  clear hb
  by_cases hc : (nameB k && r) = true
  · have hp : b.put' k v = b.does (true, k, v) := by unfold Bk.put'; rw [hr, if_pos hc]
    rw [hp]
    rw [if_pos hc] at Hm
    have hc2 := hc
    rw [Bool.and_eq_true] at hc2
    have hd := fun w' (h : Keeps [] w w') => does_any p b F w' (Hb.out.newer h) N hok hN (true, k, v) (nameB_len hc2.1) (by have := hc2.2; rw [← hr] at this; simpa using this)
    have Hd := Lib.hid hd
    clear hd hp hc hc2 hr
    unfold callA fnV at Hd
    simp only [if_true] at Hd
    go_enter Tryd.func14, Tryd.ntmps14
    go_wp2_with (first
      | (go_at_call 31; (with_reducible refine (Hm.out).mono ?_); rintro e w1 ⟨rfl, k1⟩)
      | (go_at_call 32; (with_reducible refine (Hd.out _ k1).mono ?_); rintro e w2 ⟨rfl, F', h3, h4⟩))
    go_ret
    exact ⟨rfl, F', h3, Chg.old k1 h4⟩
  · have hp : b.put' k v = (1, b) := by unfold Bk.put'; rw [hr, if_neg hc]
    rw [hp]
    rw [if_neg hc] at Hm
    clear hp hc hr
    go_enter Tryd.func14, Tryd.ntmps14
    go_wp2_with (go_at_call 31; (with_reducible refine (Hm.out).mono ?_); rintro e w1 ⟨rfl, k1⟩)
    go_ret
    exact ⟨rfl, F, Hb.out.newer k1, Chg.old k1 (Chg.refl _ _)⟩

set_option maxHeartbeats 1000000 in
set_option maxRecDepth 100000 in
theorem bdel_any (p : Nat) (b : Bk) (F : List Nat) (w : World) (hb : BkAt w p b F) (N : Nat) (hok : b.ok N) (hN : N ≤ 1000000) (k : Bs) (hk : k.length ≤ maxLen) :
    Calls Tryd.prog 36 #[.pointer (some ⟨p, 0, none⟩), .string (str k)] w fun e w' => e = .returned (.int .i64 (b.del' k).1) ∧ ∃ F', BkAt w' p (b.del' k).2 F' ∧ Chg F F' w w' := by
  have hm := may_any p k true w hk
  have Hm := Lib.hid hm
  clear hm
  have Hb := Lib.hid hb
  have hz := str_empty
  clear hb
  by_cases hc : nameB k = true
  · have hp : b.del' k = b.does (false, k, []) := by unfold Bk.del'; rw [if_pos hc]
    rw [hp]
    rw [hc] at Hm
    have hd := fun w' (h : Keeps [] w w') => does_any p b F w' (Hb.out.newer h) N hok hN (false, k, []) (nameB_len hc) (by simp)
    have Hd := Lib.hid hd
    clear hd hp hc
    unfold callA fnV at Hd
    simp only [Bool.false_eq_true, if_false, Bool.and_self, if_true] at Hd Hm
    go_enter Tryd.func36, Tryd.ntmps36
    go_wp2_with (first
      | (go_at_call 31; (with_reducible refine (Hm.out).mono ?_); rintro e w1 ⟨rfl, k1⟩)
      | (go_at_call 32; (with_reducible refine (Hd.out _ k1).mono ?_); rintro e w2 ⟨rfl, F', h3, h4⟩))
    go_ret
    exact ⟨rfl, F', h3, Chg.old k1 h4⟩
  · have hp : b.del' k = (1, b) := by unfold Bk.del'; rw [if_neg hc]
    rw [hp]
    rw [if_neg (by rw [Bool.and_true]; exact hc)] at Hm
    clear hp hc
    go_enter Tryd.func36, Tryd.ntmps36
    go_wp2_with (go_at_call 31; (with_reducible refine (Hm.out).mono ?_); rintro e w1 ⟨rfl, k1⟩)
    go_ret
    exact ⟨rfl, F, Hb.out.newer k1, Chg.old k1 (Chg.refl _ _)⟩

set_option maxHeartbeats 1000000 in
set_option maxRecDepth 100000 in
theorem bsize_any (p : Nat) (b : Bk) (F : List Nat) (w : World) (hb : BkAt w p b F) (k : Bs) (hk : k.length ≤ maxLen) (h64 : ∀ x, x ∈ b.f → i64R x) :
    Calls Tryd.prog 18 #[.pointer (some ⟨p, 0, none⟩), .string (str k)] w fun e w' => e = .returned (.tuple #[.int .i64 (b.size k).1, .int .i64 (b.size k).2]) ∧ BkAt w' p (b.size2 k) F ∧ Chg F F w w' := by
  have hm := may_any p k true w hk
  have Hm := Lib.hid hm
  clear hm
  have Hb := Lib.hid hb
  clear hb
  by_cases hc : nameB k = true
  · have hp : b.size k = (((b.look k).1.length : Int), (b.look k).2) := by unfold Bk.size; rw [if_pos hc]
    have hp2 : b.size2 k = b.tick := by unfold Bk.size2; rw [if_pos hc]
    rw [hp, hp2]
    rw [hc] at Hm
    have hd := fun w' (h : Keeps [] w w') => find_any p b F w' (Hb.out.newer h) k (nameB_len hc) h64
    generalize b.look k = L at *
    obtain ⟨L1, L2⟩ := L
    have Hd := Lib.hid hd
    clear hd hp hp2 hc
    simp only [Bool.and_self, if_true] at Hm
    go_enter Tryd.func18, Tryd.ntmps18
    go_wp2_with (first
      | (go_at_call 31; (with_reducible refine (Hm.out).mono ?_); rintro e w1 ⟨rfl, k1⟩)
      | (go_at_call 35; (with_reducible refine (Hd.out _ k1).mono ?_); rintro e w2 ⟨rfl, h3, h4⟩))
    go_ret2
    exact ⟨rfl, h3, Chg.old k1 h4⟩
  · have hp : b.size k = (0, 1) := by unfold Bk.size; rw [if_neg hc]
    have hp2 : b.size2 k = b := by unfold Bk.size2; rw [if_neg hc]
    rw [hp, hp2]
    rw [if_neg (by rw [Bool.and_true]; exact hc)] at Hm
    clear hp hc hp2
    go_enter Tryd.func18, Tryd.ntmps18
    go_wp2_with (go_at_call 31; (with_reducible refine (Hm.out).mono ?_); rintro e w1 ⟨rfl, k1⟩)
    go_ret2
    exact ⟨rfl, Hb.out.newer k1, Chg.old k1 (Chg.refl _ _)⟩

set_option maxHeartbeats 1000000 in
set_option maxRecDepth 100000 in
theorem bdrop_any (p : Nat) (b : Bk) (F : List Nat) (w : World) (hb : BkAt w p b F) (n : Int) (hl : b.l.length ≤ 1000000) :
    Calls Tryd.prog 37 #[.pointer (some ⟨p, 0, none⟩), .int .i64 n] w fun e w' => e = .returned (.int .i64 (b.cut n)) ∧ BkAt w' p (b.drop n) F ∧ Chg F F w w' := by
  have h := first_any p b F w hb n hl
  have Hh := Lib.hid h
  clear h hb hl
  go_enter Tryd.func37, Tryd.ntmps37
  go_wp2_with (go_at_call 34; (with_reducible refine (Hh.out).mono ?_); rintro e w1 ⟨v, mb, fv, lv, Gf, Gl, rfl, h1, h2, h3⟩; obtain ⟨ad, cap, rfl, _⟩ := h1.shape)
  go_ret
  exact ⟨rfl, ⟨_, _, _, _, _, h2⟩, h3⟩

set_option maxHeartbeats 1000000 in
set_option maxRecDepth 100000 in
theorem bget_any (p : Nat) (b : Bk) (F : List Nat) (w : World) (hb : BkAt w p b F) (N : Nat) (hok : b.ok N) (k : Bs) (hk : k.length ≤ maxLen) (A n : Int) (hA : i64R A) (_hn : i64R n) :
    Calls Tryd.prog 17 #[.pointer (some ⟨p, 0, none⟩), .string (str k), .int .i64 A, .int .i64 n] w fun e w' => e = .returned (.tuple #[.string (str (b.get k A n).1), .int .i64 (b.get k A n).2]) ∧ BkAt w' p (b.get2 k A n) F ∧ Chg F F w w' := by
  obtain ⟨ra, hra⟩ : ∃ r, decide (0 ≤ A) = r := ⟨_, rfl⟩
  obtain ⟨rn, hrn⟩ : ∃ r, decide (0 ≤ n) = r := ⟨_, rfl⟩
  have hm := may_any p k (ra && rn) w hk
  have Hm := Lib.hid hm
  clear hm
  have Hb := Lib.hid hb
  have hz := str_empty
  clear hb
  by_cases hc : (nameB k && (ra && rn)) = true
  · rw [if_pos hc] at Hm
    have hc2 := hc
    simp only [Bool.and_eq_true] at hc2
    obtain ⟨hc3, rfl, rfl⟩ := hc2
    rw [Bool.and_self] at Hm
    have hA0 : 0 ≤ A := by simpa using hra
    have hn0 : 0 ≤ n := by simpa using hrn
    have hcc : (nameB k && decide (0 ≤ A) && decide (0 ≤ n)) = true := by rw [hra, hrn, hc3]; rfl
    have hp : b.get k A n = if (b.look k).2 = 0 then (if ((b.look k).1.length : Int) < A then ([], 31) else (((b.look k).1.drop A.toNat).take n.toNat, 0)) else ([], (b.look k).2) := by unfold Bk.get; rw [if_pos hcc]
    have hp2 : b.get2 k A n = b.tick := by unfold Bk.get2; rw [if_pos hcc]
    have hd := fun w' (h : Keeps [] w w') => find_any p b F w' (Hb.out.newer h) k (nameB_len hc3) hok.f64
    have hLl : (b.look k).1.length ≤ 65536 := by
      unfold Bk.look
      split
      · split
        · rename_i v hv
          exact hok.ln _ (get_mem hv)
        · simp
      · simp
    rw [hp2]
    generalize b.look k = L at *
    obtain ⟨L1, L2⟩ := L
    simp only at hp hLl
    have Hd := Lib.hid hd
    clear hd hp2 hc hcc hra hrn hok
    by_cases hL : L2 = 0
    · subst hL
      rw [if_pos rfl] at hp
      by_cases hlt : (L1.length : Int) < A
      · rw [if_pos hlt] at hp
        rw [hp]
        clear hp
        go_enter Tryd.func17, Tryd.ntmps17
        go_wp2_with (first
          | (go_at_call 31; (with_reducible refine (Hm.out).mono ?_); rintro e w1 ⟨rfl, k1⟩)
          | (go_at_call 35; (with_reducible refine (Hd.out _ k1).mono ?_); rintro e w2 ⟨rfl, h3, h4⟩))
        go_ret2
        exact ⟨rfl, h3, Chg.old k1 h4⟩
      · rw [if_neg hlt] at hp
        rw [hp]
        clear hp
        obtain ⟨a, rfl⟩ : ∃ a : Nat, A = a := ⟨A.toNat, by omega⟩
        obtain ⟨m, hmm⟩ : ∃ m : Nat, min n ((L1.length : Int) - (a : Int)) = (m : Int) := ⟨(min n ((L1.length : Int) - (a : Int))).toNat, by omega⟩
        have hw1 : IntKind.i64.wrap ((L1.length : Int) - (a : Int)) = (L1.length : Int) - (a : Int) := by rw [IntWalk.i64_in _ ⟨by omega, by omega⟩]
        have hw2 : IntKind.i64.wrap ((a : Int) + (m : Int)) = (a : Int) + (m : Int) := by rw [IntWalk.i64_in _ ⟨by omega, by omega⟩]
        have ht1 : ((a : Int) + (m : Int)).toNat = a + m := by omega
        have hb1 : (a : Int) + (m : Int) ≤ (L1.length : Int) := by omega
        have hb2 : (0 : Int) ≤ (a : Int) + (m : Int) := by omega
        have hb3 : (a : Int) ≤ (a : Int) + (m : Int) := by omega
        have hres : str ((L1.drop (a : Int).toNat).take n.toNat) = (str L1).extract a (a + m) := by
          rw [str_extract, str_data, show a + m - a = m by omega, show (a : Int).toNat = a by omega]
          congr 1
          rcases Int.le_total n ((L1.length : Int) - (a : Int)) with h | h
          · rw [show n.toNat = m by omega]
          · rw [List.take_of_length_le (by rw [List.length_drop]; omega), List.take_of_length_le (by rw [List.length_drop]; omega)]
        rw [hres]
        have hle : (a : Int) ≤ (L1.length : Int) := by omega
        clear hres hA hLl
        go_enter Tryd.func17, Tryd.ntmps17
        go_wp2_with (first
          | (go_at_call 31; (with_reducible refine (Hm.out).mono ?_); rintro e w1 ⟨rfl, k1⟩)
          | (go_at_call 35; (with_reducible refine (Hd.out _ k1).mono ?_); rintro e w2 ⟨rfl, h3, h4⟩))
        go_ret2
        exact ⟨rfl, h3, Chg.old k1 h4⟩
    · rw [if_neg hL] at hp
      rw [hp]
      clear hp
      have hL2 : (L2 != 0) = true := bne_iff_ne.2 hL
      go_enter Tryd.func17, Tryd.ntmps17
      go_wp2_with (first
        | (go_at_call 31; (with_reducible refine (Hm.out).mono ?_); rintro e w1 ⟨rfl, k1⟩)
        | (go_at_call 35; (with_reducible refine (Hd.out _ k1).mono ?_); rintro e w2 ⟨rfl, h3, h4⟩))
      go_ret2
      exact ⟨rfl, h3, Chg.old k1 h4⟩
  · rw [if_neg hc] at Hm
    have hcc : ¬ (nameB k && decide (0 ≤ A) && decide (0 ≤ n)) = true := by rw [hra, hrn, Bool.and_assoc]; exact hc
    have hp : b.get k A n = ([], 1) := by unfold Bk.get; rw [if_neg hcc]
    have hp2 : b.get2 k A n = b := by unfold Bk.get2; rw [if_neg hcc]
    rw [hp, hp2]
    clear hp hp2 hcc hc
    cases ra
    · have hA0 : ¬ 0 ≤ A := by simpa using hra
      simp only [Bool.false_and] at Hm
      clear hra hrn
      go_enter Tryd.func17, Tryd.ntmps17
      go_wp2_with (go_at_call 31; (with_reducible refine (Hm.out).mono ?_); rintro e w1 ⟨rfl, k1⟩)
      go_ret2
      exact ⟨rfl, Hb.out.newer k1, Chg.old k1 (Chg.refl _ _)⟩
    · have hA0 : 0 ≤ A := by simpa using hra
      simp only [Bool.true_and] at Hm
      clear hra
      go_enter Tryd.func17, Tryd.ntmps17
      go_wp2_with (go_at_call 31; (with_reducible refine (Hm.out).mono ?_); rintro e w1 ⟨rfl, k1⟩)
      go_ret2
      exact ⟨rfl, Hb.out.newer k1, Chg.old k1 (Chg.refl _ _)⟩
end Go.Proofs.YtflgagglkkehiaaDoor
