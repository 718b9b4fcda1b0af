/- Layer 5, the document's answer: Name. -/
import Derived.Test.YtflgagglkkehiaaDoorBkR
namespace Go.Proofs.YtflgagglkkehiaaDoor
open Go.RowKit Go.Maps

def okC (n : Nat) : Bool := (decide (97 ≤ n) && decide (n ≤ 122)) || (decide (48 ≤ n) && decide (n ≤ 57)) || n == 46 || n == 45 || n == 95 || n == 47
theorem alph_all : ((List.range 256).all fun n => okC n == alph.contains (UInt8.ofNat n)) = true := by kernel_rfl
theorem alph_spec (c : UInt8) : alph.contains c = true ↔ (97 ≤ c.toNat ∧ c.toNat ≤ 122) ∨ (48 ≤ c.toNat ∧ c.toNat ≤ 57) ∨ c.toNat = 46 ∨ c.toNat = 45 ∨ c.toNat = 95 ∨ c.toNat = 47 := by
  have h := List.all_eq_true.1 alph_all c.toNat (List.mem_range.2 c.toNat_lt)
  rw [UInt8.ofNat_toNat] at h
  have h2 : okC c.toNat = alph.contains c := by simpa using h
  rw [← h2]
  unfold okC
  simp only [Bool.or_eq_true, Bool.and_eq_true, decide_eq_true_eq, beq_iff_eq]
  omega

set_option maxHeartbeats 4000000 in
set_option maxRecDepth 100000 in
theorem rname_any (s : Bs) (w : World) (h63 : s.length ≤ maxLen) :
    Calls Tryd.prog 58 #[.string (str s)] w fun e w' => e = .returned (.bool (nameB s)) ∧ w' = w := by
  obtain ⟨r, hr⟩ : ∃ r, nameB s = r := ⟨_, rfl⟩
  rw [hr]
  have Hr := Lib.hid hr
  have hl9 : (s.length : Int) ≤ 9223372036854775807 := by unfold maxLen at h63; omega
  clear hr
  go_enter Tryd.func58, Tryd.ntmps58
  go_wp2
  go_loopw [3] (fun iv wr => ∃ k : Nat, k ≤ s.length ∧ iv = .int .i64 k ∧ Hid ((s.take k).all (alph.contains ·) = true) ∧ wr = w) (fun iv _ => s.length - (intOf iv).toNat)
  case atStart => exact ⟨0, Nat.zero_le _, rfl, by show ([] : Bs).all (alph.contains ·) = true; rfl, rfl⟩
  case round =>
    obtain ⟨k, hk, rfl, hall, rfl⟩ := hrel
    by_cases hlt : k < s.length
    · obtain ⟨c, hc⟩ : ∃ c, s[k]? = some c := ⟨s[k], by simp [hlt]⟩
      have hst : s.take (k + 1) = s.take k ++ [c] := by rw [List.take_add_one, hc]; rfl
      have Hst := Lib.hid hst
      have hmem := Lib.hid (List.mem_of_getElem? hc)
      have hki : (k : Int) < (s.length : Int) := by omega
      have hki0 : (0 : Int) ≤ (k : Int) := by omega
      have hgi : ∀ h : k < (str s).size, (str s)[k]'h = c := fun h => by
        have h2 := (List.getElem?_eq_some_iff.1 hc).2
        rw [← h2]
        rfl
      have hcl := c.toNat_lt
      clear hst
      rcases (show (97 ≤ c.toNat ∧ c.toNat ≤ 122) ∨ (122 < c.toNat) ∨ (48 ≤ c.toNat ∧ c.toNat ≤ 57) ∨ c.toNat = 46 ∨ c.toNat = 45 ∨ c.toNat = 47 ∨ c.toNat < 45 ∨ c.toNat = 95 ∨ (57 < c.toNat ∧ c.toNat < 97 ∧ c.toNat ≠ 95) by omega) with hq | hq | hq | hq | hq | hq | hq | hq | hq
      · have d0 : decide ((c.toNat:Int) < 97) = false := decide_eq_false (by omega)
        have d1 : decide ((122:Int) < c.toNat) = false := decide_eq_false (by omega)
        have hal : alph.contains c = true := (alph_spec c).2 (by omega)
        have Hal := Lib.hid hal
        clear hal hq
        go_wp2
        go_roundw
        case rel => exact ⟨k + 1, by omega, by go_num, by show _ = true; rw [Hst.out, List.all_append, hall.out]; simp only [List.all_cons, List.all_nil, Bool.and_true, Bool.true_and]; exact Hal.out, (by first | trivial | rfl)⟩
        case measure => simp [intOf]; omega
      · have d0 : decide ((c.toNat:Int) < 97) = false := decide_eq_false (by omega)
        have d1 : decide ((122:Int) < c.toNat) = true := decide_eq_true (by omega)
        have d2 : decide ((c.toNat:Int) < 48) = false := decide_eq_false (by omega)
        have d3 : decide ((57:Int) < c.toNat) = true := decide_eq_true (by omega)
        have n0 : ((c.toNat : Int) != 46) = true := bne_iff_ne.2 (by omega)
        have n1 : ((c.toNat : Int) != 45) = true := bne_iff_ne.2 (by omega)
        have n2 : ((c.toNat : Int) != 95) = true := bne_iff_ne.2 (by omega)
        have n3 : ((c.toNat : Int) != 47) = true := bne_iff_ne.2 (by omega)
        have hal : ¬ alph.contains c = true := fun h => by have := (alph_spec c).1 h; omega
        have hvo : r = false := by
          rw [← Hr.out]
          unfold nameB
          rw [Bool.and_eq_false_iff]
          right
          rw [List.all_eq_false]
          exact ⟨c, hmem.out, hal⟩
        subst hvo
        clear hal hq
        go_wp2
        go_ret
        exact ⟨rfl, rfl⟩
      · have d0 : decide ((c.toNat:Int) < 97) = true := decide_eq_true (by omega)
        have d1 : decide ((c.toNat:Int) < 48) = false := decide_eq_false (by omega)
        have d2 : decide ((57:Int) < c.toNat) = false := decide_eq_false (by omega)
        have hal : alph.contains c = true := (alph_spec c).2 (by omega)
        have Hal := Lib.hid hal
        clear hal hq
        go_wp2
        go_roundw
        case rel => exact ⟨k + 1, by omega, by go_num, by show _ = true; rw [Hst.out, List.all_append, hall.out]; simp only [List.all_cons, List.all_nil, Bool.and_true, Bool.true_and]; exact Hal.out, (by first | trivial | rfl)⟩
        case measure => simp [intOf]; omega
      · have d0 : decide ((c.toNat:Int) < 97) = true := decide_eq_true (by omega)
        have d1 : decide ((c.toNat:Int) < 48) = true := decide_eq_true (by omega)
        have n0 : ((c.toNat : Int) != 46) = false := by rw [show (c.toNat : Int) = 46 by omega]; rfl
        have hal : alph.contains c = true := (alph_spec c).2 (by omega)
        have Hal := Lib.hid hal
        clear hal hq
        go_wp2
        go_roundw
        case rel => exact ⟨k + 1, by omega, by go_num, by show _ = true; rw [Hst.out, List.all_append, hall.out]; simp only [List.all_cons, List.all_nil, Bool.and_true, Bool.true_and]; exact Hal.out, (by first | trivial | rfl)⟩
        case measure => simp [intOf]; omega
      · have d0 : decide ((c.toNat:Int) < 97) = true := decide_eq_true (by omega)
        have d1 : decide ((c.toNat:Int) < 48) = true := decide_eq_true (by omega)
        have n0 : ((c.toNat : Int) != 46) = true := bne_iff_ne.2 (by omega)
        have n1 : ((c.toNat : Int) != 45) = false := by rw [show (c.toNat : Int) = 45 by omega]; rfl
        have hal : alph.contains c = true := (alph_spec c).2 (by omega)
        have Hal := Lib.hid hal
        clear hal hq
        go_wp2
        go_roundw
        case rel => exact ⟨k + 1, by omega, by go_num, by show _ = true; rw [Hst.out, List.all_append, hall.out]; simp only [List.all_cons, List.all_nil, Bool.and_true, Bool.true_and]; exact Hal.out, (by first | trivial | rfl)⟩
        case measure => simp [intOf]; omega
      · have d0 : decide ((c.toNat:Int) < 97) = true := decide_eq_true (by omega)
        have d1 : decide ((c.toNat:Int) < 48) = true := decide_eq_true (by omega)
        have n0 : ((c.toNat : Int) != 46) = true := bne_iff_ne.2 (by omega)
        have n1 : ((c.toNat : Int) != 45) = true := bne_iff_ne.2 (by omega)
        have n2 : ((c.toNat : Int) != 95) = true := bne_iff_ne.2 (by omega)
        have n3 : ((c.toNat : Int) != 47) = false := by rw [show (c.toNat : Int) = 47 by omega]; rfl
        have hal : alph.contains c = true := (alph_spec c).2 (by omega)
        have Hal := Lib.hid hal
        clear hal hq
        go_wp2
        go_roundw
        case rel => exact ⟨k + 1, by omega, by go_num, by show _ = true; rw [Hst.out, List.all_append, hall.out]; simp only [List.all_cons, List.all_nil, Bool.and_true, Bool.true_and]; exact Hal.out, (by first | trivial | rfl)⟩
        case measure => simp [intOf]; omega
      · have d0 : decide ((c.toNat:Int) < 97) = true := decide_eq_true (by omega)
        have d1 : decide ((c.toNat:Int) < 48) = true := decide_eq_true (by omega)
        have n0 : ((c.toNat : Int) != 46) = true := bne_iff_ne.2 (by omega)
        have n1 : ((c.toNat : Int) != 45) = true := bne_iff_ne.2 (by omega)
        have n2 : ((c.toNat : Int) != 95) = true := bne_iff_ne.2 (by omega)
        have n3 : ((c.toNat : Int) != 47) = true := bne_iff_ne.2 (by omega)
        have hal : ¬ alph.contains c = true := fun h => by have := (alph_spec c).1 h; omega
        have hvo : r = false := by
          rw [← Hr.out]
          unfold nameB
          rw [Bool.and_eq_false_iff]
          right
          rw [List.all_eq_false]
          exact ⟨c, hmem.out, hal⟩
        subst hvo
        clear hal hq
        go_wp2
        go_ret
        exact ⟨rfl, rfl⟩
      · have d0 : decide ((c.toNat:Int) < 97) = true := decide_eq_true (by omega)
        have d1 : decide ((c.toNat:Int) < 48) = false := decide_eq_false (by omega)
        have d2 : decide ((57:Int) < c.toNat) = true := decide_eq_true (by omega)
        have n0 : ((c.toNat : Int) != 46) = true := bne_iff_ne.2 (by omega)
        have n1 : ((c.toNat : Int) != 45) = true := bne_iff_ne.2 (by omega)
        have n2 : ((c.toNat : Int) != 95) = false := by rw [show (c.toNat : Int) = 95 by omega]; rfl
        have hal : alph.contains c = true := (alph_spec c).2 (by omega)
        have Hal := Lib.hid hal
        clear hal hq
        go_wp2
        go_roundw
        case rel => exact ⟨k + 1, by omega, by go_num, by show _ = true; rw [Hst.out, List.all_append, hall.out]; simp only [List.all_cons, List.all_nil, Bool.and_true, Bool.true_and]; exact Hal.out, (by first | trivial | rfl)⟩
        case measure => simp [intOf]; omega
      · have d0 : decide ((c.toNat:Int) < 97) = true := decide_eq_true (by omega)
        have d1 : decide ((c.toNat:Int) < 48) = false := decide_eq_false (by omega)
        have d2 : decide ((57:Int) < c.toNat) = true := decide_eq_true (by omega)
        have n0 : ((c.toNat : Int) != 46) = true := bne_iff_ne.2 (by omega)
        have n1 : ((c.toNat : Int) != 45) = true := bne_iff_ne.2 (by omega)
        have n2 : ((c.toNat : Int) != 95) = true := bne_iff_ne.2 (by omega)
        have n3 : ((c.toNat : Int) != 47) = true := bne_iff_ne.2 (by omega)
        have hal : ¬ alph.contains c = true := fun h => by have := (alph_spec c).1 h; omega
        have hvo : r = false := by
          rw [← Hr.out]
          unfold nameB
          rw [Bool.and_eq_false_iff]
          right
          rw [List.all_eq_false]
          exact ⟨c, hmem.out, hal⟩
        subst hvo
        clear hal hq
        go_wp2
        go_ret
        exact ⟨rfl, rfl⟩
    · obtain rfl : k = s.length := by omega
      rw [List.take_length] at hall
      have hvo : r = (decide ((1 : Int) ≤ (s.length : Int)) && decide ((s.length : Int) ≤ 64)) := by
        rw [← Hr.out]
        unfold nameB
        rw [hall.out, Bool.and_true]
        congr 1
        · rw [decide_eq_decide, ← List.length_pos_iff]; omega
        · rw [decide_eq_decide]; omega
      rcases (show s.length < 1 ∨ (1 ≤ s.length ∧ s.length ≤ 64) ∨ 64 < s.length by omega) with h1 | ⟨h1, h2⟩ | h1
      · have e1 : decide ((1 : Int) ≤ (s.length : Int)) = false := decide_eq_false (by omega)
        rw [e1, Bool.false_and] at hvo
        subst hvo
        go_wp2
        go_ret
        exact ⟨rfl, rfl⟩
      · have e1 : decide ((1 : Int) ≤ (s.length : Int)) = true := decide_eq_true (by omega)
        have e2 : decide ((s.length : Int) ≤ 64) = true := decide_eq_true (by omega)
        rw [e1, e2, Bool.true_and] at hvo
        subst hvo
        go_wp2
        go_ret
        exact ⟨rfl, rfl⟩
      · have e1 : decide ((1 : Int) ≤ (s.length : Int)) = true := decide_eq_true (by omega)
        have e2 : decide ((s.length : Int) ≤ 64) = false := decide_eq_false (by omega)
        rw [e1, e2, Bool.true_and] at hvo
        subst hvo
        go_wp2
        go_ret
        exact ⟨rfl, rfl⟩
end Go.Proofs.YtflgagglkkehiaaDoor
