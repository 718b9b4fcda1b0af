/- Layer 10: kinds, Check. -/
import Derived.Test.YtjebldfmkpfafaaRecA
import Derived.Deep.RegionHeld3
import Derived.Laws.EntriesVeiled
namespace Go.Proofs.Ytjebldfmkpfafaa
open Go.RowKit
set_option maxRecDepth 100000

def fnF (n : Nat) : Value := .func (.func n) #[] #[]
def kindsV : List Value := [.nilFunc, .nilFunc, .nilFunc, fnF 48, fnF 49, fnF 51, fnF 54, fnF 50, fnF 52, fnF 55, fnF 56, fnF 58]

set_option maxHeartbeats 4000000 in
theorem kinds_any (w : World) : Calls Try.prog 29 #[] w fun e w' => e = .returned (.agg kindsV.toArray) ∧ Keeps [] w w' := by
  unfold kindsV fnF
  have K2 := Lib.hid fun (o1 o2 : Obj) => ((Keeps.refl [] w).alloc o1).alloc o2
  go_enter Try.func29, Try.ntmps29
  go_wp2
  refine bodyPost_ret (results_row rfl rfl (heap_was (heap_at rfl)) Try.underlying65 rfl (by kernel_rfl)) rfl ⟨rfl, K2.out _ _⟩

theorem is_any (n : Int) (w : World) : Calls Try.prog 28 #[.int .i64 n] w fun e w' => e = .returned (.bool (decide (1 ≤ n) && decide (n ≤ 3))) ∧ w' = w := by
  by_cases h1 : decide (1 ≤ n) = true
  · by_cases h2 : decide (n ≤ 3) = true
    · rw [h1, h2]
      go_enter Try.func28, Try.ntmps28
      go_wp2
      go_ret
      exact ⟨rfl, rfl⟩
    · rw [Bool.not_eq_true] at h2
      rw [h1, h2]
      go_enter Try.func28, Try.ntmps28
      go_wp2
      go_ret
      exact ⟨rfl, rfl⟩
  · rw [Bool.not_eq_true] at h1
    rw [h1]
    go_enter Try.func28, Try.ntmps28
    go_wp2
    go_ret
    exact ⟨rfl, rfl⟩

/-- The box of a record. -/
def rbox (r : Rc) (sv : Value) : Obj := .cells #[.int .i64 r.ep, .int .i64 r.nr, .int .i64 r.kd, sv, .string (str r.dt), .string (str r.tx)] 24

set_option maxHeartbeats 8000000 in
theorem trimmed_any (r : Rc) (sv : Value) (G : List Nat) (w : World) (hr : r.good w sv G) :
    Calls Try.prog 54 #[r.val sv] w fun e w' => e = .returned (.int .i64 r.trimmed) ∧ Keeps [] w w' := by
  have K0 := Lib.hid ((Keeps.refl [] w).alloc (rbox r sv))
  have Co := Lib.hid (fun w' (k : Keeps [] w w') => spans_any r sv G w' (hr.newer k))
  have CB := Lib.hid (fun w' (k : Keeps [] (w.alloc (rbox r sv)) w') => (show w'.cell? ⟨w.heap.size, 4, none⟩ = some (.string (str r.dt)) from k.cell0 (cell_new rfl _ _ 4)))
  have hz := str_empty
  unfold rbox at K0 CB
  unfold Rc.val at *
  obtain ⟨ad, cap, rfl, _⟩ := hr.at_
  clear hr
  by_cases h1 : r.spok = true
  · rw [h1] at Co
    simp only [if_true] at Co
    by_cases h2 : r.dt.isEmpty = true
    · have hv : r.trimmed = 0 := by unfold Rc.trimmed; simp [h1]; simpa using h2
      rw [hv]
      clear h1 hv
      go_enter Try.func54, Try.ntmps54
      go_wp2_with (go_at_call 76; (with_reducible refine (Co.out _ K0.out).mono ?_); rintro e w1 ⟨rfl, k1⟩; have hb := CB.out _ k1; have k2 := K0.out.trans k1 (by simp); clear K0 CB Co)
      go_ret
      exact ⟨rfl, k2⟩
    · have hv : r.trimmed = 1 := by unfold Rc.trimmed; simp [h1]; simpa using h2
      rw [hv]
      clear h1 hv
      rw [Bool.not_eq_true] at h2
      go_enter Try.func54, Try.ntmps54
      go_wp2_with (go_at_call 76; (with_reducible refine (Co.out _ K0.out).mono ?_); rintro e w1 ⟨rfl, k1⟩; have hb := CB.out _ k1; have k2 := K0.out.trans k1 (by simp); clear K0 CB Co)
      go_ret
      exact ⟨rfl, k2⟩
  · rw [Bool.not_eq_true] at h1
    rw [h1] at Co
    simp only [Bool.false_eq_true, if_false] at Co
    have hv : r.trimmed = 1 := by unfold Rc.trimmed; simp [h1]
    rw [hv]
    clear h1 hv
    go_enter Try.func54, Try.ntmps54
    go_wp2_with (go_at_call 76; (with_reducible refine (Co.out _ K0.out).mono ?_); rintro e w1 ⟨rfl, k1⟩; have hb := CB.out _ k1; have k2 := K0.out.trans k1 (by simp); clear K0 CB Co)
    go_ret
    exact ⟨rfl, k2⟩

set_option maxHeartbeats 8000000 in
theorem noted_any (r : Rc) (sv : Value) (G : List Nat) (w : World) (hr : r.good w sv G) :
    Calls Try.prog 55 #[r.val sv] w fun e w' => e = .returned (.int .i64 r.noted) ∧ Keeps [] w w' := by
  have K0 := Lib.hid ((Keeps.refl [] w).alloc (rbox r sv))
  have hz := str_empty
  unfold rbox at K0
  unfold Rc.val at *
  obtain ⟨ad, cap, rfl, _⟩ := hr.at_
  have hsl := hr.sl
  have htl := hr.tx
  have hn : (r.sp.length : Int) ≤ 9223372036854775807 := by omega
  have hn2 : (r.tx.length : Int) ≤ 9223372036854775807 := by omega
  have hno : r.noted = if 0 < r.sp.length ∨ r.dt ≠ [] ∨ 512 < r.tx.length then 1 else 0 := rfl
  clear hr
  generalize r.sp.length = ns at *
  by_cases h1 : decide (0 < ns) = true
  · have hv : r.noted = 1 := by rw [hno, if_pos]; left; exact of_decide_eq_true h1
    rw [hv]
    clear hv hno
    go_enter Try.func55, Try.ntmps55
    go_wp2
    go_ret
    exact ⟨rfl, K0.out⟩
  · rw [Bool.not_eq_true] at h1
    by_cases h2 : r.dt.isEmpty = true
    · by_cases h3 : decide (512 < (r.tx.length : Int)) = true
      · have hv : r.noted = 1 := by rw [hno, if_pos]; right; right; simp at h3; omega
        rw [hv]
        clear hv hno
        go_enter Try.func55, Try.ntmps55
        go_wp2
        go_ret
        exact ⟨rfl, K0.out⟩
      · rw [Bool.not_eq_true] at h3
        have hv : r.noted = 0 := by
          rw [hno, if_neg]
          have e1 := of_decide_eq_false h1
          have e3 := of_decide_eq_false h3
          have e2 : r.dt = [] := by simpa using h2
          rintro (h | h | h)
          · omega
          · exact h e2
          · omega
        rw [hv]
        clear hv hno
        go_enter Try.func55, Try.ntmps55
        go_wp2
        go_ret
        exact ⟨rfl, K0.out⟩
    · rw [Bool.not_eq_true] at h2
      have hv : r.noted = 1 := by rw [hno, if_pos]; right; left; simpa using h2
      rw [hv]
      clear hv hno
      go_enter Try.func55, Try.ntmps55
      go_wp2
      go_ret
      exact ⟨rfl, K0.out⟩

set_option maxHeartbeats 8000000 in
theorem written_any (r : Rc) (sv : Value) (G : List Nat) (w : World) (hr : r.good w sv G) :
    Calls Try.prog 48 #[r.val sv] w fun e w' => e = .returned (.int .i64 r.written) ∧ Keeps [] w w' := by
  have K0 := Lib.hid ((Keeps.refl [] w).alloc (rbox r sv))
  have Co := Lib.hid (fun w' (k : Keeps [] w w') => spans_any r sv G w' (hr.newer k))
  have CB := Lib.hid (fun w' (k : Keeps [] (w.alloc (rbox r sv)) w') => (show w'.cell? ⟨w.heap.size, 3, none⟩ = some sv ∧ w'.cell? ⟨w.heap.size, 4, none⟩ = some (.string (str r.dt)) from ⟨k.cell0 (cell_new rfl _ _ 3), k.cell0 (cell_new rfl _ _ 4)⟩))
  unfold rbox at K0 CB
  have hdl := hr.dt
  have hn : (r.dt.length : Int) ≤ 9223372036854775807 := by omega
  by_cases h1 : r.spok = true
  · obtain ⟨g1, g2, g3, g4⟩ := Rc.spok_spec h1
    have hb1 : ∀ s, s ∈ r.sp → 0 ≤ s.2 ∧ s.2 ≤ 65536 := fun s hs => by have := maySp_bd (g4 s hs); omega
    have hT := totS_bd r.sp hb1
    have To := Lib.hid (fun w' (k : Keeps [] w w') => total_any r.sp hb1 (by omega) sv G w' (hr.newer k).at_)
    have hw : r.written = if 512 < totS r.sp then 1 else if (r.dt.length : Int) ≠ totS r.sp * 64 then 30 else 0 := by
      unfold Rc.written; simp [h1]
    rw [hw]
    unfold Rc.val at *
    obtain ⟨ad, cap, rfl, _⟩ := hr.at_
    rw [h1] at Co
    simp only [if_true] at Co
    clear hr hb1 g4 h1 hw g3
    generalize totS r.sp = T at *
    have hwr : IntKind.i64.wrap (T * 64) = T * 64 := IntWalk.i64_in _ ⟨by omega, by omega⟩
    by_cases h2 : decide (512 < T) = true
    · rw [if_pos (of_decide_eq_true h2)]
      go_enter Try.func48, Try.ntmps48
      go_wp2_with (first
        | (go_at_call 76; (with_reducible refine (Co.out _ K0.out).mono ?_); rintro e w1 ⟨rfl, k1⟩; obtain ⟨hb, hb2⟩ := CB.out _ k1; have k2 := K0.out.trans k1 (by simp); clear K0 Co)
        | (go_at_call 65; (with_reducible refine (To.out _ k2).mono ?_); rintro e w3 ⟨rfl, k3⟩; have k4 := k2.trans k3 (by simp)))
      go_ret
      exact ⟨rfl, k4⟩
    · rw [if_neg (fun h => h2 (decide_eq_true h))]
      rw [Bool.not_eq_true] at h2
      by_cases h3 : ((r.dt.length : Int) != T * 64) = true
      · rw [if_pos (by simpa using h3)]
        go_enter Try.func48, Try.ntmps48
        go_wp2_with (first
          | (go_at_call 76; (with_reducible refine (Co.out _ K0.out).mono ?_); rintro e w1 ⟨rfl, k1⟩; obtain ⟨hb, hb2⟩ := CB.out _ k1; have k2 := K0.out.trans k1 (by simp); clear K0 Co)
          | (go_at_call 65; (with_reducible refine (To.out _ k2).mono ?_); rintro e w3 ⟨rfl, k3⟩; have k5 := (k1.trans k3 (by simp)).drew; have k4 := (k2.trans k3 (by simp)).drew))
        go_region_held3 (fun w' => w'.cell? ⟨w.heap.size, 3, none⟩ = some (.slice ad r.sp.length cap) ∧ w'.cell? ⟨w.heap.size, 4, none⟩ = some (.string (str r.dt))) (first | exact CB.out _ k5 | exact CB.out _ k8) (first
          | (go_at_call 65; (with_reducible refine (To.out _ k4).mono ?_); rintro e w5 ⟨rfl, k6⟩; have k8 := k5.trans k6 (by simp); have k7 := k4.trans k6 (by simp)))
        go_wp2
        go_ret
        exact ⟨rfl, k7⟩
      · rw [if_neg (by simpa using h3)]
        rw [Bool.not_eq_true] at h3
        go_enter Try.func48, Try.ntmps48
        go_wp2_with (first
          | (go_at_call 76; (with_reducible refine (Co.out _ K0.out).mono ?_); rintro e w1 ⟨rfl, k1⟩; obtain ⟨hb, hb2⟩ := CB.out _ k1; have k2 := K0.out.trans k1 (by simp); clear K0 Co)
          | (go_at_call 65; (with_reducible refine (To.out _ k2).mono ?_); rintro e w3 ⟨rfl, k3⟩; have k5 := (k1.trans k3 (by simp)).drew; have k4 := (k2.trans k3 (by simp)).drew))
        go_region_held3 (fun w' => w'.cell? ⟨w.heap.size, 3, none⟩ = some (.slice ad r.sp.length cap) ∧ w'.cell? ⟨w.heap.size, 4, none⟩ = some (.string (str r.dt))) (first | exact CB.out _ k5 | exact CB.out _ k8) (first
          | (go_at_call 65; (with_reducible refine (To.out _ k4).mono ?_); rintro e w5 ⟨rfl, k6⟩; have k8 := k5.trans k6 (by simp); have k7 := k4.trans k6 (by simp)))
        go_wp2
        go_ret
        exact ⟨rfl, k7⟩
  · rw [Bool.not_eq_true] at h1
    have hw : r.written = 1 := by unfold Rc.written; simp [h1]
    rw [hw]
    unfold Rc.val at *
    obtain ⟨ad, cap, rfl, _⟩ := hr.at_
    rw [h1] at Co
    simp only [Bool.false_eq_true, if_false] at Co
    clear hr h1 hw
    go_enter Try.func48, Try.ntmps48
    go_wp2_with (first
      | (go_at_call 76; (with_reducible refine (Co.out _ K0.out).mono ?_); rintro e w1 ⟨rfl, k1⟩; have k2 := K0.out.trans k1 (by simp); clear K0 Co))
    go_ret
    exact ⟨rfl, k2⟩
theorem kfld0 (a b c : Value) (w : World) : (Instr.field 64 (.agg #[a, b, c]) 0).run Try.prog w = .ok a w := by
  kernel_rfl
theorem kfld1 (a b c : Value) (w : World) : (Instr.field 64 (.agg #[a, b, c]) 1).run Try.prog w = .ok b w := by
  kernel_rfl
theorem kfld2 (a b c : Value) (w : World) : (Instr.field 64 (.agg #[a, b, c]) 2).run Try.prog w = .ok c w := by
  kernel_rfl
/-- The six cells of a record's box. -/
def boxed (w : World) (b : Nat) (r : Rc) (sv : Value) : Prop := w.cell? ⟨b, 0, none⟩ = some (.int .i64 r.ep) ∧ w.cell? ⟨b, 1, none⟩ = some (.int .i64 r.nr) ∧ w.cell? ⟨b, 2, none⟩ = some (.int .i64 r.kd) ∧ w.cell? ⟨b, 3, none⟩ = some sv ∧ w.cell? ⟨b, 4, none⟩ = some (.string (str r.dt)) ∧ w.cell? ⟨b, 5, none⟩ = some (.string (str r.tx))
theorem boxed_new {w w' : World} {r : Rc} {sv : Value} (k : Keeps [] (w.alloc (rbox r sv)) w') : boxed w' w.heap.size r sv :=
  ⟨k.cell0 (cell_new rfl _ _ 0), k.cell0 (cell_new rfl _ _ 1), k.cell0 (cell_new rfl _ _ 2), k.cell0 (cell_new rfl _ _ 3), k.cell0 (cell_new rfl _ _ 4), k.cell0 (cell_new rfl _ _ 5)⟩

theorem kidx1 (w : World) : (Instr.index 65 (.agg #[.nilFunc, .nilFunc, .nilFunc, .func (.func 48) #[] #[], .func (.func 49) #[] #[], .func (.func 51) #[] #[], .func (.func 54) #[] #[], .func (.func 50) #[] #[], .func (.func 52) #[] #[], .func (.func 55) #[] #[], .func (.func 56) #[] #[], .func (.func 58) #[] #[]]) (.int .i64 1)).run Try.prog w = .ok (.agg #[.func (.func 48) #[] #[], .func (.func 49) #[] #[], .func (.func 51) #[] #[]]) w := by
  kernel_rfl
theorem kidx2 (w : World) : (Instr.index 65 (.agg #[.nilFunc, .nilFunc, .nilFunc, .func (.func 48) #[] #[], .func (.func 49) #[] #[], .func (.func 51) #[] #[], .func (.func 54) #[] #[], .func (.func 50) #[] #[], .func (.func 52) #[] #[], .func (.func 55) #[] #[], .func (.func 56) #[] #[], .func (.func 58) #[] #[]]) (.int .i64 2)).run Try.prog w = .ok (.agg #[.func (.func 54) #[] #[], .func (.func 50) #[] #[], .func (.func 52) #[] #[]]) w := by
  kernel_rfl
theorem kidx3 (w : World) : (Instr.index 65 (.agg #[.nilFunc, .nilFunc, .nilFunc, .func (.func 48) #[] #[], .func (.func 49) #[] #[], .func (.func 51) #[] #[], .func (.func 54) #[] #[], .func (.func 50) #[] #[], .func (.func 52) #[] #[], .func (.func 55) #[] #[], .func (.func 56) #[] #[], .func (.func 58) #[] #[]]) (.int .i64 3)).run Try.prog w = .ok (.agg #[.func (.func 55) #[] #[], .func (.func 56) #[] #[], .func (.func 58) #[] #[]]) w := by
  kernel_rfl

set_option maxHeartbeats 8000000 in
theorem check_any (r : Rc) (sv : Value) (G : List Nat) (w : World) (hr : r.good w sv G) :
    Calls Try.prog 14 #[r.val sv] w fun e w' => e = .returned (.int .i64 r.check) ∧ Keeps [] w w' := by
  have K0 := Lib.hid ((Keeps.refl [] w).alloc (rbox r sv))
  have CB := Lib.hid (fun w' (k : Keeps [] (w.alloc (rbox r sv)) w') => boxed_new k)
  have Kr := Lib.hid (Keeps.refl [] (w.alloc (rbox r sv))).drew
  have K1 := Lib.hid ((Keeps.refl [] w).alloc (rbox r sv)).drew
  have Is := Lib.hid (fun n w => is_any n w)
  have Ki := Lib.hid (fun w => kinds_any w)
  have Wr := Lib.hid (fun w' (k : Keeps [] w w') => written_any r sv G w' (hr.newer k))
  have Tr := Lib.hid (fun w' (k : Keeps [] w w') => trimmed_any r sv G w' (hr.newer k))
  have No := Lib.hid (fun w' (k : Keeps [] w w') => noted_any r sv G w' (hr.newer k))
  unfold kindsV fnF at Ki
  have hck : r.check = if r.nums then (if r.kd = 1 then r.written else if r.kd = 2 then r.trimmed else if r.kd = 3 then r.noted else 14) else 31 := rfl
  unfold Rc.nums at hck
  unfold Rc.val at *
  unfold boxed at CB
  unfold rbox at K0 CB Kr K1
  clear hr
  generalize r.written = V1 at *
  generalize r.trimmed = V2 at *
  generalize r.noted = V3 at *
  generalize r.check = V at *
  generalize str r.dt = D at *
  generalize str r.tx = T at *
  obtain ⟨ep, nr, kd, _, _, _⟩ := r
  dsimp only at *
  rcases (show ep < 0 ∨ (0 ≤ ep ∧ 4294967296 ≤ ep) ∨ (0 ≤ ep ∧ ep < 4294967296 ∧ nr < 0) ∨ (0 ≤ ep ∧ ep < 4294967296 ∧ 0 ≤ nr ∧ 1099511627776 ≤ nr) ∨ (0 ≤ ep ∧ ep < 4294967296 ∧ 0 ≤ nr ∧ nr < 1099511627776) by omega) with hq | hq | hq | hq | hq
  · have h1 : decide (ep < 0) = true := decide_eq_true (by omega)
    obtain rfl : V = 31 := by rw [hck]; exact if_neg (show ¬ (0 ≤ ep ∧ ep < 4294967296 ∧ 0 ≤ nr ∧ nr < 1099511627776) by omega)
    clear hck
    go_enter Try.func14, Try.ntmps14
    go_wp2
    go_ret
    exact ⟨rfl, K0.out⟩
  · have h1 : decide (ep < 0) = false := decide_eq_false (by omega)
    have h2 : decide (4294967296 ≤ ep) = true := decide_eq_true (by omega)
    obtain rfl : V = 31 := by rw [hck]; exact if_neg (show ¬ (0 ≤ ep ∧ ep < 4294967296 ∧ 0 ≤ nr ∧ nr < 1099511627776) by omega)
    clear hck
    go_enter Try.func14, Try.ntmps14
    go_wp2
    go_ret
    exact ⟨rfl, K0.out⟩
  · have h1 : decide (ep < 0) = false := decide_eq_false (by omega)
    have h2 : decide (4294967296 ≤ ep) = false := decide_eq_false (by omega)
    have h3 : decide (nr < 0) = true := decide_eq_true (by omega)
    obtain rfl : V = 31 := by rw [hck]; exact if_neg (show ¬ (0 ≤ ep ∧ ep < 4294967296 ∧ 0 ≤ nr ∧ nr < 1099511627776) by omega)
    clear hck
    go_enter Try.func14, Try.ntmps14
    go_wp2
    go_ret
    exact ⟨rfl, K0.out⟩
  · have h1 : decide (ep < 0) = false := decide_eq_false (by omega)
    have h2 : decide (4294967296 ≤ ep) = false := decide_eq_false (by omega)
    have h3 : decide (nr < 0) = false := decide_eq_false (by omega)
    have h4 : decide (1099511627776 ≤ nr) = true := decide_eq_true (by omega)
    obtain rfl : V = 31 := by rw [hck]; exact if_neg (show ¬ (0 ≤ ep ∧ ep < 4294967296 ∧ 0 ≤ nr ∧ nr < 1099511627776) by omega)
    clear hck
    go_enter Try.func14, Try.ntmps14
    go_wp2
    go_ret
    exact ⟨rfl, K0.out⟩
  · have h1 : decide (ep < 0) = false := decide_eq_false (by omega)
    have h2 : decide (4294967296 ≤ ep) = false := decide_eq_false (by omega)
    have h3 : decide (nr < 0) = false := decide_eq_false (by omega)
    have h4 : decide (1099511627776 ≤ nr) = false := decide_eq_false (by omega)
    replace hck := hck.trans (if_pos (show 0 ≤ ep ∧ ep < 4294967296 ∧ 0 ≤ nr ∧ nr < 1099511627776 by omega))
    clear hq
    rcases (show (kd < 1 ∨ 3 < kd) ∨ kd = 1 ∨ kd = 2 ∨ kd = 3 by omega) with hq | rfl | rfl | rfl
    · have h5 : (decide (1 ≤ kd) && decide (kd ≤ 3)) = false := by simp; omega
      rw [if_neg (show ¬ kd = 1 by omega), if_neg (show ¬ kd = 2 by omega), if_neg (show ¬ kd = 3 by omega)] at hck
      subst hck
      clear hq Ki Wr Tr No
      go_enter Try.func14, Try.ntmps14
      go_wp2_with (first | (go_at_call 28; (with_reducible refine (Is.out _ _).mono ?_); rintro e w1 ⟨rfl, rfl⟩))
      go_ret
      exact ⟨rfl, K0.out⟩
    · have h5 : (decide ((1 : Int) ≤ 1) && decide ((1 : Int) ≤ 3)) = true := rfl
      simp only [if_true] at hck
      subst hck
      have Ix := fun w => kidx1 w
      have If := fun a b c w => kfld0 a b c w
      go_enter Try.func14, Try.ntmps14
      go_wp2_with (first | (go_at_call 28; (with_reducible refine (Is.out _ _).mono ?_); rintro e w1 ⟨rfl, rfl⟩))
      go_region_held3 (fun w' => w'.cell? ⟨w.heap.size, 0, none⟩ = some (.int .i64 ep) ∧ w'.cell? ⟨w.heap.size, 1, none⟩ = some (.int .i64 nr) ∧ w'.cell? ⟨w.heap.size, 2, none⟩ = some (.int .i64 1) ∧ w'.cell? ⟨w.heap.size, 3, none⟩ = some sv ∧ w'.cell? ⟨w.heap.size, 4, none⟩ = some (.string D) ∧ w'.cell? ⟨w.heap.size, 5, none⟩ = some (.string T)) (first | exact CB.out _ Kr.out | exact CB.out _ (by assumption)) (first
        | (go_at_call 29; (with_reducible refine (Ki.out _).mono ?_); rintro e w2 ⟨rfl, k2⟩; have k3 := Kr.out.trans k2 (by simp); have k4 := K1.out.trans k2 (by simp))
        | (go_at_call 48; (with_reducible refine (Wr.out _ k4).mono ?_); rintro e w5 ⟨rfl, k6⟩; have k8 := k3.trans k6 (by simp); have k7 := k4.trans k6 (by simp)))
      go_wp2
      go_ret
      exact ⟨rfl, k7⟩
    · have h5 : (decide ((1 : Int) ≤ 2) && decide ((2 : Int) ≤ 3)) = true := rfl
      simp only [show ¬ ((2 : Int) = 1) by decide, if_false, if_true] at hck
      subst hck
      have Ix := fun w => kidx2 w
      have If := fun a b c w => kfld0 a b c w
      go_enter Try.func14, Try.ntmps14
      go_wp2_with (first | (go_at_call 28; (with_reducible refine (Is.out _ _).mono ?_); rintro e w1 ⟨rfl, rfl⟩))
      go_region_held3 (fun w' => w'.cell? ⟨w.heap.size, 0, none⟩ = some (.int .i64 ep) ∧ w'.cell? ⟨w.heap.size, 1, none⟩ = some (.int .i64 nr) ∧ w'.cell? ⟨w.heap.size, 2, none⟩ = some (.int .i64 2) ∧ w'.cell? ⟨w.heap.size, 3, none⟩ = some sv ∧ w'.cell? ⟨w.heap.size, 4, none⟩ = some (.string D) ∧ w'.cell? ⟨w.heap.size, 5, none⟩ = some (.string T)) (first | exact CB.out _ Kr.out | exact CB.out _ (by assumption)) (first
        | (go_at_call 29; (with_reducible refine (Ki.out _).mono ?_); rintro e w2 ⟨rfl, k2⟩; have k3 := Kr.out.trans k2 (by simp); have k4 := K1.out.trans k2 (by simp))
        | (go_at_call 54; (with_reducible refine (Tr.out _ k4).mono ?_); rintro e w5 ⟨rfl, k6⟩; have k8 := k3.trans k6 (by simp); have k7 := k4.trans k6 (by simp)))
      go_wp2
      go_ret
      exact ⟨rfl, k7⟩
    · have h5 : (decide ((1 : Int) ≤ 3) && decide ((3 : Int) ≤ 3)) = true := rfl
      simp only [show ¬ ((3 : Int) = 1) by decide, show ¬ ((3 : Int) = 2) by decide, if_false, if_true] at hck
      subst hck
      have Ix := fun w => kidx3 w
      have If := fun a b c w => kfld0 a b c w
      go_enter Try.func14, Try.ntmps14
      go_wp2_with (first | (go_at_call 28; (with_reducible refine (Is.out _ _).mono ?_); rintro e w1 ⟨rfl, rfl⟩))
      go_region_held3 (fun w' => w'.cell? ⟨w.heap.size, 0, none⟩ = some (.int .i64 ep) ∧ w'.cell? ⟨w.heap.size, 1, none⟩ = some (.int .i64 nr) ∧ w'.cell? ⟨w.heap.size, 2, none⟩ = some (.int .i64 3) ∧ w'.cell? ⟨w.heap.size, 3, none⟩ = some sv ∧ w'.cell? ⟨w.heap.size, 4, none⟩ = some (.string D) ∧ w'.cell? ⟨w.heap.size, 5, none⟩ = some (.string T)) (first | exact CB.out _ Kr.out | exact CB.out _ (by assumption)) (first
        | (go_at_call 29; (with_reducible refine (Ki.out _).mono ?_); rintro e w2 ⟨rfl, k2⟩; have k3 := Kr.out.trans k2 (by simp); have k4 := K1.out.trans k2 (by simp))
        | (go_at_call 55; (with_reducible refine (No.out _ k4).mono ?_); rintro e w5 ⟨rfl, k6⟩; have k8 := k3.trans k6 (by simp); have k7 := k4.trans k6 (by simp)))
      go_wp2
      go_ret
      exact ⟨rfl, k7⟩
end Go.Proofs.Ytjebldfmkpfafaa
