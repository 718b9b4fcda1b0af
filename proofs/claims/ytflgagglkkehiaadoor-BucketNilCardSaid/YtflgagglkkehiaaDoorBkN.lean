/- Layer 5: a nil bucket. -/
import Derived.Test.YtflgagglkkehiaaDoorBkL
namespace Go.Proofs.YtflgagglkkehiaaDoor
open Go.RowKit Go.Maps

section
set_option maxHeartbeats 1000000
set_option maxRecDepth 100000

theorem nput (s t : Bs) (w : World) : Calls Tryd.prog 14 #[.pointer none, .string (str s), .string (str t)] w fun e w' => e = .returned (.int .i64 2) ∧ Keeps [] w w' := by
  have Hm := Lib.hid (fun r => may_nil s r w)
  go_enter Tryd.func14, Tryd.ntmps14
  go_wp2_with (go_at_call 31; (with_reducible refine (Hm.out _).mono ?_); rintro e w1 ⟨rfl, k1⟩)
  go_ret
  exact ⟨rfl, k1⟩
theorem ndel (s : Bs) (w : World) : Calls Tryd.prog 36 #[.pointer none, .string (str s)] w fun e w' => e = .returned (.int .i64 2) ∧ Keeps [] w w' := by
  have Hm := Lib.hid (fun r => may_nil s r w)
  go_enter Tryd.func36, Tryd.ntmps36
  go_wp2_with (go_at_call 31; (with_reducible refine (Hm.out _).mono ?_); rintro e w1 ⟨rfl, k1⟩)
  go_ret
  exact ⟨rfl, k1⟩
theorem nsize (s : Bs) (w : World) : Calls Tryd.prog 18 #[.pointer none, .string (str s)] w fun e w' => e = .returned (.tuple #[.int .i64 0, .int .i64 2]) ∧ Keeps [] w w' := by
  have Hm := Lib.hid (fun r => may_nil s r w)
  go_enter Tryd.func18, Tryd.ntmps18
  go_wp2_with (go_at_call 31; (with_reducible refine (Hm.out _).mono ?_); rintro e w1 ⟨rfl, k1⟩)
  go_ret2
  exact ⟨rfl, k1⟩
theorem nget (s : Bs) (A n : Int) (w : World) : Calls Tryd.prog 17 #[.pointer none, .string (str s), .int .i64 A, .int .i64 n] w fun e w' => e = .returned (.tuple #[.string (str []), .int .i64 2]) ∧ Keeps [] w w' := by
  have hz := str_empty
  have Hm := Lib.hid (fun r => may_nil s r w)
  by_cases hA : 0 ≤ A
  · go_enter Tryd.func17, Tryd.ntmps17
    go_wp2_with (go_at_call 31; (with_reducible refine (Hm.out _).mono ?_); rintro e w1 ⟨rfl, k1⟩)
    go_ret2
    exact ⟨rfl, k1⟩
  · go_enter Tryd.func17, Tryd.ntmps17
    go_wp2_with (go_at_call 31; (with_reducible refine (Hm.out _).mono ?_); rintro e w1 ⟨rfl, k1⟩)
    go_ret2
    exact ⟨rfl, k1⟩
theorem nlist (s : Bs) (w : World) : Calls Tryd.prog 23 #[.pointer none, .string (str s)] w fun e w' => e = .returned (.tuple #[.slice none 0 0, .int .i64 2]) ∧ w' = w := by
  go_enter Tryd.func23, Tryd.ntmps23
  go_wp2
  go_ret2
  exact ⟨rfl, rfl⟩
theorem nnames (w : World) : Calls Tryd.prog 22 #[.pointer none] w fun e w' => e = .returned (.slice none 0 0) ∧ w' = w := by
  go_enter Tryd.func22, Tryd.ntmps22
  go_wp2
  go_ret
  exact ⟨rfl, rfl⟩
theorem nused (w : World) : Calls Tryd.prog 19 #[.pointer none] w fun e w' => e = .returned (.int .i64 0) ∧ w' = w := by
  go_enter Tryd.func19, Tryd.ntmps19
  go_wp2
  go_ret
  exact ⟨rfl, rfl⟩
theorem nquota (w : World) : Calls Tryd.prog 29 #[.pointer none] w fun e w' => e = .returned (.int .i64 0) ∧ w' = w := by
  go_enter Tryd.func29, Tryd.ntmps29
  go_wp2
  go_ret
  exact ⟨rfl, rfl⟩
theorem nwaits (w : World) : Calls Tryd.prog 15 #[.pointer none] w fun e w' => e = .returned (.int .i64 0) ∧ w' = w := by
  go_enter Tryd.func15, Tryd.ntmps15
  go_wp2
  go_ret
  exact ⟨rfl, rfl⟩
theorem ncopy (w : World) : Calls Tryd.prog 28 #[.pointer none] w fun e w' => e = .returned (.pointer none) ∧ w' = w := by
  go_enter Tryd.func28, Tryd.ntmps28
  go_wp2
  go_ret
  exact ⟨rfl, rfl⟩
theorem nfates (v : Value) (w : World) : Calls Tryd.prog 13 #[.pointer none, v] w fun e w' => e = .returned (.tuple #[]) ∧ w' = w := by
  go_enter Tryd.func13, Tryd.ntmps13
  go_wp2
  go_end0
  exact ⟨rfl, rfl⟩
theorem nfirst (n : Int) (w : World) : Calls Tryd.prog 34 #[.pointer none, .int .i64 n] w fun e w' => e = .returned (.slice none 0 0) ∧ w' = w := by
  go_enter Tryd.func34, Tryd.ntmps34
  go_wp2
  go_ret
  exact ⟨rfl, rfl⟩
theorem ndrop (n : Int) (w : World) : Calls Tryd.prog 37 #[.pointer none, .int .i64 n] w fun e w' => e = .returned (.int .i64 0) ∧ w' = w := by
  have Hm := Lib.hid (nfirst n w)
  go_enter Tryd.func37, Tryd.ntmps37
  go_wp2_with (go_at_call 34; (with_reducible refine (Hm.out).mono ?_); rintro e w1 ⟨rfl, rfl⟩)
  go_ret
  exact ⟨rfl, rfl⟩
theorem nland (n : Int) (w : World) : Calls Tryd.prog 16 #[.pointer none, .int .i64 n] w fun e w' => e = .returned (.int .i64 0) ∧ w' = w := by
  have Hm := Lib.hid (nfirst n w)
  go_enter Tryd.func16, Tryd.ntmps16
  go_wp2_with (go_at_call 34; (with_reducible refine (Hm.out).mono ?_); rintro e w1 ⟨rfl, rfl⟩)
  go_loopw [13] (fun iv wr => iv = .int .i64 0 ∧ wr = w1) (fun _ _ => 0)
  case atStart => exact ⟨rfl, rfl⟩
  case round =>
    obtain ⟨rfl, rfl⟩ := hrel
    go_wp2
    go_ret
    exact ⟨rfl, rfl⟩
theorem ndo_0 (w : World) (o : OpR) (hask : o.ask = 0) :
    Calls Tryd.prog 21 #[.pointer none, .agg o.vals.toArray] w fun e w' => e = .returned (.agg #[.string (str []), .int .i64 0, .slice none 0 0, .int .i64 2]) ∧ Keeps [] w w' := by
  obtain ⟨ask, name, data, at_, n, lv, L⟩ := o
  dsimp only at hask
  subst hask
  unfold OpR.vals
  dsimp only
  have hz := str_empty
  have K0 := Lib.hid fun o => (Keeps.refl [] w).alloc o
  have Hcall := Lib.hid (fun w' => nput name data w')
  go_enter Tryd.func21, Tryd.ntmps21
  go_wp2_with (go_at_call 14; (with_reducible refine (Hcall.out _).mono ?_); rintro e w1 ⟨rfl, h4⟩; have hR := h4.some (k := w.heap.size + 1) (heap_at (by simp)) (by simp); have c0 := cell_of_heap hR 0; have c1 := cell_of_heap hR 1; have c2 := cell_of_heap hR 2; have c3 := cell_of_heap hR 3; have f0 := free_of_heap hR 0; have f1 := free_of_heap hR 1; have f2 := free_of_heap hR 2; have f3 := free_of_heap hR 3)
  refine bodyPost_ret (results_row rfl rfl (heap_set4 hR _ _ _ _) Tryd.underlying45 rfl (by kernel_rfl)) rfl ⟨rfl, ?_⟩
  exact (((K0.out _).alloc _).trans h4 (by simp)).trans (keeps_set4 w1 _ _ _ _ _) (fun x hx => by rw [List.mem_singleton] at hx; exact .inr (by omega))

theorem ndo_1 (w : World) (o : OpR) (hask : o.ask = 1) :
    Calls Tryd.prog 21 #[.pointer none, .agg o.vals.toArray] w fun e w' => e = .returned (.agg #[.string (str []), .int .i64 0, .slice none 0 0, .int .i64 2]) ∧ Keeps [] w w' := by
  obtain ⟨ask, name, data, at_, n, lv, L⟩ := o
  dsimp only at hask
  subst hask
  unfold OpR.vals
  dsimp only
  have hz := str_empty
  have K0 := Lib.hid fun o => (Keeps.refl [] w).alloc o
  have Hcall := Lib.hid (fun w' => nget name at_ n w')
  go_enter Tryd.func21, Tryd.ntmps21
  go_wp2_with (go_at_call 17; (with_reducible refine (Hcall.out _).mono ?_); rintro e w1 ⟨rfl, h4⟩; have hR := h4.some (k := w.heap.size + 1) (heap_at (by simp)) (by simp); have c0 := cell_of_heap hR 0; have c1 := cell_of_heap hR 1; have c2 := cell_of_heap hR 2; have c3 := cell_of_heap hR 3; have f0 := free_of_heap hR 0; have f1 := free_of_heap hR 1; have f2 := free_of_heap hR 2; have f3 := free_of_heap hR 3)
  refine bodyPost_ret (results_row rfl rfl (heap_set4 hR _ _ _ _) Tryd.underlying45 rfl (by kernel_rfl)) rfl ⟨rfl, ?_⟩
  exact (((K0.out _).alloc _).trans h4 (by simp)).trans (keeps_set4 w1 _ _ _ _ _) (fun x hx => by rw [List.mem_singleton] at hx; exact .inr (by omega))

theorem ndo_2 (w : World) (o : OpR) (hask : o.ask = 2) :
    Calls Tryd.prog 21 #[.pointer none, .agg o.vals.toArray] w fun e w' => e = .returned (.agg #[.string (str []), .int .i64 0, .slice none 0 0, .int .i64 2]) ∧ Keeps [] w w' := by
  obtain ⟨ask, name, data, at_, n, lv, L⟩ := o
  dsimp only at hask
  subst hask
  unfold OpR.vals
  dsimp only
  have hz := str_empty
  have K0 := Lib.hid fun o => (Keeps.refl [] w).alloc o
  have Hcall := Lib.hid (fun w' => nsize name w')
  go_enter Tryd.func21, Tryd.ntmps21
  go_wp2_with (go_at_call 18; (with_reducible refine (Hcall.out _).mono ?_); rintro e w1 ⟨rfl, h4⟩; have hR := h4.some (k := w.heap.size + 1) (heap_at (by simp)) (by simp); have c0 := cell_of_heap hR 0; have c1 := cell_of_heap hR 1; have c2 := cell_of_heap hR 2; have c3 := cell_of_heap hR 3; have f0 := free_of_heap hR 0; have f1 := free_of_heap hR 1; have f2 := free_of_heap hR 2; have f3 := free_of_heap hR 3)
  refine bodyPost_ret (results_row rfl rfl (heap_set4 hR _ _ _ _) Tryd.underlying45 rfl (by kernel_rfl)) rfl ⟨rfl, ?_⟩
  exact (((K0.out _).alloc _).trans h4 (by simp)).trans (keeps_set4 w1 _ _ _ _ _) (fun x hx => by rw [List.mem_singleton] at hx; exact .inr (by omega))

theorem ndo_3 (w : World) (o : OpR) (hask : o.ask = 3) :
    Calls Tryd.prog 21 #[.pointer none, .agg o.vals.toArray] w fun e w' => e = .returned (.agg #[.string (str []), .int .i64 0, .slice none 0 0, .int .i64 2]) ∧ Keeps [] w w' := by
  obtain ⟨ask, name, data, at_, n, lv, L⟩ := o
  dsimp only at hask
  subst hask
  unfold OpR.vals
  dsimp only
  have hz := str_empty
  have K0 := Lib.hid fun o => (Keeps.refl [] w).alloc o
  have Hcall := Lib.hid (fun w' => nlist name w')
  go_enter Tryd.func21, Tryd.ntmps21
  go_wp2_with (go_at_call 23; (with_reducible refine (Hcall.out _).mono ?_); rintro e w1 ⟨rfl, rfl⟩)
  refine bodyPost_ret (results_row rfl rfl (heap_at (by simp)) Tryd.underlying45 rfl (by kernel_rfl)) rfl ⟨rfl, ?_⟩
  exact (K0.out _).alloc _

theorem ndo_4 (w : World) (o : OpR) (hask : o.ask = 4) :
    Calls Tryd.prog 21 #[.pointer none, .agg o.vals.toArray] w fun e w' => e = .returned (.agg #[.string (str []), .int .i64 0, .slice none 0 0, .int .i64 2]) ∧ Keeps [] w w' := by
  obtain ⟨ask, name, data, at_, n, lv, L⟩ := o
  dsimp only at hask
  subst hask
  unfold OpR.vals
  dsimp only
  have hz := str_empty
  have K0 := Lib.hid fun o => (Keeps.refl [] w).alloc o
  have Hcall := Lib.hid (fun w' => ndel name w')
  go_enter Tryd.func21, Tryd.ntmps21
  go_wp2_with (go_at_call 36; (with_reducible refine (Hcall.out _).mono ?_); rintro e w1 ⟨rfl, h4⟩; have hR := h4.some (k := w.heap.size + 1) (heap_at (by simp)) (by simp); have c0 := cell_of_heap hR 0; have c1 := cell_of_heap hR 1; have c2 := cell_of_heap hR 2; have c3 := cell_of_heap hR 3; have f0 := free_of_heap hR 0; have f1 := free_of_heap hR 1; have f2 := free_of_heap hR 2; have f3 := free_of_heap hR 3)
  refine bodyPost_ret (results_row rfl rfl (heap_set4 hR _ _ _ _) Tryd.underlying45 rfl (by kernel_rfl)) rfl ⟨rfl, ?_⟩
  exact (((K0.out _).alloc _).trans h4 (by simp)).trans (keeps_set4 w1 _ _ _ _ _) (fun x hx => by rw [List.mem_singleton] at hx; exact .inr (by omega))

theorem ndo_5 (w : World) (o : OpR) (hask : o.ask = 5) :
    Calls Tryd.prog 21 #[.pointer none, .agg o.vals.toArray] w fun e w' => e = .returned (.agg #[.string (str []), .int .i64 0, .slice none 0 0, .int .i64 0]) ∧ Keeps [] w w' := by
  obtain ⟨ask, name, data, at_, n, lv, L⟩ := o
  dsimp only at hask
  subst hask
  unfold OpR.vals
  dsimp only
  have hz := str_empty
  have K0 := Lib.hid fun o => (Keeps.refl [] w).alloc o
  have Hcall := Lib.hid (fun w' => nfates lv w')
  go_enter Tryd.func21, Tryd.ntmps21
  go_wp2_with (go_at_call 13; (with_reducible refine (Hcall.out _).mono ?_); rintro e w1 ⟨rfl, rfl⟩)
  refine bodyPost_ret (results_row rfl rfl (heap_at (by simp)) Tryd.underlying45 rfl (by kernel_rfl)) rfl ⟨rfl, ?_⟩
  exact (K0.out _).alloc _

theorem ndo_6 (w : World) (o : OpR) (hask : o.ask = 6) :
    Calls Tryd.prog 21 #[.pointer none, .agg o.vals.toArray] w fun e w' => e = .returned (.agg #[.string (str []), .int .i64 0, .slice none 0 0, .int .i64 0]) ∧ Keeps [] w w' := by
  obtain ⟨ask, name, data, at_, n, lv, L⟩ := o
  dsimp only at hask
  subst hask
  unfold OpR.vals
  dsimp only
  have hz := str_empty
  have K0 := Lib.hid fun o => (Keeps.refl [] w).alloc o
  have Hcall := Lib.hid (fun w' => nland n w')
  go_enter Tryd.func21, Tryd.ntmps21
  go_wp2_with (go_at_call 16; (with_reducible refine (Hcall.out _).mono ?_); rintro e w1 ⟨rfl, rfl⟩)
  refine bodyPost_ret (results_row rfl rfl (heap_at (by simp)) Tryd.underlying45 rfl (by kernel_rfl)) rfl ⟨rfl, ?_⟩
  exact (K0.out _).alloc _

theorem ndo_7 (w : World) (o : OpR) (hask : o.ask ≠ 0 ∧ o.ask ≠ 1 ∧ o.ask ≠ 2 ∧ o.ask ≠ 3 ∧ o.ask ≠ 4 ∧ o.ask ≠ 5 ∧ o.ask ≠ 6) :
    Calls Tryd.prog 21 #[.pointer none, .agg o.vals.toArray] w fun e w' => e = .returned (.agg #[.string (str []), .int .i64 0, .slice none 0 0, .int .i64 0]) ∧ Keeps [] w w' := by
  obtain ⟨ask, name, data, at_, n, lv, L⟩ := o
  dsimp only at hask
  have a0 : (ask == 0) = false := by rw [beq_eq_false_iff_ne]; omega
  have a1 : (ask == 1) = false := by rw [beq_eq_false_iff_ne]; omega
  have a2 : (ask == 2) = false := by rw [beq_eq_false_iff_ne]; omega
  have a3 : (ask == 3) = false := by rw [beq_eq_false_iff_ne]; omega
  have a4 : (ask == 4) = false := by rw [beq_eq_false_iff_ne]; omega
  have a5 : (ask == 5) = false := by rw [beq_eq_false_iff_ne]; omega
  have a6 : (ask == 6) = false := by rw [beq_eq_false_iff_ne]; omega
  unfold OpR.vals
  dsimp only
  have hz := str_empty
  have K0 := Lib.hid fun o => (Keeps.refl [] w).alloc o
  have Hcall := Lib.hid (fun w' => ndrop n w')
  go_enter Tryd.func21, Tryd.ntmps21
  go_wp2_with (go_at_call 37; (with_reducible refine (Hcall.out _).mono ?_); rintro e w1 ⟨rfl, rfl⟩)
  refine bodyPost_ret (results_row rfl rfl (heap_at (by simp)) Tryd.underlying45 rfl (by kernel_rfl)) rfl ⟨rfl, ?_⟩
  exact (K0.out _).alloc _

theorem ndo_any (w : World) (o : OpR) :
    Calls Tryd.prog 21 #[.pointer none, .agg o.vals.toArray] w fun e w' => e = .returned (.agg #[.string (str []), .int .i64 0, .slice none 0 0, .int .i64 (if 0 ≤ o.ask ∧ o.ask ≤ 4 then 2 else 0)]) ∧ Keeps [] w w' := by
  by_cases h0 : o.ask = 0
  · rw [if_pos (by omega)]; exact ndo_0 w o h0
  by_cases h1 : o.ask = 1
  · rw [if_pos (by omega)]; exact ndo_1 w o h1
  by_cases h2 : o.ask = 2
  · rw [if_pos (by omega)]; exact ndo_2 w o h2
  by_cases h3 : o.ask = 3
  · rw [if_pos (by omega)]; exact ndo_3 w o h3
  by_cases h4 : o.ask = 4
  · rw [if_pos (by omega)]; exact ndo_4 w o h4
  rw [if_neg (by omega)]
  by_cases h5 : o.ask = 5
  · exact ndo_5 w o h5
  by_cases h6 : o.ask = 6
  · exact ndo_6 w o h6
  exact ndo_7 w o ⟨h0, h1, h2, h3, h4, h5, h6⟩
end
end Go.Proofs.YtflgagglkkehiaaDoor
