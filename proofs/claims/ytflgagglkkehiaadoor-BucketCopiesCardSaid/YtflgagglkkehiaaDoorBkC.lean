/- Layer 5: does. -/
import Derived.Test.YtflgagglkkehiaaDoorBkB
namespace Go.Proofs.YtflgagglkkehiaaDoor
open Go.RowKit Go.Maps

theorem tyCalls : SlTy Tryd.prog 67 75 3 40 (.agg #[.nilFunc, .string ⟨#[]⟩, .string ⟨#[]⟩]) := SlTy.mk' Tryd.underlying67 (by kernel_rfl) rfl (by decide)
theorem sizeCall : (Tryd.prog.info? 75).map (·.size) = some 3 := by kernel_rfl

/-- A call as a struct. -/
def callA (c : Cl) : Value := .agg #[fnV c.1, .string (str c.2.1), .string (str c.2.2)]

theorem Bk.act_fates (b : Bk) (c : Cl) : (b.act c).2.f = b.f := by
  unfold Bk.act Bk.put Bk.rem
  repeat' split
  all_goals rfl

theorem BkC.newer {w w' : World} {p mb : Nat} {b : Bk} {F Gf Gl : List Nat} {fv lv : Value} (h : BkC w p b F mb fv lv Gf Gl) (k : Keeps [] w w') : BkC w' p b F mb fv lv Gf Gl := h.keep k (by simp)
theorem BkAt.newer {w w' : World} {p : Nat} {b : Bk} {F : List Nat} (h : BkAt w p b F) (k : Keeps [] w w') : BkAt w' p b F := h.keep k (by simp)
theorem Chg.old {F F' : List Nat} {w0 w w' : World} (k : Keeps [] w0 w) (h : Chg F F' w w') : Chg F F' w0 w' :=
  ⟨(k.mono (by simp)).trans h.keeps (fun _ h => .inl h), fun x hx => (h.fresh x hx).imp id (fun h => Nat.le_trans k.size h)⟩

/-- It is done now, and its answer is told. -/
theorem does_0 (p : Nat) (b : Bk) (F : List Nat) (w : World) (hb : BkAt w p b F) (N : Nat) (hok : b.ok N) (hN : N ≤ 1000000) (c : Cl) (hk : c.2.1.length ≤ 64) (hv : c.2.2.length ≤ 65536) (hf : b.fate = 0) :
    Calls Tryd.prog 32 #[.pointer (some ⟨p, 0, none⟩), callA c] w fun e w' => e = .returned (.int .i64 (b.tick.act c).1) ∧ BkAt w' p (b.tick.act c).2 F ∧ Chg F F w w' := by
  obtain ⟨B, hB⟩ : ∃ B, w.heap.size = B := ⟨_, rfl⟩
  have hbF := hb.lt
  have hnew : Keeps [] w (w.alloc (.cells #[fnV c.1, .string (str c.2.1), .string (str c.2.2)] 75)) := (Keeps.refl [] w).alloc _
  have hn := next_any p b F (w.alloc (.cells #[fnV c.1, .string (str c.2.1), .string (str c.2.2)] 75)) (hb.newer hnew) hok.f64
  rw [hf] at hn
  have hcells := heap_alloc_self w (.cells #[fnV c.1, .string (str c.2.1), .string (str c.2.2)] 75)
  have hact := fun w' F' (h : BkAt w' p b.tick F') => act_any p b.tick F' w' h N hok.tick hN c hk hv
  have Hn := Lib.hid hn
  have Hact := Lib.hid hact
  have HbF := Lib.hid hbF
  have Hcells := Lib.hid hcells
  have Hnew := Lib.hid hnew
  have hBF : B ∉ F := fun h => by have := HbF.out B h; omega
  rw [hB] at Hcells
  clear hn hact hbF hcells hnew hok hb
  obtain ⟨t, k, v⟩ := c
  unfold callA
  cases t
  all_goals
    simp only [fnV, if_true, Bool.false_eq_true, if_false] at *
    go_enter Tryd.func32, Tryd.ntmps32
    go_wp2_with (first
      | (go_at_call 52; (with_reducible refine (Hn.out).mono ?_); rintro e w1 ⟨rfl, h1, h2⟩; have hx := h2.keeps.some Hcells.out hBF; have d0 := cell_of_heap hx 0; have d1 := cell_of_heap hx 1; have d2 := cell_of_heap hx 2)
      | (go_at_call 33; (with_reducible refine (Hact.out _ _ h1).mono ?_); rintro e w2 ⟨rfl, h3, h4⟩)
      | (go_at_call 53; (with_reducible refine (Hact.out _ _ h1).mono ?_); rintro e w2 ⟨rfl, h3, h4⟩))
    go_ret
    exact ⟨rfl, h3, Chg.old Hnew.out (h2.trans h4)⟩

/-- It is done now, and fails. -/
theorem does_2 (p : Nat) (b : Bk) (F : List Nat) (w : World) (hb : BkAt w p b F) (N : Nat) (hok : b.ok N) (hN : N ≤ 1000000) (c : Cl) (hk : c.2.1.length ≤ 64) (hv : c.2.2.length ≤ 65536) (hf : b.fate = 2) :
    Calls Tryd.prog 32 #[.pointer (some ⟨p, 0, none⟩), callA c] w fun e w' => e = .returned (.int .i64 34) ∧ BkAt w' p (b.tick.act c).2 F ∧ Chg F F w w' := by
  obtain ⟨B, hB⟩ : ∃ B, w.heap.size = B := ⟨_, rfl⟩
  have hbF := hb.lt
  have hnew : Keeps [] w (w.alloc (.cells #[fnV c.1, .string (str c.2.1), .string (str c.2.2)] 75)) := (Keeps.refl [] w).alloc _
  have hn := next_any p b F (w.alloc (.cells #[fnV c.1, .string (str c.2.1), .string (str c.2.2)] 75)) (hb.newer hnew) hok.f64
  rw [hf] at hn
  have hcells := heap_alloc_self w (.cells #[fnV c.1, .string (str c.2.1), .string (str c.2.2)] 75)
  have hact := fun w' F' (h : BkAt w' p b.tick F') => act_any p b.tick F' w' h N hok.tick hN c hk hv
  have Hn := Lib.hid hn
  have Hact := Lib.hid hact
  have HbF := Lib.hid hbF
  have Hcells := Lib.hid hcells
  have Hnew := Lib.hid hnew
  have hBF : B ∉ F := fun h => by have := HbF.out B h; omega
  rw [hB] at Hcells
  clear hn hact hbF hcells hnew hok hb
  obtain ⟨t, k, v⟩ := c
  unfold callA
  cases t
  all_goals
    simp only [fnV, if_true, Bool.false_eq_true, if_false] at *
    go_enter Tryd.func32, Tryd.ntmps32
    go_wp2_with (first
      | (go_at_call 52; (with_reducible refine (Hn.out).mono ?_); rintro e w1 ⟨rfl, h1, h2⟩; have hx := h2.keeps.some Hcells.out hBF; have d0 := cell_of_heap hx 0; have d1 := cell_of_heap hx 1; have d2 := cell_of_heap hx 2)
      | (go_at_call 33; (with_reducible refine (Hact.out _ _ h1).mono ?_); rintro e w2 ⟨rfl, h3, h4⟩)
      | (go_at_call 53; (with_reducible refine (Hact.out _ _ h1).mono ?_); rintro e w2 ⟨rfl, h3, h4⟩))
    go_ret
    exact ⟨rfl, h3, Chg.old Hnew.out (h2.trans h4)⟩

/-- It fails. -/
theorem does_1 (p : Nat) (b : Bk) (F : List Nat) (w : World) (hb : BkAt w p b F) (N : Nat) (hok : b.ok N) (hN : N ≤ 1000000) (c : Cl) (hk : c.2.1.length ≤ 64) (hv : c.2.2.length ≤ 65536) (hf : b.fate = 1) :
    Calls Tryd.prog 32 #[.pointer (some ⟨p, 0, none⟩), callA c] w fun e w' => e = .returned (.int .i64 34) ∧ BkAt w' p b.tick F ∧ Chg F F w w' := by
  obtain ⟨B, hB⟩ : ∃ B, w.heap.size = B := ⟨_, rfl⟩
  have hbF := hb.lt
  have hnew : Keeps [] w (w.alloc (.cells #[fnV c.1, .string (str c.2.1), .string (str c.2.2)] 75)) := (Keeps.refl [] w).alloc _
  have hn := next_any p b F (w.alloc (.cells #[fnV c.1, .string (str c.2.1), .string (str c.2.2)] 75)) (hb.newer hnew) hok.f64
  rw [hf] at hn
  have hcells := heap_alloc_self w (.cells #[fnV c.1, .string (str c.2.1), .string (str c.2.2)] 75)
  have hact := fun w' F' (h : BkAt w' p b.tick F') => act_any p b.tick F' w' h N hok.tick hN c hk hv
  have Hn := Lib.hid hn
  have Hact := Lib.hid hact
  have HbF := Lib.hid hbF
  have Hcells := Lib.hid hcells
  have Hnew := Lib.hid hnew
  have hBF : B ∉ F := fun h => by have := HbF.out B h; omega
  rw [hB] at Hcells
  clear hn hact hbF hcells hnew hok hb
  obtain ⟨t, k, v⟩ := c
  unfold callA
  simp only at *
  generalize fnV t = fn at *
  go_enter Tryd.func32, Tryd.ntmps32
  go_wp2_with (go_at_call 52; (with_reducible refine (Hn.out).mono ?_); rintro e w1 ⟨rfl, h1, h2⟩; have hx := h2.keeps.some Hcells.out hBF; have d0 := cell_of_heap hx 0; have d1 := cell_of_heap hx 1; have d2 := cell_of_heap hx 2)
  go_ret
  exact ⟨rfl, h1, Chg.old Hnew.out h2⟩

/-- It fails, and is done when it lands. -/
theorem does_3 (p : Nat) (b : Bk) (F : List Nat) (w : World) (hb : BkAt w p b F) (N : Nat) (hok : b.ok N) (hN : N ≤ 1000000) (c : Cl) (hk : c.2.1.length ≤ 64) (hv : c.2.2.length ≤ 65536) (hf : b.fate = 3) :
    Calls Tryd.prog 32 #[.pointer (some ⟨p, 0, none⟩), callA c] w fun e w' => e = .returned (.int .i64 34) ∧ ∃ F', BkAt w' p { b.tick with l := b.l ++ [c] } F' ∧ Chg F F' w w' := by
  obtain ⟨B, hB⟩ : ∃ B, w.heap.size = B := ⟨_, rfl⟩
  have hbF := hb.lt
  have hnew : Keeps [] w (w.alloc (.cells #[fnV c.1, .string (str c.2.1), .string (str c.2.2)] 75)) := (Keeps.refl [] w).alloc _
  have hn := next_any p b F (w.alloc (.cells #[fnV c.1, .string (str c.2.1), .string (str c.2.2)] 75)) (hb.newer hnew) hok.f64
  rw [hf] at hn
  have hcells := heap_alloc_self w (.cells #[fnV c.1, .string (str c.2.1), .string (str c.2.2)] 75)
  have hact := fun w' F' (h : BkAt w' p b.tick F') => act_any p b.tick F' w' h N hok.tick hN c hk hv
  have Hn := Lib.hid hn
  have Hact := Lib.hid hact
  have HbF := Lib.hid hbF
  have Hcells := Lib.hid hcells
  have Hnew := Lib.hid hnew
  have hBF : B ∉ F := fun h => by have := HbF.out B h; omega
  rw [hB] at Hcells
  have hll : b.tick.l.length ≤ 1000000 := by have := hok.few; show b.l.length ≤ _; omega
  clear hn hact hbF hcells hnew hok hb
  obtain ⟨t, k, v⟩ := c
  unfold callA
  simp only at *
  have hf1 : (fnV t).oneCell' = true := rfl
  have hcv : callV (t, k, v) = [fnV t, .string (str k), .string (str v)] := rfl
  generalize fnV t = fn at *
  have Hcv := Lib.hid hcv
  have Hll := Lib.hid hll
  clear hcv hll
  go_enter Tryd.func32, Tryd.ntmps32
  go_wp2_with (go_at_call 52; (with_reducible refine (Hn.out).mono ?_); rintro e w1 ⟨rfl, h1, h2⟩; have hx := h2.keeps.some Hcells.out hBF; have d0 := cell_of_heap hx 0; have d1 := cell_of_heap hx 1; have d2 := cell_of_heap hx 2)
  obtain ⟨mb, fv, lv, Gf, Gl, hc⟩ := h1
  obtain ⟨V, G', wq, hrun, hrow, hchq⟩ := exec_appR (P := Tryd.prog) tyCalls 67 (w1.drewN 1) ((w1.drewN 1).alloc (.cells (#[fn, .string (str k), .string (str v)]) 75)) w1.heap.size _ ((Keeps.refl [] _).alloc _) (heap_alloc_self (w1.drewN 1) _) (hc.drew 1).row rfl (by simp [Value.oneCell']; exact hf1) (by have := Hll.out; omega) (by have := Hll.out; unfold maxLen; omega)
  obtain ⟨Ws, hW0, hW1, hW2, hW3⟩ : ∃ Ws : Nat → World, Ws 0 = w1.drewN 1 ∧ Ws 1 = (w1.drewN 1).alloc (.cells (#[fn, .string (str k), .string (str v)]) 75) ∧ Ws 2 = wq ∧ wq.setCell ⟨p, 4, none⟩ V = Ws 3 := ⟨fun | 0 => _ | 1 => _ | 2 => _ | _ => _, rfl, rfl, rfl, rfl⟩
  have hcd := hc.drew 1
  have c40 : (Ws 0).cell? ⟨p, 4, none⟩ = some lv := by rw [hW0]; exact cell_of_heap hcd.cells 4
  have c41 : (Ws 1).cell? ⟨p, 4, none⟩ = some lv := by rw [hW1]; exact ((Keeps.refl [] (w1.drewN 1)).alloc _).cell0 (cell_of_heap hcd.cells 4)
  have hq := hchq.keeps.some (w := w1.drewN 1) hcd.cells hc.pl
  have c42 : (Ws 2).cell? ⟨p, 4, none⟩ = some lv := by rw [hW2]; exact cell_of_heap hq 4
  have f42 : (Ws 2).frozen? ⟨p, 4, none⟩ = false := by rw [hW2]; exact free_of_heap hq 4
  have r0 : (Ws 0).rangeAt B 0 [fn, .string (str k), .string (str v)] := by
    rw [hW0]
    intro j hj
    have := cell_of_heap (w := w1.drewN 1) hx j
    rw [Nat.zero_add, this]
    simp
  have hrun1 := hrun
  rw [← hW1, ← hW2] at hrun1
  rw [← hW2] at hW3
  have hbs := fun ev o x h h' => exec_buildOne (P := Tryd.prog) (Ws 0) 67 75 [fn, .string (str k), .string (str v)] Tryd.underlying67 sizeCall (by kernel_rfl) (by simp) (by simp) ev o x h h'
  rw [show (Ws 0).heap.size = w1.heap.size by rw [hW0]; rfl, show (Ws 0).alloc (.cells ([fn, .string (str k), .string (str v)]).toArray 75) = Ws 1 by rw [hW0, hW1]] at hbs
  have Hbs := Lib.hid hbs
  have Hrun := Lib.hid hrun1
  have HW0 := Lib.hid hW0
  have HW2 := Lib.hid hW2
  have Hc := Lib.hid hc
  have Hcd := Lib.hid hcd
  have Hchq := Lib.hid hchq
  have Hrow := Lib.hid hrow
  clear hW0 hW1 hW2 hbs hrun hrun1 hc hcd hchq hrow hq
  have hlv := Hc.out.row.shape
  obtain ⟨lad, lcap, rfl, _⟩ := hlv
  obtain ⟨vad, vcap, rfl, _⟩ := Hrow.out.shape
  refine region_at Ws [6, 7, 10] (by kernel_rfl) (by kernel_rfl) HW0.out.symm ?_
  (refine atP (by rfl) (fun K hK => ?_); go_simp; refine hK _ ?_; clear hK K)
  (refine atP (by rfl) (fun K hK => ?_); go_simp; refine hK _ ?_; clear hK K)
  (refine atP (by rfl) (fun K hK => ?_); go_simp; refine hK _ ?_; clear hK K)
  (refine atP (by rfl) (fun K hK => ?_); go_simp; refine hK _ ?_; clear hK K)
  (refine atR [0, 1] (by kernel_rfl) (fun K hK => ?_); go_simp; refine hK _ ?_; clear hK K)
  refine atV [0] (by kernel_rfl) rfl (.agg #[fn, .string (str k), .string (str v)]) ⟨exec_load _ 75 B 0 [fn, .string (str k), .string (str v)] _ r0 Tryd.underlying75 rfl sizeCall _ _ (.tmp 3) rfl (by rfl), trivial⟩ ?_
  refine atW 0 rfl (by decide) rfl _ (Hbs.out _ _ (.tmp 34) rfl (by rfl)) ?_
  refine atW 1 rfl (by decide) rfl _ (Hrun.out _ _ (.tmp 33) (.tmp 35) rfl rfl (by rfl) (by rfl)) ?_
  (refine atP (by rfl) (fun K hK => ?_); go_simp; refine hK _ ?_; clear hK K)
  (refine atP (by rfl) (fun K hK => ?_); go_simp; refine hK _ ?_; clear hK K)
  refine atS 2 rfl (by decide) rfl (by go_simp) ?_
  refine wpAt_nil ?_
  go_wp2
  go_ret
  have hm := Hcd.out.moreL (l' := b.l ++ [(t, k, v)]) Hchq.out (lv' := .slice vad (b.tick.l.length + 1) vcap) (by
    have := Hrow.out
    rw [List.length_append, List.length_singleton, List.flatMap_append, show [(t, k, v)].flatMap callV = callV (t, k, v) by simp, Hcv.out]
    exact this)
  rw [← HW2.out, hW3] at hm
  exact ⟨rfl, _, hm.1, Chg.old Hnew.out (h2.trans (Chg.old ((Keeps.refl [] w1).drewN 1) hm.2))⟩
end Go.Proofs.YtflgagglkkehiaaDoor
