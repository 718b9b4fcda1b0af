/- Layer 5, the document's answer: a late call; Put, Delete. -/
import Derived.Test.YtflgagglkkehiaaDoorBkV
namespace Go.Proofs.YtflgagglkkehiaaDoor
open Go.RowKit Go.Maps

/-- A late call more. -/
theorem RfC.moreL {w wq : World} {p : Nat} {b : Bk} {F Go' Gf Gl : List Nat} {ov fv lv : Value} (h : RfC w p b F ov fv lv Go' Gf Gl) {lv' : Value} {l' : List Cl} {Gl' : List Nat} (k : Chg Gl Gl' w wq) (hf : RowAt wq 3 lv' l'.length (l'.flatMap rcV) Gl') :
    RfAt (wq.setCell ⟨p, 3, none⟩ lv') p { b with l := l' } (p :: (Go' ++ (Gf ++ Gl'))) ∧ Chg F (p :: (Go' ++ (Gf ++ Gl'))) w (wq.setCell ⟨p, 3, none⟩ lv') := by
  have hlt := h.lt
  have hF := h.foot
  have ap : ∀ x, x ∈ F → x ∉ Gl → x ∉ Gl' := fun x hx hn hm => (k.fresh x hm).elim hn (fun h2 => by have := hlt x hx; omega)
  have hpF : p ∈ F := by rw [hF]; simp
  have hoF : ∀ x, x ∈ Go' → x ∈ F := fun x hx => by rw [hF]; simp [hx]
  have hfF : ∀ x, x ∈ Gf → x ∈ F := fun x hx => by rw [hF]; simp [hx]
  have hlF : ∀ x, x ∈ Gl → x ∈ F := fun x hx => by rw [hF]; simp [hx]
  have og : ∀ x, x ∈ Go' → x ∉ Gl := fun x hx hm => h.ol x hm hx
  have ks : Keeps [p] wq (wq.setCell ⟨p, 3, none⟩ lv') := (Keeps.refl [p] wq).setCell (p := ⟨p, 3, none⟩) (by simp) lv'
  have ap1 : ∀ {G : List Nat}, p ∉ G → ∀ x, x ∈ G → x ∉ [p] := fun hn x hx => by rw [List.mem_singleton]; rintro rfl; exact hn hx
  have hpl := ap p hpF h.pl
  refine ⟨⟨ov, fv, lv', Go', Gf, Gl', ⟨heap_setCell (k.keeps.some h.cells h.pl) 3 lv', (h.obj.keep k.keeps og).keep ks (ap1 h.po), (h.fat.keep k.keeps h.fl).keep ks (ap1 h.pf), hf.keep ks (ap1 hpl), rfl, h.po, h.pf, hpl, h.of, fun x hx hm => ap x (hoF x hm) (og x hm) hx, fun x hx => ap x (hfF x hx) (h.fl x hx)⟩⟩, ?_⟩
  refine ⟨(k.keeps.mono hlF).trans ks (fun x hx => .inl (by rw [List.mem_singleton] at hx; rw [hx]; exact hpF)), fun x hx => ?_⟩
  simp only [List.mem_cons, List.mem_append] at hx
  rcases hx with rfl | hx | hx | hx
  · exact .inl hpF
  · exact .inl (hoF x hx)
  · exact .inl (hfF x hx)
  · exact (k.fresh x hx).imp (hlF x) id

section
set_option maxHeartbeats 4000000
set_option maxRecDepth 100000

theorem rcall_3 (p : Nat) (b : Bk) (F : List Nat) (w : World) (hb : RfAt w p b F) (N : Nat) (hok : b.ok N) (hN : N ≤ 1000000) (c : Cl) (hf : b.fate = 3) :
    Calls Tryd.prog 59 #[.pointer (some ⟨p, 0, none⟩), rcA c] w fun e w' => e = .returned (.int .i64 34) ∧ ∃ F', RfAt w' p { b.tick with l := b.l ++ [c] } F' ∧ Chg F F' w w' := by
  obtain ⟨B, hB⟩ : ∃ B, w.heap.size = B := ⟨_, rfl⟩
  have hbF := hb.lt
  have hnew : Keeps [] w (w.alloc (.cells #[.bool c.1, .string (str c.2.1), .string (str c.2.2)] 94)) := (Keeps.refl [] w).alloc _
  have hn := rnext_any p b F (w.alloc (.cells #[.bool c.1, .string (str c.2.1), .string (str c.2.2)] 94)) (hb.newer hnew) hok.f64
  rw [hf] at hn
  have hcells := heap_alloc_self w (.cells #[.bool c.1, .string (str c.2.1), .string (str c.2.2)] 94)
  have hll : b.tick.l.length ≤ 1000000 := by have := hok.few; show b.l.length ≤ _; omega
  have Hn := Lib.hid hn
  have HbF := Lib.hid hbF
  have Hcells := Lib.hid hcells
  have Hnew := Lib.hid hnew
  have Hll := Lib.hid hll
  have hBF : B ∉ F := fun h => by have := HbF.out B h; omega
  rw [hB] at Hcells
  clear hn hbF hcells hnew hok hb hll
  obtain ⟨t, k, v⟩ := c
  unfold rcA at *
  dsimp only at *
  go_enter Tryd.func59, Tryd.ntmps59
  go_wp2_with (go_at_call 60; (with_reducible refine (Hn.out).mono ?_); rintro e w1 ⟨rfl, h1, h2⟩; have hx := h2.keeps.some Hcells.out hBF)
  obtain ⟨ov, fv, lv, Go', Gf, Gl, hc⟩ := h1
  obtain ⟨V, G', wq, hrun, hrow, hchq⟩ := exec_appR (P := Tryd.prog) tyRc 56 (w1.drewN 1) ((w1.drewN 1).alloc (.cells (#[.bool t, .string (str k), .string (str v)]) 94)) w1.heap.size _ ((Keeps.refl [] _).alloc _) (heap_alloc_self (w1.drewN 1) _) (hc.newer ((Keeps.refl [] w1).drewN 1)).row rfl (by simp [Value.oneCell']) (by have := Hll.out; omega) (by have := Hll.out; unfold maxLen; omega)
  obtain ⟨Ws, hW0, hW1, hW2, hW3⟩ : ∃ Ws : Nat → World, Ws 0 = w1.drewN 1 ∧ Ws 1 = (w1.drewN 1).alloc (.cells (#[.bool t, .string (str k), .string (str v)]) 94) ∧ Ws 2 = wq ∧ wq.setCell ⟨p, 3, none⟩ V = Ws 3 := ⟨fun | 0 => _ | 1 => _ | 2 => _ | _ => _, rfl, rfl, rfl, rfl⟩
  have hcd := hc.newer ((Keeps.refl [] w1).drewN 1)
  have c40 : (Ws 0).cell? ⟨p, 3, none⟩ = some lv := by rw [hW0]; exact cell_of_heap hcd.cells 3
  have c41 : (Ws 1).cell? ⟨p, 3, none⟩ = some lv := by rw [hW1]; exact ((Keeps.refl [] (w1.drewN 1)).alloc _).cell0 (cell_of_heap hcd.cells 3)
  have hq := hchq.keeps.some (w := w1.drewN 1) hcd.cells hc.pl
  have c42 : (Ws 2).cell? ⟨p, 3, none⟩ = some lv := by rw [hW2]; exact cell_of_heap hq 3
  have f42 : (Ws 2).frozen? ⟨p, 3, none⟩ = false := by rw [hW2]; exact free_of_heap hq 3
  have r0 : (Ws 0).rangeAt B 0 [.bool t, .string (str k), .string (str v)] := by
    rw [hW0]
    intro j hj
    have := cell_of_heap (w := w1.drewN 1) hx j
    rw [Nat.zero_add, this]
    simp
  have hrun1 := hrun
  rw [← hW1, ← hW2] at hrun1
  rw [← hW2] at hW3
  have hbs := fun ev o x h h' => exec_buildOne (P := Tryd.prog) (Ws 0) 56 94 [.bool t, .string (str k), .string (str v)] Tryd.underlying56 sizeRc (by kernel_rfl) (by simp) (by simp) ev o x h h'
  rw [show (Ws 0).heap.size = w1.heap.size by rw [hW0]; rfl, show (Ws 0).alloc (.cells ([.bool t, .string (str k), .string (str v)]).toArray 94) = Ws 1 by rw [hW0, hW1]] at hbs
  have Hbs := Lib.hid hbs
  have Hrun := Lib.hid hrun1
  have HW0 := Lib.hid hW0
  have HW2 := Lib.hid hW2
  have Hc := Lib.hid hc
  have Hcd := Lib.hid hcd
  have Hchq := Lib.hid hchq
  have Hrow := Lib.hid hrow
  clear hW0 hW1 hW2 hbs hrun hrun1 hc hcd hchq hrow hq
  have hlv := Hc.out.row.shape
  obtain ⟨lad, lcap, rfl, _⟩ := hlv
  obtain ⟨vad, vcap, rfl, _⟩ := Hrow.out.shape
  refine region_at Ws [6, 7, 10] (by kernel_rfl) (by kernel_rfl) HW0.out.symm ?_
  (refine atP (by rfl) (fun K hK => ?_); go_simp; refine hK _ ?_; clear hK K)
  (refine atP (by rfl) (fun K hK => ?_); go_simp; refine hK _ ?_; clear hK K)
  (refine atP (by rfl) (fun K hK => ?_); go_simp; refine hK _ ?_; clear hK K)
  (refine atP (by rfl) (fun K hK => ?_); go_simp; refine hK _ ?_; clear hK K)
  (refine atR [0, 1] (by kernel_rfl) (fun K hK => ?_); go_simp; refine hK _ ?_; clear hK K)
  refine atV [0] (by kernel_rfl) rfl (.agg #[.bool t, .string (str k), .string (str v)]) ⟨exec_load _ 94 B 0 [.bool t, .string (str k), .string (str v)] _ r0 Tryd.underlying94 rfl sizeRc _ _ (.tmp 3) rfl (by rfl), trivial⟩ ?_
  refine atW 0 rfl (by decide) rfl _ (Hbs.out _ _ (.tmp 24) rfl (by rfl)) ?_
  refine atW 1 rfl (by decide) rfl _ (Hrun.out _ _ (.tmp 23) (.tmp 25) rfl rfl (by rfl) (by rfl)) ?_
  (refine atP (by rfl) (fun K hK => ?_); go_simp; refine hK _ ?_; clear hK K)
  (refine atP (by rfl) (fun K hK => ?_); go_simp; refine hK _ ?_; clear hK K)
  refine atS 2 rfl (by decide) rfl (by go_simp) ?_
  refine wpAt_nil ?_
  go_wp2
  go_ret
  have hm := Hcd.out.moreL (l' := b.l ++ [(t, k, v)]) Hchq.out (lv' := .slice vad (b.tick.l.length + 1) vcap) (by
    have := Hrow.out
    rw [List.length_append, List.length_singleton, List.flatMap_append]
    exact this)
  rw [← HW2.out, hW3] at hm
  exact ⟨rfl, _, hm.1, Chg.old Hnew.out (h2.trans (Chg.old ((Keeps.refl [] w1).drewN 1) hm.2))⟩

theorem rcall_any (p : Nat) (b : Bk) (F : List Nat) (w : World) (hb : RfAt w p b F) (N : Nat) (hok : b.ok N) (hN : N ≤ 1000000) (c : Cl) (hk : c.2.1.length ≤ 64) (hv : c.2.2.length ≤ 65536) :
    Calls Tryd.prog 59 #[.pointer (some ⟨p, 0, none⟩), rcA c] w fun e w' => e = .returned (.int .i64 (b.does c).1) ∧ ∃ F', RfAt w' p (b.does c).2 F' ∧ Chg F F' w w' := by
  have hr : 0 ≤ b.fate ∧ b.fate < 4 := by
    unfold Bk.fate
    cases b.f with
    | nil => simp
    | cons x r => show 0 ≤ x % 4 ∧ x % 4 < 4; omega
  rcases (show b.fate = 0 ∨ b.fate = 1 ∨ b.fate = 2 ∨ b.fate = 3 by omega) with h | h | h | h
  · have hd : b.does c = b.tick.act c := by unfold Bk.does; rw [if_pos h]
    rw [hd]
    exact rcall_act p b F w hb N hok hN c hk hv 0 h (.inl rfl)
  · have hd : b.does c = (34, b.tick) := by unfold Bk.does; rw [if_neg (by omega), if_neg (by omega), if_neg (by omega)]
    rw [hd]
    exact rcall_1 p b F w hb N hok c h
  · have hd : b.does c = (34, (b.tick.act c).2) := by unfold Bk.does; rw [if_neg (by omega), if_pos h]
    rw [hd]
    exact rcall_act p b F w hb N hok hN c hk hv 2 h (.inr rfl)
  · have hd : b.does c = (34, { b.tick with l := b.l ++ [c] }) := by unfold Bk.does; rw [if_neg (by omega), if_neg (by omega), if_pos h]
    rw [hd]
    exact rcall_3 p b F w hb N hok hN c h

theorem rbput_any (p : Nat) (b : Bk) (F : List Nat) (w : World) (hb : RfAt w p b F) (N : Nat) (hok : b.ok N) (hN : N ≤ 1000000) (k v : Bs) (hk : k.length ≤ maxLen) :
    Calls Tryd.prog 42 #[.pointer (some ⟨p, 0, none⟩), .string (str k), .string (str v)] w fun e w' => e = .returned (.int .i64 (b.put' k v).1) ∧ ∃ F', RfAt w' p (b.put' k v).2 F' ∧ Chg F F' w w' := by
  have Nm := Lib.hid (rname_any k w hk)
  by_cases hn : nameB k = true
  · rw [hn] at Nm
    by_cases hv : v.length ≤ 65536
    · have hp : b.put' k v = b.does (true, k, v) := by unfold Bk.put'; rw [if_pos (by rw [hn, decide_eq_true hv]; rfl)]
      rw [hp]
      have hd : decide ((65536 : Int) < (v.length : Int)) = false := decide_eq_false (by omega)
      have Hd := Lib.hid (rcall_any p b F w hb N hok hN (true, k, v) (nameB_len hn) hv)
      unfold rcA at Hd
      dsimp only at Hd
      clear hp hn hv hok hb
      go_enter Tryd.func42, Tryd.ntmps42
      go_wp2_with (first
        | (go_at_call 58; (with_reducible refine (Nm.out).mono ?_); rintro e w1 ⟨rfl, hw1⟩; rw [hw1]; clear hw1)
        | (go_at_call 59; (with_reducible refine (Hd.out).mono ?_); rintro e w2 ⟨rfl, F', h3, h4⟩))
      go_ret
      exact ⟨rfl, F', h3, h4⟩
    · have hp : b.put' k v = (1, b) := by unfold Bk.put'; rw [if_neg (by rw [hn, decide_eq_false hv]; simp)]
      rw [hp]
      have hd : decide ((65536 : Int) < (v.length : Int)) = true := decide_eq_true (by omega)
      clear hp hn hv hok
      go_enter Tryd.func42, Tryd.ntmps42
      go_wp2_with (go_at_call 58; (with_reducible refine (Nm.out).mono ?_); rintro e w1 ⟨rfl, hw1⟩; rw [hw1]; clear hw1)
      go_ret
      exact ⟨rfl, F, hb, Chg.refl _ _⟩
  · have hp : b.put' k v = (1, b) := by unfold Bk.put'; rw [if_neg (by rw [Bool.eq_false_iff.2 hn]; simp)]
    rw [hp]
    rw [Bool.eq_false_iff.2 hn] at Nm
    clear hp hn hok
    go_enter Tryd.func42, Tryd.ntmps42
    go_wp2_with (go_at_call 58; (with_reducible refine (Nm.out).mono ?_); rintro e w1 ⟨rfl, hw1⟩; rw [hw1]; clear hw1)
    go_ret
    exact ⟨rfl, F, hb, Chg.refl _ _⟩

theorem rbdel_any (p : Nat) (b : Bk) (F : List Nat) (w : World) (hb : RfAt w p b F) (N : Nat) (hok : b.ok N) (hN : N ≤ 1000000) (k : Bs) (hk : k.length ≤ maxLen) :
    Calls Tryd.prog 46 #[.pointer (some ⟨p, 0, none⟩), .string (str k)] w fun e w' => e = .returned (.int .i64 (b.del' k).1) ∧ ∃ F', RfAt w' p (b.del' k).2 F' ∧ Chg F F' w w' := by
  have hz := str_empty
  have Nm := Lib.hid (rname_any k w hk)
  by_cases hn : nameB k = true
  · rw [hn] at Nm
    have hp : b.del' k = b.does (false, k, []) := by unfold Bk.del'; rw [if_pos hn]
    rw [hp]
    have Hd := Lib.hid (rcall_any p b F w hb N hok hN (false, k, []) (nameB_len hn) (by simp))
    unfold rcA at Hd
    dsimp only at Hd
    clear hp hn hok hb
    go_enter Tryd.func46, Tryd.ntmps46
    go_wp2_with (first
      | (go_at_call 58; (with_reducible refine (Nm.out).mono ?_); rintro e w1 ⟨rfl, hw1⟩; rw [hw1]; clear hw1)
      | (go_at_call 59; (with_reducible refine (Hd.out).mono ?_); rintro e w2 ⟨rfl, F', h3, h4⟩))
    go_ret
    exact ⟨rfl, F', h3, h4⟩
  · have hp : b.del' k = (1, b) := by unfold Bk.del'; rw [if_neg hn]
    rw [hp]
    rw [Bool.eq_false_iff.2 hn] at Nm
    clear hp hn hok
    go_enter Tryd.func46, Tryd.ntmps46
    go_wp2_with (go_at_call 58; (with_reducible refine (Nm.out).mono ?_); rintro e w1 ⟨rfl, hw1⟩; rw [hw1]; clear hw1)
    go_ret
    exact ⟨rfl, F, hb, Chg.refl _ _⟩
end
end Go.Proofs.YtflgagglkkehiaaDoor
