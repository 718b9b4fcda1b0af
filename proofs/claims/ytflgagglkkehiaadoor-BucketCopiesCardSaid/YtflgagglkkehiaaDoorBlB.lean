/- Layer 5, the document's answer: a law's call. -/
import Derived.Test.YtflgagglkkehiaaDoorBlA
namespace Go.Proofs.YtflgagglkkehiaaDoor
open Go.RowKit Go.Maps

theorem rgot_end {w W2 w1 : World} {p R : Nat} {b' : Bk} {F F' : List Nat} (hF : ∀ x, x ∈ F → x < w.heap.size) (K2 : Keeps [] w W2) (hR0 : R < W2.heap.size) (hRw : w.heap.size ≤ R) (h3 : RfAt w1 p b' F') (h4 : Chg F F' W2 w1) :
    R ∉ F' ∧ ∀ w', Keeps [R] w1 w' → RfAt w' p b' F' ∧ Chg F F' w w' := by
  have hRF : R ∉ F' := fun h => by
    rcases h4.fresh R h with h | h
    · have := hF R h; omega
    · omega
  refine ⟨hRF, fun w' k => ⟨h3.keep k (fun x hx => by rw [List.mem_singleton]; rintro rfl; exact hRF hx), ?_⟩⟩
  have h5 := Chg.old K2 h4
  exact ⟨h5.keeps.trans k (fun x hx => by rw [List.mem_singleton] at hx; subst hx; exact .inr hRw), h5.fresh⟩

set_option maxHeartbeats 4000000 in
set_option maxRecDepth 100000 in
theorem ask_0 (p : Nat) (b : Bk) (F : List Nat) (w : World) (hb : RfAt w p b F) (N : Nat) (hok : b.ok N) (hN : N ≤ 400000) (o : OpR) (ho : o.good w) (hask : o.ask = 0) :
    Calls Tryd.prog 26 #[.pointer (some ⟨p, 0, none⟩), .agg o.vals.toArray] w fun e w' => ∃ v F', e = .returned v ∧ GotAt w w' v ⟨[], 0, [], (b.put' o.name o.data).1⟩ F' ∧ RfAt w' p (b.put' o.name o.data).2 F' ∧ Chg F F' w w' := by
  obtain ⟨ask, name, data, at_, n, lv, L⟩ := o
  dsimp only at hask
  subst hask
  obtain ⟨_, hn, hda, hat, hnn, hsrc, h64⟩ := ho
  unfold OpR.vals
  dsimp only at hn hda hat hnn hsrc h64 ⊢
  have hF := hb.lt
  have hz := str_empty
  have K0 := Lib.hid fun o => (Keeps.refl [] w).alloc o
  have hRF : w.heap.size + 1 ∉ F := fun h => by have := hF _ h; omega
  have Hcall := Lib.hid (show ∀ w', Keeps [] w w' → _ from fun w' k => rbput_any p b F w' (hb.newer k) N hok (by omega) name data hn)
  clear hb hok hn hda hat hnn hsrc h64
  go_enter Tryd.func26, Tryd.ntmps26
  go_wp2_with (go_at_call 42; (with_reducible refine (Hcall.out _ ((K0.out _).alloc _)).mono ?_); rintro e w1 ⟨rfl, F', h3, h4⟩; have hR := h4.keeps.some (heap_at (by simp)) hRF; have c0 := cell_of_heap hR 0; have c1 := cell_of_heap hR 1; have c2 := cell_of_heap hR 2; have c3 := cell_of_heap hR 3; have f0 := free_of_heap hR 0; have f1 := free_of_heap hR 1; have f2 := free_of_heap hR 2; have f3 := free_of_heap hR 3)
  obtain ⟨hRF', hfin⟩ := rgot_end (R := w.heap.size + 1) hF ((K0.out _).alloc _) (by simp) (by omega) h3 h4
  obtain ⟨r1, r2⟩ := hfin _ (keeps_set4 w1 _ _ _ _ _)
  refine bodyPost_ret (results_row rfl rfl (heap_set4 hR _ _ _ _) Tryd.underlying45 rfl (by kernel_rfl)) rfl ⟨_, _, rfl, ?_, r1, r2⟩
  exact ⟨_, rfl, World.ownsRow_nil _ _ _ _, by simp [Value.ownBlock]⟩

set_option maxHeartbeats 4000000 in
set_option maxRecDepth 100000 in
theorem ask_1 (p : Nat) (b : Bk) (F : List Nat) (w : World) (hb : RfAt w p b F) (N : Nat) (hok : b.ok N) (hN : N ≤ 400000) (o : OpR) (ho : o.good w) (hask : o.ask = 1) :
    Calls Tryd.prog 26 #[.pointer (some ⟨p, 0, none⟩), .agg o.vals.toArray] w fun e w' => ∃ v F', e = .returned v ∧ GotAt w w' v ⟨(b.get o.name o.at_ o.n).1, 0, [], (b.get o.name o.at_ o.n).2⟩ F' ∧ RfAt w' p (b.get2 o.name o.at_ o.n) F' ∧ Chg F F' w w' := by
  obtain ⟨ask, name, data, at_, n, lv, L⟩ := o
  dsimp only at hask
  subst hask
  obtain ⟨_, hn, hda, hat, hnn, hsrc, h64⟩ := ho
  unfold OpR.vals
  dsimp only at hn hda hat hnn hsrc h64 ⊢
  have hF := hb.lt
  have hz := str_empty
  have K0 := Lib.hid fun o => (Keeps.refl [] w).alloc o
  have hRF : w.heap.size + 1 ∉ F := fun h => by have := hF _ h; omega
  have Hcall := Lib.hid (show ∀ w', Keeps [] w w' → _ from fun w' k => rget_any p b F w' (hb.newer k) N hok (by omega) name hn at_ n)
  clear hb hok hn hda hat hnn hsrc h64
  go_enter Tryd.func26, Tryd.ntmps26
  go_wp2_with (go_at_call 43; (with_reducible refine (Hcall.out _ ((K0.out _).alloc _)).mono ?_); rintro e w1 ⟨rfl, h3, h4⟩; have hR := h4.keeps.some (heap_at (by simp)) hRF; have c0 := cell_of_heap hR 0; have c1 := cell_of_heap hR 1; have c2 := cell_of_heap hR 2; have c3 := cell_of_heap hR 3; have f0 := free_of_heap hR 0; have f1 := free_of_heap hR 1; have f2 := free_of_heap hR 2; have f3 := free_of_heap hR 3)
  obtain ⟨hRF', hfin⟩ := rgot_end (R := w.heap.size + 1) hF ((K0.out _).alloc _) (by simp) (by omega) h3 h4
  obtain ⟨r1, r2⟩ := hfin _ (keeps_set4 w1 _ _ _ _ _)
  refine bodyPost_ret (results_row rfl rfl (heap_set4 hR _ _ _ _) Tryd.underlying45 rfl (by kernel_rfl)) rfl ⟨_, _, rfl, ?_, r1, r2⟩
  exact ⟨_, rfl, World.ownsRow_nil _ _ _ _, by simp [Value.ownBlock]⟩

set_option maxHeartbeats 4000000 in
set_option maxRecDepth 100000 in
theorem ask_2 (p : Nat) (b : Bk) (F : List Nat) (w : World) (hb : RfAt w p b F) (N : Nat) (hok : b.ok N) (hN : N ≤ 400000) (o : OpR) (ho : o.good w) (hask : o.ask = 2) :
    Calls Tryd.prog 26 #[.pointer (some ⟨p, 0, none⟩), .agg o.vals.toArray] w fun e w' => ∃ v F', e = .returned v ∧ GotAt w w' v ⟨[], (b.size o.name).1, [], (b.size o.name).2⟩ F' ∧ RfAt w' p (b.size2 o.name) F' ∧ Chg F F' w w' := by
  obtain ⟨ask, name, data, at_, n, lv, L⟩ := o
  dsimp only at hask
  subst hask
  obtain ⟨_, hn, hda, hat, hnn, hsrc, h64⟩ := ho
  unfold OpR.vals
  dsimp only at hn hda hat hnn hsrc h64 ⊢
  have hF := hb.lt
  have hz := str_empty
  have K0 := Lib.hid fun o => (Keeps.refl [] w).alloc o
  have hRF : w.heap.size + 1 ∉ F := fun h => by have := hF _ h; omega
  have Hcall := Lib.hid (show ∀ w', Keeps [] w w' → _ from fun w' k => rsize_any p b F w' (hb.newer k) N hok (by omega) name hn)
  clear hb hok hn hda hat hnn hsrc h64
  go_enter Tryd.func26, Tryd.ntmps26
  go_wp2_with (go_at_call 44; (with_reducible refine (Hcall.out _ ((K0.out _).alloc _)).mono ?_); rintro e w1 ⟨rfl, h3, h4⟩; have hR := h4.keeps.some (heap_at (by simp)) hRF; have c0 := cell_of_heap hR 0; have c1 := cell_of_heap hR 1; have c2 := cell_of_heap hR 2; have c3 := cell_of_heap hR 3; have f0 := free_of_heap hR 0; have f1 := free_of_heap hR 1; have f2 := free_of_heap hR 2; have f3 := free_of_heap hR 3)
  obtain ⟨hRF', hfin⟩ := rgot_end (R := w.heap.size + 1) hF ((K0.out _).alloc _) (by simp) (by omega) h3 h4
  obtain ⟨r1, r2⟩ := hfin _ (keeps_set4 w1 _ _ _ _ _)
  refine bodyPost_ret (results_row rfl rfl (heap_set4 hR _ _ _ _) Tryd.underlying45 rfl (by kernel_rfl)) rfl ⟨_, _, rfl, ?_, r1, r2⟩
  exact ⟨_, rfl, World.ownsRow_nil _ _ _ _, by simp [Value.ownBlock]⟩

set_option maxHeartbeats 4000000 in
set_option maxRecDepth 100000 in
theorem ask_3 (p : Nat) (b : Bk) (F : List Nat) (w : World) (hb : RfAt w p b F) (N : Nat) (hok : b.ok N) (hN : N ≤ 400000) (o : OpR) (ho : o.good w) (hask : o.ask = 3) :
    Calls Tryd.prog 26 #[.pointer (some ⟨p, 0, none⟩), .agg o.vals.toArray] w fun e w' => ∃ v F', e = .returned v ∧ GotAt w w' v ⟨[], 0, (b.list o.name).1, (b.list o.name).2⟩ F' ∧ RfAt w' p b.tick F' ∧ Chg F F' w w' := by
  obtain ⟨ask, name, data, at_, n, lv, L⟩ := o
  dsimp only at hask
  subst hask
  obtain ⟨_, hn, hda, hat, hnn, hsrc, h64⟩ := ho
  unfold OpR.vals
  dsimp only at hn hda hat hnn hsrc h64 ⊢
  have hF := hb.lt
  have hz := str_empty
  have K0 := Lib.hid fun o => (Keeps.refl [] w).alloc o
  have hRF : w.heap.size + 1 ∉ F := fun h => by have := hF _ h; omega
  have Hcall := Lib.hid (show ∀ w', Keeps [] w w' → _ from fun w' k => rlist_any p b F w' (hb.newer k) N hok (by omega) name hn)
  clear hb hok hn hda hat hnn hsrc h64
  go_enter Tryd.func26, Tryd.ntmps26
  go_wp2_with (go_at_call 45; (with_reducible refine (Hcall.out _ ((K0.out _).alloc _)).mono ?_); rintro e w1 ⟨v, rfl, hrow, hfr, h3, h4⟩; obtain ⟨lad, lcap, rfl⟩ := ownsRow_shape hrow; have hR := h4.keeps.some (heap_at (by simp)) hRF; have c0 := cell_of_heap hR 0; have c1 := cell_of_heap hR 1; have c2 := cell_of_heap hR 2; have c3 := cell_of_heap hR 3; have f0 := free_of_heap hR 0; have f1 := free_of_heap hR 1; have f2 := free_of_heap hR 2; have f3 := free_of_heap hR 3)
  obtain ⟨hRF', hfin⟩ := rgot_end (R := w.heap.size + 1) hF ((K0.out _).alloc _) (by simp) (by omega) h3 h4
  obtain ⟨r1, r2⟩ := hfin _ (keeps_set4 w1 _ _ _ _ _)
  refine bodyPost_ret (results_row rfl rfl (heap_set4 hR _ _ _ _) Tryd.underlying45 rfl (by kernel_rfl)) rfl ⟨_, _, rfl, ?_, r1, r2⟩
  have hge : ∀ x, x ∈ (Value.slice lad (b.list name).1.length lcap).ownBlock.toList → w.heap.size + 2 ≤ x := fun x hx => by have := hfr x hx; simp at this; omega
  exact ⟨_, rfl, own_keep hrow (keeps_set4 w1 _ _ _ _ _) (fun x hx => by have := hge x hx; rw [List.mem_singleton]; omega), fun x hx => ⟨by have := hge x hx; omega, fun h => by have := hge x hx; have := hF x h; omega⟩⟩

set_option maxHeartbeats 4000000 in
set_option maxRecDepth 100000 in
theorem ask_4 (p : Nat) (b : Bk) (F : List Nat) (w : World) (hb : RfAt w p b F) (N : Nat) (hok : b.ok N) (hN : N ≤ 400000) (o : OpR) (ho : o.good w) (hask : o.ask = 4) :
    Calls Tryd.prog 26 #[.pointer (some ⟨p, 0, none⟩), .agg o.vals.toArray] w fun e w' => ∃ v F', e = .returned v ∧ GotAt w w' v ⟨[], 0, [], (b.del' o.name).1⟩ F' ∧ RfAt w' p (b.del' o.name).2 F' ∧ Chg F F' w w' := by
  obtain ⟨ask, name, data, at_, n, lv, L⟩ := o
  dsimp only at hask
  subst hask
  obtain ⟨_, hn, hda, hat, hnn, hsrc, h64⟩ := ho
  unfold OpR.vals
  dsimp only at hn hda hat hnn hsrc h64 ⊢
  have hF := hb.lt
  have hz := str_empty
  have K0 := Lib.hid fun o => (Keeps.refl [] w).alloc o
  have hRF : w.heap.size + 1 ∉ F := fun h => by have := hF _ h; omega
  have Hcall := Lib.hid (show ∀ w', Keeps [] w w' → _ from fun w' k => rbdel_any p b F w' (hb.newer k) N hok (by omega) name hn)
  clear hb hok hn hda hat hnn hsrc h64
  go_enter Tryd.func26, Tryd.ntmps26
  go_wp2_with (go_at_call 46; (with_reducible refine (Hcall.out _ ((K0.out _).alloc _)).mono ?_); rintro e w1 ⟨rfl, F', h3, h4⟩; have hR := h4.keeps.some (heap_at (by simp)) hRF; have c0 := cell_of_heap hR 0; have c1 := cell_of_heap hR 1; have c2 := cell_of_heap hR 2; have c3 := cell_of_heap hR 3; have f0 := free_of_heap hR 0; have f1 := free_of_heap hR 1; have f2 := free_of_heap hR 2; have f3 := free_of_heap hR 3)
  obtain ⟨hRF', hfin⟩ := rgot_end (R := w.heap.size + 1) hF ((K0.out _).alloc _) (by simp) (by omega) h3 h4
  obtain ⟨r1, r2⟩ := hfin _ (keeps_set4 w1 _ _ _ _ _)
  refine bodyPost_ret (results_row rfl rfl (heap_set4 hR _ _ _ _) Tryd.underlying45 rfl (by kernel_rfl)) rfl ⟨_, _, rfl, ?_, r1, r2⟩
  exact ⟨_, rfl, World.ownsRow_nil _ _ _ _, by simp [Value.ownBlock]⟩

set_option maxHeartbeats 4000000 in
set_option maxRecDepth 100000 in
theorem ask_6 (p : Nat) (b : Bk) (F : List Nat) (w : World) (hb : RfAt w p b F) (N : Nat) (hok : b.ok N) (hN : N ≤ 400000) (o : OpR) (ho : o.good w) (hask : o.ask = 6) :
    Calls Tryd.prog 26 #[.pointer (some ⟨p, 0, none⟩), .agg o.vals.toArray] w fun e w' => ∃ v F', e = .returned v ∧ GotAt w w' v ⟨[], b.cut o.n, [], 0⟩ F' ∧ RfAt w' p (b.land o.n) F' ∧ Chg F F' w w' := by
  obtain ⟨ask, name, data, at_, n, lv, L⟩ := o
  dsimp only at hask
  subst hask
  obtain ⟨_, hn, hda, hat, hnn, hsrc, h64⟩ := ho
  unfold OpR.vals
  dsimp only at hn hda hat hnn hsrc h64 ⊢
  have hF := hb.lt
  have hz := str_empty
  have K0 := Lib.hid fun o => (Keeps.refl [] w).alloc o
  have hRF : w.heap.size + 1 ∉ F := fun h => by have := hF _ h; omega
  have Hcall := Lib.hid (show ∀ w', Keeps [] w w' → _ from fun w' k => rland_act p b F w' (hb.newer k) N hok hN n)
  clear hb hok hn hda hat hnn hsrc h64
  go_enter Tryd.func26, Tryd.ntmps26
  go_wp2_with (go_at_call 47; (with_reducible refine (Hcall.out _ ((K0.out _).alloc _)).mono ?_); rintro e w1 ⟨rfl, F', h3, h4⟩; have hR := h4.keeps.some (heap_at (by simp)) hRF; have c0 := cell_of_heap hR 0; have c1 := cell_of_heap hR 1; have c2 := cell_of_heap hR 2; have c3 := cell_of_heap hR 3; have f0 := free_of_heap hR 0; have f1 := free_of_heap hR 1; have f2 := free_of_heap hR 2; have f3 := free_of_heap hR 3)
  obtain ⟨hRF', hfin⟩ := rgot_end (R := w.heap.size + 1) hF ((K0.out _).alloc _) (by simp) (by omega) h3 h4
  obtain ⟨r1, r2⟩ := hfin _ (keeps_set4 w1 _ _ _ _ _)
  refine bodyPost_ret (results_row rfl rfl (heap_set4 hR _ _ _ _) Tryd.underlying45 rfl (by kernel_rfl)) rfl ⟨_, _, rfl, ?_, r1, r2⟩
  exact ⟨_, rfl, World.ownsRow_nil _ _ _ _, by simp [Value.ownBlock]⟩

set_option maxHeartbeats 4000000 in
set_option maxRecDepth 100000 in
theorem ask_7 (p : Nat) (b : Bk) (F : List Nat) (w : World) (hb : RfAt w p b F) (N : Nat) (hok : b.ok N) (hN : N ≤ 400000) (o : OpR) (ho : o.good w) (hask : o.ask ≠ 0 ∧ o.ask ≠ 1 ∧ o.ask ≠ 2 ∧ o.ask ≠ 3 ∧ o.ask ≠ 4 ∧ o.ask ≠ 5 ∧ o.ask ≠ 6) :
    Calls Tryd.prog 26 #[.pointer (some ⟨p, 0, none⟩), .agg o.vals.toArray] w fun e w' => ∃ v F', e = .returned v ∧ GotAt w w' v ⟨[], b.cut o.n, [], 0⟩ F' ∧ RfAt w' p (b.drop o.n) F' ∧ Chg F F' w w' := by
  obtain ⟨ask, name, data, at_, n, lv, L⟩ := o
  dsimp only at hask
  have a0 : (ask == 0) = false := by rw [beq_eq_false_iff_ne]; omega
  have a1 : (ask == 1) = false := by rw [beq_eq_false_iff_ne]; omega
  have a2 : (ask == 2) = false := by rw [beq_eq_false_iff_ne]; omega
  have a3 : (ask == 3) = false := by rw [beq_eq_false_iff_ne]; omega
  have a4 : (ask == 4) = false := by rw [beq_eq_false_iff_ne]; omega
  have a5 : (ask == 5) = false := by rw [beq_eq_false_iff_ne]; omega
  have a6 : (ask == 6) = false := by rw [beq_eq_false_iff_ne]; omega
  have b6 : (ask != 6) = true := bne_iff_ne.2 (by omega)
  obtain ⟨_, hn, hda, hat, hnn, hsrc, h64⟩ := ho
  unfold OpR.vals
  dsimp only at hn hda hat hnn hsrc h64 ⊢
  have hF := hb.lt
  have hz := str_empty
  have K0 := Lib.hid fun o => (Keeps.refl [] w).alloc o
  have hRF : w.heap.size + 1 ∉ F := fun h => by have := hF _ h; omega
  have Hcall := Lib.hid (show ∀ w', Keeps [] w w' → _ from fun w' k => rland_drop p b F w' (hb.newer k) n (by have := hok.few; omega))
  clear hb hok hn hda hat hnn hsrc h64
  go_enter Tryd.func26, Tryd.ntmps26
  go_wp2_with (go_at_call 47; (with_reducible refine (Hcall.out _ ((K0.out _).alloc _)).mono ?_); rintro e w1 ⟨rfl, h3, h4⟩; have hR := h4.keeps.some (heap_at (by simp)) hRF; have c0 := cell_of_heap hR 0; have c1 := cell_of_heap hR 1; have c2 := cell_of_heap hR 2; have c3 := cell_of_heap hR 3; have f0 := free_of_heap hR 0; have f1 := free_of_heap hR 1; have f2 := free_of_heap hR 2; have f3 := free_of_heap hR 3)
  obtain ⟨hRF', hfin⟩ := rgot_end (R := w.heap.size + 1) hF ((K0.out _).alloc _) (by simp) (by omega) h3 h4
  obtain ⟨r1, r2⟩ := hfin _ (keeps_set4 w1 _ _ _ _ _)
  refine bodyPost_ret (results_row rfl rfl (heap_set4 hR _ _ _ _) Tryd.underlying45 rfl (by kernel_rfl)) rfl ⟨_, _, rfl, ?_, r1, r2⟩
  exact ⟨_, rfl, World.ownsRow_nil _ _ _ _, by simp [Value.ownBlock]⟩

/-- Fates more. -/
theorem RfC.moreF {w wq : World} {p : Nat} {b : Bk} {F Go' Gf Gl : List Nat} {ov fv lv : Value} (h : RfC w p b F ov fv lv Go' Gf Gl) {fv' : Value} {f' : List Int} {Gf' : List Nat} (k : Chg Gf Gf' w wq) (hf : RowAt wq 1 fv' f'.length (f'.map intV) Gf') :
    RfAt (wq.setCell ⟨p, 2, none⟩ fv') p { b with f := f' } (p :: (Go' ++ (Gf' ++ Gl))) ∧ Chg F (p :: (Go' ++ (Gf' ++ Gl))) w (wq.setCell ⟨p, 2, none⟩ fv') := by
  have hlt := h.lt
  have hF := h.foot
  have ap : ∀ x, x ∈ F → x ∉ Gf → x ∉ Gf' := fun x hx hn hm => (k.fresh x hm).elim hn (fun h2 => by have := hlt x hx; omega)
  have hpF : p ∈ F := by rw [hF]; simp
  have hoF : ∀ x, x ∈ Go' → x ∈ F := fun x hx => by rw [hF]; simp [hx]
  have hfF : ∀ x, x ∈ Gf → x ∈ F := fun x hx => by rw [hF]; simp [hx]
  have hlF : ∀ x, x ∈ Gl → x ∈ F := fun x hx => by rw [hF]; simp [hx]
  have og : ∀ x, x ∈ Go' → x ∉ Gf := fun x hx hm => h.of x hm hx
  have lg : ∀ x, x ∈ Gl → x ∉ Gf := fun x hx hm => h.fl x hm hx
  have ks : Keeps [p] wq (wq.setCell ⟨p, 2, none⟩ fv') := (Keeps.refl [p] wq).setCell (p := ⟨p, 2, none⟩) (by simp) fv'
  have ap1 : ∀ {G : List Nat}, p ∉ G → ∀ x, x ∈ G → x ∉ [p] := fun hn x hx => by rw [List.mem_singleton]; rintro rfl; exact hn hx
  have hpf := ap p hpF h.pf
  refine ⟨⟨ov, fv', lv, Go', Gf', Gl, ⟨heap_setCell (k.keeps.some h.cells h.pf) 2 fv', (h.obj.keep k.keeps og).keep ks (ap1 h.po), hf.keep ks (ap1 hpf), (h.row.keep k.keeps lg).keep ks (ap1 h.pl), rfl, h.po, hpf, h.pl, fun x hx hm => ap x (hoF x hm) (og x hm) hx, h.ol, fun x hx hm => ap x (hlF x hm) (lg x hm) hx⟩⟩, ?_⟩
  refine ⟨(k.keeps.mono hfF).trans ks (fun x hx => .inl (by rw [List.mem_singleton] at hx; rw [hx]; exact hpF)), fun x hx => ?_⟩
  simp only [List.mem_cons, List.mem_append] at hx
  rcases hx with rfl | hx | hx | hx
  · exact .inl hpF
  · exact .inl (hoF x hx)
  · exact (k.fresh x hx).imp (hfF x) id
  · exact .inl (hlF x hx)
theorem SlSrc.at {w : World} {x : Value} {L : List Int} (h : SlSrc w x (L.map intV)) : SrcAt w 1 x L.length (L.map intV) := by
  rcases h with ⟨h1, h2⟩ | ⟨a, c, h1, h2⟩
  · have : L = [] := by simpa using h2
    subst this
    exact .inl ⟨h1, rfl, rfl⟩
  · exact .inr ⟨a, c, by rw [h1, List.length_map], by simp, h2⟩
set_option maxHeartbeats 4000000 in
set_option maxRecDepth 100000 in
theorem ask_5 (p : Nat) (b : Bk) (F : List Nat) (w : World) (hb : RfAt w p b F) (N : Nat) (hok : b.ok N) (hN : N ≤ 400000) (o : OpR) (ho : o.good w) (hask : o.ask = 5) (hL : o.L.length ≤ 20) :
    Calls Tryd.prog 26 #[.pointer (some ⟨p, 0, none⟩), .agg o.vals.toArray] w fun e w' => ∃ v F', e = .returned v ∧ GotAt w w' v ⟨[], 0, [], 0⟩ F' ∧ RfAt w' p (b.fates o.L) F' ∧ Chg F F' w w' := by
  obtain ⟨ask, name, data, at_, n, lv, L⟩ := o
  dsimp only at hask
  subst hask
  obtain ⟨_, hn, hda, hat, hnn, hsrc, h64⟩ := ho
  unfold OpR.vals
  dsimp only at hn hda hat hnn hsrc h64 hL ⊢
  have hF := hb.lt
  have hz := str_empty
  have hfl := hok.fl
  obtain ⟨w2, hw2⟩ : ∃ w2, (w.alloc (.cells #[.int .i64 5, .string (str name), .string (str data), .int .i64 at_, .int .i64 n, lv] 42)).alloc (.cells #[.string (str []), .int .i64 0, .slice none 0 0, .int .i64 0] 45) = w2 := ⟨_, rfl⟩
  have k2 : Keeps [] w w2 := by rw [← hw2]; exact ((Keeps.refl [] w).alloc _).alloc _
  have hbox : w2.heap[w.heap.size]? = some (.cells #[.int .i64 5, .string (str name), .string (str data), .int .i64 at_, .int .i64 n, lv] 42) := by rw [← hw2]; exact heap_was (heap_at rfl)
  have hres : w2.heap[w.heap.size + 1]? = some (.cells #[.string (str []), .int .i64 0, .slice none 0 0, .int .i64 0] 45) := by rw [← hw2]; exact heap_at (by simp)
  obtain ⟨ov, fv, lt, Go', Gf, Gl, hc⟩ := hb.newer k2
  have hcd := hc.newer ((Keeps.refl [] w2).drewN 1)
  obtain ⟨V, G', wq, hrun, hrow, hchq⟩ := exec_appM (P := Tryd.prog) tyInts 40 (w2.drewN 1) (w2.drewN 1) lv L.length _ (Keeps.refl [] _) (hsrc.at.newer (k2.trans ((Keeps.refl [] w2).drewN 1) (by simp))) hcd.fat (one_cell_ints L) (by omega) (by unfold maxLen; omega)
  have hsl : ∃ a n c, lv = .slice a n c := by
    rcases hsrc with ⟨h1, _⟩ | ⟨a, c, h1, _⟩
    · exact ⟨_, _, _, h1⟩
    · exact ⟨_, _, _, h1⟩
  obtain ⟨la, ln, lc, rfl⟩ := hsl
  have hm := hcd.moreF (f' := b.f ++ L) hchq (fv' := V) (by rw [List.length_append, List.map_append]; exact hrow)
  obtain ⟨va, vc, rfl, _⟩ := hrow.shape
  obtain ⟨fa, fc, rfl, _⟩ := hc.fat.shape
  have hBF : w.heap.size ∉ F := fun h => by have := hF _ h; omega
  have hRF : w.heap.size + 1 ∉ F := fun h => by have := hF _ h; omega
  have hFe := hc.foot
  have hws : w2.heap.size = w.heap.size + 2 := by rw [← hw2]; simp
  obtain ⟨wz, hwz⟩ : ∃ wz, wq.setCell ⟨p, 2, none⟩ (.slice va (b.f.length + L.length) vc) = wz := ⟨_, rfl⟩
  rw [hwz] at hm
  have hR : wz.heap[w.heap.size + 1]? = some (.cells #[.string (str []), .int .i64 0, .slice none 0 0, .int .i64 0] 45) := hm.2.keeps.some (w := w2.drewN 1) hres hRF
  have hq := hchq.keeps.some (w := w2.drewN 1) hcd.cells hc.pf
  obtain ⟨Ws, hW0, hW1, hW2⟩ : ∃ Ws : Nat → World, Ws 0 = w2.drewN 1 ∧ Ws 1 = wq ∧ wz = Ws 2 := ⟨fun | 0 => _ | 1 => _ | _ => _, rfl, rfl, rfl⟩
  have c20 : (Ws 0).cell? ⟨p, 2, none⟩ = some (.slice fa b.f.length fc) := by rw [hW0]; exact cell_of_heap hcd.cells 2
  have c50 : (Ws 0).cell? ⟨w.heap.size, 5, none⟩ = some (.slice la ln lc) := by rw [hW0]; exact cell_of_heap (w := w2.drewN 1) hbox 5
  have c21 : (Ws 1).cell? ⟨p, 2, none⟩ = some (.slice fa b.f.length fc) := by rw [hW1]; exact cell_of_heap hq 2
  have f21 : (Ws 1).frozen? ⟨p, 2, none⟩ = false := by rw [hW1]; exact free_of_heap hq 2
  have e0 := cell_of_heap hbox 0
  have hrun1 := hrun
  rw [← hW0, ← hW1] at hrun1
  have hwz2 : (Ws 1).setCell ⟨p, 2, none⟩ (.slice va (b.f.length + L.length) vc) = Ws 2 := by rw [hW1, ← hW2]; exact hwz
  rw [hW2] at hm hR
  have c0 := cell_of_heap hR 0
  have c1 := cell_of_heap hR 1
  have c2 := cell_of_heap hR 2
  have c3 := cell_of_heap hR 3
  have f0 := free_of_heap hR 0
  have f1 := free_of_heap hR 1
  have f2 := free_of_heap hR 2
  have f3 := free_of_heap hR 3
  have Hrun := Lib.hid hrun1
  have HW0 := Lib.hid hW0
  have Hm := Lib.hid hm
  have HR := Lib.hid hR
  have K2 := Lib.hid k2
  clear hrun hrun1 hW0 hW1 hW2 hm hR hq hwz hchq hrow hcd hc hbox hres hb hok hn hda hat hnn hsrc h64 k2 hfl
  go_enter Tryd.func26, Tryd.ntmps26
  go_wp2
  refine region_at Ws [7, 10] (by kernel_rfl) (by kernel_rfl) HW0.out.symm ?_
  (refine atP (by rfl) (fun K hK => ?_); go_simp; refine hK _ ?_; clear hK K)
  (refine atP (by rfl) (fun K hK => ?_); go_simp; refine hK _ ?_; clear hK K)
  (refine atP (by rfl) (fun K hK => ?_); go_simp; refine hK _ ?_; clear hK K)
  (refine atP (by rfl) (fun K hK => ?_); go_simp; refine hK _ ?_; clear hK K)
  (refine atR [0] (by kernel_rfl) (fun K hK => ?_); go_simp; refine hK _ ?_; clear hK K)
  (refine atP (by rfl) (fun K hK => ?_); go_simp; refine hK _ ?_; clear hK K)
  (refine atR [0] (by kernel_rfl) (fun K hK => ?_); go_simp; refine hK _ ?_; clear hK K)
  refine atW 0 rfl (by decide) rfl _ (Hrun.out _ _ (.tmp 75) (.tmp 77) rfl rfl (by rfl) (by rfl)) ?_
  (refine atP (by rfl) (fun K hK => ?_); go_simp; refine hK _ ?_; clear hK K)
  (refine atP (by rfl) (fun K hK => ?_); go_simp; refine hK _ ?_; clear hK K)
  refine atS 1 rfl (by decide) rfl (by go_simp) ?_
  refine wpAt_nil ?_
  go_wp2
  have k4 := keeps_set4 (Ws 2) (w.heap.size + 1) (.string (str [])) (.int .i64 0) (.slice none 0 0) (.int .i64 0)
  have hRm : w.heap.size + 1 ∉ (p :: (Go' ++ (G' ++ Gl))) := fun h => by
    rcases Hm.out.2.fresh _ h with h | h
    · exact hRF h
    · have : (w2.drewN 1).heap.size = w2.heap.size := rfl
      omega
  refine bodyPost_ret (results_row rfl rfl (heap_set4 HR.out _ _ _ _) Tryd.underlying45 rfl (by kernel_rfl)) rfl ⟨_, _, rfl, ⟨_, rfl, World.ownsRow_nil _ _ _ _, by simp [Value.ownBlock]⟩, Hm.out.1.keep k4 (fun x hx => by rw [List.mem_singleton]; rintro rfl; exact hRm hx), ?_⟩
  have h5 := Chg.old K2.out (Chg.old ((Keeps.refl [] w2).drewN 1) Hm.out.2)
  exact ⟨h5.keeps.trans k4 (fun x hx => by rw [List.mem_singleton] at hx; subst hx; exact .inr (by omega)), h5.fresh⟩

theorem ask_any (p : Nat) (b : Bk) (F : List Nat) (w : World) (hb : RfAt w p b F) (N : Nat) (hok : b.ok N) (hN : N ≤ 400000) (o : OpR) (ho : o.good w) (hL : o.L.length ≤ 20) :
    Calls Tryd.prog 26 #[.pointer (some ⟨p, 0, none⟩), .agg o.vals.toArray] w fun e w' => ∃ v F', e = .returned v ∧ GotAt w w' v (b.doO o).1 F' ∧ RfAt w' p (b.doO o).2 F' ∧ Chg F F' w w' := by
  unfold Bk.doO
  by_cases h0 : o.ask = 0
  · rw [if_pos h0]; exact ask_0 p b F w hb N hok hN o ho h0
  rw [if_neg h0]
  by_cases h1 : o.ask = 1
  · rw [if_pos h1]; exact ask_1 p b F w hb N hok hN o ho h1
  rw [if_neg h1]
  by_cases h2 : o.ask = 2
  · rw [if_pos h2]; exact ask_2 p b F w hb N hok hN o ho h2
  rw [if_neg h2]
  by_cases h3 : o.ask = 3
  · rw [if_pos h3]; exact ask_3 p b F w hb N hok hN o ho h3
  rw [if_neg h3]
  by_cases h4 : o.ask = 4
  · rw [if_pos h4]; exact ask_4 p b F w hb N hok hN o ho h4
  rw [if_neg h4]
  by_cases h5 : o.ask = 5
  · rw [if_pos h5]; exact ask_5 p b F w hb N hok hN o ho h5 hL
  rw [if_neg h5]
  by_cases h6 : o.ask = 6
  · rw [if_pos h6]; exact ask_6 p b F w hb N hok hN o ho h6
  rw [if_neg h6]
  exact ask_7 p b F w hb N hok hN o ho ⟨h0, h1, h2, h3, h4, h5, h6⟩
end Go.Proofs.YtflgagglkkehiaaDoor
