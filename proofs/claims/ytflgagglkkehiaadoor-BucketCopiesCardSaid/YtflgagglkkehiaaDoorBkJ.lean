/- Layer 5: a law's call, done. -/
import Derived.Test.YtflgagglkkehiaaDoorBkI
import Derived.Test.YtflgagglkkehiaaDoorRow
namespace Go.Proofs.YtflgagglkkehiaaDoor
open Go.RowKit Go.Maps

structure OpR where
  ask : Int
  name : Bs
  data : Bs
  at_ : Int
  n : Int
  lv : Value
  L : List Int
def OpR.vals (o : OpR) : List Value := [.int .i64 o.ask, .string (str o.name), .string (str o.data), .int .i64 o.at_, .int .i64 o.n, o.lv]
structure OpR.good (W : World) (o : OpR) : Prop where
  ask : i64R o.ask
  name : o.name.length ≤ maxLen
  data : o.data.length ≤ maxLen
  at_ : i64R o.at_
  n : i64R o.n
  src : SlSrc W o.lv (o.L.map intV)
  L : ∀ x, x ∈ o.L → i64R x
theorem OpR.good.newer {W W' : World} {o : OpR} (h : o.good W) (k : Keeps [] W W') : o.good W' := ⟨h.ask, h.name, h.data, h.at_, h.n, h.src.newer k, h.L⟩

structure Got where
  s : Bs
  n : Int
  l : List Bs
  e : Int
def Bk.doO (b : Bk) (o : OpR) : Got × Bk :=
  if o.ask = 0 then (⟨[], 0, [], (b.put' o.name o.data).1⟩, (b.put' o.name o.data).2)
  else if o.ask = 1 then (⟨(b.get o.name o.at_ o.n).1, 0, [], (b.get o.name o.at_ o.n).2⟩, b.get2 o.name o.at_ o.n)
  else if o.ask = 2 then (⟨[], (b.size o.name).1, [], (b.size o.name).2⟩, b.size2 o.name)
  else if o.ask = 3 then (⟨[], 0, (b.list o.name).1, (b.list o.name).2⟩, b.tick)
  else if o.ask = 4 then (⟨[], 0, [], (b.del' o.name).1⟩, (b.del' o.name).2)
  else if o.ask = 5 then (⟨[], 0, [], 0⟩, b.fates o.L)
  else if o.ask = 6 then (⟨[], b.cut o.n, [], 0⟩, b.land o.n)
  else (⟨[], b.cut o.n, [], 0⟩, b.drop o.n)

/-- The values of an answer; its list lies in memory of the call's own. -/
def GotAt (w0 w : World) (v : Value) (g : Got) (F : List Nat) : Prop :=
  ∃ lv, v = .agg #[.string (str g.s), .int .i64 g.n, lv, .int .i64 g.e] ∧ w.ownsRow 0 9 1 lv g.l.length (g.l.map strV) ∧ (∀ x, x ∈ lv.ownBlock.toList → w0.heap.size ≤ x ∧ x ∉ F)

theorem heap_set4 {w : World} {b : Nat} {a0 a1 a2 a3 : Value} {t : TypeId} (h : w.heap[b]? = some (.cells #[a0, a1, a2, a3] t (0, 0))) (v0 v1 v2 v3 : Value) :
    ((((w.setCell ⟨b, 0, none⟩ v0).setCell ⟨b, 1, none⟩ v1).setCell ⟨b, 2, none⟩ v2).setCell ⟨b, 3, none⟩ v3).heap[b]? = some (.cells #[v0, v1, v2, v3] t (0, 0)) :=
  heap_setCell (heap_setCell (heap_setCell (heap_setCell h 0 v0) 1 v1) 2 v2) 3 v3
theorem keeps_set4 (w : World) (b : Nat) (v0 v1 v2 v3 : Value) :
    Keeps [b] w ((((w.setCell ⟨b, 0, none⟩ v0).setCell ⟨b, 1, none⟩ v1).setCell ⟨b, 2, none⟩ v2).setCell ⟨b, 3, none⟩ v3) :=
  (((((Keeps.refl [b] w).setCell (p := ⟨b, 0, none⟩) (by simp) v0).setCell (p := ⟨b, 1, none⟩) (by simp) v1).setCell (p := ⟨b, 2, none⟩) (by simp) v2).setCell (p := ⟨b, 3, none⟩) (by simp) v3)

theorem got_end {w W2 w1 : World} {p R : Nat} {b' : Bk} {F F' : List Nat} (hF : ∀ x, x ∈ F → x < w.heap.size) (K2 : Keeps [] w W2) (hR0 : R < W2.heap.size) (hRw : w.heap.size ≤ R) (h3 : BkAt w1 p b' F') (h4 : Chg F F' W2 w1) :
    R ∉ F' ∧ ∀ w', Keeps [R] w1 w' → BkAt w' p b' F' ∧ Chg F F' w w' := by
  have hRF : R ∉ F' := fun h => by
    rcases h4.fresh R h with h | h
    · have := hF R h; omega
    · omega
  refine ⟨hRF, fun w' k => ⟨h3.keep k (fun x hx => by rw [List.mem_singleton]; rintro rfl; exact hRF hx), ?_⟩⟩
  have h5 := Chg.old K2 h4
  exact ⟨h5.keeps.trans k (fun x hx => by rw [List.mem_singleton] at hx; subst hx; exact .inr hRw), h5.fresh⟩

set_option maxHeartbeats 4000000 in
set_option maxRecDepth 100000 in
theorem do_0 (p : Nat) (b : Bk) (F : List Nat) (w : World) (hb : BkAt w p b F) (N : Nat) (hok : b.ok N) (hN : N ≤ 1000000) (o : OpR) (ho : o.good w) (hask : o.ask = 0) :
    Calls Tryd.prog 21 #[.pointer (some ⟨p, 0, none⟩), .agg o.vals.toArray] w fun e w' => ∃ v F', e = .returned v ∧ GotAt w w' v ⟨[], 0, [], (b.put' o.name o.data).1⟩ F' ∧ BkAt w' p (b.put' o.name o.data).2 F' ∧ Chg F F' w w' := by
  obtain ⟨ask, name, data, at_, n, lv, L⟩ := o
  dsimp only at hask
  subst hask
  obtain ⟨_, hn, hda, hat, hnn, hsrc, h64⟩ := ho
  unfold OpR.vals
  dsimp only at hn hda hat hnn hsrc h64 ⊢
  have hF := hb.lt
  have hz := str_empty
  have K0 := Lib.hid fun o => (Keeps.refl [] w).alloc o
  have hRF : w.heap.size + 1 ∉ F := fun h => by have := hF _ h; omega
  have Hcall := Lib.hid (show ∀ w', Keeps [] w w' → _ from fun w' k => bput_any p b F w' (hb.newer k) N hok hN name data hn)
  clear hb hok hN hn hda hat hnn hsrc h64
  go_enter Tryd.func21, Tryd.ntmps21
  go_wp2_with (go_at_call 14; (with_reducible refine (Hcall.out _ ((K0.out _).alloc _)).mono ?_); rintro e w1 ⟨rfl, F', h3, h4⟩; have hR := h4.keeps.some (heap_at (by simp)) hRF; have c0 := cell_of_heap hR 0; have c1 := cell_of_heap hR 1; have c2 := cell_of_heap hR 2; have c3 := cell_of_heap hR 3; have f0 := free_of_heap hR 0; have f1 := free_of_heap hR 1; have f2 := free_of_heap hR 2; have f3 := free_of_heap hR 3)
  obtain ⟨hRF', hfin⟩ := got_end (R := w.heap.size + 1) hF ((K0.out _).alloc _) (by simp) (by omega) h3 h4
  obtain ⟨r1, r2⟩ := hfin _ (keeps_set4 w1 _ _ _ _ _)
  refine bodyPost_ret (results_row rfl rfl (heap_set4 hR _ _ _ _) Tryd.underlying45 rfl (by kernel_rfl)) rfl ⟨_, _, rfl, ?_, r1, r2⟩
  exact ⟨_, rfl, World.ownsRow_nil _ _ _ _, by simp [Value.ownBlock]⟩

set_option maxHeartbeats 4000000 in
set_option maxRecDepth 100000 in
theorem do_4 (p : Nat) (b : Bk) (F : List Nat) (w : World) (hb : BkAt w p b F) (N : Nat) (hok : b.ok N) (hN : N ≤ 1000000) (o : OpR) (ho : o.good w) (hask : o.ask = 4) :
    Calls Tryd.prog 21 #[.pointer (some ⟨p, 0, none⟩), .agg o.vals.toArray] w fun e w' => ∃ v F', e = .returned v ∧ GotAt w w' v ⟨[], 0, [], (b.del' o.name).1⟩ F' ∧ BkAt w' p (b.del' o.name).2 F' ∧ Chg F F' w w' := by
  obtain ⟨ask, name, data, at_, n, lv, L⟩ := o
  dsimp only at hask
  subst hask
  obtain ⟨_, hn, hda, hat, hnn, hsrc, h64⟩ := ho
  unfold OpR.vals
  dsimp only at hn hda hat hnn hsrc h64 ⊢
  have hF := hb.lt
  have hz := str_empty
  have K0 := Lib.hid fun o => (Keeps.refl [] w).alloc o
  have hRF : w.heap.size + 1 ∉ F := fun h => by have := hF _ h; omega
  have Hcall := Lib.hid (show ∀ w', Keeps [] w w' → _ from fun w' k => bdel_any p b F w' (hb.newer k) N hok hN name hn)
  clear hb hok hN hn hda hat hnn hsrc h64
  go_enter Tryd.func21, Tryd.ntmps21
  go_wp2_with (go_at_call 36; (with_reducible refine (Hcall.out _ ((K0.out _).alloc _)).mono ?_); rintro e w1 ⟨rfl, F', h3, h4⟩; have hR := h4.keeps.some (heap_at (by simp)) hRF; have c0 := cell_of_heap hR 0; have c1 := cell_of_heap hR 1; have c2 := cell_of_heap hR 2; have c3 := cell_of_heap hR 3; have f0 := free_of_heap hR 0; have f1 := free_of_heap hR 1; have f2 := free_of_heap hR 2; have f3 := free_of_heap hR 3)
  obtain ⟨hRF', hfin⟩ := got_end (R := w.heap.size + 1) hF ((K0.out _).alloc _) (by simp) (by omega) h3 h4
  obtain ⟨r1, r2⟩ := hfin _ (keeps_set4 w1 _ _ _ _ _)
  refine bodyPost_ret (results_row rfl rfl (heap_set4 hR _ _ _ _) Tryd.underlying45 rfl (by kernel_rfl)) rfl ⟨_, _, rfl, ?_, r1, r2⟩
  exact ⟨_, rfl, World.ownsRow_nil _ _ _ _, by simp [Value.ownBlock]⟩

set_option maxHeartbeats 4000000 in
set_option maxRecDepth 100000 in
theorem do_1 (p : Nat) (b : Bk) (F : List Nat) (w : World) (hb : BkAt w p b F) (N : Nat) (hok : b.ok N) (_hN : N ≤ 1000000) (o : OpR) (ho : o.good w) (hask : o.ask = 1) :
    Calls Tryd.prog 21 #[.pointer (some ⟨p, 0, none⟩), .agg o.vals.toArray] w fun e w' => ∃ v F', e = .returned v ∧ GotAt w w' v ⟨(b.get o.name o.at_ o.n).1, 0, [], (b.get o.name o.at_ o.n).2⟩ F' ∧ BkAt w' p (b.get2 o.name o.at_ o.n) F' ∧ Chg F F' w w' := by
  obtain ⟨ask, name, data, at_, n, lv, L⟩ := o
  dsimp only at hask
  subst hask
  obtain ⟨_, hn, hda, hat, hnn, hsrc, h64⟩ := ho
  unfold OpR.vals
  dsimp only at hn hda hat hnn hsrc h64 ⊢
  have hF := hb.lt
  have hz := str_empty
  have K0 := Lib.hid fun o => (Keeps.refl [] w).alloc o
  have hRF : w.heap.size + 1 ∉ F := fun h => by have := hF _ h; omega
  have Hcall := Lib.hid (show ∀ w', Keeps [] w w' → _ from fun w' k => bget_any p b F w' (hb.newer k) N hok name hn at_ n hat hnn)
  clear hb hok _hN hn hda hat hnn hsrc h64
  go_enter Tryd.func21, Tryd.ntmps21
  go_wp2_with (go_at_call 17; (with_reducible refine (Hcall.out _ ((K0.out _).alloc _)).mono ?_); rintro e w1 ⟨rfl, h3, h4⟩; have hR := h4.keeps.some (heap_at (by simp)) hRF; have c0 := cell_of_heap hR 0; have c1 := cell_of_heap hR 1; have c2 := cell_of_heap hR 2; have c3 := cell_of_heap hR 3; have f0 := free_of_heap hR 0; have f1 := free_of_heap hR 1; have f2 := free_of_heap hR 2; have f3 := free_of_heap hR 3)
  obtain ⟨hRF', hfin⟩ := got_end (R := w.heap.size + 1) hF ((K0.out _).alloc _) (by simp) (by omega) h3 h4
  obtain ⟨r1, r2⟩ := hfin _ (keeps_set4 w1 _ _ _ _ _)
  refine bodyPost_ret (results_row rfl rfl (heap_set4 hR _ _ _ _) Tryd.underlying45 rfl (by kernel_rfl)) rfl ⟨_, _, rfl, ?_, r1, r2⟩
  exact ⟨_, rfl, World.ownsRow_nil _ _ _ _, by simp [Value.ownBlock]⟩

set_option maxHeartbeats 4000000 in
set_option maxRecDepth 100000 in
theorem do_2 (p : Nat) (b : Bk) (F : List Nat) (w : World) (hb : BkAt w p b F) (N : Nat) (hok : b.ok N) (_hN : N ≤ 1000000) (o : OpR) (ho : o.good w) (hask : o.ask = 2) :
    Calls Tryd.prog 21 #[.pointer (some ⟨p, 0, none⟩), .agg o.vals.toArray] w fun e w' => ∃ v F', e = .returned v ∧ GotAt w w' v ⟨[], (b.size o.name).1, [], (b.size o.name).2⟩ F' ∧ BkAt w' p (b.size2 o.name) F' ∧ Chg F F' w w' := by
  obtain ⟨ask, name, data, at_, n, lv, L⟩ := o
  dsimp only at hask
  subst hask
  obtain ⟨_, hn, hda, hat, hnn, hsrc, h64⟩ := ho
  unfold OpR.vals
  dsimp only at hn hda hat hnn hsrc h64 ⊢
  have hF := hb.lt
  have hz := str_empty
  have K0 := Lib.hid fun o => (Keeps.refl [] w).alloc o
  have hRF : w.heap.size + 1 ∉ F := fun h => by have := hF _ h; omega
  have Hcall := Lib.hid (show ∀ w', Keeps [] w w' → _ from fun w' k => bsize_any p b F w' (hb.newer k) name hn hok.f64)
  clear hb hok _hN hn hda hat hnn hsrc h64
  go_enter Tryd.func21, Tryd.ntmps21
  go_wp2_with (go_at_call 18; (with_reducible refine (Hcall.out _ ((K0.out _).alloc _)).mono ?_); rintro e w1 ⟨rfl, h3, h4⟩; have hR := h4.keeps.some (heap_at (by simp)) hRF; have c0 := cell_of_heap hR 0; have c1 := cell_of_heap hR 1; have c2 := cell_of_heap hR 2; have c3 := cell_of_heap hR 3; have f0 := free_of_heap hR 0; have f1 := free_of_heap hR 1; have f2 := free_of_heap hR 2; have f3 := free_of_heap hR 3)
  obtain ⟨hRF', hfin⟩ := got_end (R := w.heap.size + 1) hF ((K0.out _).alloc _) (by simp) (by omega) h3 h4
  obtain ⟨r1, r2⟩ := hfin _ (keeps_set4 w1 _ _ _ _ _)
  refine bodyPost_ret (results_row rfl rfl (heap_set4 hR _ _ _ _) Tryd.underlying45 rfl (by kernel_rfl)) rfl ⟨_, _, rfl, ?_, r1, r2⟩
  exact ⟨_, rfl, World.ownsRow_nil _ _ _ _, by simp [Value.ownBlock]⟩

set_option maxHeartbeats 4000000 in
set_option maxRecDepth 100000 in
theorem do_3 (p : Nat) (b : Bk) (F : List Nat) (w : World) (hb : BkAt w p b F) (N : Nat) (hok : b.ok N) (hN : N ≤ 1000000) (o : OpR) (ho : o.good w) (hask : o.ask = 3) :
    Calls Tryd.prog 21 #[.pointer (some ⟨p, 0, none⟩), .agg o.vals.toArray] w fun e w' => ∃ v F', e = .returned v ∧ GotAt w w' v ⟨[], 0, (b.list o.name).1, (b.list o.name).2⟩ F' ∧ BkAt w' p b.tick F' ∧ Chg F F' w w' := by
  obtain ⟨ask, name, data, at_, n, lv, L⟩ := o
  dsimp only at hask
  subst hask
  obtain ⟨_, hn, hda, hat, hnn, hsrc, h64⟩ := ho
  unfold OpR.vals
  dsimp only at hn hda hat hnn hsrc h64 ⊢
  have hF := hb.lt
  have hz := str_empty
  have K0 := Lib.hid fun o => (Keeps.refl [] w).alloc o
  have hRF : w.heap.size + 1 ∉ F := fun h => by have := hF _ h; omega
  have Hcall := Lib.hid (show ∀ w', Keeps [] w w' → _ from fun w' k => blist_any p b F w' (hb.newer k) N hok hN name)
  clear hb hok hN hn hda hat hnn hsrc h64
  go_enter Tryd.func21, Tryd.ntmps21
  go_wp2_with (go_at_call 23; (with_reducible refine (Hcall.out _ ((K0.out _).alloc _)).mono ?_); rintro e w1 ⟨v, rfl, hrow, hfr, h3, h4⟩; obtain ⟨lad, lcap, rfl⟩ := ownsRow_shape hrow; have hR := h4.keeps.some (heap_at (by simp)) hRF; have c0 := cell_of_heap hR 0; have c1 := cell_of_heap hR 1; have c2 := cell_of_heap hR 2; have c3 := cell_of_heap hR 3; have f0 := free_of_heap hR 0; have f1 := free_of_heap hR 1; have f2 := free_of_heap hR 2; have f3 := free_of_heap hR 3)
  obtain ⟨hRF', hfin⟩ := got_end (R := w.heap.size + 1) hF ((K0.out _).alloc _) (by simp) (by omega) h3 h4
  obtain ⟨r1, r2⟩ := hfin _ (keeps_set4 w1 _ _ _ _ _)
  refine bodyPost_ret (results_row rfl rfl (heap_set4 hR _ _ _ _) Tryd.underlying45 rfl (by kernel_rfl)) rfl ⟨_, _, rfl, ?_, r1, r2⟩
  have hge : ∀ x, x ∈ (Value.slice lad (b.list name).1.length lcap).ownBlock.toList → w.heap.size + 2 ≤ x := fun x hx => by have := hfr x hx; simp at this; omega
  exact ⟨_, rfl, own_keep hrow (keeps_set4 w1 _ _ _ _ _) (fun x hx => by have := hge x hx; rw [List.mem_singleton]; omega), fun x hx => ⟨by have := hge x hx; omega, fun h => by have := hge x hx; have := hF x h; omega⟩⟩

set_option maxHeartbeats 4000000 in
set_option maxRecDepth 100000 in
theorem do_5 (p : Nat) (b : Bk) (F : List Nat) (w : World) (hb : BkAt w p b F) (N : Nat) (hok : b.ok N) (hN : N ≤ 1000000) (o : OpR) (ho : o.good w) (hask : o.ask = 5) (hL : o.L.length ≤ 20) :
    Calls Tryd.prog 21 #[.pointer (some ⟨p, 0, none⟩), .agg o.vals.toArray] w fun e w' => ∃ v F', e = .returned v ∧ GotAt w w' v ⟨[], 0, [], 0⟩ F' ∧ BkAt w' p (b.fates o.L) F' ∧ Chg F F' w w' := by
  obtain ⟨ask, name, data, at_, n, lv, L⟩ := o
  dsimp only at hask
  subst hask
  obtain ⟨_, hn, hda, hat, hnn, hsrc, h64⟩ := ho
  unfold OpR.vals
  dsimp only at hn hda hat hnn hsrc h64 ⊢
  have hF := hb.lt
  have hz := str_empty
  have K0 := Lib.hid fun o => (Keeps.refl [] w).alloc o
  have hRF : w.heap.size + 1 ∉ F := fun h => by have := hF _ h; omega
  have Hcall := Lib.hid (show ∀ w', Keeps [] w w' → _ from fun w' k => fates_any p b F w' (hb.newer k) lv L (hsrc.newer k) (by have := hok.fl; omega) hL)
  clear hb hok hN hn hda hat hnn hsrc h64
  go_enter Tryd.func21, Tryd.ntmps21
  go_wp2_with (go_at_call 13; (with_reducible refine (Hcall.out _ ((K0.out _).alloc _)).mono ?_); rintro e w1 ⟨rfl, F', h3, h4⟩; have hR := h4.keeps.some (heap_at (by simp)) hRF; have c0 := cell_of_heap hR 0; have c1 := cell_of_heap hR 1; have c2 := cell_of_heap hR 2; have c3 := cell_of_heap hR 3; have f0 := free_of_heap hR 0; have f1 := free_of_heap hR 1; have f2 := free_of_heap hR 2; have f3 := free_of_heap hR 3)
  obtain ⟨hRF', hfin⟩ := got_end (R := w.heap.size + 1) hF ((K0.out _).alloc _) (by simp) (by omega) h3 h4
  obtain ⟨r1, r2⟩ := hfin _ (keeps_set4 w1 _ _ _ _ _)
  refine bodyPost_ret (results_row rfl rfl (heap_set4 hR _ _ _ _) Tryd.underlying45 rfl (by kernel_rfl)) rfl ⟨_, _, rfl, ?_, r1, r2⟩
  exact ⟨_, rfl, World.ownsRow_nil _ _ _ _, by simp [Value.ownBlock]⟩

set_option maxHeartbeats 4000000 in
set_option maxRecDepth 100000 in
theorem do_6 (p : Nat) (b : Bk) (F : List Nat) (w : World) (hb : BkAt w p b F) (N : Nat) (hok : b.ok N) (hN : N ≤ 1000000) (o : OpR) (ho : o.good w) (hask : o.ask = 6) :
    Calls Tryd.prog 21 #[.pointer (some ⟨p, 0, none⟩), .agg o.vals.toArray] w fun e w' => ∃ v F', e = .returned v ∧ GotAt w w' v ⟨[], b.cut o.n, [], 0⟩ F' ∧ BkAt w' p (b.land o.n) F' ∧ Chg F F' w w' := by
  obtain ⟨ask, name, data, at_, n, lv, L⟩ := o
  dsimp only at hask
  subst hask
  obtain ⟨_, hn, hda, hat, hnn, hsrc, h64⟩ := ho
  unfold OpR.vals
  dsimp only at hn hda hat hnn hsrc h64 ⊢
  have hF := hb.lt
  have hz := str_empty
  have K0 := Lib.hid fun o => (Keeps.refl [] w).alloc o
  have hRF : w.heap.size + 1 ∉ F := fun h => by have := hF _ h; omega
  have Hcall := Lib.hid (show ∀ w', Keeps [] w w' → _ from fun w' k => bland_any p b F w' (hb.newer k) N hok hN n)
  clear hb hok hN hn hda hat hnn hsrc h64
  go_enter Tryd.func21, Tryd.ntmps21
  go_wp2_with (go_at_call 16; (with_reducible refine (Hcall.out _ ((K0.out _).alloc _)).mono ?_); rintro e w1 ⟨rfl, h3, h4⟩; have hR := h4.keeps.some (heap_at (by simp)) hRF; have c0 := cell_of_heap hR 0; have c1 := cell_of_heap hR 1; have c2 := cell_of_heap hR 2; have c3 := cell_of_heap hR 3; have f0 := free_of_heap hR 0; have f1 := free_of_heap hR 1; have f2 := free_of_heap hR 2; have f3 := free_of_heap hR 3)
  obtain ⟨hRF', hfin⟩ := got_end (R := w.heap.size + 1) hF ((K0.out _).alloc _) (by simp) (by omega) h3 h4
  obtain ⟨r1, r2⟩ := hfin _ (keeps_set4 w1 _ _ _ _ _)
  refine bodyPost_ret (results_row rfl rfl (heap_set4 hR _ _ _ _) Tryd.underlying45 rfl (by kernel_rfl)) rfl ⟨_, _, rfl, ?_, r1, r2⟩
  exact ⟨_, rfl, World.ownsRow_nil _ _ _ _, by simp [Value.ownBlock]⟩

set_option maxHeartbeats 4000000 in
set_option maxRecDepth 100000 in
theorem do_7 (p : Nat) (b : Bk) (F : List Nat) (w : World) (hb : BkAt w p b F) (N : Nat) (hok : b.ok N) (hN : N ≤ 1000000) (o : OpR) (ho : o.good w) (hask : o.ask ≠ 0 ∧ o.ask ≠ 1 ∧ o.ask ≠ 2 ∧ o.ask ≠ 3 ∧ o.ask ≠ 4 ∧ o.ask ≠ 5 ∧ o.ask ≠ 6) :
    Calls Tryd.prog 21 #[.pointer (some ⟨p, 0, none⟩), .agg o.vals.toArray] w fun e w' => ∃ v F', e = .returned v ∧ GotAt w w' v ⟨[], b.cut o.n, [], 0⟩ F' ∧ BkAt w' p (b.drop o.n) F' ∧ Chg F F' w w' := by
  obtain ⟨ask, name, data, at_, n, lv, L⟩ := o
  dsimp only at hask
  have a0 : (ask == 0) = false := by rw [beq_eq_false_iff_ne]; omega
  have a1 : (ask == 1) = false := by rw [beq_eq_false_iff_ne]; omega
  have a2 : (ask == 2) = false := by rw [beq_eq_false_iff_ne]; omega
  have a3 : (ask == 3) = false := by rw [beq_eq_false_iff_ne]; omega
  have a4 : (ask == 4) = false := by rw [beq_eq_false_iff_ne]; omega
  have a5 : (ask == 5) = false := by rw [beq_eq_false_iff_ne]; omega
  have a6 : (ask == 6) = false := by rw [beq_eq_false_iff_ne]; omega
  obtain ⟨_, hn, hda, hat, hnn, hsrc, h64⟩ := ho
  unfold OpR.vals
  dsimp only at hn hda hat hnn hsrc h64 ⊢
  have hF := hb.lt
  have hz := str_empty
  have K0 := Lib.hid fun o => (Keeps.refl [] w).alloc o
  have hRF : w.heap.size + 1 ∉ F := fun h => by have := hF _ h; omega
  have Hcall := Lib.hid (show ∀ w', Keeps [] w w' → _ from fun w' k => bdrop_any p b F w' (hb.newer k) n (by have := hok.few; omega))
  clear hb hok hN hn hda hat hnn hsrc h64
  go_enter Tryd.func21, Tryd.ntmps21
  go_wp2_with (go_at_call 37; (with_reducible refine (Hcall.out _ ((K0.out _).alloc _)).mono ?_); rintro e w1 ⟨rfl, h3, h4⟩; have hR := h4.keeps.some (heap_at (by simp)) hRF; have c0 := cell_of_heap hR 0; have c1 := cell_of_heap hR 1; have c2 := cell_of_heap hR 2; have c3 := cell_of_heap hR 3; have f0 := free_of_heap hR 0; have f1 := free_of_heap hR 1; have f2 := free_of_heap hR 2; have f3 := free_of_heap hR 3)
  obtain ⟨hRF', hfin⟩ := got_end (R := w.heap.size + 1) hF ((K0.out _).alloc _) (by simp) (by omega) h3 h4
  obtain ⟨r1, r2⟩ := hfin _ (keeps_set4 w1 _ _ _ _ _)
  refine bodyPost_ret (results_row rfl rfl (heap_set4 hR _ _ _ _) Tryd.underlying45 rfl (by kernel_rfl)) rfl ⟨_, _, rfl, ?_, r1, r2⟩
  exact ⟨_, rfl, World.ownsRow_nil _ _ _ _, by simp [Value.ownBlock]⟩

theorem do_any (p : Nat) (b : Bk) (F : List Nat) (w : World) (hb : BkAt w p b F) (N : Nat) (hok : b.ok N) (hN : N ≤ 1000000) (o : OpR) (ho : o.good w) (hL : o.L.length ≤ 20) :
    Calls Tryd.prog 21 #[.pointer (some ⟨p, 0, none⟩), .agg o.vals.toArray] w fun e w' => ∃ v F', e = .returned v ∧ GotAt w w' v (b.doO o).1 F' ∧ BkAt w' p (b.doO o).2 F' ∧ Chg F F' w w' := by
  unfold Bk.doO
  by_cases h0 : o.ask = 0
  · rw [if_pos h0]; exact do_0 p b F w hb N hok hN o ho h0
  rw [if_neg h0]
  by_cases h1 : o.ask = 1
  · rw [if_pos h1]; exact do_1 p b F w hb N hok hN o ho h1
  rw [if_neg h1]
  by_cases h2 : o.ask = 2
  · rw [if_pos h2]; exact do_2 p b F w hb N hok hN o ho h2
  rw [if_neg h2]
  by_cases h3 : o.ask = 3
  · rw [if_pos h3]; exact do_3 p b F w hb N hok hN o ho h3
  rw [if_neg h3]
  by_cases h4 : o.ask = 4
  · rw [if_pos h4]; exact do_4 p b F w hb N hok hN o ho h4
  rw [if_neg h4]
  by_cases h5 : o.ask = 5
  · rw [if_pos h5]; exact do_5 p b F w hb N hok hN o ho h5 hL
  rw [if_neg h5]
  by_cases h6 : o.ask = 6
  · rw [if_pos h6]; exact do_6 p b F w hb N hok hN o ho h6
  rw [if_neg h6]
  exact do_7 p b F w hb N hok hN o ho ⟨h0, h1, h2, h3, h4, h5, h6⟩
theorem Bk.ok.doO {b : Bk} {N : Nat} (h : b.ok N) (o : OpR) (hL : o.L.length ≤ 20) (h64 : ∀ x, x ∈ o.L → i64R x) : (b.doO o).2.ok (N + 1) := by
  unfold Bk.doO
  split
  · exact h.put' _ _
  split
  · exact (h.get2 _ _ _).mono (by omega)
  split
  · exact (h.size2 _).mono (by omega)
  split
  · exact h.tick.mono (by omega)
  split
  · exact h.del' _
  split
  · exact h.fates _ hL h64
  split
  · exact (h.land _).mono (by omega)
  · exact (h.drop _).mono (by omega)
end Go.Proofs.YtflgagglkkehiaaDoor
