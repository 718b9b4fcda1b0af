/-
What is proved: RecordPairs. For any two records that may be (and are not too much for all that is asked here): the sectors of the one and those of the other behind them are decoded one by one, and Head tells how many sectors the second one's head and data have. No conditions.
-/
import Derived.Test.YtjebldfmkpfafaaRecL
import Derived.Test.YtjebldfmkpfafaaRecY
import Derived.Test.YtjebldfmkpfafaaRecX
namespace Go.Proofs.Ytjebldfmkpfafaa.lawRecordPairs
open Go.ChangeShapes Go.WideShapes Go.ChangeAt Go.RowKit
open Go.ChangeMaps (open_string shut_string)
set_option maxRecDepth 100000

def fewB (r : Rc) : Bool := decide ((r.sp.length : Int) ≤ 80) && (decide ((r.dt.length : Int) ≤ 2000) || (decide (32768 < (r.dt.length : Int)) && decide ((r.dt.length : Int) < 40000))) && decide ((r.tx.length : Int) ≤ 600)

set_option maxHeartbeats 4000000 in
theorem walk_many1 (ra rb : Rc) (sva svb : Value) (Ga Gb : List Nat) (W : World) (hra : ra.good W sva Ga) (hGa : ∀ k, k ∈ Ga → k < W.heap.size) (hrb : rb.good W svb Gb) (hGb : ∀ k, k ∈ Gb → k < W.heap.size) (hf : fewB ra = false) : Calls Try.prog 8 #[ra.val sva, rb.val svb] W fun e w' => e = .returned (.bool true) ∧ Keeps [] W w' := by
  have K0 := Lib.hid (((Keeps.refl [] W).alloc (rbox ra sva)).alloc (rbox rb svb))
  have Kr := Keeps.refl [] ((W.alloc (rbox ra sva)).alloc (rbox rb svb))
  have CA : Hid (∀ w', Keeps [] ((W.alloc (rbox ra sva)).alloc (rbox rb svb)) w' → boxed w' (W.heap.size) ra sva) := fun w' k => (let h := (cells6 (two_new k).1).1; ⟨h.1, h.2.1, h.2.2.1, h.2.2.2.1, h.2.2.2.2.1, h.2.2.2.2.2⟩)
  have FeA : Hid (∀ w', Keeps [] ((W.alloc (rbox ra sva)).alloc (rbox rb svb)) w' → _) := fun w' k => few_any ra sva Ga w' (hra.newer (K0.out.trans k (by simp)))
  have PlA : Hid (∀ w', Keeps [] ((W.alloc (rbox ra sva)).alloc (rbox rb svb)) w' → _) := fun w' k => plain_any ra sva Ga w' (hra.newer (K0.out.trans k (by simp)))
  have RkA : Hid (∀ w', Keeps [] ((W.alloc (rbox ra sva)).alloc (rbox rb svb)) w' → _) := fun w' k => rcheck_any ra sva Ga w' (hra.newer (K0.out.trans k (by simp)))
  have EnA : Hid (∀ w', Keeps [] ((W.alloc (rbox ra sva)).alloc (rbox rb svb)) w' → _) := fun w' k => encode_any ra sva Ga w' (hra.newer (K0.out.trans k (by simp))) (fun x hx => by have := hGa x hx; have := (K0.out.trans k (by simp)).size; omega)
  have CB : Hid (∀ w', Keeps [] ((W.alloc (rbox ra sva)).alloc (rbox rb svb)) w' → boxed w' (W.heap.size + 1) rb svb) := fun w' k => (let h := (cells6 (two_new k).2).1; ⟨h.1, h.2.1, h.2.2.1, h.2.2.2.1, h.2.2.2.2.1, h.2.2.2.2.2⟩)
  have FeB : Hid (∀ w', Keeps [] ((W.alloc (rbox ra sva)).alloc (rbox rb svb)) w' → _) := fun w' k => few_any rb svb Gb w' (hrb.newer (K0.out.trans k (by simp)))
  have PlB : Hid (∀ w', Keeps [] ((W.alloc (rbox ra sva)).alloc (rbox rb svb)) w' → _) := fun w' k => plain_any rb svb Gb w' (hrb.newer (K0.out.trans k (by simp)))
  have RkB : Hid (∀ w', Keeps [] ((W.alloc (rbox ra sva)).alloc (rbox rb svb)) w' → _) := fun w' k => rcheck_any rb svb Gb w' (hrb.newer (K0.out.trans k (by simp)))
  have EnB : Hid (∀ w', Keeps [] ((W.alloc (rbox ra sva)).alloc (rbox rb svb)) w' → _) := fun w' k => encode_any rb svb Gb w' (hrb.newer (K0.out.trans k (by simp))) (fun x hx => by have := hGb x hx; have := (K0.out.trans k (by simp)).size; omega)
  have Aw := Lib.hid (fun w => awake_any w)
  unfold fewB at hf
  rw [hf] at FeA
  unfold Rc.val at *
  unfold boxed at CA CB
  unfold rbox at *
  obtain ⟨ada, capa, rfl, _⟩ := hra.at_
  obtain ⟨adb, capb, rfl, _⟩ := hrb.at_
  clear hra hrb hGa hGb EnA EnB PlA PlB RkA RkB FeB hf
  go_enter Try.func8, Try.ntmps8
  go_wp2_with (first
    | (go_at_call 9; (with_reducible refine (FeA.out _ Kr).mono ?_); rintro e w1 ⟨rfl, k1⟩; replace Kr := KT Kr k1; clear k1; (try clear d0 d1 d2 d3 d4 d5 e0 e1 e2 e3 e4 e5); obtain ⟨d0, d1, d2, d3, d4, d5⟩ := CA.out _ Kr; obtain ⟨e0, e1, e2, e3, e4, e5⟩ := CB.out _ Kr)
    | (go_at_call 10; (with_reducible refine (Aw.out _).mono ?_); rintro e w1 ⟨rfl, k1⟩; replace Kr := KT Kr k1; clear k1; (try clear d0 d1 d2 d3 d4 d5 e0 e1 e2 e3 e4 e5); obtain ⟨d0, d1, d2, d3, d4, d5⟩ := CA.out _ Kr; obtain ⟨e0, e1, e2, e3, e4, e5⟩ := CB.out _ Kr))
  go_ret
  exact ⟨rfl, KT K0.out Kr⟩

set_option maxHeartbeats 4000000 in
theorem walk_many2 (ra rb : Rc) (sva svb : Value) (Ga Gb : List Nat) (W : World) (hra : ra.good W sva Ga) (hGa : ∀ k, k ∈ Ga → k < W.heap.size) (hrb : rb.good W svb Gb) (hGb : ∀ k, k ∈ Gb → k < W.heap.size) (hf : fewB ra = true) (hg : fewB rb = false) : Calls Try.prog 8 #[ra.val sva, rb.val svb] W fun e w' => e = .returned (.bool true) ∧ Keeps [] W w' := by
  have K0 := Lib.hid (((Keeps.refl [] W).alloc (rbox ra sva)).alloc (rbox rb svb))
  have Kr := Keeps.refl [] ((W.alloc (rbox ra sva)).alloc (rbox rb svb))
  have CA : Hid (∀ w', Keeps [] ((W.alloc (rbox ra sva)).alloc (rbox rb svb)) w' → boxed w' (W.heap.size) ra sva) := fun w' k => (let h := (cells6 (two_new k).1).1; ⟨h.1, h.2.1, h.2.2.1, h.2.2.2.1, h.2.2.2.2.1, h.2.2.2.2.2⟩)
  have FeA : Hid (∀ w', Keeps [] ((W.alloc (rbox ra sva)).alloc (rbox rb svb)) w' → _) := fun w' k => few_any ra sva Ga w' (hra.newer (K0.out.trans k (by simp)))
  have PlA : Hid (∀ w', Keeps [] ((W.alloc (rbox ra sva)).alloc (rbox rb svb)) w' → _) := fun w' k => plain_any ra sva Ga w' (hra.newer (K0.out.trans k (by simp)))
  have RkA : Hid (∀ w', Keeps [] ((W.alloc (rbox ra sva)).alloc (rbox rb svb)) w' → _) := fun w' k => rcheck_any ra sva Ga w' (hra.newer (K0.out.trans k (by simp)))
  have EnA : Hid (∀ w', Keeps [] ((W.alloc (rbox ra sva)).alloc (rbox rb svb)) w' → _) := fun w' k => encode_any ra sva Ga w' (hra.newer (K0.out.trans k (by simp))) (fun x hx => by have := hGa x hx; have := (K0.out.trans k (by simp)).size; omega)
  have CB : Hid (∀ w', Keeps [] ((W.alloc (rbox ra sva)).alloc (rbox rb svb)) w' → boxed w' (W.heap.size + 1) rb svb) := fun w' k => (let h := (cells6 (two_new k).2).1; ⟨h.1, h.2.1, h.2.2.1, h.2.2.2.1, h.2.2.2.2.1, h.2.2.2.2.2⟩)
  have FeB : Hid (∀ w', Keeps [] ((W.alloc (rbox ra sva)).alloc (rbox rb svb)) w' → _) := fun w' k => few_any rb svb Gb w' (hrb.newer (K0.out.trans k (by simp)))
  have PlB : Hid (∀ w', Keeps [] ((W.alloc (rbox ra sva)).alloc (rbox rb svb)) w' → _) := fun w' k => plain_any rb svb Gb w' (hrb.newer (K0.out.trans k (by simp)))
  have RkB : Hid (∀ w', Keeps [] ((W.alloc (rbox ra sva)).alloc (rbox rb svb)) w' → _) := fun w' k => rcheck_any rb svb Gb w' (hrb.newer (K0.out.trans k (by simp)))
  have EnB : Hid (∀ w', Keeps [] ((W.alloc (rbox ra sva)).alloc (rbox rb svb)) w' → _) := fun w' k => encode_any rb svb Gb w' (hrb.newer (K0.out.trans k (by simp))) (fun x hx => by have := hGb x hx; have := (K0.out.trans k (by simp)).size; omega)
  have Aw := Lib.hid (fun w => awake_any w)
  unfold fewB at hf hg
  rw [hf] at FeA
  rw [hg] at FeB
  unfold Rc.val at *
  unfold boxed at CA CB
  unfold rbox at *
  obtain ⟨ada, capa, rfl, _⟩ := hra.at_
  obtain ⟨adb, capb, rfl, _⟩ := hrb.at_
  clear hra hrb hGa hGb EnA EnB PlA PlB RkA RkB hf hg
  go_enter Try.func8, Try.ntmps8
  go_wp2_with (first
    | (go_at_call 9; (with_reducible refine (FeA.out _ Kr).mono ?_); rintro e w1 ⟨rfl, k1⟩; replace Kr := KT Kr k1; clear k1; (try clear d0 d1 d2 d3 d4 d5 e0 e1 e2 e3 e4 e5); obtain ⟨d0, d1, d2, d3, d4, d5⟩ := CA.out _ Kr; obtain ⟨e0, e1, e2, e3, e4, e5⟩ := CB.out _ Kr)
    | (go_at_call 9; (with_reducible refine (FeB.out _ Kr).mono ?_); rintro e w1 ⟨rfl, k1⟩; replace Kr := KT Kr k1; clear k1; (try clear d0 d1 d2 d3 d4 d5 e0 e1 e2 e3 e4 e5); obtain ⟨d0, d1, d2, d3, d4, d5⟩ := CA.out _ Kr; obtain ⟨e0, e1, e2, e3, e4, e5⟩ := CB.out _ Kr)
    | (go_at_call 10; (with_reducible refine (Aw.out _).mono ?_); rintro e w1 ⟨rfl, k1⟩; replace Kr := KT Kr k1; clear k1; (try clear d0 d1 d2 d3 d4 d5 e0 e1 e2 e3 e4 e5); obtain ⟨d0, d1, d2, d3, d4, d5⟩ := CA.out _ Kr; obtain ⟨e0, e1, e2, e3, e4, e5⟩ := CB.out _ Kr))
  go_ret
  exact ⟨rfl, KT K0.out Kr⟩

set_option maxHeartbeats 4000000 in
theorem walk_bad1 (ra rb : Rc) (sva svb : Value) (Ga Gb : List Nat) (W : World) (hra : ra.good W sva Ga) (hGa : ∀ k, k ∈ Ga → k < W.heap.size) (hrb : rb.good W svb Gb) (hGb : ∀ k, k ∈ Gb → k < W.heap.size) (hf : fewB ra = true) (hg : fewB rb = true) (hc : ra.check ≠ 0) : Calls Try.prog 8 #[ra.val sva, rb.val svb] W fun e w' => e = .returned (.bool true) ∧ Keeps [] W w' := by
  have K0 := Lib.hid (((Keeps.refl [] W).alloc (rbox ra sva)).alloc (rbox rb svb))
  have Kr := Keeps.refl [] ((W.alloc (rbox ra sva)).alloc (rbox rb svb))
  have CA : Hid (∀ w', Keeps [] ((W.alloc (rbox ra sva)).alloc (rbox rb svb)) w' → boxed w' (W.heap.size) ra sva) := fun w' k => (let h := (cells6 (two_new k).1).1; ⟨h.1, h.2.1, h.2.2.1, h.2.2.2.1, h.2.2.2.2.1, h.2.2.2.2.2⟩)
  have FeA : Hid (∀ w', Keeps [] ((W.alloc (rbox ra sva)).alloc (rbox rb svb)) w' → _) := fun w' k => few_any ra sva Ga w' (hra.newer (K0.out.trans k (by simp)))
  have PlA : Hid (∀ w', Keeps [] ((W.alloc (rbox ra sva)).alloc (rbox rb svb)) w' → _) := fun w' k => plain_any ra sva Ga w' (hra.newer (K0.out.trans k (by simp)))
  have RkA : Hid (∀ w', Keeps [] ((W.alloc (rbox ra sva)).alloc (rbox rb svb)) w' → _) := fun w' k => rcheck_any ra sva Ga w' (hra.newer (K0.out.trans k (by simp)))
  have EnA : Hid (∀ w', Keeps [] ((W.alloc (rbox ra sva)).alloc (rbox rb svb)) w' → _) := fun w' k => encode_any ra sva Ga w' (hra.newer (K0.out.trans k (by simp))) (fun x hx => by have := hGa x hx; have := (K0.out.trans k (by simp)).size; omega)
  have CB : Hid (∀ w', Keeps [] ((W.alloc (rbox ra sva)).alloc (rbox rb svb)) w' → boxed w' (W.heap.size + 1) rb svb) := fun w' k => (let h := (cells6 (two_new k).2).1; ⟨h.1, h.2.1, h.2.2.1, h.2.2.2.1, h.2.2.2.2.1, h.2.2.2.2.2⟩)
  have FeB : Hid (∀ w', Keeps [] ((W.alloc (rbox ra sva)).alloc (rbox rb svb)) w' → _) := fun w' k => few_any rb svb Gb w' (hrb.newer (K0.out.trans k (by simp)))
  have PlB : Hid (∀ w', Keeps [] ((W.alloc (rbox ra sva)).alloc (rbox rb svb)) w' → _) := fun w' k => plain_any rb svb Gb w' (hrb.newer (K0.out.trans k (by simp)))
  have RkB : Hid (∀ w', Keeps [] ((W.alloc (rbox ra sva)).alloc (rbox rb svb)) w' → _) := fun w' k => rcheck_any rb svb Gb w' (hrb.newer (K0.out.trans k (by simp)))
  have EnB : Hid (∀ w', Keeps [] ((W.alloc (rbox ra sva)).alloc (rbox rb svb)) w' → _) := fun w' k => encode_any rb svb Gb w' (hrb.newer (K0.out.trans k (by simp))) (fun x hx => by have := hGb x hx; have := (K0.out.trans k (by simp)).size; omega)
  have Aw := Lib.hid (fun w => awake_any w)
  unfold fewB at hf hg
  rw [hf] at FeA
  rw [hg] at FeB
  have hcb : (ra.check != 0) = true := bne_iff_ne.2 hc
  generalize ra.check = V at *
  unfold Rc.val at *
  unfold boxed at CA CB
  unfold rbox at *
  obtain ⟨ada, capa, rfl, _⟩ := hra.at_
  obtain ⟨adb, capb, rfl, _⟩ := hrb.at_
  clear hra hrb hGa hGb EnA EnB PlB RkB hf hg hc
  go_enter Try.func8, Try.ntmps8
  go_wp2_with (first
    | (go_at_call 9; (with_reducible refine (FeA.out _ Kr).mono ?_); rintro e w1 ⟨rfl, k1⟩; replace Kr := KT Kr k1; clear k1; (try clear d0 d1 d2 d3 d4 d5 e0 e1 e2 e3 e4 e5); obtain ⟨d0, d1, d2, d3, d4, d5⟩ := CA.out _ Kr; obtain ⟨e0, e1, e2, e3, e4, e5⟩ := CB.out _ Kr)
    | (go_at_call 9; (with_reducible refine (FeB.out _ Kr).mono ?_); rintro e w1 ⟨rfl, k1⟩; replace Kr := KT Kr k1; clear k1; (try clear d0 d1 d2 d3 d4 d5 e0 e1 e2 e3 e4 e5); obtain ⟨d0, d1, d2, d3, d4, d5⟩ := CA.out _ Kr; obtain ⟨e0, e1, e2, e3, e4, e5⟩ := CB.out _ Kr)
    | (go_at_call 12; (with_reducible refine (PlA.out _ Kr).mono ?_); rintro e w1 ⟨rfl, k1⟩; replace Kr := KT Kr k1; clear k1; (try clear d0 d1 d2 d3 d4 d5 e0 e1 e2 e3 e4 e5); obtain ⟨d0, d1, d2, d3, d4, d5⟩ := CA.out _ Kr; obtain ⟨e0, e1, e2, e3, e4, e5⟩ := CB.out _ Kr)
    | (go_at_call 11; (with_reducible refine (RkA.out _ Kr).mono ?_); rintro e w1 ⟨rfl, k1⟩; replace Kr := KT Kr k1; clear k1; (try clear d0 d1 d2 d3 d4 d5 e0 e1 e2 e3 e4 e5); obtain ⟨d0, d1, d2, d3, d4, d5⟩ := CA.out _ Kr; obtain ⟨e0, e1, e2, e3, e4, e5⟩ := CB.out _ Kr)
    | (go_at_call 10; (with_reducible refine (Aw.out _).mono ?_); rintro e w1 ⟨rfl, k1⟩; replace Kr := KT Kr k1; clear k1; (try clear d0 d1 d2 d3 d4 d5 e0 e1 e2 e3 e4 e5); obtain ⟨d0, d1, d2, d3, d4, d5⟩ := CA.out _ Kr; obtain ⟨e0, e1, e2, e3, e4, e5⟩ := CB.out _ Kr))
  go_ret
  exact ⟨rfl, KT K0.out Kr⟩

set_option maxHeartbeats 4000000 in
theorem walk_bad2 (ra rb : Rc) (sva svb : Value) (Ga Gb : List Nat) (W : World) (hra : ra.good W sva Ga) (hGa : ∀ k, k ∈ Ga → k < W.heap.size) (hrb : rb.good W svb Gb) (hGb : ∀ k, k ∈ Gb → k < W.heap.size) (hf : fewB ra = true) (hg : fewB rb = true) (hc : ra.check = 0) (hd : rb.check ≠ 0) : Calls Try.prog 8 #[ra.val sva, rb.val svb] W fun e w' => e = .returned (.bool true) ∧ Keeps [] W w' := by
  have K0 := Lib.hid (((Keeps.refl [] W).alloc (rbox ra sva)).alloc (rbox rb svb))
  have Kr := Keeps.refl [] ((W.alloc (rbox ra sva)).alloc (rbox rb svb))
  have CA : Hid (∀ w', Keeps [] ((W.alloc (rbox ra sva)).alloc (rbox rb svb)) w' → boxed w' (W.heap.size) ra sva) := fun w' k => (let h := (cells6 (two_new k).1).1; ⟨h.1, h.2.1, h.2.2.1, h.2.2.2.1, h.2.2.2.2.1, h.2.2.2.2.2⟩)
  have FeA : Hid (∀ w', Keeps [] ((W.alloc (rbox ra sva)).alloc (rbox rb svb)) w' → _) := fun w' k => few_any ra sva Ga w' (hra.newer (K0.out.trans k (by simp)))
  have PlA : Hid (∀ w', Keeps [] ((W.alloc (rbox ra sva)).alloc (rbox rb svb)) w' → _) := fun w' k => plain_any ra sva Ga w' (hra.newer (K0.out.trans k (by simp)))
  have RkA : Hid (∀ w', Keeps [] ((W.alloc (rbox ra sva)).alloc (rbox rb svb)) w' → _) := fun w' k => rcheck_any ra sva Ga w' (hra.newer (K0.out.trans k (by simp)))
  have EnA : Hid (∀ w', Keeps [] ((W.alloc (rbox ra sva)).alloc (rbox rb svb)) w' → _) := fun w' k => encode_any ra sva Ga w' (hra.newer (K0.out.trans k (by simp))) (fun x hx => by have := hGa x hx; have := (K0.out.trans k (by simp)).size; omega)
  have CB : Hid (∀ w', Keeps [] ((W.alloc (rbox ra sva)).alloc (rbox rb svb)) w' → boxed w' (W.heap.size + 1) rb svb) := fun w' k => (let h := (cells6 (two_new k).2).1; ⟨h.1, h.2.1, h.2.2.1, h.2.2.2.1, h.2.2.2.2.1, h.2.2.2.2.2⟩)
  have FeB : Hid (∀ w', Keeps [] ((W.alloc (rbox ra sva)).alloc (rbox rb svb)) w' → _) := fun w' k => few_any rb svb Gb w' (hrb.newer (K0.out.trans k (by simp)))
  have PlB : Hid (∀ w', Keeps [] ((W.alloc (rbox ra sva)).alloc (rbox rb svb)) w' → _) := fun w' k => plain_any rb svb Gb w' (hrb.newer (K0.out.trans k (by simp)))
  have RkB : Hid (∀ w', Keeps [] ((W.alloc (rbox ra sva)).alloc (rbox rb svb)) w' → _) := fun w' k => rcheck_any rb svb Gb w' (hrb.newer (K0.out.trans k (by simp)))
  have EnB : Hid (∀ w', Keeps [] ((W.alloc (rbox ra sva)).alloc (rbox rb svb)) w' → _) := fun w' k => encode_any rb svb Gb w' (hrb.newer (K0.out.trans k (by simp))) (fun x hx => by have := hGb x hx; have := (K0.out.trans k (by simp)).size; omega)
  have Aw := Lib.hid (fun w => awake_any w)
  unfold fewB at hf hg
  rw [hf] at FeA
  rw [hg] at FeB
  rw [hc] at RkA
  have hcb : (rb.check != 0) = true := bne_iff_ne.2 hd
  generalize rb.check = V at *
  unfold Rc.val at *
  unfold boxed at CA CB
  unfold rbox at *
  obtain ⟨ada, capa, rfl, _⟩ := hra.at_
  obtain ⟨adb, capb, rfl, _⟩ := hrb.at_
  clear hra hrb hGa hGb EnA EnB hf hg hc hd
  go_enter Try.func8, Try.ntmps8
  go_wp2_with (first
    | (go_at_call 9; (with_reducible refine (FeA.out _ Kr).mono ?_); rintro e w1 ⟨rfl, k1⟩; replace Kr := KT Kr k1; clear k1; (try clear d0 d1 d2 d3 d4 d5 e0 e1 e2 e3 e4 e5); obtain ⟨d0, d1, d2, d3, d4, d5⟩ := CA.out _ Kr; obtain ⟨e0, e1, e2, e3, e4, e5⟩ := CB.out _ Kr)
    | (go_at_call 9; (with_reducible refine (FeB.out _ Kr).mono ?_); rintro e w1 ⟨rfl, k1⟩; replace Kr := KT Kr k1; clear k1; (try clear d0 d1 d2 d3 d4 d5 e0 e1 e2 e3 e4 e5); obtain ⟨d0, d1, d2, d3, d4, d5⟩ := CA.out _ Kr; obtain ⟨e0, e1, e2, e3, e4, e5⟩ := CB.out _ Kr)
    | (go_at_call 12; (with_reducible refine (PlA.out _ Kr).mono ?_); rintro e w1 ⟨rfl, k1⟩; replace Kr := KT Kr k1; clear k1; (try clear d0 d1 d2 d3 d4 d5 e0 e1 e2 e3 e4 e5); obtain ⟨d0, d1, d2, d3, d4, d5⟩ := CA.out _ Kr; obtain ⟨e0, e1, e2, e3, e4, e5⟩ := CB.out _ Kr)
    | (go_at_call 11; (with_reducible refine (RkA.out _ Kr).mono ?_); rintro e w1 ⟨rfl, k1⟩; replace Kr := KT Kr k1; clear k1; (try clear d0 d1 d2 d3 d4 d5 e0 e1 e2 e3 e4 e5); obtain ⟨d0, d1, d2, d3, d4, d5⟩ := CA.out _ Kr; obtain ⟨e0, e1, e2, e3, e4, e5⟩ := CB.out _ Kr)
    | (go_at_call 12; (with_reducible refine (PlB.out _ Kr).mono ?_); rintro e w1 ⟨rfl, k1⟩; replace Kr := KT Kr k1; clear k1; (try clear d0 d1 d2 d3 d4 d5 e0 e1 e2 e3 e4 e5); obtain ⟨d0, d1, d2, d3, d4, d5⟩ := CA.out _ Kr; obtain ⟨e0, e1, e2, e3, e4, e5⟩ := CB.out _ Kr)
    | (go_at_call 11; (with_reducible refine (RkB.out _ Kr).mono ?_); rintro e w1 ⟨rfl, k1⟩; replace Kr := KT Kr k1; clear k1; (try clear d0 d1 d2 d3 d4 d5 e0 e1 e2 e3 e4 e5); obtain ⟨d0, d1, d2, d3, d4, d5⟩ := CA.out _ Kr; obtain ⟨e0, e1, e2, e3, e4, e5⟩ := CB.out _ Kr)
    | (go_at_call 10; (with_reducible refine (Aw.out _).mono ?_); rintro e w1 ⟨rfl, k1⟩; replace Kr := KT Kr k1; clear k1; (try clear d0 d1 d2 d3 d4 d5 e0 e1 e2 e3 e4 e5); obtain ⟨d0, d1, d2, d3, d4, d5⟩ := CA.out _ Kr; obtain ⟨e0, e1, e2, e3, e4, e5⟩ := CB.out _ Kr))
  go_ret
  exact ⟨rfl, KT K0.out Kr⟩

set_option maxHeartbeats 4000000 in
theorem walk_good (ra rb : Rc) (sva svb : Value) (Ga Gb : List Nat) (W : World) (hra : ra.good W sva Ga) (hGa : ∀ k, k ∈ Ga → k < W.heap.size) (hrb : rb.good W svb Gb) (hGb : ∀ k, k ∈ Gb → k < W.heap.size) (hf : fewB ra = true) (hg : fewB rb = true) (hca : ra.check = 0) (hcb : rb.check = 0) : Calls Try.prog 8 #[ra.val sva, rb.val svb] W fun e w' => e = .returned (.bool true) ∧ Keeps [] W w' := by
  have K0 := Lib.hid (((Keeps.refl [] W).alloc (rbox ra sva)).alloc (rbox rb svb))
  have Kr := Keeps.refl [] ((W.alloc (rbox ra sva)).alloc (rbox rb svb))
  have CA : Hid (∀ w', Keeps [] ((W.alloc (rbox ra sva)).alloc (rbox rb svb)) w' → boxed w' (W.heap.size) ra sva) := fun w' k => (let h := (cells6 (two_new k).1).1; ⟨h.1, h.2.1, h.2.2.1, h.2.2.2.1, h.2.2.2.2.1, h.2.2.2.2.2⟩)
  have FeA : Hid (∀ w', Keeps [] ((W.alloc (rbox ra sva)).alloc (rbox rb svb)) w' → _) := fun w' k => few_any ra sva Ga w' (hra.newer (K0.out.trans k (by simp)))
  have PlA : Hid (∀ w', Keeps [] ((W.alloc (rbox ra sva)).alloc (rbox rb svb)) w' → _) := fun w' k => plain_any ra sva Ga w' (hra.newer (K0.out.trans k (by simp)))
  have RkA : Hid (∀ w', Keeps [] ((W.alloc (rbox ra sva)).alloc (rbox rb svb)) w' → _) := fun w' k => rcheck_any ra sva Ga w' (hra.newer (K0.out.trans k (by simp)))
  have EnA : Hid (∀ w', Keeps [] ((W.alloc (rbox ra sva)).alloc (rbox rb svb)) w' → _) := fun w' k => encode_any ra sva Ga w' (hra.newer (K0.out.trans k (by simp))) (fun x hx => by have := hGa x hx; have := (K0.out.trans k (by simp)).size; omega)
  have CB : Hid (∀ w', Keeps [] ((W.alloc (rbox ra sva)).alloc (rbox rb svb)) w' → boxed w' (W.heap.size + 1) rb svb) := fun w' k => (let h := (cells6 (two_new k).2).1; ⟨h.1, h.2.1, h.2.2.1, h.2.2.2.1, h.2.2.2.2.1, h.2.2.2.2.2⟩)
  have FeB : Hid (∀ w', Keeps [] ((W.alloc (rbox ra sva)).alloc (rbox rb svb)) w' → _) := fun w' k => few_any rb svb Gb w' (hrb.newer (K0.out.trans k (by simp)))
  have PlB : Hid (∀ w', Keeps [] ((W.alloc (rbox ra sva)).alloc (rbox rb svb)) w' → _) := fun w' k => plain_any rb svb Gb w' (hrb.newer (K0.out.trans k (by simp)))
  have RkB : Hid (∀ w', Keeps [] ((W.alloc (rbox ra sva)).alloc (rbox rb svb)) w' → _) := fun w' k => rcheck_any rb svb Gb w' (hrb.newer (K0.out.trans k (by simp)))
  have EnB : Hid (∀ w', Keeps [] ((W.alloc (rbox ra sva)).alloc (rbox rb svb)) w' → _) := fun w' k => encode_any rb svb Gb w' (hrb.newer (K0.out.trans k (by simp))) (fun x hx => by have := hGb x hx; have := (K0.out.trans k (by simp)).size; omega)
  have Aw := Lib.hid (fun w => awake_any w)
  have hea : ra.encV.2 = 0 := by rw [enc_shape hca]
  have hla := enc_allS hca
  obtain ⟨da1, da2⟩ := data_len hca
  obtain ⟨hoka, hdla, _⟩ := Rc.check_ok hca
  have hsba := secs_bd (hoka.len (crcMore 0 ra.dt))
  have halla : ra.allS = Rc.secs (ra.bodyB (crcMore 0 ra.dt)).length + ra.dt.length / 64 := rfl
  have SzA : Hid (∀ w', Keeps [] ((W.alloc (rbox ra sva)).alloc (rbox rb svb)) w' → Calls Try.prog 15 #[ra.val sva] w' fun e w'' => e = .returned (.int .i64 ra.allS) ∧ Keeps [] w' w'') := fun w' k => by
    have h := rsize_any ra sva Ga w' (hra.newer (K0.out.trans k (by simp))) (fun x hx => by have := hGa x hx; have := (K0.out.trans k (by simp)).size; omega) (by omega)
    rw [hla, Nat.mul_div_cancel_left _ (by decide)] at h
    exact h
  have SmA := Lib.hid (fun w' v1 G1 (h1 : ra.good w' v1 G1) (k : Keeps [] W w') => same_any ra v1 sva G1 Ga w' h1 (hra.newer k))
  have heb : rb.encV.2 = 0 := by rw [enc_shape hcb]
  have hlb := enc_allS hcb
  obtain ⟨db1, db2⟩ := data_len hcb
  obtain ⟨hokb, hdlb, _⟩ := Rc.check_ok hcb
  have hsbb := secs_bd (hokb.len (crcMore 0 rb.dt))
  have hallb : rb.allS = Rc.secs (rb.bodyB (crcMore 0 rb.dt)).length + rb.dt.length / 64 := rfl
  have SzB : Hid (∀ w', Keeps [] ((W.alloc (rbox ra sva)).alloc (rbox rb svb)) w' → Calls Try.prog 15 #[rb.val svb] w' fun e w'' => e = .returned (.int .i64 rb.allS) ∧ Keeps [] w' w'') := fun w' k => by
    have h := rsize_any rb svb Gb w' (hrb.newer (K0.out.trans k (by simp))) (fun x hx => by have := hGb x hx; have := (K0.out.trans k (by simp)).size; omega) (by omega)
    rw [hlb, Nat.mul_div_cancel_left _ (by decide)] at h
    exact h
  have SmB := Lib.hid (fun w' v1 G1 (h1 : rb.good w' v1 G1) (k : Keeps [] W w') => same_any rb v1 svb G1 Gb w' h1 (hrb.newer k))
  have De1 := Lib.hid (fun w => dec_all (ra.encV.1 ++ rb.encV.1) w (by rw [List.length_append]; omega))
  rw [dec_back hca] at De1
  have De2 := Lib.hid (fun w => dec_all rb.encV.1 w (by omega))
  have hdb := dec_back hcb []
  rw [List.append_nil] at hdb
  rw [hdb] at De2
  have He2 := Lib.hid (fun w => head_all rb.encV.1 w (by omega))
  have hhb := head_back hcb []
  rw [List.append_nil] at hhb
  rw [hhb] at He2
  clear hdb hhb
  have A1 := fun w => cat_run ra.encV.1 rb.encV.1 (by omega) w
  have hcut : (str (ra.encV.1 ++ rb.encV.1)).extract ra.encV.1.length (ra.encV.1 ++ rb.encV.1).length = str rb.encV.1 := by rw [str_extract, str_data, List.drop_left, List.length_append, Nat.add_sub_cancel_left, List.take_length]
  have b1 : ra.encV.1.length ≤ (ra.encV.1 ++ rb.encV.1).length := by rw [List.length_append]; omega
  have b9 : (ra.encV.1 ++ rb.encV.1).length ≤ 100000 := by rw [List.length_append]; omega
  unfold fewB at hf hg
  rw [hf] at FeA
  rw [hg] at FeB
  rw [hca] at RkA
  rw [hcb] at RkB
  rw [hea] at EnA
  rw [heb] at EnB
  have hz := str_empty
  unfold DecPost at De1 De2
  unfold HeadPost at He2
  dsimp only at De1 De2 He2
  unfold Rc.val at *
  unfold boxed at CA CB
  unfold rbox at *
  obtain ⟨ada, capa, rfl, _⟩ := hra.at_
  obtain ⟨adb, capb, rfl, _⟩ := hrb.at_
  dsimp only at De1 De2 He2
  generalize ra.encV.1 ++ rb.encV.1 = ET at *
  generalize ra.encV.1 = EA at *
  generalize rb.encV.1 = EB at *
  generalize ra.allS = ZA at *
  generalize rb.allS = ZB at *
  generalize Rc.secs (rb.bodyB (crcMore 0 rb.dt)).length = N at *
  obtain ⟨T, hT⟩ : ∃ T, rb.dt.length / 64 = T := ⟨_, rfl⟩
  rw [hT] at db1 hallb He2
  have hwA : IntKind.i64.wrap (64 * (ZA : Int)) = (EA.length : Int) := by rw [IntWalk.i64_in _ ⟨by omega, by omega⟩]; omega
  have hwB : IntKind.i64.wrap (64 * (ZB : Int)) = (EB.length : Int) := by rw [IntWalk.i64_in _ ⟨by omega, by omega⟩]; omega
  have hwT : IntKind.i64.wrap (64 * (T : Int)) = (rb.dt.length : Int) := by rw [IntWalk.i64_in _ ⟨by omega, by omega⟩]; omega
  have hwN : IntKind.i64.wrap ((N : Int) + (T : Int)) = (ZB : Int) := by rw [IntWalk.i64_in _ ⟨by omega, by omega⟩]; omega
  have b2 : (EA.length : Int) ≤ (ET.length : Int) := by omega
  have b3 : decide ((ET.length : Int) < (EA.length : Int)) = false := decide_eq_false (by omega)
  have b4 : decide (ET.length < EA.length) = false := decide_eq_false (by omega)
  have b5 : decide (EA.length ≤ ET.length) = true := decide_eq_true (by omega)
  have b6 : decide (1 ≤ (N : Int)) = true := decide_eq_true (by omega)
  have b7 : decide (1 ≤ N) = true := decide_eq_true (by omega)
  have b8 : 1 ≤ N := by omega
  clear hra hrb hGa hGb hf hg hca hcb hea heb hoka hokb da1 da2 db1 db2 halla hallb hT hsba hsbb hdla hdlb hla hlb
  go_enter Try.func8, Try.ntmps8
  go_wp2_with (first
    | (go_at_call 9; (with_reducible refine (FeA.out _ Kr).mono ?_); rintro e w1 ⟨rfl, k1⟩; replace Kr := KT Kr k1; clear k1; (try clear d0 d1 d2 d3 d4 d5 e0 e1 e2 e3 e4 e5); obtain ⟨d0, d1, d2, d3, d4, d5⟩ := CA.out _ Kr; obtain ⟨e0, e1, e2, e3, e4, e5⟩ := CB.out _ Kr)
    | (go_at_call 9; (with_reducible refine (FeB.out _ Kr).mono ?_); rintro e w1 ⟨rfl, k1⟩; replace Kr := KT Kr k1; clear k1; (try clear d0 d1 d2 d3 d4 d5 e0 e1 e2 e3 e4 e5); obtain ⟨d0, d1, d2, d3, d4, d5⟩ := CA.out _ Kr; obtain ⟨e0, e1, e2, e3, e4, e5⟩ := CB.out _ Kr)
    | (go_at_call 12; (with_reducible refine (PlA.out _ Kr).mono ?_); rintro e w1 ⟨rfl, k1⟩; replace Kr := KT Kr k1; clear k1; (try clear d0 d1 d2 d3 d4 d5 e0 e1 e2 e3 e4 e5); obtain ⟨d0, d1, d2, d3, d4, d5⟩ := CA.out _ Kr; obtain ⟨e0, e1, e2, e3, e4, e5⟩ := CB.out _ Kr)
    | (go_at_call 12; (with_reducible refine (PlB.out _ Kr).mono ?_); rintro e w1 ⟨rfl, k1⟩; replace Kr := KT Kr k1; clear k1; (try clear d0 d1 d2 d3 d4 d5 e0 e1 e2 e3 e4 e5); obtain ⟨d0, d1, d2, d3, d4, d5⟩ := CA.out _ Kr; obtain ⟨e0, e1, e2, e3, e4, e5⟩ := CB.out _ Kr)
    | (go_at_call 11; (with_reducible refine (RkA.out _ Kr).mono ?_); rintro e w1 ⟨rfl, k1⟩; replace Kr := KT Kr k1; clear k1; (try clear d0 d1 d2 d3 d4 d5 e0 e1 e2 e3 e4 e5); obtain ⟨d0, d1, d2, d3, d4, d5⟩ := CA.out _ Kr; obtain ⟨e0, e1, e2, e3, e4, e5⟩ := CB.out _ Kr)
    | (go_at_call 11; (with_reducible refine (RkB.out _ Kr).mono ?_); rintro e w1 ⟨rfl, k1⟩; replace Kr := KT Kr k1; clear k1; (try clear d0 d1 d2 d3 d4 d5 e0 e1 e2 e3 e4 e5); obtain ⟨d0, d1, d2, d3, d4, d5⟩ := CA.out _ Kr; obtain ⟨e0, e1, e2, e3, e4, e5⟩ := CB.out _ Kr)
    | (go_at_call 13; (with_reducible refine (EnA.out _ Kr).mono ?_); rintro e w1 ⟨rfl, k1⟩; replace Kr := KT Kr k1; clear k1; (try clear d0 d1 d2 d3 d4 d5 e0 e1 e2 e3 e4 e5); obtain ⟨d0, d1, d2, d3, d4, d5⟩ := CA.out _ Kr; obtain ⟨e0, e1, e2, e3, e4, e5⟩ := CB.out _ Kr)
    | (go_at_call 13; (with_reducible refine (EnB.out _ Kr).mono ?_); rintro e w1 ⟨rfl, k1⟩; replace Kr := KT Kr k1; clear k1; (try clear d0 d1 d2 d3 d4 d5 e0 e1 e2 e3 e4 e5); obtain ⟨d0, d1, d2, d3, d4, d5⟩ := CA.out _ Kr; obtain ⟨e0, e1, e2, e3, e4, e5⟩ := CB.out _ Kr)
    | (go_at_call 18; (with_reducible refine (De1.out _).mono ?_); rintro e w5 ⟨sx, Gx, rfl, hgx, hGx, k5⟩; obtain ⟨adx, capx, rfl, _⟩ := hgx.at_; have Hgx := Lib.hid hgx; replace Kr := KT Kr k5; (try clear d0 d1 d2 d3 d4 d5 e0 e1 e2 e3 e4 e5); clear hgx hGx k5))
  have Kr0 := Lib.hid (Kr.alloc (.cells #[.int .i64 ra.ep, .int .i64 ra.nr, .int .i64 ra.kd, .slice adx ra.sp.length capx, .string (str ra.dt), .string (str ra.tx)] 24))
  have CX : Hid (∀ w', Keeps [] (w5.alloc (.cells #[.int .i64 ra.ep, .int .i64 ra.nr, .int .i64 ra.kd, .slice adx ra.sp.length capx, .string (str ra.dt), .string (str ra.tx)] 24)) w' → ((w'.cell? ⟨W.heap.size, 0, none⟩ = some (.int .i64 ra.ep) ∧ w'.cell? ⟨W.heap.size, 1, none⟩ = some (.int .i64 ra.nr) ∧ w'.cell? ⟨W.heap.size, 2, none⟩ = some (.int .i64 ra.kd) ∧ w'.cell? ⟨W.heap.size, 3, none⟩ = some (.slice ada ra.sp.length capa) ∧ w'.cell? ⟨W.heap.size, 4, none⟩ = some (.string (str ra.dt)) ∧ w'.cell? ⟨W.heap.size, 5, none⟩ = some (.string (str ra.tx))) ∧ (w'.cell? ⟨w5.heap.size, 0, none⟩ = some (.int .i64 ra.ep) ∧ w'.cell? ⟨w5.heap.size, 1, none⟩ = some (.int .i64 ra.nr) ∧ w'.cell? ⟨w5.heap.size, 2, none⟩ = some (.int .i64 ra.kd) ∧ w'.cell? ⟨w5.heap.size, 3, none⟩ = some (.slice adx ra.sp.length capx) ∧ w'.cell? ⟨w5.heap.size, 4, none⟩ = some (.string (str ra.dt)) ∧ w'.cell? ⟨w5.heap.size, 5, none⟩ = some (.string (str ra.tx))))) := fun w' k => ⟨CA.out _ (KT Kr0.out k), (cells6 (k.some (heap_at (w := w5) (k := w5.heap.size) (o := (.cells #[.int .i64 ra.ep, .int .i64 ra.nr, .int .i64 ra.kd, .slice adx ra.sp.length capx, .string (str ra.dt), .string (str ra.tx)] 24)) rfl) (by simp))).1⟩
  have Kq0 := Keeps.refl [] (w5.alloc (.cells #[.int .i64 ra.ep, .int .i64 ra.nr, .int .i64 ra.kd, .slice adx ra.sp.length capx, .string (str ra.dt), .string (str ra.tx)] 24))
  have Kq := (Keeps.refl [] (w5.alloc (.cells #[.int .i64 ra.ep, .int .i64 ra.nr, .int .i64 ra.kd, .slice adx ra.sp.length capx, .string (str ra.dt), .string (str ra.tx)] 24))).drew
  clear Kr
  go_region_held3 (fun w' => ((w'.cell? ⟨W.heap.size, 0, none⟩ = some (.int .i64 ra.ep) ∧ w'.cell? ⟨W.heap.size, 1, none⟩ = some (.int .i64 ra.nr) ∧ w'.cell? ⟨W.heap.size, 2, none⟩ = some (.int .i64 ra.kd) ∧ w'.cell? ⟨W.heap.size, 3, none⟩ = some (.slice ada ra.sp.length capa) ∧ w'.cell? ⟨W.heap.size, 4, none⟩ = some (.string (str ra.dt)) ∧ w'.cell? ⟨W.heap.size, 5, none⟩ = some (.string (str ra.tx))) ∧ (w'.cell? ⟨w5.heap.size, 0, none⟩ = some (.int .i64 ra.ep) ∧ w'.cell? ⟨w5.heap.size, 1, none⟩ = some (.int .i64 ra.nr) ∧ w'.cell? ⟨w5.heap.size, 2, none⟩ = some (.int .i64 ra.kd) ∧ w'.cell? ⟨w5.heap.size, 3, none⟩ = some (.slice adx ra.sp.length capx) ∧ w'.cell? ⟨w5.heap.size, 4, none⟩ = some (.string (str ra.dt)) ∧ w'.cell? ⟨w5.heap.size, 5, none⟩ = some (.string (str ra.tx))))) (first | (with_reducible exact CX.out _ Kq0) | (with_reducible exact CX.out _ Kq)) (first
    | (go_at_call 12; (with_reducible refine (PlA.out _ (KT Kr0.out Kq)).mono ?_); rintro e w8 ⟨rfl, k8⟩; replace Kq := KT Kq k8; clear k8)
    | (go_at_call 23; (with_reducible refine (SmA.out _ _ _ (Hgx.out.newer (KT ((Keeps.refl [] w5).alloc (.cells #[.int .i64 ra.ep, .int .i64 ra.nr, .int .i64 ra.kd, .slice adx ra.sp.length capx, .string (str ra.dt), .string (str ra.tx)] 24)) Kq)) (KT K0.out (KT Kr0.out Kq))).mono ?_); rintro e w8 ⟨rfl, k8⟩; replace Kq := KT Kq k8; clear k8))
  go_wp2_with (first
    | (go_at_call 18; (with_reducible refine (De2.out _).mono ?_); rintro e w6 ⟨sy, Gy, rfl, hgy, hGy, k6⟩; obtain ⟨ady, capy, rfl, _⟩ := hgy.at_; have Hgy := Lib.hid hgy; have K6 := Lib.hid (KT Kq k6); clear hgy hGy k6 Kq)
    | (go_at_call 20; (with_reducible refine (He2.out _).mono ?_); rintro e w7 ⟨sz, Gz, rfl, hgz, hGz, k7⟩; obtain ⟨adz, capz, rfl, _⟩ := hgz.at_; have K7 := Lib.hid k7; clear hgz hGz k7))
  have Kr1 := Lib.hid (KT (KT Kr0.out (K6.out.alloc (.cells #[.int .i64 rb.ep, .int .i64 rb.nr, .int .i64 rb.kd, .slice ady rb.sp.length capy, .string (str rb.dt), .string (str rb.tx)] 24))) (K7.out.alloc (.cells #[.int .i64 rb.ep, .int .i64 rb.nr, .int .i64 rb.kd, .slice adz rb.sp.length capz, .string (str []), .string (str rb.tx)] 24)))
  have KY := Lib.hid (K7.out.alloc (.cells #[.int .i64 rb.ep, .int .i64 rb.nr, .int .i64 rb.kd, .slice adz rb.sp.length capz, .string (str []), .string (str rb.tx)] 24))
  have CY : Hid (∀ w', Keeps [] (w7.alloc (.cells #[.int .i64 rb.ep, .int .i64 rb.nr, .int .i64 rb.kd, .slice adz rb.sp.length capz, .string (str []), .string (str rb.tx)] 24)) w' → ((w'.cell? ⟨W.heap.size, 0, none⟩ = some (.int .i64 ra.ep) ∧ w'.cell? ⟨W.heap.size, 1, none⟩ = some (.int .i64 ra.nr) ∧ w'.cell? ⟨W.heap.size, 2, none⟩ = some (.int .i64 ra.kd) ∧ w'.cell? ⟨W.heap.size, 3, none⟩ = some (.slice ada ra.sp.length capa) ∧ w'.cell? ⟨W.heap.size, 4, none⟩ = some (.string (str ra.dt)) ∧ w'.cell? ⟨W.heap.size, 5, none⟩ = some (.string (str ra.tx))) ∧ (w'.cell? ⟨W.heap.size + 1, 0, none⟩ = some (.int .i64 rb.ep) ∧ w'.cell? ⟨W.heap.size + 1, 1, none⟩ = some (.int .i64 rb.nr) ∧ w'.cell? ⟨W.heap.size + 1, 2, none⟩ = some (.int .i64 rb.kd) ∧ w'.cell? ⟨W.heap.size + 1, 3, none⟩ = some (.slice adb rb.sp.length capb) ∧ w'.cell? ⟨W.heap.size + 1, 4, none⟩ = some (.string (str rb.dt)) ∧ w'.cell? ⟨W.heap.size + 1, 5, none⟩ = some (.string (str rb.tx))) ∧ (w'.cell? ⟨w6.heap.size, 0, none⟩ = some (.int .i64 rb.ep) ∧ w'.cell? ⟨w6.heap.size, 1, none⟩ = some (.int .i64 rb.nr) ∧ w'.cell? ⟨w6.heap.size, 2, none⟩ = some (.int .i64 rb.kd) ∧ w'.cell? ⟨w6.heap.size, 3, none⟩ = some (.slice ady rb.sp.length capy) ∧ w'.cell? ⟨w6.heap.size, 4, none⟩ = some (.string (str rb.dt)) ∧ w'.cell? ⟨w6.heap.size, 5, none⟩ = some (.string (str rb.tx))))) := fun w' k => ⟨CA.out _ (KT Kr1.out k), CB.out _ (KT Kr1.out k), (cells6 (k.some (KY.out.some (heap_at (w := w6) (k := w6.heap.size) (o := (.cells #[.int .i64 rb.ep, .int .i64 rb.nr, .int .i64 rb.kd, .slice ady rb.sp.length capy, .string (str rb.dt), .string (str rb.tx)] 24)) rfl) (by simp)) (by simp))).1⟩
  have Kp0 := Keeps.refl [] (w7.alloc (.cells #[.int .i64 rb.ep, .int .i64 rb.nr, .int .i64 rb.kd, .slice adz rb.sp.length capz, .string (str []), .string (str rb.tx)] 24))
  have Kp := (Keeps.refl [] (w7.alloc (.cells #[.int .i64 rb.ep, .int .i64 rb.nr, .int .i64 rb.kd, .slice adz rb.sp.length capz, .string (str []), .string (str rb.tx)] 24))).drew
  go_region_held3 (fun w' => ((w'.cell? ⟨W.heap.size, 0, none⟩ = some (.int .i64 ra.ep) ∧ w'.cell? ⟨W.heap.size, 1, none⟩ = some (.int .i64 ra.nr) ∧ w'.cell? ⟨W.heap.size, 2, none⟩ = some (.int .i64 ra.kd) ∧ w'.cell? ⟨W.heap.size, 3, none⟩ = some (.slice ada ra.sp.length capa) ∧ w'.cell? ⟨W.heap.size, 4, none⟩ = some (.string (str ra.dt)) ∧ w'.cell? ⟨W.heap.size, 5, none⟩ = some (.string (str ra.tx))) ∧ (w'.cell? ⟨W.heap.size + 1, 0, none⟩ = some (.int .i64 rb.ep) ∧ w'.cell? ⟨W.heap.size + 1, 1, none⟩ = some (.int .i64 rb.nr) ∧ w'.cell? ⟨W.heap.size + 1, 2, none⟩ = some (.int .i64 rb.kd) ∧ w'.cell? ⟨W.heap.size + 1, 3, none⟩ = some (.slice adb rb.sp.length capb) ∧ w'.cell? ⟨W.heap.size + 1, 4, none⟩ = some (.string (str rb.dt)) ∧ w'.cell? ⟨W.heap.size + 1, 5, none⟩ = some (.string (str rb.tx))) ∧ (w'.cell? ⟨w6.heap.size, 0, none⟩ = some (.int .i64 rb.ep) ∧ w'.cell? ⟨w6.heap.size, 1, none⟩ = some (.int .i64 rb.nr) ∧ w'.cell? ⟨w6.heap.size, 2, none⟩ = some (.int .i64 rb.kd) ∧ w'.cell? ⟨w6.heap.size, 3, none⟩ = some (.slice ady rb.sp.length capy) ∧ w'.cell? ⟨w6.heap.size, 4, none⟩ = some (.string (str rb.dt)) ∧ w'.cell? ⟨w6.heap.size, 5, none⟩ = some (.string (str rb.tx))))) (first | (with_reducible exact CY.out _ Kp0) | (with_reducible exact CY.out _ Kp)) (first
    | (go_at_call 12; (with_reducible refine (PlB.out _ (KT Kr1.out Kp)).mono ?_); rintro e w8 ⟨rfl, k8⟩; replace Kp := KT Kp k8; clear k8)
    | (go_at_call 23; (with_reducible refine (SmB.out _ _ _ (Hgy.out.newer (KT ((Keeps.refl [] w6).alloc (.cells #[.int .i64 rb.ep, .int .i64 rb.nr, .int .i64 rb.kd, .slice ady rb.sp.length capy, .string (str rb.dt), .string (str rb.tx)] 24)) (KT KY.out Kp))) (KT K0.out (KT Kr1.out Kp))).mono ?_); rintro e w8 ⟨rfl, k8⟩; replace Kp := KT Kp k8; clear k8)
    | (go_at_call 15; (with_reducible refine (SzA.out _ (KT Kr1.out Kp)).mono ?_); rintro e w8 ⟨rfl, k8⟩; replace Kp := KT Kp k8; clear k8)
    | (go_at_call 15; (with_reducible refine (SzB.out _ (KT Kr1.out Kp)).mono ?_); rintro e w8 ⟨rfl, k8⟩; replace Kp := KT Kp k8; clear k8)
    | (go_at_call 10; (with_reducible refine (Aw.out _).mono ?_); rintro e w8 ⟨rfl, k8⟩; replace Kp := KT Kp k8; clear k8))
  go_wp2
  go_ret
  exact ⟨rfl, KT K0.out (KT Kr1.out Kp)⟩

theorem walk_any (a b : RcV) (W : World) (ga : a.good W) (gb : b.good W) : Calls Try.prog 8 #[.agg a.vals.toArray, .agg b.vals.toArray] W fun e w' => e = .returned (.bool true) ∧ Keeps [] W w' := by
  obtain ⟨Ga, hra, hGa⟩ := ga
  obtain ⟨Gb, hrb, hGb⟩ := gb
  by_cases hf : fewB a.r = true
  · by_cases hg : fewB b.r = true
    · by_cases hc : a.r.check = 0
      · by_cases hd : b.r.check = 0
        · exact walk_good a.r b.r a.sv b.sv Ga Gb W hra hGa hrb hGb hf hg hc hd
        · exact walk_bad2 a.r b.r a.sv b.sv Ga Gb W hra hGa hrb hGb hf hg hc hd
      · exact walk_bad1 a.r b.r a.sv b.sv Ga Gb W hra hGa hrb hGb hf hg hc
    · exact walk_many2 a.r b.r a.sv b.sv Ga Gb W hra hGa hrb hGb hf (by simpa using hg)
  · exact walk_many1 a.r b.r a.sv b.sv Ga Gb W hra hGa hrb hGb (by simpa using hf)
-- ROWEND
set_option maxRecDepth 100000 in
theorem lifted (os : Os) (started : os.Started) (H : Type) (enc : TypeId × Value → H) :
    ReturnsInHanded {} Try.checked os 8 .any (Rows.recordPairsSpec.pre6 enc Try.prog Try.f8 Rows.recordPairsRow.domain false) (Rows.recordPairsSpec.post enc Try.prog Try.f8 false true false false) := by
  refine returnsInHanded_of_change (C := Try.checked) Try.own started (by kernel_rfl) Try.func8
    (ChangeSpec.witness6 (enc := enc) (C := Try.checked) false ⟨#[], #[.agg #[.int .i64 0, .int .i64 0, .int .i64 0, .slice none 0 0, .string .empty, .string .empty], .agg #[.int .i64 0, .int .i64 0, .int .i64 0, .slice none 0 0, .string .empty, .string .empty]], []⟩ 8 (by kernel_rfl) (by kernel_rfl) (by kernel_rfl) (by kernel_rfl)) ?_
  intro W base args ds gs before hval0 hW _ _
  have hval : ∀ (j : Nat) t v, Try.f8.params[j]? = some t → args[j]? = some v → Value.okWide Try.prog W .any base t v := hval0
  have hW' := hW
  obtain ⟨p, q, hA0, hV, rfl, hfz, hnd⟩ := hW
  have hA : DataW.TrodAll enc Try.prog W 0 (fun _ => true) true Try.f8.params.toList args.toList ds p := hA0
  rw [Try.params8] at hA hval
  obtain ⟨v0, vs0, d0, ds0, p0, q0, hargs, rfl, rfl, h0, r0⟩ := trodAll_cons hA
  obtain ⟨v1, vs1, d1, ds1, p1, q1, rfl, rfl, rfl, h1, r1⟩ := trodAll_cons r0
  obtain ⟨rfl, rfl, rfl⟩ := trodAll_nil r1
  obtain rfl : args = #[v0, v1] := by cases args; simp_all
  obtain ⟨cs0, n0, x0, rfl, e0⟩ := open_agg Try.underlying24 (hval 0 24 v0 rfl rfl) h0
  obtain ⟨a, c0, ga⟩ := elem_rec e0
  obtain rfl : cs0 = (a.vals).toArray := by rw [← c0]
  obtain ⟨cs1, n1, x1, rfl, e1⟩ := open_agg Try.underlying24 (hval 1 24 v1 rfl rfl) h1
  obtain ⟨b, c1, gb⟩ := elem_rec e1
  obtain rfl : cs1 = (b.vals).toArray := by rw [← c1]
  refine (walk_any a b W ga gb).mono fun e W' ⟨he, hk⟩ => ?_
  subst he
  exact ⟨_, rfl, law_end Try.laidOut (by kernel_rfl) rfl rfl Try.underlying4 hW' rfl hk⟩

theorem proved : Rows.RecordPairsSaid :=
  OpenClaim.holds_of_wide 8 Try.f8 rfl rfl rfl rfl rfl rfl rfl ⟨rfl, rfl, rfl, rfl, rfl⟩ rfl rfl rfl rfl rfl (by kernel_rfl) Try.func8 (by kernel_rfl)
    (of_decide_eq_true (by kernel_rfl)) (by unfold Func.isWrapper; first | (rw [if_pos (by decide +kernel)]; kernel_rfl) | (rw [if_neg (by decide +kernel)]; exact ⟨rfl, rfl⟩))
    (fun os started H enc _ => lifted os started H enc)
end Go.Proofs.Ytjebldfmkpfafaa.lawRecordPairs
