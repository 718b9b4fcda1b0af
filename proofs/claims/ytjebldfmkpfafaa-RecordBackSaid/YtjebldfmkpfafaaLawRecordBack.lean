/-
What is proved: RecordBack. For every record that may be (and is not too much for all that is asked here), and any bytes behind its sectors (at most 500): what Encode makes of it is decoded as the same record, and Head tells it without its data. No conditions.
-/
import Derived.Test.YtjebldfmkpfafaaRecL
import Derived.Test.YtjebldfmkpfafaaRecY
import Derived.Test.YtjebldfmkpfafaaRecX
namespace Go.Proofs.Ytjebldfmkpfafaa.lawRecordBack
open Go.ChangeShapes Go.WideShapes Go.ChangeAt Go.RowKit
open Go.ChangeMaps (open_string shut_string)
set_option maxRecDepth 100000

def fewB (r : Rc) : Bool := decide ((r.sp.length : Int) ≤ 80) && (decide ((r.dt.length : Int) ≤ 2000) || (decide (32768 < (r.dt.length : Int)) && decide ((r.dt.length : Int) < 40000))) && decide ((r.tx.length : Int) ≤ 600)

set_option maxHeartbeats 4000000 in
theorem walk_many (r : Rc) (sv : Value) (G : List Nat) (t : List UInt8) (W : World) (hr : r.good W sv G) (hG : ∀ k, k ∈ G → k < W.heap.size) (_ht63 : t.length ≤ 9223372036854775807) (hf : fewB r = false) : Calls Try.prog 7 #[r.val sv, .string (str t)] W fun e w' => e = .returned (.bool true) ∧ Keeps [] W w' := by
  have CB : Hid (∀ w', Keeps [] (W.alloc (rbox r sv)) w' → boxed w' W.heap.size r sv) := fun w' k => boxed_new k
  have K0 := Lib.hid ((Keeps.refl [] W).alloc (rbox r sv))
  have Kr := Keeps.refl [] (W.alloc (rbox r sv))
  have Fe : Hid (∀ w', Keeps [] (W.alloc (rbox r sv)) w' → _) := fun w' k => few_any r sv G w' (hr.newer (K0.out.trans k (by simp)))
  have Pl : Hid (∀ w', Keeps [] (W.alloc (rbox r sv)) w' → _) := fun w' k => plain_any r sv G w' (hr.newer (K0.out.trans k (by simp)))
  have Rk : Hid (∀ w', Keeps [] (W.alloc (rbox r sv)) w' → _) := fun w' k => rcheck_any r sv G w' (hr.newer (K0.out.trans k (by simp)))
  have En : Hid (∀ w', Keeps [] (W.alloc (rbox r sv)) w' → _) := fun w' k => encode_any r sv G w' (hr.newer (K0.out.trans k (by simp))) (fun x hx => by have := hG x hx; have := (K0.out.trans k (by simp)).size; omega)
  have Ck : Hid (∀ w', Keeps [] (W.alloc (rbox r sv)) w' → _) := fun w' k => check_any r sv G w' (hr.newer (K0.out.trans k (by simp)))
  have Aw := Lib.hid (fun w => awake_any w)
  unfold fewB at hf
  rw [hf] at Fe
  unfold Rc.val at *
  unfold boxed at CB
  unfold rbox at *
  obtain ⟨ad, cap, rfl, _⟩ := hr.at_
  clear hr hG Pl Rk En Ck hf
  go_enter Try.func7, Try.ntmps7
  go_wp2_with (first
    | (go_at_call 9; (with_reducible refine (Fe.out _ Kr).mono ?_); rintro e w1 ⟨rfl, k1⟩; replace Kr := KT Kr k1; clear k1; (try clear d0 d1 d2 d3 d4 d5); obtain ⟨d0, d1, d2, d3, d4, d5⟩ := CB.out _ Kr)
    | (go_at_call 10; (with_reducible refine (Aw.out _).mono ?_); rintro e w1 ⟨rfl, k1⟩; replace Kr := KT Kr k1; clear k1; (try clear d0 d1 d2 d3 d4 d5); obtain ⟨d0, d1, d2, d3, d4, d5⟩ := CB.out _ Kr))
  go_ret
  exact ⟨rfl, KT K0.out Kr⟩

set_option maxHeartbeats 4000000 in
theorem walk_long (r : Rc) (sv : Value) (G : List Nat) (t : List UInt8) (W : World) (hr : r.good W sv G) (hG : ∀ k, k ∈ G → k < W.heap.size) (ht63 : t.length ≤ 9223372036854775807) (hf : fewB r = true) (ht : 500 < t.length) : Calls Try.prog 7 #[r.val sv, .string (str t)] W fun e w' => e = .returned (.bool true) ∧ Keeps [] W w' := by
  have CB : Hid (∀ w', Keeps [] (W.alloc (rbox r sv)) w' → boxed w' W.heap.size r sv) := fun w' k => boxed_new k
  have K0 := Lib.hid ((Keeps.refl [] W).alloc (rbox r sv))
  have Kr := Keeps.refl [] (W.alloc (rbox r sv))
  have Fe : Hid (∀ w', Keeps [] (W.alloc (rbox r sv)) w' → _) := fun w' k => few_any r sv G w' (hr.newer (K0.out.trans k (by simp)))
  have Pl : Hid (∀ w', Keeps [] (W.alloc (rbox r sv)) w' → _) := fun w' k => plain_any r sv G w' (hr.newer (K0.out.trans k (by simp)))
  have Rk : Hid (∀ w', Keeps [] (W.alloc (rbox r sv)) w' → _) := fun w' k => rcheck_any r sv G w' (hr.newer (K0.out.trans k (by simp)))
  have En : Hid (∀ w', Keeps [] (W.alloc (rbox r sv)) w' → _) := fun w' k => encode_any r sv G w' (hr.newer (K0.out.trans k (by simp))) (fun x hx => by have := hG x hx; have := (K0.out.trans k (by simp)).size; omega)
  have Ck : Hid (∀ w', Keeps [] (W.alloc (rbox r sv)) w' → _) := fun w' k => check_any r sv G w' (hr.newer (K0.out.trans k (by simp)))
  have Aw := Lib.hid (fun w => awake_any w)
  unfold fewB at hf
  rw [hf] at Fe
  have h5 : decide (500 < (t.length : Int)) = true := decide_eq_true (by omega)
  have h6 : (t.length : Int) ≤ 9223372036854775807 := by omega
  unfold Rc.val at *
  unfold boxed at CB
  unfold rbox at *
  obtain ⟨ad, cap, rfl, _⟩ := hr.at_
  clear hr hG Pl Rk En Ck hf
  go_enter Try.func7, Try.ntmps7
  go_wp2_with (first
    | (go_at_call 9; (with_reducible refine (Fe.out _ Kr).mono ?_); rintro e w1 ⟨rfl, k1⟩; replace Kr := KT Kr k1; clear k1; (try clear d0 d1 d2 d3 d4 d5); obtain ⟨d0, d1, d2, d3, d4, d5⟩ := CB.out _ Kr)
    | (go_at_call 10; (with_reducible refine (Aw.out _).mono ?_); rintro e w1 ⟨rfl, k1⟩; replace Kr := KT Kr k1; clear k1; (try clear d0 d1 d2 d3 d4 d5); obtain ⟨d0, d1, d2, d3, d4, d5⟩ := CB.out _ Kr))
  go_ret
  exact ⟨rfl, KT K0.out Kr⟩

set_option maxHeartbeats 4000000 in
theorem walk_bad (r : Rc) (sv : Value) (G : List Nat) (t : List UInt8) (W : World) (hr : r.good W sv G) (hG : ∀ k, k ∈ G → k < W.heap.size) (ht63 : t.length ≤ 9223372036854775807) (hf : fewB r = true) (ht : t.length ≤ 500) (hc : r.check ≠ 0) : Calls Try.prog 7 #[r.val sv, .string (str t)] W fun e w' => e = .returned (.bool true) ∧ Keeps [] W w' := by
  have CB : Hid (∀ w', Keeps [] (W.alloc (rbox r sv)) w' → boxed w' W.heap.size r sv) := fun w' k => boxed_new k
  have K0 := Lib.hid ((Keeps.refl [] W).alloc (rbox r sv))
  have Kr := Keeps.refl [] (W.alloc (rbox r sv))
  have Fe : Hid (∀ w', Keeps [] (W.alloc (rbox r sv)) w' → _) := fun w' k => few_any r sv G w' (hr.newer (K0.out.trans k (by simp)))
  have Pl : Hid (∀ w', Keeps [] (W.alloc (rbox r sv)) w' → _) := fun w' k => plain_any r sv G w' (hr.newer (K0.out.trans k (by simp)))
  have Rk : Hid (∀ w', Keeps [] (W.alloc (rbox r sv)) w' → _) := fun w' k => rcheck_any r sv G w' (hr.newer (K0.out.trans k (by simp)))
  have En : Hid (∀ w', Keeps [] (W.alloc (rbox r sv)) w' → _) := fun w' k => encode_any r sv G w' (hr.newer (K0.out.trans k (by simp))) (fun x hx => by have := hG x hx; have := (K0.out.trans k (by simp)).size; omega)
  have Ck : Hid (∀ w', Keeps [] (W.alloc (rbox r sv)) w' → _) := fun w' k => check_any r sv G w' (hr.newer (K0.out.trans k (by simp)))
  have Aw := Lib.hid (fun w => awake_any w)
  unfold fewB at hf
  rw [hf] at Fe
  have h5 : decide (500 < (t.length : Int)) = false := decide_eq_false (by omega)
  have hcb : (r.check != 0) = true := bne_iff_ne.2 hc
  generalize r.check = V at *
  unfold Rc.val at *
  unfold boxed at CB
  unfold rbox at *
  obtain ⟨ad, cap, rfl, _⟩ := hr.at_
  clear hr hG En Ck hf hc
  go_enter Try.func7, Try.ntmps7
  go_wp2_with (first
    | (go_at_call 9; (with_reducible refine (Fe.out _ Kr).mono ?_); rintro e w1 ⟨rfl, k1⟩; replace Kr := KT Kr k1; clear k1; (try clear d0 d1 d2 d3 d4 d5); obtain ⟨d0, d1, d2, d3, d4, d5⟩ := CB.out _ Kr)
    | (go_at_call 12; (with_reducible refine (Pl.out _ Kr).mono ?_); rintro e w1 ⟨rfl, k1⟩; replace Kr := KT Kr k1; clear k1; (try clear d0 d1 d2 d3 d4 d5); obtain ⟨d0, d1, d2, d3, d4, d5⟩ := CB.out _ Kr)
    | (go_at_call 11; (with_reducible refine (Rk.out _ Kr).mono ?_); rintro e w1 ⟨rfl, k1⟩; replace Kr := KT Kr k1; clear k1; (try clear d0 d1 d2 d3 d4 d5); obtain ⟨d0, d1, d2, d3, d4, d5⟩ := CB.out _ Kr)
    | (go_at_call 10; (with_reducible refine (Aw.out _).mono ?_); rintro e w1 ⟨rfl, k1⟩; replace Kr := KT Kr k1; clear k1; (try clear d0 d1 d2 d3 d4 d5); obtain ⟨d0, d1, d2, d3, d4, d5⟩ := CB.out _ Kr))
  go_ret
  exact ⟨rfl, KT K0.out Kr⟩

set_option maxHeartbeats 4000000 in
theorem walk_good (r : Rc) (sv : Value) (G : List Nat) (t : List UInt8) (W : World) (hr : r.good W sv G) (hG : ∀ k, k ∈ G → k < W.heap.size) (ht63 : t.length ≤ 9223372036854775807) (hf : fewB r = true) (ht : t.length ≤ 500) (hc : r.check = 0) : Calls Try.prog 7 #[r.val sv, .string (str t)] W fun e w' => e = .returned (.bool true) ∧ Keeps [] W w' := by
  have CB : Hid (∀ w', Keeps [] (W.alloc (rbox r sv)) w' → boxed w' W.heap.size r sv) := fun w' k => boxed_new k
  have K0 := Lib.hid ((Keeps.refl [] W).alloc (rbox r sv))
  have Kr := Keeps.refl [] (W.alloc (rbox r sv))
  have Fe : Hid (∀ w', Keeps [] (W.alloc (rbox r sv)) w' → _) := fun w' k => few_any r sv G w' (hr.newer (K0.out.trans k (by simp)))
  have Pl : Hid (∀ w', Keeps [] (W.alloc (rbox r sv)) w' → _) := fun w' k => plain_any r sv G w' (hr.newer (K0.out.trans k (by simp)))
  have Rk : Hid (∀ w', Keeps [] (W.alloc (rbox r sv)) w' → _) := fun w' k => rcheck_any r sv G w' (hr.newer (K0.out.trans k (by simp)))
  have En : Hid (∀ w', Keeps [] (W.alloc (rbox r sv)) w' → _) := fun w' k => encode_any r sv G w' (hr.newer (K0.out.trans k (by simp))) (fun x hx => by have := hG x hx; have := (K0.out.trans k (by simp)).size; omega)
  have Ck : Hid (∀ w', Keeps [] (W.alloc (rbox r sv)) w' → _) := fun w' k => check_any r sv G w' (hr.newer (K0.out.trans k (by simp)))
  have Aw := Lib.hid (fun w => awake_any w)
  have he2 : r.encV.2 = 0 := by rw [enc_shape hc]
  have hl := enc_allS hc
  obtain ⟨d1', d2'⟩ := data_len hc
  obtain ⟨hok, hdl, _⟩ := Rc.check_ok hc
  have hsb := secs_bd (hok.len (crcMore 0 r.dt))
  have hall : r.allS = Rc.secs (r.bodyB (crcMore 0 r.dt)).length + r.dt.length / 64 := rfl
  have Sz : Hid (∀ w', Keeps [] (W.alloc (rbox r sv)) w' → Calls Try.prog 15 #[r.val sv] w' fun e w'' => e = .returned (.int .i64 r.allS) ∧ Keeps [] w' w'') := fun w' k => by
    have h := rsize_any r sv G w' (hr.newer (K0.out.trans k (by simp))) (fun x hx => by have := hG x hx; have := (K0.out.trans k (by simp)).size; omega) (by omega)
    rw [hl, Nat.mul_div_cancel_left _ (by decide)] at h
    exact h
  have De := Lib.hid (fun w => dec_all (r.encV.1 ++ t) w (by rw [List.length_append]; omega))
  have He := Lib.hid (fun w => head_all (r.encV.1 ++ t) w (by rw [List.length_append]; omega))
  rw [dec_back hc] at De
  rw [head_back hc] at He
  have A1 := fun w => cat_run r.encV.1 t (by omega) w
  have Sm := Lib.hid (fun w' v1 G1 (h1 : r.good w' v1 G1) (k : Keeps [] W w') => same_any r v1 sv G1 G w' h1 (hr.newer k))
  unfold fewB at hf
  rw [hf] at Fe
  rw [hc] at Rk
  rw [he2] at En
  have h5 : decide (500 < (t.length : Int)) = false := decide_eq_false (by omega)
  have hz := str_empty
  unfold DecPost at De
  unfold HeadPost at He
  dsimp only at De He
  unfold Rc.val at *
  unfold boxed at CB
  unfold rbox at *
  obtain ⟨ad, cap, rfl, _⟩ := hr.at_
  dsimp only at De He
  generalize hET : r.encV.1 ++ t = ET at *
  generalize r.encV.1 = E at *
  generalize r.allS = Z at *
  generalize Rc.secs (r.bodyB (crcMore 0 r.dt)).length = N at *
  obtain ⟨T, hT⟩ : ∃ T, r.dt.length / 64 = T := ⟨_, rfl⟩
  rw [hT] at d1' hall He
  have hwZ : IntKind.i64.wrap (64 * (Z : Int)) = 64 * (Z : Int) := IntWalk.i64_in _ ⟨by omega, by omega⟩
  have hwT : IntKind.i64.wrap (64 * (T : Int)) = (r.dt.length : Int) := by rw [IntWalk.i64_in _ ⟨by omega, by omega⟩]; omega
  have hwN : IntKind.i64.wrap ((N : Int) + (T : Int)) = (Z : Int) := by rw [IntWalk.i64_in _ ⟨by omega, by omega⟩]; omega
  clear hr hG hf hc he2 hET hok d1' d2' hall hT hsb Ck
  go_enter Try.func7, Try.ntmps7
  go_wp2_with (first
    | (go_at_call 9; (with_reducible refine (Fe.out _ Kr).mono ?_); rintro e w1 ⟨rfl, k1⟩; replace Kr := KT Kr k1; clear k1; (try clear d0 d1 d2 d3 d4 d5); obtain ⟨d0, d1, d2, d3, d4, d5⟩ := CB.out _ Kr)
    | (go_at_call 12; (with_reducible refine (Pl.out _ Kr).mono ?_); rintro e w1 ⟨rfl, k1⟩; replace Kr := KT Kr k1; clear k1; (try clear d0 d1 d2 d3 d4 d5); obtain ⟨d0, d1, d2, d3, d4, d5⟩ := CB.out _ Kr)
    | (go_at_call 11; (with_reducible refine (Rk.out _ Kr).mono ?_); rintro e w1 ⟨rfl, k1⟩; replace Kr := KT Kr k1; clear k1; (try clear d0 d1 d2 d3 d4 d5); obtain ⟨d0, d1, d2, d3, d4, d5⟩ := CB.out _ Kr)
    | (go_at_call 13; (with_reducible refine (En.out _ Kr).mono ?_); rintro e w1 ⟨rfl, k1⟩; replace Kr := KT Kr k1; clear k1; (try clear d0 d1 d2 d3 d4 d5); obtain ⟨d0, d1, d2, d3, d4, d5⟩ := CB.out _ Kr)
    | (go_at_call 18; (with_reducible refine (De.out _).mono ?_); rintro e w5 ⟨sx, Gx, rfl, hgx, hGx, k5⟩; obtain ⟨adx, capx, rfl, _⟩ := hgx.at_; have Hgx := Lib.hid hgx; replace Kr := (KT Kr k5).alloc (.cells #[.int .i64 r.ep, .int .i64 r.nr, .int .i64 r.kd, .slice adx r.sp.length capx, .string (str r.dt), .string (str r.tx)] 24); (try clear d0 d1 d2 d3 d4 d5); obtain ⟨d0, d1, d2, d3, d4, d5⟩ := CB.out _ Kr; clear hgx hGx k5)
    | (go_at_call 20; (with_reducible refine (He.out _).mono ?_); rintro e w6 ⟨sy, Gy, rfl, hgy, hGy, k6⟩; obtain ⟨ady, capy, rfl, _⟩ := hgy.at_; have KX := Lib.hid (k6.alloc (.cells #[.int .i64 r.ep, .int .i64 r.nr, .int .i64 r.kd, .slice ady r.sp.length capy, .string (str []), .string (str r.tx)] 24)); replace Kr := (KT Kr k6).alloc (.cells #[.int .i64 r.ep, .int .i64 r.nr, .int .i64 r.kd, .slice ady r.sp.length capy, .string (str []), .string (str r.tx)] 24); clear hgy hGy k6))
  have Kr0 := Lib.hid Kr
  have CX := Lib.hid (fun w' (k : Keeps [] (w6.alloc (.cells #[.int .i64 r.ep, .int .i64 r.nr, .int .i64 r.kd, .slice ady r.sp.length capy, .string (str []), .string (str r.tx)] 24)) w') => (cells6 (k.some (KX.out.some (heap_at (w := w5) (k := w5.heap.size) (o := (.cells #[.int .i64 r.ep, .int .i64 r.nr, .int .i64 r.kd, .slice adx r.sp.length capx, .string (str r.dt), .string (str r.tx)] 24)) rfl) (by simp)) (by simp))).1)
  have CY := Lib.hid (fun w' (k : Keeps [] (w6.alloc (.cells #[.int .i64 r.ep, .int .i64 r.nr, .int .i64 r.kd, .slice ady r.sp.length capy, .string (str []), .string (str r.tx)] 24)) w') => (cells6 (k.some (heap_at (w := w6) (k := w6.heap.size) (o := (.cells #[.int .i64 r.ep, .int .i64 r.nr, .int .i64 r.kd, .slice ady r.sp.length capy, .string (str []), .string (str r.tx)] 24)) rfl) (by simp))).1)
  have CA : Hid (∀ w', Keeps [] (w6.alloc (.cells #[.int .i64 r.ep, .int .i64 r.nr, .int .i64 r.kd, .slice ady r.sp.length capy, .string (str []), .string (str r.tx)] 24)) w' → ((w'.cell? ⟨W.heap.size, 0, none⟩ = some (.int .i64 r.ep) ∧ w'.cell? ⟨W.heap.size, 1, none⟩ = some (.int .i64 r.nr) ∧ w'.cell? ⟨W.heap.size, 2, none⟩ = some (.int .i64 r.kd) ∧ w'.cell? ⟨W.heap.size, 3, none⟩ = some (.slice ad r.sp.length cap) ∧ w'.cell? ⟨W.heap.size, 4, none⟩ = some (.string (str r.dt)) ∧ w'.cell? ⟨W.heap.size, 5, none⟩ = some (.string (str r.tx))) ∧ (w'.cell? ⟨w5.heap.size, 0, none⟩ = some (.int .i64 r.ep) ∧ w'.cell? ⟨w5.heap.size, 1, none⟩ = some (.int .i64 r.nr) ∧ w'.cell? ⟨w5.heap.size, 2, none⟩ = some (.int .i64 r.kd) ∧ w'.cell? ⟨w5.heap.size, 3, none⟩ = some (.slice adx r.sp.length capx) ∧ w'.cell? ⟨w5.heap.size, 4, none⟩ = some (.string (str r.dt)) ∧ w'.cell? ⟨w5.heap.size, 5, none⟩ = some (.string (str r.tx))) ∧ w'.cell? ⟨w6.heap.size, 1, none⟩ = some (.int .i64 r.nr) ∧ w'.cell? ⟨w6.heap.size, 4, none⟩ = some (.string (str [])))) := fun w' k => ⟨CB.out _ (KT Kr0.out k), CX.out _ k, (CY.out _ k).2.1, (CY.out _ k).2.2.2.2.1⟩
  have Kq0 := Keeps.refl [] (w6.alloc (.cells #[.int .i64 r.ep, .int .i64 r.nr, .int .i64 r.kd, .slice ady r.sp.length capy, .string (str []), .string (str r.tx)] 24))
  have Kq := (Keeps.refl [] (w6.alloc (.cells #[.int .i64 r.ep, .int .i64 r.nr, .int .i64 r.kd, .slice ady r.sp.length capy, .string (str []), .string (str r.tx)] 24))).drew
  clear Kr
  go_region_held3 (fun w' => ((w'.cell? ⟨W.heap.size, 0, none⟩ = some (.int .i64 r.ep) ∧ w'.cell? ⟨W.heap.size, 1, none⟩ = some (.int .i64 r.nr) ∧ w'.cell? ⟨W.heap.size, 2, none⟩ = some (.int .i64 r.kd) ∧ w'.cell? ⟨W.heap.size, 3, none⟩ = some (.slice ad r.sp.length cap) ∧ w'.cell? ⟨W.heap.size, 4, none⟩ = some (.string (str r.dt)) ∧ w'.cell? ⟨W.heap.size, 5, none⟩ = some (.string (str r.tx))) ∧ (w'.cell? ⟨w5.heap.size, 0, none⟩ = some (.int .i64 r.ep) ∧ w'.cell? ⟨w5.heap.size, 1, none⟩ = some (.int .i64 r.nr) ∧ w'.cell? ⟨w5.heap.size, 2, none⟩ = some (.int .i64 r.kd) ∧ w'.cell? ⟨w5.heap.size, 3, none⟩ = some (.slice adx r.sp.length capx) ∧ w'.cell? ⟨w5.heap.size, 4, none⟩ = some (.string (str r.dt)) ∧ w'.cell? ⟨w5.heap.size, 5, none⟩ = some (.string (str r.tx))) ∧ w'.cell? ⟨w6.heap.size, 1, none⟩ = some (.int .i64 r.nr) ∧ w'.cell? ⟨w6.heap.size, 4, none⟩ = some (.string (str [])))) (first | (with_reducible exact CA.out _ Kq0) | (with_reducible exact CA.out _ Kq)) (first
    | (go_at_call 12; (with_reducible refine (Pl.out _ (KT Kr0.out Kq)).mono ?_); rintro e w7 ⟨rfl, k7⟩; replace Kq := KT Kq k7; clear k7)
    | (go_at_call 23; (with_reducible refine (Sm.out _ _ _ (Hgx.out.newer (KT ((Keeps.refl [] w5).alloc (.cells #[.int .i64 r.ep, .int .i64 r.nr, .int .i64 r.kd, .slice adx r.sp.length capx, .string (str r.dt), .string (str r.tx)] 24)) (KT KX.out Kq))) (KT K0.out (KT Kr0.out Kq))).mono ?_); rintro e w7 ⟨rfl, k7⟩; replace Kq := KT Kq k7; clear k7)
    | (go_at_call 15; (with_reducible refine (Sz.out _ (KT Kr0.out Kq)).mono ?_); rintro e w7 ⟨rfl, k7⟩; replace Kq := KT Kq k7; clear k7)
    | (go_at_call 10; (with_reducible refine (Aw.out _).mono ?_); rintro e w7 ⟨rfl, k7⟩; replace Kq := KT Kq k7; clear k7))
  go_wp2
  go_ret
  exact ⟨rfl, KT K0.out (KT Kr0.out Kq)⟩

theorem walk_any (s : RcV) (t : ByteArray) (W : World) (hg : s.good W) (ht : t.size ≤ 9223372036854775807) : Calls Try.prog 7 #[.agg s.vals.toArray, .string t] W fun e w' => e = .returned (.bool true) ∧ Keeps [] W w' := by
  obtain ⟨G, hr, hG⟩ := hg
  rw [← str_self t]
  have hl : t.data.toList.length ≤ 9223372036854775807 := by rw [dlen]; exact ht
  generalize t.data.toList = l at *
  by_cases hf : fewB s.r = true
  · by_cases h5 : 500 < l.length
    · exact walk_long s.r s.sv G l W hr hG hl hf h5
    · by_cases hc : s.r.check = 0
      · exact walk_good s.r s.sv G l W hr hG hl hf (by omega) hc
      · exact walk_bad s.r s.sv G l W hr hG hl hf (by omega) hc
  · exact walk_many s.r s.sv G l W hr hG hl (by simpa using hf)
-- ROWEND
set_option maxRecDepth 100000 in
theorem lifted (os : Os) (started : os.Started) (H : Type) (enc : TypeId × Value → H) :
    ReturnsInHanded {} Try.checked os 7 .any (Rows.recordBackSpec.pre6 enc Try.prog Try.f7 Rows.recordBackRow.domain false) (Rows.recordBackSpec.post enc Try.prog Try.f7 false true false false) := by
  refine returnsInHanded_of_change (C := Try.checked) Try.own started (by kernel_rfl) Try.func7
    (ChangeSpec.witness6 (enc := enc) (C := Try.checked) false ⟨#[], #[.agg #[.int .i64 0, .int .i64 0, .int .i64 0, .slice none 0 0, .string .empty, .string .empty], .string .empty], []⟩ 8 (by kernel_rfl) (by kernel_rfl) (by kernel_rfl) (by kernel_rfl)) ?_
  intro W base args ds gs before hval0 hW _ _
  have hval : ∀ (j : Nat) t v, Try.f7.params[j]? = some t → args[j]? = some v → Value.okWide Try.prog W .any base t v := hval0
  have hW' := hW
  obtain ⟨p, q, hA0, hV, rfl, hfz, hnd⟩ := hW
  have hA : DataW.TrodAll enc Try.prog W 0 (fun _ => true) true Try.f7.params.toList args.toList ds p := hA0
  rw [Try.params7] at hA hval
  obtain ⟨v0, vs0, d0, ds0, p0, q0, hargs, rfl, rfl, h0, r0⟩ := trodAll_cons hA
  obtain ⟨v1, vs1, d1, ds1, p1, q1, rfl, rfl, rfl, h1, r1⟩ := trodAll_cons r0
  obtain ⟨rfl, rfl, rfl⟩ := trodAll_nil r1
  obtain rfl : args = #[v0, v1] := by cases args; simp_all
  obtain ⟨cs0, n0, x0, rfl, e0⟩ := open_agg Try.underlying24 (hval 0 24 v0 rfl rfl) h0
  obtain ⟨s, c0, gs⟩ := elem_rec e0
  obtain rfl : cs0 = (s.vals).toArray := by rw [← c0]
  obtain ⟨t, rfl, rfl, rfl, wt⟩ := open_string Try.underlying9 (hval 1 9 v1 rfl rfl) h1
  unfold maxLen at wt
  refine (walk_any s t W gs (by omega)).mono fun e W' ⟨he, hk⟩ => ?_
  subst he
  exact ⟨_, rfl, law_end Try.laidOut (by kernel_rfl) rfl rfl Try.underlying4 hW' rfl hk⟩

theorem proved : Rows.RecordBackSaid :=
  OpenClaim.holds_of_wide 7 Try.f7 rfl rfl rfl rfl rfl rfl rfl ⟨rfl, rfl, rfl, rfl, rfl⟩ rfl rfl rfl rfl rfl (by kernel_rfl) Try.func7 (by kernel_rfl)
    (of_decide_eq_true (by kernel_rfl)) (by unfold Func.isWrapper; first | (rw [if_pos (by decide +kernel)]; kernel_rfl) | (rw [if_neg (by decide +kernel)]; exact ⟨rfl, rfl⟩))
    (fun os started H enc _ => lifted os started H enc)
end Go.Proofs.Ytjebldfmkpfafaa.lawRecordBack
