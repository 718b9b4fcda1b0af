/-
What is proved: RecordWrites. For every record: what is wrong with it is as the document says; where nothing is, its sectors are the head that the document's answer makes and the data, Size tells how many they are, and Parts the data of each span. No conditions.
-/
import Derived.Test.YtjebldfmkpfafaaRecL
namespace Go.Proofs.Ytjebldfmkpfafaa.lawRecordWrites
open Go.ChangeShapes Go.WideShapes Go.ChangeAt Go.RowKit
open Go.ChangeMaps (open_string shut_string)
set_option maxRecDepth 100000

theorem SlAt.at' {w : World} {ad : Option Addr} {n cap : Nat} {ts : List Value} {G : List Nat} (h : SlAt w (.slice ad n cap) ts G) (h0 : ts ≠ []) : ∃ b off, ad = some ⟨b, off, none⟩ ∧ ∀ j v, ts[j]? = some v → w.cell? ⟨b, off + j, none⟩ = some v := by
  obtain ⟨ad', cap', e1, h2⟩ := h
  obtain ⟨b, off, e2, _, hc⟩ := h2 h0
  injection e1 with e3 _ _
  exact ⟨b, off, by rw [e3]; exact e2, hc⟩

def fewB (r : Rc) : Bool := decide ((r.sp.length : Int) ≤ 80) && (decide ((r.dt.length : Int) ≤ 2000) || (decide (32768 < (r.dt.length : Int)) && decide ((r.dt.length : Int) < 40000))) && decide ((r.tx.length : Int) ≤ 600)

set_option maxHeartbeats 4000000 in
theorem walk_many (r : Rc) (sv : Value) (G : List Nat) (W : World) (hr : r.good W sv G) (hG : ∀ k, k ∈ G → k < W.heap.size) (hf : fewB r = false) : Calls Try.prog 3 #[r.val sv] W fun e w' => e = .returned (.bool true) ∧ Keeps [] W w' := by
  have CB : Hid (∀ w', Keeps [] (W.alloc (rbox r sv)) w' → boxed w' W.heap.size r sv) := fun w' k => boxed_new k
  have K0 := Lib.hid ((Keeps.refl [] W).alloc (rbox r sv))
  have Kr := Keeps.refl [] (W.alloc (rbox r sv))
  have Fe : Hid (∀ w', Keeps [] (W.alloc (rbox r sv)) w' → _) := fun w' k => few_any r sv G w' (hr.newer (K0.out.trans k (by simp)))
  have Pl : Hid (∀ w', Keeps [] (W.alloc (rbox r sv)) w' → _) := fun w' k => plain_any r sv G w' (hr.newer (K0.out.trans k (by simp)))
  have Rk : Hid (∀ w', Keeps [] (W.alloc (rbox r sv)) w' → _) := fun w' k => rcheck_any r sv G w' (hr.newer (K0.out.trans k (by simp)))
  have En : Hid (∀ w', Keeps [] (W.alloc (rbox r sv)) w' → _) := fun w' k => encode_any r sv G w' (hr.newer (K0.out.trans k (by simp))) (fun x hx => by have := hG x hx; have := (K0.out.trans k (by simp)).size; omega)
  have Ck : Hid (∀ w', Keeps [] (W.alloc (rbox r sv)) w' → _) := fun w' k => check_any r sv G w' (hr.newer (K0.out.trans k (by simp)))
  have Aw := Lib.hid (fun w => awake_any w)
  have Pa : Hid (∀ w', Keeps [] (W.alloc (rbox r sv)) w' → _) := fun w' k => parts_any r sv G w' (hr.newer (K0.out.trans k (by simp)))
  unfold fewB at hf
  rw [hf] at Fe
  unfold Rc.val at *
  unfold boxed at CB
  unfold rbox at *
  obtain ⟨ad, cap, rfl, _⟩ := hr.at_
  clear hr hG Pl Rk En Ck Pa hf
  go_enter Try.func3, Try.ntmps3
  go_wp2_with (first
    | (go_at_call 9; (with_reducible refine (Fe.out _ Kr).mono ?_); rintro e w1 ⟨rfl, k1⟩; replace Kr := KT Kr k1; clear k1; (try clear d0 d1 d2 d3 d4 d5); obtain ⟨d0, d1, d2, d3, d4, d5⟩ := CB.out _ Kr)
    | (go_at_call 10; (with_reducible refine (Aw.out _).mono ?_); rintro e w1 ⟨rfl, k1⟩; replace Kr := KT Kr k1; clear k1; (try clear d0 d1 d2 d3 d4 d5); obtain ⟨d0, d1, d2, d3, d4, d5⟩ := CB.out _ Kr))
  go_ret
  exact ⟨rfl, KT K0.out Kr⟩

set_option maxHeartbeats 4000000 in
theorem walk_bad (r : Rc) (sv : Value) (G : List Nat) (W : World) (hr : r.good W sv G) (hG : ∀ k, k ∈ G → k < W.heap.size) (hf : fewB r = true) (hc : r.check ≠ 0) : Calls Try.prog 3 #[r.val sv] W fun e w' => e = .returned (.bool true) ∧ Keeps [] W w' := by
  have CB : Hid (∀ w', Keeps [] (W.alloc (rbox r sv)) w' → boxed w' W.heap.size r sv) := fun w' k => boxed_new k
  have K0 := Lib.hid ((Keeps.refl [] W).alloc (rbox r sv))
  have Kr := Keeps.refl [] (W.alloc (rbox r sv))
  have Fe : Hid (∀ w', Keeps [] (W.alloc (rbox r sv)) w' → _) := fun w' k => few_any r sv G w' (hr.newer (K0.out.trans k (by simp)))
  have Pl : Hid (∀ w', Keeps [] (W.alloc (rbox r sv)) w' → _) := fun w' k => plain_any r sv G w' (hr.newer (K0.out.trans k (by simp)))
  have Rk : Hid (∀ w', Keeps [] (W.alloc (rbox r sv)) w' → _) := fun w' k => rcheck_any r sv G w' (hr.newer (K0.out.trans k (by simp)))
  have En : Hid (∀ w', Keeps [] (W.alloc (rbox r sv)) w' → _) := fun w' k => encode_any r sv G w' (hr.newer (K0.out.trans k (by simp))) (fun x hx => by have := hG x hx; have := (K0.out.trans k (by simp)).size; omega)
  have Ck : Hid (∀ w', Keeps [] (W.alloc (rbox r sv)) w' → _) := fun w' k => check_any r sv G w' (hr.newer (K0.out.trans k (by simp)))
  have Aw := Lib.hid (fun w => awake_any w)
  have Pa : Hid (∀ w', Keeps [] (W.alloc (rbox r sv)) w' → _) := fun w' k => parts_any r sv G w' (hr.newer (K0.out.trans k (by simp)))
  have he : r.encV = ([], r.check) := by unfold Rc.encV; rw [if_neg hc]
  have Sz : Hid (∀ w', Keeps [] (W.alloc (rbox r sv)) w' → _) := fun w' k => rsize_any r sv G w' (hr.newer (K0.out.trans k (by simp))) (fun x hx => by have := hG x hx; have := (K0.out.trans k (by simp)).size; omega) (by rw [he]; simp)
  have hp : r.parts = [] := by unfold Rc.parts; rw [if_neg (fun h => hc h.1)]
  unfold fewB at hf
  rw [hf] at Fe
  rw [he] at En Sz
  rw [hp] at Pa
  have hcb : (r.check != 0) = true := bne_iff_ne.2 hc
  have hz := str_empty
  generalize r.check = V at *
  unfold Rc.val at *
  unfold boxed at CB
  unfold rbox at *
  obtain ⟨ad, cap, rfl, _⟩ := hr.at_
  clear hr hG hf he hp hc
  go_enter Try.func3, Try.ntmps3
  go_wp2_with (first
    | (go_at_call 9; (with_reducible refine (Fe.out _ Kr).mono ?_); rintro e w1 ⟨rfl, k1⟩; replace Kr := KT Kr k1; clear k1; (try clear d0 d1 d2 d3 d4 d5); obtain ⟨d0, d1, d2, d3, d4, d5⟩ := CB.out _ Kr)
    | (go_at_call 10; (with_reducible refine (Aw.out _).mono ?_); rintro e w1 ⟨rfl, k1⟩; replace Kr := KT Kr k1; clear k1; (try clear d0 d1 d2 d3 d4 d5); obtain ⟨d0, d1, d2, d3, d4, d5⟩ := CB.out _ Kr)
    | (go_at_call 12; (with_reducible refine (Pl.out _ Kr).mono ?_); rintro e w1 ⟨rfl, k1⟩; replace Kr := KT Kr k1; clear k1; (try clear d0 d1 d2 d3 d4 d5); obtain ⟨d0, d1, d2, d3, d4, d5⟩ := CB.out _ Kr)
    | (go_at_call 11; (with_reducible refine (Rk.out _ Kr).mono ?_); rintro e w1 ⟨rfl, k1⟩; replace Kr := KT Kr k1; clear k1; (try clear d0 d1 d2 d3 d4 d5); obtain ⟨d0, d1, d2, d3, d4, d5⟩ := CB.out _ Kr)
    | (go_at_call 13; (with_reducible refine (En.out _ Kr).mono ?_); rintro e w1 ⟨rfl, k1⟩; replace Kr := KT Kr k1; clear k1; (try clear d0 d1 d2 d3 d4 d5); obtain ⟨d0, d1, d2, d3, d4, d5⟩ := CB.out _ Kr)
    | (go_at_call 14; (with_reducible refine (Ck.out _ Kr).mono ?_); rintro e w1 ⟨rfl, k1⟩; replace Kr := KT Kr k1; clear k1; (try clear d0 d1 d2 d3 d4 d5); obtain ⟨d0, d1, d2, d3, d4, d5⟩ := CB.out _ Kr)
    | (go_at_call 15; (with_reducible refine (Sz.out _ Kr).mono ?_); rintro e w1 ⟨rfl, k1⟩; replace Kr := KT Kr k1; clear k1; (try clear d0 d1 d2 d3 d4 d5); obtain ⟨d0, d1, d2, d3, d4, d5⟩ := CB.out _ Kr)
    | (go_at_call 16; (with_reducible refine (Pa.out _ Kr).mono ?_); rintro e w1 ⟨pv, pF, rfl, hpv, hpF, k1⟩; replace Kr := KT Kr k1; clear k1; (try clear d0 d1 d2 d3 d4 d5); obtain ⟨d0, d1, d2, d3, d4, d5⟩ := CB.out _ Kr; have Hpv := Lib.hid hpv; obtain ⟨pad, pcap, rfl, _⟩ := hpv))
  go_ret
  exact ⟨rfl, KT K0.out Kr⟩

theorem enc_len {r : Rc} (hc : r.check = 0) : ∃ Z, r.encV.1.length = 64 * Z ∧ Z ≤ 1000 := by
  obtain ⟨hok, hdl, hd0, hd1, _, _⟩ := Rc.check_ok hc
  have he : r.encV.1 = r.headB (crcMore 0 r.dt) ++ r.dt := by unfold Rc.encV; rw [if_pos hc]; rfl
  have hl := hok.len (crcMore 0 r.dt)
  have h1 := secs_bd hl
  have h2 : (r.headB (crcMore 0 r.dt)).length = Rc.secs (r.bodyB (crcMore 0 r.dt)).length * 64 := by
    unfold Rc.headB Rc.foreB
    simp only [List.length_append, be_length, List.length_replicate, List.length_cons, List.length_nil, four]
    omega
  have h3 : ∃ T, r.dt.length = 64 * T ∧ T ≤ 512 := by
    by_cases hk : r.kd = 1
    · obtain ⟨h4, h5⟩ := hd1 hk
      exact ⟨(totS r.sp).toNat, by omega, by omega⟩
    · exact ⟨0, by rw [hd0 hk]; rfl, by decide⟩
  obtain ⟨T, h4, h5⟩ := h3
  exact ⟨Rc.secs (r.bodyB (crcMore 0 r.dt)).length + T, by rw [he, List.length_append]; omega, by omega⟩

set_option maxHeartbeats 4000000 in
theorem walk_other (r : Rc) (sv : Value) (G : List Nat) (W : World) (hr : r.good W sv G) (hG : ∀ k, k ∈ G → k < W.heap.size) (hf : fewB r = true) (hc : r.check = 0) (hk : r.kd ≠ 1) : Calls Try.prog 3 #[r.val sv] W fun e w' => e = .returned (.bool true) ∧ Keeps [] W w' := by
  have CB : Hid (∀ w', Keeps [] (W.alloc (rbox r sv)) w' → boxed w' W.heap.size r sv) := fun w' k => boxed_new k
  have K0 := Lib.hid ((Keeps.refl [] W).alloc (rbox r sv))
  have Kr := Keeps.refl [] (W.alloc (rbox r sv))
  have Fe : Hid (∀ w', Keeps [] (W.alloc (rbox r sv)) w' → _) := fun w' k => few_any r sv G w' (hr.newer (K0.out.trans k (by simp)))
  have Pl : Hid (∀ w', Keeps [] (W.alloc (rbox r sv)) w' → _) := fun w' k => plain_any r sv G w' (hr.newer (K0.out.trans k (by simp)))
  have Rk : Hid (∀ w', Keeps [] (W.alloc (rbox r sv)) w' → _) := fun w' k => rcheck_any r sv G w' (hr.newer (K0.out.trans k (by simp)))
  have En : Hid (∀ w', Keeps [] (W.alloc (rbox r sv)) w' → _) := fun w' k => encode_any r sv G w' (hr.newer (K0.out.trans k (by simp))) (fun x hx => by have := hG x hx; have := (K0.out.trans k (by simp)).size; omega)
  have Ck : Hid (∀ w', Keeps [] (W.alloc (rbox r sv)) w' → _) := fun w' k => check_any r sv G w' (hr.newer (K0.out.trans k (by simp)))
  have Aw := Lib.hid (fun w => awake_any w)
  have Pa : Hid (∀ w', Keeps [] (W.alloc (rbox r sv)) w' → _) := fun w' k => parts_any r sv G w' (hr.newer (K0.out.trans k (by simp)))
  obtain ⟨hok, hdl, hd0, hd1, _, _⟩ := Rc.check_ok hc
  have he : r.encV = (r.headB (crcMore 0 r.dt) ++ r.dt, 0) := by unfold Rc.encV; rw [if_pos hc]; rfl
  obtain ⟨Z, hZ1, hZ2⟩ := enc_len hc
  have Sz : Hid (∀ w', Keeps [] (W.alloc (rbox r sv)) w' → Calls Try.prog 15 #[r.val sv] w' fun e w'' => e = .returned (.int .i64 Z) ∧ Keeps [] w' w'') := fun w' k => by
    have h := rsize_any r sv G w' (hr.newer (K0.out.trans k (by simp))) (fun x hx => by have := hG x hx; have := (K0.out.trans k (by simp)).size; omega) (by omega)
    rw [hZ1, Nat.mul_div_cancel_left _ (by decide)] at h
    exact h
  have Hd : Hid (∀ w', Keeps [] (W.alloc (rbox r sv)) w' → _) := fun w' k => ref_head_any r sv G w' (hr.newer (K0.out.trans k (by simp))) hok (by omega)
  unfold fewB at hf
  rw [hf] at Fe
  rw [he] at En hZ1
  rw [hc] at Rk Ck
  dsimp only at En hZ1
  have hz := str_empty
  have A1 : ∀ w, (Op.stringOp .add (str (r.headB (crcMore 0 r.dt))) (str r.dt)).run Try.prog w = .ok (.string (str (r.headB (crcMore 0 r.dt) ++ r.dt))) w := fun w => cat_run _ _ (by rw [← List.length_append]; omega) w
  have hwZ : IntKind.i64.wrap (64 * (Z : Int)) = 64 * (Z : Int) := IntWalk.i64_in _ ⟨by omega, by omega⟩
  have hp : r.parts = [] := by unfold Rc.parts; rw [if_neg (fun h => hk h.2)]
  rw [hp] at Pa
  have hkb : (r.kd != 1) = true := bne_iff_ne.2 hk
  unfold Rc.val at *
  unfold boxed at CB
  unfold rbox at *
  obtain ⟨ad, cap, rfl, _⟩ := hr.at_
  generalize hE : r.headB (crcMore 0 r.dt) ++ r.dt = E at *
  generalize r.headB (crcMore 0 r.dt) = H at *
  clear hr hG hf he hp hc hk hE hok hd0 hd1
  go_enter Try.func3, Try.ntmps3
  go_wp2_with (first
    | (go_at_call 9; (with_reducible refine (Fe.out _ Kr).mono ?_); rintro e w1 ⟨rfl, k1⟩; replace Kr := KT Kr k1; clear k1; (try clear d0 d1 d2 d3 d4 d5); obtain ⟨d0, d1, d2, d3, d4, d5⟩ := CB.out _ Kr)
    | (go_at_call 12; (with_reducible refine (Pl.out _ Kr).mono ?_); rintro e w1 ⟨rfl, k1⟩; replace Kr := KT Kr k1; clear k1; (try clear d0 d1 d2 d3 d4 d5); obtain ⟨d0, d1, d2, d3, d4, d5⟩ := CB.out _ Kr)
    | (go_at_call 11; (with_reducible refine (Rk.out _ Kr).mono ?_); rintro e w1 ⟨rfl, k1⟩; replace Kr := KT Kr k1; clear k1; (try clear d0 d1 d2 d3 d4 d5); obtain ⟨d0, d1, d2, d3, d4, d5⟩ := CB.out _ Kr)
    | (go_at_call 13; (with_reducible refine (En.out _ Kr).mono ?_); rintro e w1 ⟨rfl, k1⟩; replace Kr := KT Kr k1; clear k1; (try clear d0 d1 d2 d3 d4 d5); obtain ⟨d0, d1, d2, d3, d4, d5⟩ := CB.out _ Kr)
    | (go_at_call 14; (with_reducible refine (Ck.out _ Kr).mono ?_); rintro e w1 ⟨rfl, k1⟩; replace Kr := KT Kr k1; clear k1; (try clear d0 d1 d2 d3 d4 d5); obtain ⟨d0, d1, d2, d3, d4, d5⟩ := CB.out _ Kr))
  have Kx := Kr.drew
  go_region_held3 (fun w' => w'.cell? ⟨W.heap.size, 0, none⟩ = some (.int .i64 r.ep) ∧ w'.cell? ⟨W.heap.size, 1, none⟩ = some (.int .i64 r.nr) ∧ w'.cell? ⟨W.heap.size, 2, none⟩ = some (.int .i64 r.kd) ∧ w'.cell? ⟨W.heap.size, 3, none⟩ = some (.slice ad r.sp.length cap) ∧ w'.cell? ⟨W.heap.size, 4, none⟩ = some (.string (str r.dt)) ∧ w'.cell? ⟨W.heap.size, 5, none⟩ = some (.string (str r.tx))) (first | exact CB.out _ Kr | exact CB.out _ Kx) (first
    | (go_at_call 12; (with_reducible refine (Pl.out _ Kx).mono ?_); rintro e w1 ⟨rfl, k1⟩; replace Kx := KT Kx k1; clear k1)
    | (go_at_call 17; (with_reducible refine (Hd.out _ Kx).mono ?_); rintro e w1 ⟨rfl, k1⟩; replace Kx := KT Kx k1; clear k1)
    | (go_at_call 15; (with_reducible refine (Sz.out _ Kx).mono ?_); rintro e w1 ⟨rfl, k1⟩; replace Kx := KT Kx k1; clear k1))
  clear Kr
  have Kr := Kx
  clear Kx
  (try clear d0 d1 d2 d3 d4 d5)
  obtain ⟨d0, d1, d2, d3, d4, d5⟩ := CB.out _ Kr
  go_wp2_with (first
    | (go_at_call 16; (with_reducible refine (Pa.out _ Kr).mono ?_); rintro e w1 ⟨pv, pF, rfl, hpv, hpF, k1⟩; replace Kr := KT Kr k1; clear k1; (try clear d0 d1 d2 d3 d4 d5); obtain ⟨d0, d1, d2, d3, d4, d5⟩ := CB.out _ Kr; have Hpv := Lib.hid hpv; obtain ⟨pad, pcap, rfl, _⟩ := hpv)
    | (go_at_call 10; (with_reducible refine (Aw.out _).mono ?_); rintro e w1 ⟨rfl, k1⟩; replace Kr := KT Kr k1; clear k1; (try clear d0 d1 d2 d3 d4 d5); obtain ⟨d0, d1, d2, d3, d4, d5⟩ := CB.out _ Kr))
  go_ret
  exact ⟨rfl, KT K0.out Kr⟩

set_option maxHeartbeats 4000000 in
theorem walk_write (r : Rc) (sv : Value) (G : List Nat) (W : World) (hr : r.good W sv G) (hG : ∀ k, k ∈ G → k < W.heap.size) (hf : fewB r = true) (hc : r.check = 0) (hk : r.kd = 1) : Calls Try.prog 3 #[r.val sv] W fun e w' => e = .returned (.bool true) ∧ Keeps [] W w' := by
  have CB : Hid (∀ w', Keeps [] (W.alloc (rbox r sv)) w' → boxed w' W.heap.size r sv) := fun w' k => boxed_new k
  have K0 := Lib.hid ((Keeps.refl [] W).alloc (rbox r sv))
  have Kr := Keeps.refl [] (W.alloc (rbox r sv))
  have Fe : Hid (∀ w', Keeps [] (W.alloc (rbox r sv)) w' → _) := fun w' k => few_any r sv G w' (hr.newer (K0.out.trans k (by simp)))
  have Pl : Hid (∀ w', Keeps [] (W.alloc (rbox r sv)) w' → _) := fun w' k => plain_any r sv G w' (hr.newer (K0.out.trans k (by simp)))
  have Rk : Hid (∀ w', Keeps [] (W.alloc (rbox r sv)) w' → _) := fun w' k => rcheck_any r sv G w' (hr.newer (K0.out.trans k (by simp)))
  have En : Hid (∀ w', Keeps [] (W.alloc (rbox r sv)) w' → _) := fun w' k => encode_any r sv G w' (hr.newer (K0.out.trans k (by simp))) (fun x hx => by have := hG x hx; have := (K0.out.trans k (by simp)).size; omega)
  have Ck : Hid (∀ w', Keeps [] (W.alloc (rbox r sv)) w' → _) := fun w' k => check_any r sv G w' (hr.newer (K0.out.trans k (by simp)))
  have Aw := Lib.hid (fun w => awake_any w)
  have Pa : Hid (∀ w', Keeps [] (W.alloc (rbox r sv)) w' → _) := fun w' k => parts_any r sv G w' (hr.newer (K0.out.trans k (by simp)))
  obtain ⟨hok, hdl, hd0, hd1, _, _⟩ := Rc.check_ok hc
  have he : r.encV = (r.headB (crcMore 0 r.dt) ++ r.dt, 0) := by unfold Rc.encV; rw [if_pos hc]; rfl
  obtain ⟨Z, hZ1, hZ2⟩ := enc_len hc
  have Sz : Hid (∀ w', Keeps [] (W.alloc (rbox r sv)) w' → Calls Try.prog 15 #[r.val sv] w' fun e w'' => e = .returned (.int .i64 Z) ∧ Keeps [] w' w'') := fun w' k => by
    have h := rsize_any r sv G w' (hr.newer (K0.out.trans k (by simp))) (fun x hx => by have := hG x hx; have := (K0.out.trans k (by simp)).size; omega) (by omega)
    rw [hZ1, Nat.mul_div_cancel_left _ (by decide)] at h
    exact h
  have Hd : Hid (∀ w', Keeps [] (W.alloc (rbox r sv)) w' → _) := fun w' k => ref_head_any r sv G w' (hr.newer (K0.out.trans k (by simp))) hok (by omega)
  unfold fewB at hf
  rw [hf] at Fe
  rw [he] at En hZ1
  rw [hc] at Rk Ck
  dsimp only at En hZ1
  have hz := str_empty
  have A1 : ∀ w, (Op.stringOp .add (str (r.headB (crcMore 0 r.dt))) (str r.dt)).run Try.prog w = .ok (.string (str (r.headB (crcMore 0 r.dt) ++ r.dt))) w := fun w => cat_run _ _ (by rw [← List.length_append]; omega) w
  have hwZ : IntKind.i64.wrap (64 * (Z : Int)) = 64 * (Z : Int) := IntWalk.i64_in _ ⟨by omega, by omega⟩
  have hp : r.parts = partsK r.dt r.sp r.sp.length := by unfold Rc.parts; rw [if_pos ⟨hc, hk⟩]
  have hpl := partsK_length r.dt r.sp r.sp.length
  have Pg := Lib.hid (partsK_get r.dt r.sp r.sp.length)
  have Ok := Lib.hid (parts_ok hc hk)
  have hsl := Ok.out.n
  have Hv := Lib.hid hr.at_
  rw [hp] at Pa
  have hkb : (r.kd != 1) = false := by rw [hk]; rfl
  unfold Rc.val at *
  unfold boxed at CB
  unfold rbox at *
  obtain ⟨ad, cap, rfl, _⟩ := hr.at_
  generalize hE : r.headB (crcMore 0 r.dt) ++ r.dt = E at *
  generalize r.headB (crcMore 0 r.dt) = H at *
  generalize partsK r.dt r.sp r.sp.length = PP at *
  clear hr hG hf he hp hc hk hE hok hd0 hd1
  go_enter Try.func3, Try.ntmps3
  go_wp2_with (first
    | (go_at_call 9; (with_reducible refine (Fe.out _ Kr).mono ?_); rintro e w1 ⟨rfl, k1⟩; replace Kr := KT Kr k1; clear k1; (try clear d0 d1 d2 d3 d4 d5); obtain ⟨d0, d1, d2, d3, d4, d5⟩ := CB.out _ Kr)
    | (go_at_call 12; (with_reducible refine (Pl.out _ Kr).mono ?_); rintro e w1 ⟨rfl, k1⟩; replace Kr := KT Kr k1; clear k1; (try clear d0 d1 d2 d3 d4 d5); obtain ⟨d0, d1, d2, d3, d4, d5⟩ := CB.out _ Kr)
    | (go_at_call 11; (with_reducible refine (Rk.out _ Kr).mono ?_); rintro e w1 ⟨rfl, k1⟩; replace Kr := KT Kr k1; clear k1; (try clear d0 d1 d2 d3 d4 d5); obtain ⟨d0, d1, d2, d3, d4, d5⟩ := CB.out _ Kr)
    | (go_at_call 13; (with_reducible refine (En.out _ Kr).mono ?_); rintro e w1 ⟨rfl, k1⟩; replace Kr := KT Kr k1; clear k1; (try clear d0 d1 d2 d3 d4 d5); obtain ⟨d0, d1, d2, d3, d4, d5⟩ := CB.out _ Kr)
    | (go_at_call 14; (with_reducible refine (Ck.out _ Kr).mono ?_); rintro e w1 ⟨rfl, k1⟩; replace Kr := KT Kr k1; clear k1; (try clear d0 d1 d2 d3 d4 d5); obtain ⟨d0, d1, d2, d3, d4, d5⟩ := CB.out _ Kr))
  have Kx := Kr.drew
  go_region_held3 (fun w' => w'.cell? ⟨W.heap.size, 0, none⟩ = some (.int .i64 r.ep) ∧ w'.cell? ⟨W.heap.size, 1, none⟩ = some (.int .i64 r.nr) ∧ w'.cell? ⟨W.heap.size, 2, none⟩ = some (.int .i64 r.kd) ∧ w'.cell? ⟨W.heap.size, 3, none⟩ = some (.slice ad r.sp.length cap) ∧ w'.cell? ⟨W.heap.size, 4, none⟩ = some (.string (str r.dt)) ∧ w'.cell? ⟨W.heap.size, 5, none⟩ = some (.string (str r.tx))) (first | exact CB.out _ Kr | exact CB.out _ Kx) (first
    | (go_at_call 12; (with_reducible refine (Pl.out _ Kx).mono ?_); rintro e w1 ⟨rfl, k1⟩; replace Kx := KT Kx k1; clear k1)
    | (go_at_call 17; (with_reducible refine (Hd.out _ Kx).mono ?_); rintro e w1 ⟨rfl, k1⟩; replace Kx := KT Kx k1; clear k1)
    | (go_at_call 15; (with_reducible refine (Sz.out _ Kx).mono ?_); rintro e w1 ⟨rfl, k1⟩; replace Kx := KT Kx k1; clear k1))
  clear Kr
  have Kr := Kx
  clear Kx
  (try clear d0 d1 d2 d3 d4 d5)
  obtain ⟨d0, d1, d2, d3, d4, d5⟩ := CB.out _ Kr
  go_wp2_with (first
    | (go_at_call 16; (with_reducible refine (Pa.out _ Kr).mono ?_); rintro e w1 ⟨pv, pF, rfl, hpv, hpF, k1⟩; replace Kr := KT Kr k1; clear k1; (try clear d0 d1 d2 d3 d4 d5); obtain ⟨d0, d1, d2, d3, d4, d5⟩ := CB.out _ Kr; have Hpv := Lib.hid hpv; obtain ⟨pad, pcap, rfl, _⟩ := hpv)
    | (go_at_call 10; (with_reducible refine (Aw.out _).mono ?_); rintro e w1 ⟨rfl, k1⟩; replace Kr := KT Kr k1; clear k1; (try clear d0 d1 d2 d3 d4 d5); obtain ⟨d0, d1, d2, d3, d4, d5⟩ := CB.out _ Kr))
  have wb := Lib.hid Kr
  go_loopw [7, 8] (fun av iv wr => ∃ k : Nat, k ≤ r.sp.length ∧ iv = .int .i64 k ∧ av = .int .i64 (atK r.sp k) ∧ Keeps [] w1 wr) (fun _ iv _ => r.sp.length - (intOf iv).toNat)
  case atStart => exact ⟨0, Nat.zero_le _, rfl, rfl, Keeps.refl [] _⟩
  case round =>
    obtain ⟨k, hk, rfl, rfl, hkk⟩ := hrel
    clear d0 d1 d2 d3 d4 d5 Kr
    have Kr := KT wb.out hkk
    obtain ⟨d0, d1, d2, d3, d4, d5⟩ := CB.out _ Kr
    by_cases hlt : k < r.sp.length
    · obtain ⟨s, hs⟩ : ∃ s, r.sp[k]? = some s := ⟨r.sp[k], by simp [hlt]⟩
      obtain ⟨kb, off, rfl, _, hcc⟩ := (Hv.out.keep (KT K0.out Kr) (by simp)).at hs
      have c0 : wr.cell? ⟨kb, off + k * 2, none⟩ = some (.int .i64 s.1) := hcc 0 _ rfl
      have c1 : wr.cell? ⟨kb, off + k * 2 + 1, none⟩ = some (.int .i64 s.2) := hcc 1 _ rfl
      have hsb := Ok.out.sp s (List.mem_of_getElem? hs)
      have hle := atK_le Ok.out hs
      have hnx := atK_succ hs Ok.out.sp
      have hpg := Pg.out k hlt
      have hpp : pieceK r.dt r.sp k = (r.dt.drop (atK r.sp k)).take (s.2.toNat * 64) := by unfold pieceK; rw [hs]; rfl
      rw [hpp] at hpg
      obtain ⟨pb, po, rfl, hpc⟩ := SlAt.at' Hpv.out (by intro h; rw [List.map_eq_nil_iff] at h; rw [h] at hpl; simp at hpl; omega)
      obtain ⟨sa, sn⟩ := s
      dsimp only at *
      obtain ⟨n, rfl⟩ := Int.eq_ofNat_of_zero_le hsb.1
      rw [Int.toNat_natCast] at hle hnx hpg
      have hcut : (str r.dt).extract (atK r.sp k) (atK r.sp k + 64 * n) = str ((r.dt.drop (atK r.sp k)).take (n * 64)) := by
        rw [str_extract, str_data, Nat.add_sub_cancel_left, Nat.mul_comm]
      have lPc : ((r.dt.drop (atK r.sp k)).take (n * 64)).length = n * 64 := by rw [List.length_take, List.length_drop]; omega
      generalize (r.dt.drop (atK r.sp k)).take (n * 64) = Pc at *
      have cp : wr.cell? ⟨pb, po + k, none⟩ = some (.string (str Pc)) := hkk.cell0 (hpc k (strV Pc) (by rw [List.getElem?_map, hpg]; rfl))
      generalize atK r.sp k = A at *
      have hn1 : (n : Int) ≤ 65536 := by omega
      have hw1 : IntKind.i64.wrap (64 * (n : Int)) = ((64 * n : Nat) : Int) := by rw [IntWalk.i64_in _ ⟨by omega, by omega⟩]; omega
      have hw2 : IntKind.i64.wrap ((A : Int) + ((64 * n : Nat) : Int)) = ((A + 64 * n : Nat) : Int) := by rw [IntWalk.i64_in _ ⟨by omega, by omega⟩]; omega
      have hw3 : IntKind.i64.wrap ((A : Int) + (Pc.length : Int)) = ((A + n * 64 : Nat) : Int) := by rw [IntWalk.i64_in _ ⟨by omega, by omega⟩]; omega
      have hki : (k : Int) < (r.sp.length : Int) := by omega
      have hki0 : (0 : Int) ≤ (k : Int) := by omega
      have hb1 : (A : Int) ≤ ((A + 64 * n : Nat) : Int) := by omega
      have hb2 : ((A + 64 * n : Nat) : Int) ≤ (r.dt.length : Int) := by omega
      have hb3 : (Pc.length : Int) ≤ 9223372036854775807 := by omega
      have Hnx := Lib.hid hnx
      have Hkk := Lib.hid hkk
      clear hcc hpc hs hnx hpg hpp hkk
      go_wp2
      go_quiet (fail)
      go_wp2
      go_roundw
      case rel => exact ⟨k + 1, by omega, by go_num, congrArg (Value.int IntKind.i64) (by rw [Hnx.out]; omega), by first | exact Hkk.out | exact Hkk.out.drew | exact Hkk.out.drewN _⟩
      case measure => simp [intOf]; omega
    · obtain rfl : k = r.sp.length := by omega
      rw [← Ok.out.d]
      have hdi : (r.dt.length : Int) ≤ 9223372036854775807 := by omega
      go_wp2_with (first
        | (go_at_call 10; (with_reducible refine (Aw.out _).mono ?_); rintro e w1 ⟨rfl, k1⟩; replace Kr := KT Kr k1; clear k1; (try clear d0 d1 d2 d3 d4 d5); obtain ⟨d0, d1, d2, d3, d4, d5⟩ := CB.out _ Kr))
      go_ret
      exact ⟨rfl, KT K0.out Kr⟩

theorem walk_any (s : RcV) (W : World) (hg : s.good W) : Calls Try.prog 3 #[.agg s.vals.toArray] W fun e w' => e = .returned (.bool true) ∧ Keeps [] W w' := by
  obtain ⟨G, hr, hG⟩ := hg
  by_cases hf : fewB s.r = true
  · by_cases hc : s.r.check = 0
    · by_cases hk : s.r.kd = 1
      · exact walk_write s.r s.sv G W hr hG hf hc hk
      · exact walk_other s.r s.sv G W hr hG hf hc hk
    · exact walk_bad s.r s.sv G W hr hG hf hc
  · exact walk_many s.r s.sv G W hr hG (by simpa using hf)
-- ROWEND
set_option maxRecDepth 100000 in
theorem lifted (os : Os) (started : os.Started) (H : Type) (enc : TypeId × Value → H) :
    ReturnsInHanded {} Try.checked os 3 .any (Rows.recordWritesSpec.pre6 enc Try.prog Try.f3 Rows.recordWritesRow.domain false) (Rows.recordWritesSpec.post enc Try.prog Try.f3 false true false false) := by
  refine returnsInHanded_of_change (C := Try.checked) Try.own started (by kernel_rfl) Try.func3
    (ChangeSpec.witness6 (enc := enc) (C := Try.checked) false ⟨#[], #[.agg #[.int .i64 0, .int .i64 0, .int .i64 0, .slice none 0 0, .string .empty, .string .empty]], []⟩ 8 (by kernel_rfl) (by kernel_rfl) (by kernel_rfl) (by kernel_rfl)) ?_
  intro W base args ds gs before hval0 hW _ _
  have hval : ∀ (j : Nat) t v, Try.f3.params[j]? = some t → args[j]? = some v → Value.okWide Try.prog W .any base t v := hval0
  have hW' := hW
  obtain ⟨p, q, hA0, hV, rfl, hfz, hnd⟩ := hW
  have hA : DataW.TrodAll enc Try.prog W 0 (fun _ => true) true Try.f3.params.toList args.toList ds p := hA0
  rw [Try.params3] at hA hval
  obtain ⟨v0, vs0, d0, ds0, p0, q0, hargs, rfl, rfl, h0, r0⟩ := trodAll_cons hA
  obtain ⟨rfl, rfl, rfl⟩ := trodAll_nil r0
  obtain rfl : args = #[v0] := by cases args; simp_all
  obtain ⟨cs0, n0, x0, rfl, e0⟩ := open_agg Try.underlying24 (hval 0 24 v0 rfl rfl) h0
  obtain ⟨s, c0, gs⟩ := elem_rec e0
  obtain rfl : cs0 = (s.vals).toArray := by rw [← c0]
  refine (walk_any s W gs).mono fun e W' ⟨he, hk⟩ => ?_
  subst he
  exact ⟨_, rfl, law_end Try.laidOut (by kernel_rfl) rfl rfl Try.underlying4 hW' rfl hk⟩

theorem proved : Rows.RecordWritesSaid :=
  OpenClaim.holds_of_wide 3 Try.f3 rfl rfl rfl rfl rfl rfl rfl ⟨rfl, rfl, rfl, rfl, rfl⟩ rfl rfl rfl rfl rfl (by kernel_rfl) Try.func3 (by kernel_rfl)
    (of_decide_eq_true (by kernel_rfl)) (by unfold Func.isWrapper; first | (rw [if_pos (by decide +kernel)]; kernel_rfl) | (rw [if_neg (by decide +kernel)]; exact ⟨rfl, rfl⟩))
    (fun os started H enc _ => lifted os started H enc)
end Go.Proofs.Ytjebldfmkpfafaa.lawRecordWrites
