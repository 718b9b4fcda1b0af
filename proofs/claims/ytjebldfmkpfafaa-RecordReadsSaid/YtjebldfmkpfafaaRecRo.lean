/- Layer 10: the reference: right, Open. -/
import Derived.Test.YtjebldfmkpfafaaRecRp
import Derived.Test.YtjebldfmkpfafaaRecG
import Derived.Test.YtjebldfmkpfafaaRecH
import Derived.Test.YtjebldfmkpfafaaRecV
namespace Go.Proofs.Ytjebldfmkpfafaa
open Go.RowKit
set_option maxRecDepth 100000

theorem full_yes {r : Rc} (hd : r.dt = []) (hk : r.kd = 1) (ha : r.sp.all maySp = true) (ht : totS r.sp ≤ 512) : ({ r with dt := List.replicate (64 * (totS r.sp).toNat) 0 } : Rc).check = r.full.check := by
  have hb := totS_bd r.sp (fun s hs => by have := maySp_bd (List.all_eq_true.1 ha s hs); omega)
  have hs : r.sects = totS r.sp := by unfold Rc.sects; rw [if_pos hk]
  unfold Rc.full
  rw [hs]
  by_cases h0 : 0 < totS r.sp
  · rw [if_pos ⟨h0, ht⟩, Nat.mul_comm]
  · have h1 : totS r.sp = 0 := by omega
    rw [if_neg (fun h => h0 h.1), h1]
    have hrr : ({ r with dt := [] } : Rc) = r := by rw [← hd]
    show ({ r with dt := [] } : Rc).check = r.check
    rw [hrr]
theorem full_no {r : Rc} (h : r.kd ≠ 1 ∨ r.sp.all maySp = false ∨ 512 < totS r.sp) : (r.check == 0) = (r.full.check == 0) := by
  by_cases hk : r.kd = 1
  · have hs : r.sects = totS r.sp := by unfold Rc.sects; rw [if_pos hk]
    by_cases ha : r.sp.all maySp = false
    · have hno : ∀ d, ({ r with dt := d } : Rc).check ≠ 0 := fun d => by
        unfold Rc.check
        split
        · unfold Rc.written
          have hsp : ({ r with dt := d } : Rc).spok = false := by unfold Rc.spok; rw [ha, Bool.and_false]
          rw [if_pos (.inl hsp)]
          decide
        · decide
      have h1 : (r.check == 0) = false := by rw [beq_eq_false_iff_ne]; exact hno r.dt
      have h2 : (r.full.check == 0) = false := by
        rw [beq_eq_false_iff_ne]
        unfold Rc.full
        split
        · exact hno _
        · exact hno r.dt
      rw [h1, h2]
    · have ht : 512 < totS r.sp := by
        rcases h with h | h | h
        · exact absurd hk h
        · exact absurd h ha
        · exact h
      unfold Rc.full
      rw [hs, if_neg (by omega)]
  · have hs : r.sects = 0 := by unfold Rc.sects; rw [if_neg hk]
    unfold Rc.full
    rw [hs, if_neg (by omega)]

set_option maxHeartbeats 4000000 in
theorem right_k (r : Rc) (sv : Value) (G : List Nat) (w : World) (hr : r.good w sv G) (HD : r.dt = []) (HL : r.sp.length ≤ 64) (hk : r.kd ≠ 1) :
    Calls Try.prog 37 #[r.val sv] w fun e w' => e = .returned (.bool (r.full.check == 0)) ∧ Keeps [] w w' := by
  have hd := HD
  have hl := HL
  clear HD HL
  have K0 := Lib.hid ((Keeps.refl [] w).alloc (qbox r sv))
  have CB : Hid (∀ w', Keeps [] (w.alloc (qbox r sv)) w' → boxed w' w.heap.size r sv) := fun w' k => boxed_newQ k
  have Kr := Keeps.refl [] (w.alloc (qbox r sv))
  have Al : Hid (∀ w', Keeps [] (w.alloc (qbox r sv)) w' → _) := fun w' k => rall_any r.sp hr.sg hr.sl sv G w' ((hr.newer (KT K0.out k)).at_)
  have Rk : Hid (∀ w', Keeps [] w w' → _) := fun w' k => rcheck_any r sv G w' (hr.newer k)
  rw [← full_no (.inl hk)]
  generalize r.check = V at *
  unfold Rc.val at *
  unfold boxed at CB
  unfold qbox at *
  obtain ⟨ad, cap, rfl, _⟩ := hr.at_
  have hkb : (r.kd == 1) = false := by rw [beq_eq_false_iff_ne]; exact hk
  clear hr hk Al hl hd
  go_enter Try.func37, Try.ntmps37
  go_wp2_with (first
    | (go_at_call 11; (with_reducible refine (Rk.out _ (KT K0.out Kr)).mono ?_); rintro e w5 ⟨rfl, k5⟩))
  go_ret
  exact ⟨rfl, KT (KT K0.out Kr) k5⟩

set_option maxHeartbeats 4000000 in
theorem right_a (r : Rc) (sv : Value) (G : List Nat) (w : World) (hr : r.good w sv G) (HD : r.dt = []) (HL : r.sp.length ≤ 64) (hk : r.kd = 1) (ha : r.sp.all maySp = false) :
    Calls Try.prog 37 #[r.val sv] w fun e w' => e = .returned (.bool (r.full.check == 0)) ∧ Keeps [] w w' := by
  have hd := HD
  have hl := HL
  clear HD HL
  have K0 := Lib.hid ((Keeps.refl [] w).alloc (qbox r sv))
  have CB : Hid (∀ w', Keeps [] (w.alloc (qbox r sv)) w' → boxed w' w.heap.size r sv) := fun w' k => boxed_newQ k
  have Kr := Keeps.refl [] (w.alloc (qbox r sv))
  have Al : Hid (∀ w', Keeps [] (w.alloc (qbox r sv)) w' → _) := fun w' k => rall_any r.sp hr.sg hr.sl sv G w' ((hr.newer (KT K0.out k)).at_)
  have Rk : Hid (∀ w', Keeps [] w w' → _) := fun w' k => rcheck_any r sv G w' (hr.newer k)
  rw [← full_no (.inr (.inl ha))]
  generalize r.check = V at *
  rw [ha] at Al
  unfold Rc.val at *
  unfold boxed at CB
  unfold qbox at *
  obtain ⟨ad, cap, rfl, _⟩ := hr.at_
  have hkb : (r.kd == 1) = true := by rw [beq_iff_eq]; exact hk
  clear hr ha hl hd hk
  go_enter Try.func37, Try.ntmps37
  go_wp2_with (first
    | (go_at_call 24; (with_reducible refine (Al.out _ Kr).mono ?_); rintro e w1 ⟨rfl, k1⟩; replace Kr := KT Kr k1; clear k1; (try clear d0 d1 d2 d3 d4 d5); obtain ⟨d0, d1, d2, d3, d4, d5⟩ := CB.out _ Kr)
    | (go_at_call 11; (with_reducible refine (Rk.out _ (KT K0.out Kr)).mono ?_); rintro e w5 ⟨rfl, k5⟩))
  go_ret
  exact ⟨rfl, KT (KT K0.out Kr) k5⟩

set_option maxHeartbeats 4000000 in
theorem right_t (r : Rc) (sv : Value) (G : List Nat) (w : World) (hr : r.good w sv G) (HD : r.dt = []) (HL : r.sp.length ≤ 64) (hk : r.kd = 1) (ha : r.sp.all maySp = true) (ht : 512 < totS r.sp) :
    Calls Try.prog 37 #[r.val sv] w fun e w' => e = .returned (.bool (r.full.check == 0)) ∧ Keeps [] w w' := by
  have hd := HD
  have hl := HL
  clear HD HL
  have K0 := Lib.hid ((Keeps.refl [] w).alloc (qbox r sv))
  have CB : Hid (∀ w', Keeps [] (w.alloc (qbox r sv)) w' → boxed w' w.heap.size r sv) := fun w' k => boxed_newQ k
  have Kr := Keeps.refl [] (w.alloc (qbox r sv))
  have Al : Hid (∀ w', Keeps [] (w.alloc (qbox r sv)) w' → _) := fun w' k => rall_any r.sp hr.sg hr.sl sv G w' ((hr.newer (KT K0.out k)).at_)
  have To : Hid (∀ w', Keeps [] (w.alloc (qbox r sv)) w' → _) := fun w' k => rtotal_any r.sp (fun s hs => by have := maySp_bd (List.all_eq_true.1 ha s hs); omega) (by omega) sv G w' ((hr.newer (KT K0.out k)).at_)
  have hTb := totS_bd r.sp (fun s hs => by have := maySp_bd (List.all_eq_true.1 ha s hs); omega)
  have Rk : Hid (∀ w', Keeps [] w w' → _) := fun w' k => rcheck_any r sv G w' (hr.newer k)
  rw [← full_no (.inr (.inr ht))]
  generalize r.check = V at *
  rw [ha] at Al
  unfold Rc.val at *
  unfold boxed at CB
  unfold qbox at *
  obtain ⟨ad, cap, rfl, _⟩ := hr.at_
  have hkb : (r.kd == 1) = true := by rw [beq_iff_eq]; exact hk
  have htb : decide (totS r.sp ≤ 512) = false := decide_eq_false (by omega)
  clear hr ha hl hd hk
  go_enter Try.func37, Try.ntmps37
  go_wp2_with (first
    | (go_at_call 24; (with_reducible refine (Al.out _ Kr).mono ?_); rintro e w1 ⟨rfl, k1⟩; replace Kr := KT Kr k1; clear k1; (try clear d0 d1 d2 d3 d4 d5); obtain ⟨d0, d1, d2, d3, d4, d5⟩ := CB.out _ Kr)
    | (go_at_call 25; (with_reducible refine (To.out _ Kr).mono ?_); rintro e w2 ⟨rfl, k1⟩; replace Kr := KT Kr k1; clear k1; (try clear d0 d1 d2 d3 d4 d5); obtain ⟨d0, d1, d2, d3, d4, d5⟩ := CB.out _ Kr)
    | (go_at_call 11; (with_reducible refine (Rk.out _ (KT K0.out Kr)).mono ?_); rintro e w5 ⟨rfl, k5⟩))
  go_ret
  exact ⟨rfl, KT (KT K0.out Kr) k5⟩

set_option maxHeartbeats 4000000 in
theorem right_g (r : Rc) (sv : Value) (G : List Nat) (w : World) (hr : r.good w sv G) (HD : r.dt = []) (HL : r.sp.length ≤ 64) (hk : r.kd = 1) (ha : r.sp.all maySp = true) (ht : totS r.sp ≤ 512) :
    Calls Try.prog 37 #[r.val sv] w fun e w' => e = .returned (.bool (r.full.check == 0)) ∧ Keeps [] w w' := by
  have hd := HD
  have hl := HL
  clear HD HL
  have K0 := Lib.hid ((Keeps.refl [] w).alloc (qbox r sv))
  have CB : Hid (∀ w', Keeps [] (w.alloc (qbox r sv)) w' → boxed w' w.heap.size r sv) := fun w' k => boxed_newQ k
  have Kr := Keeps.refl [] (w.alloc (qbox r sv))
  have Al : Hid (∀ w', Keeps [] (w.alloc (qbox r sv)) w' → _) := fun w' k => rall_any r.sp hr.sg hr.sl sv G w' ((hr.newer (KT K0.out k)).at_)
  have To : Hid (∀ w', Keeps [] (w.alloc (qbox r sv)) w' → _) := fun w' k => rtotal_any r.sp (fun s hs => by have := maySp_bd (List.all_eq_true.1 ha s hs); omega) (by omega) sv G w' ((hr.newer (KT K0.out k)).at_)
  have hTb := totS_bd r.sp (fun s hs => by have := maySp_bd (List.all_eq_true.1 ha s hs); omega)
  rw [← full_yes hd hk ha ht]
  have Rk : Hid (∀ w', Keeps [] w w' → _) := fun w' k => rcheck_any ({ r with dt := List.replicate (64 * (totS r.sp).toNat) 0 } : Rc) sv G w' ((hr.newer k).withD (by rw [List.length_replicate]; omega))
  generalize ({ r with dt := List.replicate (64 * (totS r.sp).toNat) 0 } : Rc).check = V at *
  rw [ha] at Al
  unfold Rc.val at *
  unfold boxed at CB
  unfold qbox at *
  obtain ⟨ad, cap, rfl, _⟩ := hr.at_
  have hkb : (r.kd == 1) = true := by rw [beq_iff_eq]; exact hk
  have htb : decide (totS r.sp ≤ 512) = true := decide_eq_true ht
  dsimp only at Rk
  generalize totS r.sp = S at *
  obtain ⟨t, rfl⟩ := Int.eq_ofNat_of_zero_le hTb.1
  simp only [Int.toNat_natCast] at Rk
  obtain ⟨M, hM⟩ : ∃ M, 64 * t = M := ⟨_, rfl⟩
  have hwM : IntKind.i64.wrap (64 * (t : Int)) = (M : Int) := by rw [IntWalk.i64_in _ ⟨by omega, by omega⟩]; omega
  rw [hM] at Rk
  obtain ⟨Z, mk1, mk2⟩ := make_zeros M (by omega)
  generalize List.replicate M (0 : UInt8) = D at *
  have Mk2 := fun w' (k : Keeps [] (w'.alloc (.cells Z 5)) (w'.alloc (.cells Z 5))) => mk2 w' _ k
  have mk2' := fun w' => mk2 w' _ (Keeps.refl [] _)
  clear hd hr ha hl ht hTb hM mk2 Mk2 hk
  go_enter Try.func37, Try.ntmps37
  go_wp2_with (first
    | (go_at_call 24; (with_reducible refine (Al.out _ Kr).mono ?_); rintro e w1 ⟨rfl, k1⟩; replace Kr := KT Kr k1; clear k1; (try clear d0 d1 d2 d3 d4 d5); obtain ⟨d0, d1, d2, d3, d4, d5⟩ := CB.out _ Kr)
    | (go_at_call 25; (with_reducible refine (To.out _ Kr).mono ?_); rintro e w2 ⟨rfl, k1⟩; replace Kr := KT Kr k1; clear k1; (try clear d0 d1 d2 d3 d4 d5); obtain ⟨d0, d1, d2, d3, d4, d5⟩ := CB.out _ Kr; (try clear q0 q1 q2 q3 q4 q5 t0 t1 t2 t3 t4 t5); have HB := Kr.some (heap_at (w := w) (k := w.heap.size) (o := .cells #[.int .i64 r.ep, .int .i64 r.nr, .int .i64 r.kd, .slice ad r.sp.length cap, .string (str r.dt), .string (str r.tx)] 29) rfl) (by simp); have HB4 : (w2.alloc (.cells Z 5)).heap[w.heap.size]? = some _ := heap_was HB; obtain ⟨⟨q0, q1, q2, q3, q4, q5⟩, g0, g1, g2, g3, g4, g5⟩ := cells6 HB4; have HB5 := heap_setCell HB4 4 (.string (str D)); obtain ⟨⟨t0, t1, t2, t3, t4, t5⟩, _⟩ := cells6 HB5; have Kn := Lib.hid (((KT K0.out Kr).alloc (.cells Z 5)).setK w.heap.size 4 (.string (str D)) (Nat.le_refl _)); clear HB HB4 HB5)
    | (go_at_call 11; (with_reducible refine (Rk.out _ Kn.out).mono ?_); rintro e w5 ⟨rfl, k5⟩))
  go_ret
  exact ⟨rfl, KT Kn.out k5⟩

theorem right_any (r : Rc) (sv : Value) (G : List Nat) (w : World) (hr : r.good w sv G) (hd : r.dt = []) (hl : r.sp.length ≤ 64) :
    Calls Try.prog 37 #[r.val sv] w fun e w' => e = .returned (.bool (r.full.check == 0)) ∧ Keeps [] w w' := by
  by_cases hk : r.kd = 1
  · cases ha : r.sp.all maySp with
    | false => exact right_a r sv G w hr hd hl hk ha
    | true =>
      by_cases ht : 512 < totS r.sp
      · exact right_t r sv G w hr hd hl hk ha ht
      · exact right_g r sv G w hr hd hl hk ha (by omega)
  · exact right_k r sv G w hr hd hl hk

end Go.Proofs.Ytjebldfmkpfafaa
