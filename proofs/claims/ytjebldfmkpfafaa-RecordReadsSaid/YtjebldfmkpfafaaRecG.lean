/- Layer 10: the reference: Head, headOf. -/
import Derived.Test.YtjebldfmkpfafaaRecF
import Derived.Test.YtjebldfmkpfafaaMake
import Derived.Test.YtjebldfmkpfafaaWireRef2
import Derived.Test.YtjebldfmkpfafaaSupRefA
namespace Go.Proofs.Ytjebldfmkpfafaa
open Go.RowKit
set_option maxRecDepth 100000

theorem boxed6Q {w w' : World} {r : Rc} {sv : Value} (k : Keeps [] (w.alloc (qbox r sv)) w') : boxed w' w.heap.size r sv := boxed_newQ k
theorem spB_take {l : List Sp} {k : Nat} {s : Sp} (h : l[k]? = some s) : Rc.spB (l.take (k + 1)) = Rc.spB (l.take k) ++ (vby s.1.toNat ++ vby s.2.toNat) := by
  have hst : l.take (k + 1) = l.take k ++ [s] := by rw [List.take_add_one, h]; rfl
  rw [hst, spB_snoc]

set_option maxHeartbeats 4000000 in
theorem rhead1_any (r : Rc) (sv : Value) (G : List Nat) (w : World) (hr : r.good w sv G) (h : r.hok) (hd : r.dt.length ≤ 40000) (hk : r.kd = 1) :
    Calls Try.prog 17 #[r.val sv] w fun e w' => e = .returned (.string (str (r.headB (crcMore 0 r.dt)))) ∧ Keeps [] w w' := by
  have K0 := Lib.hid ((Keeps.refl [] w).alloc (qbox r sv))
  have CB := Lib.hid (fun w' (k : Keeps [] (w.alloc (qbox r sv)) w') => boxed6Q k)
  have Kd := Lib.hid (Keeps.refl [] (w.alloc (qbox r sv))).drew
  have Kz := Lib.hid (Keeps.refl [] (w.alloc (qbox r sv)))
  have hX := crcMore_lt 0 r.dt
  have hMo := fun w => refMore_any 0 r.dt w (by omega) (by omega)
  rw [Int.natCast_zero] at hMo
  have Mo := Lib.hid hMo
  have Fx : Hid (∀ w, Calls Try.prog 31 #[.int .u64 (crcMore 0 r.dt : Nat), .int .i64 4] w fun e w' => e = .returned (.string (str (be (crcMore 0 r.dt) 4))) ∧ Keeps [] w w') := fun w => refFixed_any (crcMore 0 r.dt) 4 w (by omega) (by omega)
  clear hMo
  have Hv := Lib.hid hr.at_
  have hlen := h.len ((crcMore 0 r.dt))
  have hbody := r.bodyB_eq ((crcMore 0 r.dt))
  have hpart : r.partB ((crcMore 0 r.dt)) = (if r.kd = 3 then vby r.tx.length ++ r.tx else vby r.sp.length ++ Rc.spB r.sp) ++ (if r.kd = 1 then be ((crcMore 0 r.dt)) 4 else []) := rfl
  have hres : r.headB ((crcMore 0 r.dt)) = ([76, 82] ++ be (Rc.secs (r.bodyB ((crcMore 0 r.dt))).length) 2 ++ r.bodyB ((crcMore 0 r.dt)) ++ List.replicate (Rc.secs (r.bodyB ((crcMore 0 r.dt))).length * 64 - 8 - (r.bodyB ((crcMore 0 r.dt))).length) 0) ++ four (crcMore 0 ([76, 82] ++ be (Rc.secs (r.bodyB ((crcMore 0 r.dt))).length) 2 ++ r.bodyB ((crcMore 0 r.dt)) ++ List.replicate (Rc.secs (r.bodyB ((crcMore 0 r.dt))).length * 64 - 8 - (r.bodyB ((crcMore 0 r.dt))).length) 0)) := rfl
  obtain ⟨e0, e1, n0, n1, _, hs1, hs2, ht1⟩ := h
  unfold Rc.val at *
  unfold boxed at CB
  unfold qbox at *
  generalize r.bodyB ((crcMore 0 r.dt)) = B at *
  generalize r.partB ((crcMore 0 r.dt)) = C at *
  generalize r.headB ((crcMore 0 r.dt)) = R at *
  obtain ⟨ad, cap, rfl, _⟩ := hr.at_
  obtain ⟨ep, nr, kd, sp, dt, tx⟩ := r
  dsimp only at *
  obtain ⟨E, rfl⟩ := Int.eq_ofNat_of_zero_le e0
  obtain ⟨N, rfl⟩ := Int.eq_ofNat_of_zero_le n0
  subst hk
  simp only [Int.toNat_natCast] at hbody
  rw [show Int.toNat 1 = 1 from rfl] at hbody
  generalize str dt = D at *
  generalize crcMore 0 dt = X at *
  have VE := Lib.hid (fun w => refVar_any E w (by omega))
  have VN := Lib.hid (fun w => refVar_any N w (by omega))
  have VK : Hid (∀ w, Calls Try.prog 30 #[.int .u64 1] w fun e w' => e = .returned (.string (str (vby 1))) ∧ Keeps [] w w') := fun w => refVar_any 1 w (by omega)
  have hwE : IntKind.u64.wrap (E : Int) = E := IntWalk.u64_in _ ⟨by omega, by omega⟩
  have hwN : IntKind.u64.wrap (N : Int) = N := IntWalk.u64_in _ ⟨by omega, by omega⟩
  have hwK : IntKind.u64.wrap 1 = 1 := by decide
  have lE := vby_le E
  have lN := vby_le N
  have lK := vby_le 1
  replace hs1 := hs1 (by decide)
  have Hs2 := Lib.hid (hs2 (by decide))
  have VT := Lib.hid (fun w => refVar_any sp.length w (by omega))
  have lT := vby_le sp.length
  simp only [show ¬ ((1 : Int) = 3) by decide, if_false, if_true] at hpart
  have hB := secs_bd hlen
  have hq0 : (4 + (B.length : Int) + 4 + 63) = ((B.length + 71 : Nat) : Int) := by omega
  have hq : (4 + (B.length : Int) + 4 + 63).tdiv 64 = (Rc.secs B.length : Int) := by rw [hq0]; rfl
  clear hq0
  obtain ⟨M, hM⟩ : ∃ M, Rc.secs B.length = M := ⟨_, rfl⟩
  rw [hM] at hB hq hres
  have F2 : Hid (∀ w, Calls Try.prog 31 #[.int .u64 M, .int .i64 2] w fun e w' => e = .returned (.string (str (be M 2))) ∧ Keeps [] w w') := fun w => refFixed_any M 2 w (by omega) (by omega)
  have hb2 := be_length M 2
  have hb4 := be_length X 4
  obtain ⟨Z0, mk1, mk2⟩ := make_zeros (M * 64 - 8 - B.length) (by omega)
  have hrl : (List.replicate (M * 64 - 8 - B.length) (0 : UInt8)).length = M * 64 - 8 - B.length := List.length_replicate
  generalize List.replicate (M * 64 - 8 - B.length) (0 : UInt8) = Z at *
  have hrl2 : Z.length ≤ 2000 := by omega
  obtain ⟨b2, hb2e⟩ : ∃ b2, b2 = be M 2 := ⟨_, rfl⟩
  rw [← hb2e] at F2 hb2 hres
  obtain ⟨P6, h6⟩ : ∃ P6, P6 = [76, 82] ++ b2 := ⟨_, rfl⟩
  obtain ⟨P7, h7⟩ : ∃ P7, P7 = P6 ++ B := ⟨_, rfl⟩
  obtain ⟨P8, h8⟩ : ∃ P8, P8 = P7 ++ Z := ⟨_, rfl⟩
  rw [← h6, ← h7, ← h8] at hres
  have l6 : P6.length = 4 := by rw [h6, List.length_append, hb2]; rfl
  have l7 : P7.length = 4 + B.length := by rw [h7, List.length_append, l6]
  have l8 : P8.length = 4 + B.length + Z.length := by rw [h8, List.length_append, l7]
  have hz1 : (64 : Int) * (M : Int) - 4 - (4 + (B.length : Int)) = ((M * 64 - 8 - B.length : Nat) : Int) := by omega
  have A6 : ∀ w, (Op.stringOp .add ⟨#[76, 82]⟩ (str b2)).run Try.prog w = .ok (.string (str P6)) w := fun w => by rw [h6]; exact cat_run [76, 82] b2 (by rw [hb2]; decide) w
  have A7 : ∀ w, (Op.stringOp .add (str P6) (str B)).run Try.prog w = .ok (.string (str P7)) w := fun w => by rw [h7]; exact cat_run P6 B (by omega) w
  have A8 : ∀ w, (Op.stringOp .add (str P7) (str Z)).run Try.prog w = .ok (.string (str P8)) w := fun w => by rw [h8]; exact cat_run P7 Z (by omega) w
  have A9 : ∀ w, (Op.stringOp .add (str P8) (str (four (crcMore 0 P8)))).run Try.prog w = .ok (.string (str R)) w := fun w => by rw [hres]; exact cat_run P8 _ (by simp only [four, List.length_cons, List.length_nil]; omega) w
  have mk3 : ∀ w : World, (convert 41 9 (.slice (some ⟨w.heap.size, 0, none⟩) (M * 64 - 8 - B.length) (M * 64 - 8 - B.length))).run Try.prog (w.alloc (.cells Z0 5)) = .ok (.string (str Z)) (w.alloc (.cells Z0 5)) := fun w => mk2 w _ (Keeps.refl [] _)
  have hMo2 := fun w => refMore_any 0 P8 w (by omega) (by omega)
  rw [Int.natCast_zero] at hMo2
  have Mo2 := Lib.hid hMo2
  have Fo2 := Lib.hid (fun w => refFour_any (crcMore 0 P8) w (crcMore_lt 0 P8))
  clear h6 h7 h8 hMo2 hb2e hres
  have Hbody := Lib.hid hbody
  have Hpart := Lib.hid hpart
  have hz0 := str_empty
  clear hr hM hbody hpart mk2 ht1 hs2
  generalize hvE : vby E = bE at *
  generalize hvN : vby N = bN at *
  generalize hvK : vby 1 = bK at *
  clear hvE hvN hvK
  have A2 := fun w => cat_run bE bN (by omega) w
  have A3 := fun w => cat_run (bE ++ bN) bK (by simp; omega) w
  go_enter Try.func17, Try.ntmps17
  go_wp2
  go_region_held3 (fun w' => w'.cell? ⟨w.heap.size, 0, none⟩ = some (.int .i64 E) ∧ w'.cell? ⟨w.heap.size, 1, none⟩ = some (.int .i64 N) ∧ w'.cell? ⟨w.heap.size, 2, none⟩ = some (.int .i64 1) ∧ w'.cell? ⟨w.heap.size, 3, none⟩ = some (.slice ad sp.length cap) ∧ w'.cell? ⟨w.heap.size, 4, none⟩ = some (.string D) ∧ w'.cell? ⟨w.heap.size, 5, none⟩ = some (.string (str tx))) (first | exact CB.out _ Kz.out | exact CB.out _ Kd.out | exact CB.out _ (by assumption)) (first
    | (go_at_call 30; (with_reducible refine (VE.out _).mono ?_); rintro e wE ⟨rfl, kE0⟩; have kE := Kd.out.trans kE0 (by simp); clear VE)
    | (go_at_call 30; (with_reducible refine (VN.out _).mono ?_); rintro e wN ⟨rfl, kN0⟩; have kN := kE.trans kN0 (by simp); clear VN)
    | (go_at_call 30; (with_reducible refine (VK.out _).mono ?_); rintro e wK ⟨rfl, kK0⟩; have kK := kN.trans kK0 (by simp); clear VK kE kN kE0 kN0 kK0))
  obtain ⟨d0, d1, d2, d3, d4, d5⟩ := CB.out _ kK
  go_wp2_with (first
    | (go_at_call 30; (with_reducible refine (VT.out _).mono ?_); rintro e wT ⟨rfl, kT0⟩; have kT := kK.trans kT0 (by simp)))
  go_loopw [3, 4] (fun sv iv wr => ∃ k : Nat, k ≤ sp.length ∧ iv = .int .i64 k ∧ sv = .string (str (bE ++ bN ++ bK ++ vby sp.length ++ Rc.spB (sp.take k))) ∧ Hid (Keeps [] (w.alloc (.cells #[.int .i64 E, .int .i64 N, .int .i64 1, .slice ad sp.length cap, .string D, .string (str tx)] 29)) wr)) (fun _ iv _ => sp.length - (intOf iv).toNat)
  case atStart => exact ⟨0, Nat.zero_le _, rfl, by simp [Rc.spB], kT⟩
  case round =>
    obtain ⟨k, hk, rfl, rfl, Kk⟩ := hrel
    clear d0 d1 d2 d3 d4 d5
    have Kw := Lib.hid (K0.out.trans Kk.out (by simp))
    by_cases hlt : k < sp.length
    · obtain ⟨s, hs⟩ : ∃ s, sp[k]? = some s := ⟨sp[k], by simp [hlt]⟩
      obtain ⟨d0, d1, d2, d3, d4, d5⟩ := CB.out _ Kk.out
      obtain ⟨kb, off, rfl, _, hc⟩ := (Hv.out.keep Kw.out (by simp)).at hs
      have c0 : wr.cell? ⟨kb, off + k * 2, none⟩ = some (.int .i64 s.1) := hc 0 _ rfl
      have c1 : wr.cell? ⟨kb, off + k * 2 + 1, none⟩ = some (.int .i64 s.2) := hc 1 _ rfl
      have hnx := spB_take hs
      have hm := maySp_bd (Hs2.out s (List.mem_of_getElem? hs))
      have hlb := spB_len (sp.take k)
      rw [List.length_take] at hlb
      obtain ⟨sa, sn⟩ := s
      dsimp only at hm c0 c1 hnx
      obtain ⟨m0, m1, m2, m3, _⟩ := hm
      obtain ⟨a, rfl⟩ := Int.eq_ofNat_of_zero_le m0
      obtain ⟨n, rfl⟩ := Int.eq_ofNat_of_zero_le (show 0 ≤ sn by omega)
      rw [Int.toNat_natCast, Int.toNat_natCast] at hnx
      have Va := Lib.hid (fun w => refVar_any a w (by omega))
      have Vn := Lib.hid (fun w => refVar_any n w (by omega))
      have la := vby_le a
      have hwa : IntKind.u64.wrap (a : Int) = a := IntWalk.u64_in _ ⟨by omega, by omega⟩
      have hwn : IntKind.u64.wrap (n : Int) = n := IntWalk.u64_in _ ⟨by omega, by omega⟩
      have ln := vby_le n
      generalize hQ : bE ++ bN ++ bK ++ vby sp.length ++ Rc.spB (sp.take k) = Q
      have lQ : Q.length ≤ 1300 := by rw [← hQ]; simp only [List.length_append]; omega
      have hnx2 : bE ++ bN ++ bK ++ vby sp.length ++ Rc.spB (sp.take (k + 1)) = Q ++ (vby a ++ vby n) := by rw [hnx, ← hQ]; simp
      generalize vby a = Ba at *
      generalize vby n = Bn at *
      have B1 := fun w => cat_run Q Ba (by omega) w
      have B2 := fun w => cat_run (Q ++ Ba) Bn (by simp; omega) w
      have CS : Hid (∀ w', Keeps [] wr w' → (w'.cell? ⟨w.heap.size, 3, none⟩ = some (.slice (some ⟨kb, off, none⟩) sp.length cap) ∧ w'.cell? ⟨kb, off + k * 2, none⟩ = some (.int .i64 a) ∧ w'.cell? ⟨kb, off + k * 2 + 1, none⟩ = some (.int .i64 n))) := fun w' kk => ⟨kk.cell0 d3, kk.cell0 c0, kk.cell0 c1⟩
      have ky := (Keeps.refl [] wr).drew
      have kz := Keeps.refl [] wr
      have hki : (k : Int) < (sp.length : Int) := by omega
      have hki0 : (0 : Int) ≤ (k : Int) := by omega
      have Hnx := Lib.hid hnx2
      clear hnx hnx2 hc hs hQ hlb
      go_wp2
      go_region_held3 (fun w' => w'.cell? ⟨w.heap.size, 3, none⟩ = some (.slice (some ⟨kb, off, none⟩) sp.length cap) ∧ w'.cell? ⟨kb, off + k * 2, none⟩ = some (.int .i64 a) ∧ w'.cell? ⟨kb, off + k * 2 + 1, none⟩ = some (.int .i64 n)) (first | exact CS.out _ kz | exact CS.out _ ky | exact CS.out _ kA | exact CS.out _ kB) (first
        | (go_at_call 30; (with_reducible refine (Va.out _).mono ?_); rintro e wA ⟨rfl, kA0⟩; have kA := ky.trans kA0 (by simp); clear Va)
        | (go_at_call 30; (with_reducible refine (Vn.out _).mono ?_); rintro e wB ⟨rfl, kB0⟩; have kB := kA.trans kB0 (by simp); clear Vn))
      go_wp2
      go_roundw
      case rel => exact ⟨k + 1, by omega, by go_num, by rw [Hnx.out], Kk.out.trans kB (by simp)⟩
      case measure => simp [intOf]; omega
    · obtain rfl : k = sp.length := by omega
      rw [List.take_length]
      obtain ⟨d0, d1, d2, d3, d4, d5⟩ := CB.out _ Kk.out
      obtain ⟨Q, hQ⟩ : ∃ Q, Q = bE ++ bN ++ bK ++ vby sp.length ++ Rc.spB sp := ⟨_, rfl⟩
      rw [← hQ]
      have hQB : B = Q ++ be X 4 := by rw [Hbody.out, Hpart.out, hQ]; simp
      have lQB : Q.length + 4 = B.length := by rw [hQB, List.length_append, be_length]
      have A5 : ∀ w, (Op.stringOp .add (str Q) (str (be X 4))).run Try.prog w = .ok (.string (str B)) w := fun w => by rw [hQB]; exact cat_run Q (be X 4) (by rw [be_length]; omega) w
      clear hQ hQB
      have hwX : IntKind.u64.wrap (X : Int) = X := IntWalk.u64_in _ ⟨by omega, by omega⟩
      have hwM : IntKind.u64.wrap (M : Int) = M := IntWalk.u64_in _ ⟨by omega, by omega⟩
      have KX := Lib.hid (Kw.out)
      go_wp2_with (first
        | (go_at_call 32; (with_reducible refine (Mo.out _).mono ?_); rintro e wM ⟨rfl, rfl⟩)
        | (go_at_call 31; (with_reducible refine (Fx.out _).mono ?_); rintro e wF ⟨rfl, kF0⟩; have kF := KX.out.trans kF0 (by simp))
        | (go_at_call 31; (with_reducible refine (F2.out _).mono ?_); rintro e wG ⟨rfl, kG0⟩; have kG := kF.trans kG0 (by simp))
        | (go_at_call 32; (with_reducible refine (Mo2.out _).mono ?_); rintro e wN ⟨rfl, rfl⟩)
        | (go_at_call 33; (with_reducible refine (Fo2.out _).mono ?_); rintro e wH ⟨rfl, kH0⟩; have kH := (kG.alloc _).trans kH0 (by simp)))
      go_ret
      exact ⟨rfl, kH⟩

set_option maxHeartbeats 4000000 in
theorem rhead2_any (r : Rc) (sv : Value) (G : List Nat) (w : World) (hr : r.good w sv G) (h : r.hok) (hd : r.dt.length ≤ 40000) (hk : r.kd = 2) :
    Calls Try.prog 17 #[r.val sv] w fun e w' => e = .returned (.string (str (r.headB (crcMore 0 r.dt)))) ∧ Keeps [] w w' := by
  have K0 := Lib.hid ((Keeps.refl [] w).alloc (qbox r sv))
  have CB := Lib.hid (fun w' (k : Keeps [] (w.alloc (qbox r sv)) w') => boxed6Q k)
  have Kd := Lib.hid (Keeps.refl [] (w.alloc (qbox r sv))).drew
  have Kz := Lib.hid (Keeps.refl [] (w.alloc (qbox r sv)))
  have hX := crcMore_lt 0 r.dt
  have hMo := fun w => refMore_any 0 r.dt w (by omega) (by omega)
  rw [Int.natCast_zero] at hMo
  have Mo := Lib.hid hMo
  have Fx : Hid (∀ w, Calls Try.prog 31 #[.int .u64 (crcMore 0 r.dt : Nat), .int .i64 4] w fun e w' => e = .returned (.string (str (be (crcMore 0 r.dt) 4))) ∧ Keeps [] w w') := fun w => refFixed_any (crcMore 0 r.dt) 4 w (by omega) (by omega)
  clear hMo
  have Hv := Lib.hid hr.at_
  have hlen := h.len ((crcMore 0 r.dt))
  have hbody := r.bodyB_eq ((crcMore 0 r.dt))
  have hpart : r.partB ((crcMore 0 r.dt)) = (if r.kd = 3 then vby r.tx.length ++ r.tx else vby r.sp.length ++ Rc.spB r.sp) ++ (if r.kd = 1 then be ((crcMore 0 r.dt)) 4 else []) := rfl
  have hres : r.headB ((crcMore 0 r.dt)) = ([76, 82] ++ be (Rc.secs (r.bodyB ((crcMore 0 r.dt))).length) 2 ++ r.bodyB ((crcMore 0 r.dt)) ++ List.replicate (Rc.secs (r.bodyB ((crcMore 0 r.dt))).length * 64 - 8 - (r.bodyB ((crcMore 0 r.dt))).length) 0) ++ four (crcMore 0 ([76, 82] ++ be (Rc.secs (r.bodyB ((crcMore 0 r.dt))).length) 2 ++ r.bodyB ((crcMore 0 r.dt)) ++ List.replicate (Rc.secs (r.bodyB ((crcMore 0 r.dt))).length * 64 - 8 - (r.bodyB ((crcMore 0 r.dt))).length) 0)) := rfl
  obtain ⟨e0, e1, n0, n1, _, hs1, hs2, ht1⟩ := h
  unfold Rc.val at *
  unfold boxed at CB
  unfold qbox at *
  generalize r.bodyB ((crcMore 0 r.dt)) = B at *
  generalize r.partB ((crcMore 0 r.dt)) = C at *
  generalize r.headB ((crcMore 0 r.dt)) = R at *
  obtain ⟨ad, cap, rfl, _⟩ := hr.at_
  obtain ⟨ep, nr, kd, sp, dt, tx⟩ := r
  dsimp only at *
  obtain ⟨E, rfl⟩ := Int.eq_ofNat_of_zero_le e0
  obtain ⟨N, rfl⟩ := Int.eq_ofNat_of_zero_le n0
  subst hk
  simp only [Int.toNat_natCast] at hbody
  rw [show Int.toNat 2 = 2 from rfl] at hbody
  generalize str dt = D at *
  generalize crcMore 0 dt = X at *
  have VE := Lib.hid (fun w => refVar_any E w (by omega))
  have VN := Lib.hid (fun w => refVar_any N w (by omega))
  have VK : Hid (∀ w, Calls Try.prog 30 #[.int .u64 2] w fun e w' => e = .returned (.string (str (vby 2))) ∧ Keeps [] w w') := fun w => refVar_any 2 w (by omega)
  have hwE : IntKind.u64.wrap (E : Int) = E := IntWalk.u64_in _ ⟨by omega, by omega⟩
  have hwN : IntKind.u64.wrap (N : Int) = N := IntWalk.u64_in _ ⟨by omega, by omega⟩
  have hwK : IntKind.u64.wrap 2 = 2 := by decide
  have lE := vby_le E
  have lN := vby_le N
  have lK := vby_le 2
  replace hs1 := hs1 (by decide)
  have Hs2 := Lib.hid (hs2 (by decide))
  have VT := Lib.hid (fun w => refVar_any sp.length w (by omega))
  have lT := vby_le sp.length
  simp only [show ¬ ((2 : Int) = 3) by decide, show ¬ ((2 : Int) = 1) by decide, if_false, List.append_nil] at hpart
  have hB := secs_bd hlen
  have hq0 : (4 + (B.length : Int) + 4 + 63) = ((B.length + 71 : Nat) : Int) := by omega
  have hq : (4 + (B.length : Int) + 4 + 63).tdiv 64 = (Rc.secs B.length : Int) := by rw [hq0]; rfl
  clear hq0
  obtain ⟨M, hM⟩ : ∃ M, Rc.secs B.length = M := ⟨_, rfl⟩
  rw [hM] at hB hq hres
  have F2 : Hid (∀ w, Calls Try.prog 31 #[.int .u64 M, .int .i64 2] w fun e w' => e = .returned (.string (str (be M 2))) ∧ Keeps [] w w') := fun w => refFixed_any M 2 w (by omega) (by omega)
  have hb2 := be_length M 2
  have hb4 := be_length X 4
  obtain ⟨Z0, mk1, mk2⟩ := make_zeros (M * 64 - 8 - B.length) (by omega)
  have hrl : (List.replicate (M * 64 - 8 - B.length) (0 : UInt8)).length = M * 64 - 8 - B.length := List.length_replicate
  generalize List.replicate (M * 64 - 8 - B.length) (0 : UInt8) = Z at *
  have hrl2 : Z.length ≤ 2000 := by omega
  obtain ⟨b2, hb2e⟩ : ∃ b2, b2 = be M 2 := ⟨_, rfl⟩
  rw [← hb2e] at F2 hb2 hres
  obtain ⟨P6, h6⟩ : ∃ P6, P6 = [76, 82] ++ b2 := ⟨_, rfl⟩
  obtain ⟨P7, h7⟩ : ∃ P7, P7 = P6 ++ B := ⟨_, rfl⟩
  obtain ⟨P8, h8⟩ : ∃ P8, P8 = P7 ++ Z := ⟨_, rfl⟩
  rw [← h6, ← h7, ← h8] at hres
  have l6 : P6.length = 4 := by rw [h6, List.length_append, hb2]; rfl
  have l7 : P7.length = 4 + B.length := by rw [h7, List.length_append, l6]
  have l8 : P8.length = 4 + B.length + Z.length := by rw [h8, List.length_append, l7]
  have hz1 : (64 : Int) * (M : Int) - 4 - (4 + (B.length : Int)) = ((M * 64 - 8 - B.length : Nat) : Int) := by omega
  have A6 : ∀ w, (Op.stringOp .add ⟨#[76, 82]⟩ (str b2)).run Try.prog w = .ok (.string (str P6)) w := fun w => by rw [h6]; exact cat_run [76, 82] b2 (by rw [hb2]; decide) w
  have A7 : ∀ w, (Op.stringOp .add (str P6) (str B)).run Try.prog w = .ok (.string (str P7)) w := fun w => by rw [h7]; exact cat_run P6 B (by omega) w
  have A8 : ∀ w, (Op.stringOp .add (str P7) (str Z)).run Try.prog w = .ok (.string (str P8)) w := fun w => by rw [h8]; exact cat_run P7 Z (by omega) w
  have A9 : ∀ w, (Op.stringOp .add (str P8) (str (four (crcMore 0 P8)))).run Try.prog w = .ok (.string (str R)) w := fun w => by rw [hres]; exact cat_run P8 _ (by simp only [four, List.length_cons, List.length_nil]; omega) w
  have mk3 : ∀ w : World, (convert 41 9 (.slice (some ⟨w.heap.size, 0, none⟩) (M * 64 - 8 - B.length) (M * 64 - 8 - B.length))).run Try.prog (w.alloc (.cells Z0 5)) = .ok (.string (str Z)) (w.alloc (.cells Z0 5)) := fun w => mk2 w _ (Keeps.refl [] _)
  have hMo2 := fun w => refMore_any 0 P8 w (by omega) (by omega)
  rw [Int.natCast_zero] at hMo2
  have Mo2 := Lib.hid hMo2
  have Fo2 := Lib.hid (fun w => refFour_any (crcMore 0 P8) w (crcMore_lt 0 P8))
  clear h6 h7 h8 hMo2 hb2e hres
  have Hbody := Lib.hid hbody
  have Hpart := Lib.hid hpart
  have hz0 := str_empty
  clear hr hM hbody hpart mk2 ht1 hs2
  generalize hvE : vby E = bE at *
  generalize hvN : vby N = bN at *
  generalize hvK : vby 2 = bK at *
  clear hvE hvN hvK
  have A2 := fun w => cat_run bE bN (by omega) w
  have A3 := fun w => cat_run (bE ++ bN) bK (by simp; omega) w
  go_enter Try.func17, Try.ntmps17
  go_wp2
  go_region_held3 (fun w' => w'.cell? ⟨w.heap.size, 0, none⟩ = some (.int .i64 E) ∧ w'.cell? ⟨w.heap.size, 1, none⟩ = some (.int .i64 N) ∧ w'.cell? ⟨w.heap.size, 2, none⟩ = some (.int .i64 2) ∧ w'.cell? ⟨w.heap.size, 3, none⟩ = some (.slice ad sp.length cap) ∧ w'.cell? ⟨w.heap.size, 4, none⟩ = some (.string D) ∧ w'.cell? ⟨w.heap.size, 5, none⟩ = some (.string (str tx))) (first | exact CB.out _ Kz.out | exact CB.out _ Kd.out | exact CB.out _ (by assumption)) (first
    | (go_at_call 30; (with_reducible refine (VE.out _).mono ?_); rintro e wE ⟨rfl, kE0⟩; have kE := Kd.out.trans kE0 (by simp); clear VE)
    | (go_at_call 30; (with_reducible refine (VN.out _).mono ?_); rintro e wN ⟨rfl, kN0⟩; have kN := kE.trans kN0 (by simp); clear VN)
    | (go_at_call 30; (with_reducible refine (VK.out _).mono ?_); rintro e wK ⟨rfl, kK0⟩; have kK := kN.trans kK0 (by simp); clear VK kE kN kE0 kN0 kK0))
  obtain ⟨d0, d1, d2, d3, d4, d5⟩ := CB.out _ kK
  go_wp2_with (first
    | (go_at_call 30; (with_reducible refine (VT.out _).mono ?_); rintro e wT ⟨rfl, kT0⟩; have kT := kK.trans kT0 (by simp)))
  go_loopw [3, 4] (fun sv iv wr => ∃ k : Nat, k ≤ sp.length ∧ iv = .int .i64 k ∧ sv = .string (str (bE ++ bN ++ bK ++ vby sp.length ++ Rc.spB (sp.take k))) ∧ Hid (Keeps [] (w.alloc (.cells #[.int .i64 E, .int .i64 N, .int .i64 2, .slice ad sp.length cap, .string D, .string (str tx)] 29)) wr)) (fun _ iv _ => sp.length - (intOf iv).toNat)
  case atStart => exact ⟨0, Nat.zero_le _, rfl, by simp [Rc.spB], kT⟩
  case round =>
    obtain ⟨k, hk, rfl, rfl, Kk⟩ := hrel
    clear d0 d1 d2 d3 d4 d5
    have Kw := Lib.hid (K0.out.trans Kk.out (by simp))
    by_cases hlt : k < sp.length
    · obtain ⟨s, hs⟩ : ∃ s, sp[k]? = some s := ⟨sp[k], by simp [hlt]⟩
      obtain ⟨d0, d1, d2, d3, d4, d5⟩ := CB.out _ Kk.out
      obtain ⟨kb, off, rfl, _, hc⟩ := (Hv.out.keep Kw.out (by simp)).at hs
      have c0 : wr.cell? ⟨kb, off + k * 2, none⟩ = some (.int .i64 s.1) := hc 0 _ rfl
      have c1 : wr.cell? ⟨kb, off + k * 2 + 1, none⟩ = some (.int .i64 s.2) := hc 1 _ rfl
      have hnx := spB_take hs
      have hm := maySp_bd (Hs2.out s (List.mem_of_getElem? hs))
      have hlb := spB_len (sp.take k)
      rw [List.length_take] at hlb
      obtain ⟨sa, sn⟩ := s
      dsimp only at hm c0 c1 hnx
      obtain ⟨m0, m1, m2, m3, _⟩ := hm
      obtain ⟨a, rfl⟩ := Int.eq_ofNat_of_zero_le m0
      obtain ⟨n, rfl⟩ := Int.eq_ofNat_of_zero_le (show 0 ≤ sn by omega)
      rw [Int.toNat_natCast, Int.toNat_natCast] at hnx
      have Va := Lib.hid (fun w => refVar_any a w (by omega))
      have Vn := Lib.hid (fun w => refVar_any n w (by omega))
      have la := vby_le a
      have hwa : IntKind.u64.wrap (a : Int) = a := IntWalk.u64_in _ ⟨by omega, by omega⟩
      have hwn : IntKind.u64.wrap (n : Int) = n := IntWalk.u64_in _ ⟨by omega, by omega⟩
      have ln := vby_le n
      generalize hQ : bE ++ bN ++ bK ++ vby sp.length ++ Rc.spB (sp.take k) = Q
      have lQ : Q.length ≤ 1300 := by rw [← hQ]; simp only [List.length_append]; omega
      have hnx2 : bE ++ bN ++ bK ++ vby sp.length ++ Rc.spB (sp.take (k + 1)) = Q ++ (vby a ++ vby n) := by rw [hnx, ← hQ]; simp
      generalize vby a = Ba at *
      generalize vby n = Bn at *
      have B1 := fun w => cat_run Q Ba (by omega) w
      have B2 := fun w => cat_run (Q ++ Ba) Bn (by simp; omega) w
      have CS : Hid (∀ w', Keeps [] wr w' → (w'.cell? ⟨w.heap.size, 3, none⟩ = some (.slice (some ⟨kb, off, none⟩) sp.length cap) ∧ w'.cell? ⟨kb, off + k * 2, none⟩ = some (.int .i64 a) ∧ w'.cell? ⟨kb, off + k * 2 + 1, none⟩ = some (.int .i64 n))) := fun w' kk => ⟨kk.cell0 d3, kk.cell0 c0, kk.cell0 c1⟩
      have ky := (Keeps.refl [] wr).drew
      have kz := Keeps.refl [] wr
      have hki : (k : Int) < (sp.length : Int) := by omega
      have hki0 : (0 : Int) ≤ (k : Int) := by omega
      have Hnx := Lib.hid hnx2
      clear hnx hnx2 hc hs hQ hlb
      go_wp2
      go_region_held3 (fun w' => w'.cell? ⟨w.heap.size, 3, none⟩ = some (.slice (some ⟨kb, off, none⟩) sp.length cap) ∧ w'.cell? ⟨kb, off + k * 2, none⟩ = some (.int .i64 a) ∧ w'.cell? ⟨kb, off + k * 2 + 1, none⟩ = some (.int .i64 n)) (first | exact CS.out _ kz | exact CS.out _ ky | exact CS.out _ kA | exact CS.out _ kB) (first
        | (go_at_call 30; (with_reducible refine (Va.out _).mono ?_); rintro e wA ⟨rfl, kA0⟩; have kA := ky.trans kA0 (by simp); clear Va)
        | (go_at_call 30; (with_reducible refine (Vn.out _).mono ?_); rintro e wB ⟨rfl, kB0⟩; have kB := kA.trans kB0 (by simp); clear Vn))
      go_wp2
      go_roundw
      case rel => exact ⟨k + 1, by omega, by go_num, by rw [Hnx.out], Kk.out.trans kB (by simp)⟩
      case measure => simp [intOf]; omega
    · obtain rfl : k = sp.length := by omega
      rw [List.take_length]
      obtain ⟨d0, d1, d2, d3, d4, d5⟩ := CB.out _ Kk.out
      obtain ⟨Q, hQ⟩ : ∃ Q, Q = bE ++ bN ++ bK ++ vby sp.length ++ Rc.spB sp := ⟨_, rfl⟩
      rw [← hQ]
      have hQB : B = Q := by rw [Hbody.out, Hpart.out, hQ]; simp
      rw [← hQB]
      clear hQ hQB
      have hwM : IntKind.u64.wrap (M : Int) = M := IntWalk.u64_in _ ⟨by omega, by omega⟩
      have KX := Lib.hid (Kw.out)
      go_wp2_with (first
        | (go_at_call 31; (with_reducible refine (F2.out _).mono ?_); rintro e wG ⟨rfl, kG0⟩; have kG := KX.out.trans kG0 (by simp))
        | (go_at_call 32; (with_reducible refine (Mo2.out _).mono ?_); rintro e wN ⟨rfl, rfl⟩)
        | (go_at_call 33; (with_reducible refine (Fo2.out _).mono ?_); rintro e wH ⟨rfl, kH0⟩; have kH := (kG.alloc _).trans kH0 (by simp)))
      go_ret
      exact ⟨rfl, kH⟩

set_option maxHeartbeats 4000000 in
theorem rhead3_any (r : Rc) (sv : Value) (G : List Nat) (w : World) (hr : r.good w sv G) (h : r.hok) (hd : r.dt.length ≤ 40000) (hk : r.kd = 3) :
    Calls Try.prog 17 #[r.val sv] w fun e w' => e = .returned (.string (str (r.headB (crcMore 0 r.dt)))) ∧ Keeps [] w w' := by
  have K0 := Lib.hid ((Keeps.refl [] w).alloc (qbox r sv))
  have CB := Lib.hid (fun w' (k : Keeps [] (w.alloc (qbox r sv)) w') => boxed6Q k)
  have Kd := Lib.hid (Keeps.refl [] (w.alloc (qbox r sv))).drew
  have Kz := Lib.hid (Keeps.refl [] (w.alloc (qbox r sv)))
  have hX := crcMore_lt 0 r.dt
  have hMo := fun w => refMore_any 0 r.dt w (by omega) (by omega)
  rw [Int.natCast_zero] at hMo
  have Mo := Lib.hid hMo
  have Fx : Hid (∀ w, Calls Try.prog 31 #[.int .u64 (crcMore 0 r.dt : Nat), .int .i64 4] w fun e w' => e = .returned (.string (str (be (crcMore 0 r.dt) 4))) ∧ Keeps [] w w') := fun w => refFixed_any (crcMore 0 r.dt) 4 w (by omega) (by omega)
  clear hMo
  have Hv := Lib.hid hr.at_
  have hlen := h.len ((crcMore 0 r.dt))
  have hbody := r.bodyB_eq ((crcMore 0 r.dt))
  have hpart : r.partB ((crcMore 0 r.dt)) = (if r.kd = 3 then vby r.tx.length ++ r.tx else vby r.sp.length ++ Rc.spB r.sp) ++ (if r.kd = 1 then be ((crcMore 0 r.dt)) 4 else []) := rfl
  have hres : r.headB ((crcMore 0 r.dt)) = ([76, 82] ++ be (Rc.secs (r.bodyB ((crcMore 0 r.dt))).length) 2 ++ r.bodyB ((crcMore 0 r.dt)) ++ List.replicate (Rc.secs (r.bodyB ((crcMore 0 r.dt))).length * 64 - 8 - (r.bodyB ((crcMore 0 r.dt))).length) 0) ++ four (crcMore 0 ([76, 82] ++ be (Rc.secs (r.bodyB ((crcMore 0 r.dt))).length) 2 ++ r.bodyB ((crcMore 0 r.dt)) ++ List.replicate (Rc.secs (r.bodyB ((crcMore 0 r.dt))).length * 64 - 8 - (r.bodyB ((crcMore 0 r.dt))).length) 0)) := rfl
  obtain ⟨e0, e1, n0, n1, _, hs1, hs2, ht1⟩ := h
  unfold Rc.val at *
  unfold boxed at CB
  unfold qbox at *
  generalize r.bodyB ((crcMore 0 r.dt)) = B at *
  generalize r.partB ((crcMore 0 r.dt)) = C at *
  generalize r.headB ((crcMore 0 r.dt)) = R at *
  obtain ⟨ad, cap, rfl, _⟩ := hr.at_
  obtain ⟨ep, nr, kd, sp, dt, tx⟩ := r
  dsimp only at *
  obtain ⟨E, rfl⟩ := Int.eq_ofNat_of_zero_le e0
  obtain ⟨N, rfl⟩ := Int.eq_ofNat_of_zero_le n0
  subst hk
  simp only [Int.toNat_natCast] at hbody
  rw [show Int.toNat 3 = 3 from rfl] at hbody
  generalize str dt = D at *
  generalize crcMore 0 dt = X at *
  have VE := Lib.hid (fun w => refVar_any E w (by omega))
  have VN := Lib.hid (fun w => refVar_any N w (by omega))
  have VK : Hid (∀ w, Calls Try.prog 30 #[.int .u64 3] w fun e w' => e = .returned (.string (str (vby 3))) ∧ Keeps [] w w') := fun w => refVar_any 3 w (by omega)
  have hwE : IntKind.u64.wrap (E : Int) = E := IntWalk.u64_in _ ⟨by omega, by omega⟩
  have hwN : IntKind.u64.wrap (N : Int) = N := IntWalk.u64_in _ ⟨by omega, by omega⟩
  have hwK : IntKind.u64.wrap 3 = 3 := by decide
  have lE := vby_le E
  have lN := vby_le N
  have lK := vby_le 3
  replace ht1 := ht1 rfl
  have VT := Lib.hid (fun w => refVar_any tx.length w (by omega))
  have lT := vby_le tx.length
  simp only [if_true, show ¬ ((3 : Int) = 1) by decide, if_false, List.append_nil] at hpart
  have hB := secs_bd hlen
  have hq0 : (4 + (B.length : Int) + 4 + 63) = ((B.length + 71 : Nat) : Int) := by omega
  have hq : (4 + (B.length : Int) + 4 + 63).tdiv 64 = (Rc.secs B.length : Int) := by rw [hq0]; rfl
  clear hq0
  obtain ⟨M, hM⟩ : ∃ M, Rc.secs B.length = M := ⟨_, rfl⟩
  rw [hM] at hB hq hres
  have F2 : Hid (∀ w, Calls Try.prog 31 #[.int .u64 M, .int .i64 2] w fun e w' => e = .returned (.string (str (be M 2))) ∧ Keeps [] w w') := fun w => refFixed_any M 2 w (by omega) (by omega)
  have hb2 := be_length M 2
  have hb4 := be_length X 4
  obtain ⟨Z0, mk1, mk2⟩ := make_zeros (M * 64 - 8 - B.length) (by omega)
  have hrl : (List.replicate (M * 64 - 8 - B.length) (0 : UInt8)).length = M * 64 - 8 - B.length := List.length_replicate
  generalize List.replicate (M * 64 - 8 - B.length) (0 : UInt8) = Z at *
  have hrl2 : Z.length ≤ 2000 := by omega
  obtain ⟨b2, hb2e⟩ : ∃ b2, b2 = be M 2 := ⟨_, rfl⟩
  rw [← hb2e] at F2 hb2 hres
  obtain ⟨P6, h6⟩ : ∃ P6, P6 = [76, 82] ++ b2 := ⟨_, rfl⟩
  obtain ⟨P7, h7⟩ : ∃ P7, P7 = P6 ++ B := ⟨_, rfl⟩
  obtain ⟨P8, h8⟩ : ∃ P8, P8 = P7 ++ Z := ⟨_, rfl⟩
  rw [← h6, ← h7, ← h8] at hres
  have l6 : P6.length = 4 := by rw [h6, List.length_append, hb2]; rfl
  have l7 : P7.length = 4 + B.length := by rw [h7, List.length_append, l6]
  have l8 : P8.length = 4 + B.length + Z.length := by rw [h8, List.length_append, l7]
  have hz1 : (64 : Int) * (M : Int) - 4 - (4 + (B.length : Int)) = ((M * 64 - 8 - B.length : Nat) : Int) := by omega
  have A6 : ∀ w, (Op.stringOp .add ⟨#[76, 82]⟩ (str b2)).run Try.prog w = .ok (.string (str P6)) w := fun w => by rw [h6]; exact cat_run [76, 82] b2 (by rw [hb2]; decide) w
  have A7 : ∀ w, (Op.stringOp .add (str P6) (str B)).run Try.prog w = .ok (.string (str P7)) w := fun w => by rw [h7]; exact cat_run P6 B (by omega) w
  have A8 : ∀ w, (Op.stringOp .add (str P7) (str Z)).run Try.prog w = .ok (.string (str P8)) w := fun w => by rw [h8]; exact cat_run P7 Z (by omega) w
  have A9 : ∀ w, (Op.stringOp .add (str P8) (str (four (crcMore 0 P8)))).run Try.prog w = .ok (.string (str R)) w := fun w => by rw [hres]; exact cat_run P8 _ (by simp only [four, List.length_cons, List.length_nil]; omega) w
  have mk3 : ∀ w : World, (convert 41 9 (.slice (some ⟨w.heap.size, 0, none⟩) (M * 64 - 8 - B.length) (M * 64 - 8 - B.length))).run Try.prog (w.alloc (.cells Z0 5)) = .ok (.string (str Z)) (w.alloc (.cells Z0 5)) := fun w => mk2 w _ (Keeps.refl [] _)
  have hMo2 := fun w => refMore_any 0 P8 w (by omega) (by omega)
  rw [Int.natCast_zero] at hMo2
  have Mo2 := Lib.hid hMo2
  have Fo2 := Lib.hid (fun w => refFour_any (crcMore 0 P8) w (crcMore_lt 0 P8))
  clear h6 h7 h8 hMo2 hb2e hres
  have Hbody := Lib.hid hbody
  have Hpart := Lib.hid hpart
  have hz0 := str_empty
  clear hr hM hbody hpart mk2 ht1 hs2
  generalize hvE : vby E = bE at *
  generalize hvN : vby N = bN at *
  generalize hvK : vby 3 = bK at *
  clear hvE hvN hvK
  have A2 := fun w => cat_run bE bN (by omega) w
  have A3 := fun w => cat_run (bE ++ bN) bK (by simp; omega) w
  generalize hvT : vby tx.length = bT at *
  clear hvT
  obtain ⟨P4, h4⟩ : ∃ P4, P4 = bE ++ (bN ++ bK) ++ bT := ⟨_, rfl⟩
  have hQB : B = P4 ++ tx := by rw [Hbody.out, Hpart.out, h4]; simp
  have lQB : P4.length + tx.length = B.length := by rw [hQB, List.length_append]
  have A4 : ∀ w, (Op.stringOp .add (str (bE ++ (bN ++ bK))) (str bT)).run Try.prog w = .ok (.string (str P4)) w := fun w => by rw [h4]; exact cat_run _ bT (by simp only [List.length_append]; omega) w
  have A5 : ∀ w, (Op.stringOp .add (str P4) (str tx)).run Try.prog w = .ok (.string (str B)) w := fun w => by rw [hQB]; exact cat_run P4 tx (by omega) w
  have htx : (tx.length : Int) ≤ 9223372036854775807 := by omega
  have hwT : IntKind.u64.wrap (tx.length : Int) = tx.length := IntWalk.u64_in _ ⟨by omega, by omega⟩
  clear h4 hQB
  go_enter Try.func17, Try.ntmps17
  go_wp2
  go_region_held3 (fun w' => w'.cell? ⟨w.heap.size, 0, none⟩ = some (.int .i64 E) ∧ w'.cell? ⟨w.heap.size, 1, none⟩ = some (.int .i64 N) ∧ w'.cell? ⟨w.heap.size, 2, none⟩ = some (.int .i64 3) ∧ w'.cell? ⟨w.heap.size, 3, none⟩ = some (.slice ad sp.length cap) ∧ w'.cell? ⟨w.heap.size, 4, none⟩ = some (.string D) ∧ w'.cell? ⟨w.heap.size, 5, none⟩ = some (.string (str tx))) (first | exact CB.out _ Kz.out | exact CB.out _ Kd.out | exact CB.out _ (by assumption)) (first
    | (go_at_call 30; (with_reducible refine (VE.out _).mono ?_); rintro e wE ⟨rfl, kE0⟩; have kE := Kd.out.trans kE0 (by simp); clear VE)
    | (go_at_call 30; (with_reducible refine (VN.out _).mono ?_); rintro e wN ⟨rfl, kN0⟩; have kN := kE.trans kN0 (by simp); clear VN)
    | (go_at_call 30; (with_reducible refine (VK.out _).mono ?_); rintro e wK ⟨rfl, kK0⟩; have kK := kN.trans kK0 (by simp); clear VK kE kN kE0 kN0 kK0))
  go_wp2
  have kK' := kK.drew
  go_region_held3 (fun w' => w'.cell? ⟨w.heap.size, 0, none⟩ = some (.int .i64 E) ∧ w'.cell? ⟨w.heap.size, 1, none⟩ = some (.int .i64 N) ∧ w'.cell? ⟨w.heap.size, 2, none⟩ = some (.int .i64 3) ∧ w'.cell? ⟨w.heap.size, 3, none⟩ = some (.slice ad sp.length cap) ∧ w'.cell? ⟨w.heap.size, 4, none⟩ = some (.string D) ∧ w'.cell? ⟨w.heap.size, 5, none⟩ = some (.string (str tx))) (first | exact CB.out _ kK | exact CB.out _ kK' | exact CB.out _ kT) (first
    | (go_at_call 30; (with_reducible refine (VT.out _).mono ?_); rintro e wT ⟨rfl, kT0⟩; have kT := kK'.trans kT0 (by simp); clear VT))
  obtain ⟨d0, d1, d2, d3, d4, d5⟩ := CB.out _ kT
  have hwM : IntKind.u64.wrap (M : Int) = M := IntWalk.u64_in _ ⟨by omega, by omega⟩
  have KX := Lib.hid (K0.out.trans kT (by simp))
  go_wp2_with (first
    | (go_at_call 31; (with_reducible refine (F2.out _).mono ?_); rintro e wG ⟨rfl, kG0⟩; have kG := KX.out.trans kG0 (by simp))
    | (go_at_call 32; (with_reducible refine (Mo2.out _).mono ?_); rintro e wN ⟨rfl, rfl⟩)
    | (go_at_call 33; (with_reducible refine (Fo2.out _).mono ?_); rintro e wH ⟨rfl, kH0⟩; have kH := (kG.alloc _).trans kH0 (by simp)))
  go_ret
  exact ⟨rfl, kH⟩

theorem ref_head_any (r : Rc) (sv : Value) (G : List Nat) (w : World) (hr : r.good w sv G) (h : r.hok) (hd : r.dt.length ≤ 40000) :
    Calls Try.prog 17 #[r.val sv] w fun e w' => e = .returned (.string (str (r.headB (crcMore 0 r.dt)))) ∧ Keeps [] w w' := by
  rcases h.k with hk | hk | hk
  · exact rhead1_any r sv G w hr h hd hk
  · exact rhead2_any r sv G w hr h hd hk
  · exact rhead3_any r sv G w hr h hd hk
end Go.Proofs.Ytjebldfmkpfafaa
