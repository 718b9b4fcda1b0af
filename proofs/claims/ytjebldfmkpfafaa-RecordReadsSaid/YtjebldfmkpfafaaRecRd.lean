/- Layer 10: the reference: Decode. -/
import Derived.Test.YtjebldfmkpfafaaRecRs
namespace Go.Proofs.Ytjebldfmkpfafaa
open Go.RowKit
set_option maxRecDepth 100000

theorem be_ne {x y : Nat} (hx : x < 4294967296) (hy : y < 4294967296) : be x 4 = be y 4 ↔ x = y := by
  constructor
  · intro h
    have h1 := congrArg num h
    rw [num_be, num_be] at h1
    omega
  · intro h; rw [h]

set_option maxHeartbeats 4000000 in
theorem rdec_err (s : List UInt8) (w : World) (hs : s.length ≤ 100000) (h : (openV s).2.2.2 ≠ 0) :
    Calls Try.prog 22 #[.string (str s)] w (DecPost w (decV s)) := by
  have hz := str_empty
  have K0 := Lib.hid ((Keeps.refl [] w).alloc zq)
  have Zc : Hid (∀ w', Keeps [] (w.alloc zq) w' → w'.heap[w.heap.size]? = some zq) := fun w' k => k.some (heap_alloc_self w zq) (by simp)
  have Kz := Lib.hid (Keeps.refl [] (w.alloc zq))
  have Opn := Lib.hid (fun w => ropen_any s w hs)
  have hfit := openV_fit s hs
  have hN := openV_n s
  have hX := openV_x s
  unfold zq at *
  have hv : decV s = (Rc.zero, 0, (openV s).2.2.2) := by unfold decV; rw [if_pos h]
  rw [hv]
  generalize openV s = TT at *
  obtain ⟨R, N, X, te⟩ := TT
  dsimp only at *
  have hsb := sects_bd hfit
  unfold OpenQ Rc.val at Opn
  dsimp only at *
  clear hfit hv
  have hb : (te != 0) = true := bne_iff_ne.2 h
  generalize (if R.kd = 1 then be X 4 else []) = BX at *
  clear h
  go_enter Try.func22, Try.ntmps22
  go_wp2_with (first
    | (go_at_call 21; (with_reducible refine (Opn.out _).mono ?_); rintro e w1 ⟨sv, G, rfl, hg, hGb, k1⟩; have KA := Lib.hid (KT Kz.out k1); clear k1; obtain ⟨ad, cap, rfl, _⟩ := hg.at_; have Hg := Lib.hid hg; have HGb := Lib.hid hGb; clear hg hGb; have Kb := Lib.hid (KA.out.alloc (.cells #[.int .i64 R.ep, .int .i64 R.nr, .int .i64 R.kd, .slice ad R.sp.length cap, .string (str R.dt), .string (str R.tx)] 29)); have HR := Lib.hid (Zc.out _ Kb.out); obtain ⟨⟨q0, q1, q2, q3, q4, q5⟩, f0, f1, f2, f3, f4, f5⟩ := cells6 HR.out))
  refine bodyPost_ret (results_row_tmp2 rfl rfl (heap_set6 HR.out _ _ _ _ _ _) Try.underlying29 rfl (by kernel_rfl)) rfl ⟨.slice none 0 0, [], rfl, zero_good _, by simp, keeps_set6 (KT K0.out Kb.out) (Nat.le_refl _) _ _ _ _ _ _⟩
set_option maxHeartbeats 4000000 in
theorem rdec_cut (s : List UInt8) (w : World) (hs : s.length ≤ 100000) (h : (openV s).2.2.2 = 0) (hl : (s.length : Int) < ((openV s).2.1 + (openV s).1.sects) * 64) :
    Calls Try.prog 22 #[.string (str s)] w (DecPost w (decV s)) := by
  have hz := str_empty
  have K0 := Lib.hid ((Keeps.refl [] w).alloc zq)
  have Zc : Hid (∀ w', Keeps [] (w.alloc zq) w' → w'.heap[w.heap.size]? = some zq) := fun w' k => k.some (heap_alloc_self w zq) (by simp)
  have Kz := Lib.hid (Keeps.refl [] (w.alloc zq))
  have Opn := Lib.hid (fun w => ropen_any s w hs)
  have hfit := openV_fit s hs
  have hN := openV_n s
  have hX := openV_x s
  unfold zq at *
  have hv : decV s = (Rc.zero, 0, 10) := by unfold decV; rw [if_neg (fun hh => hh h), if_pos hl]
  rw [hv]
  generalize openV s = TT at *
  obtain ⟨R, N, X, te⟩ := TT
  dsimp only at *
  have hsb := sects_bd hfit
  unfold OpenQ Rc.val at Opn
  dsimp only at *
  clear hfit hv
  subst h
  have hwk : IntKind.i64.wrap ((N : Int) + R.sects) = (N : Int) + R.sects := IntWalk.i64_in _ ⟨by omega, by omega⟩
  have hwk2 : IntKind.i64.wrap (64 * ((N : Int) + R.sects)) = 64 * ((N : Int) + R.sects) := IntWalk.i64_in _ ⟨by omega, by omega⟩
  have h6 : decide ((s.length : Int) < 64 * ((N : Int) + R.sects)) = true := decide_eq_true (by omega)
  generalize R.sects = SX at *
  generalize (if R.kd = 1 then be X 4 else []) = BX at *
  clear hl
  go_enter Try.func22, Try.ntmps22
  go_wp2_with (first
    | (go_at_call 21; (with_reducible refine (Opn.out _).mono ?_); rintro e w1 ⟨sv, G, rfl, hg, hGb, k1⟩; have KA := Lib.hid (KT Kz.out k1); clear k1; obtain ⟨ad, cap, rfl, _⟩ := hg.at_; have Hg := Lib.hid hg; have HGb := Lib.hid hGb; clear hg hGb; have Kb := Lib.hid (KA.out.alloc (.cells #[.int .i64 R.ep, .int .i64 R.nr, .int .i64 R.kd, .slice ad R.sp.length cap, .string (str R.dt), .string (str R.tx)] 29)); have HR := Lib.hid (Zc.out _ Kb.out); obtain ⟨⟨q0, q1, q2, q3, q4, q5⟩, f0, f1, f2, f3, f4, f5⟩ := cells6 HR.out))
  refine bodyPost_ret (results_row_tmp2 rfl rfl (heap_set6 HR.out _ _ _ _ _ _) Try.underlying29 rfl (by kernel_rfl)) rfl ⟨.slice none 0 0, [], rfl, zero_good _, by simp, keeps_set6 (KT K0.out Kb.out) (Nat.le_refl _) _ _ _ _ _ _⟩
set_option maxHeartbeats 4000000 in
theorem rdec_other (s : List UInt8) (w : World) (hs : s.length ≤ 100000) (h : (openV s).2.2.2 = 0) (hl : ¬ (s.length : Int) < ((openV s).2.1 + (openV s).1.sects) * 64) (hk : (openV s).1.kd ≠ 1) :
    Calls Try.prog 22 #[.string (str s)] w (DecPost w (decV s)) := by
  have hz := str_empty
  have K0 := Lib.hid ((Keeps.refl [] w).alloc zq)
  have Zc : Hid (∀ w', Keeps [] (w.alloc zq) w' → w'.heap[w.heap.size]? = some zq) := fun w' k => k.some (heap_alloc_self w zq) (by simp)
  have Kz := Lib.hid (Keeps.refl [] (w.alloc zq))
  have Opn := Lib.hid (fun w => ropen_any s w hs)
  have hfit := openV_fit s hs
  have hN := openV_n s
  have hX := openV_x s
  unfold zq at *
  have hv : decV s = ((openV s).1, (openV s).2.1 + (openV s).1.sects, 0) := by unfold decV; rw [if_neg (fun hh => hh h), if_neg hl, if_neg hk]
  rw [hv]
  generalize openV s = TT at *
  obtain ⟨R, N, X, te⟩ := TT
  dsimp only at *
  have hsb := sects_bd hfit
  unfold OpenQ Rc.val at Opn
  dsimp only at *
  clear hfit hv
  subst h
  have hwk : IntKind.i64.wrap ((N : Int) + R.sects) = (N : Int) + R.sects := IntWalk.i64_in _ ⟨by omega, by omega⟩
  have hwk2 : IntKind.i64.wrap (64 * ((N : Int) + R.sects)) = 64 * ((N : Int) + R.sects) := IntWalk.i64_in _ ⟨by omega, by omega⟩
  have h6 : decide ((s.length : Int) < 64 * ((N : Int) + R.sects)) = false := decide_eq_false (by omega)
  have hkb : (R.kd == 1) = false := beq_eq_false_iff_ne.2 hk
  generalize R.sects = SX at *
  generalize (if R.kd = 1 then be X 4 else []) = BX at *
  clear hl hk
  go_enter Try.func22, Try.ntmps22
  go_wp2_with (first
    | (go_at_call 21; (with_reducible refine (Opn.out _).mono ?_); rintro e w1 ⟨sv, G, rfl, hg, hGb, k1⟩; have KA := Lib.hid (KT Kz.out k1); clear k1; obtain ⟨ad, cap, rfl, _⟩ := hg.at_; have Hg := Lib.hid hg; have HGb := Lib.hid hGb; clear hg hGb; have Kb := Lib.hid (KA.out.alloc (.cells #[.int .i64 R.ep, .int .i64 R.nr, .int .i64 R.kd, .slice ad R.sp.length cap, .string (str R.dt), .string (str R.tx)] 29)); have HR := Lib.hid (Zc.out _ Kb.out); obtain ⟨⟨q0, q1, q2, q3, q4, q5⟩, f0, f1, f2, f3, f4, f5⟩ := cells6 HR.out))
  refine bodyPost_ret (results_row_tmp2 rfl rfl (heap_set6 HR.out _ _ _ _ _ _) Try.underlying29 rfl (by kernel_rfl)) rfl ⟨.slice ad R.sp.length cap, G, rfl, (Hg.out.newer ((Keeps.refl [] w1).alloc (.cells #[.int .i64 R.ep, .int .i64 R.nr, .int .i64 R.kd, .slice ad R.sp.length cap, .string (str R.dt), .string (str R.tx)] 29))).kept (keeps_at6 _ w.heap.size _ _ _ _ _ _) (fun x hx => ?_), fun x hx => ?_, keeps_set6 (KT K0.out Kb.out) (Nat.le_refl _) _ _ _ _ _ _⟩
  · have h1 := (HGb.out x hx).1
    have h2 := KA.out.size
    simp at h1 h2 ⊢
    omega
  · have h1 := HGb.out x hx
    have h2 := ((Keeps.refl [] w1).alloc (.cells #[.int .i64 R.ep, .int .i64 R.nr, .int .i64 R.kd, .slice ad R.sp.length cap, .string (str R.dt), .string (str R.tx)] 29)).size
    simp at h1 h2 ⊢
    omega
set_option maxHeartbeats 4000000 in
theorem rdec_bad (s : List UInt8) (w : World) (hs : s.length ≤ 100000) (h : (openV s).2.2.2 = 0) (hl : ¬ (s.length : Int) < ((openV s).2.1 + (openV s).1.sects) * 64) (hk : (openV s).1.kd = 1) (hc : crcMore 0 ((s.drop ((openV s).2.1 * 64)).take ((openV s).1.sects.toNat * 64)) ≠ (openV s).2.2.1) :
    Calls Try.prog 22 #[.string (str s)] w (DecPost w (decV s)) := by
  have hz := str_empty
  have K0 := Lib.hid ((Keeps.refl [] w).alloc zq)
  have Zc : Hid (∀ w', Keeps [] (w.alloc zq) w' → w'.heap[w.heap.size]? = some zq) := fun w' k => k.some (heap_alloc_self w zq) (by simp)
  have Kz := Lib.hid (Keeps.refl [] (w.alloc zq))
  have Opn := Lib.hid (fun w => ropen_any s w hs)
  have hfit := openV_fit s hs
  have hN := openV_n s
  have hX := openV_x s
  unfold zq at *
  have hv : decV s = (Rc.zero, 0, 13) := by unfold decV; rw [if_neg (fun hh => hh h), if_neg hl, if_pos hk, if_pos hc]
  rw [hv]
  generalize openV s = TT at *
  obtain ⟨R, N, X, te⟩ := TT
  dsimp only at *
  have hsb := sects_bd hfit
  unfold OpenQ Rc.val at Opn
  dsimp only at *
  clear hfit hv
  subst h
  have hwk : IntKind.i64.wrap ((N : Int) + R.sects) = (N : Int) + R.sects := IntWalk.i64_in _ ⟨by omega, by omega⟩
  have hwk2 : IntKind.i64.wrap (64 * ((N : Int) + R.sects)) = 64 * ((N : Int) + R.sects) := IntWalk.i64_in _ ⟨by omega, by omega⟩
  have h6 : decide ((s.length : Int) < 64 * ((N : Int) + R.sects)) = false := decide_eq_false (by omega)
  have hkb : (R.kd == 1) = true := by rw [hk]; rfl
  rw [if_pos hk] at Opn
  generalize R.sects = SX at *
  obtain ⟨T, rfl⟩ := Int.eq_ofNat_of_zero_le hsb.1
  simp only [Int.toNat_natCast] at *
  obtain ⟨a, ha⟩ : ∃ a, N * 64 = a := ⟨_, rfl⟩
  obtain ⟨b, hb⟩ : ∃ b, N * 64 + T * 64 = b := ⟨_, rfl⟩
  have hwa : IntKind.i64.wrap (64 * (N : Int)) = (a : Int) := by rw [IntWalk.i64_in _ ⟨by omega, by omega⟩]; omega
  have hcut : (str s).extract a b = str ((s.drop (N * 64)).take (T * 64)) := by rw [← ha, ← hb, str_extract, str_data, Nat.add_sub_cancel_left]
  have hlD : ((s.drop (N * 64)).take (T * 64)).length ≤ 100000 := by rw [List.length_take, List.length_drop]; omega
  generalize (s.drop (N * 64)).take (T * 64) = D at *
  have hb1 : (a : Int) ≤ (b : Int) := by omega
  have hb2 : (b : Int) ≤ (s.length : Int) := by omega
  have hb3 : a ≤ b := by omega
  have hb4 : b ≤ s.length := by omega
  have hwb : IntKind.i64.wrap (64 * ((N : Int) + (T : Int))) = (b : Int) := by rw [hwk2]; omega
  have hlb : decide ((s.length : Int) < (b : Int)) = false := decide_eq_false (by omega)
  have hlb2 : decide (s.length < b) = false := decide_eq_false (by omega)
  clear hwk2 h6 hl hk
  have Mo := Lib.hid (fun w => refMore_any 0 D w (by omega) (by omega))
  rw [Int.natCast_zero] at Mo
  have hY := crcMore_lt 0 D
  have Fx : Hid (∀ w, Calls Try.prog 31 #[.int .u64 (crcMore 0 D : Nat), .int .i64 4] w fun e w' => e = .returned (.string (str (be (crcMore 0 D) 4))) ∧ Keeps [] w w') := fun w => refFixed_any (crcMore 0 D) 4 w (by omega) (by omega)
  have hwu : IntKind.u64.wrap (crcMore 0 D : Int) = (crcMore 0 D : Int) := IntWalk.u64_in _ ⟨by omega, by omega⟩
  have hcb : (be (crcMore 0 D) 4 != be X 4) = true := by rw [bne_iff_ne]; exact fun h => hc ((be_ne hY hX).1 h)
  have hcb2 : (be (crcMore 0 D) 4 == be X 4) = false := by rw [beq_eq_false_iff_ne]; exact fun h => hc ((be_ne hY hX).1 h)
  clear hc
  generalize be X 4 = BX at *
  generalize be (crcMore 0 D) 4 = BY at *
  generalize crcMore 0 D = Y at *
  clear hb ha hY hX
  go_enter Try.func22, Try.ntmps22
  go_wp2_with (first
    | (go_at_call 21; (with_reducible refine (Opn.out _).mono ?_); rintro e w1 ⟨sv, G, rfl, hg, hGb, k1⟩; have KA := Lib.hid (KT Kz.out k1); clear k1; obtain ⟨ad, cap, rfl, _⟩ := hg.at_; have Hg := Lib.hid hg; have HGb := Lib.hid hGb; clear hg hGb; have Kb := Lib.hid (KA.out.alloc (.cells #[.int .i64 R.ep, .int .i64 R.nr, .int .i64 R.kd, .slice ad R.sp.length cap, .string (str R.dt), .string (str R.tx)] 29)); have HR := Lib.hid (Zc.out _ Kb.out); obtain ⟨⟨q0, q1, q2, q3, q4, q5⟩, f0, f1, f2, f3, f4, f5⟩ := cells6 HR.out; clear HR q0 q1 q2 q3 q4 q5 f0 f1 f2 f3 f4 f5)
    | (go_at_call 32; (with_reducible refine (Mo.out _).mono ?_); rintro e w2 ⟨rfl, rfl⟩)
    | (go_at_call 31; (with_reducible refine (Fx.out _).mono ?_); rintro e w3 ⟨rfl, k3⟩; replace Kb := Lib.hid (KT (KA.out.alloc (.cells #[.int .i64 R.ep, .int .i64 R.nr, .int .i64 R.kd, .slice ad R.sp.length cap, .string (str D), .string (str R.tx)] 29)) k3); have HR := Lib.hid (Zc.out _ Kb.out); obtain ⟨⟨q0, q1, q2, q3, q4, q5⟩, f0, f1, f2, f3, f4, f5⟩ := cells6 HR.out; obtain ⟨c0, c1, c2, c3, c4, c5⟩ := (cells6 (k3.some (heap_at (w := w1) (k := w1.heap.size) (o := (.cells #[.int .i64 R.ep, .int .i64 R.nr, .int .i64 R.kd, .slice ad R.sp.length cap, .string (str D), .string (str R.tx)] 29)) rfl) (by simp))).1; have K9 := Lib.hid (KT ((Keeps.refl [] w1).alloc (.cells #[.int .i64 R.ep, .int .i64 R.nr, .int .i64 R.kd, .slice ad R.sp.length cap, .string (str D), .string (str R.tx)] 29)) k3); clear k3))
  refine bodyPost_ret (results_row_tmp2 rfl rfl (heap_set6 HR.out _ _ _ _ _ _) Try.underlying29 rfl (by kernel_rfl)) rfl ⟨.slice none 0 0, [], rfl, zero_good _, by simp, keeps_set6 (KT K0.out Kb.out) (Nat.le_refl _) _ _ _ _ _ _⟩
set_option maxHeartbeats 4000000 in
theorem rdec_good (s : List UInt8) (w : World) (hs : s.length ≤ 100000) (h : (openV s).2.2.2 = 0) (hl : ¬ (s.length : Int) < ((openV s).2.1 + (openV s).1.sects) * 64) (hk : (openV s).1.kd = 1) (hc : crcMore 0 ((s.drop ((openV s).2.1 * 64)).take ((openV s).1.sects.toNat * 64)) = (openV s).2.2.1) :
    Calls Try.prog 22 #[.string (str s)] w (DecPost w (decV s)) := by
  have hz := str_empty
  have K0 := Lib.hid ((Keeps.refl [] w).alloc zq)
  have Zc : Hid (∀ w', Keeps [] (w.alloc zq) w' → w'.heap[w.heap.size]? = some zq) := fun w' k => k.some (heap_alloc_self w zq) (by simp)
  have Kz := Lib.hid (Keeps.refl [] (w.alloc zq))
  have Opn := Lib.hid (fun w => ropen_any s w hs)
  have hfit := openV_fit s hs
  have hN := openV_n s
  have hX := openV_x s
  unfold zq at *
  have hv : decV s = ({ (openV s).1 with dt := (s.drop ((openV s).2.1 * 64)).take ((openV s).1.sects.toNat * 64) }, (openV s).2.1 + (openV s).1.sects, 0) := by unfold decV; rw [if_neg (fun hh => hh h), if_neg hl, if_pos hk, if_neg (fun hh => hh hc)]
  rw [hv]
  generalize openV s = TT at *
  obtain ⟨R, N, X, te⟩ := TT
  dsimp only at *
  have hsb := sects_bd hfit
  unfold OpenQ Rc.val at Opn
  dsimp only at *
  clear hfit hv
  subst h
  have hwk : IntKind.i64.wrap ((N : Int) + R.sects) = (N : Int) + R.sects := IntWalk.i64_in _ ⟨by omega, by omega⟩
  have hwk2 : IntKind.i64.wrap (64 * ((N : Int) + R.sects)) = 64 * ((N : Int) + R.sects) := IntWalk.i64_in _ ⟨by omega, by omega⟩
  have h6 : decide ((s.length : Int) < 64 * ((N : Int) + R.sects)) = false := decide_eq_false (by omega)
  have hkb : (R.kd == 1) = true := by rw [hk]; rfl
  rw [if_pos hk] at Opn
  generalize R.sects = SX at *
  obtain ⟨T, rfl⟩ := Int.eq_ofNat_of_zero_le hsb.1
  simp only [Int.toNat_natCast] at *
  obtain ⟨a, ha⟩ : ∃ a, N * 64 = a := ⟨_, rfl⟩
  obtain ⟨b, hb⟩ : ∃ b, N * 64 + T * 64 = b := ⟨_, rfl⟩
  have hwa : IntKind.i64.wrap (64 * (N : Int)) = (a : Int) := by rw [IntWalk.i64_in _ ⟨by omega, by omega⟩]; omega
  have hcut : (str s).extract a b = str ((s.drop (N * 64)).take (T * 64)) := by rw [← ha, ← hb, str_extract, str_data, Nat.add_sub_cancel_left]
  have hlD : ((s.drop (N * 64)).take (T * 64)).length ≤ 100000 := by rw [List.length_take, List.length_drop]; omega
  generalize (s.drop (N * 64)).take (T * 64) = D at *
  have hb1 : (a : Int) ≤ (b : Int) := by omega
  have hb2 : (b : Int) ≤ (s.length : Int) := by omega
  have hb3 : a ≤ b := by omega
  have hb4 : b ≤ s.length := by omega
  have hwb : IntKind.i64.wrap (64 * ((N : Int) + (T : Int))) = (b : Int) := by rw [hwk2]; omega
  have hlb : decide ((s.length : Int) < (b : Int)) = false := decide_eq_false (by omega)
  have hlb2 : decide (s.length < b) = false := decide_eq_false (by omega)
  clear hwk2 h6 hl hk
  have Mo := Lib.hid (fun w => refMore_any 0 D w (by omega) (by omega))
  rw [Int.natCast_zero] at Mo
  have hY := crcMore_lt 0 D
  have Fx : Hid (∀ w, Calls Try.prog 31 #[.int .u64 (crcMore 0 D : Nat), .int .i64 4] w fun e w' => e = .returned (.string (str (be (crcMore 0 D) 4))) ∧ Keeps [] w w') := fun w => refFixed_any (crcMore 0 D) 4 w (by omega) (by omega)
  have hwu : IntKind.u64.wrap (crcMore 0 D : Int) = (crcMore 0 D : Int) := IntWalk.u64_in _ ⟨by omega, by omega⟩
  have hcb : (be (crcMore 0 D) 4 != be X 4) = false := by rw [hc]; exact bne_self_eq_false _
  have hcb2 : (be (crcMore 0 D) 4 == be X 4) = true := by rw [hc]; exact beq_self_eq_true _
  clear hc
  generalize be X 4 = BX at *
  generalize be (crcMore 0 D) 4 = BY at *
  generalize crcMore 0 D = Y at *
  clear hb ha hY hX
  go_enter Try.func22, Try.ntmps22
  go_wp2_with (first
    | (go_at_call 21; (with_reducible refine (Opn.out _).mono ?_); rintro e w1 ⟨sv, G, rfl, hg, hGb, k1⟩; have KA := Lib.hid (KT Kz.out k1); clear k1; obtain ⟨ad, cap, rfl, _⟩ := hg.at_; have Hg := Lib.hid hg; have HGb := Lib.hid hGb; clear hg hGb; have Kb := Lib.hid (KA.out.alloc (.cells #[.int .i64 R.ep, .int .i64 R.nr, .int .i64 R.kd, .slice ad R.sp.length cap, .string (str R.dt), .string (str R.tx)] 29)); have HR := Lib.hid (Zc.out _ Kb.out); obtain ⟨⟨q0, q1, q2, q3, q4, q5⟩, f0, f1, f2, f3, f4, f5⟩ := cells6 HR.out; clear HR q0 q1 q2 q3 q4 q5 f0 f1 f2 f3 f4 f5)
    | (go_at_call 32; (with_reducible refine (Mo.out _).mono ?_); rintro e w2 ⟨rfl, rfl⟩)
    | (go_at_call 31; (with_reducible refine (Fx.out _).mono ?_); rintro e w3 ⟨rfl, k3⟩; replace Kb := Lib.hid (KT (KA.out.alloc (.cells #[.int .i64 R.ep, .int .i64 R.nr, .int .i64 R.kd, .slice ad R.sp.length cap, .string (str D), .string (str R.tx)] 29)) k3); have HR := Lib.hid (Zc.out _ Kb.out); obtain ⟨⟨q0, q1, q2, q3, q4, q5⟩, f0, f1, f2, f3, f4, f5⟩ := cells6 HR.out; obtain ⟨c0, c1, c2, c3, c4, c5⟩ := (cells6 (k3.some (heap_at (w := w1) (k := w1.heap.size) (o := (.cells #[.int .i64 R.ep, .int .i64 R.nr, .int .i64 R.kd, .slice ad R.sp.length cap, .string (str D), .string (str R.tx)] 29)) rfl) (by simp))).1; have K9 := Lib.hid (KT ((Keeps.refl [] w1).alloc (.cells #[.int .i64 R.ep, .int .i64 R.nr, .int .i64 R.kd, .slice ad R.sp.length cap, .string (str D), .string (str R.tx)] 29)) k3); clear k3))
  refine bodyPost_ret (results_row_tmp2 rfl rfl (heap_set6 HR.out _ _ _ _ _ _) Try.underlying29 rfl (by kernel_rfl)) rfl ⟨.slice ad R.sp.length cap, G, rfl, (Rc.good.withD (Hg.out.newer K9.out) (Nat.le_trans hlD (by decide))).kept (keeps_at6 _ w.heap.size _ _ _ _ _ _) (fun x hx => ?_), fun x hx => ?_, keeps_set6 (KT K0.out Kb.out) (Nat.le_refl _) _ _ _ _ _ _⟩
  · have h1 := (HGb.out x hx).1
    have h2 := KA.out.size
    simp at h1 h2 ⊢
    omega
  · have h1 := HGb.out x hx
    have h2 := K9.out.size
    simp at h1 h2 ⊢
    omega
theorem rdec_any (s : List UInt8) (w : World) (hs : s.length ≤ 100000) : Calls Try.prog 22 #[.string (str s)] w (DecPost w (decV s)) := by
  by_cases h : (openV s).2.2.2 = 0
  · by_cases hl : (s.length : Int) < ((openV s).2.1 + (openV s).1.sects) * 64
    · exact rdec_cut s w hs h hl
    · by_cases hk : (openV s).1.kd = 1
      · by_cases hc : crcMore 0 ((s.drop ((openV s).2.1 * 64)).take ((openV s).1.sects.toNat * 64)) = (openV s).2.2.1
        · exact rdec_good s w hs h hl hk hc
        · exact rdec_bad s w hs h hl hk hc
      · exact rdec_other s w hs h hl hk
  · exact rdec_err s w hs h
end Go.Proofs.Ytjebldfmkpfafaa
