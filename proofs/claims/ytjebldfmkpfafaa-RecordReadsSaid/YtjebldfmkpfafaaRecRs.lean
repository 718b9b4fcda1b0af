/- Layer 10: the reference: Open, behind the check sum. -/
import Derived.Test.YtjebldfmkpfafaaRecRq
namespace Go.Proofs.Ytjebldfmkpfafaa
open Go.RowKit
set_option maxRecDepth 100000

set_option maxHeartbeats 4000000 in
theorem ropen_none (s : List UInt8) (w : World) (hs : s.length ≤ 100000) (h : ¬ s.length < 64) (hp : [76, 82].isPrefixOf s = true) (hn1 : 1 ≤ nOf s) (hn2 : nOf s ≤ 40) (hl : nOf s * 64 ≤ s.length) (hc : (crcOpen (s.take (nOf s * 64))).2 = 0) (ht : toldV (s.take (nOf s * 64)) = (Rc.zero, 0, 12)) (hq : toldQ (bodyOfH (s.take (nOf s * 64))) = none) :
    Calls Try.prog 21 #[.string (str s)] w (OpenQ w (openV s)) := by
  have hz := str_empty
  have hmag : ByteArray.mk #[76, 82] = str [76, 82] := rfl
  have K0 := Lib.hid ((Keeps.refl [] w).alloc zq)
  have Zc : Hid (∀ w', Keeps [] (w.alloc zq) w' → w'.heap[w.heap.size]? = some zq) := fun w' k => k.some (heap_alloc_self w zq) (by simp)
  unfold zq at *
  have h1 : decide ((s.length : Int) < 64) = false := decide_eq_false (by omega)
  have hl2 : (2 : Int) < (s.length : Int) := by omega
  have hl3 : (3 : Int) < (s.length : Int) := by omega
  have hl4 : (2 : Int) ≤ (s.length : Int) := by omega
  have hl5 : decide (2 ≤ s.length) = true := decide_eq_true (by omega)
  have ga : (str s)[2]'(by simp; omega) = s.getD 2 0 := str_at s 2 _
  have gb : (str s)[3]'(by simp; omega) = s.getD 3 0 := str_at s 3 _
  have hcut2 : (str s).extract 0 2 = str (s.take 2) := by rw [str_extract, str_data]; simp
  obtain ⟨N, hN⟩ : ∃ N, nOf s = N := ⟨_, rfl⟩
  have hN2 : (s.getD 2 0).toNat * 256 + (s.getD 3 0).toNat = N := hN
  have l2 := (s.getD 2 0).toNat_lt
  have l3 := (s.getD 3 0).toNat_lt
  generalize s.getD 2 0 = a2 at *
  generalize s.getD 3 0 = b3 at *
  have hw1 : wrap64 (a2.toNat : Int) = (a2.toNat : Int) := IntWalk.wrap64_in _ ⟨by omega, by omega⟩
  have hw1' : IntKind.i64.wrap (a2.toNat : Int) = (a2.toNat : Int) := IntWalk.i64_in _ ⟨by omega, by omega⟩
  have hw2 : IntKind.i64.wrap (256 * (a2.toNat : Int)) = 256 * (a2.toNat : Int) := IntWalk.i64_in _ ⟨by omega, by omega⟩
  have hw3 : wrap64 (b3.toNat : Int) = (b3.toNat : Int) := IntWalk.wrap64_in _ ⟨by omega, by omega⟩
  have hw3' : IntKind.i64.wrap (b3.toNat : Int) = (b3.toNat : Int) := IntWalk.i64_in _ ⟨by omega, by omega⟩
  have hor : IntKind.i64.wrap (256 * (a2.toNat : Int) + (b3.toNat : Int)) = (N : Int) := by rw [IntWalk.i64_in _ ⟨by omega, by omega⟩]; omega
  have hNb : N < 65536 := by omega
  have hp2 : s.take 2 = [76, 82] := pre_take.1 hp
  rw [hN] at hn1 hn2 hl hc ht hq
  have hv : openV s = (Rc.zero, 0, 0, 12) := by
    unfold openV; rw [hN]; rw [if_neg h, if_neg (show ¬ ([76, 82].isPrefixOf s = false ∨ N < 1 ∨ 40 < N) from fun h => h.elim (fun h => by rw [hp] at h; cases h) (fun h => by omega)), if_neg (show ¬ s.length < N * 64 by omega), if_neg (fun h => h hc), ht, if_pos (by decide)]
  rw [hv]
  generalize s.take 2 = P2 at *
  have hpb : (P2 == [76, 82]) = true := by rw [beq_iff_eq]; exact hp2
  have hpb2 : (P2 != [76, 82]) = false := by rw [hp2]; rfl
  have h4 : decide ((N : Int) < 1) = false := decide_eq_false (by omega)
  have h5 : decide (40 < (N : Int)) = false := decide_eq_false (by omega)
  obtain ⟨M, hM⟩ : ∃ M, N * 64 = M := ⟨_, rfl⟩
  have hwN : IntKind.i64.wrap (64 * (N : Int)) = (M : Int) := by rw [IntWalk.i64_in _ ⟨by omega, by omega⟩]; omega
  have h6 : decide (s.length < M) = false := decide_eq_false (by omega)
  have h7 : decide ((s.length : Int) < (M : Int)) = false := decide_eq_false (by omega)
  have h8 : (M : Int) ≤ (s.length : Int) := by omega
  have h9 : decide (M ≤ s.length) = true := decide_eq_true (by omega)
  have hcut : (str s).extract 0 M = str (s.take M) := by rw [str_extract, str_data]; simp
  have lH : (s.take M).length = M := by rw [List.length_take]; omega
  rw [hM] at hc hq
  generalize s.take M = H at *
  obtain ⟨M4, hM4⟩ : ∃ M4, M - 4 = M4 := ⟨_, rfl⟩
  have hwM : IntKind.i64.wrap ((M : Int) - 4) = (M4 : Int) := by rw [IntWalk.i64_in _ ⟨by omega, by omega⟩]; omega
  have cutA : (str H).extract 0 M4 = str (H.take M4) := by rw [str_extract, str_data]; simp
  have cutB : (str H).extract M4 M = str (H.drop M4) := by rw [str_extract, str_data, List.take_of_length_le (by rw [List.length_drop]; omega)]
  have k1 : (M4 : Int) ≤ (M : Int) := by omega
  have k2 : decide (M4 ≤ M) = true := decide_eq_true (by omega)
  have hcq := crc_q (H := H) (by omega)
  rw [lH, hM4] at hcq
  have Mo := Lib.hid (fun w => refMore_any 0 (H.take M4) w (by omega) (by rw [List.length_take]; omega))
  have hX := crcMore_lt 0 (H.take M4)
  have Fo := Lib.hid (fun w => refFour_any (crcMore 0 (H.take M4)) w hX)
  generalize crcMore 0 (H.take M4) = X at *
  generalize four X = FF at *
  generalize H.take M4 = TT at *
  generalize H.drop M4 = DD at *
  rw [Int.natCast_zero] at Mo
  have b1 : (FF == DD) = true := by rw [beq_iff_eq]; exact Classical.byContradiction fun hh => by have := hcq.2 hh; omega
  have b2 : (FF != DD) = false := by rw [bne_eq_false_iff_eq]; exact Classical.byContradiction fun hh => by have := hcq.2 hh; omega
  have To : Hid (∀ w, Calls Try.prog 36 #[.string (str H)] w fun e w' => ∃ (r : Rc) (ad : Option Addr) (n cap : Nat), e = .returned (.tuple #[.agg #[.int .i64 r.ep, .int .i64 r.nr, .int .i64 r.kd, .slice ad n cap, .string (str r.dt), .string (str r.tx)], .string (str []), .bool false]) ∧ Keeps [] w w') := fun w => (rtold_any H w (by omega) (by omega)).mono fun e w' hh => by
    rcases hh with ⟨_, h2⟩ | ⟨r, sum, sv, G, h1, _⟩
    · exact h2
    · rw [hq] at h1; cases h1
  clear ht hq
  clear hN hN2 l2 l3 hv hp hp2 hl hM hM4 hcq hX hc
  go_enter Try.func21, Try.ntmps21
  have KQ : Keeps [] (w.alloc (.cells #[.int .i64 0, .int .i64 0, .int .i64 0, .slice none 0 0, .string (str []), .string (str [])] 29)) (w.alloc (.cells #[.int .i64 0, .int .i64 0, .int .i64 0, .slice none 0 0, .string (str []), .string (str [])] 29)) := Keeps.refl [] _
  go_wp2
  go_quiet (fail)
  have KQ1 := KQ.drewN nq
  have KQ2 := KQ1.drewN 1
  have KQ3 := KQ1.drew
  go_wp2
  go_region_held3 (fun _ => True) (trivial)
    (first
      | (go_at_call 32; (with_reducible refine (Mo.out _).mono ?_); rintro e w1 ⟨rfl, rfl⟩)
      | (go_at_call 33; (with_reducible refine (Fo.out _).mono ?_); rintro e w2 ⟨rfl, k2'⟩; have KA := Lib.hid (KT (by first | with_reducible assumption | exact KQ1 | exact KQ2 | exact KQ3 | exact KQ) k2'); clear k2' KQ KQ1 KQ2 KQ3; have HR := Lib.hid (Zc.out _ KA.out); obtain ⟨⟨q0, q1, q2, q3, q4, q5⟩, f0, f1, f2, f3, f4, f5⟩ := cells6 HR.out))
  go_wp2_with (first
    | (go_at_call 36; (with_reducible refine (To.out _).mono ?_); rintro e w3 ⟨R, ad, n, cap, rfl, k3⟩; clear HR q0 q1 q2 q3 q4 q5 f0 f1 f2 f3 f4 f5; have KB := Lib.hid ((KT KA.out k3).alloc (.cells #[.int .i64 R.ep, .int .i64 R.nr, .int .i64 R.kd, .slice ad n cap, .string (str R.dt), .string (str R.tx)] 29)); have HR := Lib.hid (Zc.out _ KB.out); obtain ⟨⟨q0, q1, q2, q3, q4, q5⟩, f0, f1, f2, f3, f4, f5⟩ := cells6 HR.out; clear k3))
  refine bodyPost_ret (results_row_tmp4 rfl rfl (heap_set6 HR.out _ _ _ _ _ _) Try.underlying29 rfl (by kernel_rfl)) rfl ⟨.slice none 0 0, [], rfl, zero_good _, by simp, keeps_set6 (KT K0.out KB.out) (Nat.le_refl _) _ _ _ _ _ _⟩
set_option maxHeartbeats 4000000 in
theorem ropen_right (s : List UInt8) (w : World) (hs : s.length ≤ 100000) (h : ¬ s.length < 64) (hp : [76, 82].isPrefixOf s = true) (hn1 : 1 ≤ nOf s) (hn2 : nOf s ≤ 40) (hl : nOf s * 64 ≤ s.length) (hc : (crcOpen (s.take (nOf s * 64))).2 = 0) (ht : toldV (s.take (nOf s * 64)) = (Rc.zero, 0, 12)) (R : Rc) (SM : List UInt8) (hq : toldQ (bodyOfH (s.take (nOf s * 64))) = some (R, SM)) (hf : R.full.check ≠ 0) :
    Calls Try.prog 21 #[.string (str s)] w (OpenQ w (openV s)) := by
  have hz := str_empty
  have hmag : ByteArray.mk #[76, 82] = str [76, 82] := rfl
  have K0 := Lib.hid ((Keeps.refl [] w).alloc zq)
  have Zc : Hid (∀ w', Keeps [] (w.alloc zq) w' → w'.heap[w.heap.size]? = some zq) := fun w' k => k.some (heap_alloc_self w zq) (by simp)
  unfold zq at *
  have h1 : decide ((s.length : Int) < 64) = false := decide_eq_false (by omega)
  have hl2 : (2 : Int) < (s.length : Int) := by omega
  have hl3 : (3 : Int) < (s.length : Int) := by omega
  have hl4 : (2 : Int) ≤ (s.length : Int) := by omega
  have hl5 : decide (2 ≤ s.length) = true := decide_eq_true (by omega)
  have ga : (str s)[2]'(by simp; omega) = s.getD 2 0 := str_at s 2 _
  have gb : (str s)[3]'(by simp; omega) = s.getD 3 0 := str_at s 3 _
  have hcut2 : (str s).extract 0 2 = str (s.take 2) := by rw [str_extract, str_data]; simp
  obtain ⟨N, hN⟩ : ∃ N, nOf s = N := ⟨_, rfl⟩
  have hN2 : (s.getD 2 0).toNat * 256 + (s.getD 3 0).toNat = N := hN
  have l2 := (s.getD 2 0).toNat_lt
  have l3 := (s.getD 3 0).toNat_lt
  generalize s.getD 2 0 = a2 at *
  generalize s.getD 3 0 = b3 at *
  have hw1 : wrap64 (a2.toNat : Int) = (a2.toNat : Int) := IntWalk.wrap64_in _ ⟨by omega, by omega⟩
  have hw1' : IntKind.i64.wrap (a2.toNat : Int) = (a2.toNat : Int) := IntWalk.i64_in _ ⟨by omega, by omega⟩
  have hw2 : IntKind.i64.wrap (256 * (a2.toNat : Int)) = 256 * (a2.toNat : Int) := IntWalk.i64_in _ ⟨by omega, by omega⟩
  have hw3 : wrap64 (b3.toNat : Int) = (b3.toNat : Int) := IntWalk.wrap64_in _ ⟨by omega, by omega⟩
  have hw3' : IntKind.i64.wrap (b3.toNat : Int) = (b3.toNat : Int) := IntWalk.i64_in _ ⟨by omega, by omega⟩
  have hor : IntKind.i64.wrap (256 * (a2.toNat : Int) + (b3.toNat : Int)) = (N : Int) := by rw [IntWalk.i64_in _ ⟨by omega, by omega⟩]; omega
  have hNb : N < 65536 := by omega
  have hp2 : s.take 2 = [76, 82] := pre_take.1 hp
  rw [hN] at hn1 hn2 hl hc ht hq
  have hv : openV s = (Rc.zero, 0, 0, 12) := by
    unfold openV; rw [hN]; rw [if_neg h, if_neg (show ¬ ([76, 82].isPrefixOf s = false ∨ N < 1 ∨ 40 < N) from fun h => h.elim (fun h => by rw [hp] at h; cases h) (fun h => by omega)), if_neg (show ¬ s.length < N * 64 by omega), if_neg (fun h => h hc), ht, if_pos (by decide)]
  rw [hv]
  generalize s.take 2 = P2 at *
  have hpb : (P2 == [76, 82]) = true := by rw [beq_iff_eq]; exact hp2
  have hpb2 : (P2 != [76, 82]) = false := by rw [hp2]; rfl
  have h4 : decide ((N : Int) < 1) = false := decide_eq_false (by omega)
  have h5 : decide (40 < (N : Int)) = false := decide_eq_false (by omega)
  obtain ⟨M, hM⟩ : ∃ M, N * 64 = M := ⟨_, rfl⟩
  have hwN : IntKind.i64.wrap (64 * (N : Int)) = (M : Int) := by rw [IntWalk.i64_in _ ⟨by omega, by omega⟩]; omega
  have h6 : decide (s.length < M) = false := decide_eq_false (by omega)
  have h7 : decide ((s.length : Int) < (M : Int)) = false := decide_eq_false (by omega)
  have h8 : (M : Int) ≤ (s.length : Int) := by omega
  have h9 : decide (M ≤ s.length) = true := decide_eq_true (by omega)
  have hcut : (str s).extract 0 M = str (s.take M) := by rw [str_extract, str_data]; simp
  have lH : (s.take M).length = M := by rw [List.length_take]; omega
  rw [hM] at hc hq
  generalize s.take M = H at *
  obtain ⟨M4, hM4⟩ : ∃ M4, M - 4 = M4 := ⟨_, rfl⟩
  have hwM : IntKind.i64.wrap ((M : Int) - 4) = (M4 : Int) := by rw [IntWalk.i64_in _ ⟨by omega, by omega⟩]; omega
  have cutA : (str H).extract 0 M4 = str (H.take M4) := by rw [str_extract, str_data]; simp
  have cutB : (str H).extract M4 M = str (H.drop M4) := by rw [str_extract, str_data, List.take_of_length_le (by rw [List.length_drop]; omega)]
  have k1 : (M4 : Int) ≤ (M : Int) := by omega
  have k2 : decide (M4 ≤ M) = true := decide_eq_true (by omega)
  have hcq := crc_q (H := H) (by omega)
  rw [lH, hM4] at hcq
  have Mo := Lib.hid (fun w => refMore_any 0 (H.take M4) w (by omega) (by rw [List.length_take]; omega))
  have hX := crcMore_lt 0 (H.take M4)
  have Fo := Lib.hid (fun w => refFour_any (crcMore 0 (H.take M4)) w hX)
  generalize crcMore 0 (H.take M4) = X at *
  generalize four X = FF at *
  generalize H.take M4 = TT at *
  generalize H.drop M4 = DD at *
  rw [Int.natCast_zero] at Mo
  have b1 : (FF == DD) = true := by rw [beq_iff_eq]; exact Classical.byContradiction fun hh => by have := hcq.2 hh; omega
  have b2 : (FF != DD) = false := by rw [bne_eq_false_iff_eq]; exact Classical.byContradiction fun hh => by have := hcq.2 hh; omega
  have To : Hid (∀ w, Calls Try.prog 36 #[.string (str H)] w fun e w' => ∃ sv G, e = .returned (.tuple #[R.val sv, .string (str SM), .bool true]) ∧ R.good w' sv G ∧ (∀ x, x ∈ G → w.heap.size ≤ x ∧ x < w'.heap.size) ∧ Keeps [] w w') := fun w => (rtold_any H w (by omega) (by omega)).mono fun e w' hh => by
    rcases hh with ⟨h1, _⟩ | ⟨r, sum, sv, G, h1, h2⟩
    · rw [hq] at h1; cases h1
    · rw [hq, Option.some.injEq, Prod.mk.injEq] at h1
      obtain ⟨rfl, rfl⟩ := h1
      exact ⟨sv, G, h2⟩
  obtain ⟨hd0, hsl0, hsm, _⟩ := toldQ_fit (b := bodyOfH H) (Nat.le_trans (bodyOfH_len H) (by omega)) hq
  have HD := Lib.hid hd0
  have HSL := Lib.hid hsl0
  unfold Rc.val at To
  clear hq hd0 hsl0
  have HCk : Hid ((R.full.check == 0) = false) := by unfold Hid; rw [beq_eq_false_iff_ne]; exact hf
  clear ht hf hsm
  clear hN hN2 l2 l3 hv hp hp2 hl hM hM4 hcq hX hc
  go_enter Try.func21, Try.ntmps21
  have KQ : Keeps [] (w.alloc (.cells #[.int .i64 0, .int .i64 0, .int .i64 0, .slice none 0 0, .string (str []), .string (str [])] 29)) (w.alloc (.cells #[.int .i64 0, .int .i64 0, .int .i64 0, .slice none 0 0, .string (str []), .string (str [])] 29)) := Keeps.refl [] _
  go_wp2
  go_quiet (fail)
  have KQ1 := KQ.drewN nq
  have KQ2 := KQ1.drewN 1
  have KQ3 := KQ1.drew
  go_wp2
  go_region_held3 (fun _ => True) (trivial)
    (first
      | (go_at_call 32; (with_reducible refine (Mo.out _).mono ?_); rintro e w1 ⟨rfl, rfl⟩)
      | (go_at_call 33; (with_reducible refine (Fo.out _).mono ?_); rintro e w2 ⟨rfl, k2'⟩; have KA := Lib.hid (KT (by first | with_reducible assumption | exact KQ1 | exact KQ2 | exact KQ3 | exact KQ) k2'); clear k2' KQ KQ1 KQ2 KQ3; have HR := Lib.hid (Zc.out _ KA.out); obtain ⟨⟨q0, q1, q2, q3, q4, q5⟩, f0, f1, f2, f3, f4, f5⟩ := cells6 HR.out))
  go_wp2_with (first
    | (go_at_call 36; (with_reducible refine (To.out _).mono ?_); rintro e w3 ⟨sv, G, rfl, hg, hGb, k3⟩; obtain ⟨ad, cap, rfl, _⟩ := hg.at_; have Hg := Lib.hid hg; have HGb := Lib.hid hGb; have KB := Lib.hid (KT KA.out k3); have Ks := Lib.hid KA.out.size; have KA3 := Lib.hid ((KT KA.out k3).alloc (.cells #[.int .i64 R.ep, .int .i64 R.nr, .int .i64 R.kd, .slice ad R.sp.length cap, .string (str R.dt), .string (str R.tx)] 29)); have Kx := Keeps.refl [] (w3.alloc (.cells #[.int .i64 R.ep, .int .i64 R.nr, .int .i64 R.kd, .slice ad R.sp.length cap, .string (str R.dt), .string (str R.tx)] 29)); have CX : Hid (∀ w', Keeps [] (w3.alloc (.cells #[.int .i64 R.ep, .int .i64 R.nr, .int .i64 R.kd, .slice ad R.sp.length cap, .string (str R.dt), .string (str R.tx)] 29)) w' → _) := (fun w' k => (cells6 (k.some (heap_at (w := w3) (k := w3.heap.size) (o := (.cells #[.int .i64 R.ep, .int .i64 R.nr, .int .i64 R.kd, .slice ad R.sp.length cap, .string (str R.dt), .string (str R.tx)] 29)) rfl) (by simp))).1); have Rt : Hid (∀ w', Keeps [] (w3.alloc (.cells #[.int .i64 R.ep, .int .i64 R.nr, .int .i64 R.kd, .slice ad R.sp.length cap, .string (str R.dt), .string (str R.tx)] 29)) w' → _) := (fun w' k => right_any R _ G w' (Hg.out.newer (KT ((Keeps.refl [] w3).alloc (.cells #[.int .i64 R.ep, .int .i64 R.nr, .int .i64 R.kd, .slice ad R.sp.length cap, .string (str R.dt), .string (str R.tx)] 29)) k)) HD.out HSL.out); unfold Rc.val at Rt; rw [HCk.out] at Rt; clear hg hGb k3; clear HR q0 q1 q2 q3 q4 q5 f0 f1 f2 f3 f4 f5; have HR := Lib.hid (Zc.out _ (KT KA3.out Kx)); obtain ⟨⟨q0, q1, q2, q3, q4, q5⟩, f0, f1, f2, f3, f4, f5⟩ := cells6 HR.out; obtain ⟨c0, c1, c2, c3, c4, c5⟩ := CX.out _ Kx)
    | (go_at_call 37; (with_reducible refine (Rt.out _ Kx).mono ?_); rintro e w4 ⟨rfl, k4⟩; replace Kx := KT Kx k4; clear k4; (try clear c0 c1 c2 c3 c4 c5); clear HR q0 q1 q2 q3 q4 q5 f0 f1 f2 f3 f4 f5; have HR := Lib.hid (Zc.out _ (KT KA3.out Kx)); obtain ⟨⟨q0, q1, q2, q3, q4, q5⟩, f0, f1, f2, f3, f4, f5⟩ := cells6 HR.out; obtain ⟨c0, c1, c2, c3, c4, c5⟩ := CX.out _ Kx))
  refine bodyPost_ret (results_row_tmp4 rfl rfl (heap_set6 HR.out _ _ _ _ _ _) Try.underlying29 rfl (by kernel_rfl)) rfl ⟨.slice none 0 0, [], rfl, zero_good _, by simp, keeps_set6 (KT K0.out (KT KA3.out Kx)) (Nat.le_refl _) _ _ _ _ _ _⟩
set_option maxHeartbeats 4000000 in
theorem ropen_ne1 (s : List UInt8) (w : World) (hs : s.length ≤ 100000) (h : ¬ s.length < 64) (hp : [76, 82].isPrefixOf s = true) (hn1 : 1 ≤ nOf s) (hn2 : nOf s ≤ 40) (hl : nOf s * 64 ≤ s.length) (hc : (crcOpen (s.take (nOf s * 64))).2 = 0) (ht : toldV (s.take (nOf s * 64)) = (Rc.zero, 0, 12)) (R : Rc) (SM : List UInt8) (hq : toldQ (bodyOfH (s.take (nOf s * 64))) = some (R, SM)) (hf : R.full.check = 0) (hag : againQ R SM ≠ s.take (nOf s * 64)) (hk : R.kd = 1) :
    Calls Try.prog 21 #[.string (str s)] w (OpenQ w (openV s)) := by
  have hz := str_empty
  have hmag : ByteArray.mk #[76, 82] = str [76, 82] := rfl
  have K0 := Lib.hid ((Keeps.refl [] w).alloc zq)
  have Zc : Hid (∀ w', Keeps [] (w.alloc zq) w' → w'.heap[w.heap.size]? = some zq) := fun w' k => k.some (heap_alloc_self w zq) (by simp)
  unfold zq at *
  have HF := Lib.hid hf
  have HK := Lib.hid hk
  clear hf hk
  have h1 : decide ((s.length : Int) < 64) = false := decide_eq_false (by omega)
  have hl2 : (2 : Int) < (s.length : Int) := by omega
  have hl3 : (3 : Int) < (s.length : Int) := by omega
  have hl4 : (2 : Int) ≤ (s.length : Int) := by omega
  have hl5 : decide (2 ≤ s.length) = true := decide_eq_true (by omega)
  have ga : (str s)[2]'(by simp; omega) = s.getD 2 0 := str_at s 2 _
  have gb : (str s)[3]'(by simp; omega) = s.getD 3 0 := str_at s 3 _
  have hcut2 : (str s).extract 0 2 = str (s.take 2) := by rw [str_extract, str_data]; simp
  obtain ⟨N, hN⟩ : ∃ N, nOf s = N := ⟨_, rfl⟩
  have hN2 : (s.getD 2 0).toNat * 256 + (s.getD 3 0).toNat = N := hN
  have l2 := (s.getD 2 0).toNat_lt
  have l3 := (s.getD 3 0).toNat_lt
  generalize s.getD 2 0 = a2 at *
  generalize s.getD 3 0 = b3 at *
  have hw1 : wrap64 (a2.toNat : Int) = (a2.toNat : Int) := IntWalk.wrap64_in _ ⟨by omega, by omega⟩
  have hw1' : IntKind.i64.wrap (a2.toNat : Int) = (a2.toNat : Int) := IntWalk.i64_in _ ⟨by omega, by omega⟩
  have hw2 : IntKind.i64.wrap (256 * (a2.toNat : Int)) = 256 * (a2.toNat : Int) := IntWalk.i64_in _ ⟨by omega, by omega⟩
  have hw3 : wrap64 (b3.toNat : Int) = (b3.toNat : Int) := IntWalk.wrap64_in _ ⟨by omega, by omega⟩
  have hw3' : IntKind.i64.wrap (b3.toNat : Int) = (b3.toNat : Int) := IntWalk.i64_in _ ⟨by omega, by omega⟩
  have hor : IntKind.i64.wrap (256 * (a2.toNat : Int) + (b3.toNat : Int)) = (N : Int) := by rw [IntWalk.i64_in _ ⟨by omega, by omega⟩]; omega
  have hNb : N < 65536 := by omega
  have hp2 : s.take 2 = [76, 82] := pre_take.1 hp
  rw [hN] at hn1 hn2 hl hc ht hq hag
  have hv : openV s = (Rc.zero, 0, 0, 12) := by
    unfold openV; rw [hN]; rw [if_neg h, if_neg (show ¬ ([76, 82].isPrefixOf s = false ∨ N < 1 ∨ 40 < N) from fun h => h.elim (fun h => by rw [hp] at h; cases h) (fun h => by omega)), if_neg (show ¬ s.length < N * 64 by omega), if_neg (fun h => h hc), ht, if_pos (by decide)]
  rw [hv]
  generalize s.take 2 = P2 at *
  have hpb : (P2 == [76, 82]) = true := by rw [beq_iff_eq]; exact hp2
  have hpb2 : (P2 != [76, 82]) = false := by rw [hp2]; rfl
  have h4 : decide ((N : Int) < 1) = false := decide_eq_false (by omega)
  have h5 : decide (40 < (N : Int)) = false := decide_eq_false (by omega)
  obtain ⟨M, hM⟩ : ∃ M, N * 64 = M := ⟨_, rfl⟩
  have hwN : IntKind.i64.wrap (64 * (N : Int)) = (M : Int) := by rw [IntWalk.i64_in _ ⟨by omega, by omega⟩]; omega
  have h6 : decide (s.length < M) = false := decide_eq_false (by omega)
  have h7 : decide ((s.length : Int) < (M : Int)) = false := decide_eq_false (by omega)
  have h8 : (M : Int) ≤ (s.length : Int) := by omega
  have h9 : decide (M ≤ s.length) = true := decide_eq_true (by omega)
  have hcut : (str s).extract 0 M = str (s.take M) := by rw [str_extract, str_data]; simp
  have lH : (s.take M).length = M := by rw [List.length_take]; omega
  rw [hM] at hc hq hag
  generalize s.take M = H at *
  obtain ⟨M4, hM4⟩ : ∃ M4, M - 4 = M4 := ⟨_, rfl⟩
  have hwM : IntKind.i64.wrap ((M : Int) - 4) = (M4 : Int) := by rw [IntWalk.i64_in _ ⟨by omega, by omega⟩]; omega
  have cutA : (str H).extract 0 M4 = str (H.take M4) := by rw [str_extract, str_data]; simp
  have cutB : (str H).extract M4 M = str (H.drop M4) := by rw [str_extract, str_data, List.take_of_length_le (by rw [List.length_drop]; omega)]
  have k1 : (M4 : Int) ≤ (M : Int) := by omega
  have k2 : decide (M4 ≤ M) = true := decide_eq_true (by omega)
  have hcq := crc_q (H := H) (by omega)
  rw [lH, hM4] at hcq
  have Mo := Lib.hid (fun w => refMore_any 0 (H.take M4) w (by omega) (by rw [List.length_take]; omega))
  have hX := crcMore_lt 0 (H.take M4)
  have Fo := Lib.hid (fun w => refFour_any (crcMore 0 (H.take M4)) w hX)
  generalize crcMore 0 (H.take M4) = X at *
  generalize four X = FF at *
  generalize H.take M4 = TT at *
  generalize H.drop M4 = DD at *
  rw [Int.natCast_zero] at Mo
  have b1 : (FF == DD) = true := by rw [beq_iff_eq]; exact Classical.byContradiction fun hh => by have := hcq.2 hh; omega
  have b2 : (FF != DD) = false := by rw [bne_eq_false_iff_eq]; exact Classical.byContradiction fun hh => by have := hcq.2 hh; omega
  have To : Hid (∀ w, Calls Try.prog 36 #[.string (str H)] w fun e w' => ∃ sv G, e = .returned (.tuple #[R.val sv, .string (str SM), .bool true]) ∧ R.good w' sv G ∧ (∀ x, x ∈ G → w.heap.size ≤ x ∧ x < w'.heap.size) ∧ Keeps [] w w') := fun w => (rtold_any H w (by omega) (by omega)).mono fun e w' hh => by
    rcases hh with ⟨h1, _⟩ | ⟨r, sum, sv, G, h1, h2⟩
    · rw [hq] at h1; cases h1
    · rw [hq, Option.some.injEq, Prod.mk.injEq] at h1
      obtain ⟨rfl, rfl⟩ := h1
      exact ⟨sv, G, h2⟩
  obtain ⟨hd0, hsl0, hsm, _⟩ := toldQ_fit (b := bodyOfH H) (Nat.le_trans (bodyOfH_len H) (by omega)) hq
  have HD := Lib.hid hd0
  have HSL := Lib.hid hsl0
  unfold Rc.val at To
  clear hq hd0 hsl0
  have HCk : Hid ((R.full.check == 0) = true) := by unfold Hid; rw [beq_iff_eq]; exact HF.out
  have Hok := Lib.hid (hok_full HF.out).1
  unfold againQ at hag
  rw [if_pos HK.out] at hag
  have HSM := Lib.hid (be_num4 (hsm HK.out))
  obtain ⟨HA, hHA⟩ : ∃ HA, R.headB (crcMore 0 R.dt) = HA := ⟨_, rfl⟩
  obtain ⟨HB, hHB⟩ : ∃ HB, R.headB (num SM) = HB := ⟨_, rfl⟩
  have HHA := Lib.hid hHA
  have HHB := Lib.hid hHB
  rw [hHB] at hag
  clear hHA hHB
  have hkb : (R.kd == 1) = true := by rw [beq_iff_eq]; exact HK.out
  have hbe : (HB != H) = true := by rw [bne_iff_ne]; exact hag
  have hbe2 : (HB == H) = false := by rw [beq_eq_false_iff_ne]; exact hag
  clear ht HF hsm hag
  clear hN hN2 l2 l3 hv hp hp2 hl hM hM4 hcq hX hc
  go_enter Try.func21, Try.ntmps21
  have KQ : Keeps [] (w.alloc (.cells #[.int .i64 0, .int .i64 0, .int .i64 0, .slice none 0 0, .string (str []), .string (str [])] 29)) (w.alloc (.cells #[.int .i64 0, .int .i64 0, .int .i64 0, .slice none 0 0, .string (str []), .string (str [])] 29)) := Keeps.refl [] _
  go_wp2
  go_quiet (fail)
  have KQ1 := KQ.drewN nq
  have KQ2 := KQ1.drewN 1
  have KQ3 := KQ1.drew
  go_wp2
  go_region_held3 (fun _ => True) (trivial)
    (first
      | (go_at_call 32; (with_reducible refine (Mo.out _).mono ?_); rintro e w1 ⟨rfl, rfl⟩)
      | (go_at_call 33; (with_reducible refine (Fo.out _).mono ?_); rintro e w2 ⟨rfl, k2'⟩; have KA := Lib.hid (KT (by first | with_reducible assumption | exact KQ1 | exact KQ2 | exact KQ3 | exact KQ) k2'); clear k2' KQ KQ1 KQ2 KQ3; have HR := Lib.hid (Zc.out _ KA.out); obtain ⟨⟨q0, q1, q2, q3, q4, q5⟩, f0, f1, f2, f3, f4, f5⟩ := cells6 HR.out))
  go_wp2_with (first
    | (go_at_call 36; (with_reducible refine (To.out _).mono ?_); rintro e w3 ⟨sv, G, rfl, hg, hGb, k3⟩; obtain ⟨ad, cap, rfl, _⟩ := hg.at_; have Hg := Lib.hid hg; have HGb := Lib.hid hGb; have KB := Lib.hid (KT KA.out k3); have Ks := Lib.hid KA.out.size; have KA3 := Lib.hid ((KT KA.out k3).alloc (.cells #[.int .i64 R.ep, .int .i64 R.nr, .int .i64 R.kd, .slice ad R.sp.length cap, .string (str R.dt), .string (str R.tx)] 29)); have Kx := Keeps.refl [] (w3.alloc (.cells #[.int .i64 R.ep, .int .i64 R.nr, .int .i64 R.kd, .slice ad R.sp.length cap, .string (str R.dt), .string (str R.tx)] 29)); have CX : Hid (∀ w', Keeps [] (w3.alloc (.cells #[.int .i64 R.ep, .int .i64 R.nr, .int .i64 R.kd, .slice ad R.sp.length cap, .string (str R.dt), .string (str R.tx)] 29)) w' → _) := (fun w' k => (cells6 (k.some (heap_at (w := w3) (k := w3.heap.size) (o := (.cells #[.int .i64 R.ep, .int .i64 R.nr, .int .i64 R.kd, .slice ad R.sp.length cap, .string (str R.dt), .string (str R.tx)] 29)) rfl) (by simp))).1); have Rt : Hid (∀ w', Keeps [] (w3.alloc (.cells #[.int .i64 R.ep, .int .i64 R.nr, .int .i64 R.kd, .slice ad R.sp.length cap, .string (str R.dt), .string (str R.tx)] 29)) w' → _) := (fun w' k => right_any R _ G w' (Hg.out.newer (KT ((Keeps.refl [] w3).alloc (.cells #[.int .i64 R.ep, .int .i64 R.nr, .int .i64 R.kd, .slice ad R.sp.length cap, .string (str R.dt), .string (str R.tx)] 29)) k)) HD.out HSL.out); unfold Rc.val at Rt; rw [HCk.out] at Rt; clear hg hGb k3; clear HR q0 q1 q2 q3 q4 q5 f0 f1 f2 f3 f4 f5; have HR := Lib.hid (Zc.out _ (KT KA3.out Kx)); obtain ⟨⟨q0, q1, q2, q3, q4, q5⟩, f0, f1, f2, f3, f4, f5⟩ := cells6 HR.out; obtain ⟨c0, c1, c2, c3, c4, c5⟩ := CX.out _ Kx; have Hd := Lib.hid (fun (w' : World) (k : Keeps [] (w3.alloc (.cells #[.int .i64 R.ep, .int .i64 R.nr, .int .i64 R.kd, .slice ad R.sp.length cap, .string (str R.dt), .string (str R.tx)] 29)) w') => ref_head_any R _ G w' (Hg.out.newer (KT ((Keeps.refl [] w3).alloc (.cells #[.int .i64 R.ep, .int .i64 R.nr, .int .i64 R.kd, .slice ad R.sp.length cap, .string (str R.dt), .string (str R.tx)] 29)) k)) Hok.out (by rw [HD.out]; decide)); unfold Rc.val at Hd; rw [HHA.out] at Hd; have Ho := Lib.hid (fun (w' : World) (k : Keeps [] (w3.alloc (.cells #[.int .i64 R.ep, .int .i64 R.nr, .int .i64 R.kd, .slice ad R.sp.length cap, .string (str R.dt), .string (str R.tx)] 29)) w') => headOf_any R _ G w' (Hg.out.newer (KT ((Keeps.refl [] w3).alloc (.cells #[.int .i64 R.ep, .int .i64 R.nr, .int .i64 R.kd, .slice ad R.sp.length cap, .string (str R.dt), .string (str R.tx)] 29)) k)) Hok.out (by rw [HD.out]; decide) (num SM) HSM.out.2 HK.out); unfold Rc.val at Ho; rw [HSM.out.1, HHB.out] at Ho)
    | (go_at_call 37; (with_reducible refine (Rt.out _ Kx).mono ?_); rintro e w4 ⟨rfl, k4⟩; replace Kx := KT Kx k4; clear k4; (try clear c0 c1 c2 c3 c4 c5); clear HR q0 q1 q2 q3 q4 q5 f0 f1 f2 f3 f4 f5; have HR := Lib.hid (Zc.out _ (KT KA3.out Kx)); obtain ⟨⟨q0, q1, q2, q3, q4, q5⟩, f0, f1, f2, f3, f4, f5⟩ := cells6 HR.out; obtain ⟨c0, c1, c2, c3, c4, c5⟩ := CX.out _ Kx)
    | (go_at_call 17; (with_reducible refine (Hd.out _ Kx).mono ?_); rintro e w5 ⟨rfl, k4⟩; replace Kx := KT Kx k4; clear k4; (try clear c0 c1 c2 c3 c4 c5); clear HR q0 q1 q2 q3 q4 q5 f0 f1 f2 f3 f4 f5; have HR := Lib.hid (Zc.out _ (KT KA3.out Kx)); obtain ⟨⟨q0, q1, q2, q3, q4, q5⟩, f0, f1, f2, f3, f4, f5⟩ := cells6 HR.out; obtain ⟨c0, c1, c2, c3, c4, c5⟩ := CX.out _ Kx)
    | (go_at_call 38; (with_reducible refine (Ho.out _ Kx).mono ?_); rintro e w6 ⟨rfl, k4⟩; replace Kx := KT Kx k4; clear k4; (try clear c0 c1 c2 c3 c4 c5); clear HR q0 q1 q2 q3 q4 q5 f0 f1 f2 f3 f4 f5; have HR := Lib.hid (Zc.out _ (KT KA3.out Kx)); obtain ⟨⟨q0, q1, q2, q3, q4, q5⟩, f0, f1, f2, f3, f4, f5⟩ := cells6 HR.out; obtain ⟨c0, c1, c2, c3, c4, c5⟩ := CX.out _ Kx))
  refine bodyPost_ret (results_row_tmp4 rfl rfl (heap_set6 HR.out _ _ _ _ _ _) Try.underlying29 rfl (by kernel_rfl)) rfl ⟨.slice none 0 0, [], rfl, zero_good _, by simp, keeps_set6 (KT K0.out (KT KA3.out Kx)) (Nat.le_refl _) _ _ _ _ _ _⟩
set_option maxHeartbeats 4000000 in
theorem ropen_ok1 (s : List UInt8) (w : World) (hs : s.length ≤ 100000) (h : ¬ s.length < 64) (hp : [76, 82].isPrefixOf s = true) (hn1 : 1 ≤ nOf s) (hn2 : nOf s ≤ 40) (hl : nOf s * 64 ≤ s.length) (hc : (crcOpen (s.take (nOf s * 64))).2 = 0) (R : Rc) (X0 : Nat) (ht : toldV (s.take (nOf s * 64)) = (R, X0, 0)) (SM : List UInt8) (hSM : SM = if R.kd = 1 then be X0 4 else []) (hq : toldQ (bodyOfH (s.take (nOf s * 64))) = some (R, SM)) (hf : R.full.check = 0) (hag : againQ R SM = s.take (nOf s * 64)) (hk : R.kd = 1) :
    Calls Try.prog 21 #[.string (str s)] w (OpenQ w (openV s)) := by
  have hz := str_empty
  have hmag : ByteArray.mk #[76, 82] = str [76, 82] := rfl
  have K0 := Lib.hid ((Keeps.refl [] w).alloc zq)
  have Zc : Hid (∀ w', Keeps [] (w.alloc zq) w' → w'.heap[w.heap.size]? = some zq) := fun w' k => k.some (heap_alloc_self w zq) (by simp)
  unfold zq at *
  have HF := Lib.hid hf
  have HK := Lib.hid hk
  clear hf hk
  have h1 : decide ((s.length : Int) < 64) = false := decide_eq_false (by omega)
  have hl2 : (2 : Int) < (s.length : Int) := by omega
  have hl3 : (3 : Int) < (s.length : Int) := by omega
  have hl4 : (2 : Int) ≤ (s.length : Int) := by omega
  have hl5 : decide (2 ≤ s.length) = true := decide_eq_true (by omega)
  have ga : (str s)[2]'(by simp; omega) = s.getD 2 0 := str_at s 2 _
  have gb : (str s)[3]'(by simp; omega) = s.getD 3 0 := str_at s 3 _
  have hcut2 : (str s).extract 0 2 = str (s.take 2) := by rw [str_extract, str_data]; simp
  obtain ⟨N, hN⟩ : ∃ N, nOf s = N := ⟨_, rfl⟩
  have hN2 : (s.getD 2 0).toNat * 256 + (s.getD 3 0).toNat = N := hN
  have l2 := (s.getD 2 0).toNat_lt
  have l3 := (s.getD 3 0).toNat_lt
  generalize s.getD 2 0 = a2 at *
  generalize s.getD 3 0 = b3 at *
  have hw1 : wrap64 (a2.toNat : Int) = (a2.toNat : Int) := IntWalk.wrap64_in _ ⟨by omega, by omega⟩
  have hw1' : IntKind.i64.wrap (a2.toNat : Int) = (a2.toNat : Int) := IntWalk.i64_in _ ⟨by omega, by omega⟩
  have hw2 : IntKind.i64.wrap (256 * (a2.toNat : Int)) = 256 * (a2.toNat : Int) := IntWalk.i64_in _ ⟨by omega, by omega⟩
  have hw3 : wrap64 (b3.toNat : Int) = (b3.toNat : Int) := IntWalk.wrap64_in _ ⟨by omega, by omega⟩
  have hw3' : IntKind.i64.wrap (b3.toNat : Int) = (b3.toNat : Int) := IntWalk.i64_in _ ⟨by omega, by omega⟩
  have hor : IntKind.i64.wrap (256 * (a2.toNat : Int) + (b3.toNat : Int)) = (N : Int) := by rw [IntWalk.i64_in _ ⟨by omega, by omega⟩]; omega
  have hNb : N < 65536 := by omega
  have hp2 : s.take 2 = [76, 82] := pre_take.1 hp
  rw [hN] at hn1 hn2 hl hc ht hq hag
  have hv : openV s = (R, N, X0, 0) := by
    unfold openV; rw [hN]; rw [if_neg h, if_neg (show ¬ ([76, 82].isPrefixOf s = false ∨ N < 1 ∨ 40 < N) from fun h => h.elim (fun h => by rw [hp] at h; cases h) (fun h => by omega)), if_neg (show ¬ s.length < N * 64 by omega), if_neg (fun h => h hc), ht, if_neg (fun h => h rfl)]
  rw [hv]
  unfold OpenQ
  dsimp only
  rw [← hSM]
  generalize s.take 2 = P2 at *
  have hpb : (P2 == [76, 82]) = true := by rw [beq_iff_eq]; exact hp2
  have hpb2 : (P2 != [76, 82]) = false := by rw [hp2]; rfl
  have h4 : decide ((N : Int) < 1) = false := decide_eq_false (by omega)
  have h5 : decide (40 < (N : Int)) = false := decide_eq_false (by omega)
  obtain ⟨M, hM⟩ : ∃ M, N * 64 = M := ⟨_, rfl⟩
  have hwN : IntKind.i64.wrap (64 * (N : Int)) = (M : Int) := by rw [IntWalk.i64_in _ ⟨by omega, by omega⟩]; omega
  have h6 : decide (s.length < M) = false := decide_eq_false (by omega)
  have h7 : decide ((s.length : Int) < (M : Int)) = false := decide_eq_false (by omega)
  have h8 : (M : Int) ≤ (s.length : Int) := by omega
  have h9 : decide (M ≤ s.length) = true := decide_eq_true (by omega)
  have hcut : (str s).extract 0 M = str (s.take M) := by rw [str_extract, str_data]; simp
  have lH : (s.take M).length = M := by rw [List.length_take]; omega
  rw [hM] at hc hq hag
  generalize s.take M = H at *
  obtain ⟨M4, hM4⟩ : ∃ M4, M - 4 = M4 := ⟨_, rfl⟩
  have hwM : IntKind.i64.wrap ((M : Int) - 4) = (M4 : Int) := by rw [IntWalk.i64_in _ ⟨by omega, by omega⟩]; omega
  have cutA : (str H).extract 0 M4 = str (H.take M4) := by rw [str_extract, str_data]; simp
  have cutB : (str H).extract M4 M = str (H.drop M4) := by rw [str_extract, str_data, List.take_of_length_le (by rw [List.length_drop]; omega)]
  have k1 : (M4 : Int) ≤ (M : Int) := by omega
  have k2 : decide (M4 ≤ M) = true := decide_eq_true (by omega)
  have hcq := crc_q (H := H) (by omega)
  rw [lH, hM4] at hcq
  have Mo := Lib.hid (fun w => refMore_any 0 (H.take M4) w (by omega) (by rw [List.length_take]; omega))
  have hX := crcMore_lt 0 (H.take M4)
  have Fo := Lib.hid (fun w => refFour_any (crcMore 0 (H.take M4)) w hX)
  generalize crcMore 0 (H.take M4) = X at *
  generalize four X = FF at *
  generalize H.take M4 = TT at *
  generalize H.drop M4 = DD at *
  rw [Int.natCast_zero] at Mo
  have b1 : (FF == DD) = true := by rw [beq_iff_eq]; exact Classical.byContradiction fun hh => by have := hcq.2 hh; omega
  have b2 : (FF != DD) = false := by rw [bne_eq_false_iff_eq]; exact Classical.byContradiction fun hh => by have := hcq.2 hh; omega
  have To : Hid (∀ w, Calls Try.prog 36 #[.string (str H)] w fun e w' => ∃ sv G, e = .returned (.tuple #[R.val sv, .string (str SM), .bool true]) ∧ R.good w' sv G ∧ (∀ x, x ∈ G → w.heap.size ≤ x ∧ x < w'.heap.size) ∧ Keeps [] w w') := fun w => (rtold_any H w (by omega) (by omega)).mono fun e w' hh => by
    rcases hh with ⟨h1, _⟩ | ⟨r, sum, sv, G, h1, h2⟩
    · rw [hq] at h1; cases h1
    · rw [hq, Option.some.injEq, Prod.mk.injEq] at h1
      obtain ⟨rfl, rfl⟩ := h1
      exact ⟨sv, G, h2⟩
  obtain ⟨hd0, hsl0, hsm, _⟩ := toldQ_fit (b := bodyOfH H) (Nat.le_trans (bodyOfH_len H) (by omega)) hq
  have HD := Lib.hid hd0
  have HSL := Lib.hid hsl0
  unfold Rc.val at To
  clear hq hd0 hsl0
  have HCk : Hid ((R.full.check == 0) = true) := by unfold Hid; rw [beq_iff_eq]; exact HF.out
  have Hok := Lib.hid (hok_full HF.out).1
  unfold againQ at hag
  rw [if_pos HK.out] at hag
  have HSM := Lib.hid (be_num4 (hsm HK.out))
  obtain ⟨HA, hHA⟩ : ∃ HA, R.headB (crcMore 0 R.dt) = HA := ⟨_, rfl⟩
  obtain ⟨HB, hHB⟩ : ∃ HB, R.headB (num SM) = HB := ⟨_, rfl⟩
  have HHA := Lib.hid hHA
  have HHB := Lib.hid hHB
  rw [hHB] at hag
  clear hHA hHB
  have hkb : (R.kd == 1) = true := by rw [beq_iff_eq]; exact HK.out
  obtain ⟨TS, hTS⟩ : ∃ TS, totS R.sp = TS := ⟨_, rfl⟩
  have HTS := Lib.hid hTS
  have hsec : R.sects = TS := by unfold Rc.sects; rw [if_pos HK.out, hTS]
  rw [hsec]
  clear hTS hsec
  subst hag
  have hbe : (HB != HB) = false := bne_self_eq_false _
  have hbe2 : (HB == HB) = true := beq_self_eq_true _
  clear ht HF hsm hSM
  clear hN hN2 l2 l3 hv hp hp2 hl hM hM4 hcq hX hc
  go_enter Try.func21, Try.ntmps21
  have KQ : Keeps [] (w.alloc (.cells #[.int .i64 0, .int .i64 0, .int .i64 0, .slice none 0 0, .string (str []), .string (str [])] 29)) (w.alloc (.cells #[.int .i64 0, .int .i64 0, .int .i64 0, .slice none 0 0, .string (str []), .string (str [])] 29)) := Keeps.refl [] _
  go_wp2
  go_quiet (fail)
  have KQ1 := KQ.drewN nq
  have KQ2 := KQ1.drewN 1
  have KQ3 := KQ1.drew
  go_wp2
  go_region_held3 (fun _ => True) (trivial)
    (first
      | (go_at_call 32; (with_reducible refine (Mo.out _).mono ?_); rintro e w1 ⟨rfl, rfl⟩)
      | (go_at_call 33; (with_reducible refine (Fo.out _).mono ?_); rintro e w2 ⟨rfl, k2'⟩; have KA := Lib.hid (KT (by first | with_reducible assumption | exact KQ1 | exact KQ2 | exact KQ3 | exact KQ) k2'); clear k2' KQ KQ1 KQ2 KQ3; have HR := Lib.hid (Zc.out _ KA.out); obtain ⟨⟨q0, q1, q2, q3, q4, q5⟩, f0, f1, f2, f3, f4, f5⟩ := cells6 HR.out))
  go_wp2_with (first
    | (go_at_call 36; (with_reducible refine (To.out _).mono ?_); rintro e w3 ⟨sv, G, rfl, hg, hGb, k3⟩; obtain ⟨ad, cap, rfl, _⟩ := hg.at_; have Hg := Lib.hid hg; have HGb := Lib.hid hGb; have KB := Lib.hid (KT KA.out k3); have Ks := Lib.hid KA.out.size; have KA3 := Lib.hid ((KT KA.out k3).alloc (.cells #[.int .i64 R.ep, .int .i64 R.nr, .int .i64 R.kd, .slice ad R.sp.length cap, .string (str R.dt), .string (str R.tx)] 29)); have Kx := Keeps.refl [] (w3.alloc (.cells #[.int .i64 R.ep, .int .i64 R.nr, .int .i64 R.kd, .slice ad R.sp.length cap, .string (str R.dt), .string (str R.tx)] 29)); have CX : Hid (∀ w', Keeps [] (w3.alloc (.cells #[.int .i64 R.ep, .int .i64 R.nr, .int .i64 R.kd, .slice ad R.sp.length cap, .string (str R.dt), .string (str R.tx)] 29)) w' → _) := (fun w' k => (cells6 (k.some (heap_at (w := w3) (k := w3.heap.size) (o := (.cells #[.int .i64 R.ep, .int .i64 R.nr, .int .i64 R.kd, .slice ad R.sp.length cap, .string (str R.dt), .string (str R.tx)] 29)) rfl) (by simp))).1); have Rt : Hid (∀ w', Keeps [] (w3.alloc (.cells #[.int .i64 R.ep, .int .i64 R.nr, .int .i64 R.kd, .slice ad R.sp.length cap, .string (str R.dt), .string (str R.tx)] 29)) w' → _) := (fun w' k => right_any R _ G w' (Hg.out.newer (KT ((Keeps.refl [] w3).alloc (.cells #[.int .i64 R.ep, .int .i64 R.nr, .int .i64 R.kd, .slice ad R.sp.length cap, .string (str R.dt), .string (str R.tx)] 29)) k)) HD.out HSL.out); unfold Rc.val at Rt; rw [HCk.out] at Rt; clear hg hGb k3; clear HR q0 q1 q2 q3 q4 q5 f0 f1 f2 f3 f4 f5; have HR := Lib.hid (Zc.out _ (KT KA3.out Kx)); obtain ⟨⟨q0, q1, q2, q3, q4, q5⟩, f0, f1, f2, f3, f4, f5⟩ := cells6 HR.out; obtain ⟨c0, c1, c2, c3, c4, c5⟩ := CX.out _ Kx; have Hd := Lib.hid (fun (w' : World) (k : Keeps [] (w3.alloc (.cells #[.int .i64 R.ep, .int .i64 R.nr, .int .i64 R.kd, .slice ad R.sp.length cap, .string (str R.dt), .string (str R.tx)] 29)) w') => ref_head_any R _ G w' (Hg.out.newer (KT ((Keeps.refl [] w3).alloc (.cells #[.int .i64 R.ep, .int .i64 R.nr, .int .i64 R.kd, .slice ad R.sp.length cap, .string (str R.dt), .string (str R.tx)] 29)) k)) Hok.out (by rw [HD.out]; decide)); unfold Rc.val at Hd; rw [HHA.out] at Hd; have Ho := Lib.hid (fun (w' : World) (k : Keeps [] (w3.alloc (.cells #[.int .i64 R.ep, .int .i64 R.nr, .int .i64 R.kd, .slice ad R.sp.length cap, .string (str R.dt), .string (str R.tx)] 29)) w') => headOf_any R _ G w' (Hg.out.newer (KT ((Keeps.refl [] w3).alloc (.cells #[.int .i64 R.ep, .int .i64 R.nr, .int .i64 R.kd, .slice ad R.sp.length cap, .string (str R.dt), .string (str R.tx)] 29)) k)) Hok.out (by rw [HD.out]; decide) (num SM) HSM.out.2 HK.out); unfold Rc.val at Ho; rw [HSM.out.1, HHB.out] at Ho; have Tt := Lib.hid (fun (w' : World) (k : Keeps [] (w3.alloc (.cells #[.int .i64 R.ep, .int .i64 R.nr, .int .i64 R.kd, .slice ad R.sp.length cap, .string (str R.dt), .string (str R.tx)] 29)) w') => rtotal_any R.sp (fun s hs => by have := maySp_bd (Hok.out.s2 (by rw [HK.out]; decide) s hs); omega) (by have := HSL.out; omega) _ G w' (Hg.out.newer (KT ((Keeps.refl [] w3).alloc (.cells #[.int .i64 R.ep, .int .i64 R.nr, .int .i64 R.kd, .slice ad R.sp.length cap, .string (str R.dt), .string (str R.tx)] 29)) k)).at_); rw [HTS.out] at Tt)
    | (go_at_call 37; (with_reducible refine (Rt.out _ Kx).mono ?_); rintro e w4 ⟨rfl, k4⟩; replace Kx := KT Kx k4; clear k4; (try clear c0 c1 c2 c3 c4 c5); clear HR q0 q1 q2 q3 q4 q5 f0 f1 f2 f3 f4 f5; have HR := Lib.hid (Zc.out _ (KT KA3.out Kx)); obtain ⟨⟨q0, q1, q2, q3, q4, q5⟩, f0, f1, f2, f3, f4, f5⟩ := cells6 HR.out; obtain ⟨c0, c1, c2, c3, c4, c5⟩ := CX.out _ Kx)
    | (go_at_call 17; (with_reducible refine (Hd.out _ Kx).mono ?_); rintro e w5 ⟨rfl, k4⟩; replace Kx := KT Kx k4; clear k4; (try clear c0 c1 c2 c3 c4 c5); clear HR q0 q1 q2 q3 q4 q5 f0 f1 f2 f3 f4 f5; have HR := Lib.hid (Zc.out _ (KT KA3.out Kx)); obtain ⟨⟨q0, q1, q2, q3, q4, q5⟩, f0, f1, f2, f3, f4, f5⟩ := cells6 HR.out; obtain ⟨c0, c1, c2, c3, c4, c5⟩ := CX.out _ Kx)
    | (go_at_call 38; (with_reducible refine (Ho.out _ Kx).mono ?_); rintro e w6 ⟨rfl, k4⟩; replace Kx := KT Kx k4; clear k4; (try clear c0 c1 c2 c3 c4 c5); clear HR q0 q1 q2 q3 q4 q5 f0 f1 f2 f3 f4 f5; have HR := Lib.hid (Zc.out _ (KT KA3.out Kx)); obtain ⟨⟨q0, q1, q2, q3, q4, q5⟩, f0, f1, f2, f3, f4, f5⟩ := cells6 HR.out; obtain ⟨c0, c1, c2, c3, c4, c5⟩ := CX.out _ Kx)
    | (go_at_call 25; (with_reducible refine (Tt.out _ Kx).mono ?_); rintro e w7 ⟨rfl, k4⟩; replace Kx := KT Kx k4; clear k4; (try clear c0 c1 c2 c3 c4 c5); clear HR q0 q1 q2 q3 q4 q5 f0 f1 f2 f3 f4 f5; have HR := Lib.hid (Zc.out _ (KT KA3.out Kx)); obtain ⟨⟨q0, q1, q2, q3, q4, q5⟩, f0, f1, f2, f3, f4, f5⟩ := cells6 HR.out; obtain ⟨c0, c1, c2, c3, c4, c5⟩ := CX.out _ Kx))
  refine bodyPost_ret (results_row_tmp4 rfl rfl (heap_set6 HR.out _ _ _ _ _ _) Try.underlying29 rfl (by kernel_rfl)) rfl ⟨.slice ad R.sp.length cap, G, rfl, (Hg.out.newer (KT ((Keeps.refl [] w3).alloc (.cells #[.int .i64 R.ep, .int .i64 R.nr, .int .i64 R.kd, .slice ad R.sp.length cap, .string (str R.dt), .string (str R.tx)] 29)) Kx)).kept (keeps_at6 _ w.heap.size _ _ _ _ _ _) (fun x hx => ?_), fun x hx => ?_, keeps_set6 (KT K0.out (KT KA3.out Kx)) (Nat.le_refl _) _ _ _ _ _ _⟩
  · have h1 := (HGb.out x hx).1
    have h2 := Ks.out
    simp at h2 ⊢
    omega
  · have h1 := HGb.out x hx
    have h2 := Ks.out
    have h3 := Kx.size
    simp at h2 h3 ⊢
    omega
set_option maxHeartbeats 4000000 in
theorem ropen_ne0 (s : List UInt8) (w : World) (hs : s.length ≤ 100000) (h : ¬ s.length < 64) (hp : [76, 82].isPrefixOf s = true) (hn1 : 1 ≤ nOf s) (hn2 : nOf s ≤ 40) (hl : nOf s * 64 ≤ s.length) (hc : (crcOpen (s.take (nOf s * 64))).2 = 0) (ht : toldV (s.take (nOf s * 64)) = (Rc.zero, 0, 12)) (R : Rc) (SM : List UInt8) (hq : toldQ (bodyOfH (s.take (nOf s * 64))) = some (R, SM)) (hf : R.full.check = 0) (hag : againQ R SM ≠ s.take (nOf s * 64)) (hk : R.kd ≠ 1) :
    Calls Try.prog 21 #[.string (str s)] w (OpenQ w (openV s)) := by
  have hz := str_empty
  have hmag : ByteArray.mk #[76, 82] = str [76, 82] := rfl
  have K0 := Lib.hid ((Keeps.refl [] w).alloc zq)
  have Zc : Hid (∀ w', Keeps [] (w.alloc zq) w' → w'.heap[w.heap.size]? = some zq) := fun w' k => k.some (heap_alloc_self w zq) (by simp)
  unfold zq at *
  have HF := Lib.hid hf
  have HK := Lib.hid hk
  clear hf hk
  have h1 : decide ((s.length : Int) < 64) = false := decide_eq_false (by omega)
  have hl2 : (2 : Int) < (s.length : Int) := by omega
  have hl3 : (3 : Int) < (s.length : Int) := by omega
  have hl4 : (2 : Int) ≤ (s.length : Int) := by omega
  have hl5 : decide (2 ≤ s.length) = true := decide_eq_true (by omega)
  have ga : (str s)[2]'(by simp; omega) = s.getD 2 0 := str_at s 2 _
  have gb : (str s)[3]'(by simp; omega) = s.getD 3 0 := str_at s 3 _
  have hcut2 : (str s).extract 0 2 = str (s.take 2) := by rw [str_extract, str_data]; simp
  obtain ⟨N, hN⟩ : ∃ N, nOf s = N := ⟨_, rfl⟩
  have hN2 : (s.getD 2 0).toNat * 256 + (s.getD 3 0).toNat = N := hN
  have l2 := (s.getD 2 0).toNat_lt
  have l3 := (s.getD 3 0).toNat_lt
  generalize s.getD 2 0 = a2 at *
  generalize s.getD 3 0 = b3 at *
  have hw1 : wrap64 (a2.toNat : Int) = (a2.toNat : Int) := IntWalk.wrap64_in _ ⟨by omega, by omega⟩
  have hw1' : IntKind.i64.wrap (a2.toNat : Int) = (a2.toNat : Int) := IntWalk.i64_in _ ⟨by omega, by omega⟩
  have hw2 : IntKind.i64.wrap (256 * (a2.toNat : Int)) = 256 * (a2.toNat : Int) := IntWalk.i64_in _ ⟨by omega, by omega⟩
  have hw3 : wrap64 (b3.toNat : Int) = (b3.toNat : Int) := IntWalk.wrap64_in _ ⟨by omega, by omega⟩
  have hw3' : IntKind.i64.wrap (b3.toNat : Int) = (b3.toNat : Int) := IntWalk.i64_in _ ⟨by omega, by omega⟩
  have hor : IntKind.i64.wrap (256 * (a2.toNat : Int) + (b3.toNat : Int)) = (N : Int) := by rw [IntWalk.i64_in _ ⟨by omega, by omega⟩]; omega
  have hNb : N < 65536 := by omega
  have hp2 : s.take 2 = [76, 82] := pre_take.1 hp
  rw [hN] at hn1 hn2 hl hc ht hq hag
  have hv : openV s = (Rc.zero, 0, 0, 12) := by
    unfold openV; rw [hN]; rw [if_neg h, if_neg (show ¬ ([76, 82].isPrefixOf s = false ∨ N < 1 ∨ 40 < N) from fun h => h.elim (fun h => by rw [hp] at h; cases h) (fun h => by omega)), if_neg (show ¬ s.length < N * 64 by omega), if_neg (fun h => h hc), ht, if_pos (by decide)]
  rw [hv]
  generalize s.take 2 = P2 at *
  have hpb : (P2 == [76, 82]) = true := by rw [beq_iff_eq]; exact hp2
  have hpb2 : (P2 != [76, 82]) = false := by rw [hp2]; rfl
  have h4 : decide ((N : Int) < 1) = false := decide_eq_false (by omega)
  have h5 : decide (40 < (N : Int)) = false := decide_eq_false (by omega)
  obtain ⟨M, hM⟩ : ∃ M, N * 64 = M := ⟨_, rfl⟩
  have hwN : IntKind.i64.wrap (64 * (N : Int)) = (M : Int) := by rw [IntWalk.i64_in _ ⟨by omega, by omega⟩]; omega
  have h6 : decide (s.length < M) = false := decide_eq_false (by omega)
  have h7 : decide ((s.length : Int) < (M : Int)) = false := decide_eq_false (by omega)
  have h8 : (M : Int) ≤ (s.length : Int) := by omega
  have h9 : decide (M ≤ s.length) = true := decide_eq_true (by omega)
  have hcut : (str s).extract 0 M = str (s.take M) := by rw [str_extract, str_data]; simp
  have lH : (s.take M).length = M := by rw [List.length_take]; omega
  rw [hM] at hc hq hag
  generalize s.take M = H at *
  obtain ⟨M4, hM4⟩ : ∃ M4, M - 4 = M4 := ⟨_, rfl⟩
  have hwM : IntKind.i64.wrap ((M : Int) - 4) = (M4 : Int) := by rw [IntWalk.i64_in _ ⟨by omega, by omega⟩]; omega
  have cutA : (str H).extract 0 M4 = str (H.take M4) := by rw [str_extract, str_data]; simp
  have cutB : (str H).extract M4 M = str (H.drop M4) := by rw [str_extract, str_data, List.take_of_length_le (by rw [List.length_drop]; omega)]
  have k1 : (M4 : Int) ≤ (M : Int) := by omega
  have k2 : decide (M4 ≤ M) = true := decide_eq_true (by omega)
  have hcq := crc_q (H := H) (by omega)
  rw [lH, hM4] at hcq
  have Mo := Lib.hid (fun w => refMore_any 0 (H.take M4) w (by omega) (by rw [List.length_take]; omega))
  have hX := crcMore_lt 0 (H.take M4)
  have Fo := Lib.hid (fun w => refFour_any (crcMore 0 (H.take M4)) w hX)
  generalize crcMore 0 (H.take M4) = X at *
  generalize four X = FF at *
  generalize H.take M4 = TT at *
  generalize H.drop M4 = DD at *
  rw [Int.natCast_zero] at Mo
  have b1 : (FF == DD) = true := by rw [beq_iff_eq]; exact Classical.byContradiction fun hh => by have := hcq.2 hh; omega
  have b2 : (FF != DD) = false := by rw [bne_eq_false_iff_eq]; exact Classical.byContradiction fun hh => by have := hcq.2 hh; omega
  have To : Hid (∀ w, Calls Try.prog 36 #[.string (str H)] w fun e w' => ∃ sv G, e = .returned (.tuple #[R.val sv, .string (str SM), .bool true]) ∧ R.good w' sv G ∧ (∀ x, x ∈ G → w.heap.size ≤ x ∧ x < w'.heap.size) ∧ Keeps [] w w') := fun w => (rtold_any H w (by omega) (by omega)).mono fun e w' hh => by
    rcases hh with ⟨h1, _⟩ | ⟨r, sum, sv, G, h1, h2⟩
    · rw [hq] at h1; cases h1
    · rw [hq, Option.some.injEq, Prod.mk.injEq] at h1
      obtain ⟨rfl, rfl⟩ := h1
      exact ⟨sv, G, h2⟩
  obtain ⟨hd0, hsl0, hsm, _⟩ := toldQ_fit (b := bodyOfH H) (Nat.le_trans (bodyOfH_len H) (by omega)) hq
  have HD := Lib.hid hd0
  have HSL := Lib.hid hsl0
  unfold Rc.val at To
  clear hq hd0 hsl0
  have HCk : Hid ((R.full.check == 0) = true) := by unfold Hid; rw [beq_iff_eq]; exact HF.out
  have Hok := Lib.hid (hok_full HF.out).1
  unfold againQ at hag
  rw [if_neg HK.out] at hag
  obtain ⟨HB, hHB⟩ : ∃ HB, R.headB (crcMore 0 R.dt) = HB := ⟨_, rfl⟩
  have HHA := Lib.hid hHB
  rw [hHB] at hag
  clear hHB
  have hkb : (R.kd == 1) = false := by rw [beq_eq_false_iff_ne]; exact HK.out
  have hbe : (HB != H) = true := by rw [bne_iff_ne]; exact hag
  have hbe2 : (HB == H) = false := by rw [beq_eq_false_iff_ne]; exact hag
  clear ht HF hsm hag
  clear hN hN2 l2 l3 hv hp hp2 hl hM hM4 hcq hX hc
  go_enter Try.func21, Try.ntmps21
  have KQ : Keeps [] (w.alloc (.cells #[.int .i64 0, .int .i64 0, .int .i64 0, .slice none 0 0, .string (str []), .string (str [])] 29)) (w.alloc (.cells #[.int .i64 0, .int .i64 0, .int .i64 0, .slice none 0 0, .string (str []), .string (str [])] 29)) := Keeps.refl [] _
  go_wp2
  go_quiet (fail)
  have KQ1 := KQ.drewN nq
  have KQ2 := KQ1.drewN 1
  have KQ3 := KQ1.drew
  go_wp2
  go_region_held3 (fun _ => True) (trivial)
    (first
      | (go_at_call 32; (with_reducible refine (Mo.out _).mono ?_); rintro e w1 ⟨rfl, rfl⟩)
      | (go_at_call 33; (with_reducible refine (Fo.out _).mono ?_); rintro e w2 ⟨rfl, k2'⟩; have KA := Lib.hid (KT (by first | with_reducible assumption | exact KQ1 | exact KQ2 | exact KQ3 | exact KQ) k2'); clear k2' KQ KQ1 KQ2 KQ3; have HR := Lib.hid (Zc.out _ KA.out); obtain ⟨⟨q0, q1, q2, q3, q4, q5⟩, f0, f1, f2, f3, f4, f5⟩ := cells6 HR.out))
  go_wp2_with (first
    | (go_at_call 36; (with_reducible refine (To.out _).mono ?_); rintro e w3 ⟨sv, G, rfl, hg, hGb, k3⟩; obtain ⟨ad, cap, rfl, _⟩ := hg.at_; have Hg := Lib.hid hg; have HGb := Lib.hid hGb; have KB := Lib.hid (KT KA.out k3); have Ks := Lib.hid KA.out.size; have KA3 := Lib.hid ((KT KA.out k3).alloc (.cells #[.int .i64 R.ep, .int .i64 R.nr, .int .i64 R.kd, .slice ad R.sp.length cap, .string (str R.dt), .string (str R.tx)] 29)); have Kx := Keeps.refl [] (w3.alloc (.cells #[.int .i64 R.ep, .int .i64 R.nr, .int .i64 R.kd, .slice ad R.sp.length cap, .string (str R.dt), .string (str R.tx)] 29)); have CX : Hid (∀ w', Keeps [] (w3.alloc (.cells #[.int .i64 R.ep, .int .i64 R.nr, .int .i64 R.kd, .slice ad R.sp.length cap, .string (str R.dt), .string (str R.tx)] 29)) w' → _) := (fun w' k => (cells6 (k.some (heap_at (w := w3) (k := w3.heap.size) (o := (.cells #[.int .i64 R.ep, .int .i64 R.nr, .int .i64 R.kd, .slice ad R.sp.length cap, .string (str R.dt), .string (str R.tx)] 29)) rfl) (by simp))).1); have Rt : Hid (∀ w', Keeps [] (w3.alloc (.cells #[.int .i64 R.ep, .int .i64 R.nr, .int .i64 R.kd, .slice ad R.sp.length cap, .string (str R.dt), .string (str R.tx)] 29)) w' → _) := (fun w' k => right_any R _ G w' (Hg.out.newer (KT ((Keeps.refl [] w3).alloc (.cells #[.int .i64 R.ep, .int .i64 R.nr, .int .i64 R.kd, .slice ad R.sp.length cap, .string (str R.dt), .string (str R.tx)] 29)) k)) HD.out HSL.out); unfold Rc.val at Rt; rw [HCk.out] at Rt; clear hg hGb k3; clear HR q0 q1 q2 q3 q4 q5 f0 f1 f2 f3 f4 f5; have HR := Lib.hid (Zc.out _ (KT KA3.out Kx)); obtain ⟨⟨q0, q1, q2, q3, q4, q5⟩, f0, f1, f2, f3, f4, f5⟩ := cells6 HR.out; obtain ⟨c0, c1, c2, c3, c4, c5⟩ := CX.out _ Kx; have Hd := Lib.hid (fun (w' : World) (k : Keeps [] (w3.alloc (.cells #[.int .i64 R.ep, .int .i64 R.nr, .int .i64 R.kd, .slice ad R.sp.length cap, .string (str R.dt), .string (str R.tx)] 29)) w') => ref_head_any R _ G w' (Hg.out.newer (KT ((Keeps.refl [] w3).alloc (.cells #[.int .i64 R.ep, .int .i64 R.nr, .int .i64 R.kd, .slice ad R.sp.length cap, .string (str R.dt), .string (str R.tx)] 29)) k)) Hok.out (by rw [HD.out]; decide)); unfold Rc.val at Hd; rw [HHA.out] at Hd)
    | (go_at_call 37; (with_reducible refine (Rt.out _ Kx).mono ?_); rintro e w4 ⟨rfl, k4⟩; replace Kx := KT Kx k4; clear k4; (try clear c0 c1 c2 c3 c4 c5); clear HR q0 q1 q2 q3 q4 q5 f0 f1 f2 f3 f4 f5; have HR := Lib.hid (Zc.out _ (KT KA3.out Kx)); obtain ⟨⟨q0, q1, q2, q3, q4, q5⟩, f0, f1, f2, f3, f4, f5⟩ := cells6 HR.out; obtain ⟨c0, c1, c2, c3, c4, c5⟩ := CX.out _ Kx)
    | (go_at_call 17; (with_reducible refine (Hd.out _ Kx).mono ?_); rintro e w5 ⟨rfl, k4⟩; replace Kx := KT Kx k4; clear k4; (try clear c0 c1 c2 c3 c4 c5); clear HR q0 q1 q2 q3 q4 q5 f0 f1 f2 f3 f4 f5; have HR := Lib.hid (Zc.out _ (KT KA3.out Kx)); obtain ⟨⟨q0, q1, q2, q3, q4, q5⟩, f0, f1, f2, f3, f4, f5⟩ := cells6 HR.out; obtain ⟨c0, c1, c2, c3, c4, c5⟩ := CX.out _ Kx))
  refine bodyPost_ret (results_row_tmp4 rfl rfl (heap_set6 HR.out _ _ _ _ _ _) Try.underlying29 rfl (by kernel_rfl)) rfl ⟨.slice none 0 0, [], rfl, zero_good _, by simp, keeps_set6 (KT K0.out (KT KA3.out Kx)) (Nat.le_refl _) _ _ _ _ _ _⟩
set_option maxHeartbeats 4000000 in
theorem ropen_ok0 (s : List UInt8) (w : World) (hs : s.length ≤ 100000) (h : ¬ s.length < 64) (hp : [76, 82].isPrefixOf s = true) (hn1 : 1 ≤ nOf s) (hn2 : nOf s ≤ 40) (hl : nOf s * 64 ≤ s.length) (hc : (crcOpen (s.take (nOf s * 64))).2 = 0) (R : Rc) (X0 : Nat) (ht : toldV (s.take (nOf s * 64)) = (R, X0, 0)) (SM : List UInt8) (hSM : SM = if R.kd = 1 then be X0 4 else []) (hq : toldQ (bodyOfH (s.take (nOf s * 64))) = some (R, SM)) (hf : R.full.check = 0) (hag : againQ R SM = s.take (nOf s * 64)) (hk : R.kd ≠ 1) :
    Calls Try.prog 21 #[.string (str s)] w (OpenQ w (openV s)) := by
  have hz := str_empty
  have hmag : ByteArray.mk #[76, 82] = str [76, 82] := rfl
  have K0 := Lib.hid ((Keeps.refl [] w).alloc zq)
  have Zc : Hid (∀ w', Keeps [] (w.alloc zq) w' → w'.heap[w.heap.size]? = some zq) := fun w' k => k.some (heap_alloc_self w zq) (by simp)
  unfold zq at *
  have HF := Lib.hid hf
  have HK := Lib.hid hk
  clear hf hk
  have h1 : decide ((s.length : Int) < 64) = false := decide_eq_false (by omega)
  have hl2 : (2 : Int) < (s.length : Int) := by omega
  have hl3 : (3 : Int) < (s.length : Int) := by omega
  have hl4 : (2 : Int) ≤ (s.length : Int) := by omega
  have hl5 : decide (2 ≤ s.length) = true := decide_eq_true (by omega)
  have ga : (str s)[2]'(by simp; omega) = s.getD 2 0 := str_at s 2 _
  have gb : (str s)[3]'(by simp; omega) = s.getD 3 0 := str_at s 3 _
  have hcut2 : (str s).extract 0 2 = str (s.take 2) := by rw [str_extract, str_data]; simp
  obtain ⟨N, hN⟩ : ∃ N, nOf s = N := ⟨_, rfl⟩
  have hN2 : (s.getD 2 0).toNat * 256 + (s.getD 3 0).toNat = N := hN
  have l2 := (s.getD 2 0).toNat_lt
  have l3 := (s.getD 3 0).toNat_lt
  generalize s.getD 2 0 = a2 at *
  generalize s.getD 3 0 = b3 at *
  have hw1 : wrap64 (a2.toNat : Int) = (a2.toNat : Int) := IntWalk.wrap64_in _ ⟨by omega, by omega⟩
  have hw1' : IntKind.i64.wrap (a2.toNat : Int) = (a2.toNat : Int) := IntWalk.i64_in _ ⟨by omega, by omega⟩
  have hw2 : IntKind.i64.wrap (256 * (a2.toNat : Int)) = 256 * (a2.toNat : Int) := IntWalk.i64_in _ ⟨by omega, by omega⟩
  have hw3 : wrap64 (b3.toNat : Int) = (b3.toNat : Int) := IntWalk.wrap64_in _ ⟨by omega, by omega⟩
  have hw3' : IntKind.i64.wrap (b3.toNat : Int) = (b3.toNat : Int) := IntWalk.i64_in _ ⟨by omega, by omega⟩
  have hor : IntKind.i64.wrap (256 * (a2.toNat : Int) + (b3.toNat : Int)) = (N : Int) := by rw [IntWalk.i64_in _ ⟨by omega, by omega⟩]; omega
  have hNb : N < 65536 := by omega
  have hp2 : s.take 2 = [76, 82] := pre_take.1 hp
  rw [hN] at hn1 hn2 hl hc ht hq hag
  have hv : openV s = (R, N, X0, 0) := by
    unfold openV; rw [hN]; rw [if_neg h, if_neg (show ¬ ([76, 82].isPrefixOf s = false ∨ N < 1 ∨ 40 < N) from fun h => h.elim (fun h => by rw [hp] at h; cases h) (fun h => by omega)), if_neg (show ¬ s.length < N * 64 by omega), if_neg (fun h => h hc), ht, if_neg (fun h => h rfl)]
  rw [hv]
  unfold OpenQ
  dsimp only
  rw [← hSM]
  generalize s.take 2 = P2 at *
  have hpb : (P2 == [76, 82]) = true := by rw [beq_iff_eq]; exact hp2
  have hpb2 : (P2 != [76, 82]) = false := by rw [hp2]; rfl
  have h4 : decide ((N : Int) < 1) = false := decide_eq_false (by omega)
  have h5 : decide (40 < (N : Int)) = false := decide_eq_false (by omega)
  obtain ⟨M, hM⟩ : ∃ M, N * 64 = M := ⟨_, rfl⟩
  have hwN : IntKind.i64.wrap (64 * (N : Int)) = (M : Int) := by rw [IntWalk.i64_in _ ⟨by omega, by omega⟩]; omega
  have h6 : decide (s.length < M) = false := decide_eq_false (by omega)
  have h7 : decide ((s.length : Int) < (M : Int)) = false := decide_eq_false (by omega)
  have h8 : (M : Int) ≤ (s.length : Int) := by omega
  have h9 : decide (M ≤ s.length) = true := decide_eq_true (by omega)
  have hcut : (str s).extract 0 M = str (s.take M) := by rw [str_extract, str_data]; simp
  have lH : (s.take M).length = M := by rw [List.length_take]; omega
  rw [hM] at hc hq hag
  generalize s.take M = H at *
  obtain ⟨M4, hM4⟩ : ∃ M4, M - 4 = M4 := ⟨_, rfl⟩
  have hwM : IntKind.i64.wrap ((M : Int) - 4) = (M4 : Int) := by rw [IntWalk.i64_in _ ⟨by omega, by omega⟩]; omega
  have cutA : (str H).extract 0 M4 = str (H.take M4) := by rw [str_extract, str_data]; simp
  have cutB : (str H).extract M4 M = str (H.drop M4) := by rw [str_extract, str_data, List.take_of_length_le (by rw [List.length_drop]; omega)]
  have k1 : (M4 : Int) ≤ (M : Int) := by omega
  have k2 : decide (M4 ≤ M) = true := decide_eq_true (by omega)
  have hcq := crc_q (H := H) (by omega)
  rw [lH, hM4] at hcq
  have Mo := Lib.hid (fun w => refMore_any 0 (H.take M4) w (by omega) (by rw [List.length_take]; omega))
  have hX := crcMore_lt 0 (H.take M4)
  have Fo := Lib.hid (fun w => refFour_any (crcMore 0 (H.take M4)) w hX)
  generalize crcMore 0 (H.take M4) = X at *
  generalize four X = FF at *
  generalize H.take M4 = TT at *
  generalize H.drop M4 = DD at *
  rw [Int.natCast_zero] at Mo
  have b1 : (FF == DD) = true := by rw [beq_iff_eq]; exact Classical.byContradiction fun hh => by have := hcq.2 hh; omega
  have b2 : (FF != DD) = false := by rw [bne_eq_false_iff_eq]; exact Classical.byContradiction fun hh => by have := hcq.2 hh; omega
  have To : Hid (∀ w, Calls Try.prog 36 #[.string (str H)] w fun e w' => ∃ sv G, e = .returned (.tuple #[R.val sv, .string (str SM), .bool true]) ∧ R.good w' sv G ∧ (∀ x, x ∈ G → w.heap.size ≤ x ∧ x < w'.heap.size) ∧ Keeps [] w w') := fun w => (rtold_any H w (by omega) (by omega)).mono fun e w' hh => by
    rcases hh with ⟨h1, _⟩ | ⟨r, sum, sv, G, h1, h2⟩
    · rw [hq] at h1; cases h1
    · rw [hq, Option.some.injEq, Prod.mk.injEq] at h1
      obtain ⟨rfl, rfl⟩ := h1
      exact ⟨sv, G, h2⟩
  obtain ⟨hd0, hsl0, hsm, _⟩ := toldQ_fit (b := bodyOfH H) (Nat.le_trans (bodyOfH_len H) (by omega)) hq
  have HD := Lib.hid hd0
  have HSL := Lib.hid hsl0
  unfold Rc.val at To
  clear hq hd0 hsl0
  have HCk : Hid ((R.full.check == 0) = true) := by unfold Hid; rw [beq_iff_eq]; exact HF.out
  have Hok := Lib.hid (hok_full HF.out).1
  unfold againQ at hag
  rw [if_neg HK.out] at hag
  obtain ⟨HB, hHB⟩ : ∃ HB, R.headB (crcMore 0 R.dt) = HB := ⟨_, rfl⟩
  have HHA := Lib.hid hHB
  rw [hHB] at hag
  clear hHB
  have hkb : (R.kd == 1) = false := by rw [beq_eq_false_iff_ne]; exact HK.out
  have hsec : R.sects = 0 := by unfold Rc.sects; rw [if_neg HK.out]
  rw [hsec]
  clear hsec
  subst hag
  have hbe : (HB != HB) = false := bne_self_eq_false _
  have hbe2 : (HB == HB) = true := beq_self_eq_true _
  clear ht HF hsm hSM
  clear hN hN2 l2 l3 hv hp hp2 hl hM hM4 hcq hX hc
  go_enter Try.func21, Try.ntmps21
  have KQ : Keeps [] (w.alloc (.cells #[.int .i64 0, .int .i64 0, .int .i64 0, .slice none 0 0, .string (str []), .string (str [])] 29)) (w.alloc (.cells #[.int .i64 0, .int .i64 0, .int .i64 0, .slice none 0 0, .string (str []), .string (str [])] 29)) := Keeps.refl [] _
  go_wp2
  go_quiet (fail)
  have KQ1 := KQ.drewN nq
  have KQ2 := KQ1.drewN 1
  have KQ3 := KQ1.drew
  go_wp2
  go_region_held3 (fun _ => True) (trivial)
    (first
      | (go_at_call 32; (with_reducible refine (Mo.out _).mono ?_); rintro e w1 ⟨rfl, rfl⟩)
      | (go_at_call 33; (with_reducible refine (Fo.out _).mono ?_); rintro e w2 ⟨rfl, k2'⟩; have KA := Lib.hid (KT (by first | with_reducible assumption | exact KQ1 | exact KQ2 | exact KQ3 | exact KQ) k2'); clear k2' KQ KQ1 KQ2 KQ3; have HR := Lib.hid (Zc.out _ KA.out); obtain ⟨⟨q0, q1, q2, q3, q4, q5⟩, f0, f1, f2, f3, f4, f5⟩ := cells6 HR.out))
  go_wp2_with (first
    | (go_at_call 36; (with_reducible refine (To.out _).mono ?_); rintro e w3 ⟨sv, G, rfl, hg, hGb, k3⟩; obtain ⟨ad, cap, rfl, _⟩ := hg.at_; have Hg := Lib.hid hg; have HGb := Lib.hid hGb; have KB := Lib.hid (KT KA.out k3); have Ks := Lib.hid KA.out.size; have KA3 := Lib.hid ((KT KA.out k3).alloc (.cells #[.int .i64 R.ep, .int .i64 R.nr, .int .i64 R.kd, .slice ad R.sp.length cap, .string (str R.dt), .string (str R.tx)] 29)); have Kx := Keeps.refl [] (w3.alloc (.cells #[.int .i64 R.ep, .int .i64 R.nr, .int .i64 R.kd, .slice ad R.sp.length cap, .string (str R.dt), .string (str R.tx)] 29)); have CX : Hid (∀ w', Keeps [] (w3.alloc (.cells #[.int .i64 R.ep, .int .i64 R.nr, .int .i64 R.kd, .slice ad R.sp.length cap, .string (str R.dt), .string (str R.tx)] 29)) w' → _) := (fun w' k => (cells6 (k.some (heap_at (w := w3) (k := w3.heap.size) (o := (.cells #[.int .i64 R.ep, .int .i64 R.nr, .int .i64 R.kd, .slice ad R.sp.length cap, .string (str R.dt), .string (str R.tx)] 29)) rfl) (by simp))).1); have Rt : Hid (∀ w', Keeps [] (w3.alloc (.cells #[.int .i64 R.ep, .int .i64 R.nr, .int .i64 R.kd, .slice ad R.sp.length cap, .string (str R.dt), .string (str R.tx)] 29)) w' → _) := (fun w' k => right_any R _ G w' (Hg.out.newer (KT ((Keeps.refl [] w3).alloc (.cells #[.int .i64 R.ep, .int .i64 R.nr, .int .i64 R.kd, .slice ad R.sp.length cap, .string (str R.dt), .string (str R.tx)] 29)) k)) HD.out HSL.out); unfold Rc.val at Rt; rw [HCk.out] at Rt; clear hg hGb k3; clear HR q0 q1 q2 q3 q4 q5 f0 f1 f2 f3 f4 f5; have HR := Lib.hid (Zc.out _ (KT KA3.out Kx)); obtain ⟨⟨q0, q1, q2, q3, q4, q5⟩, f0, f1, f2, f3, f4, f5⟩ := cells6 HR.out; obtain ⟨c0, c1, c2, c3, c4, c5⟩ := CX.out _ Kx; have Hd := Lib.hid (fun (w' : World) (k : Keeps [] (w3.alloc (.cells #[.int .i64 R.ep, .int .i64 R.nr, .int .i64 R.kd, .slice ad R.sp.length cap, .string (str R.dt), .string (str R.tx)] 29)) w') => ref_head_any R _ G w' (Hg.out.newer (KT ((Keeps.refl [] w3).alloc (.cells #[.int .i64 R.ep, .int .i64 R.nr, .int .i64 R.kd, .slice ad R.sp.length cap, .string (str R.dt), .string (str R.tx)] 29)) k)) Hok.out (by rw [HD.out]; decide)); unfold Rc.val at Hd; rw [HHA.out] at Hd)
    | (go_at_call 37; (with_reducible refine (Rt.out _ Kx).mono ?_); rintro e w4 ⟨rfl, k4⟩; replace Kx := KT Kx k4; clear k4; (try clear c0 c1 c2 c3 c4 c5); clear HR q0 q1 q2 q3 q4 q5 f0 f1 f2 f3 f4 f5; have HR := Lib.hid (Zc.out _ (KT KA3.out Kx)); obtain ⟨⟨q0, q1, q2, q3, q4, q5⟩, f0, f1, f2, f3, f4, f5⟩ := cells6 HR.out; obtain ⟨c0, c1, c2, c3, c4, c5⟩ := CX.out _ Kx)
    | (go_at_call 17; (with_reducible refine (Hd.out _ Kx).mono ?_); rintro e w5 ⟨rfl, k4⟩; replace Kx := KT Kx k4; clear k4; (try clear c0 c1 c2 c3 c4 c5); clear HR q0 q1 q2 q3 q4 q5 f0 f1 f2 f3 f4 f5; have HR := Lib.hid (Zc.out _ (KT KA3.out Kx)); obtain ⟨⟨q0, q1, q2, q3, q4, q5⟩, f0, f1, f2, f3, f4, f5⟩ := cells6 HR.out; obtain ⟨c0, c1, c2, c3, c4, c5⟩ := CX.out _ Kx))
  refine bodyPost_ret (results_row_tmp4 rfl rfl (heap_set6 HR.out _ _ _ _ _ _) Try.underlying29 rfl (by kernel_rfl)) rfl ⟨.slice ad R.sp.length cap, G, rfl, (Hg.out.newer (KT ((Keeps.refl [] w3).alloc (.cells #[.int .i64 R.ep, .int .i64 R.nr, .int .i64 R.kd, .slice ad R.sp.length cap, .string (str R.dt), .string (str R.tx)] 29)) Kx)).kept (keeps_at6 _ w.heap.size _ _ _ _ _ _) (fun x hx => ?_), fun x hx => ?_, keeps_set6 (KT K0.out (KT KA3.out Kx)) (Nat.le_refl _) _ _ _ _ _ _⟩
  · have h1 := (HGb.out x hx).1
    have h2 := Ks.out
    simp at h2 ⊢
    omega
  · have h1 := HGb.out x hx
    have h2 := Ks.out
    have h3 := Kx.size
    simp at h2 h3 ⊢
    omega

theorem ropen_any (s : List UInt8) (w : World) (hs : s.length ≤ 100000) : Calls Try.prog 21 #[.string (str s)] w (OpenQ w (openV s)) := by
  by_cases h : s.length < 64
  · exact ropen_short s w hs h
  · by_cases hp : [76, 82].isPrefixOf s = true
    · by_cases hn1 : nOf s < 1
      · exact ropen_small s w hs h hp hn1
      · by_cases hn2 : 40 < nOf s
        · exact ropen_big s w hs h hp hn2
        · by_cases hl : s.length < nOf s * 64
          · exact ropen_cut s w hs h hp (by omega) (by omega) hl
          · by_cases hc : (crcOpen (s.take (nOf s * 64))).2 = 0
            · rcases told_q (s.take (nOf s * 64)) (by rw [List.length_take]; omega) with ⟨ht, hq | ⟨r, sum, hq, hf | ⟨hf, hag⟩⟩⟩ | ⟨r, X, _, ht, hq, hf, hag⟩
              · exact ropen_none s w hs h hp (by omega) (by omega) (by omega) hc ht hq
              · exact ropen_right s w hs h hp (by omega) (by omega) (by omega) hc ht r sum hq hf
              · by_cases hk : r.kd = 1
                · exact ropen_ne1 s w hs h hp (by omega) (by omega) (by omega) hc ht r sum hq hf hag hk
                · exact ropen_ne0 s w hs h hp (by omega) (by omega) (by omega) hc ht r sum hq hf hag hk
              · by_cases hk : r.kd = 1
                · exact ropen_ok1 s w hs h hp (by omega) (by omega) (by omega) hc r X ht _ rfl hq hf hag hk
                · exact ropen_ok0 s w hs h hp (by omega) (by omega) (by omega) hc r X ht _ rfl hq hf hag hk
            · exact ropen_crc s w hs h hp (by omega) (by omega) (by omega) hc
    · exact ropen_np s w hs h (Bool.eq_false_iff.2 hp)
end Go.Proofs.Ytjebldfmkpfafaa
