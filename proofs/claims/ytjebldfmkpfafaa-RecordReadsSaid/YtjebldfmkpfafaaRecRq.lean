/- Layer 10: the reference: Open. -/
import Derived.Test.YtjebldfmkpfafaaRecRo
namespace Go.Proofs.Ytjebldfmkpfafaa
open Go.RowKit
set_option maxRecDepth 100000

section
variable {P : Program} {fn : Func} {p u u2 u3 u4 : Tmp} {ty : TypeId} {tmps : Array Value} {w : World} {g : Nat} {t : TypeId} {cs : Array Value} {fr : Nat × Nat} {d : TypeDesc}
theorem results_row_tmp4 (h : fn.results = #[.cell p ty, .tmp u, .tmp u2, .tmp u3, .tmp u4]) (hp : tmps.getD p undef = .pointer (some ⟨g, 0, none⟩)) (hg : w.heap[g]? = some (.cells cs t fr))
    (hu : P.underlying ty = some d) (hd : (match d with | .struct _ | .array _ _ => true | _ => false) = true) (hi : (P.info? ty).map (·.size) = some cs.size) :
    (results fn tmps).run P w = .ok (.tuple #[.agg cs, tmps.getD u undef, tmps.getD u2 undef, tmps.getD u3 undef, tmps.getD u4 undef]) w := by
  have hp' : tmps[p]?.getD undef = .pointer (some ⟨g, 0, none⟩) := by simpa using hp
  simp [results, h, hp', asAddr, run_loadVar_row w g t ty cs fr d hg hu hd hi]
end
def OpenQ (w : World) (R : Rc × Nat × Nat × Int) (e : Ending) (w' : World) : Prop :=
  ∃ sv G, e = .returned (.tuple #[R.1.val sv, .int .i64 R.2.1, .int .i64 R.1.sects, .string (str (if R.1.kd = 1 then be R.2.2.1 4 else [])), .int .i64 R.2.2.2]) ∧ R.1.good w' sv G ∧ (∀ x, x ∈ G → w.heap.size ≤ x ∧ x < w'.heap.size) ∧ Keeps [] w w'
theorem pre_take {s : List UInt8} : [76, 82].isPrefixOf s = true ↔ s.take 2 = [76, 82] := by
  rw [List.isPrefixOf_iff_prefix, List.prefix_iff_eq_take]
  exact ⟨fun h => h.symm, fun h => h.symm⟩
theorem crc_q {H : List UInt8} (h : 4 ≤ H.length) : (four (crcMore 0 (H.take (H.length - 4))) = H.drop (H.length - 4) → (crcOpen H).2 = 0) ∧ (four (crcMore 0 (H.take (H.length - 4))) ≠ H.drop (H.length - 4) → (crcOpen H).2 = 13) := by
  unfold crcOpen
  rw [if_neg (by omega)]
  constructor
  · intro h1
    rw [if_pos (by rw [h1, List.take_append_drop])]
  · intro h1
    rw [if_neg]
    intro h2
    have h3 : H.take (H.length - 4) ++ four (crcMore 0 (H.take (H.length - 4))) = H.take (H.length - 4) ++ H.drop (H.length - 4) := by rw [h2, List.take_append_drop]
    exact h1 (List.append_cancel_left h3)

set_option maxHeartbeats 4000000 in
theorem ropen_short (s : List UInt8) (w : World) (hs : s.length ≤ 100000) (h : s.length < 64) :
    Calls Try.prog 21 #[.string (str s)] w (OpenQ w (openV s)) := by
  have hz := str_empty
  have hmag : ByteArray.mk #[76, 82] = str [76, 82] := rfl
  have K0 := Lib.hid ((Keeps.refl [] w).alloc zq)
  have Zc : Hid (∀ w', Keeps [] (w.alloc zq) w' → w'.heap[w.heap.size]? = some zq) := fun w' k => k.some (heap_alloc_self w zq) (by simp)
  unfold zq at *
  have hv : openV s = (Rc.zero, 0, 0, 10) := by unfold openV; rw [if_pos h]
  rw [hv]
  have h1 : decide ((s.length : Int) < 64) = true := decide_eq_true (by omega)
  clear hv h
  go_enter Try.func21, Try.ntmps21
  go_wp2
  refine bodyPost_ret (results_row_tmp4 rfl rfl (heap_at rfl) Try.underlying29 rfl (by kernel_rfl)) rfl ⟨.slice none 0 0, [], rfl, zero_good _, by simp, K0.out⟩
set_option maxHeartbeats 4000000 in
theorem ropen_np (s : List UInt8) (w : World) (hs : s.length ≤ 100000) (h : ¬ s.length < 64) (hp : [76, 82].isPrefixOf s = false) :
    Calls Try.prog 21 #[.string (str s)] w (OpenQ w (openV s)) := by
  have hz := str_empty
  have hmag : ByteArray.mk #[76, 82] = str [76, 82] := rfl
  have K0 := Lib.hid ((Keeps.refl [] w).alloc zq)
  have Zc : Hid (∀ w', Keeps [] (w.alloc zq) w' → w'.heap[w.heap.size]? = some zq) := fun w' k => k.some (heap_alloc_self w zq) (by simp)
  unfold zq at *
  have h1 : decide ((s.length : Int) < 64) = false := decide_eq_false (by omega)
  have hl2 : (2 : Int) < (s.length : Int) := by omega
  have hl3 : (3 : Int) < (s.length : Int) := by omega
  have hl4 : (2 : Int) ≤ (s.length : Int) := by omega
  have hl5 : decide (2 ≤ s.length) = true := decide_eq_true (by omega)
  have ga : (str s)[2]'(by simp; omega) = s.getD 2 0 := str_at s 2 _
  have gb : (str s)[3]'(by simp; omega) = s.getD 3 0 := str_at s 3 _
  have hcut2 : (str s).extract 0 2 = str (s.take 2) := by rw [str_extract, str_data]; simp
  obtain ⟨N, hN⟩ : ∃ N, nOf s = N := ⟨_, rfl⟩
  have hN2 : (s.getD 2 0).toNat * 256 + (s.getD 3 0).toNat = N := hN
  have l2 := (s.getD 2 0).toNat_lt
  have l3 := (s.getD 3 0).toNat_lt
  generalize s.getD 2 0 = a2 at *
  generalize s.getD 3 0 = b3 at *
  have hw1 : wrap64 (a2.toNat : Int) = (a2.toNat : Int) := IntWalk.wrap64_in _ ⟨by omega, by omega⟩
  have hw1' : IntKind.i64.wrap (a2.toNat : Int) = (a2.toNat : Int) := IntWalk.i64_in _ ⟨by omega, by omega⟩
  have hw2 : IntKind.i64.wrap (256 * (a2.toNat : Int)) = 256 * (a2.toNat : Int) := IntWalk.i64_in _ ⟨by omega, by omega⟩
  have hw3 : wrap64 (b3.toNat : Int) = (b3.toNat : Int) := IntWalk.wrap64_in _ ⟨by omega, by omega⟩
  have hw3' : IntKind.i64.wrap (b3.toNat : Int) = (b3.toNat : Int) := IntWalk.i64_in _ ⟨by omega, by omega⟩
  have hor : IntKind.i64.wrap (256 * (a2.toNat : Int) + (b3.toNat : Int)) = (N : Int) := by rw [IntWalk.i64_in _ ⟨by omega, by omega⟩]; omega
  have hNb : N < 65536 := by omega
  have hv : openV s = (Rc.zero, 0, 0, 12) := by unfold openV; rw [hN]; rw [if_neg h, if_pos (.inl hp)]
  rw [hv]
  have hp2 : s.take 2 ≠ [76, 82] := fun hh => by rw [pre_take.2 hh] at hp; cases hp
  generalize s.take 2 = P2 at *
  have hpb : (P2 == [76, 82]) = false := by rw [beq_eq_false_iff_ne]; exact hp2
  have hpb2 : (P2 != [76, 82]) = true := by rw [bne_iff_ne]; exact hp2
  clear hN hN2 l2 l3 hv hp hp2
  go_enter Try.func21, Try.ntmps21
  go_wp2
  go_quiet (fail)
  have KA := Lib.hid ((Keeps.refl [] (w.alloc (.cells #[.int .i64 0, .int .i64 0, .int .i64 0, .slice none 0 0, .string (str []), .string (str [])] 29))).drewN nq)
  have HR := Lib.hid (Zc.out _ KA.out)
  obtain ⟨⟨q0, q1, q2, q3, q4, q5⟩, f0, f1, f2, f3, f4, f5⟩ := cells6 HR.out
  go_wp2
  refine bodyPost_ret (results_row_tmp4 rfl rfl (heap_set6 (Zc.out _ ((Keeps.refl [] _).drewN nq)) _ _ _ _ _ _) Try.underlying29 rfl (by kernel_rfl)) rfl ⟨.slice none 0 0, [], rfl, zero_good _, by simp, keeps_set6 (K0.out.drewN nq) (Nat.le_refl _) _ _ _ _ _ _⟩
set_option maxHeartbeats 4000000 in
theorem ropen_small (s : List UInt8) (w : World) (hs : s.length ≤ 100000) (h : ¬ s.length < 64) (hp : [76, 82].isPrefixOf s = true) (hn : nOf s < 1) :
    Calls Try.prog 21 #[.string (str s)] w (OpenQ w (openV s)) := by
  have hz := str_empty
  have hmag : ByteArray.mk #[76, 82] = str [76, 82] := rfl
  have K0 := Lib.hid ((Keeps.refl [] w).alloc zq)
  have Zc : Hid (∀ w', Keeps [] (w.alloc zq) w' → w'.heap[w.heap.size]? = some zq) := fun w' k => k.some (heap_alloc_self w zq) (by simp)
  unfold zq at *
  have h1 : decide ((s.length : Int) < 64) = false := decide_eq_false (by omega)
  have hl2 : (2 : Int) < (s.length : Int) := by omega
  have hl3 : (3 : Int) < (s.length : Int) := by omega
  have hl4 : (2 : Int) ≤ (s.length : Int) := by omega
  have hl5 : decide (2 ≤ s.length) = true := decide_eq_true (by omega)
  have ga : (str s)[2]'(by simp; omega) = s.getD 2 0 := str_at s 2 _
  have gb : (str s)[3]'(by simp; omega) = s.getD 3 0 := str_at s 3 _
  have hcut2 : (str s).extract 0 2 = str (s.take 2) := by rw [str_extract, str_data]; simp
  obtain ⟨N, hN⟩ : ∃ N, nOf s = N := ⟨_, rfl⟩
  have hN2 : (s.getD 2 0).toNat * 256 + (s.getD 3 0).toNat = N := hN
  have l2 := (s.getD 2 0).toNat_lt
  have l3 := (s.getD 3 0).toNat_lt
  generalize s.getD 2 0 = a2 at *
  generalize s.getD 3 0 = b3 at *
  have hw1 : wrap64 (a2.toNat : Int) = (a2.toNat : Int) := IntWalk.wrap64_in _ ⟨by omega, by omega⟩
  have hw1' : IntKind.i64.wrap (a2.toNat : Int) = (a2.toNat : Int) := IntWalk.i64_in _ ⟨by omega, by omega⟩
  have hw2 : IntKind.i64.wrap (256 * (a2.toNat : Int)) = 256 * (a2.toNat : Int) := IntWalk.i64_in _ ⟨by omega, by omega⟩
  have hw3 : wrap64 (b3.toNat : Int) = (b3.toNat : Int) := IntWalk.wrap64_in _ ⟨by omega, by omega⟩
  have hw3' : IntKind.i64.wrap (b3.toNat : Int) = (b3.toNat : Int) := IntWalk.i64_in _ ⟨by omega, by omega⟩
  have hor : IntKind.i64.wrap (256 * (a2.toNat : Int) + (b3.toNat : Int)) = (N : Int) := by rw [IntWalk.i64_in _ ⟨by omega, by omega⟩]; omega
  have hNb : N < 65536 := by omega
  have hp2 : s.take 2 = [76, 82] := pre_take.1 hp
  rw [hN] at hn
  have hv : openV s = (Rc.zero, 0, 0, 12) := by unfold openV; rw [hN]; rw [if_neg h, if_pos (.inr (.inl hn))]
  rw [hv]
  generalize s.take 2 = P2 at *
  have hpb : (P2 == [76, 82]) = true := by rw [beq_iff_eq]; exact hp2
  have hpb2 : (P2 != [76, 82]) = false := by rw [hp2]; rfl
  have h4 : decide ((N : Int) < 1) = true := decide_eq_true (by omega)
  clear hN hN2 l2 l3 hv hp hp2 hn
  go_enter Try.func21, Try.ntmps21
  go_wp2
  go_quiet (fail)
  have KA := Lib.hid ((Keeps.refl [] (w.alloc (.cells #[.int .i64 0, .int .i64 0, .int .i64 0, .slice none 0 0, .string (str []), .string (str [])] 29))).drewN nq)
  have HR := Lib.hid (Zc.out _ KA.out)
  obtain ⟨⟨q0, q1, q2, q3, q4, q5⟩, f0, f1, f2, f3, f4, f5⟩ := cells6 HR.out
  go_wp2
  refine bodyPost_ret (results_row_tmp4 rfl rfl (heap_set6 (Zc.out _ ((Keeps.refl [] _).drewN nq)) _ _ _ _ _ _) Try.underlying29 rfl (by kernel_rfl)) rfl ⟨.slice none 0 0, [], rfl, zero_good _, by simp, keeps_set6 (K0.out.drewN nq) (Nat.le_refl _) _ _ _ _ _ _⟩
set_option maxHeartbeats 4000000 in
theorem ropen_big (s : List UInt8) (w : World) (hs : s.length ≤ 100000) (h : ¬ s.length < 64) (hp : [76, 82].isPrefixOf s = true) (hn : 40 < nOf s) :
    Calls Try.prog 21 #[.string (str s)] w (OpenQ w (openV s)) := by
  have hz := str_empty
  have hmag : ByteArray.mk #[76, 82] = str [76, 82] := rfl
  have K0 := Lib.hid ((Keeps.refl [] w).alloc zq)
  have Zc : Hid (∀ w', Keeps [] (w.alloc zq) w' → w'.heap[w.heap.size]? = some zq) := fun w' k => k.some (heap_alloc_self w zq) (by simp)
  unfold zq at *
  have h1 : decide ((s.length : Int) < 64) = false := decide_eq_false (by omega)
  have hl2 : (2 : Int) < (s.length : Int) := by omega
  have hl3 : (3 : Int) < (s.length : Int) := by omega
  have hl4 : (2 : Int) ≤ (s.length : Int) := by omega
  have hl5 : decide (2 ≤ s.length) = true := decide_eq_true (by omega)
  have ga : (str s)[2]'(by simp; omega) = s.getD 2 0 := str_at s 2 _
  have gb : (str s)[3]'(by simp; omega) = s.getD 3 0 := str_at s 3 _
  have hcut2 : (str s).extract 0 2 = str (s.take 2) := by rw [str_extract, str_data]; simp
  obtain ⟨N, hN⟩ : ∃ N, nOf s = N := ⟨_, rfl⟩
  have hN2 : (s.getD 2 0).toNat * 256 + (s.getD 3 0).toNat = N := hN
  have l2 := (s.getD 2 0).toNat_lt
  have l3 := (s.getD 3 0).toNat_lt
  generalize s.getD 2 0 = a2 at *
  generalize s.getD 3 0 = b3 at *
  have hw1 : wrap64 (a2.toNat : Int) = (a2.toNat : Int) := IntWalk.wrap64_in _ ⟨by omega, by omega⟩
  have hw1' : IntKind.i64.wrap (a2.toNat : Int) = (a2.toNat : Int) := IntWalk.i64_in _ ⟨by omega, by omega⟩
  have hw2 : IntKind.i64.wrap (256 * (a2.toNat : Int)) = 256 * (a2.toNat : Int) := IntWalk.i64_in _ ⟨by omega, by omega⟩
  have hw3 : wrap64 (b3.toNat : Int) = (b3.toNat : Int) := IntWalk.wrap64_in _ ⟨by omega, by omega⟩
  have hw3' : IntKind.i64.wrap (b3.toNat : Int) = (b3.toNat : Int) := IntWalk.i64_in _ ⟨by omega, by omega⟩
  have hor : IntKind.i64.wrap (256 * (a2.toNat : Int) + (b3.toNat : Int)) = (N : Int) := by rw [IntWalk.i64_in _ ⟨by omega, by omega⟩]; omega
  have hNb : N < 65536 := by omega
  have hp2 : s.take 2 = [76, 82] := pre_take.1 hp
  rw [hN] at hn
  have hv : openV s = (Rc.zero, 0, 0, 12) := by unfold openV; rw [hN]; rw [if_neg h, if_pos (.inr (.inr hn))]
  rw [hv]
  generalize s.take 2 = P2 at *
  have hpb : (P2 == [76, 82]) = true := by rw [beq_iff_eq]; exact hp2
  have hpb2 : (P2 != [76, 82]) = false := by rw [hp2]; rfl
  have h4 : decide ((N : Int) < 1) = false := decide_eq_false (by omega)
  have h5 : decide (40 < (N : Int)) = true := decide_eq_true (by omega)
  clear hN hN2 l2 l3 hv hp hp2 hn
  go_enter Try.func21, Try.ntmps21
  go_wp2
  go_quiet (fail)
  have KA := Lib.hid ((Keeps.refl [] (w.alloc (.cells #[.int .i64 0, .int .i64 0, .int .i64 0, .slice none 0 0, .string (str []), .string (str [])] 29))).drewN nq)
  have HR := Lib.hid (Zc.out _ KA.out)
  obtain ⟨⟨q0, q1, q2, q3, q4, q5⟩, f0, f1, f2, f3, f4, f5⟩ := cells6 HR.out
  go_wp2
  refine bodyPost_ret (results_row_tmp4 rfl rfl (heap_set6 (Zc.out _ ((Keeps.refl [] _).drewN nq)) _ _ _ _ _ _) Try.underlying29 rfl (by kernel_rfl)) rfl ⟨.slice none 0 0, [], rfl, zero_good _, by simp, keeps_set6 (K0.out.drewN nq) (Nat.le_refl _) _ _ _ _ _ _⟩
set_option maxHeartbeats 4000000 in
theorem ropen_cut (s : List UInt8) (w : World) (hs : s.length ≤ 100000) (h : ¬ s.length < 64) (hp : [76, 82].isPrefixOf s = true) (hn1 : 1 ≤ nOf s) (hn2 : nOf s ≤ 40) (hl : s.length < nOf s * 64) :
    Calls Try.prog 21 #[.string (str s)] w (OpenQ w (openV s)) := by
  have hz := str_empty
  have hmag : ByteArray.mk #[76, 82] = str [76, 82] := rfl
  have K0 := Lib.hid ((Keeps.refl [] w).alloc zq)
  have Zc : Hid (∀ w', Keeps [] (w.alloc zq) w' → w'.heap[w.heap.size]? = some zq) := fun w' k => k.some (heap_alloc_self w zq) (by simp)
  unfold zq at *
  have h1 : decide ((s.length : Int) < 64) = false := decide_eq_false (by omega)
  have hl2 : (2 : Int) < (s.length : Int) := by omega
  have hl3 : (3 : Int) < (s.length : Int) := by omega
  have hl4 : (2 : Int) ≤ (s.length : Int) := by omega
  have hl5 : decide (2 ≤ s.length) = true := decide_eq_true (by omega)
  have ga : (str s)[2]'(by simp; omega) = s.getD 2 0 := str_at s 2 _
  have gb : (str s)[3]'(by simp; omega) = s.getD 3 0 := str_at s 3 _
  have hcut2 : (str s).extract 0 2 = str (s.take 2) := by rw [str_extract, str_data]; simp
  obtain ⟨N, hN⟩ : ∃ N, nOf s = N := ⟨_, rfl⟩
  have hN2 : (s.getD 2 0).toNat * 256 + (s.getD 3 0).toNat = N := hN
  have l2 := (s.getD 2 0).toNat_lt
  have l3 := (s.getD 3 0).toNat_lt
  generalize s.getD 2 0 = a2 at *
  generalize s.getD 3 0 = b3 at *
  have hw1 : wrap64 (a2.toNat : Int) = (a2.toNat : Int) := IntWalk.wrap64_in _ ⟨by omega, by omega⟩
  have hw1' : IntKind.i64.wrap (a2.toNat : Int) = (a2.toNat : Int) := IntWalk.i64_in _ ⟨by omega, by omega⟩
  have hw2 : IntKind.i64.wrap (256 * (a2.toNat : Int)) = 256 * (a2.toNat : Int) := IntWalk.i64_in _ ⟨by omega, by omega⟩
  have hw3 : wrap64 (b3.toNat : Int) = (b3.toNat : Int) := IntWalk.wrap64_in _ ⟨by omega, by omega⟩
  have hw3' : IntKind.i64.wrap (b3.toNat : Int) = (b3.toNat : Int) := IntWalk.i64_in _ ⟨by omega, by omega⟩
  have hor : IntKind.i64.wrap (256 * (a2.toNat : Int) + (b3.toNat : Int)) = (N : Int) := by rw [IntWalk.i64_in _ ⟨by omega, by omega⟩]; omega
  have hNb : N < 65536 := by omega
  have hp2 : s.take 2 = [76, 82] := pre_take.1 hp
  rw [hN] at hn1 hn2 hl
  have hv : openV s = (Rc.zero, 0, 0, 10) := by unfold openV; rw [hN]; rw [if_neg h, if_neg (show ¬ ([76, 82].isPrefixOf s = false ∨ N < 1 ∨ 40 < N) from fun h => h.elim (fun h => by rw [hp] at h; cases h) (fun h => by omega)), if_pos hl]
  rw [hv]
  generalize s.take 2 = P2 at *
  have hpb : (P2 == [76, 82]) = true := by rw [beq_iff_eq]; exact hp2
  have hpb2 : (P2 != [76, 82]) = false := by rw [hp2]; rfl
  have h4 : decide ((N : Int) < 1) = false := decide_eq_false (by omega)
  have h5 : decide (40 < (N : Int)) = false := decide_eq_false (by omega)
  obtain ⟨M, hM⟩ : ∃ M, N * 64 = M := ⟨_, rfl⟩
  have hwN : IntKind.i64.wrap (64 * (N : Int)) = (M : Int) := by rw [IntWalk.i64_in _ ⟨by omega, by omega⟩]; omega
  have h6 : decide (s.length < M) = true := decide_eq_true (by omega)
  have h7 : decide ((s.length : Int) < (M : Int)) = true := decide_eq_true (by omega)
  clear hN hN2 l2 l3 hv hp hp2 hl hM
  go_enter Try.func21, Try.ntmps21
  go_wp2
  go_quiet (fail)
  have KA := Lib.hid ((Keeps.refl [] (w.alloc (.cells #[.int .i64 0, .int .i64 0, .int .i64 0, .slice none 0 0, .string (str []), .string (str [])] 29))).drewN nq)
  have HR := Lib.hid (Zc.out _ KA.out)
  obtain ⟨⟨q0, q1, q2, q3, q4, q5⟩, f0, f1, f2, f3, f4, f5⟩ := cells6 HR.out
  go_wp2
  refine bodyPost_ret (results_row_tmp4 rfl rfl (heap_set6 (Zc.out _ ((Keeps.refl [] _).drewN nq)) _ _ _ _ _ _) Try.underlying29 rfl (by kernel_rfl)) rfl ⟨.slice none 0 0, [], rfl, zero_good _, by simp, keeps_set6 (K0.out.drewN nq) (Nat.le_refl _) _ _ _ _ _ _⟩
set_option maxHeartbeats 4000000 in
theorem ropen_crc (s : List UInt8) (w : World) (hs : s.length ≤ 100000) (h : ¬ s.length < 64) (hp : [76, 82].isPrefixOf s = true) (hn1 : 1 ≤ nOf s) (hn2 : nOf s ≤ 40) (hl : nOf s * 64 ≤ s.length) (hc : (crcOpen (s.take (nOf s * 64))).2 ≠ 0) :
    Calls Try.prog 21 #[.string (str s)] w (OpenQ w (openV s)) := by
  have hz := str_empty
  have hmag : ByteArray.mk #[76, 82] = str [76, 82] := rfl
  have K0 := Lib.hid ((Keeps.refl [] w).alloc zq)
  have Zc : Hid (∀ w', Keeps [] (w.alloc zq) w' → w'.heap[w.heap.size]? = some zq) := fun w' k => k.some (heap_alloc_self w zq) (by simp)
  unfold zq at *
  have h1 : decide ((s.length : Int) < 64) = false := decide_eq_false (by omega)
  have hl2 : (2 : Int) < (s.length : Int) := by omega
  have hl3 : (3 : Int) < (s.length : Int) := by omega
  have hl4 : (2 : Int) ≤ (s.length : Int) := by omega
  have hl5 : decide (2 ≤ s.length) = true := decide_eq_true (by omega)
  have ga : (str s)[2]'(by simp; omega) = s.getD 2 0 := str_at s 2 _
  have gb : (str s)[3]'(by simp; omega) = s.getD 3 0 := str_at s 3 _
  have hcut2 : (str s).extract 0 2 = str (s.take 2) := by rw [str_extract, str_data]; simp
  obtain ⟨N, hN⟩ : ∃ N, nOf s = N := ⟨_, rfl⟩
  have hN2 : (s.getD 2 0).toNat * 256 + (s.getD 3 0).toNat = N := hN
  have l2 := (s.getD 2 0).toNat_lt
  have l3 := (s.getD 3 0).toNat_lt
  generalize s.getD 2 0 = a2 at *
  generalize s.getD 3 0 = b3 at *
  have hw1 : wrap64 (a2.toNat : Int) = (a2.toNat : Int) := IntWalk.wrap64_in _ ⟨by omega, by omega⟩
  have hw1' : IntKind.i64.wrap (a2.toNat : Int) = (a2.toNat : Int) := IntWalk.i64_in _ ⟨by omega, by omega⟩
  have hw2 : IntKind.i64.wrap (256 * (a2.toNat : Int)) = 256 * (a2.toNat : Int) := IntWalk.i64_in _ ⟨by omega, by omega⟩
  have hw3 : wrap64 (b3.toNat : Int) = (b3.toNat : Int) := IntWalk.wrap64_in _ ⟨by omega, by omega⟩
  have hw3' : IntKind.i64.wrap (b3.toNat : Int) = (b3.toNat : Int) := IntWalk.i64_in _ ⟨by omega, by omega⟩
  have hor : IntKind.i64.wrap (256 * (a2.toNat : Int) + (b3.toNat : Int)) = (N : Int) := by rw [IntWalk.i64_in _ ⟨by omega, by omega⟩]; omega
  have hNb : N < 65536 := by omega
  have hp2 : s.take 2 = [76, 82] := pre_take.1 hp
  rw [hN] at hn1 hn2 hl hc
  have hcl : 4 ≤ (s.take (N * 64)).length := by rw [List.length_take]; omega
  have hv : openV s = (Rc.zero, 0, 0, 13) := by
    have h13 : (crcOpen (s.take (N * 64))).2 = 13 := (crc_q hcl).2 (fun hh => hc ((crc_q hcl).1 hh))
    unfold openV; rw [hN]; rw [if_neg h, if_neg (show ¬ ([76, 82].isPrefixOf s = false ∨ N < 1 ∨ 40 < N) from fun h => h.elim (fun h => by rw [hp] at h; cases h) (fun h => by omega)), if_neg (show ¬ s.length < N * 64 by omega), if_pos hc, h13]
  rw [hv]
  generalize s.take 2 = P2 at *
  have hpb : (P2 == [76, 82]) = true := by rw [beq_iff_eq]; exact hp2
  have hpb2 : (P2 != [76, 82]) = false := by rw [hp2]; rfl
  have h4 : decide ((N : Int) < 1) = false := decide_eq_false (by omega)
  have h5 : decide (40 < (N : Int)) = false := decide_eq_false (by omega)
  obtain ⟨M, hM⟩ : ∃ M, N * 64 = M := ⟨_, rfl⟩
  have hwN : IntKind.i64.wrap (64 * (N : Int)) = (M : Int) := by rw [IntWalk.i64_in _ ⟨by omega, by omega⟩]; omega
  have h6 : decide (s.length < M) = false := decide_eq_false (by omega)
  have h7 : decide ((s.length : Int) < (M : Int)) = false := decide_eq_false (by omega)
  have h8 : (M : Int) ≤ (s.length : Int) := by omega
  have h9 : decide (M ≤ s.length) = true := decide_eq_true (by omega)
  have hcut : (str s).extract 0 M = str (s.take M) := by rw [str_extract, str_data]; simp
  have lH : (s.take M).length = M := by rw [List.length_take]; omega
  rw [hM] at hc 
  generalize s.take M = H at *
  obtain ⟨M4, hM4⟩ : ∃ M4, M - 4 = M4 := ⟨_, rfl⟩
  have hwM : IntKind.i64.wrap ((M : Int) - 4) = (M4 : Int) := by rw [IntWalk.i64_in _ ⟨by omega, by omega⟩]; omega
  have cutA : (str H).extract 0 M4 = str (H.take M4) := by rw [str_extract, str_data]; simp
  have cutB : (str H).extract M4 M = str (H.drop M4) := by rw [str_extract, str_data, List.take_of_length_le (by rw [List.length_drop]; omega)]
  have k1 : (M4 : Int) ≤ (M : Int) := by omega
  have k2 : decide (M4 ≤ M) = true := decide_eq_true (by omega)
  have hcq := crc_q (H := H) (by omega)
  rw [lH, hM4] at hcq
  have Mo := Lib.hid (fun w => refMore_any 0 (H.take M4) w (by omega) (by rw [List.length_take]; omega))
  have hX := crcMore_lt 0 (H.take M4)
  have Fo := Lib.hid (fun w => refFour_any (crcMore 0 (H.take M4)) w hX)
  generalize crcMore 0 (H.take M4) = X at *
  generalize four X = FF at *
  generalize H.take M4 = TT at *
  generalize H.drop M4 = DD at *
  rw [Int.natCast_zero] at Mo
  have b1 : (FF == DD) = false := by rw [beq_eq_false_iff_ne]; exact fun hh => hc (hcq.1 hh)
  have b2 : (FF != DD) = true := by rw [bne_iff_ne]; exact fun hh => hc (hcq.1 hh)
  clear hN hN2 l2 l3 hv hp hp2 hl hM hM4 hcq hX hc hcl
  go_enter Try.func21, Try.ntmps21
  have KQ : Keeps [] (w.alloc (.cells #[.int .i64 0, .int .i64 0, .int .i64 0, .slice none 0 0, .string (str []), .string (str [])] 29)) (w.alloc (.cells #[.int .i64 0, .int .i64 0, .int .i64 0, .slice none 0 0, .string (str []), .string (str [])] 29)) := Keeps.refl [] _
  go_wp2
  go_quiet (fail)
  have KQ1 := KQ.drewN nq
  have KQ2 := KQ1.drewN 1
  have KQ3 := KQ1.drew
  go_wp2
  go_region_held3 (fun _ => True) (trivial)
    (first
      | (go_at_call 32; (with_reducible refine (Mo.out _).mono ?_); rintro e w1 ⟨rfl, rfl⟩)
      | (go_at_call 33; (with_reducible refine (Fo.out _).mono ?_); rintro e w2 ⟨rfl, k2'⟩; have KA := Lib.hid (KT (by first | with_reducible assumption | exact KQ1 | exact KQ2 | exact KQ3 | exact KQ) k2'); clear k2' KQ KQ1 KQ2 KQ3; have HR := Lib.hid (Zc.out _ KA.out); obtain ⟨⟨q0, q1, q2, q3, q4, q5⟩, f0, f1, f2, f3, f4, f5⟩ := cells6 HR.out))
  go_wp2
  refine bodyPost_ret (results_row_tmp4 rfl rfl (heap_set6 HR.out _ _ _ _ _ _) Try.underlying29 rfl (by kernel_rfl)) rfl ⟨.slice none 0 0, [], rfl, zero_good _, by simp, keeps_set6 (KT K0.out KA.out) (Nat.le_refl _) _ _ _ _ _ _⟩
end Go.Proofs.Ytjebldfmkpfafaa
