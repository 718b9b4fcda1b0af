/- Layer 10: open. -/
import Derived.Test.YtjebldfmkpfafaaRecT
import Derived.Test.YtjebldfmkpfafaaCrcC
namespace Go.Proofs.Ytjebldfmkpfafaa
open Go.RowKit
set_option maxRecDepth 100000

section
variable {P : Program} {fn : Func} {p u u2 u3 : Tmp} {ty : TypeId} {tmps : Array Value} {w : World} {g : Nat} {t : TypeId} {cs : Array Value} {fr : Nat × Nat} {d : TypeDesc}
theorem results_row_tmp3 (h : fn.results = #[.cell p ty, .tmp u, .tmp u2, .tmp u3]) (hp : tmps.getD p undef = .pointer (some ⟨g, 0, none⟩)) (hg : w.heap[g]? = some (.cells cs t fr))
    (hu : P.underlying ty = some d) (hd : (match d with | .struct _ | .array _ _ => true | _ => false) = true) (hi : (P.info? ty).map (·.size) = some cs.size) :
    (results fn tmps).run P w = .ok (.tuple #[.agg cs, tmps.getD u undef, tmps.getD u2 undef, tmps.getD u3 undef]) w := by
  have hp' : tmps[p]?.getD undef = .pointer (some ⟨g, 0, none⟩) := by simpa using hp
  simp [results, h, hp', asAddr, run_loadVar_row w g t ty cs fr d hg hu hd hi]
end
theorem pre_any (s t : List UInt8) (w : World) : Calls Try.prog 62 #[.string (str s), .string (str t)] w fun e w' => e = .returned (.bool (t.isPrefixOf s)) ∧ w' = w := by
  have h := Try.strings_HasPrefix (str s) (str t) w
  rw [str_data, str_data] at h
  exact h

theorem i64_or_nat (a b : Nat) (ha : a < 9223372036854775808) (hb : b < 9223372036854775808) : bits .or .i64 (a : Int) (b : Int) = ((a ||| b : Nat) : Int) := by
  have h1 : (BitVec.ofInt 64 (a : Int)).toNat = a := by rw [BitVec.toNat_ofInt]; omega
  have h2 : (BitVec.ofInt 64 (b : Int)).toNat = b := by rw [BitVec.toNat_ofInt]; omega
  have h3 : a ||| b < 2 ^ 63 := Nat.or_lt_two_pow ha hb
  show IntKind.i64.wrap ((BitVec.ofInt 64 (a : Int) ||| BitVec.ofInt 64 (b : Int)).toNat : Nat) = _
  rw [BitVec.toNat_or, h1, h2, IntKind.wrap_i64]
  omega

theorem or_i64 (X c : Nat) (hX : X < 36028797018963968) (hc : c < 256) : bits .or .i64 ((X : Int) * 256) (c : Int) = ((X * 256 + c : Nat) : Int) := by
  have h := i64_or_nat (X * 256) c (by omega) (by omega)
  have e : ((X * 256 : Nat) : Int) = (X : Int) * 256 := by omega
  rw [e] at h
  refine h.trans ?_
  congr 1
  rw [show (256 : Nat) = 2 ^ 8 from rfl, ← Nat.shiftLeft_eq, ← Nat.shiftLeft_add_eq_or_of_lt (by omega), Nat.shiftLeft_eq]
theorem str_at (s : List UInt8) (k : Nat) (h : k < (str s).size) : (str s)[k]'h = s.getD k 0 := by
  have h2 : k < s.length := by simpa using h
  rw [List.getD_eq_getElem?_getD, List.getElem?_eq_getElem h2]
  rfl

/-- How many sectors a head says that it has. -/
def nOf (s : List UInt8) : Nat := (s.getD 2 0).toNat * 256 + (s.getD 3 0).toNat
def openV (s : List UInt8) : Rc × Nat × Nat × Int :=
  if s.length < 64 then (Rc.zero, 0, 0, 10)
  else if [76, 82].isPrefixOf s = false ∨ nOf s < 1 ∨ 40 < nOf s then (Rc.zero, 0, 0, 12)
  else if s.length < nOf s * 64 then (Rc.zero, 0, 0, 10)
  else if (crcOpen (s.take (nOf s * 64))).2 ≠ 0 then (Rc.zero, 0, 0, (crcOpen (s.take (nOf s * 64))).2)
  else if (toldV (s.take (nOf s * 64))).2.2 ≠ 0 then (Rc.zero, 0, 0, (toldV (s.take (nOf s * 64))).2.2)
  else ((toldV (s.take (nOf s * 64))).1, nOf s, (toldV (s.take (nOf s * 64))).2.1, 0)
def OpenPost (w : World) (R : Rc × Nat × Nat × Int) (e : Ending) (w' : World) : Prop :=
  ∃ sv G, e = .returned (.tuple #[R.1.val sv, .int .i64 R.2.1, .int .u32 R.2.2.1, .int .i64 R.2.2.2]) ∧ R.1.good w' sv G ∧ (∀ x, x ∈ G → w.heap.size ≤ x ∧ x < w'.heap.size) ∧ Keeps [] w w'

set_option maxHeartbeats 4000000 in
theorem open_short (s : List UInt8) (w : World) (hs : s.length ≤ 100000) (h : s.length < 64) :
    Calls Try.prog 34 #[.string (str s)] w (OpenPost w (openV s)) := by
  have hz := str_empty
  have hmag : ByteArray.mk #[76, 82] = str [76, 82] := rfl
  have K0 := Lib.hid ((Keeps.refl [] w).alloc zbox)
  have Zc : Hid (∀ w', Keeps [] (w.alloc zbox) w' → w'.heap[w.heap.size]? = some zbox) := fun w' k => zcells k
  unfold zbox at *
  have hv : openV s = (Rc.zero, 0, 0, 10) := by unfold openV; rw [if_pos h]
  rw [hv]
  have h1 : decide ((s.length : Int) < 64) = true := decide_eq_true (by omega)
  clear hv h
  go_enter Try.func34, Try.ntmps34
  go_wp2
  refine bodyPost_ret (results_row_tmp3 rfl rfl (heap_at rfl) Try.underlying24 rfl (by kernel_rfl)) rfl ⟨.slice none 0 0, [], rfl, zero_good _, by simp, K0.out⟩
set_option maxHeartbeats 4000000 in
theorem open_np (s : List UInt8) (w : World) (hs : s.length ≤ 100000) (h : ¬ s.length < 64) (hp : [76, 82].isPrefixOf s = false) :
    Calls Try.prog 34 #[.string (str s)] w (OpenPost w (openV s)) := by
  have hz := str_empty
  have hmag : ByteArray.mk #[76, 82] = str [76, 82] := rfl
  have K0 := Lib.hid ((Keeps.refl [] w).alloc zbox)
  have Zc : Hid (∀ w', Keeps [] (w.alloc zbox) w' → w'.heap[w.heap.size]? = some zbox) := fun w' k => zcells k
  unfold zbox at *
  have h1 : decide ((s.length : Int) < 64) = false := decide_eq_false (by omega)
  have Pr := Lib.hid (fun w => pre_any s [76, 82] w)
  have hl2 : (2 : Int) < (s.length : Int) := by omega
  have hl3 : (3 : Int) < (s.length : Int) := by omega
  have ga : (str s)[2]'(by simp; omega) = s.getD 2 0 := str_at s 2 _
  have gb : (str s)[3]'(by simp; omega) = s.getD 3 0 := str_at s 3 _
  obtain ⟨N, hN⟩ : ∃ N, nOf s = N := ⟨_, rfl⟩
  have hN2 : (s.getD 2 0).toNat * 256 + (s.getD 3 0).toNat = N := hN
  have l2 := (s.getD 2 0).toNat_lt
  have l3 := (s.getD 3 0).toNat_lt
  generalize s.getD 2 0 = a2 at *
  generalize s.getD 3 0 = b3 at *
  have hw1 : wrap64 (a2.toNat : Int) = (a2.toNat : Int) := IntWalk.wrap64_in _ ⟨by omega, by omega⟩
  have hw2 : wrap64 ((a2.toNat : Int) * 256) = (a2.toNat : Int) * 256 := IntWalk.wrap64_in _ ⟨by omega, by omega⟩
  have hw3 : wrap64 (b3.toNat : Int) = (b3.toNat : Int) := IntWalk.wrap64_in _ ⟨by omega, by omega⟩
  have hor : bits BinOp.or IntKind.i64 ((a2.toNat : Int) * 256) (b3.toNat : Int) = (N : Int) := by rw [or_i64 _ _ (by omega) (by omega), hN2]
  have hNb : N < 65536 := by omega
  have hv : openV s = (Rc.zero, 0, 0, 12) := by unfold openV; rw [hN]; rw [if_neg h, if_pos (.inl hp)]
  rw [hv]
  rw [hp] at Pr
  clear hN hN2 l2 l3 hv hp
  go_enter Try.func34, Try.ntmps34
  go_wp2
  go_quiet (fail)
  go_wp2_with (first
    | (go_at_call 62; (with_reducible refine (Pr.out _).mono ?_); rintro e w1 ⟨rfl, hw⟩; have KA : Hid (Keeps [] (w.alloc (.cells #[.int .i64 0, .int .i64 0, .int .i64 0, .slice none 0 0, .string (str []), .string (str [])] 24)) w1) := (by rw [hw]; exact (Keeps.refl [] _).drewN _); clear hw; have HR := Lib.hid (Zc.out _ KA.out); obtain ⟨⟨q0, q1, q2, q3, q4, q5⟩, f0, f1, f2, f3, f4, f5⟩ := cells6 HR.out))
  refine bodyPost_ret (results_row_tmp3 rfl rfl (heap_set6 HR.out _ _ _ _ _ _) Try.underlying24 rfl (by kernel_rfl)) rfl ⟨.slice none 0 0, [], rfl, zero_good _, by simp, keeps_set6 (K0.out.trans KA.out (by simp)) (Nat.le_refl _) _ _ _ _ _ _⟩
set_option maxHeartbeats 4000000 in
theorem open_small (s : List UInt8) (w : World) (hs : s.length ≤ 100000) (h : ¬ s.length < 64) (hp : [76, 82].isPrefixOf s = true) (hn : nOf s < 1) :
    Calls Try.prog 34 #[.string (str s)] w (OpenPost w (openV s)) := by
  have hz := str_empty
  have hmag : ByteArray.mk #[76, 82] = str [76, 82] := rfl
  have K0 := Lib.hid ((Keeps.refl [] w).alloc zbox)
  have Zc : Hid (∀ w', Keeps [] (w.alloc zbox) w' → w'.heap[w.heap.size]? = some zbox) := fun w' k => zcells k
  unfold zbox at *
  have h1 : decide ((s.length : Int) < 64) = false := decide_eq_false (by omega)
  have Pr := Lib.hid (fun w => pre_any s [76, 82] w)
  have hl2 : (2 : Int) < (s.length : Int) := by omega
  have hl3 : (3 : Int) < (s.length : Int) := by omega
  have ga : (str s)[2]'(by simp; omega) = s.getD 2 0 := str_at s 2 _
  have gb : (str s)[3]'(by simp; omega) = s.getD 3 0 := str_at s 3 _
  obtain ⟨N, hN⟩ : ∃ N, nOf s = N := ⟨_, rfl⟩
  have hN2 : (s.getD 2 0).toNat * 256 + (s.getD 3 0).toNat = N := hN
  have l2 := (s.getD 2 0).toNat_lt
  have l3 := (s.getD 3 0).toNat_lt
  generalize s.getD 2 0 = a2 at *
  generalize s.getD 3 0 = b3 at *
  have hw1 : wrap64 (a2.toNat : Int) = (a2.toNat : Int) := IntWalk.wrap64_in _ ⟨by omega, by omega⟩
  have hw2 : wrap64 ((a2.toNat : Int) * 256) = (a2.toNat : Int) * 256 := IntWalk.wrap64_in _ ⟨by omega, by omega⟩
  have hw3 : wrap64 (b3.toNat : Int) = (b3.toNat : Int) := IntWalk.wrap64_in _ ⟨by omega, by omega⟩
  have hor : bits BinOp.or IntKind.i64 ((a2.toNat : Int) * 256) (b3.toNat : Int) = (N : Int) := by rw [or_i64 _ _ (by omega) (by omega), hN2]
  have hNb : N < 65536 := by omega
  rw [hN] at hn
  have hv : openV s = (Rc.zero, 0, 0, 12) := by unfold openV; rw [hN]; rw [if_neg h, if_pos (.inr (.inl hn))]
  rw [hv]
  rw [hp] at Pr
  have h4 : decide ((N : Int) < 1) = true := decide_eq_true (by omega)
  clear hN hN2 l2 l3 hv hp
  go_enter Try.func34, Try.ntmps34
  go_wp2
  go_quiet (fail)
  go_wp2_with (first
    | (go_at_call 62; (with_reducible refine (Pr.out _).mono ?_); rintro e w1 ⟨rfl, hw⟩; have KA : Hid (Keeps [] (w.alloc (.cells #[.int .i64 0, .int .i64 0, .int .i64 0, .slice none 0 0, .string (str []), .string (str [])] 24)) w1) := (by rw [hw]; exact (Keeps.refl [] _).drewN _); clear hw; have HR := Lib.hid (Zc.out _ KA.out); obtain ⟨⟨q0, q1, q2, q3, q4, q5⟩, f0, f1, f2, f3, f4, f5⟩ := cells6 HR.out))
  refine bodyPost_ret (results_row_tmp3 rfl rfl (heap_set6 HR.out _ _ _ _ _ _) Try.underlying24 rfl (by kernel_rfl)) rfl ⟨.slice none 0 0, [], rfl, zero_good _, by simp, keeps_set6 (K0.out.trans KA.out (by simp)) (Nat.le_refl _) _ _ _ _ _ _⟩
set_option maxHeartbeats 4000000 in
theorem open_big (s : List UInt8) (w : World) (hs : s.length ≤ 100000) (h : ¬ s.length < 64) (hp : [76, 82].isPrefixOf s = true) (hn : 40 < nOf s) :
    Calls Try.prog 34 #[.string (str s)] w (OpenPost w (openV s)) := by
  have hz := str_empty
  have hmag : ByteArray.mk #[76, 82] = str [76, 82] := rfl
  have K0 := Lib.hid ((Keeps.refl [] w).alloc zbox)
  have Zc : Hid (∀ w', Keeps [] (w.alloc zbox) w' → w'.heap[w.heap.size]? = some zbox) := fun w' k => zcells k
  unfold zbox at *
  have h1 : decide ((s.length : Int) < 64) = false := decide_eq_false (by omega)
  have Pr := Lib.hid (fun w => pre_any s [76, 82] w)
  have hl2 : (2 : Int) < (s.length : Int) := by omega
  have hl3 : (3 : Int) < (s.length : Int) := by omega
  have ga : (str s)[2]'(by simp; omega) = s.getD 2 0 := str_at s 2 _
  have gb : (str s)[3]'(by simp; omega) = s.getD 3 0 := str_at s 3 _
  obtain ⟨N, hN⟩ : ∃ N, nOf s = N := ⟨_, rfl⟩
  have hN2 : (s.getD 2 0).toNat * 256 + (s.getD 3 0).toNat = N := hN
  have l2 := (s.getD 2 0).toNat_lt
  have l3 := (s.getD 3 0).toNat_lt
  generalize s.getD 2 0 = a2 at *
  generalize s.getD 3 0 = b3 at *
  have hw1 : wrap64 (a2.toNat : Int) = (a2.toNat : Int) := IntWalk.wrap64_in _ ⟨by omega, by omega⟩
  have hw2 : wrap64 ((a2.toNat : Int) * 256) = (a2.toNat : Int) * 256 := IntWalk.wrap64_in _ ⟨by omega, by omega⟩
  have hw3 : wrap64 (b3.toNat : Int) = (b3.toNat : Int) := IntWalk.wrap64_in _ ⟨by omega, by omega⟩
  have hor : bits BinOp.or IntKind.i64 ((a2.toNat : Int) * 256) (b3.toNat : Int) = (N : Int) := by rw [or_i64 _ _ (by omega) (by omega), hN2]
  have hNb : N < 65536 := by omega
  rw [hN] at hn
  have hv : openV s = (Rc.zero, 0, 0, 12) := by unfold openV; rw [hN]; rw [if_neg h, if_pos (.inr (.inr hn))]
  rw [hv]
  rw [hp] at Pr
  have h4 : decide ((N : Int) < 1) = false := decide_eq_false (by omega)
  have h5 : decide (40 < (N : Int)) = true := decide_eq_true (by omega)
  clear hN hN2 l2 l3 hv hp
  go_enter Try.func34, Try.ntmps34
  go_wp2
  go_quiet (fail)
  go_wp2_with (first
    | (go_at_call 62; (with_reducible refine (Pr.out _).mono ?_); rintro e w1 ⟨rfl, hw⟩; have KA : Hid (Keeps [] (w.alloc (.cells #[.int .i64 0, .int .i64 0, .int .i64 0, .slice none 0 0, .string (str []), .string (str [])] 24)) w1) := (by rw [hw]; exact (Keeps.refl [] _).drewN _); clear hw; have HR := Lib.hid (Zc.out _ KA.out); obtain ⟨⟨q0, q1, q2, q3, q4, q5⟩, f0, f1, f2, f3, f4, f5⟩ := cells6 HR.out))
  refine bodyPost_ret (results_row_tmp3 rfl rfl (heap_set6 HR.out _ _ _ _ _ _) Try.underlying24 rfl (by kernel_rfl)) rfl ⟨.slice none 0 0, [], rfl, zero_good _, by simp, keeps_set6 (K0.out.trans KA.out (by simp)) (Nat.le_refl _) _ _ _ _ _ _⟩
set_option maxHeartbeats 4000000 in
theorem open_cut (s : List UInt8) (w : World) (hs : s.length ≤ 100000) (h : ¬ s.length < 64) (hp : [76, 82].isPrefixOf s = true) (hn1 : 1 ≤ nOf s) (hn2 : nOf s ≤ 40) (hl : s.length < nOf s * 64) :
    Calls Try.prog 34 #[.string (str s)] w (OpenPost w (openV s)) := by
  have hz := str_empty
  have hmag : ByteArray.mk #[76, 82] = str [76, 82] := rfl
  have K0 := Lib.hid ((Keeps.refl [] w).alloc zbox)
  have Zc : Hid (∀ w', Keeps [] (w.alloc zbox) w' → w'.heap[w.heap.size]? = some zbox) := fun w' k => zcells k
  unfold zbox at *
  have h1 : decide ((s.length : Int) < 64) = false := decide_eq_false (by omega)
  have Pr := Lib.hid (fun w => pre_any s [76, 82] w)
  have hl2 : (2 : Int) < (s.length : Int) := by omega
  have hl3 : (3 : Int) < (s.length : Int) := by omega
  have ga : (str s)[2]'(by simp; omega) = s.getD 2 0 := str_at s 2 _
  have gb : (str s)[3]'(by simp; omega) = s.getD 3 0 := str_at s 3 _
  obtain ⟨N, hN⟩ : ∃ N, nOf s = N := ⟨_, rfl⟩
  have hN2 : (s.getD 2 0).toNat * 256 + (s.getD 3 0).toNat = N := hN
  have l2 := (s.getD 2 0).toNat_lt
  have l3 := (s.getD 3 0).toNat_lt
  generalize s.getD 2 0 = a2 at *
  generalize s.getD 3 0 = b3 at *
  have hw1 : wrap64 (a2.toNat : Int) = (a2.toNat : Int) := IntWalk.wrap64_in _ ⟨by omega, by omega⟩
  have hw2 : wrap64 ((a2.toNat : Int) * 256) = (a2.toNat : Int) * 256 := IntWalk.wrap64_in _ ⟨by omega, by omega⟩
  have hw3 : wrap64 (b3.toNat : Int) = (b3.toNat : Int) := IntWalk.wrap64_in _ ⟨by omega, by omega⟩
  have hor : bits BinOp.or IntKind.i64 ((a2.toNat : Int) * 256) (b3.toNat : Int) = (N : Int) := by rw [or_i64 _ _ (by omega) (by omega), hN2]
  have hNb : N < 65536 := by omega
  rw [hN] at hn1 hn2
  rw [hN] at hl
  have hv : openV s = (Rc.zero, 0, 0, 10) := by unfold openV; rw [hN]; rw [if_neg h, if_neg (show ¬ ([76, 82].isPrefixOf s = false ∨ N < 1 ∨ 40 < N) from fun h => h.elim (fun h => by rw [hp] at h; cases h) (fun h => by omega)), if_pos hl]
  rw [hv]
  rw [hp] at Pr
  have h4 : decide ((N : Int) < 1) = false := decide_eq_false (by omega)
  have h5 : decide (40 < (N : Int)) = false := decide_eq_false (by omega)
  obtain ⟨M, hM⟩ : ∃ M, N * 64 = M := ⟨_, rfl⟩
  have hwN : IntKind.i64.wrap ((N : Int) * 64) = (M : Int) := by rw [IntWalk.i64_in _ ⟨by omega, by omega⟩]; omega
  have h6 : decide (s.length < M) = true := decide_eq_true (by omega)
  clear hl
  clear hN hN2 l2 l3 hv hp
  go_enter Try.func34, Try.ntmps34
  go_wp2
  go_quiet (fail)
  go_wp2_with (first
    | (go_at_call 62; (with_reducible refine (Pr.out _).mono ?_); rintro e w1 ⟨rfl, hw⟩; have KA : Hid (Keeps [] (w.alloc (.cells #[.int .i64 0, .int .i64 0, .int .i64 0, .slice none 0 0, .string (str []), .string (str [])] 24)) w1) := (by rw [hw]; exact (Keeps.refl [] _).drewN _); clear hw; have HR := Lib.hid (Zc.out _ KA.out); obtain ⟨⟨q0, q1, q2, q3, q4, q5⟩, f0, f1, f2, f3, f4, f5⟩ := cells6 HR.out))
  refine bodyPost_ret (results_row_tmp3 rfl rfl (heap_set6 HR.out _ _ _ _ _ _) Try.underlying24 rfl (by kernel_rfl)) rfl ⟨.slice none 0 0, [], rfl, zero_good _, by simp, keeps_set6 (K0.out.trans KA.out (by simp)) (Nat.le_refl _) _ _ _ _ _ _⟩
set_option maxHeartbeats 4000000 in
theorem open_crc (s : List UInt8) (w : World) (hs : s.length ≤ 100000) (h : ¬ s.length < 64) (hp : [76, 82].isPrefixOf s = true) (hn1 : 1 ≤ nOf s) (hn2 : nOf s ≤ 40) (hl : nOf s * 64 ≤ s.length) (hc : (crcOpen (s.take (nOf s * 64))).2 ≠ 0) :
    Calls Try.prog 34 #[.string (str s)] w (OpenPost w (openV s)) := by
  have hz := str_empty
  have hmag : ByteArray.mk #[76, 82] = str [76, 82] := rfl
  have K0 := Lib.hid ((Keeps.refl [] w).alloc zbox)
  have Zc : Hid (∀ w', Keeps [] (w.alloc zbox) w' → w'.heap[w.heap.size]? = some zbox) := fun w' k => zcells k
  unfold zbox at *
  have h1 : decide ((s.length : Int) < 64) = false := decide_eq_false (by omega)
  have Pr := Lib.hid (fun w => pre_any s [76, 82] w)
  have hl2 : (2 : Int) < (s.length : Int) := by omega
  have hl3 : (3 : Int) < (s.length : Int) := by omega
  have ga : (str s)[2]'(by simp; omega) = s.getD 2 0 := str_at s 2 _
  have gb : (str s)[3]'(by simp; omega) = s.getD 3 0 := str_at s 3 _
  obtain ⟨N, hN⟩ : ∃ N, nOf s = N := ⟨_, rfl⟩
  have hN2 : (s.getD 2 0).toNat * 256 + (s.getD 3 0).toNat = N := hN
  have l2 := (s.getD 2 0).toNat_lt
  have l3 := (s.getD 3 0).toNat_lt
  generalize s.getD 2 0 = a2 at *
  generalize s.getD 3 0 = b3 at *
  have hw1 : wrap64 (a2.toNat : Int) = (a2.toNat : Int) := IntWalk.wrap64_in _ ⟨by omega, by omega⟩
  have hw2 : wrap64 ((a2.toNat : Int) * 256) = (a2.toNat : Int) * 256 := IntWalk.wrap64_in _ ⟨by omega, by omega⟩
  have hw3 : wrap64 (b3.toNat : Int) = (b3.toNat : Int) := IntWalk.wrap64_in _ ⟨by omega, by omega⟩
  have hor : bits BinOp.or IntKind.i64 ((a2.toNat : Int) * 256) (b3.toNat : Int) = (N : Int) := by rw [or_i64 _ _ (by omega) (by omega), hN2]
  have hNb : N < 65536 := by omega
  rw [hN] at hn1 hn2
  rw [hN] at hl hc
  have hv : openV s = (Rc.zero, 0, 0, (crcOpen (s.take (N * 64))).2) := by unfold openV; rw [hN]; rw [if_neg h, if_neg (show ¬ ([76, 82].isPrefixOf s = false ∨ N < 1 ∨ 40 < N) from fun h => h.elim (fun h => by rw [hp] at h; cases h) (fun h => by omega)), if_neg (show ¬ s.length < N * 64 by omega), if_pos hc]
  rw [hv]
  rw [hp] at Pr
  have h4 : decide ((N : Int) < 1) = false := decide_eq_false (by omega)
  have h5 : decide (40 < (N : Int)) = false := decide_eq_false (by omega)
  obtain ⟨M, hM⟩ : ∃ M, N * 64 = M := ⟨_, rfl⟩
  have hwN : IntKind.i64.wrap ((N : Int) * 64) = (M : Int) := by rw [IntWalk.i64_in _ ⟨by omega, by omega⟩]; omega
  rw [hM] at hc hl ⊢
  have h6 : decide (s.length < M) = false := decide_eq_false (by omega)
  have hb6 : (M : Int) ≤ (s.length : Int) := by omega
  have hcut : (str s).extract 0 M = str (s.take M) := by rw [str_extract, str_data]; simp
  have lH : (s.take M).length = M := by rw [List.length_take]; omega
  have Cr := Lib.hid (fun w => open_any (s.take M) w (by omega))
  have To := Lib.hid (fun w => told_any (s.take M) w (by omega) (by omega))
  generalize s.take M = H at *
  generalize crcOpen H = CC at *
  obtain ⟨c1, c2⟩ := CC
  dsimp only at *
  have hcb : (c2 != 0) = true := bne_iff_ne.2 hc
  clear hl hc To hv
  clear hN hN2 l2 l3 hp
  go_enter Try.func34, Try.ntmps34
  go_wp2
  go_quiet (fail)
  go_wp2_with (first
    | (go_at_call 62; (with_reducible refine (Pr.out _).mono ?_); rintro e w1 ⟨rfl, hw⟩; have KA : Hid (Keeps [] (w.alloc (.cells #[.int .i64 0, .int .i64 0, .int .i64 0, .slice none 0 0, .string (str []), .string (str [])] 24)) w1) := (by rw [hw]; exact (Keeps.refl [] _).drewN _); clear hw; have HR := Lib.hid (Zc.out _ KA.out); obtain ⟨⟨q0, q1, q2, q3, q4, q5⟩, f0, f1, f2, f3, f4, f5⟩ := cells6 HR.out)
    | (go_at_call 63; (with_reducible refine (Cr.out _).mono ?_); rintro e w2 ⟨rfl, k2⟩; replace KA := Lib.hid (KA.out.trans k2 (by simp)); clear HR q0 q1 q2 q3 q4 q5 f0 f1 f2 f3 f4 f5 k2; have HR := Lib.hid (Zc.out _ KA.out); obtain ⟨⟨q0, q1, q2, q3, q4, q5⟩, f0, f1, f2, f3, f4, f5⟩ := cells6 HR.out))
  refine bodyPost_ret (results_row_tmp3 rfl rfl (heap_set6 HR.out _ _ _ _ _ _) Try.underlying24 rfl (by kernel_rfl)) rfl ⟨.slice none 0 0, [], rfl, zero_good _, by simp, keeps_set6 (K0.out.trans KA.out (by simp)) (Nat.le_refl _) _ _ _ _ _ _⟩
set_option maxHeartbeats 4000000 in
theorem open_told (s : List UInt8) (w : World) (hs : s.length ≤ 100000) (h : ¬ s.length < 64) (hp : [76, 82].isPrefixOf s = true) (hn1 : 1 ≤ nOf s) (hn2 : nOf s ≤ 40) (hl : nOf s * 64 ≤ s.length) (hc : (crcOpen (s.take (nOf s * 64))).2 = 0) (ht : (toldV (s.take (nOf s * 64))).2.2 ≠ 0) :
    Calls Try.prog 34 #[.string (str s)] w (OpenPost w (openV s)) := by
  have hz := str_empty
  have hmag : ByteArray.mk #[76, 82] = str [76, 82] := rfl
  have K0 := Lib.hid ((Keeps.refl [] w).alloc zbox)
  have Zc : Hid (∀ w', Keeps [] (w.alloc zbox) w' → w'.heap[w.heap.size]? = some zbox) := fun w' k => zcells k
  unfold zbox at *
  have h1 : decide ((s.length : Int) < 64) = false := decide_eq_false (by omega)
  have Pr := Lib.hid (fun w => pre_any s [76, 82] w)
  have hl2 : (2 : Int) < (s.length : Int) := by omega
  have hl3 : (3 : Int) < (s.length : Int) := by omega
  have ga : (str s)[2]'(by simp; omega) = s.getD 2 0 := str_at s 2 _
  have gb : (str s)[3]'(by simp; omega) = s.getD 3 0 := str_at s 3 _
  obtain ⟨N, hN⟩ : ∃ N, nOf s = N := ⟨_, rfl⟩
  have hN2 : (s.getD 2 0).toNat * 256 + (s.getD 3 0).toNat = N := hN
  have l2 := (s.getD 2 0).toNat_lt
  have l3 := (s.getD 3 0).toNat_lt
  generalize s.getD 2 0 = a2 at *
  generalize s.getD 3 0 = b3 at *
  have hw1 : wrap64 (a2.toNat : Int) = (a2.toNat : Int) := IntWalk.wrap64_in _ ⟨by omega, by omega⟩
  have hw2 : wrap64 ((a2.toNat : Int) * 256) = (a2.toNat : Int) * 256 := IntWalk.wrap64_in _ ⟨by omega, by omega⟩
  have hw3 : wrap64 (b3.toNat : Int) = (b3.toNat : Int) := IntWalk.wrap64_in _ ⟨by omega, by omega⟩
  have hor : bits BinOp.or IntKind.i64 ((a2.toNat : Int) * 256) (b3.toNat : Int) = (N : Int) := by rw [or_i64 _ _ (by omega) (by omega), hN2]
  have hNb : N < 65536 := by omega
  rw [hN] at hn1 hn2
  rw [hN] at hl hc ht
  have hv : openV s = (Rc.zero, 0, 0, (toldV (s.take (N * 64))).2.2) := by unfold openV; rw [hN]; rw [if_neg h, if_neg (show ¬ ([76, 82].isPrefixOf s = false ∨ N < 1 ∨ 40 < N) from fun h => h.elim (fun h => by rw [hp] at h; cases h) (fun h => by omega)), if_neg (show ¬ s.length < N * 64 by omega), if_neg (fun h => h hc), if_pos ht]
  rw [hv]
  rw [hp] at Pr
  have h4 : decide ((N : Int) < 1) = false := decide_eq_false (by omega)
  have h5 : decide (40 < (N : Int)) = false := decide_eq_false (by omega)
  obtain ⟨M, hM⟩ : ∃ M, N * 64 = M := ⟨_, rfl⟩
  have hwN : IntKind.i64.wrap ((N : Int) * 64) = (M : Int) := by rw [IntWalk.i64_in _ ⟨by omega, by omega⟩]; omega
  rw [hM] at hc hl ht ⊢
  have h6 : decide (s.length < M) = false := decide_eq_false (by omega)
  have hb6 : (M : Int) ≤ (s.length : Int) := by omega
  have hcut : (str s).extract 0 M = str (s.take M) := by rw [str_extract, str_data]; simp
  have lH : (s.take M).length = M := by rw [List.length_take]; omega
  have Cr := Lib.hid (fun w => open_any (s.take M) w (by omega))
  have To := Lib.hid (fun w => told_any (s.take M) w (by omega) (by omega))
  generalize s.take M = H at *
  generalize crcOpen H = CC at *
  obtain ⟨c1, c2⟩ := CC
  dsimp only at *
  subst hc
  generalize toldV H = TT at *
  obtain ⟨R, X, te⟩ := TT
  unfold ToldPost Rc.val at To
  dsimp only at *
  have htb : (te != 0) = true := bne_iff_ne.2 ht
  clear hl ht hv
  clear hN hN2 l2 l3 hp
  go_enter Try.func34, Try.ntmps34
  go_wp2
  go_quiet (fail)
  go_wp2_with (first
    | (go_at_call 62; (with_reducible refine (Pr.out _).mono ?_); rintro e w1 ⟨rfl, hw⟩; have KA : Hid (Keeps [] (w.alloc (.cells #[.int .i64 0, .int .i64 0, .int .i64 0, .slice none 0 0, .string (str []), .string (str [])] 24)) w1) := (by rw [hw]; exact (Keeps.refl [] _).drewN _); clear hw; have HR := Lib.hid (Zc.out _ KA.out); obtain ⟨⟨q0, q1, q2, q3, q4, q5⟩, f0, f1, f2, f3, f4, f5⟩ := cells6 HR.out)
    | (go_at_call 63; (with_reducible refine (Cr.out _).mono ?_); rintro e w2 ⟨rfl, k2⟩; replace KA := Lib.hid (KA.out.trans k2 (by simp)); clear HR q0 q1 q2 q3 q4 q5 f0 f1 f2 f3 f4 f5 k2; have HR := Lib.hid (Zc.out _ KA.out); obtain ⟨⟨q0, q1, q2, q3, q4, q5⟩, f0, f1, f2, f3, f4, f5⟩ := cells6 HR.out)
    | (go_at_call 64; (with_reducible refine (To.out _).mono ?_); rintro e w3 ⟨sv, G, rfl, hg, hGb, k3, _⟩; have KB := Lib.hid (KA.out.trans k3 (by simp)); have Ks := Lib.hid (KA.out.size); clear HR q0 q1 q2 q3 q4 q5 f0 f1 f2 f3 f4 f5 k3 KA; obtain ⟨ad, cap, rfl, _⟩ := hg.at_; have Hg := Lib.hid hg; have HGb := Lib.hid hGb; clear hg hGb; have KA := Lib.hid (KB.out.alloc (.cells #[.int .i64 R.ep, .int .i64 R.nr, .int .i64 R.kd, .slice ad R.sp.length cap, .string (str R.dt), .string (str R.tx)] 24)); have HR := Lib.hid (Zc.out _ KA.out); obtain ⟨⟨q0, q1, q2, q3, q4, q5⟩, f0, f1, f2, f3, f4, f5⟩ := cells6 HR.out))
  refine bodyPost_ret (results_row_tmp3 rfl rfl (heap_set6 HR.out _ _ _ _ _ _) Try.underlying24 rfl (by kernel_rfl)) rfl ⟨.slice none 0 0, [], rfl, zero_good _, by simp, keeps_set6 (K0.out.trans KA.out (by simp)) (Nat.le_refl _) _ _ _ _ _ _⟩
set_option maxHeartbeats 4000000 in
theorem open_ok (s : List UInt8) (w : World) (hs : s.length ≤ 100000) (h : ¬ s.length < 64) (hp : [76, 82].isPrefixOf s = true) (hn1 : 1 ≤ nOf s) (hn2 : nOf s ≤ 40) (hl : nOf s * 64 ≤ s.length) (hc : (crcOpen (s.take (nOf s * 64))).2 = 0) (ht : (toldV (s.take (nOf s * 64))).2.2 = 0) :
    Calls Try.prog 34 #[.string (str s)] w (OpenPost w (openV s)) := by
  have hz := str_empty
  have hmag : ByteArray.mk #[76, 82] = str [76, 82] := rfl
  have K0 := Lib.hid ((Keeps.refl [] w).alloc zbox)
  have Zc : Hid (∀ w', Keeps [] (w.alloc zbox) w' → w'.heap[w.heap.size]? = some zbox) := fun w' k => zcells k
  unfold zbox at *
  have h1 : decide ((s.length : Int) < 64) = false := decide_eq_false (by omega)
  have Pr := Lib.hid (fun w => pre_any s [76, 82] w)
  have hl2 : (2 : Int) < (s.length : Int) := by omega
  have hl3 : (3 : Int) < (s.length : Int) := by omega
  have ga : (str s)[2]'(by simp; omega) = s.getD 2 0 := str_at s 2 _
  have gb : (str s)[3]'(by simp; omega) = s.getD 3 0 := str_at s 3 _
  obtain ⟨N, hN⟩ : ∃ N, nOf s = N := ⟨_, rfl⟩
  have hN2 : (s.getD 2 0).toNat * 256 + (s.getD 3 0).toNat = N := hN
  have l2 := (s.getD 2 0).toNat_lt
  have l3 := (s.getD 3 0).toNat_lt
  generalize s.getD 2 0 = a2 at *
  generalize s.getD 3 0 = b3 at *
  have hw1 : wrap64 (a2.toNat : Int) = (a2.toNat : Int) := IntWalk.wrap64_in _ ⟨by omega, by omega⟩
  have hw2 : wrap64 ((a2.toNat : Int) * 256) = (a2.toNat : Int) * 256 := IntWalk.wrap64_in _ ⟨by omega, by omega⟩
  have hw3 : wrap64 (b3.toNat : Int) = (b3.toNat : Int) := IntWalk.wrap64_in _ ⟨by omega, by omega⟩
  have hor : bits BinOp.or IntKind.i64 ((a2.toNat : Int) * 256) (b3.toNat : Int) = (N : Int) := by rw [or_i64 _ _ (by omega) (by omega), hN2]
  have hNb : N < 65536 := by omega
  rw [hN] at hn1 hn2
  rw [hN] at hl hc ht
  have hv : openV s = ((toldV (s.take (N * 64))).1, N, (toldV (s.take (N * 64))).2.1, 0) := by unfold openV; rw [hN]; rw [if_neg h, if_neg (show ¬ ([76, 82].isPrefixOf s = false ∨ N < 1 ∨ 40 < N) from fun h => h.elim (fun h => by rw [hp] at h; cases h) (fun h => by omega)), if_neg (show ¬ s.length < N * 64 by omega), if_neg (fun h => h hc), if_neg (fun h => h ht)]
  rw [hv]
  rw [hp] at Pr
  have h4 : decide ((N : Int) < 1) = false := decide_eq_false (by omega)
  have h5 : decide (40 < (N : Int)) = false := decide_eq_false (by omega)
  obtain ⟨M, hM⟩ : ∃ M, N * 64 = M := ⟨_, rfl⟩
  have hwN : IntKind.i64.wrap ((N : Int) * 64) = (M : Int) := by rw [IntWalk.i64_in _ ⟨by omega, by omega⟩]; omega
  rw [hM] at hc hl ht ⊢
  have h6 : decide (s.length < M) = false := decide_eq_false (by omega)
  have hb6 : (M : Int) ≤ (s.length : Int) := by omega
  have hcut : (str s).extract 0 M = str (s.take M) := by rw [str_extract, str_data]; simp
  have lH : (s.take M).length = M := by rw [List.length_take]; omega
  have Cr := Lib.hid (fun w => open_any (s.take M) w (by omega))
  have To := Lib.hid (fun w => told_any (s.take M) w (by omega) (by omega))
  generalize s.take M = H at *
  generalize crcOpen H = CC at *
  obtain ⟨c1, c2⟩ := CC
  dsimp only at *
  subst hc
  generalize toldV H = TT at *
  obtain ⟨R, X, te⟩ := TT
  unfold ToldPost Rc.val at To
  dsimp only at *
  subst ht
  clear hl hv
  clear hN hN2 l2 l3 hp
  go_enter Try.func34, Try.ntmps34
  go_wp2
  go_quiet (fail)
  go_wp2_with (first
    | (go_at_call 62; (with_reducible refine (Pr.out _).mono ?_); rintro e w1 ⟨rfl, hw⟩; have KA : Hid (Keeps [] (w.alloc (.cells #[.int .i64 0, .int .i64 0, .int .i64 0, .slice none 0 0, .string (str []), .string (str [])] 24)) w1) := (by rw [hw]; exact (Keeps.refl [] _).drewN _); clear hw; have HR := Lib.hid (Zc.out _ KA.out); obtain ⟨⟨q0, q1, q2, q3, q4, q5⟩, f0, f1, f2, f3, f4, f5⟩ := cells6 HR.out)
    | (go_at_call 63; (with_reducible refine (Cr.out _).mono ?_); rintro e w2 ⟨rfl, k2⟩; replace KA := Lib.hid (KA.out.trans k2 (by simp)); clear HR q0 q1 q2 q3 q4 q5 f0 f1 f2 f3 f4 f5 k2; have HR := Lib.hid (Zc.out _ KA.out); obtain ⟨⟨q0, q1, q2, q3, q4, q5⟩, f0, f1, f2, f3, f4, f5⟩ := cells6 HR.out)
    | (go_at_call 64; (with_reducible refine (To.out _).mono ?_); rintro e w3 ⟨sv, G, rfl, hg, hGb, k3, _⟩; have KB := Lib.hid (KA.out.trans k3 (by simp)); have Ks := Lib.hid (KA.out.size); clear HR q0 q1 q2 q3 q4 q5 f0 f1 f2 f3 f4 f5 k3 KA; obtain ⟨ad, cap, rfl, _⟩ := hg.at_; have Hg := Lib.hid hg; have HGb := Lib.hid hGb; clear hg hGb; have KA := Lib.hid (KB.out.alloc (.cells #[.int .i64 R.ep, .int .i64 R.nr, .int .i64 R.kd, .slice ad R.sp.length cap, .string (str R.dt), .string (str R.tx)] 24)); have HR := Lib.hid (Zc.out _ KA.out); obtain ⟨⟨q0, q1, q2, q3, q4, q5⟩, f0, f1, f2, f3, f4, f5⟩ := cells6 HR.out))
  refine bodyPost_ret (results_row_tmp3 rfl rfl (heap_set6 HR.out _ _ _ _ _ _) Try.underlying24 rfl (by kernel_rfl)) rfl ⟨.slice ad R.sp.length cap, G, rfl, (Hg.out.newer ((Keeps.refl [] _).alloc _)).kept (keeps_at6 _ w.heap.size _ _ _ _ _ _) (fun x hx => ?_), fun x hx => ?_, keeps_set6 (K0.out.trans KA.out (by simp)) (Nat.le_refl _) _ _ _ _ _ _⟩
  · have h1 := (HGb.out x hx).1
    have h2 := Ks.out
    simp at h2 ⊢
    omega
  · have h1 := HGb.out x hx
    have h2 := Ks.out
    simp at h2 ⊢
    omega

theorem open_all (s : List UInt8) (w : World) (hs : s.length ≤ 100000) : Calls Try.prog 34 #[.string (str s)] w (OpenPost w (openV s)) := by
  by_cases h : s.length < 64
  · exact open_short s w hs h
  · by_cases hp : [76, 82].isPrefixOf s = true
    · by_cases h1 : nOf s < 1
      · exact open_small s w hs h hp h1
      · by_cases h2 : 40 < nOf s
        · exact open_big s w hs h hp h2
        · by_cases hl : s.length < nOf s * 64
          · exact open_cut s w hs h hp (by omega) (by omega) hl
          · by_cases hc : (crcOpen (s.take (nOf s * 64))).2 = 0
            · by_cases ht : (toldV (s.take (nOf s * 64))).2.2 = 0
              · exact open_ok s w hs h hp (by omega) (by omega) (by omega) hc ht
              · exact open_told s w hs h hp (by omega) (by omega) (by omega) hc ht
            · exact open_crc s w hs h hp (by omega) (by omega) (by omega) hc
    · exact open_np s w hs h (Bool.eq_false_iff.2 hp)
end Go.Proofs.Ytjebldfmkpfafaa
