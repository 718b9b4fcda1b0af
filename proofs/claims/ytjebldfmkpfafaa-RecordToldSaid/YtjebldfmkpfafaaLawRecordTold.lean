/-
What is proved: RecordTold. For every record that may be (and is not too much for all that is asked here): its sectors, of which one byte is turned, or of which the end is missing, are no record. No conditions.
-/
import Derived.Test.YtjebldfmkpfafaaRecL
import Derived.Test.YtjebldfmkpfafaaRecW
import Derived.Test.YtjebldfmkpfafaaRecX
import Derived.Test.YtjebldfmkpfafaaRecZ
import Derived.Test.YtjebldfmkpfafaaRecY
import Derived.Test.YtjebldfmkpfafaaBytesOf
import Derived.Test.YtjebldfmkpfafaaOpenS
import Derived.Test.YtjebldfmkpfafaaOpenP
namespace Go.Proofs.Ytjebldfmkpfafaa.lawRecordTold
open Go.ChangeShapes Go.WideShapes Go.ChangeAt Go.RowKit
open Go.ChangeMaps (open_string shut_string)
set_option maxRecDepth 100000

theorem take_mid {A B : List UInt8} {c : UInt8} {n : Nat} (h : A.length < n) : (A ++ c :: B).take n = A ++ c :: B.take (n - A.length - 1) := by
  obtain ⟨m, rfl⟩ : ∃ m, n = A.length + (m + 1) := ⟨n - A.length - 1, by omega⟩
  rw [List.take_append, List.take_of_length_le (by omega), show A.length + (m + 1) - A.length = m + 1 by omega, List.take_succ_cons, Nat.add_sub_cancel]
theorem drop_mid {A B : List UInt8} {c : UInt8} {n : Nat} (h : A.length < n) : (A ++ c :: B).drop n = B.drop (n - A.length - 1) := by
  obtain ⟨m, rfl⟩ : ∃ m, n = A.length + (m + 1) := ⟨n - A.length - 1, by omega⟩
  rw [List.drop_append, List.drop_of_length_le (by omega), List.nil_append, show A.length + (m + 1) - A.length = m + 1 by omega, List.drop_succ_cons, Nat.add_sub_cancel]
theorem drop_mid_lt {A B : List UInt8} {c : UInt8} {n : Nat} (h : n ≤ A.length) : (A ++ c :: B).drop n = A.drop n ++ c :: B := List.drop_append_of_le_length h
theorem take_mid_lt {A B : List UInt8} {c : UInt8} {n : Nat} (h : n ≤ A.length) : (A ++ c :: B).take n = A.take n := List.take_append_of_le_length h

theorem secs_lt (r : Rc) (X : Nat) (h : r.hok) : 1 ≤ Rc.secs (r.bodyB X).length ∧ Rc.secs (r.bodyB X).length ≤ 29 := by
  have := secs_bd (h.len X)
  constructor
  · unfold Rc.secs; omega
  · omega
theorem be2 (n : Nat) (h : n ≤ 29) : be n 2 = [0, UInt8.ofNat n] := by
  show [UInt8.ofNat (n / 256 ^ 1), UInt8.ofNat (n / 256 ^ 0)] = _
  rw [show n / 256 ^ 1 = 0 by omega, show n / 256 ^ 0 = n by simp]
  rfl
theorem headB_cons (r : Rc) (X : Nat) (h : r.hok) : ∃ t, r.headB X = 76 :: 82 :: 0 :: UInt8.ofNat (Rc.secs (r.bodyB X).length) :: (r.bodyB X ++ t) := by
  rw [headB_shape, be2 _ (secs_lt r X h).2]
  exact ⟨_, rfl⟩
theorem ofNat_inj29 {a b : Nat} (ha : a ≤ 29) (hb : b ≤ 29) (h : UInt8.ofNat a = UInt8.ofNat b) : a = b := by
  have := congrArg UInt8.toNat h
  rw [UInt8.toNat_ofNat', UInt8.toNat_ofNat'] at this
  omega

/-- Two bodies in the same bytes tell the same. -/
theorem body_one {x r : Rc} (hx : x.check = 0) (hr : r.check = 0) {X Y : Nat} (hX : X < 4294967296) (hY : Y < 4294967296) {a b : List UInt8} (h : x.bodyB X ++ a = r.bodyB Y ++ b) :
    ({ x with dt := [] } : Rc) = { r with dt := [] } ∧ x.sumOf X = r.sumOf Y := by
  obtain ⟨k1, _, _, _, k4, k5⟩ := Rc.check_ok hx
  obtain ⟨l1, _, _, _, l4, l5⟩ := Rc.check_ok hr
  obtain ⟨_, _, _, g4, g5⟩ := rdR_back k1 (fun h => (k4 h).2) k5 hX (L := x.bodyB X ++ a) rfl
  obtain ⟨_, _, _, q4, q5⟩ := rdR_back l1 (fun h => (l4 h).2) l5 hY (L := x.bodyB X ++ a) h
  exact ⟨g4.symm.trans q4, g5.symm.trans q5⟩
theorem bodyB_one {x r : Rc} {X Y : Nat} (h1 : ({ x with dt := [] } : Rc) = { r with dt := [] }) (h2 : x.sumOf X = r.sumOf Y) : x.headB X = r.headB Y := by
  rw [← headB_sumOf x X [], ← headB_sumOf r Y [], h1, h2]

/-- A byte is turned: no record. -/
theorem turned_none {r : Rc} (hr : r.check = 0) {A B : List UInt8} {c d : UInt8} (hcd : c ≠ d) (hs : r.encV.1 = A ++ c :: B) : ∃ e : Int, decV (A ++ d :: B) = (Rc.zero, 0, e) ∧ (e = 10 ∨ e = 12 ∨ e = 13) := by
  rcases dec_cases (A ++ d :: B) with h | ⟨x, n, _, hx, hn, hen⟩
  · exact h
  · exfalso
    rw [enc_shape hr] at hs
    rw [enc_shape hx] at hen
    dsimp only at hs hen
    obtain ⟨kx, x1, x2, x3, x4, x5⟩ := Rc.check_ok hx
    obtain ⟨kr, r1, r2, r3, r4, r5⟩ := Rc.check_ok hr
    have hXx := crcMore_lt 0 x.dt
    have hXr := crcMore_lt 0 r.dt
    have lx := headB_len x (crcMore 0 x.dt) kx
    have lr := headB_len r (crcMore 0 r.dt) kr
    have sx := secs_lt x (crcMore 0 x.dt) kx
    have sr := secs_lt r (crcMore 0 r.dt) kr
    obtain ⟨tx, ex⟩ := headB_cons x (crcMore 0 x.dt) kx
    obtain ⟨tr, er⟩ := headB_cons r (crcMore 0 r.dt) kr
    obtain ⟨rest, hrest⟩ : ∃ rest, A ++ d :: B = x.headB (crcMore 0 x.dt) ++ x.dt ++ rest := ⟨(A ++ d :: B).drop (64 * n), by rw [hen, List.take_append_drop]⟩
    by_cases ha : A.length < 4
    · have e1 : A ++ c :: B = 76 :: 82 :: 0 :: UInt8.ofNat (Rc.secs (r.bodyB (crcMore 0 r.dt)).length) :: (r.bodyB (crcMore 0 r.dt) ++ tr ++ r.dt) := by rw [← hs, er]; simp
      have e2 : A ++ d :: B = 76 :: 82 :: 0 :: UInt8.ofNat (Rc.secs (x.bodyB (crcMore 0 x.dt)).length) :: (x.bodyB (crcMore 0 x.dt) ++ tx ++ x.dt ++ rest) := by rw [hrest, ex]; simp
      match A, ha with
      | [], _ => simp at e1 e2; exact hcd (e1.1.trans e2.1.symm)
      | [_], _ => simp at e1 e2; exact hcd (e1.2.1.trans e2.2.1.symm)
      | [_, _], _ => simp at e1 e2; exact hcd (e1.2.2.1.trans e2.2.2.1.symm)
      | [_, _, _], _ =>
        simp only [List.cons_append, List.nil_append, List.cons.injEq] at e1 e2
        have hb : x.bodyB (crcMore 0 x.dt) ++ (tx ++ x.dt ++ rest) = r.bodyB (crcMore 0 r.dt) ++ (tr ++ r.dt) := by
          have := e2.2.2.2.2.symm.trans e1.2.2.2.2
          simpa using this
        obtain ⟨h1, h2⟩ := body_one hx hr hXx hXr hb
        have h3 := bodyB_one h1 h2
        rw [ex, er] at h3
        simp only [List.cons.injEq] at h3
        exact hcd (e1.2.2.2.1.trans (h3.2.2.2.1.symm.trans e2.2.2.2.1.symm))
      | _ :: _ :: _ :: _ :: _, ha => simp at ha; omega
    · have hN : Rc.secs (x.bodyB (crcMore 0 x.dt)).length = Rc.secs (r.bodyB (crcMore 0 r.dt)).length := by
        have e1 : A.take 4 = [76, 82, 0, UInt8.ofNat (Rc.secs (r.bodyB (crcMore 0 r.dt)).length)] := by rw [← take_mid_lt (B := B) (c := c) (by omega), ← hs, er]; rfl
        have e2 : A.take 4 = [76, 82, 0, UInt8.ofNat (Rc.secs (x.bodyB (crcMore 0 x.dt)).length)] := by rw [← take_mid_lt (B := B) (c := d) (by omega), hrest, ex]; rfl
        rw [e1] at e2
        simp only [List.cons.injEq, true_and, and_true] at e2
        exact (ofNat_inj29 sr.2 sx.2 e2).symm
      have hH : (A ++ c :: B).take (Rc.secs (r.bodyB (crcMore 0 r.dt)).length * 64) = r.headB (crcMore 0 r.dt) := by rw [← hs, ← lr, List.take_left]
      have hX : (A ++ d :: B).take (Rc.secs (r.bodyB (crcMore 0 r.dt)).length * 64) = x.headB (crcMore 0 x.dt) := by rw [hrest, ← hN, ← lx, List.append_assoc, List.take_left]
      by_cases hat : A.length < Rc.secs (r.bodyB (crcMore 0 r.dt)).length * 64
      · rw [take_mid hat] at hH hX
        generalize B.take (Rc.secs (r.bodyB (crcMore 0 r.dt)).length * 64 - A.length - 1) = C at *
        unfold Rc.headB at hH hX
        generalize Rc.foreB (r.bodyB (crcMore 0 r.dt)) = fr at *
        generalize Rc.foreB (x.bodyB (crcMore 0 x.dt)) = fx at *
        have lf : fr.length = fx.length := by
          have q1 := congrArg List.length hH
          have q2 := congrArg List.length hX
          simp [four] at q1 q2
          omega
        by_cases hin : A.length < fr.length
        · have f1 : fr = A ++ c :: C.take (fr.length - A.length - 1) := by rw [← take_mid hin, hH, List.take_left]
          have f2 : fx = A ++ d :: C.take (fr.length - A.length - 1) := by rw [← take_mid hin, hX, lf, List.take_left]
          have g1 : four (crcMore 0 fr) = C.drop (fr.length - A.length - 1) := by rw [← drop_mid hin (c := c), hH, List.drop_left]
          have g2 : four (crcMore 0 fx) = C.drop (fr.length - A.length - 1) := by rw [← drop_mid hin (c := d), hX, lf, List.drop_left]
          have g3 := four_inj (crcMore_lt _ _) (crcMore_lt _ _) (g1.trans g2.symm)
          rw [f1, f2] at g3
          exact crcMore_turned (by decide) _ _ hcd g3
        · have f1 : fr = A.take fr.length := by rw [← take_mid_lt (B := C) (c := c) (by omega), hH, List.take_left]
          have f2 : fx = A.take fr.length := by rw [← take_mid_lt (B := C) (c := d) (by omega), hX, lf, List.take_left]
          have g0 : fr = fx := f1.trans f2.symm
          rw [← hH.trans (by rw [g0] : _ = fx ++ four (crcMore 0 fx))] at hX
          simp at hX
          exact hcd hX.symm
      · rw [take_mid_lt (by omega)] at hH hX
        have hHX := hX.symm.trans hH
        have t1 := told_back hx hXx
        have t2 := told_back hr hXr
        rw [hHX, t2] at t1
        simp only [Prod.mk.injEq] at t1
        obtain ⟨t3, t4, _⟩ := t1
        have hkd : r.kd = x.kd := by have h := congrArg Rc.kd t3; exact h
        have hDr : (A ++ c :: B).drop (Rc.secs (r.bodyB (crcMore 0 r.dt)).length * 64) = r.dt := by rw [← hs, ← lr, List.drop_left]
        have hDx : (A ++ d :: B).drop (Rc.secs (r.bodyB (crcMore 0 r.dt)).length * 64) = x.dt ++ rest := by rw [hrest, ← hN, ← lx, List.append_assoc, List.drop_left]
        rw [drop_mid_lt (by omega)] at hDr hDx
        by_cases hk : r.kd = 1
        · obtain ⟨h6, _⟩ := r3 hk
          obtain ⟨h7, _⟩ := x3 (by omega)
          have hsp : r.sp = x.sp := by have h := congrArg Rc.sp t3; exact h
          have hll : r.dt.length = x.dt.length := by rw [hsp] at h6; omega
          have hre : rest = [] := by
            have q1 := congrArg List.length hDr
            have q2 := congrArg List.length hDx
            simp at q1 q2
            exact List.length_eq_zero_iff.1 (by omega)
          rw [hre, List.append_nil] at hDx
          unfold Rc.sumOf at t4
          rw [if_pos hk, if_pos (by omega), ← hDr, ← hDx] at t4
          exact crcMore_turned (by decide) _ _ hcd t4
        · rw [r2 hk] at hDr
          simp at hDr

theorem getD_take (l : List UInt8) (c k : Nat) (h : k < c) : (l.take c).getD k 0 = l.getD k 0 := by
  rw [List.getD_eq_getElem?_getD, List.getD_eq_getElem?_getD, List.getElem?_take_of_lt h]
/-- The end is missing. -/
theorem cut_none {r : Rc} (hr : r.check = 0) {c : Nat} (h : c < r.encV.1.length) : decV (r.encV.1.take c) = (Rc.zero, 0, 10) := by
  obtain ⟨kr, r1, r2, r3, r4, r5⟩ := Rc.check_ok hr
  have lr := headB_len r (crcMore 0 r.dt) kr
  have sr := secs_lt r (crcMore 0 r.dt) kr
  have hl := enc_allS hr
  obtain ⟨er1, er2⟩ := data_len hr
  have hall : r.allS = Rc.secs (r.bodyB (crcMore 0 r.dt)).length + r.dt.length / 64 := rfl
  obtain ⟨tr, er⟩ := headB_cons r (crcMore 0 r.dt) kr
  have hlt : (r.encV.1.take c).length = c := by rw [List.length_take]; omega
  have hfin : ∀ R : Rc × Nat × Nat × Int, openV (r.encV.1.take c) = R → R.2.2.2 = 10 → decV (r.encV.1.take c) = (Rc.zero, 0, 10) := fun R h1 h2 => by unfold decV; rw [h1, h2, if_pos (by decide)]
  by_cases h64 : c < 64
  · exact hfin (Rc.zero, 0, 0, 10) (by unfold openV; rw [hlt, if_pos h64]) rfl
  · by_cases hcut : c < Rc.secs (r.bodyB (crcMore 0 r.dt)).length * 64
    · have hn : nOf (r.encV.1.take c) = Rc.secs (r.bodyB (crcMore 0 r.dt)).length := by
        unfold nOf
        rw [getD_take _ _ _ (by omega), getD_take _ _ _ (by omega), enc_shape hr]
        dsimp only
        rw [er]
        show (0 : UInt8).toNat * 256 + (UInt8.ofNat (Rc.secs (r.bodyB (crcMore 0 r.dt)).length)).toNat = _
        rw [UInt8.toNat_ofNat']
        show 0 * 256 + _ = _
        omega
      have hp : [76, 82].isPrefixOf (r.encV.1.take c) = true := by
        obtain ⟨m, rfl⟩ : ∃ m, c = m + 2 := ⟨c - 2, by omega⟩
        rw [enc_shape hr]
        dsimp only
        rw [er]
        rfl
      exact hfin (Rc.zero, 0, 0, 10) (by unfold openV; rw [hlt, hn, if_neg h64, if_neg (show ¬ ([76, 82].isPrefixOf (r.encV.1.take c) = false ∨ _ ∨ _) from fun h => h.elim (fun h => by rw [hp] at h; cases h) (fun h => h.elim (fun h => by omega) (fun h => by omega))), if_pos hcut]) rfl
    · have he : r.encV.1.take c = r.headB (crcMore 0 r.dt) ++ r.dt.take (c - Rc.secs (r.bodyB (crcMore 0 r.dt)).length * 64) := by
        rw [enc_shape hr]
        dsimp only
        rw [List.take_append, List.take_of_length_le (by omega), lr]
      unfold decV
      rw [hlt, he, open_back hr (crcMore_lt 0 r.dt)]
      dsimp only
      rw [if_neg (fun h => h rfl), ← er2, if_pos (by omega)]

def fewB (r : Rc) : Bool := decide ((r.sp.length : Int) ≤ 80) && (decide ((r.dt.length : Int) ≤ 2000) || (decide (32768 < (r.dt.length : Int)) && decide ((r.dt.length : Int) < 40000))) && decide ((r.tx.length : Int) ≤ 600)

set_option maxHeartbeats 8000000 in
theorem walk_many (r : Rc) (sv : Value) (G : List Nat) (a c : Int) (t : Nat) (W : World) (hr : r.good W sv G) (hG : ∀ k, k ∈ G → k < W.heap.size) (hf : fewB r = false) : Calls Try.prog 4 #[r.val sv, .agg #[.int .i64 a, .int .i64 c], .int .u8 t] W fun e w' => e = .returned (.bool true) ∧ Keeps [] W w' := by
  have K0 := Lib.hid (((Keeps.refl [] W).alloc (rbox r sv)).alloc (.cells #[.int .i64 a, .int .i64 c] 40))
  have Kr := Keeps.refl [] ((W.alloc (rbox r sv)).alloc (.cells #[.int .i64 a, .int .i64 c] 40))
  have CB : Hid (∀ w', Keeps [] ((W.alloc (rbox r sv)).alloc (.cells #[.int .i64 a, .int .i64 c] 40)) w' → boxed w' W.heap.size r sv) := fun w' k => (let h := (cells6 (two_new k).1).1; ⟨h.1, h.2.1, h.2.2.1, h.2.2.2.1, h.2.2.2.2.1, h.2.2.2.2.2⟩)
  have CC : Hid (∀ w', Keeps [] ((W.alloc (rbox r sv)).alloc (.cells #[.int .i64 a, .int .i64 c] 40)) w' → w'.cell? ⟨W.heap.size + 1, 0, none⟩ = some (.int .i64 a) ∧ w'.cell? ⟨W.heap.size + 1, 1, none⟩ = some (.int .i64 c)) := fun w' k => ⟨cell_of_heap (two_new k).2 0, cell_of_heap (two_new k).2 1⟩
  have Fe : Hid (∀ w', Keeps [] ((W.alloc (rbox r sv)).alloc (.cells #[.int .i64 a, .int .i64 c] 40)) w' → _) := fun w' k => few_any r sv G w' (hr.newer (K0.out.trans k (by simp)))
  have Pl : Hid (∀ w', Keeps [] ((W.alloc (rbox r sv)).alloc (.cells #[.int .i64 a, .int .i64 c] 40)) w' → _) := fun w' k => plain_any r sv G w' (hr.newer (K0.out.trans k (by simp)))
  have Rk : Hid (∀ w', Keeps [] ((W.alloc (rbox r sv)).alloc (.cells #[.int .i64 a, .int .i64 c] 40)) w' → _) := fun w' k => rcheck_any r sv G w' (hr.newer (K0.out.trans k (by simp)))
  have En : Hid (∀ w', Keeps [] ((W.alloc (rbox r sv)).alloc (.cells #[.int .i64 a, .int .i64 c] 40)) w' → _) := fun w' k => encode_any r sv G w' (hr.newer (K0.out.trans k (by simp))) (fun x hx => by have := hG x hx; have := (K0.out.trans k (by simp)).size; omega)
  have Aw := Lib.hid (fun w => awake_any w)
  unfold fewB at hf
  rw [hf] at Fe
  unfold Rc.val at *
  unfold boxed at CB
  unfold rbox at *
  obtain ⟨ad, cap, rfl, _⟩ := hr.at_
  clear hr hG Pl Rk En hf
  go_enter Try.func4, Try.ntmps4
  go_wp2_with (first
    | (go_at_call 9; (with_reducible refine (Fe.out _ Kr).mono ?_); rintro e w1 ⟨rfl, k1⟩; replace Kr := KT Kr k1; clear k1; (try clear d0 d1 d2 d3 d4 d5 g0 g1); obtain ⟨d0, d1, d2, d3, d4, d5⟩ := CB.out _ Kr; obtain ⟨g0, g1⟩ := CC.out _ Kr)
    | (go_at_call 10; (with_reducible refine (Aw.out _).mono ?_); rintro e w1 ⟨rfl, k1⟩; replace Kr := KT Kr k1; clear k1; (try clear d0 d1 d2 d3 d4 d5 g0 g1); obtain ⟨d0, d1, d2, d3, d4, d5⟩ := CB.out _ Kr; obtain ⟨g0, g1⟩ := CC.out _ Kr))
  go_ret
  exact ⟨rfl, KT K0.out Kr⟩

set_option maxHeartbeats 8000000 in
theorem walk_bad (r : Rc) (sv : Value) (G : List Nat) (a c : Int) (t : Nat) (W : World) (hr : r.good W sv G) (hG : ∀ k, k ∈ G → k < W.heap.size) (hf : fewB r = true) (hc : r.check ≠ 0) : Calls Try.prog 4 #[r.val sv, .agg #[.int .i64 a, .int .i64 c], .int .u8 t] W fun e w' => e = .returned (.bool true) ∧ Keeps [] W w' := by
  have K0 := Lib.hid (((Keeps.refl [] W).alloc (rbox r sv)).alloc (.cells #[.int .i64 a, .int .i64 c] 40))
  have Kr := Keeps.refl [] ((W.alloc (rbox r sv)).alloc (.cells #[.int .i64 a, .int .i64 c] 40))
  have CB : Hid (∀ w', Keeps [] ((W.alloc (rbox r sv)).alloc (.cells #[.int .i64 a, .int .i64 c] 40)) w' → boxed w' W.heap.size r sv) := fun w' k => (let h := (cells6 (two_new k).1).1; ⟨h.1, h.2.1, h.2.2.1, h.2.2.2.1, h.2.2.2.2.1, h.2.2.2.2.2⟩)
  have CC : Hid (∀ w', Keeps [] ((W.alloc (rbox r sv)).alloc (.cells #[.int .i64 a, .int .i64 c] 40)) w' → w'.cell? ⟨W.heap.size + 1, 0, none⟩ = some (.int .i64 a) ∧ w'.cell? ⟨W.heap.size + 1, 1, none⟩ = some (.int .i64 c)) := fun w' k => ⟨cell_of_heap (two_new k).2 0, cell_of_heap (two_new k).2 1⟩
  have Fe : Hid (∀ w', Keeps [] ((W.alloc (rbox r sv)).alloc (.cells #[.int .i64 a, .int .i64 c] 40)) w' → _) := fun w' k => few_any r sv G w' (hr.newer (K0.out.trans k (by simp)))
  have Pl : Hid (∀ w', Keeps [] ((W.alloc (rbox r sv)).alloc (.cells #[.int .i64 a, .int .i64 c] 40)) w' → _) := fun w' k => plain_any r sv G w' (hr.newer (K0.out.trans k (by simp)))
  have Rk : Hid (∀ w', Keeps [] ((W.alloc (rbox r sv)).alloc (.cells #[.int .i64 a, .int .i64 c] 40)) w' → _) := fun w' k => rcheck_any r sv G w' (hr.newer (K0.out.trans k (by simp)))
  have En : Hid (∀ w', Keeps [] ((W.alloc (rbox r sv)).alloc (.cells #[.int .i64 a, .int .i64 c] 40)) w' → _) := fun w' k => encode_any r sv G w' (hr.newer (K0.out.trans k (by simp))) (fun x hx => by have := hG x hx; have := (K0.out.trans k (by simp)).size; omega)
  have Aw := Lib.hid (fun w => awake_any w)
  unfold fewB at hf
  rw [hf] at Fe
  have hcb : (r.check != 0) = true := bne_iff_ne.2 hc
  generalize r.check = V at *
  unfold Rc.val at *
  unfold boxed at CB
  unfold rbox at *
  obtain ⟨ad, cap, rfl, _⟩ := hr.at_
  clear hr hG En hf hc
  go_enter Try.func4, Try.ntmps4
  go_wp2_with (first
    | (go_at_call 9; (with_reducible refine (Fe.out _ Kr).mono ?_); rintro e w1 ⟨rfl, k1⟩; replace Kr := KT Kr k1; clear k1; (try clear d0 d1 d2 d3 d4 d5 g0 g1); obtain ⟨d0, d1, d2, d3, d4, d5⟩ := CB.out _ Kr; obtain ⟨g0, g1⟩ := CC.out _ Kr)
    | (go_at_call 12; (with_reducible refine (Pl.out _ Kr).mono ?_); rintro e w1 ⟨rfl, k1⟩; replace Kr := KT Kr k1; clear k1; (try clear d0 d1 d2 d3 d4 d5 g0 g1); obtain ⟨d0, d1, d2, d3, d4, d5⟩ := CB.out _ Kr; obtain ⟨g0, g1⟩ := CC.out _ Kr)
    | (go_at_call 11; (with_reducible refine (Rk.out _ Kr).mono ?_); rintro e w1 ⟨rfl, k1⟩; replace Kr := KT Kr k1; clear k1; (try clear d0 d1 d2 d3 d4 d5 g0 g1); obtain ⟨d0, d1, d2, d3, d4, d5⟩ := CB.out _ Kr; obtain ⟨g0, g1⟩ := CC.out _ Kr)
    | (go_at_call 10; (with_reducible refine (Aw.out _).mono ?_); rintro e w1 ⟨rfl, k1⟩; replace Kr := KT Kr k1; clear k1; (try clear d0 d1 d2 d3 d4 d5 g0 g1); obtain ⟨d0, d1, d2, d3, d4, d5⟩ := CB.out _ Kr; obtain ⟨g0, g1⟩ := CC.out _ Kr))
  go_ret
  exact ⟨rfl, KT K0.out Kr⟩

set_option maxHeartbeats 8000000 in
theorem walk_good00 (r : Rc) (sv : Value) (G : List Nat) (a c : Int) (t : Nat) (W : World) (hr : r.good W sv G) (hG : ∀ k, k ∈ G → k < W.heap.size) (hf : fewB r = true) (hc : r.check = 0) (_ht1 : t < 256) (ha1 : a < 0 ∨ (0 ≤ a ∧ (r.encV.1.length : Int) ≤ a) ∨ (0 ≤ a ∧ a < r.encV.1.length ∧ t = 0)) (hc1 : c < 0 ∨ (0 ≤ c ∧ (r.encV.1.length : Int) ≤ c)) : Calls Try.prog 4 #[r.val sv, .agg #[.int .i64 a, .int .i64 c], .int .u8 t] W fun e w' => e = .returned (.bool true) ∧ Keeps [] W w' := by
  have K0 := Lib.hid (((Keeps.refl [] W).alloc (rbox r sv)).alloc (.cells #[.int .i64 a, .int .i64 c] 40))
  have Kr := Keeps.refl [] ((W.alloc (rbox r sv)).alloc (.cells #[.int .i64 a, .int .i64 c] 40))
  have CB : Hid (∀ w', Keeps [] ((W.alloc (rbox r sv)).alloc (.cells #[.int .i64 a, .int .i64 c] 40)) w' → boxed w' W.heap.size r sv) := fun w' k => (let h := (cells6 (two_new k).1).1; ⟨h.1, h.2.1, h.2.2.1, h.2.2.2.1, h.2.2.2.2.1, h.2.2.2.2.2⟩)
  have CC : Hid (∀ w', Keeps [] ((W.alloc (rbox r sv)).alloc (.cells #[.int .i64 a, .int .i64 c] 40)) w' → w'.cell? ⟨W.heap.size + 1, 0, none⟩ = some (.int .i64 a) ∧ w'.cell? ⟨W.heap.size + 1, 1, none⟩ = some (.int .i64 c)) := fun w' k => ⟨cell_of_heap (two_new k).2 0, cell_of_heap (two_new k).2 1⟩
  have Fe : Hid (∀ w', Keeps [] ((W.alloc (rbox r sv)).alloc (.cells #[.int .i64 a, .int .i64 c] 40)) w' → _) := fun w' k => few_any r sv G w' (hr.newer (K0.out.trans k (by simp)))
  have Pl : Hid (∀ w', Keeps [] ((W.alloc (rbox r sv)).alloc (.cells #[.int .i64 a, .int .i64 c] 40)) w' → _) := fun w' k => plain_any r sv G w' (hr.newer (K0.out.trans k (by simp)))
  have Rk : Hid (∀ w', Keeps [] ((W.alloc (rbox r sv)).alloc (.cells #[.int .i64 a, .int .i64 c] 40)) w' → _) := fun w' k => rcheck_any r sv G w' (hr.newer (K0.out.trans k (by simp)))
  have En : Hid (∀ w', Keeps [] ((W.alloc (rbox r sv)).alloc (.cells #[.int .i64 a, .int .i64 c] 40)) w' → _) := fun w' k => encode_any r sv G w' (hr.newer (K0.out.trans k (by simp))) (fun x hx => by have := hG x hx; have := (K0.out.trans k (by simp)).size; omega)
  have Aw := Lib.hid (fun w => awake_any w)
  have hl := enc_allS hc
  obtain ⟨d1', d2'⟩ := data_len hc
  obtain ⟨hok, hdl, _⟩ := Rc.check_ok hc
  have hsb := secs_bd (hok.len (crcMore 0 r.dt))
  have hall : r.allS = Rc.secs (r.bodyB (crcMore 0 r.dt)).length + r.dt.length / 64 := rfl
  have hL : r.encV.1.length ≤ 100000 := by omega
  have hEn2 : r.encV.2 = 0 := by rw [enc_shape hc]
  clear hl d1' d2' hok hdl hsb hall
  have No := Lib.hid (fun v G w h => none_any v G w h)
  have e1 : Rc.zero.ep = 0 := rfl
  have e2 : Rc.zero.nr = 0 := rfl
  have e3 : Rc.zero.kd = 0 := rfl
  have e4 : Rc.zero.dt = [] := rfl
  have e5 : Rc.zero.tx = [] := rfl
  have e6 : Rc.zero.sp.length = 0 := rfl
  unfold Rc.val at No
  simp only [e1, e2, e3, e4, e5] at No
  unfold fewB at hf
  rw [hf] at Fe
  rw [hc] at Rk
  rw [hEn2] at En
  have hz := str_empty
  unfold Rc.val at *
  unfold boxed at CB
  unfold rbox at *
  obtain ⟨ad, cap, rfl, _⟩ := hr.at_
  rcases ha1 with ha1 | ⟨ha1, ha2⟩ | ⟨ha1, ha2, rfl⟩
  all_goals
    rcases hc1 with hc1 | ⟨hc1, hc2⟩
    all_goals
      try have b1 : decide (0 ≤ a) = false := decide_eq_false (by omega)
      try have b1 : decide (0 ≤ a) = true := decide_eq_true (by omega)
      try have b2 : decide (a < (r.encV.1.length : Int)) = false := decide_eq_false (by omega)
      try have b2 : decide (a < (r.encV.1.length : Int)) = true := decide_eq_true (by omega)
      try have c1 : decide (0 ≤ c) = false := decide_eq_false (by omega)
      try have c1 : decide (0 ≤ c) = true := decide_eq_true (by omega)
      try have c2 : decide (c < (r.encV.1.length : Int)) = false := decide_eq_false (by omega)
      generalize r.encV.1 = EA at *
      (try clear hc1)
      (try clear hc2)
      (try clear ha1)
      (try clear ha2)
      clear hr hG hf hc hEn2
      go_enter Try.func4, Try.ntmps4
      go_wp2_with (first
        | (go_at_call 9; (with_reducible refine (Fe.out _ Kr).mono ?_); rintro e w1 ⟨rfl, k1⟩; replace Kr := KT Kr k1; clear k1; (try clear d0 d1 d2 d3 d4 d5 g0 g1); obtain ⟨d0, d1, d2, d3, d4, d5⟩ := CB.out _ Kr; obtain ⟨g0, g1⟩ := CC.out _ Kr)
        | (go_at_call 12; (with_reducible refine (Pl.out _ Kr).mono ?_); rintro e w1 ⟨rfl, k1⟩; replace Kr := KT Kr k1; clear k1; (try clear d0 d1 d2 d3 d4 d5 g0 g1); obtain ⟨d0, d1, d2, d3, d4, d5⟩ := CB.out _ Kr; obtain ⟨g0, g1⟩ := CC.out _ Kr)
        | (go_at_call 11; (with_reducible refine (Rk.out _ Kr).mono ?_); rintro e w1 ⟨rfl, k1⟩; replace Kr := KT Kr k1; clear k1; (try clear d0 d1 d2 d3 d4 d5 g0 g1); obtain ⟨d0, d1, d2, d3, d4, d5⟩ := CB.out _ Kr; obtain ⟨g0, g1⟩ := CC.out _ Kr)
        | (go_at_call 13; (with_reducible refine (En.out _ Kr).mono ?_); rintro e wE ⟨rfl, k1⟩; replace Kr := KT Kr k1; clear k1; (try clear d0 d1 d2 d3 d4 d5 g0 g1); obtain ⟨d0, d1, d2, d3, d4, d5⟩ := CB.out _ Kr; obtain ⟨g0, g1⟩ := CC.out _ Kr)
        | (go_at_call 10; (with_reducible refine (Aw.out _).mono ?_); rintro e w1 ⟨rfl, k1⟩; replace Kr := KT Kr k1; clear k1))
      go_ret
      exact ⟨rfl, KT K0.out Kr⟩

set_option maxHeartbeats 8000000 in
theorem walk_good01 (r : Rc) (sv : Value) (G : List Nat) (a c : Int) (t : Nat) (W : World) (hr : r.good W sv G) (hG : ∀ k, k ∈ G → k < W.heap.size) (hf : fewB r = true) (hc : r.check = 0) (_ht1 : t < 256) (ha1 : a < 0 ∨ (0 ≤ a ∧ (r.encV.1.length : Int) ≤ a) ∨ (0 ≤ a ∧ a < r.encV.1.length ∧ t = 0)) (hc1 : 0 ≤ c ∧ c < r.encV.1.length) : Calls Try.prog 4 #[r.val sv, .agg #[.int .i64 a, .int .i64 c], .int .u8 t] W fun e w' => e = .returned (.bool true) ∧ Keeps [] W w' := by
  have K0 := Lib.hid (((Keeps.refl [] W).alloc (rbox r sv)).alloc (.cells #[.int .i64 a, .int .i64 c] 40))
  have Kr := Keeps.refl [] ((W.alloc (rbox r sv)).alloc (.cells #[.int .i64 a, .int .i64 c] 40))
  have CB : Hid (∀ w', Keeps [] ((W.alloc (rbox r sv)).alloc (.cells #[.int .i64 a, .int .i64 c] 40)) w' → boxed w' W.heap.size r sv) := fun w' k => (let h := (cells6 (two_new k).1).1; ⟨h.1, h.2.1, h.2.2.1, h.2.2.2.1, h.2.2.2.2.1, h.2.2.2.2.2⟩)
  have CC : Hid (∀ w', Keeps [] ((W.alloc (rbox r sv)).alloc (.cells #[.int .i64 a, .int .i64 c] 40)) w' → w'.cell? ⟨W.heap.size + 1, 0, none⟩ = some (.int .i64 a) ∧ w'.cell? ⟨W.heap.size + 1, 1, none⟩ = some (.int .i64 c)) := fun w' k => ⟨cell_of_heap (two_new k).2 0, cell_of_heap (two_new k).2 1⟩
  have Fe : Hid (∀ w', Keeps [] ((W.alloc (rbox r sv)).alloc (.cells #[.int .i64 a, .int .i64 c] 40)) w' → _) := fun w' k => few_any r sv G w' (hr.newer (K0.out.trans k (by simp)))
  have Pl : Hid (∀ w', Keeps [] ((W.alloc (rbox r sv)).alloc (.cells #[.int .i64 a, .int .i64 c] 40)) w' → _) := fun w' k => plain_any r sv G w' (hr.newer (K0.out.trans k (by simp)))
  have Rk : Hid (∀ w', Keeps [] ((W.alloc (rbox r sv)).alloc (.cells #[.int .i64 a, .int .i64 c] 40)) w' → _) := fun w' k => rcheck_any r sv G w' (hr.newer (K0.out.trans k (by simp)))
  have En : Hid (∀ w', Keeps [] ((W.alloc (rbox r sv)).alloc (.cells #[.int .i64 a, .int .i64 c] 40)) w' → _) := fun w' k => encode_any r sv G w' (hr.newer (K0.out.trans k (by simp))) (fun x hx => by have := hG x hx; have := (K0.out.trans k (by simp)).size; omega)
  have Aw := Lib.hid (fun w => awake_any w)
  have hl := enc_allS hc
  obtain ⟨d1', d2'⟩ := data_len hc
  obtain ⟨hok, hdl, _⟩ := Rc.check_ok hc
  have hsb := secs_bd (hok.len (crcMore 0 r.dt))
  have hall : r.allS = Rc.secs (r.bodyB (crcMore 0 r.dt)).length + r.dt.length / 64 := rfl
  have hL : r.encV.1.length ≤ 100000 := by omega
  have hEn2 : r.encV.2 = 0 := by rw [enc_shape hc]
  clear hl d1' d2' hok hdl hsb hall
  have No := Lib.hid (fun v G w h => none_any v G w h)
  have e1 : Rc.zero.ep = 0 := rfl
  have e2 : Rc.zero.nr = 0 := rfl
  have e3 : Rc.zero.kd = 0 := rfl
  have e4 : Rc.zero.dt = [] := rfl
  have e5 : Rc.zero.tx = [] := rfl
  have e6 : Rc.zero.sp.length = 0 := rfl
  unfold Rc.val at No
  simp only [e1, e2, e3, e4, e5] at No
  unfold fewB at hf
  rw [hf] at Fe
  rw [hc] at Rk
  rw [hEn2] at En
  have hz := str_empty
  obtain ⟨n, rfl⟩ : ∃ n : Nat, c = n := ⟨c.toNat, by omega⟩
  have hnT : n < r.encV.1.length := by omega
  have D2 := Lib.hid (fun w => dec_all (r.encV.1.take n) w (by rw [List.length_take]; omega))
  rw [cut_none hc hnT] at D2
  unfold DecPost Rc.val at D2
  dsimp only at D2
  simp only [e1, e2, e3, e4, e5] at D2
  have hcut : (str r.encV.1).extract 0 n = str (r.encV.1.take n) := by rw [str_extract, str_data]; simp
  generalize r.encV.1.take n = CC' at *
  have c1 : decide ((n : Int) < (r.encV.1.length : Int)) = true := decide_eq_true (by omega)
  have c2 : decide (n < r.encV.1.length) = true := decide_eq_true (by omega)
  have c3 : (n : Int) < (r.encV.1.length : Int) := by omega
  have c4 : (n : Int) ≤ (r.encV.1.length : Int) := by omega
  have c5 : ¬ (r.encV.1.length : Int) ≤ (n : Int) := by omega
  have c6 : (0 : Int) ≤ (n : Int) := by omega
  have c7 : decide (n ≤ r.encV.1.length) = true := decide_eq_true (by omega)
  unfold Rc.val at *
  unfold boxed at CB
  unfold rbox at *
  obtain ⟨ad, cap, rfl, _⟩ := hr.at_
  rcases ha1 with ha1 | ⟨ha1, ha2⟩ | ⟨ha1, ha2, rfl⟩
  all_goals
    try have b1 : decide (0 ≤ a) = false := decide_eq_false (by omega)
    try have b1 : decide (0 ≤ a) = true := decide_eq_true (by omega)
    try have b2 : decide (a < (r.encV.1.length : Int)) = false := decide_eq_false (by omega)
    try have b2 : decide (a < (r.encV.1.length : Int)) = true := decide_eq_true (by omega)
    generalize r.encV.1 = EA at *
    clear hc1
    (try clear ha1)
    (try clear ha2)
    clear hr hG hf hc hEn2
    go_enter Try.func4, Try.ntmps4
    go_wp2_with (first
      | (go_at_call 9; (with_reducible refine (Fe.out _ Kr).mono ?_); rintro e w1 ⟨rfl, k1⟩; replace Kr := KT Kr k1; clear k1; (try clear d0 d1 d2 d3 d4 d5 g0 g1); obtain ⟨d0, d1, d2, d3, d4, d5⟩ := CB.out _ Kr; obtain ⟨g0, g1⟩ := CC.out _ Kr)
      | (go_at_call 12; (with_reducible refine (Pl.out _ Kr).mono ?_); rintro e w1 ⟨rfl, k1⟩; replace Kr := KT Kr k1; clear k1; (try clear d0 d1 d2 d3 d4 d5 g0 g1); obtain ⟨d0, d1, d2, d3, d4, d5⟩ := CB.out _ Kr; obtain ⟨g0, g1⟩ := CC.out _ Kr)
      | (go_at_call 11; (with_reducible refine (Rk.out _ Kr).mono ?_); rintro e w1 ⟨rfl, k1⟩; replace Kr := KT Kr k1; clear k1; (try clear d0 d1 d2 d3 d4 d5 g0 g1); obtain ⟨d0, d1, d2, d3, d4, d5⟩ := CB.out _ Kr; obtain ⟨g0, g1⟩ := CC.out _ Kr)
      | (go_at_call 13; (with_reducible refine (En.out _ Kr).mono ?_); rintro e wE ⟨rfl, k1⟩; replace Kr := KT Kr k1; clear k1; (try clear d0 d1 d2 d3 d4 d5 g0 g1); obtain ⟨d0, d1, d2, d3, d4, d5⟩ := CB.out _ Kr; obtain ⟨g0, g1⟩ := CC.out _ Kr)
      | (go_at_call 18; (with_reducible refine (D2.out _).mono ?_); rintro e w6 ⟨sxy, Gxy, rfl, hgx, hGx, k1⟩; have Hy := Lib.hid hgx; obtain ⟨ady, capy, rfl, _⟩ := hgx.at_; rw [show Rc.zero.sp.length = 0 from rfl] at *; replace Kr := (KT Kr k1).alloc (.cells #[.int .i64 0, .int .i64 0, .int .i64 0, .slice ady 0 capy, .string (str []), .string (str [])] 24); clear hgx hGx k1)
      | (go_at_call 19; (with_reducible refine (No.out _ _ _ (Hy.out.newer ((Keeps.refl [] w6).alloc (.cells #[.int .i64 0, .int .i64 0, .int .i64 0, .slice ady 0 capy, .string (str []), .string (str [])] 24)))).mono ?_); rintro e w9 ⟨rfl, k1⟩; replace Kr := KT Kr k1; clear k1)
      | (go_at_call 10; (with_reducible refine (Aw.out _).mono ?_); rintro e w1 ⟨rfl, k1⟩; replace Kr := KT Kr k1; clear k1))
    go_ret
    exact ⟨rfl, KT K0.out Kr⟩

set_option maxHeartbeats 8000000 in
theorem walk_good10 (r : Rc) (sv : Value) (G : List Nat) (a c : Int) (t : Nat) (W : World) (hr : r.good W sv G) (hG : ∀ k, k ∈ G → k < W.heap.size) (hf : fewB r = true) (hc : r.check = 0) (ht1 : t < 256) (ht0 : t ≠ 0) (ha1 : 0 ≤ a ∧ a < r.encV.1.length) (hc1 : c < 0 ∨ (0 ≤ c ∧ (r.encV.1.length : Int) ≤ c)) : Calls Try.prog 4 #[r.val sv, .agg #[.int .i64 a, .int .i64 c], .int .u8 t] W fun e w' => e = .returned (.bool true) ∧ Keeps [] W w' := by
  have K0 := Lib.hid (((Keeps.refl [] W).alloc (rbox r sv)).alloc (.cells #[.int .i64 a, .int .i64 c] 40))
  have Kr := Keeps.refl [] ((W.alloc (rbox r sv)).alloc (.cells #[.int .i64 a, .int .i64 c] 40))
  have CB : Hid (∀ w', Keeps [] ((W.alloc (rbox r sv)).alloc (.cells #[.int .i64 a, .int .i64 c] 40)) w' → boxed w' W.heap.size r sv) := fun w' k => (let h := (cells6 (two_new k).1).1; ⟨h.1, h.2.1, h.2.2.1, h.2.2.2.1, h.2.2.2.2.1, h.2.2.2.2.2⟩)
  have CC : Hid (∀ w', Keeps [] ((W.alloc (rbox r sv)).alloc (.cells #[.int .i64 a, .int .i64 c] 40)) w' → w'.cell? ⟨W.heap.size + 1, 0, none⟩ = some (.int .i64 a) ∧ w'.cell? ⟨W.heap.size + 1, 1, none⟩ = some (.int .i64 c)) := fun w' k => ⟨cell_of_heap (two_new k).2 0, cell_of_heap (two_new k).2 1⟩
  have Fe : Hid (∀ w', Keeps [] ((W.alloc (rbox r sv)).alloc (.cells #[.int .i64 a, .int .i64 c] 40)) w' → _) := fun w' k => few_any r sv G w' (hr.newer (K0.out.trans k (by simp)))
  have Pl : Hid (∀ w', Keeps [] ((W.alloc (rbox r sv)).alloc (.cells #[.int .i64 a, .int .i64 c] 40)) w' → _) := fun w' k => plain_any r sv G w' (hr.newer (K0.out.trans k (by simp)))
  have Rk : Hid (∀ w', Keeps [] ((W.alloc (rbox r sv)).alloc (.cells #[.int .i64 a, .int .i64 c] 40)) w' → _) := fun w' k => rcheck_any r sv G w' (hr.newer (K0.out.trans k (by simp)))
  have En : Hid (∀ w', Keeps [] ((W.alloc (rbox r sv)).alloc (.cells #[.int .i64 a, .int .i64 c] 40)) w' → _) := fun w' k => encode_any r sv G w' (hr.newer (K0.out.trans k (by simp))) (fun x hx => by have := hG x hx; have := (K0.out.trans k (by simp)).size; omega)
  have Aw := Lib.hid (fun w => awake_any w)
  have hl := enc_allS hc
  obtain ⟨d1', d2'⟩ := data_len hc
  obtain ⟨hok, hdl, _⟩ := Rc.check_ok hc
  have hsb := secs_bd (hok.len (crcMore 0 r.dt))
  have hall : r.allS = Rc.secs (r.bodyB (crcMore 0 r.dt)).length + r.dt.length / 64 := rfl
  have hL : r.encV.1.length ≤ 100000 := by omega
  have hEn2 : r.encV.2 = 0 := by rw [enc_shape hc]
  clear hl d1' d2' hok hdl hsb hall
  have No := Lib.hid (fun v G w h => none_any v G w h)
  have e1 : Rc.zero.ep = 0 := rfl
  have e2 : Rc.zero.nr = 0 := rfl
  have e3 : Rc.zero.kd = 0 := rfl
  have e4 : Rc.zero.dt = [] := rfl
  have e5 : Rc.zero.tx = [] := rfl
  have e6 : Rc.zero.sp.length = 0 := rfl
  unfold Rc.val at No
  simp only [e1, e2, e3, e4, e5] at No
  unfold fewB at hf
  rw [hf] at Fe
  rw [hc] at Rk
  rw [hEn2] at En
  have hz := str_empty
  obtain ⟨k, rfl⟩ : ∃ k : Nat, a = k := ⟨a.toNat, by omega⟩
  have hkT : k < r.encV.1.length := by omega
  obtain ⟨x, hx⟩ : ∃ x, r.encV.1[k]? = some x := ⟨r.encV.1[k], List.getElem?_eq_getElem hkT⟩
  have hxlt := x.toNat_lt
  have hxr : bits .xor .u8 (x.toNat : Int) (t : Int) = ((x.toNat ^^^ t : Nat) : Int) := u8_xor_nat _ _ hxlt (by omega)
  have hxl : x.toNat ^^^ t < 256 := by
    have := Nat.xor_lt_two_pow (n := 8) (show x.toNat < 2 ^ 8 from hxlt) (show t < 2 ^ 8 by omega)
    exact this
  obtain ⟨d, hd⟩ : ∃ d : UInt8, d.toNat = x.toNat ^^^ t := ⟨UInt8.ofNat (x.toNat ^^^ t), by simp only [UInt8.toNat_ofNat']; omega⟩
  have hcd : x ≠ d := by
    intro h
    have h2 : x.toNat ^^^ t = x.toNat ^^^ 0 := by rw [← hd, ← h, Nat.xor_zero]
    have := xor_cancel_l h2
    omega
  rw [← hd] at hxr
  have hsplit : r.encV.1 = r.encV.1.take k ++ x :: r.encV.1.drop (k + 1) := by
    obtain ⟨h9, h8⟩ := List.getElem?_eq_some_iff.1 hx
    rw [← h8]
    simp
  obtain ⟨eT, hT1, hT2⟩ := turned_none hc hcd hsplit
  have hset : r.encV.1.set k d = r.encV.1.take k ++ d :: r.encV.1.drop (k + 1) := List.set_eq_take_append_cons_drop .. |>.trans (if_pos hkT)
  rw [← hset] at hT1
  have D1 := Lib.hid (fun w => dec_all (r.encV.1.set k d) w (by rw [List.length_set]; exact hL))
  rw [hT1] at D1
  unfold DecPost Rc.val at D1
  dsimp only at D1
  simp only [e1, e2, e3, e4, e5] at D1
  obtain ⟨capf, Wf, hcv, hkW, hsW, hcW, hfW⟩ := bytes_of r.encV.1
  have hset2 : ∀ (w : World) (b cap : Nat), b = w.heap.size → (convert 41 9 (.slice (some ⟨b, 0, none⟩) r.encV.1.length cap)).run Try.prog ((Wf w).setCell ⟨b, k, none⟩ (.int .u8 d.toNat)) = .ok (.string (str (r.encV.1.set k d))) ((Wf w).setCell ⟨b, k, none⟩ (.int .u8 d.toNat)) := by
    rintro w b cap rfl
    exact string_turned (Wf w) _ w.heap.size r.encV.1.length cap k r.encV.1 d rfl rfl (fun j c' hj => hcW w j c' hj)
  have hck : ∀ (w : World) (b : Nat), b = w.heap.size → (Wf w).cell? ⟨b, k, none⟩ = some (.int .u8 x.toNat) := by
    rintro w b rfl
    exact hcW w k x hx
  have hfk : ∀ (w : World) (b : Nat), b = w.heap.size → (Wf w).frozen? ⟨b, k, none⟩ = false := by
    rintro w b rfl
    exact hfW w k hkT
  have hKW : Hid (∀ (w : World) (b : Nat), b = w.heap.size → Keeps [] w ((Wf w).setCell ⟨b, k, none⟩ (.int .u8 d.toNat))) := fun w b hb => (hkW w).setK _ _ _ (by omega)
  have b1 : decide ((k : Int) < (r.encV.1.length : Int)) = true := decide_eq_true (by omega)
  have b1' : decide (k < r.encV.1.length) = true := decide_eq_true (by omega)
  have b2 : ((t : Int) == 0) = false := by rw [beq_eq_false_iff_ne]; omega
  have b2' : ((t : Int) != 0) = true := by rw [bne_iff_ne]; omega
  have b3 : ¬ ((t : Int) = 0) := by omega
  have b4 : (k : Int) < (r.encV.1.length : Int) := by omega
  have b5 : ¬ (r.encV.1.length : Int) ≤ (k : Int) := by omega
  have b6 : (0 : Int) ≤ (k : Int) := by omega
  have q1 : (eT == 0) = false := by rw [beq_eq_false_iff_ne]; omega
  generalize r.encV.1.set k d = TT at *
  clear hx hcd hd hxl hkW hcW hfW ht0 ha1 hkT ht1 hT1 hT2 hset hsplit
  unfold Rc.val at *
  unfold boxed at CB
  unfold rbox at *
  obtain ⟨ad, cap, rfl, _⟩ := hr.at_
  rcases hc1 with hc1 | ⟨hc1, hc2⟩
  all_goals
    try have c1 : decide (0 ≤ c) = false := decide_eq_false (by omega)
    try have c1 : decide (0 ≤ c) = true := decide_eq_true (by omega)
    try have c2 : decide (c < (r.encV.1.length : Int)) = false := decide_eq_false (by omega)
    generalize r.encV.1 = EA at *
    (try clear hc1)
    (try clear hc2)
    clear hr hG hf hc hEn2
    go_enter Try.func4, Try.ntmps4
    go_wp2_with (first
      | (go_at_call 9; (with_reducible refine (Fe.out _ Kr).mono ?_); rintro e w1 ⟨rfl, k1⟩; replace Kr := KT Kr k1; clear k1; (try clear d0 d1 d2 d3 d4 d5 g0 g1); obtain ⟨d0, d1, d2, d3, d4, d5⟩ := CB.out _ Kr; obtain ⟨g0, g1⟩ := CC.out _ Kr)
      | (go_at_call 12; (with_reducible refine (Pl.out _ Kr).mono ?_); rintro e w1 ⟨rfl, k1⟩; replace Kr := KT Kr k1; clear k1; (try clear d0 d1 d2 d3 d4 d5 g0 g1); obtain ⟨d0, d1, d2, d3, d4, d5⟩ := CB.out _ Kr; obtain ⟨g0, g1⟩ := CC.out _ Kr)
      | (go_at_call 11; (with_reducible refine (Rk.out _ Kr).mono ?_); rintro e w1 ⟨rfl, k1⟩; replace Kr := KT Kr k1; clear k1; (try clear d0 d1 d2 d3 d4 d5 g0 g1); obtain ⟨d0, d1, d2, d3, d4, d5⟩ := CB.out _ Kr; obtain ⟨g0, g1⟩ := CC.out _ Kr)
      | (go_at_call 13; (with_reducible refine (En.out _ Kr).mono ?_); rintro e wE ⟨rfl, k1⟩; replace Kr := KT Kr k1; clear k1; (try clear d0 d1 d2 d3 d4 d5 g0 g1); obtain ⟨d0, d1, d2, d3, d4, d5⟩ := CB.out _ Kr; obtain ⟨g0, g1⟩ := CC.out _ Kr)
      | (go_at_call 18; (with_reducible refine (D1.out _).mono ?_); rintro e w5 ⟨sxx, Gxx, rfl, hgx, hGx, k1⟩; have Hx := Lib.hid hgx; obtain ⟨adx, capx, rfl, _⟩ := hgx.at_; rw [show Rc.zero.sp.length = 0 from rfl] at *; replace Kr := (KT (KT Kr (hKW.out _ _ (by first | rfl | simp))) k1).alloc (.cells #[.int .i64 0, .int .i64 0, .int .i64 0, .slice adx 0 capx, .string (str []), .string (str [])] 24); clear hgx hGx k1)
      | (go_at_call 19; (with_reducible refine (No.out _ _ _ (Hx.out.newer ((Keeps.refl [] w5).alloc (.cells #[.int .i64 0, .int .i64 0, .int .i64 0, .slice adx 0 capx, .string (str []), .string (str [])] 24)))).mono ?_); rintro e w9 ⟨rfl, k1⟩; replace Kr := KT Kr k1; clear k1)
      | (go_at_call 10; (with_reducible refine (Aw.out _).mono ?_); rintro e w1 ⟨rfl, k1⟩; replace Kr := KT Kr k1; clear k1))
    go_ret
    exact ⟨rfl, KT K0.out Kr⟩

set_option maxHeartbeats 8000000 in
theorem walk_good11 (r : Rc) (sv : Value) (G : List Nat) (a c : Int) (t : Nat) (W : World) (hr : r.good W sv G) (hG : ∀ k, k ∈ G → k < W.heap.size) (hf : fewB r = true) (hc : r.check = 0) (ht1 : t < 256) (ht0 : t ≠ 0) (ha1 : 0 ≤ a ∧ a < r.encV.1.length) (hc1 : 0 ≤ c ∧ c < r.encV.1.length) : Calls Try.prog 4 #[r.val sv, .agg #[.int .i64 a, .int .i64 c], .int .u8 t] W fun e w' => e = .returned (.bool true) ∧ Keeps [] W w' := by
  have K0 := Lib.hid (((Keeps.refl [] W).alloc (rbox r sv)).alloc (.cells #[.int .i64 a, .int .i64 c] 40))
  have Kr := Keeps.refl [] ((W.alloc (rbox r sv)).alloc (.cells #[.int .i64 a, .int .i64 c] 40))
  have CB : Hid (∀ w', Keeps [] ((W.alloc (rbox r sv)).alloc (.cells #[.int .i64 a, .int .i64 c] 40)) w' → boxed w' W.heap.size r sv) := fun w' k => (let h := (cells6 (two_new k).1).1; ⟨h.1, h.2.1, h.2.2.1, h.2.2.2.1, h.2.2.2.2.1, h.2.2.2.2.2⟩)
  have CC : Hid (∀ w', Keeps [] ((W.alloc (rbox r sv)).alloc (.cells #[.int .i64 a, .int .i64 c] 40)) w' → w'.cell? ⟨W.heap.size + 1, 0, none⟩ = some (.int .i64 a) ∧ w'.cell? ⟨W.heap.size + 1, 1, none⟩ = some (.int .i64 c)) := fun w' k => ⟨cell_of_heap (two_new k).2 0, cell_of_heap (two_new k).2 1⟩
  have Fe : Hid (∀ w', Keeps [] ((W.alloc (rbox r sv)).alloc (.cells #[.int .i64 a, .int .i64 c] 40)) w' → _) := fun w' k => few_any r sv G w' (hr.newer (K0.out.trans k (by simp)))
  have Pl : Hid (∀ w', Keeps [] ((W.alloc (rbox r sv)).alloc (.cells #[.int .i64 a, .int .i64 c] 40)) w' → _) := fun w' k => plain_any r sv G w' (hr.newer (K0.out.trans k (by simp)))
  have Rk : Hid (∀ w', Keeps [] ((W.alloc (rbox r sv)).alloc (.cells #[.int .i64 a, .int .i64 c] 40)) w' → _) := fun w' k => rcheck_any r sv G w' (hr.newer (K0.out.trans k (by simp)))
  have En : Hid (∀ w', Keeps [] ((W.alloc (rbox r sv)).alloc (.cells #[.int .i64 a, .int .i64 c] 40)) w' → _) := fun w' k => encode_any r sv G w' (hr.newer (K0.out.trans k (by simp))) (fun x hx => by have := hG x hx; have := (K0.out.trans k (by simp)).size; omega)
  have Aw := Lib.hid (fun w => awake_any w)
  have hl := enc_allS hc
  obtain ⟨d1', d2'⟩ := data_len hc
  obtain ⟨hok, hdl, _⟩ := Rc.check_ok hc
  have hsb := secs_bd (hok.len (crcMore 0 r.dt))
  have hall : r.allS = Rc.secs (r.bodyB (crcMore 0 r.dt)).length + r.dt.length / 64 := rfl
  have hL : r.encV.1.length ≤ 100000 := by omega
  have hEn2 : r.encV.2 = 0 := by rw [enc_shape hc]
  clear hl d1' d2' hok hdl hsb hall
  have No := Lib.hid (fun v G w h => none_any v G w h)
  have e1 : Rc.zero.ep = 0 := rfl
  have e2 : Rc.zero.nr = 0 := rfl
  have e3 : Rc.zero.kd = 0 := rfl
  have e4 : Rc.zero.dt = [] := rfl
  have e5 : Rc.zero.tx = [] := rfl
  have e6 : Rc.zero.sp.length = 0 := rfl
  unfold Rc.val at No
  simp only [e1, e2, e3, e4, e5] at No
  unfold fewB at hf
  rw [hf] at Fe
  rw [hc] at Rk
  rw [hEn2] at En
  have hz := str_empty
  obtain ⟨k, rfl⟩ : ∃ k : Nat, a = k := ⟨a.toNat, by omega⟩
  have hkT : k < r.encV.1.length := by omega
  obtain ⟨x, hx⟩ : ∃ x, r.encV.1[k]? = some x := ⟨r.encV.1[k], List.getElem?_eq_getElem hkT⟩
  have hxlt := x.toNat_lt
  have hxr : bits .xor .u8 (x.toNat : Int) (t : Int) = ((x.toNat ^^^ t : Nat) : Int) := u8_xor_nat _ _ hxlt (by omega)
  have hxl : x.toNat ^^^ t < 256 := by
    have := Nat.xor_lt_two_pow (n := 8) (show x.toNat < 2 ^ 8 from hxlt) (show t < 2 ^ 8 by omega)
    exact this
  obtain ⟨d, hd⟩ : ∃ d : UInt8, d.toNat = x.toNat ^^^ t := ⟨UInt8.ofNat (x.toNat ^^^ t), by simp only [UInt8.toNat_ofNat']; omega⟩
  have hcd : x ≠ d := by
    intro h
    have h2 : x.toNat ^^^ t = x.toNat ^^^ 0 := by rw [← hd, ← h, Nat.xor_zero]
    have := xor_cancel_l h2
    omega
  rw [← hd] at hxr
  have hsplit : r.encV.1 = r.encV.1.take k ++ x :: r.encV.1.drop (k + 1) := by
    obtain ⟨h9, h8⟩ := List.getElem?_eq_some_iff.1 hx
    rw [← h8]
    simp
  obtain ⟨eT, hT1, hT2⟩ := turned_none hc hcd hsplit
  have hset : r.encV.1.set k d = r.encV.1.take k ++ d :: r.encV.1.drop (k + 1) := List.set_eq_take_append_cons_drop .. |>.trans (if_pos hkT)
  rw [← hset] at hT1
  have D1 := Lib.hid (fun w => dec_all (r.encV.1.set k d) w (by rw [List.length_set]; exact hL))
  rw [hT1] at D1
  unfold DecPost Rc.val at D1
  dsimp only at D1
  simp only [e1, e2, e3, e4, e5] at D1
  obtain ⟨capf, Wf, hcv, hkW, hsW, hcW, hfW⟩ := bytes_of r.encV.1
  have hset2 : ∀ (w : World) (b cap : Nat), b = w.heap.size → (convert 41 9 (.slice (some ⟨b, 0, none⟩) r.encV.1.length cap)).run Try.prog ((Wf w).setCell ⟨b, k, none⟩ (.int .u8 d.toNat)) = .ok (.string (str (r.encV.1.set k d))) ((Wf w).setCell ⟨b, k, none⟩ (.int .u8 d.toNat)) := by
    rintro w b cap rfl
    exact string_turned (Wf w) _ w.heap.size r.encV.1.length cap k r.encV.1 d rfl rfl (fun j c' hj => hcW w j c' hj)
  have hck : ∀ (w : World) (b : Nat), b = w.heap.size → (Wf w).cell? ⟨b, k, none⟩ = some (.int .u8 x.toNat) := by
    rintro w b rfl
    exact hcW w k x hx
  have hfk : ∀ (w : World) (b : Nat), b = w.heap.size → (Wf w).frozen? ⟨b, k, none⟩ = false := by
    rintro w b rfl
    exact hfW w k hkT
  have hKW : Hid (∀ (w : World) (b : Nat), b = w.heap.size → Keeps [] w ((Wf w).setCell ⟨b, k, none⟩ (.int .u8 d.toNat))) := fun w b hb => (hkW w).setK _ _ _ (by omega)
  have b1 : decide ((k : Int) < (r.encV.1.length : Int)) = true := decide_eq_true (by omega)
  have b1' : decide (k < r.encV.1.length) = true := decide_eq_true (by omega)
  have b2 : ((t : Int) == 0) = false := by rw [beq_eq_false_iff_ne]; omega
  have b2' : ((t : Int) != 0) = true := by rw [bne_iff_ne]; omega
  have b3 : ¬ ((t : Int) = 0) := by omega
  have b4 : (k : Int) < (r.encV.1.length : Int) := by omega
  have b5 : ¬ (r.encV.1.length : Int) ≤ (k : Int) := by omega
  have b6 : (0 : Int) ≤ (k : Int) := by omega
  have q1 : (eT == 0) = false := by rw [beq_eq_false_iff_ne]; omega
  generalize r.encV.1.set k d = TT at *
  clear hx hcd hd hxl hkW hcW hfW ht0 ha1 hkT ht1 hT1 hT2 hset hsplit
  obtain ⟨n, rfl⟩ : ∃ n : Nat, c = n := ⟨c.toNat, by omega⟩
  have hnT : n < r.encV.1.length := by omega
  have D2 := Lib.hid (fun w => dec_all (r.encV.1.take n) w (by rw [List.length_take]; omega))
  rw [cut_none hc hnT] at D2
  unfold DecPost Rc.val at D2
  dsimp only at D2
  simp only [e1, e2, e3, e4, e5] at D2
  have hcut : (str r.encV.1).extract 0 n = str (r.encV.1.take n) := by rw [str_extract, str_data]; simp
  generalize r.encV.1.take n = CC' at *
  have c1 : decide ((n : Int) < (r.encV.1.length : Int)) = true := decide_eq_true (by omega)
  have c2 : decide (n < r.encV.1.length) = true := decide_eq_true (by omega)
  have c3 : (n : Int) < (r.encV.1.length : Int) := by omega
  have c4 : (n : Int) ≤ (r.encV.1.length : Int) := by omega
  have c5 : ¬ (r.encV.1.length : Int) ≤ (n : Int) := by omega
  have c6 : (0 : Int) ≤ (n : Int) := by omega
  have c7 : decide (n ≤ r.encV.1.length) = true := decide_eq_true (by omega)
  unfold Rc.val at *
  unfold boxed at CB
  unfold rbox at *
  obtain ⟨ad, cap, rfl, _⟩ := hr.at_
  generalize r.encV.1 = EA at *
  clear hc1 hr hG hf hc hEn2
  go_enter Try.func4, Try.ntmps4
  go_wp2_with (first
    | (go_at_call 9; (with_reducible refine (Fe.out _ Kr).mono ?_); rintro e w1 ⟨rfl, k1⟩; replace Kr := KT Kr k1; clear k1; (try clear d0 d1 d2 d3 d4 d5 g0 g1); obtain ⟨d0, d1, d2, d3, d4, d5⟩ := CB.out _ Kr; obtain ⟨g0, g1⟩ := CC.out _ Kr)
    | (go_at_call 12; (with_reducible refine (Pl.out _ Kr).mono ?_); rintro e w1 ⟨rfl, k1⟩; replace Kr := KT Kr k1; clear k1; (try clear d0 d1 d2 d3 d4 d5 g0 g1); obtain ⟨d0, d1, d2, d3, d4, d5⟩ := CB.out _ Kr; obtain ⟨g0, g1⟩ := CC.out _ Kr)
    | (go_at_call 11; (with_reducible refine (Rk.out _ Kr).mono ?_); rintro e w1 ⟨rfl, k1⟩; replace Kr := KT Kr k1; clear k1; (try clear d0 d1 d2 d3 d4 d5 g0 g1); obtain ⟨d0, d1, d2, d3, d4, d5⟩ := CB.out _ Kr; obtain ⟨g0, g1⟩ := CC.out _ Kr)
    | (go_at_call 13; (with_reducible refine (En.out _ Kr).mono ?_); rintro e wE ⟨rfl, k1⟩; replace Kr := KT Kr k1; clear k1; (try clear d0 d1 d2 d3 d4 d5 g0 g1); obtain ⟨d0, d1, d2, d3, d4, d5⟩ := CB.out _ Kr; obtain ⟨g0, g1⟩ := CC.out _ Kr)
    | (go_at_call 18; (with_reducible refine (D1.out _).mono ?_); rintro e w5 ⟨sxx, Gxx, rfl, hgx, hGx, k1⟩; have Hx := Lib.hid hgx; obtain ⟨adx, capx, rfl, _⟩ := hgx.at_; rw [show Rc.zero.sp.length = 0 from rfl] at *; replace Kr := (KT (KT Kr (hKW.out _ _ (by first | rfl | simp))) k1).alloc (.cells #[.int .i64 0, .int .i64 0, .int .i64 0, .slice adx 0 capx, .string (str []), .string (str [])] 24); clear hgx hGx k1)
    | (go_at_call 19; (with_reducible refine (No.out _ _ _ (Hx.out.newer ((Keeps.refl [] w5).alloc (.cells #[.int .i64 0, .int .i64 0, .int .i64 0, .slice adx 0 capx, .string (str []), .string (str [])] 24)))).mono ?_); rintro e w9 ⟨rfl, k1⟩; replace Kr := KT Kr k1; clear k1)
    | (go_at_call 18; (with_reducible refine (D2.out _).mono ?_); rintro e w6 ⟨sxy, Gxy, rfl, hgx, hGx, k1⟩; have Hy := Lib.hid hgx; obtain ⟨ady, capy, rfl, _⟩ := hgx.at_; rw [show Rc.zero.sp.length = 0 from rfl] at *; replace Kr := (KT Kr k1).alloc (.cells #[.int .i64 0, .int .i64 0, .int .i64 0, .slice ady 0 capy, .string (str []), .string (str [])] 24); clear hgx hGx k1)
    | (go_at_call 19; (with_reducible refine (No.out _ _ _ (Hy.out.newer ((Keeps.refl [] w6).alloc (.cells #[.int .i64 0, .int .i64 0, .int .i64 0, .slice ady 0 capy, .string (str []), .string (str [])] 24)))).mono ?_); rintro e w9 ⟨rfl, k1⟩; replace Kr := KT Kr k1; clear k1)
    | (go_at_call 10; (with_reducible refine (Aw.out _).mono ?_); rintro e w1 ⟨rfl, k1⟩; replace Kr := KT Kr k1; clear k1))
  go_ret
  exact ⟨rfl, KT K0.out Kr⟩

theorem walk_any (s : RcV) (a c : Int) (t : Int) (W : World) (gs : s.good W) (h0 : 0 ≤ t) (h1 : t ≤ 255) : Calls Try.prog 4 #[.agg s.vals.toArray, .agg #[.int .i64 a, .int .i64 c], .int .u8 t] W fun e w' => e = .returned (.bool true) ∧ Keeps [] W w' := by
  obtain ⟨G, hr, hG⟩ := gs
  obtain ⟨t, rfl⟩ : ∃ n : Nat, t = n := ⟨t.toNat, by omega⟩
  have ht : t < 256 := by omega
  by_cases hf : fewB s.r = true
  · by_cases hc : s.r.check = 0
    · by_cases ha : t ≠ 0 ∧ 0 ≤ a ∧ a < s.r.encV.1.length
      · by_cases hb : 0 ≤ c ∧ c < s.r.encV.1.length
        · exact walk_good11 s.r s.sv G a c t W hr hG hf hc ht ha.1 ha.2 hb
        · exact walk_good10 s.r s.sv G a c t W hr hG hf hc ht ha.1 ha.2 (by omega)
      · by_cases hb : 0 ≤ c ∧ c < s.r.encV.1.length
        · exact walk_good01 s.r s.sv G a c t W hr hG hf hc ht (by omega) hb
        · exact walk_good00 s.r s.sv G a c t W hr hG hf hc ht (by omega) (by omega)
    · exact walk_bad s.r s.sv G a c t W hr hG hf hc
  · exact walk_many s.r s.sv G a c t W hr hG (by simpa using hf)
-- ROWEND
set_option maxRecDepth 100000 in
theorem lifted (os : Os) (started : os.Started) (H : Type) (enc : TypeId × Value → H) :
    ReturnsInHanded {} Try.checked os 4 .any (Rows.recordToldSpec.pre6 enc Try.prog Try.f4 Rows.recordToldRow.domain false) (Rows.recordToldSpec.post enc Try.prog Try.f4 false true false false) := by
  refine returnsInHanded_of_change (C := Try.checked) Try.own started (by kernel_rfl) Try.func4
    (ChangeSpec.witness6 (enc := enc) (C := Try.checked) false ⟨#[], #[.agg #[.int .i64 0, .int .i64 0, .int .i64 0, .slice none 0 0, .string .empty, .string .empty], .agg #[.int .i64 0, .int .i64 0], .int .u8 0], []⟩ 8 (by kernel_rfl) (by kernel_rfl) (by kernel_rfl) (by kernel_rfl)) ?_
  intro W base args ds gs before hval0 hW _ _
  have hval : ∀ (j : Nat) t v, Try.f4.params[j]? = some t → args[j]? = some v → Value.okWide Try.prog W .any base t v := hval0
  have hW' := hW
  obtain ⟨p, q, hA0, hV, rfl, hfz, hnd⟩ := hW
  have hA : DataW.TrodAll enc Try.prog W 0 (fun _ => true) true Try.f4.params.toList args.toList ds p := hA0
  rw [Try.params4] at hA hval
  obtain ⟨v0, vs0, d0, ds0, p0, q0, hargs, rfl, rfl, h0, r0⟩ := trodAll_cons hA
  obtain ⟨v1, vs1, d1, ds1, p1, q1, rfl, rfl, rfl, h1, r1⟩ := trodAll_cons r0
  obtain ⟨v2, vs2, d2, ds2, p2, q2, rfl, rfl, rfl, h2, r2⟩ := trodAll_cons r1
  obtain ⟨rfl, rfl, rfl⟩ := trodAll_nil r2
  obtain rfl : args = #[v0, v1, v2] := by cases args; simp_all
  obtain ⟨cs0, n0, x0, rfl, e0⟩ := open_agg Try.underlying24 (hval 0 24 v0 rfl rfl) h0
  obtain ⟨s, c0, gs⟩ := elem_rec e0
  obtain rfl : cs0 = (s.vals).toArray := by rw [← c0]
  obtain ⟨ta, tb, rfl, ⟨wat0, wat1⟩, wbt0, wbt1⟩ := open_pair (by kernel_rfl) (by kernel_rfl) Try.underlying40 Try.underlying3 (hval 1 40 v1 rfl rfl) h1
  obtain ⟨u, rfl, rfl, rfl, wu⟩ := open_int Try.underlying5 (hval 2 5 v2 rfl rfl) h2
  obtain ⟨wu0, wu1⟩ := wf_u8 wu
  refine (walk_any s ta tb u W gs wu0 wu1).mono fun e W' ⟨he, hk⟩ => ?_
  subst he
  exact ⟨_, rfl, law_end Try.laidOut (by kernel_rfl) rfl rfl Try.underlying4 hW' rfl hk⟩

theorem proved : Rows.RecordToldSaid :=
  OpenClaim.holds_of_wide 4 Try.f4 rfl rfl rfl rfl rfl rfl rfl ⟨rfl, rfl, rfl, rfl, rfl⟩ rfl rfl rfl rfl rfl (by kernel_rfl) Try.func4 (by kernel_rfl)
    (of_decide_eq_true (by kernel_rfl)) (by unfold Func.isWrapper; first | (rw [if_pos (by decide +kernel)]; kernel_rfl) | (rw [if_neg (by decide +kernel)]; exact ⟨rfl, rfl⟩))
    (fun os started H enc _ => lifted os started H enc)
end Go.Proofs.Ytjebldfmkpfafaa.lawRecordTold
