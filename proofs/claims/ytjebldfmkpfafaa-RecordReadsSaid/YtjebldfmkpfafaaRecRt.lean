/- Layer 10: the reference: told. -/
import Derived.Test.YtjebldfmkpfafaaRecNu
import Derived.Test.YtjebldfmkpfafaaRecR
import Derived.Test.YtjebldfmkpfafaaBytesOf
namespace Go.Proofs.Ytjebldfmkpfafaa
open Go.RowKit
set_option maxRecDepth 100000

def zq : Obj := .cells #[.int .i64 0, .int .i64 0, .int .i64 0, .slice none 0 0, .string (str []), .string (str [])] 29
def pairsK (m : List Nat) : Nat → List Sp
  | 0 => []
  | k + 1 => pairsK m k ++ [((m.getD (2 * k) 0 : Int), (m.getD (2 * k + 1) 0 : Int))]
theorem pairsK_len (m : List Nat) : ∀ k, (pairsK m k).length = k
  | 0 => rfl
  | k + 1 => by rw [pairsK, List.length_append, pairsK_len m k]; rfl
theorem pairsK_bd {m : List Nat} (h : ∀ x, x ∈ m → x ≤ 1125899906842624) : ∀ k, ∀ x, x ∈ pairsK m k → 0 ≤ x.1 ∧ x.1 ≤ 1125899906842624 ∧ 0 ≤ x.2 ∧ x.2 ≤ 1125899906842624
  | 0, x, hx => by simp [pairsK] at hx
  | k + 1, x, hx => by
    rw [pairsK, List.mem_append, List.mem_singleton] at hx
    rcases hx with hx | hx
    · exact pairsK_bd h k x hx
    · have hg : ∀ j, m.getD j 0 ≤ 1125899906842624 := fun j => by
        rw [List.getD_eq_getElem?_getD]
        cases hj : m[j]? with
        | none => simp
        | some y => exact h y (List.mem_of_getElem? hj)
      have h1 := hg (2 * k)
      have h2 := hg (2 * k + 1)
      rw [hx]
      dsimp only
      omega

/-- The record that a body tells, and its data's check sum. -/
def toldQ (b : List UInt8) : Option (Rc × List UInt8) :=
  (numK b 4).bind fun x =>
    if x.1.getD 2 0 = 3 then (if (b.drop x.2).length < x.1.getD 3 0 then none else some (⟨(x.1.getD 0 0 : Nat), (x.1.getD 1 0 : Nat), 3, [], [], (b.drop x.2).take (x.1.getD 3 0)⟩, []))
    else if 64 < x.1.getD 3 0 then none
    else (numK (b.drop x.2) (2 * x.1.getD 3 0)).bind fun y =>
      if x.1.getD 2 0 = 1 then (if (b.drop x.2).length < y.2 + 4 then none else some (⟨(x.1.getD 0 0 : Nat), (x.1.getD 1 0 : Nat), 1, pairsK y.1 (x.1.getD 3 0), [], []⟩, ((b.drop x.2).drop y.2).take 4))
      else some (⟨(x.1.getD 0 0 : Nat), (x.1.getD 1 0 : Nat), (x.1.getD 2 0 : Nat), pairsK y.1 (x.1.getD 3 0), [], []⟩, [])

def RTold (b : List UInt8) (w : World) (e : Ending) (w' : World) : Prop :=
  (toldQ b = none ∧ ∃ (r : Rc) (ad : Option Addr) (n cap : Nat), e = .returned (.tuple #[r.val (.slice ad n cap), .string (str []), .bool false]) ∧ Keeps [] w w') ∨
  (∃ r sum sv G, toldQ b = some (r, sum) ∧ e = .returned (.tuple #[r.val sv, .string (str sum), .bool true]) ∧ r.good w' sv G ∧ (∀ x, x ∈ G → w.heap.size ≤ x ∧ x < w'.heap.size) ∧ Keeps [] w w')

theorem num_no {s : List UInt8} {n : Nat} (w : World) (hs : s.length ≤ 100000) (hn : n ≤ 1000) (h : numK s n = none) :
    Calls Try.prog 66 #[.string (str s), .int .i64 n] w fun e w' => e = .returned (.tuple #[.slice none 0 0, .int .i64 0, .bool false]) ∧ Keeps [] w w' := by
  refine (numbers_any s n w hs hn).mono fun e w' hh => ?_
  rcases hh with ⟨_, h1, h2⟩ | ⟨l, p, v, h1, _⟩
  · exact ⟨h1, h2⟩
  · rw [h] at h1; cases h1
theorem SlAt.ownR {w : World} {e : TypeId} {v : Value} {n : Nat} {xs : List Value} (h : w.ownsRow 0 e 1 v n xs) : SlAt w v xs v.ownBlock.toList := by
  obtain ⟨hl, h2⟩ := h
  rw [Nat.mul_one] at hl
  rcases h2 with ⟨rfl, rfl⟩ | ⟨g, cap, cur, rfl, _, hh, hnc, _, hsz, ht⟩
  · exact ⟨none, 0, by rw [hl], fun h0 => absurd (List.length_eq_zero_iff.1 hl) h0⟩
  · refine ⟨_, cap, by rw [hl], fun _ => ⟨g, 0, rfl, by simp [Value.ownBlock], fun j u hj => ?_⟩⟩
    rw [Nat.zero_add, cell_of_heap hh]
    rw [← ht, Nat.mul_one] at hj
    have hjl : j < n := by
      have := (List.getElem?_eq_some_iff.1 hj).1
      rw [List.length_take] at this
      omega
    rw [List.getElem?_take_of_lt hjl] at hj
    simpa using hj
theorem num_yes {s : List UInt8} {n p : Nat} {l : List Nat} (w : World) (hs : s.length ≤ 100000) (hn : n ≤ 1000) (h : numK s n = some (l, p)) :
    Calls Try.prog 66 #[.string (str s), .int .i64 n] w fun e w' => ∃ ad cap G, e = .returned (.tuple #[.slice ad n cap, .int .i64 p, .bool true]) ∧ SlAt w' (.slice ad n cap) (l.map natR) G ∧ (∀ x, x ∈ G → w.heap.size ≤ x) ∧ Keeps [] w w' := by
  refine (numbers_any s n w hs hn).mono fun e w' hh => ?_
  rcases hh with ⟨h1, _⟩ | ⟨l', p', v, h1, h2, h3, h4, h5⟩
  · rw [h] at h1; cases h1
  · rw [h, Option.some.injEq, Prod.mk.injEq] at h1
    obtain ⟨rfl, rfl⟩ := h1
    obtain ⟨ad, cap, rfl⟩ := ownsRow_shape h3
    exact ⟨ad, cap, _, h2, SlAt.ownR h3, h4, h5⟩
theorem num_four {s : List UInt8} {a b c d p : Nat} (w : World) (hs : s.length ≤ 100000) (h : numK s 4 = some ([a, b, c, d], p)) :
    Calls Try.prog 66 #[.string (str s), .int .i64 4] w fun e w' => ∃ g off cap, e = .returned (.tuple #[.slice (some ⟨g, off, none⟩) 4 cap, .int .i64 p, .bool true]) ∧ (w'.cell? ⟨g, off, none⟩ = some (.int .i64 a) ∧ w'.cell? ⟨g, off + 1, none⟩ = some (.int .i64 b) ∧ w'.cell? ⟨g, off + 2, none⟩ = some (.int .i64 c) ∧ w'.cell? ⟨g, off + 3, none⟩ = some (.int .i64 d)) ∧ w.heap.size ≤ g ∧ Keeps [] w w' := by
  refine (num_yes (n := 4) w hs (by decide) h).mono fun e w' ⟨ad, cap, G, h1, h2, h3, h4⟩ => ?_
  obtain ⟨ad', cap', hq, hc⟩ := h2
  injection hq with hq1 _ hq2
  subst hq1 hq2
  obtain ⟨g, off, rfl, hg, hcell⟩ := hc (by simp)
  exact ⟨g, off, cap, h1, ⟨hcell 0 _ rfl, hcell 1 _ rfl, hcell 2 _ rfl, hcell 3 _ rfl⟩, h3 g hg, h4⟩

theorem q_more {w w' : World} {c g cap n : Nat} {e1 e2 e3 : Int} {sv : Value} {dt tx : List UInt8} {xs ys : List Value} (h1 : w.heap[c]? = some (.cells #[.int .i64 e1, .int .i64 e2, .int .i64 e3, sv, .string (str dt), .string (str tx)] 29 (0, 0)))
    (h2 : w.ownsRow 0 39 2 sv n xs) (h3 : w'.ownsRow 0 39 2 (.slice (some ⟨g, 0, none⟩) (n + 1) cap) (n + 1) ys) (hc : Chg sv.ownBlock.toList [g] w w') :
    w'.heap[c]? = some (.cells #[.int .i64 e1, .int .i64 e2, .int .i64 e3, sv, .string (str dt), .string (str tx)] 29 (0, 0)) ∧
    (w'.setCell ⟨c, 3, none⟩ (.slice (some ⟨g, 0, none⟩) (n + 1) cap)).heap[c]? = some (.cells #[.int .i64 e1, .int .i64 e2, .int .i64 e3, .slice (some ⟨g, 0, none⟩) (n + 1) cap, .string (str dt), .string (str tx)] 29 (0, 0)) ∧
    (w'.setCell ⟨c, 3, none⟩ (.slice (some ⟨g, 0, none⟩) (n + 1) cap)).ownsRow 0 39 2 (.slice (some ⟨g, 0, none⟩) (n + 1) cap) (n + 1) ys ∧ Keeps (c :: sv.ownBlock.toList) w (w'.setCell ⟨c, 3, none⟩ (.slice (some ⟨g, 0, none⟩) (n + 1) cap)) := by
  have hn := own_neS h1 h2 (by decide)
  have hb := hc.keeps.some h1 hn
  have hn2 := own_neS hb h3 (by decide)
  have hcg : c ≠ g := by simpa [Value.ownBlock] using hn2
  have hk : Keeps [c] w' (w'.setCell ⟨c, 3, none⟩ (.slice (some ⟨g, 0, none⟩) (n + 1) cap)) := (Keeps.refl [c] w').setCell (.inl (by simp)) _
  refine ⟨hb, heap_setCell hb 3 _, own_keep h3 hk (fun x hx => by simp [Value.ownBlock] at hx; subst hx; simpa using hcg.symm), ?_⟩
  exact (hc.keeps.mono (F' := c :: sv.ownBlock.toList) (fun x hx => by simp at hx ⊢; exact .inr hx)).trans hk (fun x hx => .inl (by simp at hx; subst hx; simp))

theorem sp_own {w : World} {v : Value} {l : List Sp} (h3 : w.ownsRow 0 39 2 v l.length (l.flatMap spV)) : SpAt w v l v.ownBlock.toList := by
  have hl : ∀ x, x ∈ l → (spV x).length = 2 := fun _ _ => rfl
  obtain ⟨ad, cap, rfl⟩ := ownsRow_shape h3
  refine ⟨ad, cap, rfl, fun h0 => ?_⟩
  obtain ⟨x0, hx0⟩ : ∃ x0, l[0]? = some x0 := by
    cases hq : l with
    | nil => exact absurd hq h0
    | cons a l => exact ⟨a, rfl⟩
  obtain ⟨g, cap', e1, _, _, _⟩ := own_elem h3 hl rfl hx0
  injection e1 with e2 _ _
  subst e2
  refine ⟨g, 0, rfl, by simp [Value.ownBlock], fun i a hi j u hj => ?_⟩
  obtain ⟨g', cap'', e3, hr, _, _⟩ := own_elem h3 hl rfl hi
  injection e3 with e4 _ _
  injection e4 with e5
  injection e5 with e6 _ _
  subst e6
  rw [Nat.zero_add]
  exact hr j u hj

set_option maxHeartbeats 4000000 in
theorem rtold_a (s : List UInt8) (w : World) (h8 : 8 ≤ s.length) (hs : s.length ≤ 4000) (hN : numK (bodyOfH s) 4 = none) :
    Calls Try.prog 36 #[.string (str s)] w (RTold (bodyOfH s) w) := by
  have hcut : (str s).extract 4 (s.length - 4) = str (bodyOfH s) := by rw [str_extract, str_data]; unfold bodyOfH; rw [show s.length - 4 - 4 = s.length - 8 by omega]
  have hlb : (bodyOfH s).length ≤ 4000 := by unfold bodyOfH; rw [List.length_take]; omega
  have hw1 : IntKind.i64.wrap ((s.length : Int) - 4) = ((s.length - 4 : Nat) : Int) := by rw [IntWalk.i64_in _ ⟨by omega, by omega⟩]; omega
  have hz := str_empty
  have hn1 : (4 : Int) ≤ ((s.length - 4 : Nat) : Int) := by omega
  have hn2 : ((s.length - 4 : Nat) : Int) ≤ (s.length : Int) := by omega
  have hn3 : 4 ≤ s.length - 4 := by omega
  have hn4 : s.length - 4 ≤ s.length := by omega
  have K0 := Lib.hid ((Keeps.refl [] w).alloc zq)
  have Zc : Hid (∀ w', Keeps [] (w.alloc zq) w' → w'.heap[w.heap.size]? = some zq) := fun w' k => k.some (heap_alloc_self w zq) (by simp)
  unfold zq at *
  generalize bodyOfH s = B at *
  have hv : toldQ B = none := by unfold toldQ; rw [hN]; rfl
  have Nu : Hid (∀ w, Calls Try.prog 66 #[.string (str B), .int .i64 4] w fun e w' => e = .returned (.tuple #[.slice none 0 0, .int .i64 0, .bool false]) ∧ Keeps [] w w') := fun w => num_no (n := 4) w (by omega) (by decide) hN
  clear hN
  go_enter Try.func36, Try.ntmps36
  go_wp2_with (first
    | (go_at_call 66; (with_reducible refine (Nu.out _).mono ?_); rintro e w1 ⟨rfl, k1⟩; have KA := Lib.hid k1; have HR := Lib.hid (Zc.out _ KA.out); obtain ⟨⟨q0, q1, q2, q3, q4, q5⟩, f0, f1, f2, f3, f4, f5⟩ := cells6 HR.out))
  refine bodyPost_ret (results_row_tmp2 rfl rfl (heap_set6 HR.out _ _ _ _ _ _) Try.underlying29 rfl (by kernel_rfl)) rfl (.inl ⟨hv, Rc.zero, none, 0, 0, rfl, keeps_set6 (KT K0.out KA.out) (Nat.le_refl _) _ _ _ _ _ _⟩)

set_option maxHeartbeats 4000000 in
theorem rtold_b1 (s : List UInt8) (w : World) (h8 : 8 ≤ s.length) (hs : s.length ≤ 4000) (a b c d p : Nat) (hN : numK (bodyOfH s) 4 = some ([a, b, c, d], p)) (hc3 : c = 3) (hD : ((bodyOfH s).drop p).length < d) :
    Calls Try.prog 36 #[.string (str s)] w (RTold (bodyOfH s) w) := by
  have hcut : (str s).extract 4 (s.length - 4) = str (bodyOfH s) := by rw [str_extract, str_data]; unfold bodyOfH; rw [show s.length - 4 - 4 = s.length - 8 by omega]
  have hlb : (bodyOfH s).length ≤ 4000 := by unfold bodyOfH; rw [List.length_take]; omega
  have hw1 : IntKind.i64.wrap ((s.length : Int) - 4) = ((s.length - 4 : Nat) : Int) := by rw [IntWalk.i64_in _ ⟨by omega, by omega⟩]; omega
  have hz := str_empty
  have hn1 : (4 : Int) ≤ ((s.length - 4 : Nat) : Int) := by omega
  have hn2 : ((s.length - 4 : Nat) : Int) ≤ (s.length : Int) := by omega
  have hn3 : 4 ≤ s.length - 4 := by omega
  have hn4 : s.length - 4 ≤ s.length := by omega
  have K0 := Lib.hid ((Keeps.refl [] w).alloc zq)
  have Zc : Hid (∀ w', Keeps [] (w.alloc zq) w' → w'.heap[w.heap.size]? = some zq) := fun w' k => k.some (heap_alloc_self w zq) (by simp)
  unfold zq at *
  generalize bodyOfH s = B at *
  have hv : toldQ B = none := by
    unfold toldQ
    rw [hN, Option.bind_some]
    dsimp only
    simp only [List.getD_cons_zero, List.getD_cons_succ]
    rw [if_pos hc3, if_pos hD]
  have Hv := Lib.hid hv
  clear hv
  obtain ⟨hpB, _, habd⟩ := numK_facts hN
  have ha : a ≤ 1125899906842624 := habd a (by simp)
  have hb : b ≤ 1125899906842624 := habd b (by simp)
  have hc : c ≤ 1125899906842624 := habd c (by simp)
  have hd : d ≤ 1125899906842624 := habd d (by simp)
  clear habd
  have Nu := Lib.hid (fun w => num_four w (by omega) hN)
  have hcut2 : (str B).extract p B.length = str (B.drop p) := by rw [str_extract, str_data, ← List.length_drop, List.take_length]
  have hlD : (B.drop p).length ≤ 4000 := by rw [List.length_drop]; omega
  have hp1 : (p : Int) ≤ (B.length : Int) := by omega
  have hp2 : decide (p ≤ B.length) = true := decide_eq_true hpB
  obtain ⟨zv, hzs, hzr⟩ := zero_any (P := Try.prog) (e := 29) (n := 6) (by kernel_rfl)
  have Hzs := Lib.hid hzs
  have Hzr := Lib.hid hzr
  clear hN hzs hzr
  generalize B.drop p = D at *
  have hbD : decide ((D.length : Int) < (d : Int)) = true := decide_eq_true (by omega)
  have hbN : decide (D.length < d) = true := decide_eq_true hD
  have hc3b : ((c : Int) == 3) = true := by rw [beq_iff_eq]; omega
  clear hD hc3
  go_enter Try.func36, Try.ntmps36
  go_wp2_with (first
    | (go_at_call 66; (with_reducible refine (Nu.out _).mono ?_); rintro e w1 ⟨g, off, cap1, rfl, hrow, hg1, k1⟩; have KA := Lib.hid k1; have Hrow := Lib.hid hrow; have Hg1 := Lib.hid hg1; clear hrow hg1 k1))
  obtain ⟨Ws, hW0, hW1, hW2⟩ : ∃ Ws : Nat → World, Ws 0 = w1.drewN 1 ∧ Ws 1 = (w1.drewN 1).alloc (.cells zv.cells 29) ∧ Ws 2 = (w1.drewN 1).alloc (.cells #[.int .i64 (a : Nat), .int .i64 (b : Nat), .int .i64 (c : Nat), .slice none 0 0, .string (str []), .string (str [])] 29) := ⟨fun | 0 => _ | 1 => _ | _ => _, rfl, rfl, rfl⟩
  have kd0 : Keeps [] w1 (w1.drewN 1) := (Keeps.refl [] w1).drewN 1
  have x0 : Keeps [] w1 (Ws 0) := by rw [hW0]; exact kd0
  have x1 : Keeps [] w1 (Ws 1) := by rw [hW1]; exact kd0.alloc _
  have x2 : Keeps [] w1 (Ws 2) := by rw [hW2]; exact kd0.alloc _
  obtain ⟨y00, y01, y02, y03⟩ := Hrow.out
  have a0 := x0.cell0 y00
  have a1 := x0.cell0 y01
  have a2 := x0.cell0 y02
  have b0 := x1.cell0 y00
  have b1 := x1.cell0 y01
  have b2 := x1.cell0 y02
  have r1 : ∀ (ev : Operand → Value) (o : Oper), o.op = .alloc 29 → (execOp ev o).run Try.prog (Ws 0) = .ok (.value (.pointer (some ⟨w1.heap.size, 0, none⟩))) (Ws 1) := fun ev o ho => by
    have h := exec_alloc (P := Try.prog) (Ws 0) 29 ev o ho zv Hzr.out
    rw [hW0] at h
    rw [hW0, hW1]
    exact h
  have r2 : ∀ (ev : Operand → Value) (o : Oper) (p x : Operand), o.op = .store 29 p x → ev p = .pointer (some ⟨w1.heap.size, 0, none⟩) → ev x = .agg #[.int .i64 (a : Nat), .int .i64 (b : Nat), .int .i64 (c : Nat), .slice none 0 0, .string (str []), .string (str [])] → (execOp ev o).run Try.prog (Ws 1) = .ok .skip (Ws 2) := fun ev o p x ho hp hx => by
    have h := exec_storeNew (P := Try.prog) (w1.drewN 1) 29 zv.cells [.int .i64 (a : Nat), .int .i64 (b : Nat), .int .i64 (c : Nat), .slice none 0 0, .string (str []), .string (str [])] (by kernel_rfl) Hzs.out (by simp [Value.oneCell']) ev o p x ho hp hx
    rw [hW1, hW2]
    exact h
  have HB2 : Hid ((Ws 2).heap[w1.heap.size]? = some (.cells #[.int .i64 (a : Nat), .int .i64 (b : Nat), .int .i64 (c : Nat), .slice none 0 0, .string (str []), .string (str [])] 29)) := by unfold Hid; rw [hW2]; exact heap_at rfl
  have X2 := Lib.hid x2
  have R1 := Lib.hid r1
  have R2 := Lib.hid r2
  have HW0 := Lib.hid hW0
  clear x0 x1 x2 r1 r2 hW0 hW1 hW2 kd0 y00 y01 y02 y03
  refine region_at Ws [10, 11] (by kernel_rfl) (by kernel_rfl) HW0.out.symm ?_
  iterate 2 (refine atP (by rfl) (fun K hK => ?_); go_simp; refine hK _ ?_; clear hK K)
  (refine atR [0, 1] (by kernel_rfl) (fun K hK => ?_); go_simp; refine hK _ ?_; clear hK K)
  iterate 2 (refine atP (by rfl) (fun K hK => ?_); go_simp; refine hK _ ?_; clear hK K)
  (refine atR [0, 1] (by kernel_rfl) (fun K hK => ?_); go_simp; refine hK _ ?_; clear hK K)
  iterate 2 (refine atP (by rfl) (fun K hK => ?_); go_simp; refine hK _ ?_; clear hK K)
  (refine atR [0, 1] (by kernel_rfl) (fun K hK => ?_); go_simp; refine hK _ ?_; clear hK K)
  (refine atP (by rfl) (fun K hK => ?_); go_simp; refine hK _ ?_; clear hK K)
  refine atW 0 rfl (by decide) rfl _ (R1.out _ _ (by exact rfl)) ?_
  refine atS 1 rfl (by decide) rfl (R2.out _ _ _ _ (by exact rfl) (by rfl) (by rfl)) ?_
  refine wpAt_nil ?_
  have KB := Lib.hid (KT KA.out X2.out)
  have Hz1 : Hid (w.heap.size < w1.heap.size) := (Array.getElem?_eq_some_iff.1 (Zc.out _ KA.out)).1
  have Hg2 : Hid (g < w1.heap.size) := World.block_lt_of_cell? w1 _ Hrow.out.1
  have Row2 : Hid _ := Hrow.out
  clear a0 a1 a2 b0 b1 b2 R1 R2 HW0 KA
  obtain ⟨y00, y01, y02, y03⟩ := Hrow.out
  have l0 := X2.out.cell0 y00
  have l3 := X2.out.cell0 y03
  obtain ⟨⟨c0, c1, c2, c3, c4, c5⟩, g0, g1, g2, g3, g4, g5⟩ := cells6 HB2.out
  have HR := Lib.hid (Zc.out _ KB.out)
  obtain ⟨⟨q0, q1, q2, q3, q4, q5⟩, f0, f1, f2, f3, f4, f5⟩ := cells6 HR.out
  have hne1 : w.heap.size ≠ w1.heap.size := Nat.ne_of_lt Hz1.out
  clear y00 y01 y02 y03 Hrow
  go_wp2
  refine bodyPost_ret (results_row_tmp2 rfl rfl (heap_set6 HR.out _ _ _ _ _ _) Try.underlying29 rfl (by kernel_rfl)) rfl (.inl ⟨Hv.out, ⟨(a : Nat), (b : Nat), (c : Nat), [], [], []⟩, none, 0, 0, rfl, keeps_set6 (KT K0.out KB.out) (Nat.le_refl _) _ _ _ _ _ _⟩)

set_option maxHeartbeats 4000000 in
theorem rtold_b2 (s : List UInt8) (w : World) (h8 : 8 ≤ s.length) (hs : s.length ≤ 4000) (a b c d p : Nat) (hN : numK (bodyOfH s) 4 = some ([a, b, c, d], p)) (hc3 : c = 3) (hD : ¬ ((bodyOfH s).drop p).length < d) :
    Calls Try.prog 36 #[.string (str s)] w (RTold (bodyOfH s) w) := by
  have hcut : (str s).extract 4 (s.length - 4) = str (bodyOfH s) := by rw [str_extract, str_data]; unfold bodyOfH; rw [show s.length - 4 - 4 = s.length - 8 by omega]
  have hlb : (bodyOfH s).length ≤ 4000 := by unfold bodyOfH; rw [List.length_take]; omega
  have hw1 : IntKind.i64.wrap ((s.length : Int) - 4) = ((s.length - 4 : Nat) : Int) := by rw [IntWalk.i64_in _ ⟨by omega, by omega⟩]; omega
  have hz := str_empty
  have hn1 : (4 : Int) ≤ ((s.length - 4 : Nat) : Int) := by omega
  have hn2 : ((s.length - 4 : Nat) : Int) ≤ (s.length : Int) := by omega
  have hn3 : 4 ≤ s.length - 4 := by omega
  have hn4 : s.length - 4 ≤ s.length := by omega
  have K0 := Lib.hid ((Keeps.refl [] w).alloc zq)
  have Zc : Hid (∀ w', Keeps [] (w.alloc zq) w' → w'.heap[w.heap.size]? = some zq) := fun w' k => k.some (heap_alloc_self w zq) (by simp)
  unfold zq at *
  generalize bodyOfH s = B at *
  have hv : toldQ B = some (⟨a, b, c, [], [], (B.drop p).take d⟩, []) := by
    unfold toldQ
    rw [hN, Option.bind_some]
    dsimp only
    simp only [List.getD_cons_zero, List.getD_cons_succ]
    rw [if_pos hc3, if_neg hD, hc3]; rfl
  have Hv := Lib.hid hv
  clear hv
  obtain ⟨hpB, _, habd⟩ := numK_facts hN
  have ha : a ≤ 1125899906842624 := habd a (by simp)
  have hb : b ≤ 1125899906842624 := habd b (by simp)
  have hc : c ≤ 1125899906842624 := habd c (by simp)
  have hd : d ≤ 1125899906842624 := habd d (by simp)
  clear habd
  have Nu := Lib.hid (fun w => num_four w (by omega) hN)
  have hcut2 : (str B).extract p B.length = str (B.drop p) := by rw [str_extract, str_data, ← List.length_drop, List.take_length]
  have hlD : (B.drop p).length ≤ 4000 := by rw [List.length_drop]; omega
  have hp1 : (p : Int) ≤ (B.length : Int) := by omega
  have hp2 : decide (p ≤ B.length) = true := decide_eq_true hpB
  obtain ⟨zv, hzs, hzr⟩ := zero_any (P := Try.prog) (e := 29) (n := 6) (by kernel_rfl)
  have Hzs := Lib.hid hzs
  have Hzr := Lib.hid hzr
  clear hN hzs hzr
  generalize B.drop p = D at *
  have hbD : decide ((D.length : Int) < (d : Int)) = false := decide_eq_false (by omega)
  have hbN : decide (D.length < d) = false := decide_eq_false hD
  have hbD2 : (d : Int) ≤ (D.length : Int) := by omega
  have hbD3 : decide (d ≤ D.length) = true := decide_eq_true (by omega)
  have hc3b : ((c : Int) == 3) = true := by rw [beq_iff_eq]; omega
  have hcut3 : (str D).extract 0 d = str (D.take d) := by rw [str_extract, str_data]; simp
  have hlT : (D.take d).length ≤ 4000 := by rw [List.length_take]; omega
  generalize D.take d = TX at *
  clear hD hc3
  go_enter Try.func36, Try.ntmps36
  go_wp2_with (first
    | (go_at_call 66; (with_reducible refine (Nu.out _).mono ?_); rintro e w1 ⟨g, off, cap1, rfl, hrow, hg1, k1⟩; have KA := Lib.hid k1; have Hrow := Lib.hid hrow; have Hg1 := Lib.hid hg1; clear hrow hg1 k1))
  obtain ⟨Ws, hW0, hW1, hW2⟩ : ∃ Ws : Nat → World, Ws 0 = w1.drewN 1 ∧ Ws 1 = (w1.drewN 1).alloc (.cells zv.cells 29) ∧ Ws 2 = (w1.drewN 1).alloc (.cells #[.int .i64 (a : Nat), .int .i64 (b : Nat), .int .i64 (c : Nat), .slice none 0 0, .string (str []), .string (str [])] 29) := ⟨fun | 0 => _ | 1 => _ | _ => _, rfl, rfl, rfl⟩
  have kd0 : Keeps [] w1 (w1.drewN 1) := (Keeps.refl [] w1).drewN 1
  have x0 : Keeps [] w1 (Ws 0) := by rw [hW0]; exact kd0
  have x1 : Keeps [] w1 (Ws 1) := by rw [hW1]; exact kd0.alloc _
  have x2 : Keeps [] w1 (Ws 2) := by rw [hW2]; exact kd0.alloc _
  obtain ⟨y00, y01, y02, y03⟩ := Hrow.out
  have a0 := x0.cell0 y00
  have a1 := x0.cell0 y01
  have a2 := x0.cell0 y02
  have b0 := x1.cell0 y00
  have b1 := x1.cell0 y01
  have b2 := x1.cell0 y02
  have r1 : ∀ (ev : Operand → Value) (o : Oper), o.op = .alloc 29 → (execOp ev o).run Try.prog (Ws 0) = .ok (.value (.pointer (some ⟨w1.heap.size, 0, none⟩))) (Ws 1) := fun ev o ho => by
    have h := exec_alloc (P := Try.prog) (Ws 0) 29 ev o ho zv Hzr.out
    rw [hW0] at h
    rw [hW0, hW1]
    exact h
  have r2 : ∀ (ev : Operand → Value) (o : Oper) (p x : Operand), o.op = .store 29 p x → ev p = .pointer (some ⟨w1.heap.size, 0, none⟩) → ev x = .agg #[.int .i64 (a : Nat), .int .i64 (b : Nat), .int .i64 (c : Nat), .slice none 0 0, .string (str []), .string (str [])] → (execOp ev o).run Try.prog (Ws 1) = .ok .skip (Ws 2) := fun ev o p x ho hp hx => by
    have h := exec_storeNew (P := Try.prog) (w1.drewN 1) 29 zv.cells [.int .i64 (a : Nat), .int .i64 (b : Nat), .int .i64 (c : Nat), .slice none 0 0, .string (str []), .string (str [])] (by kernel_rfl) Hzs.out (by simp [Value.oneCell']) ev o p x ho hp hx
    rw [hW1, hW2]
    exact h
  have HB2 : Hid ((Ws 2).heap[w1.heap.size]? = some (.cells #[.int .i64 (a : Nat), .int .i64 (b : Nat), .int .i64 (c : Nat), .slice none 0 0, .string (str []), .string (str [])] 29)) := by unfold Hid; rw [hW2]; exact heap_at rfl
  have X2 := Lib.hid x2
  have R1 := Lib.hid r1
  have R2 := Lib.hid r2
  have HW0 := Lib.hid hW0
  clear x0 x1 x2 r1 r2 hW0 hW1 hW2 kd0 y00 y01 y02 y03
  refine region_at Ws [10, 11] (by kernel_rfl) (by kernel_rfl) HW0.out.symm ?_
  iterate 2 (refine atP (by rfl) (fun K hK => ?_); go_simp; refine hK _ ?_; clear hK K)
  (refine atR [0, 1] (by kernel_rfl) (fun K hK => ?_); go_simp; refine hK _ ?_; clear hK K)
  iterate 2 (refine atP (by rfl) (fun K hK => ?_); go_simp; refine hK _ ?_; clear hK K)
  (refine atR [0, 1] (by kernel_rfl) (fun K hK => ?_); go_simp; refine hK _ ?_; clear hK K)
  iterate 2 (refine atP (by rfl) (fun K hK => ?_); go_simp; refine hK _ ?_; clear hK K)
  (refine atR [0, 1] (by kernel_rfl) (fun K hK => ?_); go_simp; refine hK _ ?_; clear hK K)
  (refine atP (by rfl) (fun K hK => ?_); go_simp; refine hK _ ?_; clear hK K)
  refine atW 0 rfl (by decide) rfl _ (R1.out _ _ (by exact rfl)) ?_
  refine atS 1 rfl (by decide) rfl (R2.out _ _ _ _ (by exact rfl) (by rfl) (by rfl)) ?_
  refine wpAt_nil ?_
  have KB := Lib.hid (KT KA.out X2.out)
  have Hz1 : Hid (w.heap.size < w1.heap.size) := (Array.getElem?_eq_some_iff.1 (Zc.out _ KA.out)).1
  have Hg2 : Hid (g < w1.heap.size) := World.block_lt_of_cell? w1 _ Hrow.out.1
  have Row2 : Hid _ := Hrow.out
  clear a0 a1 a2 b0 b1 b2 R1 R2 HW0 KA
  obtain ⟨y00, y01, y02, y03⟩ := Hrow.out
  have l0 := X2.out.cell0 y00
  have l3 := X2.out.cell0 y03
  obtain ⟨⟨c0, c1, c2, c3, c4, c5⟩, g0, g1, g2, g3, g4, g5⟩ := cells6 HB2.out
  have HR := Lib.hid (Zc.out _ KB.out)
  obtain ⟨⟨q0, q1, q2, q3, q4, q5⟩, f0, f1, f2, f3, f4, f5⟩ := cells6 HR.out
  have hne1 : w.heap.size ≠ w1.heap.size := Nat.ne_of_lt Hz1.out
  clear y00 y01 y02 y03 Hrow
  have hB3 : ((Ws 2).setCell ⟨w1.heap.size, 5, none⟩ (.string (str TX))).heap[w1.heap.size]? = some (.cells #[.int .i64 (a : Nat), .int .i64 (b : Nat), .int .i64 (c : Nat), .slice none 0 0, .string (str []), .string (str TX)] 29 (0, 0)) := heap_setCell HB2.out 5 _
  obtain ⟨⟨d0, d1, d2, d3, d4, d5⟩, _⟩ := cells6 hB3
  have HR3 : Hid (((Ws 2).setCell ⟨w1.heap.size, 5, none⟩ (.string (str TX))).heap[w.heap.size]? = some (.cells #[.int .i64 0, .int .i64 0, .int .i64 0, .slice none 0 0, .string (str []), .string (str [])] 29 (0, 0))) := heap_ne HR.out hne1
  obtain ⟨⟨t0, t1, t2, t3, t4, t5⟩, v0, v1, v2, v3, v4, v5⟩ := cells6 HR3.out
  go_wp2
  refine bodyPost_ret (results_row_tmp2 rfl rfl (heap_set6 HR3.out _ _ _ _ _ _) Try.underlying29 rfl (by kernel_rfl)) rfl (.inr ⟨⟨(a : Nat), (b : Nat), (c : Nat), [], [], TX⟩, [], .slice none 0 0, [], Hv.out, rfl, ?_, by simp, keeps_set6 ((KT K0.out KB.out).setK _ _ _ (Nat.le_of_lt Hz1.out)) (Nat.le_refl _) _ _ _ _ _ _⟩)
  exact ⟨⟨by dsimp only; omega, by dsimp only; omega⟩, ⟨by dsimp only; omega, by dsimp only; omega⟩, ⟨by dsimp only; omega, by dsimp only; omega⟩, ⟨none, 0, rfl, fun h => absurd rfl h⟩, by simp, by simp, by simp, by dsimp only; omega⟩

set_option maxHeartbeats 4000000 in
theorem rtold_c1 (s : List UInt8) (w : World) (h8 : 8 ≤ s.length) (hs : s.length ≤ 4000) (a b c d p : Nat) (hN : numK (bodyOfH s) 4 = some ([a, b, c, d], p)) (hc3 : c ≠ 3) (hD : 64 < d) :
    Calls Try.prog 36 #[.string (str s)] w (RTold (bodyOfH s) w) := by
  have hcut : (str s).extract 4 (s.length - 4) = str (bodyOfH s) := by rw [str_extract, str_data]; unfold bodyOfH; rw [show s.length - 4 - 4 = s.length - 8 by omega]
  have hlb : (bodyOfH s).length ≤ 4000 := by unfold bodyOfH; rw [List.length_take]; omega
  have hw1 : IntKind.i64.wrap ((s.length : Int) - 4) = ((s.length - 4 : Nat) : Int) := by rw [IntWalk.i64_in _ ⟨by omega, by omega⟩]; omega
  have hz := str_empty
  have hn1 : (4 : Int) ≤ ((s.length - 4 : Nat) : Int) := by omega
  have hn2 : ((s.length - 4 : Nat) : Int) ≤ (s.length : Int) := by omega
  have hn3 : 4 ≤ s.length - 4 := by omega
  have hn4 : s.length - 4 ≤ s.length := by omega
  have K0 := Lib.hid ((Keeps.refl [] w).alloc zq)
  have Zc : Hid (∀ w', Keeps [] (w.alloc zq) w' → w'.heap[w.heap.size]? = some zq) := fun w' k => k.some (heap_alloc_self w zq) (by simp)
  unfold zq at *
  generalize bodyOfH s = B at *
  have hv : toldQ B = none := by
    unfold toldQ
    rw [hN, Option.bind_some]
    dsimp only
    simp only [List.getD_cons_zero, List.getD_cons_succ]
    rw [if_neg hc3, if_pos hD]
  have Hv := Lib.hid hv
  clear hv
  obtain ⟨hpB, _, habd⟩ := numK_facts hN
  have ha : a ≤ 1125899906842624 := habd a (by simp)
  have hb : b ≤ 1125899906842624 := habd b (by simp)
  have hc : c ≤ 1125899906842624 := habd c (by simp)
  have hd : d ≤ 1125899906842624 := habd d (by simp)
  clear habd
  have Nu := Lib.hid (fun w => num_four w (by omega) hN)
  have hcut2 : (str B).extract p B.length = str (B.drop p) := by rw [str_extract, str_data, ← List.length_drop, List.take_length]
  have hlD : (B.drop p).length ≤ 4000 := by rw [List.length_drop]; omega
  have hp1 : (p : Int) ≤ (B.length : Int) := by omega
  have hp2 : decide (p ≤ B.length) = true := decide_eq_true hpB
  obtain ⟨zv, hzs, hzr⟩ := zero_any (P := Try.prog) (e := 29) (n := 6) (by kernel_rfl)
  have Hzs := Lib.hid hzs
  have Hzr := Lib.hid hzr
  clear hN hzs hzr
  have hk1 : ((c : Int) == 3) = false := by rw [beq_eq_false_iff_ne]; omega
  have hbD : decide (64 < (d : Int)) = true := decide_eq_true (by omega)
  clear hD hc3
  go_enter Try.func36, Try.ntmps36
  go_wp2_with (first
    | (go_at_call 66; (with_reducible refine (Nu.out _).mono ?_); rintro e w1 ⟨g, off, cap1, rfl, hrow, hg1, k1⟩; have KA := Lib.hid k1; have Hrow := Lib.hid hrow; have Hg1 := Lib.hid hg1; clear hrow hg1 k1))
  obtain ⟨Ws, hW0, hW1, hW2⟩ : ∃ Ws : Nat → World, Ws 0 = w1.drewN 1 ∧ Ws 1 = (w1.drewN 1).alloc (.cells zv.cells 29) ∧ Ws 2 = (w1.drewN 1).alloc (.cells #[.int .i64 (a : Nat), .int .i64 (b : Nat), .int .i64 (c : Nat), .slice none 0 0, .string (str []), .string (str [])] 29) := ⟨fun | 0 => _ | 1 => _ | _ => _, rfl, rfl, rfl⟩
  have kd0 : Keeps [] w1 (w1.drewN 1) := (Keeps.refl [] w1).drewN 1
  have x0 : Keeps [] w1 (Ws 0) := by rw [hW0]; exact kd0
  have x1 : Keeps [] w1 (Ws 1) := by rw [hW1]; exact kd0.alloc _
  have x2 : Keeps [] w1 (Ws 2) := by rw [hW2]; exact kd0.alloc _
  obtain ⟨y00, y01, y02, y03⟩ := Hrow.out
  have a0 := x0.cell0 y00
  have a1 := x0.cell0 y01
  have a2 := x0.cell0 y02
  have b0 := x1.cell0 y00
  have b1 := x1.cell0 y01
  have b2 := x1.cell0 y02
  have r1 : ∀ (ev : Operand → Value) (o : Oper), o.op = .alloc 29 → (execOp ev o).run Try.prog (Ws 0) = .ok (.value (.pointer (some ⟨w1.heap.size, 0, none⟩))) (Ws 1) := fun ev o ho => by
    have h := exec_alloc (P := Try.prog) (Ws 0) 29 ev o ho zv Hzr.out
    rw [hW0] at h
    rw [hW0, hW1]
    exact h
  have r2 : ∀ (ev : Operand → Value) (o : Oper) (p x : Operand), o.op = .store 29 p x → ev p = .pointer (some ⟨w1.heap.size, 0, none⟩) → ev x = .agg #[.int .i64 (a : Nat), .int .i64 (b : Nat), .int .i64 (c : Nat), .slice none 0 0, .string (str []), .string (str [])] → (execOp ev o).run Try.prog (Ws 1) = .ok .skip (Ws 2) := fun ev o p x ho hp hx => by
    have h := exec_storeNew (P := Try.prog) (w1.drewN 1) 29 zv.cells [.int .i64 (a : Nat), .int .i64 (b : Nat), .int .i64 (c : Nat), .slice none 0 0, .string (str []), .string (str [])] (by kernel_rfl) Hzs.out (by simp [Value.oneCell']) ev o p x ho hp hx
    rw [hW1, hW2]
    exact h
  have HB2 : Hid ((Ws 2).heap[w1.heap.size]? = some (.cells #[.int .i64 (a : Nat), .int .i64 (b : Nat), .int .i64 (c : Nat), .slice none 0 0, .string (str []), .string (str [])] 29)) := by unfold Hid; rw [hW2]; exact heap_at rfl
  have X2 := Lib.hid x2
  have R1 := Lib.hid r1
  have R2 := Lib.hid r2
  have HW0 := Lib.hid hW0
  clear x0 x1 x2 r1 r2 hW0 hW1 hW2 kd0 y00 y01 y02 y03
  refine region_at Ws [10, 11] (by kernel_rfl) (by kernel_rfl) HW0.out.symm ?_
  iterate 2 (refine atP (by rfl) (fun K hK => ?_); go_simp; refine hK _ ?_; clear hK K)
  (refine atR [0, 1] (by kernel_rfl) (fun K hK => ?_); go_simp; refine hK _ ?_; clear hK K)
  iterate 2 (refine atP (by rfl) (fun K hK => ?_); go_simp; refine hK _ ?_; clear hK K)
  (refine atR [0, 1] (by kernel_rfl) (fun K hK => ?_); go_simp; refine hK _ ?_; clear hK K)
  iterate 2 (refine atP (by rfl) (fun K hK => ?_); go_simp; refine hK _ ?_; clear hK K)
  (refine atR [0, 1] (by kernel_rfl) (fun K hK => ?_); go_simp; refine hK _ ?_; clear hK K)
  (refine atP (by rfl) (fun K hK => ?_); go_simp; refine hK _ ?_; clear hK K)
  refine atW 0 rfl (by decide) rfl _ (R1.out _ _ (by exact rfl)) ?_
  refine atS 1 rfl (by decide) rfl (R2.out _ _ _ _ (by exact rfl) (by rfl) (by rfl)) ?_
  refine wpAt_nil ?_
  have KB := Lib.hid (KT KA.out X2.out)
  have Hz1 : Hid (w.heap.size < w1.heap.size) := (Array.getElem?_eq_some_iff.1 (Zc.out _ KA.out)).1
  have Hg2 : Hid (g < w1.heap.size) := World.block_lt_of_cell? w1 _ Hrow.out.1
  have Row2 : Hid _ := Hrow.out
  clear a0 a1 a2 b0 b1 b2 R1 R2 HW0 KA
  obtain ⟨y00, y01, y02, y03⟩ := Hrow.out
  have l0 := X2.out.cell0 y00
  have l3 := X2.out.cell0 y03
  obtain ⟨⟨c0, c1, c2, c3, c4, c5⟩, g0, g1, g2, g3, g4, g5⟩ := cells6 HB2.out
  have HR := Lib.hid (Zc.out _ KB.out)
  obtain ⟨⟨q0, q1, q2, q3, q4, q5⟩, f0, f1, f2, f3, f4, f5⟩ := cells6 HR.out
  have hne1 : w.heap.size ≠ w1.heap.size := Nat.ne_of_lt Hz1.out
  clear y00 y01 y02 y03 Hrow
  go_wp2
  refine bodyPost_ret (results_row_tmp2 rfl rfl (heap_set6 HR.out _ _ _ _ _ _) Try.underlying29 rfl (by kernel_rfl)) rfl (.inl ⟨Hv.out, ⟨(a : Nat), (b : Nat), (c : Nat), [], [], []⟩, none, 0, 0, rfl, keeps_set6 (KT K0.out KB.out) (Nat.le_refl _) _ _ _ _ _ _⟩)

set_option maxHeartbeats 4000000 in
theorem rtold_c2 (s : List UInt8) (w : World) (h8 : 8 ≤ s.length) (hs : s.length ≤ 4000) (a b c d p : Nat) (hN : numK (bodyOfH s) 4 = some ([a, b, c, d], p)) (hc3 : c ≠ 3) (hD : ¬ 64 < d) (hN2 : numK ((bodyOfH s).drop p) (2 * d) = none) :
    Calls Try.prog 36 #[.string (str s)] w (RTold (bodyOfH s) w) := by
  have hcut : (str s).extract 4 (s.length - 4) = str (bodyOfH s) := by rw [str_extract, str_data]; unfold bodyOfH; rw [show s.length - 4 - 4 = s.length - 8 by omega]
  have hlb : (bodyOfH s).length ≤ 4000 := by unfold bodyOfH; rw [List.length_take]; omega
  have hw1 : IntKind.i64.wrap ((s.length : Int) - 4) = ((s.length - 4 : Nat) : Int) := by rw [IntWalk.i64_in _ ⟨by omega, by omega⟩]; omega
  have hz := str_empty
  have hn1 : (4 : Int) ≤ ((s.length - 4 : Nat) : Int) := by omega
  have hn2 : ((s.length - 4 : Nat) : Int) ≤ (s.length : Int) := by omega
  have hn3 : 4 ≤ s.length - 4 := by omega
  have hn4 : s.length - 4 ≤ s.length := by omega
  have K0 := Lib.hid ((Keeps.refl [] w).alloc zq)
  have Zc : Hid (∀ w', Keeps [] (w.alloc zq) w' → w'.heap[w.heap.size]? = some zq) := fun w' k => k.some (heap_alloc_self w zq) (by simp)
  unfold zq at *
  generalize bodyOfH s = B at *
  have hv : toldQ B = none := by
    unfold toldQ
    rw [hN, Option.bind_some]
    dsimp only
    simp only [List.getD_cons_zero, List.getD_cons_succ]
    rw [if_neg hc3, if_neg hD, hN2]; rfl
  have Hv := Lib.hid hv
  clear hv
  obtain ⟨hpB, _, habd⟩ := numK_facts hN
  have ha : a ≤ 1125899906842624 := habd a (by simp)
  have hb : b ≤ 1125899906842624 := habd b (by simp)
  have hc : c ≤ 1125899906842624 := habd c (by simp)
  have hd : d ≤ 1125899906842624 := habd d (by simp)
  clear habd
  have Nu := Lib.hid (fun w => num_four w (by omega) hN)
  have hcut2 : (str B).extract p B.length = str (B.drop p) := by rw [str_extract, str_data, ← List.length_drop, List.take_length]
  have hlD : (B.drop p).length ≤ 4000 := by rw [List.length_drop]; omega
  have hp1 : (p : Int) ≤ (B.length : Int) := by omega
  have hp2 : decide (p ≤ B.length) = true := decide_eq_true hpB
  obtain ⟨zv, hzs, hzr⟩ := zero_any (P := Try.prog) (e := 29) (n := 6) (by kernel_rfl)
  have Hzs := Lib.hid hzs
  have Hzr := Lib.hid hzr
  clear hN hzs hzr
  have hk1 : ((c : Int) == 3) = false := by rw [beq_eq_false_iff_ne]; omega
  obtain ⟨M, hM⟩ : ∃ M, 2 * d = M := ⟨_, rfl⟩
  have hwM : IntKind.i64.wrap (2 * (d : Int)) = (M : Int) := by rw [IntWalk.i64_in _ ⟨by omega, by omega⟩]; omega
  have hbD : decide (64 < (d : Int)) = false := decide_eq_false (by omega)
  rw [hM] at hN2
  generalize B.drop p = D at *
  have N2 := Lib.hid (fun w => num_no (n := M) w (by omega) (by omega) hN2)
  clear hD hc3 hN2
  go_enter Try.func36, Try.ntmps36
  go_wp2_with (first
    | (go_at_call 66; (with_reducible refine (Nu.out _).mono ?_); rintro e w1 ⟨g, off, cap1, rfl, hrow, hg1, k1⟩; have KA := Lib.hid k1; have Hrow := Lib.hid hrow; have Hg1 := Lib.hid hg1; clear hrow hg1 k1))
  obtain ⟨Ws, hW0, hW1, hW2⟩ : ∃ Ws : Nat → World, Ws 0 = w1.drewN 1 ∧ Ws 1 = (w1.drewN 1).alloc (.cells zv.cells 29) ∧ Ws 2 = (w1.drewN 1).alloc (.cells #[.int .i64 (a : Nat), .int .i64 (b : Nat), .int .i64 (c : Nat), .slice none 0 0, .string (str []), .string (str [])] 29) := ⟨fun | 0 => _ | 1 => _ | _ => _, rfl, rfl, rfl⟩
  have kd0 : Keeps [] w1 (w1.drewN 1) := (Keeps.refl [] w1).drewN 1
  have x0 : Keeps [] w1 (Ws 0) := by rw [hW0]; exact kd0
  have x1 : Keeps [] w1 (Ws 1) := by rw [hW1]; exact kd0.alloc _
  have x2 : Keeps [] w1 (Ws 2) := by rw [hW2]; exact kd0.alloc _
  obtain ⟨y00, y01, y02, y03⟩ := Hrow.out
  have a0 := x0.cell0 y00
  have a1 := x0.cell0 y01
  have a2 := x0.cell0 y02
  have b0 := x1.cell0 y00
  have b1 := x1.cell0 y01
  have b2 := x1.cell0 y02
  have r1 : ∀ (ev : Operand → Value) (o : Oper), o.op = .alloc 29 → (execOp ev o).run Try.prog (Ws 0) = .ok (.value (.pointer (some ⟨w1.heap.size, 0, none⟩))) (Ws 1) := fun ev o ho => by
    have h := exec_alloc (P := Try.prog) (Ws 0) 29 ev o ho zv Hzr.out
    rw [hW0] at h
    rw [hW0, hW1]
    exact h
  have r2 : ∀ (ev : Operand → Value) (o : Oper) (p x : Operand), o.op = .store 29 p x → ev p = .pointer (some ⟨w1.heap.size, 0, none⟩) → ev x = .agg #[.int .i64 (a : Nat), .int .i64 (b : Nat), .int .i64 (c : Nat), .slice none 0 0, .string (str []), .string (str [])] → (execOp ev o).run Try.prog (Ws 1) = .ok .skip (Ws 2) := fun ev o p x ho hp hx => by
    have h := exec_storeNew (P := Try.prog) (w1.drewN 1) 29 zv.cells [.int .i64 (a : Nat), .int .i64 (b : Nat), .int .i64 (c : Nat), .slice none 0 0, .string (str []), .string (str [])] (by kernel_rfl) Hzs.out (by simp [Value.oneCell']) ev o p x ho hp hx
    rw [hW1, hW2]
    exact h
  have HB2 : Hid ((Ws 2).heap[w1.heap.size]? = some (.cells #[.int .i64 (a : Nat), .int .i64 (b : Nat), .int .i64 (c : Nat), .slice none 0 0, .string (str []), .string (str [])] 29)) := by unfold Hid; rw [hW2]; exact heap_at rfl
  have X2 := Lib.hid x2
  have R1 := Lib.hid r1
  have R2 := Lib.hid r2
  have HW0 := Lib.hid hW0
  clear x0 x1 x2 r1 r2 hW0 hW1 hW2 kd0 y00 y01 y02 y03
  refine region_at Ws [10, 11] (by kernel_rfl) (by kernel_rfl) HW0.out.symm ?_
  iterate 2 (refine atP (by rfl) (fun K hK => ?_); go_simp; refine hK _ ?_; clear hK K)
  (refine atR [0, 1] (by kernel_rfl) (fun K hK => ?_); go_simp; refine hK _ ?_; clear hK K)
  iterate 2 (refine atP (by rfl) (fun K hK => ?_); go_simp; refine hK _ ?_; clear hK K)
  (refine atR [0, 1] (by kernel_rfl) (fun K hK => ?_); go_simp; refine hK _ ?_; clear hK K)
  iterate 2 (refine atP (by rfl) (fun K hK => ?_); go_simp; refine hK _ ?_; clear hK K)
  (refine atR [0, 1] (by kernel_rfl) (fun K hK => ?_); go_simp; refine hK _ ?_; clear hK K)
  (refine atP (by rfl) (fun K hK => ?_); go_simp; refine hK _ ?_; clear hK K)
  refine atW 0 rfl (by decide) rfl _ (R1.out _ _ (by exact rfl)) ?_
  refine atS 1 rfl (by decide) rfl (R2.out _ _ _ _ (by exact rfl) (by rfl) (by rfl)) ?_
  refine wpAt_nil ?_
  have KB := Lib.hid (KT KA.out X2.out)
  have Hz1 : Hid (w.heap.size < w1.heap.size) := (Array.getElem?_eq_some_iff.1 (Zc.out _ KA.out)).1
  have Hg2 : Hid (g < w1.heap.size) := World.block_lt_of_cell? w1 _ Hrow.out.1
  have Row2 : Hid _ := Hrow.out
  clear a0 a1 a2 b0 b1 b2 R1 R2 HW0 KA
  obtain ⟨y00, y01, y02, y03⟩ := Hrow.out
  have l0 := X2.out.cell0 y00
  have l3 := X2.out.cell0 y03
  obtain ⟨⟨c0, c1, c2, c3, c4, c5⟩, g0, g1, g2, g3, g4, g5⟩ := cells6 HB2.out
  have HR := Lib.hid (Zc.out _ KB.out)
  obtain ⟨⟨q0, q1, q2, q3, q4, q5⟩, f0, f1, f2, f3, f4, f5⟩ := cells6 HR.out
  have hne1 : w.heap.size ≠ w1.heap.size := Nat.ne_of_lt Hz1.out
  clear y00 y01 y02 y03 Hrow
  go_wp2_with (first
    | (go_at_call 66; (with_reducible refine (N2.out _).mono ?_); rintro e w2 ⟨rfl, k2⟩; replace KB := Lib.hid (KT KB.out k2); replace HB2 := Lib.hid (k2.some HB2.out (by simp)); clear HR q0 q1 q2 q3 q4 q5 f0 f1 f2 f3 f4 f5 c0 c1 c2 c3 c4 c5 g0 g1 g2 g3 g4 g5 l0 l3 k2; obtain ⟨⟨c0, c1, c2, c3, c4, c5⟩, g0, g1, g2, g3, g4, g5⟩ := cells6 HB2.out; have HR := Lib.hid (Zc.out _ KB.out); obtain ⟨⟨q0, q1, q2, q3, q4, q5⟩, f0, f1, f2, f3, f4, f5⟩ := cells6 HR.out))
  refine bodyPost_ret (results_row_tmp2 rfl rfl (heap_set6 HR.out _ _ _ _ _ _) Try.underlying29 rfl (by kernel_rfl)) rfl (.inl ⟨Hv.out, ⟨(a : Nat), (b : Nat), (c : Nat), [], [], []⟩, none, 0, 0, rfl, keeps_set6 (KT K0.out KB.out) (Nat.le_refl _) _ _ _ _ _ _⟩)

set_option maxHeartbeats 4000000 in
theorem rtold_c3 (s : List UInt8) (w : World) (h8 : 8 ≤ s.length) (hs : s.length ≤ 4000) (a b c d p : Nat) (hN : numK (bodyOfH s) 4 = some ([a, b, c, d], p)) (hc3 : c ≠ 3) (hD : ¬ 64 < d) (m : List Nat) (kk : Nat) (hN2 : numK ((bodyOfH s).drop p) (2 * d) = some (m, kk)) (hc1 : c = 1) (hS : ((bodyOfH s).drop p).length < kk + 4) :
    Calls Try.prog 36 #[.string (str s)] w (RTold (bodyOfH s) w) := by
  have hcut : (str s).extract 4 (s.length - 4) = str (bodyOfH s) := by rw [str_extract, str_data]; unfold bodyOfH; rw [show s.length - 4 - 4 = s.length - 8 by omega]
  have hlb : (bodyOfH s).length ≤ 4000 := by unfold bodyOfH; rw [List.length_take]; omega
  have hw1 : IntKind.i64.wrap ((s.length : Int) - 4) = ((s.length - 4 : Nat) : Int) := by rw [IntWalk.i64_in _ ⟨by omega, by omega⟩]; omega
  have hz := str_empty
  have hn1 : (4 : Int) ≤ ((s.length - 4 : Nat) : Int) := by omega
  have hn2 : ((s.length - 4 : Nat) : Int) ≤ (s.length : Int) := by omega
  have hn3 : 4 ≤ s.length - 4 := by omega
  have hn4 : s.length - 4 ≤ s.length := by omega
  have K0 := Lib.hid ((Keeps.refl [] w).alloc zq)
  have Zc : Hid (∀ w', Keeps [] (w.alloc zq) w' → w'.heap[w.heap.size]? = some zq) := fun w' k => k.some (heap_alloc_self w zq) (by simp)
  unfold zq at *
  generalize bodyOfH s = B at *
  have hv : toldQ B = none := by
    unfold toldQ
    rw [hN, Option.bind_some]
    dsimp only
    simp only [List.getD_cons_zero, List.getD_cons_succ]
    rw [if_neg hc3, if_neg hD, hN2, Option.bind_some, if_pos hc1, if_pos hS]
  have Hv := Lib.hid hv
  clear hv
  obtain ⟨hpB, _, habd⟩ := numK_facts hN
  have ha : a ≤ 1125899906842624 := habd a (by simp)
  have hb : b ≤ 1125899906842624 := habd b (by simp)
  have hc : c ≤ 1125899906842624 := habd c (by simp)
  have hd : d ≤ 1125899906842624 := habd d (by simp)
  clear habd
  have Nu := Lib.hid (fun w => num_four w (by omega) hN)
  have hcut2 : (str B).extract p B.length = str (B.drop p) := by rw [str_extract, str_data, ← List.length_drop, List.take_length]
  have hlD : (B.drop p).length ≤ 4000 := by rw [List.length_drop]; omega
  have hp1 : (p : Int) ≤ (B.length : Int) := by omega
  have hp2 : decide (p ≤ B.length) = true := decide_eq_true hpB
  obtain ⟨zv, hzs, hzr⟩ := zero_any (P := Try.prog) (e := 29) (n := 6) (by kernel_rfl)
  have Hzs := Lib.hid hzs
  have Hzr := Lib.hid hzr
  clear hN hzs hzr
  have hk1 : ((c : Int) == 3) = false := by rw [beq_eq_false_iff_ne]; omega
  obtain ⟨M, hM⟩ : ∃ M, 2 * d = M := ⟨_, rfl⟩
  have hwM : IntKind.i64.wrap (2 * (d : Int)) = (M : Int) := by rw [IntWalk.i64_in _ ⟨by omega, by omega⟩]; omega
  have hbD : decide (64 < (d : Int)) = false := decide_eq_false (by omega)
  rw [hM] at hN2
  have hd64 : d ≤ 64 := by omega
  have hpd := fun k => pairsK_bd (numK_facts hN2).2.2 k
  have hml := (numK_facts hN2).2.1
  have hkb := (numK_facts hN2).1
  generalize B.drop p = D at *
  have N2 := Lib.hid (fun w => num_yes w (by omega) (by omega) hN2)
  have Hpd := Lib.hid hpd
  have Hc3 := Lib.hid hc3
  clear hD hN2 hpd hc3
  obtain ⟨K4, hK4⟩ : ∃ K4, kk + 4 = K4 := ⟨_, rfl⟩
  have hw4 : IntKind.i64.wrap ((kk : Int) + 4) = (K4 : Int) := by rw [IntWalk.i64_in _ ⟨by omega, by omega⟩]; omega
  have hk1' : ((c : Int) == 1) = true := by rw [beq_iff_eq]; omega
  have bS : decide ((D.length : Int) < (K4 : Int)) = true := decide_eq_true (by omega)
  have bN : decide (D.length < K4) = true := decide_eq_true (by omega)
  clear hc1 hS hK4
  go_enter Try.func36, Try.ntmps36
  go_wp2_with (first
    | (go_at_call 66; (with_reducible refine (Nu.out _).mono ?_); rintro e w1 ⟨g, off, cap1, rfl, hrow, hg1, k1⟩; have KA := Lib.hid k1; have Hrow := Lib.hid hrow; have Hg1 := Lib.hid hg1; clear hrow hg1 k1))
  obtain ⟨Ws, hW0, hW1, hW2⟩ : ∃ Ws : Nat → World, Ws 0 = w1.drewN 1 ∧ Ws 1 = (w1.drewN 1).alloc (.cells zv.cells 29) ∧ Ws 2 = (w1.drewN 1).alloc (.cells #[.int .i64 (a : Nat), .int .i64 (b : Nat), .int .i64 (c : Nat), .slice none 0 0, .string (str []), .string (str [])] 29) := ⟨fun | 0 => _ | 1 => _ | _ => _, rfl, rfl, rfl⟩
  have kd0 : Keeps [] w1 (w1.drewN 1) := (Keeps.refl [] w1).drewN 1
  have x0 : Keeps [] w1 (Ws 0) := by rw [hW0]; exact kd0
  have x1 : Keeps [] w1 (Ws 1) := by rw [hW1]; exact kd0.alloc _
  have x2 : Keeps [] w1 (Ws 2) := by rw [hW2]; exact kd0.alloc _
  obtain ⟨y00, y01, y02, y03⟩ := Hrow.out
  have a0 := x0.cell0 y00
  have a1 := x0.cell0 y01
  have a2 := x0.cell0 y02
  have b0 := x1.cell0 y00
  have b1 := x1.cell0 y01
  have b2 := x1.cell0 y02
  have r1 : ∀ (ev : Operand → Value) (o : Oper), o.op = .alloc 29 → (execOp ev o).run Try.prog (Ws 0) = .ok (.value (.pointer (some ⟨w1.heap.size, 0, none⟩))) (Ws 1) := fun ev o ho => by
    have h := exec_alloc (P := Try.prog) (Ws 0) 29 ev o ho zv Hzr.out
    rw [hW0] at h
    rw [hW0, hW1]
    exact h
  have r2 : ∀ (ev : Operand → Value) (o : Oper) (p x : Operand), o.op = .store 29 p x → ev p = .pointer (some ⟨w1.heap.size, 0, none⟩) → ev x = .agg #[.int .i64 (a : Nat), .int .i64 (b : Nat), .int .i64 (c : Nat), .slice none 0 0, .string (str []), .string (str [])] → (execOp ev o).run Try.prog (Ws 1) = .ok .skip (Ws 2) := fun ev o p x ho hp hx => by
    have h := exec_storeNew (P := Try.prog) (w1.drewN 1) 29 zv.cells [.int .i64 (a : Nat), .int .i64 (b : Nat), .int .i64 (c : Nat), .slice none 0 0, .string (str []), .string (str [])] (by kernel_rfl) Hzs.out (by simp [Value.oneCell']) ev o p x ho hp hx
    rw [hW1, hW2]
    exact h
  have HB2 : Hid ((Ws 2).heap[w1.heap.size]? = some (.cells #[.int .i64 (a : Nat), .int .i64 (b : Nat), .int .i64 (c : Nat), .slice none 0 0, .string (str []), .string (str [])] 29)) := by unfold Hid; rw [hW2]; exact heap_at rfl
  have X2 := Lib.hid x2
  have R1 := Lib.hid r1
  have R2 := Lib.hid r2
  have HW0 := Lib.hid hW0
  clear x0 x1 x2 r1 r2 hW0 hW1 hW2 kd0 y00 y01 y02 y03
  refine region_at Ws [10, 11] (by kernel_rfl) (by kernel_rfl) HW0.out.symm ?_
  iterate 2 (refine atP (by rfl) (fun K hK => ?_); go_simp; refine hK _ ?_; clear hK K)
  (refine atR [0, 1] (by kernel_rfl) (fun K hK => ?_); go_simp; refine hK _ ?_; clear hK K)
  iterate 2 (refine atP (by rfl) (fun K hK => ?_); go_simp; refine hK _ ?_; clear hK K)
  (refine atR [0, 1] (by kernel_rfl) (fun K hK => ?_); go_simp; refine hK _ ?_; clear hK K)
  iterate 2 (refine atP (by rfl) (fun K hK => ?_); go_simp; refine hK _ ?_; clear hK K)
  (refine atR [0, 1] (by kernel_rfl) (fun K hK => ?_); go_simp; refine hK _ ?_; clear hK K)
  (refine atP (by rfl) (fun K hK => ?_); go_simp; refine hK _ ?_; clear hK K)
  refine atW 0 rfl (by decide) rfl _ (R1.out _ _ (by exact rfl)) ?_
  refine atS 1 rfl (by decide) rfl (R2.out _ _ _ _ (by exact rfl) (by rfl) (by rfl)) ?_
  refine wpAt_nil ?_
  have KB := Lib.hid (KT KA.out X2.out)
  have Hz1 : Hid (w.heap.size < w1.heap.size) := (Array.getElem?_eq_some_iff.1 (Zc.out _ KA.out)).1
  have Hg2 : Hid (g < w1.heap.size) := World.block_lt_of_cell? w1 _ Hrow.out.1
  have Row2 : Hid _ := Hrow.out
  clear a0 a1 a2 b0 b1 b2 R1 R2 HW0 KA
  obtain ⟨y00, y01, y02, y03⟩ := Hrow.out
  have l0 := X2.out.cell0 y00
  have l3 := X2.out.cell0 y03
  obtain ⟨⟨c0, c1, c2, c3, c4, c5⟩, g0, g1, g2, g3, g4, g5⟩ := cells6 HB2.out
  have HR := Lib.hid (Zc.out _ KB.out)
  obtain ⟨⟨q0, q1, q2, q3, q4, q5⟩, f0, f1, f2, f3, f4, f5⟩ := cells6 HR.out
  have hne1 : w.heap.size ≠ w1.heap.size := Nat.ne_of_lt Hz1.out
  clear y00 y01 y02 y03 Hrow
  go_wp2_with (first
    | (go_at_call 66; (with_reducible refine (N2.out _).mono ?_); rintro e w2 ⟨mad, mcap, G2, rfl, hm2, hG2, k2⟩; have Hm2 := Lib.hid hm2; have HG2 := Lib.hid hG2; have HB3 := Lib.hid (k2.some HB2.out (by simp)); have KC := Lib.hid (KT KB.out k2); have K2 := Lib.hid k2; have l3' := k2.cell0 l3; have l3g := Lib.hid l3; clear HR q0 q1 q2 q3 q4 q5 f0 f1 f2 f3 f4 f5 c0 c1 c2 c3 c4 c5 g0 g1 g2 g3 g4 g5 l0 l3 hm2 hG2 k2; obtain ⟨⟨c0, c1, c2, c3, c4, c5⟩, g0, g1, g2, g3, g4, g5⟩ := cells6 HB3.out))
  have Hs2 : Hid (w1.heap.size < (Ws 2).heap.size) := (Array.getElem?_eq_some_iff.1 HB2.out).1
  clear c0 c1 c2 c3 c4 c5 g0 g1 g2 g3 g4 g5
  go_loopw [13] (fun iv wr => ∃ (k : Nat) (sv : Value), k ≤ d ∧ iv = .int .i64 k ∧ Hid (wr.heap[w1.heap.size]? = some (.cells #[.int .i64 (a : Nat), .int .i64 (b : Nat), .int .i64 (c : Nat), sv, .string (str []), .string (str [])] 29 (0, 0))) ∧ wr.ownsRow 0 39 2 sv k ((pairsK m k).flatMap spV) ∧ Hid (∀ x, x ∈ sv.ownBlock.toList → w2.heap.size ≤ x) ∧ Hid (Keeps [w1.heap.size] w2 wr)) (fun iv _ => d - (intOf iv).toNat)
  case atStart => exact ⟨0, .slice none 0 0, Nat.zero_le _, rfl, HB3, World.ownsRow_nil _ _ _ _, by simp [Value.ownBlock, Hid], Keeps.refl _ _⟩
  case round =>
    obtain ⟨k, sv, hk, rfl, Hb, hrow, Hfr, Kk⟩ := hrel
    have l3r : wr.cell? ⟨g, off + 3, none⟩ = some (.int .i64 d) := (Kk.out.cell (World.block_lt_of_cell? _ _ l3') (by simpa using Nat.ne_of_lt Hg2.out)).trans l3'
    by_cases hlt : k < d
    · have hki : (k : Int) < (d : Int) := by omega
      have hki0 : (0 : Int) ≤ (k : Int) := by omega
      obtain ⟨x, hx⟩ : ∃ x, m[2 * k]? = some x := ⟨m[2 * k]'(by omega), List.getElem?_eq_getElem _⟩
      obtain ⟨y, hy⟩ : ∃ y, m[2 * k + 1]? = some y := ⟨m[2 * k + 1]'(by omega), List.getElem?_eq_getElem _⟩
      have hnx : pairsK m (k + 1) = pairsK m k ++ [((x : Int), (y : Int))] := by rw [pairsK, List.getD_eq_getElem?_getD, List.getD_eq_getElem?_getD, hx, hy]; rfl
      obtain ⟨ad', cap', e1, hcc⟩ := Hm2.out
      obtain ⟨gm, om, rfl, hgm, hcell⟩ := hcc (by intro h0; rw [List.map_eq_nil_iff] at h0; rw [h0] at hx; simp at hx)
      obtain rfl : mad = some ⟨gm, om, none⟩ := by injection e1
      have hgne : gm ≠ w1.heap.size := by have h1 := HG2.out gm hgm; have h2 := Hs2.out; omega
      have hx2 := hcell (2 * k) (.int .i64 x) (by rw [List.getElem?_map, hx]; rfl)
      have hy2 := hcell (2 * k + 1) (.int .i64 y) (by rw [List.getElem?_map, hy]; rfl)
      have mx : wr.cell? ⟨gm, om + 2 * k, none⟩ = some (.int .i64 x) := (Kk.out.cell (World.block_lt_of_cell? _ _ hx2) (by simpa using hgne)).trans hx2
      have my : wr.cell? ⟨gm, om + (2 * k + 1), none⟩ = some (.int .i64 y) := (Kk.out.cell (World.block_lt_of_cell? _ _ hy2) (by simpa using hgne)).trans hy2
      obtain ⟨J, hJ⟩ : ∃ J, 2 * k = J := ⟨_, rfl⟩
      obtain ⟨J1, hJ1⟩ : ∃ J1, J + 1 = J1 := ⟨_, rfl⟩
      rw [hJ] at mx my
      rw [hJ1] at my
      have hwJ : IntKind.i64.wrap (2 * (k : Int)) = (J : Int) := by rw [IntWalk.i64_in _ ⟨by omega, by omega⟩]; omega
      have hwJ1 : IntKind.i64.wrap ((J : Int) + 1) = (J1 : Int) := by rw [IntWalk.i64_in _ ⟨by omega, by omega⟩]; omega
      have bJ : (J : Int) < (M : Int) := by omega
      have bJ1 : (J1 : Int) < (M : Int) := by omega
      have bJ' : J < M := by omega
      have bJ1' : J1 < M := by omega
      have Hnx := Lib.hid hnx
      obtain ⟨ap, cp, rfl⟩ := ownsRow_shape hrow
      have cs := cell_of_heap Hb.out 3
      generalize pairsK m k = L at *
      clear hx hy hx2 hy2 hnx e1 hcc hcell hJ hJ1 hwM
      have hkA : Keeps [] (wr.drewN 1) ((wr.drewN 1).alloc (.cells #[.int .i64 (x : Int), .int .i64 (y : Int)] 39)) := (Keeps.refl [] _).alloc _
      obtain ⟨gq, cq, wq, hrun, hownq, hchq⟩ := exec_app1 (P := Try.prog) tySps 22 (.slice ap k cp) _ _ (wr.drewN 1) ((wr.drewN 1).alloc (.cells #[.int .i64 (x : Int), .int .i64 (y : Int)] 39)) wr.heap.size _ hkA (heap_alloc_self (wr.drewN 1) _) hrow rfl (by simp [Value.oneCell']) (by omega) (by unfold maxLen; omega)
      have hmo := q_more (w := wr.drewN 1) Hb.out hrow hownq hchq
      obtain ⟨Vs, hV0, hV1, hV2, hV3⟩ : ∃ Vs : Nat → World, Vs 0 = wr.drewN 1 ∧ Vs 1 = (wr.drewN 1).alloc (.cells #[.int .i64 (x : Int), .int .i64 (y : Int)] 39) ∧ Vs 2 = wq ∧ wq.setCell ⟨w1.heap.size, 3, none⟩ (.slice (some ⟨gq, 0, none⟩) (k + 1) cq) = Vs 3 := ⟨fun | 0 => _ | 1 => _ | 2 => _ | _ => _, rfl, rfl, rfl, rfl⟩
      have u0 : (Vs 0).cell? ⟨w1.heap.size, 3, none⟩ = some (.slice ap k cp) := by rw [hV0]; exact cs
      have u1 : (Vs 1).cell? ⟨w1.heap.size, 3, none⟩ = some (.slice ap k cp) := by rw [hV1]; exact hkA.cell0 cs
      have u2 : (Vs 0).cell? ⟨gm, om + J, none⟩ = some (.int .i64 x) := by rw [hV0]; exact mx
      have u3 : (Vs 0).cell? ⟨gm, om + J1, none⟩ = some (.int .i64 y) := by rw [hV0]; exact my
      have u4 : (Vs 2).cell? ⟨w1.heap.size, 3, none⟩ = some (.slice ap k cp) := by rw [hV2]; exact cell_of_heap hmo.1 3
      have u5 : (Vs 2).frozen? ⟨w1.heap.size, 3, none⟩ = false := by rw [hV2]; exact free_of_heap hmo.1 3
      have r3 := fun ev o x1 h h' => exec_buildOne (P := Try.prog) (Vs 0) 22 39 [.int .i64 (x : Int), .int .i64 (y : Int)] Try.underlying22 (by kernel_rfl) (by kernel_rfl) (by simp) (by simp) ev o x1 h h'
      rw [show (Vs 0).heap.size = wr.heap.size by rw [hV0]; rfl, show (Vs 0).alloc (.cells [Value.int .i64 (x : Int), Value.int .i64 (y : Int)].toArray 39) = Vs 1 by rw [hV0, hV1]] at r3
      have r4 := hrun
      rw [← hV1, ← hV2] at r4
      rw [← hV2] at hV3
      have R3 := Lib.hid r3
      have R4 := Lib.hid r4
      have HV0 := Lib.hid hV0
      have HV2 := Lib.hid hV2
      have Hmo := Lib.hid hmo.2
      have Hch := Lib.hid hchq
      clear hV0 hV1 hV2 hrun r3 r4 hkA cs mx my hmo hownq hchq
      go_wp2
      refine region_at Vs [14, 15, 17] (by kernel_rfl) (by kernel_rfl) HV0.out.symm ?_
      iterate 1 (refine atP (by rfl) (fun K hK => ?_); go_simp; refine hK _ ?_; clear hK K)
      (refine atR [0, 1] (by kernel_rfl) (fun K hK => ?_); go_simp; refine hK _ ?_; clear hK K)
      iterate 4 (refine atP (by rfl) (fun K hK => ?_); go_simp; refine hK _ ?_; clear hK K)
      (refine atR [0] (by kernel_rfl) (fun K hK => ?_); go_simp; refine hK _ ?_; clear hK K)
      iterate 5 (refine atP (by rfl) (fun K hK => ?_); go_simp; refine hK _ ?_; clear hK K)
      (refine atR [0] (by kernel_rfl) (fun K hK => ?_); go_simp; refine hK _ ?_; clear hK K)
      (refine atP (by rfl) (fun K hK => ?_); go_simp; refine hK _ ?_; clear hK K)
      refine atW 0 rfl (by decide) rfl _ (R3.out _ _ (.tmp 95) rfl (by rfl)) ?_
      refine atW 1 rfl (by decide) rfl _ (R4.out _ _ (.tmp 83) (.tmp 96) rfl rfl (by rfl) (by rfl)) ?_
      iterate 1 (refine atP (by rfl) (fun K hK => ?_); go_simp; refine hK _ ?_; clear hK K)
      refine atS 2 rfl (by decide) rfl (by go_simp) ?_
      refine wpAt_nil ?_
      go_wp2
      go_roundw
      case rel =>
        have hb3 := Hmo.out.1
        have ho3 := Hmo.out.2.1
        have hk3 := Hmo.out.2.2
        rw [← HV2.out, hV3] at hb3 ho3 hk3
        refine ⟨k + 1, .slice (some ⟨gq, 0, none⟩) (k + 1) cq, by omega, by go_num, hb3, ?_, fun z hz => ?_, (Kk.out.drewN 1).trans hk3 (fun z hz => ?_)⟩
        · rw [Hnx.out, List.flatMap_append]
          have e : [((x : Int), (y : Int))].flatMap spV = #[Value.int .i64 (x : Int), Value.int .i64 (y : Int)].toList := by simp [spV]
          rw [e]
          exact ho3
        · have hz' : z = gq := by simpa [Value.ownBlock] using hz
          rcases Hch.out.fresh z (by simp [hz']) with h | h
          · exact Hfr.out z h
          · exact Nat.le_trans Kk.out.size h
        · rcases List.mem_cons.1 hz with h | h
          · exact .inl (by simp [h])
          · exact .inr (Hfr.out z h)
      case measure => simp [intOf]; omega
    · obtain rfl : k = d := by omega
      obtain ⟨ap, cp, rfl⟩ := ownsRow_shape hrow
      have Hrow := Lib.hid hrow
      have KE : Hid (Keeps [] (w.alloc (.cells #[.int .i64 0, .int .i64 0, .int .i64 0, .slice none 0 0, .string (str []), .string (str [])] 29)) wr) := KC.out.trans Kk.out (fun z hz => .inr (by rw [List.mem_singleton] at hz; rw [hz]; have := Hz1.out; simp; omega))
      have HE := Lib.hid (Zc.out _ KE.out)
      obtain ⟨⟨q0, q1, q2, q3, q4, q5⟩, f0, f1, f2, f3, f4, f5⟩ := cells6 HE.out
      obtain ⟨⟨c0, c1, c2, c3, c4, c5⟩, _⟩ := cells6 Hb.out
      clear hrow
      go_wp2
      refine bodyPost_ret (results_row_tmp2 rfl rfl (heap_set6 HE.out _ _ _ _ _ _) Try.underlying29 rfl (by kernel_rfl)) rfl (.inl ⟨Hv.out, ⟨(a : Nat), (b : Nat), (c : Nat), pairsK m k, [], []⟩, ap, k, cp, by unfold Rc.val; rfl, keeps_set6 (KT K0.out KE.out) (Nat.le_refl _) _ _ _ _ _ _⟩)

set_option maxHeartbeats 4000000 in
theorem rtold_c4 (s : List UInt8) (w : World) (h8 : 8 ≤ s.length) (hs : s.length ≤ 4000) (a b c d p : Nat) (hN : numK (bodyOfH s) 4 = some ([a, b, c, d], p)) (hc3 : c ≠ 3) (hD : ¬ 64 < d) (m : List Nat) (kk : Nat) (hN2 : numK ((bodyOfH s).drop p) (2 * d) = some (m, kk)) (hc1 : c = 1) (hS : ¬ ((bodyOfH s).drop p).length < kk + 4) :
    Calls Try.prog 36 #[.string (str s)] w (RTold (bodyOfH s) w) := by
  have hcut : (str s).extract 4 (s.length - 4) = str (bodyOfH s) := by rw [str_extract, str_data]; unfold bodyOfH; rw [show s.length - 4 - 4 = s.length - 8 by omega]
  have hlb : (bodyOfH s).length ≤ 4000 := by unfold bodyOfH; rw [List.length_take]; omega
  have hw1 : IntKind.i64.wrap ((s.length : Int) - 4) = ((s.length - 4 : Nat) : Int) := by rw [IntWalk.i64_in _ ⟨by omega, by omega⟩]; omega
  have hz := str_empty
  have hn1 : (4 : Int) ≤ ((s.length - 4 : Nat) : Int) := by omega
  have hn2 : ((s.length - 4 : Nat) : Int) ≤ (s.length : Int) := by omega
  have hn3 : 4 ≤ s.length - 4 := by omega
  have hn4 : s.length - 4 ≤ s.length := by omega
  have K0 := Lib.hid ((Keeps.refl [] w).alloc zq)
  have Zc : Hid (∀ w', Keeps [] (w.alloc zq) w' → w'.heap[w.heap.size]? = some zq) := fun w' k => k.some (heap_alloc_self w zq) (by simp)
  unfold zq at *
  generalize bodyOfH s = B at *
  have hv : toldQ B = some (⟨a, b, c, pairsK m d, [], []⟩, ((B.drop p).drop kk).take 4) := by
    unfold toldQ
    rw [hN, Option.bind_some]
    dsimp only
    simp only [List.getD_cons_zero, List.getD_cons_succ]
    rw [if_neg hc3, if_neg hD, hN2, Option.bind_some, if_pos hc1, if_neg hS, hc1]; rfl
  have Hv := Lib.hid hv
  clear hv
  obtain ⟨hpB, _, habd⟩ := numK_facts hN
  have ha : a ≤ 1125899906842624 := habd a (by simp)
  have hb : b ≤ 1125899906842624 := habd b (by simp)
  have hc : c ≤ 1125899906842624 := habd c (by simp)
  have hd : d ≤ 1125899906842624 := habd d (by simp)
  clear habd
  have Nu := Lib.hid (fun w => num_four w (by omega) hN)
  have hcut2 : (str B).extract p B.length = str (B.drop p) := by rw [str_extract, str_data, ← List.length_drop, List.take_length]
  have hlD : (B.drop p).length ≤ 4000 := by rw [List.length_drop]; omega
  have hp1 : (p : Int) ≤ (B.length : Int) := by omega
  have hp2 : decide (p ≤ B.length) = true := decide_eq_true hpB
  obtain ⟨zv, hzs, hzr⟩ := zero_any (P := Try.prog) (e := 29) (n := 6) (by kernel_rfl)
  have Hzs := Lib.hid hzs
  have Hzr := Lib.hid hzr
  clear hN hzs hzr
  have hk1 : ((c : Int) == 3) = false := by rw [beq_eq_false_iff_ne]; omega
  obtain ⟨M, hM⟩ : ∃ M, 2 * d = M := ⟨_, rfl⟩
  have hwM : IntKind.i64.wrap (2 * (d : Int)) = (M : Int) := by rw [IntWalk.i64_in _ ⟨by omega, by omega⟩]; omega
  have hbD : decide (64 < (d : Int)) = false := decide_eq_false (by omega)
  rw [hM] at hN2
  have hd64 : d ≤ 64 := by omega
  have hpd := fun k => pairsK_bd (numK_facts hN2).2.2 k
  have hml := (numK_facts hN2).2.1
  have hkb := (numK_facts hN2).1
  generalize B.drop p = D at *
  have N2 := Lib.hid (fun w => num_yes w (by omega) (by omega) hN2)
  have Hpd := Lib.hid hpd
  have Hc3 := Lib.hid hc3
  clear hD hN2 hpd hc3
  obtain ⟨K4, hK4⟩ : ∃ K4, kk + 4 = K4 := ⟨_, rfl⟩
  have hw4 : IntKind.i64.wrap ((kk : Int) + 4) = (K4 : Int) := by rw [IntWalk.i64_in _ ⟨by omega, by omega⟩]; omega
  have hk1' : ((c : Int) == 1) = true := by rw [beq_iff_eq]; omega
  have bS : decide ((D.length : Int) < (K4 : Int)) = false := decide_eq_false (by omega)
  have bN : decide (D.length < K4) = false := decide_eq_false (by omega)
  have hcut3 : (str D).extract kk K4 = str ((D.drop kk).take 4) := by rw [str_extract, str_data]; congr 2; omega
  have bS1 : (kk : Int) ≤ (K4 : Int) := by omega
  have bS2 : (K4 : Int) ≤ (D.length : Int) := by omega
  have bS3 : kk ≤ K4 := by omega
  have bS4 : K4 ≤ D.length := by omega
  generalize (D.drop kk).take 4 = SM at *
  clear hc1 hS hK4
  go_enter Try.func36, Try.ntmps36
  go_wp2_with (first
    | (go_at_call 66; (with_reducible refine (Nu.out _).mono ?_); rintro e w1 ⟨g, off, cap1, rfl, hrow, hg1, k1⟩; have KA := Lib.hid k1; have Hrow := Lib.hid hrow; have Hg1 := Lib.hid hg1; clear hrow hg1 k1))
  obtain ⟨Ws, hW0, hW1, hW2⟩ : ∃ Ws : Nat → World, Ws 0 = w1.drewN 1 ∧ Ws 1 = (w1.drewN 1).alloc (.cells zv.cells 29) ∧ Ws 2 = (w1.drewN 1).alloc (.cells #[.int .i64 (a : Nat), .int .i64 (b : Nat), .int .i64 (c : Nat), .slice none 0 0, .string (str []), .string (str [])] 29) := ⟨fun | 0 => _ | 1 => _ | _ => _, rfl, rfl, rfl⟩
  have kd0 : Keeps [] w1 (w1.drewN 1) := (Keeps.refl [] w1).drewN 1
  have x0 : Keeps [] w1 (Ws 0) := by rw [hW0]; exact kd0
  have x1 : Keeps [] w1 (Ws 1) := by rw [hW1]; exact kd0.alloc _
  have x2 : Keeps [] w1 (Ws 2) := by rw [hW2]; exact kd0.alloc _
  obtain ⟨y00, y01, y02, y03⟩ := Hrow.out
  have a0 := x0.cell0 y00
  have a1 := x0.cell0 y01
  have a2 := x0.cell0 y02
  have b0 := x1.cell0 y00
  have b1 := x1.cell0 y01
  have b2 := x1.cell0 y02
  have r1 : ∀ (ev : Operand → Value) (o : Oper), o.op = .alloc 29 → (execOp ev o).run Try.prog (Ws 0) = .ok (.value (.pointer (some ⟨w1.heap.size, 0, none⟩))) (Ws 1) := fun ev o ho => by
    have h := exec_alloc (P := Try.prog) (Ws 0) 29 ev o ho zv Hzr.out
    rw [hW0] at h
    rw [hW0, hW1]
    exact h
  have r2 : ∀ (ev : Operand → Value) (o : Oper) (p x : Operand), o.op = .store 29 p x → ev p = .pointer (some ⟨w1.heap.size, 0, none⟩) → ev x = .agg #[.int .i64 (a : Nat), .int .i64 (b : Nat), .int .i64 (c : Nat), .slice none 0 0, .string (str []), .string (str [])] → (execOp ev o).run Try.prog (Ws 1) = .ok .skip (Ws 2) := fun ev o p x ho hp hx => by
    have h := exec_storeNew (P := Try.prog) (w1.drewN 1) 29 zv.cells [.int .i64 (a : Nat), .int .i64 (b : Nat), .int .i64 (c : Nat), .slice none 0 0, .string (str []), .string (str [])] (by kernel_rfl) Hzs.out (by simp [Value.oneCell']) ev o p x ho hp hx
    rw [hW1, hW2]
    exact h
  have HB2 : Hid ((Ws 2).heap[w1.heap.size]? = some (.cells #[.int .i64 (a : Nat), .int .i64 (b : Nat), .int .i64 (c : Nat), .slice none 0 0, .string (str []), .string (str [])] 29)) := by unfold Hid; rw [hW2]; exact heap_at rfl
  have X2 := Lib.hid x2
  have R1 := Lib.hid r1
  have R2 := Lib.hid r2
  have HW0 := Lib.hid hW0
  clear x0 x1 x2 r1 r2 hW0 hW1 hW2 kd0 y00 y01 y02 y03
  refine region_at Ws [10, 11] (by kernel_rfl) (by kernel_rfl) HW0.out.symm ?_
  iterate 2 (refine atP (by rfl) (fun K hK => ?_); go_simp; refine hK _ ?_; clear hK K)
  (refine atR [0, 1] (by kernel_rfl) (fun K hK => ?_); go_simp; refine hK _ ?_; clear hK K)
  iterate 2 (refine atP (by rfl) (fun K hK => ?_); go_simp; refine hK _ ?_; clear hK K)
  (refine atR [0, 1] (by kernel_rfl) (fun K hK => ?_); go_simp; refine hK _ ?_; clear hK K)
  iterate 2 (refine atP (by rfl) (fun K hK => ?_); go_simp; refine hK _ ?_; clear hK K)
  (refine atR [0, 1] (by kernel_rfl) (fun K hK => ?_); go_simp; refine hK _ ?_; clear hK K)
  (refine atP (by rfl) (fun K hK => ?_); go_simp; refine hK _ ?_; clear hK K)
  refine atW 0 rfl (by decide) rfl _ (R1.out _ _ (by exact rfl)) ?_
  refine atS 1 rfl (by decide) rfl (R2.out _ _ _ _ (by exact rfl) (by rfl) (by rfl)) ?_
  refine wpAt_nil ?_
  have KB := Lib.hid (KT KA.out X2.out)
  have Hz1 : Hid (w.heap.size < w1.heap.size) := (Array.getElem?_eq_some_iff.1 (Zc.out _ KA.out)).1
  have Hg2 : Hid (g < w1.heap.size) := World.block_lt_of_cell? w1 _ Hrow.out.1
  have Row2 : Hid _ := Hrow.out
  clear a0 a1 a2 b0 b1 b2 R1 R2 HW0 KA
  obtain ⟨y00, y01, y02, y03⟩ := Hrow.out
  have l0 := X2.out.cell0 y00
  have l3 := X2.out.cell0 y03
  obtain ⟨⟨c0, c1, c2, c3, c4, c5⟩, g0, g1, g2, g3, g4, g5⟩ := cells6 HB2.out
  have HR := Lib.hid (Zc.out _ KB.out)
  obtain ⟨⟨q0, q1, q2, q3, q4, q5⟩, f0, f1, f2, f3, f4, f5⟩ := cells6 HR.out
  have hne1 : w.heap.size ≠ w1.heap.size := Nat.ne_of_lt Hz1.out
  clear y00 y01 y02 y03 Hrow
  go_wp2_with (first
    | (go_at_call 66; (with_reducible refine (N2.out _).mono ?_); rintro e w2 ⟨mad, mcap, G2, rfl, hm2, hG2, k2⟩; have Hm2 := Lib.hid hm2; have HG2 := Lib.hid hG2; have HB3 := Lib.hid (k2.some HB2.out (by simp)); have KC := Lib.hid (KT KB.out k2); have K2 := Lib.hid k2; have l3' := k2.cell0 l3; have l3g := Lib.hid l3; clear HR q0 q1 q2 q3 q4 q5 f0 f1 f2 f3 f4 f5 c0 c1 c2 c3 c4 c5 g0 g1 g2 g3 g4 g5 l0 l3 hm2 hG2 k2; obtain ⟨⟨c0, c1, c2, c3, c4, c5⟩, g0, g1, g2, g3, g4, g5⟩ := cells6 HB3.out))
  have Hs2 : Hid (w1.heap.size < (Ws 2).heap.size) := (Array.getElem?_eq_some_iff.1 HB2.out).1
  clear c0 c1 c2 c3 c4 c5 g0 g1 g2 g3 g4 g5
  go_loopw [13] (fun iv wr => ∃ (k : Nat) (sv : Value), k ≤ d ∧ iv = .int .i64 k ∧ Hid (wr.heap[w1.heap.size]? = some (.cells #[.int .i64 (a : Nat), .int .i64 (b : Nat), .int .i64 (c : Nat), sv, .string (str []), .string (str [])] 29 (0, 0))) ∧ wr.ownsRow 0 39 2 sv k ((pairsK m k).flatMap spV) ∧ Hid (∀ x, x ∈ sv.ownBlock.toList → w2.heap.size ≤ x) ∧ Hid (Keeps [w1.heap.size] w2 wr)) (fun iv _ => d - (intOf iv).toNat)
  case atStart => exact ⟨0, .slice none 0 0, Nat.zero_le _, rfl, HB3, World.ownsRow_nil _ _ _ _, by simp [Value.ownBlock, Hid], Keeps.refl _ _⟩
  case round =>
    obtain ⟨k, sv, hk, rfl, Hb, hrow, Hfr, Kk⟩ := hrel
    have l3r : wr.cell? ⟨g, off + 3, none⟩ = some (.int .i64 d) := (Kk.out.cell (World.block_lt_of_cell? _ _ l3') (by simpa using Nat.ne_of_lt Hg2.out)).trans l3'
    by_cases hlt : k < d
    · have hki : (k : Int) < (d : Int) := by omega
      have hki0 : (0 : Int) ≤ (k : Int) := by omega
      obtain ⟨x, hx⟩ : ∃ x, m[2 * k]? = some x := ⟨m[2 * k]'(by omega), List.getElem?_eq_getElem _⟩
      obtain ⟨y, hy⟩ : ∃ y, m[2 * k + 1]? = some y := ⟨m[2 * k + 1]'(by omega), List.getElem?_eq_getElem _⟩
      have hnx : pairsK m (k + 1) = pairsK m k ++ [((x : Int), (y : Int))] := by rw [pairsK, List.getD_eq_getElem?_getD, List.getD_eq_getElem?_getD, hx, hy]; rfl
      obtain ⟨ad', cap', e1, hcc⟩ := Hm2.out
      obtain ⟨gm, om, rfl, hgm, hcell⟩ := hcc (by intro h0; rw [List.map_eq_nil_iff] at h0; rw [h0] at hx; simp at hx)
      obtain rfl : mad = some ⟨gm, om, none⟩ := by injection e1
      have hgne : gm ≠ w1.heap.size := by have h1 := HG2.out gm hgm; have h2 := Hs2.out; omega
      have hx2 := hcell (2 * k) (.int .i64 x) (by rw [List.getElem?_map, hx]; rfl)
      have hy2 := hcell (2 * k + 1) (.int .i64 y) (by rw [List.getElem?_map, hy]; rfl)
      have mx : wr.cell? ⟨gm, om + 2 * k, none⟩ = some (.int .i64 x) := (Kk.out.cell (World.block_lt_of_cell? _ _ hx2) (by simpa using hgne)).trans hx2
      have my : wr.cell? ⟨gm, om + (2 * k + 1), none⟩ = some (.int .i64 y) := (Kk.out.cell (World.block_lt_of_cell? _ _ hy2) (by simpa using hgne)).trans hy2
      obtain ⟨J, hJ⟩ : ∃ J, 2 * k = J := ⟨_, rfl⟩
      obtain ⟨J1, hJ1⟩ : ∃ J1, J + 1 = J1 := ⟨_, rfl⟩
      rw [hJ] at mx my
      rw [hJ1] at my
      have hwJ : IntKind.i64.wrap (2 * (k : Int)) = (J : Int) := by rw [IntWalk.i64_in _ ⟨by omega, by omega⟩]; omega
      have hwJ1 : IntKind.i64.wrap ((J : Int) + 1) = (J1 : Int) := by rw [IntWalk.i64_in _ ⟨by omega, by omega⟩]; omega
      have bJ : (J : Int) < (M : Int) := by omega
      have bJ1 : (J1 : Int) < (M : Int) := by omega
      have bJ' : J < M := by omega
      have bJ1' : J1 < M := by omega
      have Hnx := Lib.hid hnx
      obtain ⟨ap, cp, rfl⟩ := ownsRow_shape hrow
      have cs := cell_of_heap Hb.out 3
      generalize pairsK m k = L at *
      clear hx hy hx2 hy2 hnx e1 hcc hcell hJ hJ1 hwM
      have hkA : Keeps [] (wr.drewN 1) ((wr.drewN 1).alloc (.cells #[.int .i64 (x : Int), .int .i64 (y : Int)] 39)) := (Keeps.refl [] _).alloc _
      obtain ⟨gq, cq, wq, hrun, hownq, hchq⟩ := exec_app1 (P := Try.prog) tySps 22 (.slice ap k cp) _ _ (wr.drewN 1) ((wr.drewN 1).alloc (.cells #[.int .i64 (x : Int), .int .i64 (y : Int)] 39)) wr.heap.size _ hkA (heap_alloc_self (wr.drewN 1) _) hrow rfl (by simp [Value.oneCell']) (by omega) (by unfold maxLen; omega)
      have hmo := q_more (w := wr.drewN 1) Hb.out hrow hownq hchq
      obtain ⟨Vs, hV0, hV1, hV2, hV3⟩ : ∃ Vs : Nat → World, Vs 0 = wr.drewN 1 ∧ Vs 1 = (wr.drewN 1).alloc (.cells #[.int .i64 (x : Int), .int .i64 (y : Int)] 39) ∧ Vs 2 = wq ∧ wq.setCell ⟨w1.heap.size, 3, none⟩ (.slice (some ⟨gq, 0, none⟩) (k + 1) cq) = Vs 3 := ⟨fun | 0 => _ | 1 => _ | 2 => _ | _ => _, rfl, rfl, rfl, rfl⟩
      have u0 : (Vs 0).cell? ⟨w1.heap.size, 3, none⟩ = some (.slice ap k cp) := by rw [hV0]; exact cs
      have u1 : (Vs 1).cell? ⟨w1.heap.size, 3, none⟩ = some (.slice ap k cp) := by rw [hV1]; exact hkA.cell0 cs
      have u2 : (Vs 0).cell? ⟨gm, om + J, none⟩ = some (.int .i64 x) := by rw [hV0]; exact mx
      have u3 : (Vs 0).cell? ⟨gm, om + J1, none⟩ = some (.int .i64 y) := by rw [hV0]; exact my
      have u4 : (Vs 2).cell? ⟨w1.heap.size, 3, none⟩ = some (.slice ap k cp) := by rw [hV2]; exact cell_of_heap hmo.1 3
      have u5 : (Vs 2).frozen? ⟨w1.heap.size, 3, none⟩ = false := by rw [hV2]; exact free_of_heap hmo.1 3
      have r3 := fun ev o x1 h h' => exec_buildOne (P := Try.prog) (Vs 0) 22 39 [.int .i64 (x : Int), .int .i64 (y : Int)] Try.underlying22 (by kernel_rfl) (by kernel_rfl) (by simp) (by simp) ev o x1 h h'
      rw [show (Vs 0).heap.size = wr.heap.size by rw [hV0]; rfl, show (Vs 0).alloc (.cells [Value.int .i64 (x : Int), Value.int .i64 (y : Int)].toArray 39) = Vs 1 by rw [hV0, hV1]] at r3
      have r4 := hrun
      rw [← hV1, ← hV2] at r4
      rw [← hV2] at hV3
      have R3 := Lib.hid r3
      have R4 := Lib.hid r4
      have HV0 := Lib.hid hV0
      have HV2 := Lib.hid hV2
      have Hmo := Lib.hid hmo.2
      have Hch := Lib.hid hchq
      clear hV0 hV1 hV2 hrun r3 r4 hkA cs mx my hmo hownq hchq
      go_wp2
      refine region_at Vs [14, 15, 17] (by kernel_rfl) (by kernel_rfl) HV0.out.symm ?_
      iterate 1 (refine atP (by rfl) (fun K hK => ?_); go_simp; refine hK _ ?_; clear hK K)
      (refine atR [0, 1] (by kernel_rfl) (fun K hK => ?_); go_simp; refine hK _ ?_; clear hK K)
      iterate 4 (refine atP (by rfl) (fun K hK => ?_); go_simp; refine hK _ ?_; clear hK K)
      (refine atR [0] (by kernel_rfl) (fun K hK => ?_); go_simp; refine hK _ ?_; clear hK K)
      iterate 5 (refine atP (by rfl) (fun K hK => ?_); go_simp; refine hK _ ?_; clear hK K)
      (refine atR [0] (by kernel_rfl) (fun K hK => ?_); go_simp; refine hK _ ?_; clear hK K)
      (refine atP (by rfl) (fun K hK => ?_); go_simp; refine hK _ ?_; clear hK K)
      refine atW 0 rfl (by decide) rfl _ (R3.out _ _ (.tmp 95) rfl (by rfl)) ?_
      refine atW 1 rfl (by decide) rfl _ (R4.out _ _ (.tmp 83) (.tmp 96) rfl rfl (by rfl) (by rfl)) ?_
      iterate 1 (refine atP (by rfl) (fun K hK => ?_); go_simp; refine hK _ ?_; clear hK K)
      refine atS 2 rfl (by decide) rfl (by go_simp) ?_
      refine wpAt_nil ?_
      go_wp2
      go_roundw
      case rel =>
        have hb3 := Hmo.out.1
        have ho3 := Hmo.out.2.1
        have hk3 := Hmo.out.2.2
        rw [← HV2.out, hV3] at hb3 ho3 hk3
        refine ⟨k + 1, .slice (some ⟨gq, 0, none⟩) (k + 1) cq, by omega, by go_num, hb3, ?_, fun z hz => ?_, (Kk.out.drewN 1).trans hk3 (fun z hz => ?_)⟩
        · rw [Hnx.out, List.flatMap_append]
          have e : [((x : Int), (y : Int))].flatMap spV = #[Value.int .i64 (x : Int), Value.int .i64 (y : Int)].toList := by simp [spV]
          rw [e]
          exact ho3
        · have hz' : z = gq := by simpa [Value.ownBlock] using hz
          rcases Hch.out.fresh z (by simp [hz']) with h | h
          · exact Hfr.out z h
          · exact Nat.le_trans Kk.out.size h
        · rcases List.mem_cons.1 hz with h | h
          · exact .inl (by simp [h])
          · exact .inr (Hfr.out z h)
      case measure => simp [intOf]; omega
    · obtain rfl : k = d := by omega
      obtain ⟨ap, cp, rfl⟩ := ownsRow_shape hrow
      have Hrow := Lib.hid hrow
      have KE : Hid (Keeps [] (w.alloc (.cells #[.int .i64 0, .int .i64 0, .int .i64 0, .slice none 0 0, .string (str []), .string (str [])] 29)) wr) := KC.out.trans Kk.out (fun z hz => .inr (by rw [List.mem_singleton] at hz; rw [hz]; have := Hz1.out; simp; omega))
      have HE := Lib.hid (Zc.out _ KE.out)
      obtain ⟨⟨q0, q1, q2, q3, q4, q5⟩, f0, f1, f2, f3, f4, f5⟩ := cells6 HE.out
      obtain ⟨⟨c0, c1, c2, c3, c4, c5⟩, _⟩ := cells6 Hb.out
      clear hrow
      go_wp2
      have hlk := pairsK_len m k
      have hgd : (⟨(a : Nat), (b : Nat), (c : Nat), pairsK m k, [], []⟩ : Rc).good wr (.slice ap k cp) (Value.slice ap k cp).ownBlock.toList := by
        refine ⟨⟨by dsimp only; omega, by dsimp only; omega⟩, ⟨by dsimp only; omega, by dsimp only; omega⟩, ⟨by dsimp only; omega, by dsimp only; omega⟩, sp_own ?_, fun z hz => ?_, by dsimp only; omega, by simp, by simp⟩
        · dsimp only
          rw [hlk]
          exact Hrow.out
        · have h := Hpd.out k z hz
          exact ⟨⟨by omega, by omega⟩, by omega, by omega⟩
      refine bodyPost_ret (results_row_tmp2 rfl rfl (heap_set6 HE.out _ _ _ _ _ _) Try.underlying29 rfl (by kernel_rfl)) rfl (.inr ⟨⟨(a : Nat), (b : Nat), (c : Nat), pairsK m k, [], []⟩, SM, _, _, Hv.out, rfl, hgd.kept (keeps_at6 _ w.heap.size _ _ _ _ _ _) (fun x hx => ?_), fun x hx => ?_, keeps_set6 (KT K0.out KE.out) (Nat.le_refl _) _ _ _ _ _ _⟩)
      · have h1 := Hfr.out x hx
        have h2 := KC.out.size
        simp at h2 ⊢
        omega
      · have h1 := Hfr.out x hx
        have h2 := KC.out.size
        have h3 := own_lt Hrow.out x hx
        simp at h2 h3 ⊢
        omega

set_option maxHeartbeats 4000000 in
theorem rtold_c5 (s : List UInt8) (w : World) (h8 : 8 ≤ s.length) (hs : s.length ≤ 4000) (a b c d p : Nat) (hN : numK (bodyOfH s) 4 = some ([a, b, c, d], p)) (hc3 : c ≠ 3) (hD : ¬ 64 < d) (m : List Nat) (kk : Nat) (hN2 : numK ((bodyOfH s).drop p) (2 * d) = some (m, kk)) (hc1 : c ≠ 1) :
    Calls Try.prog 36 #[.string (str s)] w (RTold (bodyOfH s) w) := by
  have hcut : (str s).extract 4 (s.length - 4) = str (bodyOfH s) := by rw [str_extract, str_data]; unfold bodyOfH; rw [show s.length - 4 - 4 = s.length - 8 by omega]
  have hlb : (bodyOfH s).length ≤ 4000 := by unfold bodyOfH; rw [List.length_take]; omega
  have hw1 : IntKind.i64.wrap ((s.length : Int) - 4) = ((s.length - 4 : Nat) : Int) := by rw [IntWalk.i64_in _ ⟨by omega, by omega⟩]; omega
  have hz := str_empty
  have hn1 : (4 : Int) ≤ ((s.length - 4 : Nat) : Int) := by omega
  have hn2 : ((s.length - 4 : Nat) : Int) ≤ (s.length : Int) := by omega
  have hn3 : 4 ≤ s.length - 4 := by omega
  have hn4 : s.length - 4 ≤ s.length := by omega
  have K0 := Lib.hid ((Keeps.refl [] w).alloc zq)
  have Zc : Hid (∀ w', Keeps [] (w.alloc zq) w' → w'.heap[w.heap.size]? = some zq) := fun w' k => k.some (heap_alloc_self w zq) (by simp)
  unfold zq at *
  generalize bodyOfH s = B at *
  have hv : toldQ B = some (⟨a, b, c, pairsK m d, [], []⟩, []) := by
    unfold toldQ
    rw [hN, Option.bind_some]
    dsimp only
    simp only [List.getD_cons_zero, List.getD_cons_succ]
    rw [if_neg hc3, if_neg hD, hN2, Option.bind_some, if_neg hc1]
  have Hv := Lib.hid hv
  clear hv
  obtain ⟨hpB, _, habd⟩ := numK_facts hN
  have ha : a ≤ 1125899906842624 := habd a (by simp)
  have hb : b ≤ 1125899906842624 := habd b (by simp)
  have hc : c ≤ 1125899906842624 := habd c (by simp)
  have hd : d ≤ 1125899906842624 := habd d (by simp)
  clear habd
  have Nu := Lib.hid (fun w => num_four w (by omega) hN)
  have hcut2 : (str B).extract p B.length = str (B.drop p) := by rw [str_extract, str_data, ← List.length_drop, List.take_length]
  have hlD : (B.drop p).length ≤ 4000 := by rw [List.length_drop]; omega
  have hp1 : (p : Int) ≤ (B.length : Int) := by omega
  have hp2 : decide (p ≤ B.length) = true := decide_eq_true hpB
  obtain ⟨zv, hzs, hzr⟩ := zero_any (P := Try.prog) (e := 29) (n := 6) (by kernel_rfl)
  have Hzs := Lib.hid hzs
  have Hzr := Lib.hid hzr
  clear hN hzs hzr
  have hk1 : ((c : Int) == 3) = false := by rw [beq_eq_false_iff_ne]; omega
  obtain ⟨M, hM⟩ : ∃ M, 2 * d = M := ⟨_, rfl⟩
  have hwM : IntKind.i64.wrap (2 * (d : Int)) = (M : Int) := by rw [IntWalk.i64_in _ ⟨by omega, by omega⟩]; omega
  have hbD : decide (64 < (d : Int)) = false := decide_eq_false (by omega)
  rw [hM] at hN2
  have hd64 : d ≤ 64 := by omega
  have hpd := fun k => pairsK_bd (numK_facts hN2).2.2 k
  have hml := (numK_facts hN2).2.1
  have hkb := (numK_facts hN2).1
  generalize B.drop p = D at *
  have N2 := Lib.hid (fun w => num_yes w (by omega) (by omega) hN2)
  have Hpd := Lib.hid hpd
  have Hc3 := Lib.hid hc3
  clear hD hN2 hpd hc3
  have hk1' : ((c : Int) == 1) = false := by rw [beq_eq_false_iff_ne]; omega
  clear hc1
  go_enter Try.func36, Try.ntmps36
  go_wp2_with (first
    | (go_at_call 66; (with_reducible refine (Nu.out _).mono ?_); rintro e w1 ⟨g, off, cap1, rfl, hrow, hg1, k1⟩; have KA := Lib.hid k1; have Hrow := Lib.hid hrow; have Hg1 := Lib.hid hg1; clear hrow hg1 k1))
  obtain ⟨Ws, hW0, hW1, hW2⟩ : ∃ Ws : Nat → World, Ws 0 = w1.drewN 1 ∧ Ws 1 = (w1.drewN 1).alloc (.cells zv.cells 29) ∧ Ws 2 = (w1.drewN 1).alloc (.cells #[.int .i64 (a : Nat), .int .i64 (b : Nat), .int .i64 (c : Nat), .slice none 0 0, .string (str []), .string (str [])] 29) := ⟨fun | 0 => _ | 1 => _ | _ => _, rfl, rfl, rfl⟩
  have kd0 : Keeps [] w1 (w1.drewN 1) := (Keeps.refl [] w1).drewN 1
  have x0 : Keeps [] w1 (Ws 0) := by rw [hW0]; exact kd0
  have x1 : Keeps [] w1 (Ws 1) := by rw [hW1]; exact kd0.alloc _
  have x2 : Keeps [] w1 (Ws 2) := by rw [hW2]; exact kd0.alloc _
  obtain ⟨y00, y01, y02, y03⟩ := Hrow.out
  have a0 := x0.cell0 y00
  have a1 := x0.cell0 y01
  have a2 := x0.cell0 y02
  have b0 := x1.cell0 y00
  have b1 := x1.cell0 y01
  have b2 := x1.cell0 y02
  have r1 : ∀ (ev : Operand → Value) (o : Oper), o.op = .alloc 29 → (execOp ev o).run Try.prog (Ws 0) = .ok (.value (.pointer (some ⟨w1.heap.size, 0, none⟩))) (Ws 1) := fun ev o ho => by
    have h := exec_alloc (P := Try.prog) (Ws 0) 29 ev o ho zv Hzr.out
    rw [hW0] at h
    rw [hW0, hW1]
    exact h
  have r2 : ∀ (ev : Operand → Value) (o : Oper) (p x : Operand), o.op = .store 29 p x → ev p = .pointer (some ⟨w1.heap.size, 0, none⟩) → ev x = .agg #[.int .i64 (a : Nat), .int .i64 (b : Nat), .int .i64 (c : Nat), .slice none 0 0, .string (str []), .string (str [])] → (execOp ev o).run Try.prog (Ws 1) = .ok .skip (Ws 2) := fun ev o p x ho hp hx => by
    have h := exec_storeNew (P := Try.prog) (w1.drewN 1) 29 zv.cells [.int .i64 (a : Nat), .int .i64 (b : Nat), .int .i64 (c : Nat), .slice none 0 0, .string (str []), .string (str [])] (by kernel_rfl) Hzs.out (by simp [Value.oneCell']) ev o p x ho hp hx
    rw [hW1, hW2]
    exact h
  have HB2 : Hid ((Ws 2).heap[w1.heap.size]? = some (.cells #[.int .i64 (a : Nat), .int .i64 (b : Nat), .int .i64 (c : Nat), .slice none 0 0, .string (str []), .string (str [])] 29)) := by unfold Hid; rw [hW2]; exact heap_at rfl
  have X2 := Lib.hid x2
  have R1 := Lib.hid r1
  have R2 := Lib.hid r2
  have HW0 := Lib.hid hW0
  clear x0 x1 x2 r1 r2 hW0 hW1 hW2 kd0 y00 y01 y02 y03
  refine region_at Ws [10, 11] (by kernel_rfl) (by kernel_rfl) HW0.out.symm ?_
  iterate 2 (refine atP (by rfl) (fun K hK => ?_); go_simp; refine hK _ ?_; clear hK K)
  (refine atR [0, 1] (by kernel_rfl) (fun K hK => ?_); go_simp; refine hK _ ?_; clear hK K)
  iterate 2 (refine atP (by rfl) (fun K hK => ?_); go_simp; refine hK _ ?_; clear hK K)
  (refine atR [0, 1] (by kernel_rfl) (fun K hK => ?_); go_simp; refine hK _ ?_; clear hK K)
  iterate 2 (refine atP (by rfl) (fun K hK => ?_); go_simp; refine hK _ ?_; clear hK K)
  (refine atR [0, 1] (by kernel_rfl) (fun K hK => ?_); go_simp; refine hK _ ?_; clear hK K)
  (refine atP (by rfl) (fun K hK => ?_); go_simp; refine hK _ ?_; clear hK K)
  refine atW 0 rfl (by decide) rfl _ (R1.out _ _ (by exact rfl)) ?_
  refine atS 1 rfl (by decide) rfl (R2.out _ _ _ _ (by exact rfl) (by rfl) (by rfl)) ?_
  refine wpAt_nil ?_
  have KB := Lib.hid (KT KA.out X2.out)
  have Hz1 : Hid (w.heap.size < w1.heap.size) := (Array.getElem?_eq_some_iff.1 (Zc.out _ KA.out)).1
  have Hg2 : Hid (g < w1.heap.size) := World.block_lt_of_cell? w1 _ Hrow.out.1
  have Row2 : Hid _ := Hrow.out
  clear a0 a1 a2 b0 b1 b2 R1 R2 HW0 KA
  obtain ⟨y00, y01, y02, y03⟩ := Hrow.out
  have l0 := X2.out.cell0 y00
  have l3 := X2.out.cell0 y03
  obtain ⟨⟨c0, c1, c2, c3, c4, c5⟩, g0, g1, g2, g3, g4, g5⟩ := cells6 HB2.out
  have HR := Lib.hid (Zc.out _ KB.out)
  obtain ⟨⟨q0, q1, q2, q3, q4, q5⟩, f0, f1, f2, f3, f4, f5⟩ := cells6 HR.out
  have hne1 : w.heap.size ≠ w1.heap.size := Nat.ne_of_lt Hz1.out
  clear y00 y01 y02 y03 Hrow
  go_wp2_with (first
    | (go_at_call 66; (with_reducible refine (N2.out _).mono ?_); rintro e w2 ⟨mad, mcap, G2, rfl, hm2, hG2, k2⟩; have Hm2 := Lib.hid hm2; have HG2 := Lib.hid hG2; have HB3 := Lib.hid (k2.some HB2.out (by simp)); have KC := Lib.hid (KT KB.out k2); have K2 := Lib.hid k2; have l3' := k2.cell0 l3; have l3g := Lib.hid l3; clear HR q0 q1 q2 q3 q4 q5 f0 f1 f2 f3 f4 f5 c0 c1 c2 c3 c4 c5 g0 g1 g2 g3 g4 g5 l0 l3 hm2 hG2 k2; obtain ⟨⟨c0, c1, c2, c3, c4, c5⟩, g0, g1, g2, g3, g4, g5⟩ := cells6 HB3.out))
  have Hs2 : Hid (w1.heap.size < (Ws 2).heap.size) := (Array.getElem?_eq_some_iff.1 HB2.out).1
  clear c0 c1 c2 c3 c4 c5 g0 g1 g2 g3 g4 g5
  go_loopw [13] (fun iv wr => ∃ (k : Nat) (sv : Value), k ≤ d ∧ iv = .int .i64 k ∧ Hid (wr.heap[w1.heap.size]? = some (.cells #[.int .i64 (a : Nat), .int .i64 (b : Nat), .int .i64 (c : Nat), sv, .string (str []), .string (str [])] 29 (0, 0))) ∧ wr.ownsRow 0 39 2 sv k ((pairsK m k).flatMap spV) ∧ Hid (∀ x, x ∈ sv.ownBlock.toList → w2.heap.size ≤ x) ∧ Hid (Keeps [w1.heap.size] w2 wr)) (fun iv _ => d - (intOf iv).toNat)
  case atStart => exact ⟨0, .slice none 0 0, Nat.zero_le _, rfl, HB3, World.ownsRow_nil _ _ _ _, by simp [Value.ownBlock, Hid], Keeps.refl _ _⟩
  case round =>
    obtain ⟨k, sv, hk, rfl, Hb, hrow, Hfr, Kk⟩ := hrel
    have l3r : wr.cell? ⟨g, off + 3, none⟩ = some (.int .i64 d) := (Kk.out.cell (World.block_lt_of_cell? _ _ l3') (by simpa using Nat.ne_of_lt Hg2.out)).trans l3'
    by_cases hlt : k < d
    · have hki : (k : Int) < (d : Int) := by omega
      have hki0 : (0 : Int) ≤ (k : Int) := by omega
      obtain ⟨x, hx⟩ : ∃ x, m[2 * k]? = some x := ⟨m[2 * k]'(by omega), List.getElem?_eq_getElem _⟩
      obtain ⟨y, hy⟩ : ∃ y, m[2 * k + 1]? = some y := ⟨m[2 * k + 1]'(by omega), List.getElem?_eq_getElem _⟩
      have hnx : pairsK m (k + 1) = pairsK m k ++ [((x : Int), (y : Int))] := by rw [pairsK, List.getD_eq_getElem?_getD, List.getD_eq_getElem?_getD, hx, hy]; rfl
      obtain ⟨ad', cap', e1, hcc⟩ := Hm2.out
      obtain ⟨gm, om, rfl, hgm, hcell⟩ := hcc (by intro h0; rw [List.map_eq_nil_iff] at h0; rw [h0] at hx; simp at hx)
      obtain rfl : mad = some ⟨gm, om, none⟩ := by injection e1
      have hgne : gm ≠ w1.heap.size := by have h1 := HG2.out gm hgm; have h2 := Hs2.out; omega
      have hx2 := hcell (2 * k) (.int .i64 x) (by rw [List.getElem?_map, hx]; rfl)
      have hy2 := hcell (2 * k + 1) (.int .i64 y) (by rw [List.getElem?_map, hy]; rfl)
      have mx : wr.cell? ⟨gm, om + 2 * k, none⟩ = some (.int .i64 x) := (Kk.out.cell (World.block_lt_of_cell? _ _ hx2) (by simpa using hgne)).trans hx2
      have my : wr.cell? ⟨gm, om + (2 * k + 1), none⟩ = some (.int .i64 y) := (Kk.out.cell (World.block_lt_of_cell? _ _ hy2) (by simpa using hgne)).trans hy2
      obtain ⟨J, hJ⟩ : ∃ J, 2 * k = J := ⟨_, rfl⟩
      obtain ⟨J1, hJ1⟩ : ∃ J1, J + 1 = J1 := ⟨_, rfl⟩
      rw [hJ] at mx my
      rw [hJ1] at my
      have hwJ : IntKind.i64.wrap (2 * (k : Int)) = (J : Int) := by rw [IntWalk.i64_in _ ⟨by omega, by omega⟩]; omega
      have hwJ1 : IntKind.i64.wrap ((J : Int) + 1) = (J1 : Int) := by rw [IntWalk.i64_in _ ⟨by omega, by omega⟩]; omega
      have bJ : (J : Int) < (M : Int) := by omega
      have bJ1 : (J1 : Int) < (M : Int) := by omega
      have bJ' : J < M := by omega
      have bJ1' : J1 < M := by omega
      have Hnx := Lib.hid hnx
      obtain ⟨ap, cp, rfl⟩ := ownsRow_shape hrow
      have cs := cell_of_heap Hb.out 3
      generalize pairsK m k = L at *
      clear hx hy hx2 hy2 hnx e1 hcc hcell hJ hJ1 hwM
      have hkA : Keeps [] (wr.drewN 1) ((wr.drewN 1).alloc (.cells #[.int .i64 (x : Int), .int .i64 (y : Int)] 39)) := (Keeps.refl [] _).alloc _
      obtain ⟨gq, cq, wq, hrun, hownq, hchq⟩ := exec_app1 (P := Try.prog) tySps 22 (.slice ap k cp) _ _ (wr.drewN 1) ((wr.drewN 1).alloc (.cells #[.int .i64 (x : Int), .int .i64 (y : Int)] 39)) wr.heap.size _ hkA (heap_alloc_self (wr.drewN 1) _) hrow rfl (by simp [Value.oneCell']) (by omega) (by unfold maxLen; omega)
      have hmo := q_more (w := wr.drewN 1) Hb.out hrow hownq hchq
      obtain ⟨Vs, hV0, hV1, hV2, hV3⟩ : ∃ Vs : Nat → World, Vs 0 = wr.drewN 1 ∧ Vs 1 = (wr.drewN 1).alloc (.cells #[.int .i64 (x : Int), .int .i64 (y : Int)] 39) ∧ Vs 2 = wq ∧ wq.setCell ⟨w1.heap.size, 3, none⟩ (.slice (some ⟨gq, 0, none⟩) (k + 1) cq) = Vs 3 := ⟨fun | 0 => _ | 1 => _ | 2 => _ | _ => _, rfl, rfl, rfl, rfl⟩
      have u0 : (Vs 0).cell? ⟨w1.heap.size, 3, none⟩ = some (.slice ap k cp) := by rw [hV0]; exact cs
      have u1 : (Vs 1).cell? ⟨w1.heap.size, 3, none⟩ = some (.slice ap k cp) := by rw [hV1]; exact hkA.cell0 cs
      have u2 : (Vs 0).cell? ⟨gm, om + J, none⟩ = some (.int .i64 x) := by rw [hV0]; exact mx
      have u3 : (Vs 0).cell? ⟨gm, om + J1, none⟩ = some (.int .i64 y) := by rw [hV0]; exact my
      have u4 : (Vs 2).cell? ⟨w1.heap.size, 3, none⟩ = some (.slice ap k cp) := by rw [hV2]; exact cell_of_heap hmo.1 3
      have u5 : (Vs 2).frozen? ⟨w1.heap.size, 3, none⟩ = false := by rw [hV2]; exact free_of_heap hmo.1 3
      have r3 := fun ev o x1 h h' => exec_buildOne (P := Try.prog) (Vs 0) 22 39 [.int .i64 (x : Int), .int .i64 (y : Int)] Try.underlying22 (by kernel_rfl) (by kernel_rfl) (by simp) (by simp) ev o x1 h h'
      rw [show (Vs 0).heap.size = wr.heap.size by rw [hV0]; rfl, show (Vs 0).alloc (.cells [Value.int .i64 (x : Int), Value.int .i64 (y : Int)].toArray 39) = Vs 1 by rw [hV0, hV1]] at r3
      have r4 := hrun
      rw [← hV1, ← hV2] at r4
      rw [← hV2] at hV3
      have R3 := Lib.hid r3
      have R4 := Lib.hid r4
      have HV0 := Lib.hid hV0
      have HV2 := Lib.hid hV2
      have Hmo := Lib.hid hmo.2
      have Hch := Lib.hid hchq
      clear hV0 hV1 hV2 hrun r3 r4 hkA cs mx my hmo hownq hchq
      go_wp2
      refine region_at Vs [14, 15, 17] (by kernel_rfl) (by kernel_rfl) HV0.out.symm ?_
      iterate 1 (refine atP (by rfl) (fun K hK => ?_); go_simp; refine hK _ ?_; clear hK K)
      (refine atR [0, 1] (by kernel_rfl) (fun K hK => ?_); go_simp; refine hK _ ?_; clear hK K)
      iterate 4 (refine atP (by rfl) (fun K hK => ?_); go_simp; refine hK _ ?_; clear hK K)
      (refine atR [0] (by kernel_rfl) (fun K hK => ?_); go_simp; refine hK _ ?_; clear hK K)
      iterate 5 (refine atP (by rfl) (fun K hK => ?_); go_simp; refine hK _ ?_; clear hK K)
      (refine atR [0] (by kernel_rfl) (fun K hK => ?_); go_simp; refine hK _ ?_; clear hK K)
      (refine atP (by rfl) (fun K hK => ?_); go_simp; refine hK _ ?_; clear hK K)
      refine atW 0 rfl (by decide) rfl _ (R3.out _ _ (.tmp 95) rfl (by rfl)) ?_
      refine atW 1 rfl (by decide) rfl _ (R4.out _ _ (.tmp 83) (.tmp 96) rfl rfl (by rfl) (by rfl)) ?_
      iterate 1 (refine atP (by rfl) (fun K hK => ?_); go_simp; refine hK _ ?_; clear hK K)
      refine atS 2 rfl (by decide) rfl (by go_simp) ?_
      refine wpAt_nil ?_
      go_wp2
      go_roundw
      case rel =>
        have hb3 := Hmo.out.1
        have ho3 := Hmo.out.2.1
        have hk3 := Hmo.out.2.2
        rw [← HV2.out, hV3] at hb3 ho3 hk3
        refine ⟨k + 1, .slice (some ⟨gq, 0, none⟩) (k + 1) cq, by omega, by go_num, hb3, ?_, fun z hz => ?_, (Kk.out.drewN 1).trans hk3 (fun z hz => ?_)⟩
        · rw [Hnx.out, List.flatMap_append]
          have e : [((x : Int), (y : Int))].flatMap spV = #[Value.int .i64 (x : Int), Value.int .i64 (y : Int)].toList := by simp [spV]
          rw [e]
          exact ho3
        · have hz' : z = gq := by simpa [Value.ownBlock] using hz
          rcases Hch.out.fresh z (by simp [hz']) with h | h
          · exact Hfr.out z h
          · exact Nat.le_trans Kk.out.size h
        · rcases List.mem_cons.1 hz with h | h
          · exact .inl (by simp [h])
          · exact .inr (Hfr.out z h)
      case measure => simp [intOf]; omega
    · obtain rfl : k = d := by omega
      obtain ⟨ap, cp, rfl⟩ := ownsRow_shape hrow
      have Hrow := Lib.hid hrow
      have KE : Hid (Keeps [] (w.alloc (.cells #[.int .i64 0, .int .i64 0, .int .i64 0, .slice none 0 0, .string (str []), .string (str [])] 29)) wr) := KC.out.trans Kk.out (fun z hz => .inr (by rw [List.mem_singleton] at hz; rw [hz]; have := Hz1.out; simp; omega))
      have HE := Lib.hid (Zc.out _ KE.out)
      obtain ⟨⟨q0, q1, q2, q3, q4, q5⟩, f0, f1, f2, f3, f4, f5⟩ := cells6 HE.out
      obtain ⟨⟨c0, c1, c2, c3, c4, c5⟩, _⟩ := cells6 Hb.out
      clear hrow
      go_wp2
      have hlk := pairsK_len m k
      have hgd : (⟨(a : Nat), (b : Nat), (c : Nat), pairsK m k, [], []⟩ : Rc).good wr (.slice ap k cp) (Value.slice ap k cp).ownBlock.toList := by
        refine ⟨⟨by dsimp only; omega, by dsimp only; omega⟩, ⟨by dsimp only; omega, by dsimp only; omega⟩, ⟨by dsimp only; omega, by dsimp only; omega⟩, sp_own ?_, fun z hz => ?_, by dsimp only; omega, by simp, by simp⟩
        · dsimp only
          rw [hlk]
          exact Hrow.out
        · have h := Hpd.out k z hz
          exact ⟨⟨by omega, by omega⟩, by omega, by omega⟩
      refine bodyPost_ret (results_row_tmp2 rfl rfl (heap_set6 HE.out _ _ _ _ _ _) Try.underlying29 rfl (by kernel_rfl)) rfl (.inr ⟨⟨(a : Nat), (b : Nat), (c : Nat), pairsK m k, [], []⟩, [], _, _, Hv.out, rfl, hgd.kept (keeps_at6 _ w.heap.size _ _ _ _ _ _) (fun x hx => ?_), fun x hx => ?_, keeps_set6 (KT K0.out KE.out) (Nat.le_refl _) _ _ _ _ _ _⟩)
      · have h1 := Hfr.out x hx
        have h2 := KC.out.size
        simp at h2 ⊢
        omega
      · have h1 := Hfr.out x hx
        have h2 := KC.out.size
        have h3 := own_lt Hrow.out x hx
        simp at h2 h3 ⊢
        omega

theorem rtold_any (s : List UInt8) (w : World) (h8 : 8 ≤ s.length) (hs : s.length ≤ 4000) :
    Calls Try.prog 36 #[.string (str s)] w (RTold (bodyOfH s) w) := by
  cases hN : numK (bodyOfH s) 4 with
  | none => exact rtold_a s w h8 hs hN
  | some x =>
    obtain ⟨l, p⟩ := x
    have hl := (numK_facts hN).2.1
    match l, hl with
    | [a, b, c, d], _ =>
      by_cases hc3 : c = 3
      · by_cases hD : ((bodyOfH s).drop p).length < d
        · exact rtold_b1 s w h8 hs a b c d p hN hc3 hD
        · exact rtold_b2 s w h8 hs a b c d p hN hc3 hD
      · by_cases hD : 64 < d
        · exact rtold_c1 s w h8 hs a b c d p hN hc3 hD
        · cases hN2 : numK ((bodyOfH s).drop p) (2 * d) with
          | none => exact rtold_c2 s w h8 hs a b c d p hN hc3 hD hN2
          | some y =>
            obtain ⟨m, kk⟩ := y
            by_cases hc1 : c = 1
            · by_cases hS : ((bodyOfH s).drop p).length < kk + 4
              · exact rtold_c3 s w h8 hs a b c d p hN hc3 hD m kk hN2 hc1 hS
              · exact rtold_c4 s w h8 hs a b c d p hN hc3 hD m kk hN2 hc1 hS
            · exact rtold_c5 s w h8 hs a b c d p hN hc3 hD m kk hN2 hc1
end Go.Proofs.Ytjebldfmkpfafaa
