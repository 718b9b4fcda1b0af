/- Layer 6: Parse of the program. -/
import Derived.Test.YtdjhlnkkbpmfmaaDoorNamK
import Derived.Test.YtdjhlnkkbpmfmaaDoorNamO
namespace Go.Proofs.YtdjhlnkkbpmfmaaDoor
open Go.RowKit

/-- A letter's kind. -/
def kidx (c : UInt8) : Int := if c = 100 then 1 else if c = 99 then 2 else if c = 109 then 3 else if c = 101 then 4 else if c = 45 then 0 else -1
theorem kidx_at : ∀ c : Fin 256, Lib.indexByte [45, 100, 99, 109, 101] (UInt8.ofNat c.val) = kidx (UInt8.ofNat c.val) := by decide +kernel
theorem kidx_index (c : UInt8) : Lib.indexByte [45, 100, 99, 109, 101] ((c.toNat : Int).toNat.toUInt8) = kidx c := by
  have h := kidx_at ⟨c.toNat, c.toNat_lt⟩
  have e : ((c.toNat : Int).toNat.toUInt8) = UInt8.ofNat c.toNat := by simp
  rw [e, h]
  simp
theorem kidx_letter {c : UInt8} (h : 1 ≤ kidx c) : letterOf (kidx c) = c ∧ kidx c ≤ 4 := by
  unfold kidx at h ⊢
  split
  · rename_i h1; subst h1; exact ⟨rfl, by omega⟩
  · split
    · rename_i h1; subst h1; exact ⟨rfl, by omega⟩
    · split
      · rename_i h1; subst h1; exact ⟨rfl, by omega⟩
      · split
        · rename_i h1; subst h1; exact ⟨rfl, by omega⟩
        · rename_i h1 h2 h3 h4
          rw [if_neg h1, if_neg h2, if_neg h3, if_neg h4] at h
          split at h <;> omega
theorem letter_kidx {k : Int} (h1 : 1 ≤ k) (h2 : k ≤ 4) : kidx (letterOf k) = k := by
  rcases (show k = 1 ∨ k = 2 ∨ k = 3 ∨ k = 4 by omega) with rfl | rfl | rfl | rfl <;> decide

/-- The kind and the number of a text. -/
def parseP (v : List UInt8) (c1 c2 c3 : UInt8) (d : List UInt8) : Option (Int × Nat) :=
  if volOk v = true ∧ c1 = 47 ∧ c3 = 47 ∧ 1 ≤ kidx c2 then (numGo 0 d).map fun n => (kidx c2, n) else none

theorem prefix_three (v d : List UInt8) (c1 c2 c3 l : UInt8) : Lib.hasPrefix (v ++ c1 :: c2 :: c3 :: d) (v ++ [47, l, 47]) = decide (c1 = 47 ∧ c2 = l ∧ c3 = 47) := by
  rw [← Lib.hasPrefix_of_take]
  have h1 : (v ++ [47, l, 47]).length = v.length + 3 := by simp
  have h2 : (v ++ c1 :: c2 :: c3 :: d).take (v.length + 3) = v ++ [c1, c2, c3] := by rw [List.take_length_add_append]; rfl
  rw [h1, h2, decide_eq_true (by simp), Bool.true_and, Bool.eq_iff_iff, beq_iff_eq, decide_eq_true_eq, List.append_cancel_left_eq]
  simp

/-- What Parse makes of what it reads. -/
theorem parse_cases (v d : List UInt8) (c1 c2 c3 : UInt8) :
    parseP v c1 c2 c3 d = if (numGo 0 d).isSome = true ∧ (preOf v (kidx c2)).2 = 0 ∧ Lib.hasPrefix (v ++ c1 :: c2 :: c3 :: d) (preOf v (kidx c2)).1 = true then some (kidx c2, (numGo 0 d).getD 0) else none := by
  unfold parseP
  by_cases h : volOk v = true ∧ c1 = 47 ∧ c3 = 47 ∧ 1 ≤ kidx c2
  · rw [if_pos h]
    obtain ⟨h1, h2, h3, h4⟩ := h
    obtain ⟨e1, e2⟩ := kidx_letter h4
    have hp : preOf v (kidx c2) = (v ++ [47, c2, 47], 0) := by
      unfold preOf
      rw [if_neg (by rw [h1]; decide), if_neg (by omega), e1]
    rw [hp]
    cases numGo 0 d with
    | none => simp
    | some n => rw [if_pos ⟨rfl, rfl, by rw [prefix_three]; simp [h2, h3]⟩]; rfl
  · rw [if_neg h, if_neg]
    rintro ⟨_, h2, h3⟩
    obtain ⟨a1, a2, a3, a4⟩ := preOf_ok h2
    rw [a4, prefix_three, decide_eq_true_eq] at h3
    exact h ⟨a1, h3.1, h3.2.2, a2⟩

def nameA (v : List UInt8) (k n : Int) : Value := .agg #[.string (str v), .int .i64 k, .int .i64 n]
theorem heap_set3 {w : World} {b : Nat} {a0 a1 a2 : Value} {t : TypeId} (h : w.heap[b]? = some (.cells #[a0, a1, a2] t (0, 0))) (v0 v1 v2 : Value) :
    (((w.setCell ⟨b, 0, none⟩ v0).setCell ⟨b, 1, none⟩ v1).setCell ⟨b, 2, none⟩ v2).heap[b]? = some (.cells #[v0, v1, v2] t (0, 0)) :=
  heap_setCell (heap_setCell (heap_setCell h 0 v0) 1 v1) 2 v2
theorem keeps_set3 {w0 w : World} (h : Keeps [] w0 w) {b : Nat} (hb : w0.heap.size ≤ b) (v0 v1 v2 : Value) : Keeps [] w0 (((w.setCell ⟨b, 0, none⟩ v0).setCell ⟨b, 1, none⟩ v1).setCell ⟨b, 2, none⟩ v2) :=
  ((h.setK b 0 v0 hb).setK b 1 v1 hb).setK b 2 v2 hb
theorem cells3 {w : World} {b : Nat} {a0 a1 a2 : Value} {t : TypeId} (h : w.heap[b]? = some (.cells #[a0, a1, a2] t (0, 0))) :
    (w.cell? ⟨b, 0, none⟩ = some a0 ∧ w.cell? ⟨b, 1, none⟩ = some a1 ∧ w.cell? ⟨b, 2, none⟩ = some a2) ∧ (w.frozen? ⟨b, 0, none⟩ = false ∧ w.frozen? ⟨b, 1, none⟩ = false ∧ w.frozen? ⟨b, 2, none⟩ = false) :=
  ⟨⟨cell_of_heap h 0, cell_of_heap h 1, cell_of_heap h 2⟩, ⟨free_of_heap h 0, free_of_heap h 1, free_of_heap h 2⟩⟩

set_option maxHeartbeats 4000000 in
set_option maxRecDepth 100000 in
theorem nparse_short (S : ByteArray) (w : World) (hs : S.size ≤ 13) : Calls Tryd.prog 19 #[.string S] w fun e w' => e = .returned (.tuple #[nameA [] 0 0, .int .i64 12]) ∧ Keeps [] w w' := by
  have hi : (S.size : Int) ≤ 13 := by omega
  clear hs
  go_enter Tryd.func19, Tryd.ntmps19
  go_wp2_with fail
  refine bodyPost_ret (results_row_tmp rfl rfl (heap_at (w := w) rfl) Tryd.underlying23 rfl (by kernel_rfl)) rfl ⟨rfl, (Keeps.refl [] w).alloc _⟩

set_option maxHeartbeats 8000000 in
set_option maxRecDepth 100000 in
theorem nparse_any (v d : List UInt8) (c1 c2 c3 : UInt8) (w : World) (hv1 : 1 ≤ v.length) (hv : v.length ≤ 1000000) (hd : d.length = 10) :
    Calls Tryd.prog 19 #[.string (str (v ++ c1 :: c2 :: c3 :: d))] w fun e w' =>
      e = .returned (match parseP v c1 c2 c3 d with | some (k, n) => .tuple #[nameA v k n, .int .i64 0] | none => .tuple #[nameA [] 0 0, .int .i64 12]) ∧ Keeps [] w w' := by
  have hpc := parse_cases v d c1 c2 c3
  have Nn := Lib.hid (fun w' => nnumber_any d w' (by omega))
  have Nx := Lib.hid (fun w' => nprefix_any v (kidx c2) w' hv)
  have Hp := Lib.hid (fun w' => Tryd.strings_HasPrefix (str (v ++ c1 :: c2 :: c3 :: d)) (str (preOf v (kidx c2)).1) w')
  have Ib : Hid (∀ w' : World, Calls Tryd.prog 28 #[.string (str [45, 100, 99, 109, 101]), .int .u8 (c2.toNat : Int)] w' fun e w2 => e = .returned (.int .i64 (kidx c2)) ∧ w2 = w') := fun w' => by
    have h := Tryd.strings_IndexByte (str [45, 100, 99, 109, 101]) (c2.toNat : Int) w'
    rw [str_data, kidx_index] at h
    exact h
  have hlet : ByteArray.mk #[45, 100, 99, 109, 101] = str [45, 100, 99, 109, 101] := rfl
  rw [str_data, str_data] at Hp
  obtain ⟨A, hA⟩ : ∃ A, v.length = A := ⟨_, rfl⟩
  have hS : (str (v ++ c1 :: c2 :: c3 :: d)).size = A + 13 := by rw [str_size]; simp [hA, hd]
  have x1 : (str (v ++ c1 :: c2 :: c3 :: d)).extract (A + 3) (A + 13) = str d := by
    rw [str_extract, str_data, ← hA, List.drop_length_add_append]
    show str (List.take _ d) = _
    rw [List.take_of_length_le (by omega)]
  have x2 : (str (v ++ c1 :: c2 :: c3 :: d)).extract 0 A = str v := by
    rw [str_extract, str_data, List.drop_zero, Nat.sub_zero, ← hA, List.take_left]
  have x3 : ∀ h, (str (v ++ c1 :: c2 :: c3 :: d))[A + 1]'h = c2 := fun h => by
    have h' : A + 1 < (v ++ c1 :: c2 :: c3 :: d).length := by simp [hA]
    have e : (v ++ c1 :: c2 :: c3 :: d)[A + 1]'h' = c2 := by
      rw [List.getElem_append_right (by omega)]
      simp [hA]
    exact e
  generalize str (v ++ c1 :: c2 :: c3 :: d) = S at *
  generalize (v ++ c1 :: c2 :: c3 :: d) = sl at *
  generalize hP : parseP v c1 c2 c3 d = P at *
  generalize kidx c2 = K at *
  obtain ⟨p, e, hpe⟩ : ∃ p e, preOf v K = (p, e) := ⟨_, _, rfl⟩
  rw [hpe] at Nx Hp hpc
  dsimp only at Nx Hp hpc
  generalize numGo 0 d = R at *
  generalize Lib.hasPrefix sl p = hp at *
  have hc2 : (c2.toNat : Int) < 256 := by have := c2.toNat_lt; omega
  have g1 : ¬ ((A + 13 : Nat) : Int) ≤ 13 := by omega
  have b1 : IntKind.i64.wrap (((A + 13 : Nat) : Int) - 13) = (A : Int) := by rw [IntWalk.i64_in _ ⟨by omega, by omega⟩]; omega
  have b2 : IntKind.i64.wrap ((A : Int) + 1) = ((A + 1 : Nat) : Int) := by rw [IntWalk.i64_in _ ⟨by omega, by omega⟩]; omega
  have b3 : IntKind.i64.wrap ((A : Int) + 3) = ((A + 3 : Nat) : Int) := by rw [IntWalk.i64_in _ ⟨by omega, by omega⟩]; omega
  have b0 : IntKind.i64.wrap (A : Int) = (A : Int) := IntWalk.i64_in _ ⟨by omega, by omega⟩
  have i1 : ((A + 1 : Nat) : Int) < ((A + 13 : Nat) : Int) := by omega
  have i2 : ((A + 3 : Nat) : Int) ≤ ((A + 13 : Nat) : Int) := by omega
  have i3 : (A : Int) ≤ ((A + 13 : Nat) : Int) := by omega
  have i4 : A + 1 < A + 13 := by omega
  have j1 : (0 : Int) ≤ (A : Int) + 1 := by omega
  have j2 : ((A : Int) + 1).toNat = A + 1 := by omega
  have j3 : (0 : Int) ≤ (A : Int) + 3 := by omega
  have j4 : ((A : Int) + 3).toNat = A + 3 := by omega
  have j5 : (A : Int) + 3 ≤ (A : Int) + 13 := by omega
  have j6 : (A : Int) + 1 < (A : Int) + 13 := by omega
  have hAb : (A : Int) ≤ 1000000 := by omega
  have hA0 : (0 : Int) ≤ (A : Int) := by omega
  have HZ := Lib.hid (heap_at (w := w) (o := .cells #[.string (str []), .int .i64 0, .int .i64 0] 23 (0, 0)) rfl)
  clear hP hpe hA hd hv hv1
  cases R with
  | none =>
    rw [if_neg (by simp)] at hpc
    subst hpc
    go_enter Tryd.func19, Tryd.ntmps19
    go_wp2_with (first
      | (go_at_call 28; (with_reducible refine (Ib.out _).mono ?_); rintro e w1 ⟨rfl, rfl⟩)
      | (go_at_call 29; (with_reducible refine (Nn.out _).mono ?_); rintro e w2 ⟨rfl, k2⟩)
      | (go_at_call 13; (with_reducible refine (Nx.out _).mono ?_); rintro e w3 ⟨rfl, k3⟩; have K3 := KT k2 k3; obtain ⟨⟨c0, c1, c2⟩, f0, f1, f2⟩ := cells3 (K3.some HZ.out (by simp))))
    refine bodyPost_ret (results_row_tmp rfl rfl (heap_set3 (K3.some HZ.out (by simp)) _ _ _) Tryd.underlying23 rfl (by kernel_rfl)) rfl ⟨rfl, ?_⟩
    exact keeps_set3 (KT ((Keeps.refl [] w).alloc _) K3) (Nat.le_refl _) _ _ _
  | some n =>
    by_cases he : e = 0
    · subst he
      cases hp
      · rw [if_neg (by simp)] at hpc
        subst hpc
        go_enter Tryd.func19, Tryd.ntmps19
        go_wp2_with (first
          | (go_at_call 28; (with_reducible refine (Ib.out _).mono ?_); rintro e w1 ⟨rfl, rfl⟩)
          | (go_at_call 29; (with_reducible refine (Nn.out _).mono ?_); rintro e w2 ⟨rfl, k2⟩)
          | (go_at_call 13; (with_reducible refine (Nx.out _).mono ?_); rintro e w3 ⟨rfl, k3⟩; have K3 := KT k2 k3; obtain ⟨⟨c0, c1, c2⟩, f0, f1, f2⟩ := cells3 (K3.some HZ.out (by simp)))
          | (go_at_call 30; (with_reducible refine (Hp.out _).mono ?_); rintro e w4 ⟨rfl, rfl⟩))
        refine bodyPost_ret (results_row_tmp rfl rfl (heap_set3 (K3.some HZ.out (by simp)) _ _ _) Tryd.underlying23 rfl (by kernel_rfl)) rfl ⟨rfl, ?_⟩
        exact keeps_set3 (KT ((Keeps.refl [] w).alloc _) K3) (Nat.le_refl _) _ _ _
      · rw [if_pos ⟨rfl, rfl, rfl⟩] at hpc
        subst hpc
        go_enter Tryd.func19, Tryd.ntmps19
        go_wp2_with (first
          | (go_at_call 28; (with_reducible refine (Ib.out _).mono ?_); rintro e w1 ⟨rfl, rfl⟩)
          | (go_at_call 29; (with_reducible refine (Nn.out _).mono ?_); rintro e w2 ⟨rfl, k2⟩)
          | (go_at_call 13; (with_reducible refine (Nx.out _).mono ?_); rintro e w3 ⟨rfl, k3⟩; have K3 := KT k2 k3; obtain ⟨⟨c0, c1, c2⟩, f0, f1, f2⟩ := cells3 (K3.some HZ.out (by simp)))
          | (go_at_call 30; (with_reducible refine (Hp.out _).mono ?_); rintro e w4 ⟨rfl, rfl⟩))
        refine bodyPost_ret (results_row_tmp rfl rfl (heap_set3 (K3.some HZ.out (by simp)) _ _ _) Tryd.underlying23 rfl (by kernel_rfl)) rfl ⟨rfl, ?_⟩
        exact keeps_set3 (KT ((Keeps.refl [] w).alloc _) K3) (Nat.le_refl _) _ _ _
    · rw [if_neg (fun h => he h.2.1)] at hpc
      subst hpc
      have hb : (e != 0) = true := bne_iff_ne.2 he
      clear he
      go_enter Tryd.func19, Tryd.ntmps19
      go_wp2_with (first
        | (go_at_call 28; (with_reducible refine (Ib.out _).mono ?_); rintro e w1 ⟨rfl, rfl⟩)
        | (go_at_call 29; (with_reducible refine (Nn.out _).mono ?_); rintro e w2 ⟨rfl, k2⟩)
        | (go_at_call 13; (with_reducible refine (Nx.out _).mono ?_); rintro e w3 ⟨rfl, k3⟩; have K3 := KT k2 k3; obtain ⟨⟨c0, c1, c2⟩, f0, f1, f2⟩ := cells3 (K3.some HZ.out (by simp)))
        | (go_at_call 30; (with_reducible refine (Hp.out _).mono ?_); rintro e w4 ⟨rfl, rfl⟩))
      refine bodyPost_ret (results_row_tmp rfl rfl (heap_set3 (K3.some HZ.out (by simp)) _ _ _) Tryd.underlying23 rfl (by kernel_rfl)) rfl ⟨rfl, ?_⟩
      exact keeps_set3 (KT ((Keeps.refl [] w).alloc _) K3) (Nat.le_refl _) _ _ _
end Go.Proofs.YtdjhlnkkbpmfmaaDoor
