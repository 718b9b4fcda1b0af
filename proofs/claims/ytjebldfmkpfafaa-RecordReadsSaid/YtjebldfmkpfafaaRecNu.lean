/- Layer 10: the reference: numbers, told's plain reading. -/
import Derived.Test.YtjebldfmkpfafaaRecW
import Derived.Test.YtjebldfmkpfafaaWireRef3
import Derived.Test.YtjebldfmkpfafaaRecP
namespace Go.Proofs.Ytjebldfmkpfafaa
open Go.RowKit
set_option maxRecDepth 100000

theorem tyIntsR : SlTy Try.prog 102 3 1 8 (.int .i64 0) := SlTy.mk' Try.underlying102 (by kernel_rfl) rfl (by decide)
def natR (n : Nat) : Value := .int .i64 n

/-- So many numbers: they, and where they end. -/
def numK (s : List UInt8) : Nat → Option (List Nat × Nat)
  | 0 => some ([], 0)
  | k + 1 => (numK s k).bind fun x => if (rvar (s.drop x.2) 0 0).2.2 = 0 ∧ (rvar (s.drop x.2) 0 0).1 ≤ 1125899906842624 then some (x.1 ++ [(rvar (s.drop x.2) 0 0).1], x.2 + (rvar (s.drop x.2) 0 0).2.1) else none
theorem numK_none {s : List UInt8} {a b : Nat} (h : numK s a = none) (hab : a ≤ b) : numK s b = none := by
  induction hab with
  | refl => exact h
  | step _ ih => rw [numK, ih]; rfl
theorem rvar_le (l : List UInt8) : (rvar l 0 0).2.1 ≤ l.length := (rvar_facts l 0 0 (Nat.zero_le _)).1
theorem numK_facts {s : List UInt8} : ∀ {k : Nat} {l : List Nat} {p : Nat}, numK s k = some (l, p) → p ≤ s.length ∧ l.length = k ∧ ∀ x, x ∈ l → x ≤ 1125899906842624
  | 0, l, p, h => by
    simp only [numK, Option.some.injEq, Prod.mk.injEq] at h
    obtain ⟨rfl, rfl⟩ := h
    exact ⟨Nat.zero_le _, rfl, by simp⟩
  | k + 1, l, p, h => by
    rw [numK] at h
    cases hk : numK s k with
    | none => rw [hk] at h; cases h
    | some y =>
      obtain ⟨l1, p1⟩ := y
      rw [hk, Option.bind_some] at h
      obtain ⟨a1, a2, a3⟩ := numK_facts hk
      dsimp only at h
      have hr := rvar_le (s.drop p1)
      rw [List.length_drop] at hr
      split at h
      · rename_i hc
        simp only [Option.some.injEq, Prod.mk.injEq] at h
        obtain ⟨rfl, rfl⟩ := h
        refine ⟨by omega, by simp [a2], fun x hx => ?_⟩
        rcases List.mem_append.1 hx with hx | hx
        · exact a3 x hx
        · rw [List.mem_singleton] at hx
          rw [hx]; exact hc.2
      · cases h

def NumPost (s : List UInt8) (n : Nat) (w : World) (e : Ending) (w' : World) : Prop :=
  (numK s n = none ∧ e = .returned (.tuple #[.slice none 0 0, .int .i64 0, .bool false]) ∧ Keeps [] w w') ∨
  (∃ l p v, numK s n = some (l, p) ∧ e = .returned (.tuple #[v, .int .i64 (p : Nat), .bool true]) ∧ w'.ownsRow 0 3 1 v n (l.map natR) ∧ (∀ x, x ∈ v.ownBlock.toList → w.heap.size ≤ x) ∧ Keeps [] w w')

set_option maxHeartbeats 4000000 in
theorem numbers_any (s : List UInt8) (n : Nat) (w : World) (hs : s.length ≤ 100000) (hn : n ≤ 1000) :
    Calls Try.prog 66 #[.string (str s), .int .i64 n] w (NumPost s n w) := by
  have Hn0 := Lib.hid hn
  have Hs0 := Lib.hid hs
  go_enter Try.func66, Try.ntmps66
  go_wp2
  go_loopw [7, 8, 9] (fun ov av iv wr => ∃ (k p : Nat) (l : List Nat), k ≤ n ∧ iv = .int .i64 k ∧ av = .int .i64 p ∧ Hid (numK s k = some (l, p)) ∧ wr.ownsRow 0 3 1 ov k (l.map natR) ∧ (∀ x, x ∈ ov.ownBlock.toList → w.heap.size ≤ x) ∧ Keeps [] w wr) (fun _ _ iv _ => n - (intOf iv).toNat)
  case atStart => exact ⟨0, 0, [], Nat.zero_le _, rfl, rfl, rfl, World.ownsRow_nil _ _ _ _, by simp [Value.ownBlock], Keeps.refl [] _⟩
  case round =>
    obtain ⟨k, p, l, hk, rfl, rfl, Hk, hrow, hfr, hkk⟩ := hrel
    obtain ⟨f1, f2, f3⟩ := numK_facts Hk.out
    by_cases hlt : k < n
    · have hki : (k : Int) < (n : Int) := by omega
      have hki0 : (0 : Int) ≤ (k : Int) := by omega
      have hnx : numK s (k + 1) = if (rvar (s.drop p) 0 0).2.2 = 0 ∧ (rvar (s.drop p) 0 0).1 ≤ 1125899906842624 then some (l ++ [(rvar (s.drop p) 0 0).1], p + (rvar (s.drop p) 0 0).2.1) else none := by rw [numK, Hk.out, Option.bind_some]
      have hql := rvar_le (s.drop p)
      rw [List.length_drop] at hql
      have hf := fun w => refFew_any (str (s.drop p)) w (by rw [str_size, List.length_drop]; omega)
      rw [str_data] at hf
      have hcut : (str s).extract p s.length = str (s.drop p) := by rw [str_extract, str_data, ← List.length_drop, List.take_length]
      generalize s.drop p = D at *
      generalize rvar D 0 0 = RV at *
      obtain ⟨x, q, er⟩ := RV
      dsimp only at *
      have Hf := Lib.hid hf
      have Hnx := Lib.hid hnx
      obtain ⟨oad, ocap, rfl⟩ := ownsRow_shape hrow
      have Hrow := Lib.hid hrow
      have Hfr := Lib.hid hfr
      have Hkk := Lib.hid hkk
      have b1 : (p : Int) ≤ (s.length : Int) := by omega
      have b2 : decide (p ≤ s.length) = true := decide_eq_true f1
      obtain ⟨P, hP⟩ : ∃ P, p + q = P := ⟨_, rfl⟩
      have hwP : IntKind.i64.wrap ((p : Int) + (q : Int)) = (P : Int) := by rw [IntWalk.i64_in _ ⟨by omega, by omega⟩]; omega
      rw [hP] at Hnx
      clear hf hnx hrow hfr hkk Hk f2 f3 hP hql
      by_cases he : er = 0
      · subst he
        by_cases hx : x ≤ 1125899906842624
        · have c1 : decide (1125899906842624 < (x : Int)) = false := decide_eq_false (by omega)
          have c2 : decide (1125899906842624 < x) = false := decide_eq_false (by omega)
          have hwx : IntKind.i64.wrap (x : Int) = (x : Int) := IntWalk.i64_in _ ⟨by omega, by omega⟩
          rw [if_pos ⟨rfl, hx⟩] at Hnx
          clear hx
          go_wp2_with (first
            | (go_at_call 86; (with_reducible refine (Hf.out _).mono ?_); rintro e w3 ⟨rfl, m3, rfl⟩; have Hr3 := Lib.hid (own_keep Hrow.out ((Keeps.refl [] wr).drewN m3) (by simp)))
            | (at_builtin; refine wpList_app1 tyIntsR rfl (.tmp 32) (.tmp 35) rfl _ _ _ rfl rfl Hr3.out rfl ?c1 ?c2 ?c3 ?c4)
            | go_in)
          case c1 => rfl
          case c2 => have := Hn0.out; omega
          case c3 => have := Hn0.out; unfold maxLen; omega
          case c4 =>
          intro g' cap' w' hown' hc'
          have Hown3 : Hid (w'.ownsRow 0 3 1 (.slice (some ⟨g', 0, none⟩) (k + 1) cap') (k + 1) ((l ++ [x]).map natR)) := by
            rw [List.map_append]
            exact hown'
          have Hc := Lib.hid hc'
          clear hown' hc'
          go_wp2
          go_roundw
          case rel =>
            refine ⟨k + 1, P, l ++ [x], by omega, by go_num, rfl, Hnx, Hown3.out, fun x hx => (Hc.out.fresh x hx).elim (Hfr.out x) (fun h => Nat.le_trans (Hkk.out.drewN m3).size h), (Hkk.out.drewN m3).trans Hc.out.keeps (fun x hx => .inr (Hfr.out x hx))⟩
          case measure => simp [intOf]; omega
        · have c1 : decide (1125899906842624 < (x : Int)) = true := decide_eq_true (by omega)
          have c2 : decide (1125899906842624 < x) = true := decide_eq_true (by omega)
          have hno : numK s n = none := numK_none (by rw [Hnx.out, if_neg (fun h => hx h.2)]) (Nat.succ_le_of_lt hlt)
          have Hno := Lib.hid hno
          clear hx hno Hnx
          go_wp2_with (first
            | (go_at_call 86; (with_reducible refine (Hf.out _).mono ?_); rintro e w3 ⟨rfl, m3, rfl⟩))
          go_ret3
          exact .inl ⟨Hno.out, rfl, Hkk.out.drewN m3⟩
      · have c1 : (er != 0) = true := bne_iff_ne.2 he
        have hno : numK s n = none := numK_none (by rw [Hnx.out, if_neg (fun h => he h.1)]) (Nat.succ_le_of_lt hlt)
        have Hno := Lib.hid hno
        clear he hno Hnx
        go_wp2_with (first
          | (go_at_call 86; (with_reducible refine (Hf.out _).mono ?_); rintro e w3 ⟨rfl, m3, rfl⟩))
        go_ret3
        exact .inl ⟨Hno.out, rfl, Hkk.out.drewN m3⟩
    · obtain rfl : k = n := by omega
      obtain ⟨oad, ocap, rfl⟩ := ownsRow_shape hrow
      have Hrow := Lib.hid hrow
      have Hfr := Lib.hid hfr
      have Hkk := Lib.hid hkk
      clear hrow hfr hkk
      go_wp2
      go_ret3
      exact .inr ⟨l, p, _, Hk.out, rfl, Hrow.out, Hfr.out, Hkk.out⟩

/-! plain: what is read of what was written -/
theorem numK_step {s r : List UInt8} {k p x : Nat} {l : List Nat} (h : numK s k = some (l, p)) (hd : s.drop p = vby x ++ r) (hx : x ≤ 1125899906842624) : numK s (k + 1) = some (l ++ [x], p + vsz x) ∧ s.drop (p + vsz x) = r := by
  have hv : rvar (s.drop p) 0 0 = (x, vsz x, 0) := by
    have := rvar_vby (l := s.drop p) (p := 0) (x := x) (r := r) (by omega) (by rw [List.drop_zero]; exact hd)
    rw [Nat.zero_add] at this
    exact this
  refine ⟨by rw [numK, h, Option.bind_some, hv, if_pos ⟨rfl, hx⟩], ?_⟩
  rw [← List.drop_drop, hd, vsz_len, List.drop_left]
end Go.Proofs.Ytjebldfmkpfafaa
