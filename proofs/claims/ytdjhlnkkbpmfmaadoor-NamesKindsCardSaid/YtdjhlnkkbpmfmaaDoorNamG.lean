/- Layer 6: Print, the program's and the answer's. -/
import Derived.Test.YtdjhlnkkbpmfmaaDoorNamF
namespace Go.Proofs.YtdjhlnkkbpmfmaaDoor
open Go.RowKit

theorem repeatL_one (c : UInt8) (n : Nat) : Lib.repeatL [c] n = List.replicate n c := by
  induction n with
  | zero => rfl
  | succ n ih => rw [Lib.repeatL, ih]; rfl
theorem repeat0_any (n : Nat) (hn : n ≤ 1000) (w : World) : Calls Tryd.prog 24 #[.string ⟨#[48]⟩, .int .i64 n] w fun e w' => e = .returned (.string (str (List.replicate n 48))) ∧ Keeps [] w w' := by
  have h := Tryd.strings_Repeat ⟨#[48]⟩ n w (by omega) (by simp [ByteArray.size]; omega)
  refine h.mono fun e w' ⟨he, hb⟩ => ⟨?_, Keeps.of_below hb⟩
  rw [he]
  show Ending.returned (.string ⟨(Lib.repeatL [48] n).toArray⟩) = _
  rw [repeatL_one]
  rfl

set_option maxHeartbeats 2000000 in
set_option maxRecDepth 100000 in
theorem rprint_any (v : List UInt8) (k n : Int) (w : World) (hv : v.length ≤ 1000000) : Calls Tryd.prog 12 #[.string (str v), .int .i64 k, .int .i64 n] w fun e w' => e = .returned (.tuple #[.string (str (prtOf v k n).1), .int .i64 (prtOf v k n).2]) ∧ Keeps [] w w' := by
  have Pr := Lib.hid (fun w => rprefix_any v k w hv)
  have hl := preOf_length v k
  obtain ⟨r, hr⟩ : ∃ r, prtOf v k n = r := ⟨_, rfl⟩
  have Hr := Lib.hid hr
  rw [hr]
  unfold prtOf at hr
  obtain ⟨p, e, hpe⟩ : ∃ p e, preOf v k = (p, e) := ⟨_, _, rfl⟩
  rw [hpe] at Pr hr hl
  dsimp only at Pr hr hl
  clear Hr hpe
  by_cases he : e = 0
  · subst he
    rw [if_neg (by decide)] at hr
    by_cases h1 : n < 0
    · rw [if_pos (.inl h1)] at hr
      subst hr
      go_enter Tryd.func12, Tryd.ntmps12
      go_wp2_with (go_at_call 14; (with_reducible refine (Pr.out _).mono ?_); rintro e w1 ⟨rfl, rfl⟩)
      go_ret2
      exact ⟨rfl, Keeps.refl [] _⟩
    by_cases h2 : 1099511627776 ≤ n
    · rw [if_pos (.inr h2)] at hr
      subst hr
      go_enter Tryd.func12, Tryd.ntmps12
      go_wp2_with (go_at_call 14; (with_reducible refine (Pr.out _).mono ?_); rintro e w1 ⟨rfl, rfl⟩)
      go_ret2
      exact ⟨rfl, Keeps.refl [] _⟩
    rw [if_neg (by omega)] at hr
    subst hr
    obtain ⟨N, rfl⟩ : ∃ N : Nat, n = (N : Int) := ⟨n.toNat, by omega⟩
    have Di := Lib.hid (fun w => digits_any N (by omega) w)
    rw [Int.toNat_natCast]
    have hml : (hexm 10 N).length ≤ 10 := by rw [hexm_length]; exact Nat.le_refl _
    obtain ⟨S, hS⟩ : ∃ S, hexm 10 N = S := ⟨_, rfl⟩
    rw [hS] at Di hml ⊢
    clear hS
    have d1 : decide ((N : Int) < 0) = false := decide_eq_false h1
    have d2 : decide (1099511627776 ≤ (N : Int)) = false := decide_eq_false h2
    clear h1 h2
    go_enter Tryd.func12, Tryd.ntmps12
    go_wp2_with (first
      | (go_at_call 14; (with_reducible refine (Pr.out _).mono ?_); rintro e w1 ⟨rfl, rfl⟩)
      | (go_at_call 25; (with_reducible refine (Di.out _).mono ?_); rintro e w2 ⟨rfl, k2⟩))
    go_ret2
    exact ⟨rfl, k2⟩
  · rw [if_pos he] at hr
    subst hr
    have hb : (e != 0) = true := bne_iff_ne.2 he
    go_enter Tryd.func12, Tryd.ntmps12
    go_wp2_with (go_at_call 14; (with_reducible refine (Pr.out _).mono ?_); rintro e w1 ⟨rfl, rfl⟩)
    go_ret2
    exact ⟨rfl, Keeps.refl [] _⟩

def nameV (v : List UInt8) (k n : Int) : Value := .agg #[.string (str v), .int .i64 k, .int .i64 n]

set_option maxHeartbeats 4000000 in
set_option maxRecDepth 100000 in
theorem nprint_any (v : List UInt8) (k n : Int) (w : World) (hv : v.length ≤ 1000000) (hT : TabC w) : Calls Tryd.prog 11 #[nameV v k n] w fun e w' => e = .returned (.tuple #[.string (str (prtOf v k n).1), .int .i64 (prtOf v k n).2]) ∧ Keeps [] w w' := by
  unfold nameV
  have Pr := Lib.hid (fun w => nprefix_any v k w hv)
  have hl := preOf_length v k
  obtain ⟨r, hr⟩ : ∃ r, prtOf v k n = r := ⟨_, rfl⟩
  rw [hr]
  unfold prtOf at hr
  obtain ⟨p, e, hpe⟩ : ∃ p e, preOf v k = (p, e) := ⟨_, _, rfl⟩
  rw [hpe] at Pr hr hl
  dsimp only at Pr hr hl
  clear hpe
  have HT := Lib.hid hT
  have HO := Lib.hid (heap_at (w := w) (o := .cells #[.string (str v), .int .i64 k, .int .i64 n] 23 (0, 0)) rfl)
  have c0 := cell_of_heap HO.out 0
  have c1 := cell_of_heap HO.out 1
  have K0 := Lib.hid ((Keeps.refl [] w).alloc (.cells #[.string (str v), .int .i64 k, .int .i64 n] 23 (0, 0)))
  clear hT
  by_cases he : e = 0
  · subst he
    rw [if_neg (by decide)] at hr
    by_cases h1 : n < 0
    · rw [if_pos (.inl h1)] at hr
      subst hr
      go_enter Tryd.func11, Tryd.ntmps11
      go_wp2_with (go_at_call 13; (with_reducible refine (Pr.out _).mono ?_); rintro e w1 ⟨rfl, k1⟩; have c2 := cell_of_heap (k1.some HO.out (by simp)) 2)
      go_ret2
      exact ⟨rfl, KT K0.out k1⟩
    by_cases h2 : 1099511627776 ≤ n
    · rw [if_pos (.inr h2)] at hr
      subst hr
      go_enter Tryd.func11, Tryd.ntmps11
      go_wp2_with (go_at_call 13; (with_reducible refine (Pr.out _).mono ?_); rintro e w1 ⟨rfl, k1⟩; have c2 := cell_of_heap (k1.some HO.out (by simp)) 2)
      go_ret2
      exact ⟨rfl, KT K0.out k1⟩
    rw [if_neg (by omega)] at hr
    subst hr
    obtain ⟨N, rfl⟩ : ∃ N : Nat, n = (N : Int) := ⟨n.toNat, by omega⟩
    have Fo := Lib.hid (fun (w' : World) (k : Keeps [] w w') => format16_any N (by omega) w' (HT.out.kept k))
    rw [Int.toNat_natCast]
    obtain ⟨hle, hex⟩ := hexm_eq 9 N (by omega)
    rw [hex]
    obtain ⟨L, hL⟩ : ∃ L, 9 + 1 - (hexs N).length = L := ⟨_, rfl⟩
    have Rp := Lib.hid (fun w => repeat0_any L (by omega) w)
    rw [hL]
    have hb1 : IntKind.i64.wrap (10 - ((hexs N).length : Int)) = (L : Int) := by rw [IntWalk.i64_in _ ⟨by omega, by omega⟩]; omega
    have hll : L + (hexs N).length = 10 := by omega
    clear hL hex hle
    obtain ⟨S, hS⟩ : ∃ S, hexs N = S := ⟨_, rfl⟩
    rw [hS] at Fo hb1 hll ⊢
    clear hS
    have hll2 : L + S.length ≤ 10 := by omega
    clear hll
    have d1 : decide ((N : Int) < 0) = false := decide_eq_false h1
    have d2 : decide (1099511627776 ≤ (N : Int)) = false := decide_eq_false h2
    clear h1 h2
    go_enter Tryd.func11, Tryd.ntmps11
    go_wp2_with (first
      | (go_at_call 13; (with_reducible refine (Pr.out _).mono ?_); rintro e w1 ⟨rfl, k1⟩; have c2 := cell_of_heap (k1.some HO.out (by simp)) 2; have K1 := KT K0.out k1)
      | (go_at_call 23; (with_reducible refine (Fo.out _ K1).mono ?_); rintro e w2 ⟨rfl, k2⟩)
      | (go_at_call 24; (with_reducible refine (Rp.out _).mono ?_); rintro e w3 ⟨rfl, k3⟩))
    go_ret2
    exact ⟨rfl, KT K1 (KT k2 k3)⟩
  · rw [if_pos he] at hr
    subst hr
    have hb : (e != 0) = true := bne_iff_ne.2 he
    go_enter Tryd.func11, Tryd.ntmps11
    go_wp2_with (go_at_call 13; (with_reducible refine (Pr.out _).mono ?_); rintro e w1 ⟨rfl, k1⟩)
    go_ret2
    exact ⟨rfl, KT K0.out k1⟩
end Go.Proofs.YtdjhlnkkbpmfmaaDoor
