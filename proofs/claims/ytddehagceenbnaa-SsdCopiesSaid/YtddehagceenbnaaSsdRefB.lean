/- Layer 4, the reference: Sector, Read. -/
import Derived.Test.YtddehagceenbnaaSsdRefA
import Derived.Test.YtddehagceenbnaaSsdX
namespace Go.Proofs.Ytddehagceenbnaa
open Go.RowKit

/-- What the sectors have now. -/
def Dev.nows (d : Dev) : List (List UInt8) := Dev.settle d.last d.pend

def Dev.secN (d : Dev) (a : Nat) : List UInt8 := d.nows.getD a []
set_option maxHeartbeats 1000000 in
theorem refSector_any (b : Nat) (d : Dev) (vL vP : Value) (w : World) (h : RefIs w b d vL vP) (hok : d.ok) (hp : d.pend.length ≤ 1000000000) (a : Nat) (ha : a < d.last.length) :
    Calls Try.prog 39 #[.pointer (some ⟨b, 0, none⟩), .int .i64 a] w fun e w' => e = .returned (.string (str (d.secN a))) ∧ w = w' := by
  have Hh := Lib.hid h
  obtain ⟨s, hs⟩ : ∃ s, d.last[a]? = some s := ⟨_, List.getElem?_eq_getElem ha⟩
  obtain ⟨gL, cL, hvL, cs, _, _⟩ := h.sec hs
  subst hvL
  obtain ⟨aP, cP, hvP⟩ := ownsRow_shape h.pend
  subst hvP
  have c0 := cell_of_heap h.hb 0
  have c1 := cell_of_heap h.hb 1
  have Hs := Lib.hid hs
  have ha0 : (0 : Int) ≤ (a : Int) := by omega
  have ha1 : (a : Int) < (d.last.length : Int) := by omega
  have Hok := Lib.hid hok
  clear h hs hok
  go_enter Try.func39, Try.ntmps39
  go_wp2
  go_loop [5, 6] (fun sv iv => ∃ k : Nat, k ≤ d.pend.length ∧ iv = .int .i64 k ∧ ∃ x, sv = .string (str x) ∧ Hid (x = (Dev.settle d.last (d.pend.take k)).getD a [])) (fun _ iv => d.pend.length - (intOf iv).toNat)
  case atStart => exact ⟨0, Nat.zero_le _, rfl, s, rfl, by unfold Hid; rw [List.take_zero]; show s = d.last.getD a []; rw [List.getD_eq_getElem?_getD, Hs.out]; rfl⟩
  case round =>
    obtain ⟨k, hk, rfl, x, rfl, Hx⟩ := hrel
    by_cases hlt : k < d.pend.length
    · obtain ⟨p, hpk⟩ : ∃ p, d.pend[k]? = some p := ⟨_, List.getElem?_eq_getElem hlt⟩
      obtain ⟨gP, cP', hvP, q0, q1⟩ := Hh.out.put hpk
      injection hvP with hv1 _ hv2
      subst hv1 hv2
      have hki : (k : Int) < (d.pend.length : Int) := by omega
      have hki0 : (0 : Int) ≤ (k : Int) := by omega
      have hnx : Dev.settle d.last (d.pend.take (k + 1)) = (Dev.settle d.last (d.pend.take k)).set p.1 p.2 := by
        rw [List.take_add_one, hpk]; exact Dev.settle_snoc _ _ _ _
      have hsl := (Dev.settle_ok (d.pend.take k) d.last _ rfl Hok.out.l64 (fun q hq => Hok.out.p64 q (List.mem_of_mem_take hq))).1
      have Hnx := Lib.hid hnx
      have Hsl := Lib.hid hsl
      clear hnx hsl hpk
      by_cases he : p.1 = a
      · have be : ((p.1 : Int) == (a : Int)) = true := beq_nat_eq he
        have He := Lib.hid he
        clear he
        go_wp2
        go_round
        case rel => exact ⟨k + 1, by omega, by go_num, p.2, rfl, by unfold Hid; rw [Hnx.out, He.out, List.getD_eq_getElem?_getD, List.getElem?_set_self (by rw [Hsl.out]; exact ha)]; rfl⟩
        case measure => simp [intOf]; omega
      · have be : ((p.1 : Int) == (a : Int)) = false := beq_nat_ne he
        have He := Lib.hid he
        clear he
        go_wp2
        go_round
        case rel => exact ⟨k + 1, by omega, by go_num, x, rfl, by unfold Hid; rw [Hx.out, Hnx.out, List.getD_eq_getElem?_getD, List.getD_eq_getElem?_getD, List.getElem?_set_ne He.out]⟩
        case measure => simp [intOf]; omega
    · obtain rfl : k = d.pend.length := by omega
      go_wp2
      go_ret
      have e : d.secN a = x := by rw [Hx.out, List.take_length]; rfl
      rw [e]
      exact ⟨rfl, rfl⟩

/-- What the reference reads. -/
def Dev.readR (d : Dev) (a n : Int) : List UInt8 × Int := Dev.read { d with now := d.nows } a n

theorem Dev.nows_ok {d : Dev} (h : d.ok) : d.nows.length = d.last.length ∧ ∀ s, s ∈ d.nows → s.length = 64 := Dev.settle_ok d.pend d.last _ rfl h.l64 h.p64

set_option maxHeartbeats 2000000 in
theorem refRead_any (b : Nat) (d : Dev) (vL vP : Value) (w : World) (h : RefIs w b d vL vP) (hok : d.ok) (hp : d.pend.length ≤ 1000000000) (a n : Int) (ha : a ≤ 9223372036854775807) :
    Calls Try.prog 32 #[.pointer (some ⟨b, 0, none⟩), .int .i64 a, .int .i64 n] w fun e w' => e = .returned (.tuple #[.string (str (d.readR a n).1), .int .i64 (d.readR a n).2]) ∧ w = w' := by
  have hno := Dev.nows_ok hok
  have hfew := hok.few
  have c2 := cell_of_heap h.hb 2
  have hbe := fun h0 => refBeyond_any b d vL vP w h hfew a n h0
  have hse := fun k hk => refSector_any b d vL vP w h hok hp k hk
  unfold Dev.readR Dev.read insideE
  dsimp only
  rw [hno.1]
  clear h hok
  cases hl : d.lost
  · rw [hl] at c2
    simp only [Bool.false_eq_true, if_false]
    by_cases h1 : a < 0 ∨ n < 0
    · rw [if_pos h1]
      simp only [ne_eq, show ¬ ((1 : Int) = 0) by decide, not_false_eq_true, if_true]
      clear hbe hse
      by_cases h2 : a < 0
      · have e1 : decide (a < 0) = true := by simpa using h2
        clear h1
        go_enter Try.func32, Try.ntmps32
        go_wp2
        go_ret2
        exact ⟨rfl, rfl⟩
      · have e1 : decide (a < 0) = false := by simpa using h2
        have e2 : decide (n < 0) = true := by simp; omega
        clear h1
        go_enter Try.func32, Try.ntmps32
        go_wp2
        go_ret2
        exact ⟨rfl, rfl⟩
    · rw [if_neg h1]
      have e1 : decide (a < 0) = false := by simp; omega
      have e2 : decide (n < 0) = false := by simp; omega
      have hbe' := hbe (by omega)
      unfold beyondB at hbe'
      by_cases h2 : (d.last.length : Int) < a ∨ (d.last.length : Int) - a < n
      · rw [if_pos h2]
        have e3 : (decide ((d.last.length : Int) < a) || decide ((d.last.length : Int) - a < n)) = true := by simpa using h2
        rw [e3] at hbe'
        simp only [ne_eq, show ¬ ((31 : Int) = 0) by decide, not_false_eq_true, if_true]
        have Hbe := Lib.hid hbe'
        clear hbe hse hbe' h1 h2 e3
        go_enter Try.func32, Try.ntmps32
        go_wp2_with (go_at_call 38; (with_reducible refine Hbe.out.mono ?_); rintro e w1 ⟨rfl, rfl⟩)
        go_ret2
        exact ⟨rfl, rfl⟩
      · rw [if_neg h2]
        have e3 : (decide ((d.last.length : Int) < a) || decide ((d.last.length : Int) - a < n)) = false := by simp; omega
        rw [e3] at hbe'
        simp only [ne_eq, not_true_eq_false, if_false]
        obtain ⟨A, rfl⟩ : ∃ A : Nat, a = A := ⟨a.toNat, by omega⟩
        obtain ⟨N, rfl⟩ : ∃ N : Nat, n = N := ⟨n.toNat, by omega⟩
        have hAN : A + N ≤ d.last.length := by omega
        simp only [Int.toNat_natCast]
        have Hbe := Lib.hid hbe'
        have Hse := Lib.hid hse
        have Hno := Lib.hid hno
        have hN0 : (0 : Int) ≤ (N : Int) := by omega
        have hA0 : (0 : Int) ≤ (A : Int) := by omega
        have hbN : (A : Int) + (N : Int) ≤ 65536 := by omega
        clear hbe hse hbe' h1 h2 e3 hno
        go_enter Try.func32, Try.ntmps32
        go_wp2_with (go_at_call 38; (with_reducible refine Hbe.out.mono ?_); rintro e w1 ⟨rfl, rfl⟩)
        go_loop [8, 9] (fun sv iv => ∃ k : Nat, k ≤ N ∧ iv = .int .i64 k ∧ ∃ x, sv = .string (str x) ∧ Hid (x = ((d.nows.drop A).take k).flatten) ∧ x.length ≤ 64 * k) (fun _ iv => N - (intOf iv).toNat)
        case atStart => exact ⟨0, Nat.zero_le _, rfl, [], rfl, by unfold Hid; simp, by simp⟩
        case round =>
          obtain ⟨k, hk, rfl, x, rfl, Hx, hxl⟩ := hrel
          by_cases hlt : k < N
          · have hki : (k : Int) < (N : Int) := by omega
            have hki0 : (0 : Int) ≤ (k : Int) := by omega
            obtain ⟨s, hs⟩ : ∃ s, d.nows[A + k]? = some s := ⟨_, List.getElem?_eq_getElem (by rw [Hno.out.1]; omega)⟩
            have hs64 := Hno.out.2 s (List.mem_of_getElem? hs)
            have hsec := Hse.out (A + k) (by omega)
            unfold Dev.secN at hsec
            rw [List.getD_eq_getElem?_getD, hs, Option.getD_some, show (((A + k : Nat) : Int)) = (A : Int) + (k : Int) by omega] at hsec
            have hst : ((d.nows.drop A).take (k + 1)).flatten = ((d.nows.drop A).take k).flatten ++ s := by
              rw [List.take_add_one, List.getElem?_drop, hs]; simp
            have hcat : ¬ (9223372036854775807 < x.length + s.length) := by omega
            have Hst := Lib.hid hst
            have Hsec := Lib.hid hsec
            have Hs64 := Lib.hid hs64
            clear hst hsec hs64 hs
            go_wp2_with (go_at_call 39; (with_reducible refine Hsec.out.mono ?_); rintro e w1 ⟨rfl, rfl⟩)
            go_round
            case rel => exact ⟨k + 1, by omega, by go_num, x ++ s, rfl, by unfold Hid; rw [Hst.out, ← Hx.out], by rw [List.length_append, Hs64.out]; omega⟩
            case measure => simp [intOf]; omega
          · obtain rfl : k = N := by omega
            have hx := Hx.out
            go_wp2
            go_ret2
            rw [← Hx.out]
            exact ⟨rfl, rfl⟩
  · rw [hl] at c2
    simp only [if_true]
    clear hbe hse
    go_enter Try.func32, Try.ntmps32
    go_wp2
    go_ret2
    exact ⟨rfl, rfl⟩
end Go.Proofs.Ytddehagceenbnaa
