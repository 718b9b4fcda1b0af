/- Layer 10: the reference: May, All, Total, Check. -/
import Derived.Test.YtjebldfmkpfafaaRecD
namespace Go.Proofs.Ytjebldfmkpfafaa
open Go.RowKit
set_option maxRecDepth 100000

set_option maxHeartbeats 4000000 in
theorem rmay_any (s : Sp) (hs : spG s) (w : World) : Calls Try.prog 40 #[.agg #[.int .i64 s.1, .int .i64 s.2]] w fun e w' => e = .returned (.bool (maySp s)) ∧ Keeps [] w w' := by
  obtain ⟨a, n⟩ := s
  obtain ⟨⟨ha0, ha1⟩, hn0, hn1⟩ := hs
  dsimp only at *
  have K0 := Lib.hid ((Keeps.refl [] w).alloc (.cells #[.int .i64 a, .int .i64 n] 39))
  rcases (show a < 0 ∨ (0 ≤ a ∧ 65536 < a) ∨ (0 ≤ a ∧ a ≤ 65536 ∧ n < 1) ∨ (0 ≤ a ∧ a ≤ 65536 ∧ 1 ≤ n ∧ 65536 < n) ∨ (0 ≤ a ∧ a ≤ 65536 ∧ 1 ≤ n ∧ n ≤ 65536 ∧ 65536 < a + n) ∨ (0 ≤ a ∧ a ≤ 65536 ∧ 1 ≤ n ∧ n ≤ 65536 ∧ a + n ≤ 65536) by omega) with hq | hq | hq | hq | hq | hq
  all_goals
    first
      | (have hm : maySp (a, n) = false := by unfold maySp; simp; omega
         rw [hm])
      | (have hm : maySp (a, n) = true := by unfold maySp; simp; omega
         rw [hm])
    clear hm
  · have h1 : decide (0 ≤ a) = false := decide_eq_false (by omega)
    go_enter Try.func40, Try.ntmps40
    go_wp2
    go_ret
    exact ⟨rfl, K0.out⟩
  · have h1 : decide (0 ≤ a) = true := decide_eq_true (by omega)
    have h2 : decide (a ≤ 65536) = false := decide_eq_false (by omega)
    go_enter Try.func40, Try.ntmps40
    go_wp2
    go_ret
    exact ⟨rfl, K0.out⟩
  · have h1 : decide (0 ≤ a) = true := decide_eq_true (by omega)
    have h2 : decide (a ≤ 65536) = true := decide_eq_true (by omega)
    have h3 : decide (1 ≤ n) = false := decide_eq_false (by omega)
    go_enter Try.func40, Try.ntmps40
    go_wp2
    go_ret
    exact ⟨rfl, K0.out⟩
  · have h1 : decide (0 ≤ a) = true := decide_eq_true (by omega)
    have h2 : decide (a ≤ 65536) = true := decide_eq_true (by omega)
    have h3 : decide (1 ≤ n) = true := decide_eq_true (by omega)
    have h4 : decide (n ≤ 65536) = false := decide_eq_false (by omega)
    go_enter Try.func40, Try.ntmps40
    go_wp2
    go_ret
    exact ⟨rfl, K0.out⟩
  · have h1 : decide (0 ≤ a) = true := decide_eq_true (by omega)
    have h2 : decide (a ≤ 65536) = true := decide_eq_true (by omega)
    have h3 : decide (1 ≤ n) = true := decide_eq_true (by omega)
    have h4 : decide (n ≤ 65536) = true := decide_eq_true (by omega)
    have h5 : decide (a + n ≤ 65536) = false := decide_eq_false (by omega)
    have hw : IntKind.i64.wrap (a + n) = a + n := IntWalk.i64_in _ ⟨by omega, by omega⟩
    go_enter Try.func40, Try.ntmps40
    go_wp2
    go_ret
    exact ⟨rfl, K0.out⟩
  · have h1 : decide (0 ≤ a) = true := decide_eq_true (by omega)
    have h2 : decide (a ≤ 65536) = true := decide_eq_true (by omega)
    have h3 : decide (1 ≤ n) = true := decide_eq_true (by omega)
    have h4 : decide (n ≤ 65536) = true := decide_eq_true (by omega)
    have h5 : decide (a + n ≤ 65536) = true := decide_eq_true (by omega)
    have hw : IntKind.i64.wrap (a + n) = a + n := IntWalk.i64_in _ ⟨by omega, by omega⟩
    go_enter Try.func40, Try.ntmps40
    go_wp2
    go_ret
    exact ⟨rfl, K0.out⟩

set_option maxHeartbeats 4000000 in
theorem rall_any (l : List Sp) (hl : ∀ s, s ∈ l → spG s) (hn : l.length ≤ 9223372036854775807) (v : Value) (G : List Nat) (w : World) (hv : SpAt w v l G) :
    Calls Try.prog 24 #[v] w fun e w' => e = .returned (.bool (l.all maySp)) ∧ Keeps [] w w' := by
  have Hv := Lib.hid hv
  obtain ⟨ad, cap, rfl, _⟩ := hv
  have Hl := Lib.hid hl
  clear hl
  go_enter Try.func24, Try.ntmps24
  go_wp2
  go_loopw [3] (fun iv wr => ∃ k : Nat, k ≤ l.length ∧ iv = .int .i64 k ∧ Hid ((l.take k).all maySp = true) ∧ Keeps [] w wr) (fun iv _ => l.length - (intOf iv).toNat)
  case atStart => exact ⟨0, Nat.zero_le _, rfl, rfl, Keeps.refl [] _⟩
  case round =>
    obtain ⟨k, hk, rfl, hall, kk⟩ := hrel
    by_cases hlt : k < l.length
    · obtain ⟨s, hs⟩ : ∃ s, l[k]? = some s := ⟨l[k], by simp [hlt]⟩
      obtain ⟨b, off, rfl, _, hc⟩ := Hv.out.at hs
      have c0 : wr.cell? ⟨b, off + k * 2, none⟩ = some (.int .i64 s.1) := kk.cell0 (hc 0 _ rfl)
      have c1 : wr.cell? ⟨b, off + k * 2 + 1, none⟩ = some (.int .i64 s.2) := kk.cell0 (hc 1 _ rfl)
      have hst : l.take (k + 1) = l.take k ++ [s] := by rw [List.take_add_one, hs]; rfl
      have Wr := Lib.hid (fun w => rmay_any s (Hl.out s (List.mem_of_getElem? hs)) w)
      have hmem := List.mem_of_getElem? hs
      have hki : (k : Int) < (l.length : Int) := by omega
      have hki0 : (0 : Int) ≤ (k : Int) := by omega
      have Kk := Lib.hid kk
      have Hst := Lib.hid hst
      have Hmem := Lib.hid hmem
      clear hc hs hst hmem kk
      by_cases hm : maySp s = true
      · have Hm := Lib.hid hm
        rw [hm] at Wr
        clear hm
        go_wp2_with (go_at_call 40; (with_reducible refine (Wr.out _).mono ?_); rintro e w1 ⟨rfl, k1⟩)
        go_roundw
        case rel => exact ⟨k + 1, by omega, by go_num, by show (l.take (k + 1)).all maySp = true; rw [Hst.out, List.all_append, hall.out]; simp [Hm.out], Kk.out.trans k1 (by simp)⟩
        case measure => simp [intOf]; omega
      · rw [Bool.eq_false_iff.2 hm] at Wr
        have Hm := Lib.hid hm
        clear hm
        go_wp2_with (go_at_call 40; (with_reducible refine (Wr.out _).mono ?_); rintro e w1 ⟨rfl, k1⟩)
        go_ret
        have hall2 : l.all maySp = false := by rw [List.all_eq_false]; exact ⟨s, Hmem.out, Hm.out⟩
        exact ⟨by rw [hall2]; rfl, Kk.out.trans k1 (by simp)⟩
    · obtain rfl : k = l.length := by omega
      rw [List.take_length] at hall
      go_wp2
      go_ret
      exact ⟨by rw [hall.out]; rfl, kk⟩

set_option maxHeartbeats 4000000 in
theorem rtotal_any (l : List Sp) (hl : ∀ s, s ∈ l → 0 ≤ s.2 ∧ s.2 ≤ 65536) (hn : l.length ≤ 100) (v : Value) (G : List Nat) (w : World) (hv : SpAt w v l G) :
    Calls Try.prog 25 #[v] w fun e w' => e = .returned (.int .i64 (totS l)) ∧ Keeps [] w w' := by
  have Hv := Lib.hid hv
  obtain ⟨ad, cap, rfl, _⟩ := hv
  have Hl := Lib.hid hl
  clear hl
  go_enter Try.func25, Try.ntmps25
  go_wp2
  go_loopw [3, 4] (fun sv iv wr => ∃ k : Nat, k ≤ l.length ∧ iv = .int .i64 k ∧ sv = .int .i64 (totS (l.take k)) ∧ Keeps [] w wr) (fun _ iv _ => l.length - (intOf iv).toNat)
  case atStart => exact ⟨0, Nat.zero_le _, rfl, rfl, Keeps.refl [] _⟩
  case round =>
    obtain ⟨k, hk, rfl, rfl, kk⟩ := hrel
    by_cases hlt : k < l.length
    · obtain ⟨s, hs⟩ : ∃ s, l[k]? = some s := ⟨l[k], by simp [hlt]⟩
      obtain ⟨b, off, rfl, _, hc⟩ := Hv.out.at hs
      have c1 : wr.cell? ⟨b, off + k * 2 + 1, none⟩ = some (.int .i64 s.2) := kk.cell0 (hc 1 _ rfl)
      have hst : l.take (k + 1) = l.take k ++ [s] := by rw [List.take_add_one, hs]; rfl
      have hbd := totS_bd (l.take k) (fun s hs => Hl.out s (List.mem_of_mem_take hs))
      rw [List.length_take] at hbd
      have hsb := Hl.out s (List.mem_of_getElem? hs)
      have hnx : totS (l.take (k + 1)) = totS (l.take k) + s.2 := by rw [hst, totS_snoc]
      have hmin : min k l.length = k := by omega
      rw [hmin] at hbd
      generalize totS (l.take k) = T at *
      have Hnx := Lib.hid hnx
      have hki : (k : Int) < (l.length : Int) := by omega
      have hki0 : (0 : Int) ≤ (k : Int) := by omega
      obtain ⟨hT0, hT1⟩ := hbd
      obtain ⟨hs0, hs1⟩ := hsb
      obtain ⟨sa, sn⟩ := s
      dsimp only at hs0 hs1 c1 Hnx
      have hw : IntKind.i64.wrap (T + sn) = T + sn := IntWalk.i64_in _ ⟨by omega, by omega⟩
      have Kk := Lib.hid kk
      clear hc hst hnx hs hmin
      go_wp2
      go_roundw
      case rel => exact ⟨k + 1, by omega, by go_num, by rw [Hnx.out], by first | exact Kk.out.drew | exact Kk.out⟩
      case measure => simp [intOf]; omega
    · obtain rfl : k = l.length := by omega
      rw [List.take_length]
      go_wp2
      go_ret
      exact ⟨rfl, kk⟩
end Go.Proofs.Ytjebldfmkpfafaa
