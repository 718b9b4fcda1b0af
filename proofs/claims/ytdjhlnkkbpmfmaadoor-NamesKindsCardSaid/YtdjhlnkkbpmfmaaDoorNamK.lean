/- Layer 6: number and Of of the answer. -/
import Derived.Test.YtdjhlnkkbpmfmaaDoorNamJ
namespace Go.Proofs.YtdjhlnkkbpmfmaaDoor
open Go.RowKit

theorem pow10 {N k : Nat} (h : N < 16 ^ k) (hk : k ≤ 10) : N < 1099511627776 := Nat.lt_of_lt_of_le h (by
  have := Nat.pow_le_pow_right (show 0 < 16 by omega) hk
  have e : (16 : Nat) ^ 10 = 1099511627776 := by decide
  omega)

set_option maxHeartbeats 4000000 in
set_option maxRecDepth 100000 in
theorem rnumber_any (s : List UInt8) (w : World) (hs : s.length ≤ 10) : Calls Tryd.prog 31 #[.string (str s)] w fun e w' => e = .returned (.int .i64 (numI s)) ∧ w' = w := by
  obtain ⟨R, hR⟩ : ∃ R, numGo 0 s = R := ⟨_, rfl⟩
  unfold numI
  rw [hR]
  have HR := Lib.hid hR
  clear hR
  go_enter Tryd.func31, Tryd.ntmps31
  go_wp2_with fail
  go_loop [3, 4] (fun nv iv => ∃ k N : Nat, k ≤ s.length ∧ iv = .int .i64 k ∧ nv = .int .i64 N ∧ N < 16 ^ k ∧ Hid (numGo 0 s = numGo N (s.drop k))) (fun _ iv => s.length - (intOf iv).toNat)
  case atStart => exact ⟨0, 0, Nat.zero_le _, rfl, rfl, by simp, rfl⟩
  case round =>
    obtain ⟨k, N, hk, rfl, rfl, hN, hgo⟩ := hrel
    by_cases hlt : k < s.length
    · have hN10 := pow10 hN (by omega)
      have hki : (k : Int) < (s.length : Int) := by omega
      have hki0 : (0 : Int) ≤ (k : Int) := by omega
      have hsz : k < (str s).size := by rw [str_size]; exact hlt
      have hdr : s.drop k = ((str s)[k]'hsz) :: s.drop (k + 1) := List.drop_eq_getElem_cons hlt
      have Hgo := hgo.out
      rw [hdr, numGo] at Hgo
      have HN := Lib.hid hN
      have hcl : ((str s)[k]'hsz).toNat < 256 := UInt8.toNat_lt _
      clear hgo hdr hN
      rcases (show ((str s)[k]'hsz).toNat < 48 ∨ (48 ≤ ((str s)[k]'hsz).toNat ∧ ((str s)[k]'hsz).toNat ≤ 57) ∨ (57 < ((str s)[k]'hsz).toNat ∧ ((str s)[k]'hsz).toNat < 97) ∨ (97 ≤ ((str s)[k]'hsz).toNat ∧ ((str s)[k]'hsz).toNat ≤ 102) ∨ 102 < ((str s)[k]'hsz).toNat by omega) with g | ⟨g, h⟩ | ⟨g, h⟩ | ⟨g, h⟩ | g
      · rw [if_pos (by unfold hexval; rw [if_neg (by omega), if_neg (by omega)]; decide)] at Hgo
        obtain rfl : R = none := by rw [← HR.out]; exact Hgo
        have f1 : ¬ (48 : Int) ≤ (((str s)[k]'hsz).toNat : Int) := by omega
        have f2 : ¬ (97 : Int) ≤ (((str s)[k]'hsz).toNat : Int) := by omega
        clear Hgo g
        go_wp2_with fail
        go_ret
        exact ⟨rfl, rfl⟩
      · have hv : hexval ((str s)[k]'hsz).toNat = ((((str s)[k]'hsz).toNat - 48 : Nat) : Int) := by unfold hexval; rw [if_pos (by omega)]; omega
        rw [hv, if_neg (by omega), Int.toNat_natCast] at Hgo
        obtain ⟨d, hd⟩ : ∃ d, ((str s)[k]'hsz).toNat - 48 = d := ⟨_, rfl⟩
        rw [hd] at Hgo
        have Hgo2 := Lib.hid Hgo
        have f1 : (48 : Int) ≤ (((str s)[k]'hsz).toNat : Int) := by omega
        have f2 : (((str s)[k]'hsz).toNat : Int) ≤ 57 := by omega
        have f3 : ¬ (97 : Int) ≤ (((str s)[k]'hsz).toNat : Int) := by omega
        have b1 : IntKind.u8.wrap ((((str s)[k]'hsz).toNat : Int) - 48) = (d : Int) := by rw [IntWalk.u8_in _ ⟨by omega, by omega⟩]; omega
        have b2 : IntKind.i64.wrap (d : Int) = (d : Int) := IntWalk.i64_in _ ⟨by omega, by omega⟩
        have b3 : IntKind.i64.wrap (16 * (N : Int)) = 16 * (N : Int) := IntWalk.i64_in _ ⟨by omega, by omega⟩
        have b4 : IntKind.i64.wrap (16 * (N : Int) + (d : Int)) = ((N * 16 + d : Nat) : Int) := by rw [IntWalk.i64_in _ ⟨by omega, by omega⟩]; omega
        have hd0 : ¬ (d : Int) < 0 := by omega
        have Hd : Hid (d < 16) := by unfold Hid; omega
        clear Hgo g h hv hd
        go_wp2_with fail
        go_round
        case rel => exact ⟨k + 1, N * 16 + d, by omega, by go_num, by first | rfl | go_num, by rw [Nat.pow_succ]; have := HN.out; have := Hd.out; omega, Hgo2.out⟩
        case measure => simp [intOf]; omega
      · rw [if_pos (by unfold hexval; rw [if_neg (by omega), if_neg (by omega)]; decide)] at Hgo
        obtain rfl : R = none := by rw [← HR.out]; exact Hgo
        have f1 : (48 : Int) ≤ (((str s)[k]'hsz).toNat : Int) := by omega
        have f2 : ¬ (((str s)[k]'hsz).toNat : Int) ≤ 57 := by omega
        have f3 : ¬ (97 : Int) ≤ (((str s)[k]'hsz).toNat : Int) := by omega
        clear Hgo g h
        go_wp2_with fail
        go_ret
        exact ⟨rfl, rfl⟩
      · have hv : hexval ((str s)[k]'hsz).toNat = ((((str s)[k]'hsz).toNat - 87 : Nat) : Int) := by unfold hexval; rw [if_neg (by omega), if_pos (by omega)]; omega
        rw [hv, if_neg (by omega), Int.toNat_natCast] at Hgo
        obtain ⟨d, hd⟩ : ∃ d, ((str s)[k]'hsz).toNat - 87 = d := ⟨_, rfl⟩
        obtain ⟨d2, hd2⟩ : ∃ d, ((str s)[k]'hsz).toNat - 97 = d := ⟨_, rfl⟩
        rw [hd] at Hgo
        have Hgo2 := Lib.hid Hgo
        have f1 : (48 : Int) ≤ (((str s)[k]'hsz).toNat : Int) := by omega
        have f2 : ¬ (((str s)[k]'hsz).toNat : Int) ≤ 57 := by omega
        have f3 : (97 : Int) ≤ (((str s)[k]'hsz).toNat : Int) := by omega
        have f4 : (((str s)[k]'hsz).toNat : Int) ≤ 102 := by omega
        have b1 : IntKind.u8.wrap ((((str s)[k]'hsz).toNat : Int) - 97) = (d2 : Int) := by rw [IntWalk.u8_in _ ⟨by omega, by omega⟩]; omega
        have b2 : IntKind.i64.wrap (d2 : Int) = (d2 : Int) := IntWalk.i64_in _ ⟨by omega, by omega⟩
        have b5 : IntKind.i64.wrap ((d2 : Int) + 10) = (d : Int) := by rw [IntWalk.i64_in _ ⟨by omega, by omega⟩]; omega
        have b3 : IntKind.i64.wrap (16 * (N : Int)) = 16 * (N : Int) := IntWalk.i64_in _ ⟨by omega, by omega⟩
        have b4 : IntKind.i64.wrap (16 * (N : Int) + (d : Int)) = ((N * 16 + d : Nat) : Int) := by rw [IntWalk.i64_in _ ⟨by omega, by omega⟩]; omega
        have hd0 : ¬ (d : Int) < 0 := by omega
        have Hd : Hid (d < 16) := by unfold Hid; omega
        clear Hgo g h hv hd hd2
        go_wp2_with fail
        go_round
        case rel => exact ⟨k + 1, N * 16 + d, by omega, by go_num, by first | rfl | go_num, by rw [Nat.pow_succ]; have := HN.out; have := Hd.out; omega, Hgo2.out⟩
        case measure => simp [intOf]; omega
      · rw [if_pos (by unfold hexval; rw [if_neg (by omega), if_neg (by omega)]; decide)] at Hgo
        obtain rfl : R = none := by rw [← HR.out]; exact Hgo
        have f1 : (48 : Int) ≤ (((str s)[k]'hsz).toNat : Int) := by omega
        have f2 : ¬ (((str s)[k]'hsz).toNat : Int) ≤ 57 := by omega
        have f3 : (97 : Int) ≤ (((str s)[k]'hsz).toNat : Int) := by omega
        have f4 : ¬ (((str s)[k]'hsz).toNat : Int) ≤ 102 := by omega
        clear Hgo g
        go_wp2_with fail
        go_ret
        exact ⟨rfl, rfl⟩
    · obtain rfl : k = s.length := by omega
      have Hgo := hgo.out
      rw [List.drop_of_length_le (Nat.le_refl _), numGo] at Hgo
      obtain rfl : R = some N := by rw [← HR.out]; exact Hgo
      clear Hgo
      go_wp2_with fail
      go_ret
      exact ⟨rfl, rfl⟩

/-- The number of a text that is a name of a volume and a kind. -/
def ofI (s v : List UInt8) (k : Int) : Int := if (preOf v k).2 ≠ 0 ∨ s.length ≠ (preOf v k).1.length + 10 ∨ s.take (preOf v k).1.length ≠ (preOf v k).1 then -1 else numI (s.drop (preOf v k).1.length)

set_option maxHeartbeats 4000000 in
set_option maxRecDepth 100000 in
theorem of_any (s v : List UInt8) (k : Int) (w : World) (_hs : s.length ≤ 1000000) (hv : v.length ≤ 1000000) : Calls Tryd.prog 21 #[.string (str s), .string (str v), .int .i64 k] w fun e w' => e = .returned (.int .i64 (ofI s v k)) ∧ w' = w := by
  have Rx := Lib.hid (fun w' => rprefix_any v k w' hv)
  have l2 := preOf_length v k
  obtain ⟨R, hR⟩ : ∃ R, ofI s v k = R := ⟨_, rfl⟩
  rw [hR]
  unfold ofI at hR
  obtain ⟨p, f, h2⟩ : ∃ p f, preOf v k = (p, f) := ⟨_, _, rfl⟩
  rw [h2] at Rx hR l2
  dsimp only at Rx hR l2
  clear h2
  by_cases hf : f = 0
  · subst hf
    by_cases hl : s.length = p.length + 10
    · have hx : (str s).extract 0 p.length = str (s.take p.length) := by rw [str_extract, str_data, List.drop_zero, Nat.sub_zero]
      have hle : (p.length : Int) ≤ (s.length : Int) := by omega
      have hl1 : (s.length : Int) = (p.length : Int) + 10 := by omega
      have hl3 : ((s.length : Int) != (p.length : Int) + 10) = false := by rw [hl1]; exact bne_self_eq_false _
      have hb1 : IntKind.i64.wrap ((p.length : Int) + 10) = (p.length : Int) + 10 := IntWalk.i64_in _ ⟨by omega, by omega⟩
      by_cases hp : s.take p.length = p
      · rw [if_neg (by simp [hl, hp])] at hR
        rw [hp] at hx
        have hy : (str s).extract p.length s.length = str (s.drop p.length) := by rw [str_extract, str_data, List.take_of_length_le (by rw [List.length_drop]; omega)]
        have hdl : (s.drop p.length).length ≤ 10 := by rw [List.length_drop]; omega
        have Rn := Lib.hid (fun w' => rnumber_any (s.drop p.length) w' hdl)
        rw [hR] at Rn
        generalize s.drop p.length = Q at *
        clear hl hl1 hR hp hdl
        go_enter Tryd.func21, Tryd.ntmps21
        go_wp2_with (first
          | (go_at_call 14; (with_reducible refine (Rx.out _).mono ?_); rintro e w1 ⟨rfl, rfl⟩)
          | (go_at_call 31; (with_reducible refine (Rn.out _).mono ?_); rintro e w2 ⟨rfl, rfl⟩))
        go_ret
        exact ⟨rfl, rfl⟩
      · rw [if_pos (.inr (.inr hp))] at hR
        subst hR
        have hq : (str (s.take p.length) == str p) = false := by rw [str_beq, beq_eq_false_iff_ne]; exact hp
        have hq2 : (s.take p.length == p) = false := by rw [beq_eq_false_iff_ne]; exact hp
        generalize s.take p.length = Q at *
        clear hl hl1 hp
        go_enter Tryd.func21, Tryd.ntmps21
        go_wp2_with (go_at_call 14; (with_reducible refine (Rx.out _).mono ?_); rintro e w1 ⟨rfl, rfl⟩)
        go_ret
        exact ⟨rfl, rfl⟩
    · rw [if_pos (.inr (.inl hl))] at hR
      subst hR
      have hl3 : ((s.length : Int) != (p.length : Int) + 10) = true := by rw [bne_iff_ne]; omega
      have hb1 : IntKind.i64.wrap ((p.length : Int) + 10) = (p.length : Int) + 10 := IntWalk.i64_in _ ⟨by omega, by omega⟩
      clear hl
      go_enter Tryd.func21, Tryd.ntmps21
      go_wp2_with (go_at_call 14; (with_reducible refine (Rx.out _).mono ?_); rintro e w1 ⟨rfl, rfl⟩)
      go_ret
      exact ⟨rfl, rfl⟩
  · rw [if_pos (.inl hf)] at hR
    subst hR
    have hb : (f != 0) = true := bne_iff_ne.2 hf
    clear hf
    go_enter Tryd.func21, Tryd.ntmps21
    go_wp2_with (go_at_call 14; (with_reducible refine (Rx.out _).mono ?_); rintro e w1 ⟨rfl, rfl⟩)
    go_ret
    exact ⟨rfl, rfl⟩
end Go.Proofs.YtdjhlnkkbpmfmaaDoor
