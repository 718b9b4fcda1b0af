/- Layer 3: what the reference's functions answer: Few, Text. -/
import Derived.Test.YtjebldfmkpfafaaWireRef2
namespace Go.Proofs.Ytjebldfmkpfafaa
open Go.RowKit
set_option maxRecDepth 100000

theorem lead_of {c : UInt8} {n : Nat} (h1 : 1 ≤ n) (h9 : n ≤ 9) (hlo : n = 1 ∨ vhd n ≤ c.toNat) (hhi : n = 9 ∨ c.toNat < vhd (n + 1)) : vlead c = n := by
  have h2 := lead_rng ⟨c.toNat, c.toNat_lt⟩
  have h3 := vlead_bd c
  simp only [UInt8.ofNat_toNat] at h2
  have hm : ∀ a b : Nat, a ≤ b → b < 10 → vhd a ≤ vhd b := fun a b h hb => vhd_mono ⟨a, by omega⟩ ⟨b, hb⟩ h
  rcases Nat.lt_trichotomy (vlead c) n with h | h | h
  · exfalso
    have := hm (vlead c + 1) n h (by omega)
    omega
  · exact h
  · exfalso
    have := hm (n + 1) (vlead c) h (by omega)
    omega

theorem vhd_le (n : Nat) : vhd n ≤ 256 := Nat.sub_le _ _

theorem refFew_nil (w : World) : Calls Try.prog 86 #[.string (str [])] w fun e w' => e = .returned (.tuple #[.int .u64 0, .int .i64 0, .int .i64 10]) ∧ w = w' := by
  go_enter Try.func86, Try.ntmps86
  go_wp2
  go_ret3
  exact ⟨rfl, rfl⟩

theorem drewN_ex {w wr : World} (h : ∃ d, wr = w.drewN d) (n : Nat) : ∃ d, wr.drewN n = w.drewN d := by
  obtain ⟨d, rfl⟩ := h
  exact ⟨d + n, World.drewN_drewN _ _ _⟩

set_option maxHeartbeats 2000000 in
theorem refFew_cons (c : UInt8) (tl : List UInt8) (s : ByteArray) (w : World) (hs : s.data.toList = c :: tl) (hsz : s.size ≤ 140737488351232) :
    Calls Try.prog 86 #[.string s] w fun e w' =>
      e = .returned (.tuple #[.int .u64 (rvar s.data.toList 0 0).1, .int .i64 ((rvar s.data.toList 0 0).2.1 : Nat), .int .i64 (rvar s.data.toList 0 0).2.2]) ∧ ∃ n, w' = w.drewN n := by
  have hr := rvar_drop s.data.toList 0 c tl hs
  generalize rvar s.data.toList 0 0 = r at *
  obtain ⟨rx, rq, re⟩ := r
  dsimp only
  have Hr := Lib.hid hr
  have hlen : s.size = tl.length + 1 := by rw [← dlen, hs]; rfl
  have hp0 : 0 < s.size := by omega
  have hne : (s.toList == ([] : List UInt8)) = false := by rw [Lib.toList_data, hs]; rfl
  have h0 : (s[0]'hp0).toNat = c.toNat := by
    have : s[0]'hp0 = s.data.toList[0]'(by rw [dlen]; exact hp0) := rfl
    rw [this]; simp only [hs, List.getElem_cons_zero]
  have hc := c.toNat_lt
  have hsi : ∀ i (hi : i < s.size), 1 ≤ i → tl[i - 1]? = some s[i] := by
    intro i hi h1
    have e1 : s.data.toList[i]? = some s[i] := List.getElem?_eq_getElem (by rw [dlen]; exact hi)
    rw [hs] at e1
    obtain ⟨j, rfl⟩ : ∃ j, i = j + 1 := ⟨i - 1, by omega⟩
    simpa using e1
  have Hs := Lib.hid hs
  have Hsi := Lib.hid hsi
  have Hlen := Lib.hid hlen
  have hlen1 : tl.length + 1 ≤ s.size := by omega
  have hlen2 : s.size ≤ tl.length + 1 := by omega
  clear hs hsi hr hlen
  generalize hcn : c.toNat = C at *
  have Hcn := Lib.hid hcn
  clear hcn
  go_enter Try.func86, Try.ntmps86
  go_wp2
  go_loopw [5] (fun nv wr => ∃ n : Nat, 1 ≤ n ∧ n ≤ 9 ∧ nv = .int .i64 n ∧ Hid (n = 1 ∨ vhd n ≤ C) ∧ Hid (∃ d, wr = w.drewN d)) (fun nv _ => 9 - (intOf nv).toNat)
  case atStart => exact ⟨1, by omega, by omega, rfl, .inl rfl, 0, rfl⟩
  case round =>
    obtain ⟨n, h1, h9, rfl, Hlo, Hd⟩ := hrel
    by_cases hn : n < 9
    · have hv := vhd_le (n + 1)
      have hd9 : decide ((n : Int) < 9) = true := by simp; omega
      have hw1 : IntKind.i64.wrap ((n : Int) + 1) = ((n + 1 : Nat) : Int) := IntWalk.i64_in _ ⟨by omega, by omega⟩
      have hw2 : IntKind.i64.wrap (C : Int) = C := IntWalk.i64_in _ ⟨by omega, by omega⟩
      by_cases hcv : vhd (n + 1) ≤ C
      · go_wp2
        go_quiet ((go_at_call 61; exact Calls.quiet_of_same (Calls_flip (refHead_any (n + 1) _ (by omega) (by omega)))))
        go_wp2
        go_roundw
        case rel => exact ⟨n + 1, by omega, by omega, rfl, .inr hcv, drewN_ex Hd.out _⟩
        case measure => simp [intOf]; omega
      · have hle : vlead c = n := lead_of h1 h9 (by rw [Hcn.out]; exact Hlo.out) (.inr (by rw [Hcn.out]; omega))
        have Hle := Lib.hid hle
        clear hle
        by_cases hsh : s.size < n
        · go_wp2
          go_quiet ((go_at_call 61; exact Calls.quiet_of_same (Calls_flip (refHead_any (n + 1) _ (by omega) (by omega)))))
          go_wp2
          go_ret3
          refine ⟨?_, drewN_ex Hd.out _⟩
          have h1 := Hr.out
          rw [Hle.out, if_pos (by omega)] at h1
          injection h1 with h2 h3
          injection h3 with h3 h4
          subst h2 h3 h4
          rfl
        · have hlo2 : vhd n ≤ C := by
            rcases Hlo.out with h | h
            · subst h; exact Nat.zero_le _
            · exact h
          have hn8 : IntKind.i64.wrap ((C : Int) - (vhd n : Int)) = ((C - vhd n : Nat) : Int) := by rw [IntWalk.i64_in _ ⟨by omega, by omega⟩]; omega
          have hn7 : IntKind.u64.wrap ((C - vhd n : Nat) : Int) = ((C - vhd n : Nat) : Int) := IntWalk.u64_in _ ⟨by omega, by omega⟩
          have hn9 : ((n : Int) == 9) = false := by simp; omega
          go_wp2
          go_quiet ((go_at_call 61; exact Calls.quiet_of_same (Calls_flip (refHead_any (n + 1) _ (by omega) (by omega)))))
          go_wp2
          obtain ⟨wn, hwn⟩ : ∃ wn, wn = wr.drewN nq := ⟨_, rfl⟩
          rw [← hwn]
          have Hwn := Lib.hid hwn
          clear hwn
          go_quiet ((go_at_call 61; exact Calls.quiet_of_same (Calls_flip (refHead_any n _ (by omega) (by omega)))))
          go_wp2
          obtain ⟨wm, hwm⟩ : ∃ wm, wm = wn.drewN nq := ⟨_, rfl⟩
          rw [← hwm]
          have Hwm := Lib.hid hwm
          clear hwm
          go_loop [6, 7] (fun xv iv => ∃ i X : Nat, 1 ≤ i ∧ i ≤ n ∧ iv = .int .i64 i ∧ xv = .int .u64 X ∧ Hid (X = (C - vhd n) * 256 ^ (i - 1) + num (tl.take (i - 1)))) (fun _ iv => n - (intOf iv).toNat)
          case atStart => exact ⟨1, C - vhd n, by omega, by omega, rfl, by go_num, by simp [Hid, num]⟩
          case round =>
            obtain ⟨i, X, hi1, hin, rfl, rfl, HX⟩ := hrel
            have hval : i = n → X = vval ((c :: tl).take n) := by
              intro h
              subst h
              rw [HX.out]
              have h2 := lead_back ⟨i - 1, by omega⟩ ⟨c.toNat, c.toNat_lt⟩ (by simp only [UInt8.ofNat_toNat]; rw [Hle.out]; omega)
              have e1 : i - 1 + 1 = i := by omega
              simp only [e1] at h2
              obtain ⟨j, rfl⟩ : ∃ j, i = j + 1 := ⟨i - 1, by omega⟩
              rw [List.take_succ_cons, Nat.add_sub_cancel]
              unfold vval
              have hjl : (tl.take j).length = j := by rw [List.length_take]; omega
              rw [if_pos (by simp [hjl]; omega)]
              simp only [List.length_cons, hjl, List.headD_cons, List.tail_cons, Nat.add_sub_cancel]
              rw [← Hcn.out]
              congr 2
              omega
            by_cases hlt : i < n
            · have his : i < s.size := by omega
              have hXb : X < 72057594037927936 := by
                rw [HX.out]
                have h2 := lead_back ⟨n - 1, by omega⟩ ⟨c.toNat, c.toNat_lt⟩ (by simp only [UInt8.ofNat_toNat]; rw [Hle.out]; omega)
                have h3 := num_lt (tl.take (i - 1))
                have h4 : (tl.take (i - 1)).length = i - 1 := by rw [List.length_take]; omega
                have h5 : C - vhd n < 256 := by omega
                have h6 : (C - vhd n) * 256 ^ (i - 1) ≤ 255 * 256 ^ (i - 1) := Nat.mul_le_mul_right _ (by omega)
                have h7 : 256 ^ (i - 1) ≤ 256 ^ 6 := Nat.pow_le_pow_right (by omega) (by omega)
                rw [h4] at h3
                omega
              have Hval := Lib.hid hval
              have hb := (s[i]'his).toNat_lt
              have hmul : IntKind.u64.wrap (256 * (X : Int)) = ((256 * X : Nat) : Int) := by rw [IntWalk.u64_in _ ⟨by omega, by omega⟩]; omega
              have hwb := wrap_byte (s[i]'his)
              have hadd : IntKind.u64.wrap (((256 * X : Nat) : Int) + ((s[i]'his).toNat : Int)) = ((256 * X + (s[i]'his).toNat : Nat) : Int) := by rw [IntWalk.u64_in _ ⟨by omega, by omega⟩]; omega
              clear hval
              go_wp2
              go_round
              case rel => exact ⟨i + 1, 256 * X + (s[i]'his).toNat, by omega, by omega, by go_num, by go_num, by
                  have e1 := Hsi.out i his hi1
                  obtain ⟨k, rfl⟩ : ∃ k, i = k + 1 := ⟨i - 1, by omega⟩
                  unfold Hid
                  simp only [Nat.add_sub_cancel] at e1 ⊢
                  rw [List.take_add_one, e1, Option.toList_some, num_snoc, HX.out]
                  simp only [Nat.add_sub_cancel, Nat.pow_succ, Nat.mul_add]
                  rw [← Nat.mul_assoc, Nat.mul_comm 256, Nat.mul_assoc, Nat.mul_comm 256 (256 ^ k)]
                  omega⟩
              case measure => simp [intOf]; omega
            · obtain rfl : i = n := by omega
              have hX := hval rfl
              have h1 := Hr.out
              rw [Hle.out, if_neg (by omega), ← hX] at h1
              have hxl : X ≤ 18446744073709551615 := by rw [hX]; exact vval_lt _ (by simp; omega)
              have HX2 := Lib.hid hX
              have H1 := Lib.hid h1
              clear hval hX h1
              by_cases hq : vsz X = i
              · have hqb : ((vsz X : Int) != (i : Int)) = false := bne_nat_eq hq
                have Hq := Lib.hid hq
                clear hq
                go_wp2_with (go_at_call 60; (with_reducible refine (refSize_any X _ (by omega)).mono ?_); rintro e w5 ⟨rfl, rfl⟩)
                go_ret3
                have h1 := H1.out
                rw [if_pos Hq.out, Nat.zero_add] at h1
                injection h1 with h2 h3
                injection h3 with h3 h4
                subst h2 h3 h4
                exact ⟨rfl, by rw [Hwm.out, Hwn.out]; exact drewN_ex (drewN_ex Hd.out _) _⟩
              · have hqb : ((vsz X : Int) != (i : Int)) = true := bne_nat_ne hq
                have Hq := Lib.hid hq
                clear hq
                go_wp2_with (go_at_call 60; (with_reducible refine (refSize_any X _ (by omega)).mono ?_); rintro e w5 ⟨rfl, rfl⟩)
                go_ret3
                have h1 := H1.out
                rw [if_neg Hq.out] at h1
                injection h1 with h2 h3
                injection h3 with h3 h4
                subst h2 h3 h4
                exact ⟨rfl, by rw [Hwm.out, Hwn.out]; exact drewN_ex (drewN_ex Hd.out _) _⟩
    · obtain rfl : n = 9 := by omega
      have hle : vlead c = 9 := lead_of h1 h9 (by rw [Hcn.out]; exact Hlo.out) (.inl rfl)
      have hC : C = 255 := by
        rw [← Hcn.out]
        exact lead_nine ⟨c.toNat, c.toNat_lt⟩ (by simpa using hle)
      have Hle := Lib.hid hle
      have hhi : 255 ≤ C := by omega
      clear hle hC
      have hd9 : decide ((9 : Int) < 9) = false := by decide
      have hw2 : IntKind.i64.wrap (C : Int) = C := IntWalk.i64_in _ ⟨by omega, by omega⟩
      by_cases hsh : s.size < 9
      · go_wp2
        go_quiet (fail)
        go_wp2
        go_ret3
        refine ⟨?_, drewN_ex Hd.out _⟩
        have h1 := Hr.out
        rw [Hle.out, if_pos (by omega)] at h1
        injection h1 with h2 h3
        injection h3 with h3 h4
        subst h2 h3 h4
        rfl
      · have hvh : vhd 9 = 255 := by decide
        have hn8 : IntKind.i64.wrap ((C : Int) - 255) = ((C - 255 : Nat) : Int) := by rw [IntWalk.i64_in _ ⟨by omega, by omega⟩]; omega
        have hn7 : IntKind.u64.wrap ((C - 255 : Nat) : Int) = ((C - 255 : Nat) : Int) := IntWalk.u64_in _ ⟨by omega, by omega⟩
        go_wp2
        go_quiet (fail)
        go_wp2
        obtain ⟨wn, hwn⟩ : ∃ wn, wn = wr.drewN nq := ⟨_, rfl⟩
        rw [← hwn]
        have Hwn := Lib.hid hwn
        clear hwn
        go_quiet ((go_at_call 61; exact Calls.quiet_of_same (Calls_flip (refHead_any 9 _ (by omega) (by omega)))))
        go_wp2
        obtain ⟨wm, hwm⟩ : ∃ wm, wm = wn.drewN nq := ⟨_, rfl⟩
        rw [← hwm]
        have Hwm := Lib.hid hwm
        clear hwm
        go_loop [6, 7] (fun xv iv => ∃ i X : Nat, 1 ≤ i ∧ i ≤ 9 ∧ iv = .int .i64 i ∧ xv = .int .u64 X ∧ Hid (X = num (tl.take (i - 1)))) (fun _ iv => 9 - (intOf iv).toNat)
        case atStart => exact ⟨1, 0, by omega, by omega, rfl, rfl, by simp [Hid, num]⟩
        case round =>
          obtain ⟨i, X, hi1, hin, rfl, rfl, HX⟩ := hrel
          by_cases hlt : i < 9
          · have his : i < s.size := by omega
            have hXb : X < 72057594037927936 := by
              rw [HX.out]
              have h3 := num_lt (tl.take (i - 1))
              have h4 : (tl.take (i - 1)).length = i - 1 := by rw [List.length_take]; omega
              have h7 : 256 ^ (i - 1) ≤ 256 ^ 7 := Nat.pow_le_pow_right (by omega) (by omega)
              rw [h4] at h3
              omega
            have hb := (s[i]'his).toNat_lt
            have hmul : IntKind.u64.wrap (256 * (X : Int)) = ((256 * X : Nat) : Int) := by rw [IntWalk.u64_in _ ⟨by omega, by omega⟩]; omega
            have hwb := wrap_byte (s[i]'his)
            have hadd : IntKind.u64.wrap (((256 * X : Nat) : Int) + ((s[i]'his).toNat : Int)) = ((256 * X + (s[i]'his).toNat : Nat) : Int) := by rw [IntWalk.u64_in _ ⟨by omega, by omega⟩]; omega
            go_wp2
            go_round
            case rel => exact ⟨i + 1, 256 * X + (s[i]'his).toNat, by omega, by omega, by go_num, by go_num, by
                have e1 := Hsi.out i his hi1
                obtain ⟨k, rfl⟩ : ∃ k, i = k + 1 := ⟨i - 1, by omega⟩
                unfold Hid
                simp only [Nat.add_sub_cancel] at e1 ⊢
                rw [List.take_add_one, e1, Option.toList_some, num_snoc, HX.out]
                simp only [Nat.add_sub_cancel]
                omega⟩
            case measure => simp [intOf]; omega
          · obtain rfl : i = 9 := by omega
            have hX : X = vval ((c :: tl).take 9) := by
              rw [HX.out]
              unfold vval
              rw [if_neg (by rw [List.length_take, List.length_cons]; omega)]
              rfl
            have h1 := Hr.out
            rw [Hle.out, if_neg (by omega), ← hX] at h1
            have hxl : X ≤ 18446744073709551615 := by rw [hX]; exact vval_lt _ (by simp; omega)
            have H1 := Lib.hid h1
            clear hX h1
            by_cases hq : vsz X = 9
            · have hqb : ((vsz X : Int) != 9) = false := bne_nat_eq hq
              have Hq := Lib.hid hq
              clear hq
              go_wp2_with (go_at_call 60; (with_reducible refine (refSize_any X _ (by omega)).mono ?_); rintro e w5 ⟨rfl, rfl⟩)
              go_ret3
              have h1 := H1.out
              rw [if_pos Hq.out, Nat.zero_add] at h1
              injection h1 with h2 h3
              injection h3 with h3 h4
              subst h2 h3 h4
              exact ⟨rfl, by rw [Hwm.out, Hwn.out]; exact drewN_ex (drewN_ex Hd.out _) _⟩
            · have hqb : ((vsz X : Int) != 9) = true := bne_nat_ne hq
              have Hq := Lib.hid hq
              clear hq
              go_wp2_with (go_at_call 60; (with_reducible refine (refSize_any X _ (by omega)).mono ?_); rintro e w5 ⟨rfl, rfl⟩)
              go_ret3
              have h1 := H1.out
              rw [if_neg Hq.out] at h1
              injection h1 with h2 h3
              injection h3 with h3 h4
              subst h2 h3 h4
              exact ⟨rfl, by rw [Hwm.out, Hwn.out]; exact drewN_ex (drewN_ex Hd.out _) _⟩

theorem refFew_any (s : ByteArray) (w : World) (hsz : s.size ≤ 140737488351232) :
    Calls Try.prog 86 #[.string s] w fun e w' =>
      e = .returned (.tuple #[.int .u64 (rvar s.data.toList 0 0).1, .int .i64 ((rvar s.data.toList 0 0).2.1 : Nat), .int .i64 (rvar s.data.toList 0 0).2.2]) ∧ ∃ n, w' = w.drewN n := by
  cases h : s.data.toList with
  | nil =>
    have : s = str [] := by rw [← str_self s, h]
    subst this
    refine (refFew_nil w).mono ?_
    rintro e w' ⟨rfl, rfl⟩
    refine ⟨?_, 0, rfl⟩
    have : rvar [] 0 0 = (0, 0, 10) := by decide
    rw [this]
    rfl
  | cons c tl => rw [← h]; exact refFew_cons c tl s w h hsz

end Go.Proofs.Ytjebldfmkpfafaa
