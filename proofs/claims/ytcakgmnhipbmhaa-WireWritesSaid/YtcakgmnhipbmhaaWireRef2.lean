/- Layer 3: what the reference's functions answer: Var, Number, Few, Text. -/
import Derived.Test.YtcakgmnhipbmhaaWireRef
import Derived.Test.YtcakgmnhipbmhaaMix
namespace Go.Proofs.Ytcakgmnhipbmhaa
open Go.RowKit

set_option maxHeartbeats 1000000 in
theorem refVar_any (x : Nat) (w : World) (hx : x < 18446744073709551616) :
    Calls Try.prog 41 #[.int .u64 x] w fun e w' => e = .returned (.string (str (vby x))) ∧ Keeps [] w w' := by
  have hb := vsz_bd x
  have Hx := Lib.hid hx
  by_cases h9 : vsz x = 9
  · have h9b : ((vsz x : Int) == 9) = true := beq_nat_eq h9
    have hv := vby_nine h9
    rw [hv]
    have hbl : (be x 8).length = 8 := be_length x 8
    clear h9 hv
    go_enter Try.func41, Try.ntmps41
    go_wp2_with (first | (go_at_call 23; (with_reducible refine (refSize_any x _ hx).mono ?_); rintro e w1 ⟨rfl, rfl⟩) | (go_at_call 40; refine (refFixed_any x 8 _ (by omega) hx).mono ?_; rintro e w2 ⟨rfl, hk2⟩))
    go_ret
    exact ⟨rfl, hk2⟩
  · have h9b : ((vsz x : Int) == 9) = false := beq_nat_ne h9
    obtain ⟨n, hn⟩ : ∃ n, vsz x = n + 1 := ⟨vsz x - 1, by omega⟩
    have hn8 : n < 8 := by omega
    have hv := vby_less hn hn8
    rw [hv]
    have hbe : be x (vsz x) = UInt8.ofNat (x / 256 ^ n) :: be x n := by rw [hn]; rfl
    have hf1 := first_lt (by omega) hn hn8
    have hf2 := first_small (by omega) hn hn8
    have hor := or_small hf1 hn8
    have hbl : (be x n).length = n := be_length x n
    generalize hy : x / 256 ^ n = y at *
    obtain ⟨t, ht⟩ : ∃ t, t = str (be x (vsz x)) := ⟨_, rfl⟩
    have hd : t.data.toList = UInt8.ofNat y :: be x n := by rw [ht, str_data, hbe]
    have hts : t.size = n + 1 := by rw [ht, str_size, hbe]; simp [hbl]
    have hp0 : 0 < t.size := by omega
    have hp1 : (1 : Int) ≤ (t.size : Int) := by omega
    have h0 : (t[0]'hp0).toNat = y := by
      have : t[0]'hp0 = t.data.toList[0]'(by rw [dlen]; exact hp0) := rfl
      rw [this]; simp only [hd, List.getElem_cons_zero, UInt8.toNat_ofNat']; omega
    have hex : t.extract 1 t.size = str (be x n) := by
      rw [str_extract, hd, hts, Nat.add_sub_cancel, List.drop_succ_cons, List.drop_zero, List.take_of_length_le (by omega)]
    have hV : y + vhd (n + 1) < 256 := by
      have := (UInt8.ofNat (y + vhd (n + 1))).toNat_lt
      rw [hor] at this
      exact this
    have hw1 : IntKind.i64.wrap (y : Int) = y := IntWalk.i64_in _ ⟨by omega, by omega⟩
    have hw2 : IntKind.i64.wrap ((vhd (vsz x) : Int) + (y : Int)) = ((y + vhd (n + 1) : Nat) : Int) := by rw [hn, IntWalk.i64_in _ ⟨by omega, by omega⟩]; omega
    generalize y + vhd (n + 1) = V at *
    have hw3 : IntKind.u8.wrap (V : Int) = V := IntWalk.u8_in _ ⟨by omega, by omega⟩
    have Ht := Lib.hid ht
    have Hn := Lib.hid hn
    have Hor := Lib.hid hor
    clear hv hbe h9 hn hy hf1 hor hd hts ht
    go_enter Try.func41, Try.ntmps41
    go_wp2_with (first | (go_at_call 23; (with_reducible refine (refSize_any x _ hx).mono ?_); rintro e w1 ⟨rfl, rfl⟩) | (go_at_call 40; (with_reducible refine (refFixed_any x (vsz x) _ (by have := Hn.out; omega) hx).mono ?_); rintro e w2 ⟨rfl, hk2⟩; rw [← Ht.out]))
    have hcv : ∀ n, Sem.run Try.prog (convert 24 9 (.slice (some ⟨w2.heap.size, 0, none⟩) 1 1)) ((w2.alloc (.cells #[.int .u8 (V : Int)] 5)).drewN n) = .ok (.string (str [UInt8.ofNat V])) ((w2.alloc (.cells #[.int .u8 (V : Int)] 5)).drewN n) :=
      fun n => lit_string (P := Try.prog) (w2.drewN n) Try.underlying24 Try.underlying5 Try.underlying9 (V : Int)
    have hsum : ¬ (9223372036854775807 < 1 + n) := by omega
    refine region_mix1 (fun w' => ∃ n, w' = w2.drewN n) (fun w' => ∃ n, w' = (w2.alloc (.cells #[.int .u8 (V : Int)] 5)).drewN n) 7 (by kernel_rfl) (by kernel_rfl) ⟨1, rfl⟩ ?_
    (refine mixC (by decide) (fun K hK => ?_); go_simp; refine hK _ ?_; clear hK K)
    refine mixC (by decide) (fun K hK => ?_)
    go_simp
    refine ⟨_, fun n1 => Calls.quiet_of_same (Calls_flip (refHead_any _ _ (by have := Hn.out; omega) (by have := Hn.out; omega))), fun n1 => Calls.quiet_of_same (Calls_flip (refHead_any _ _ (by have := Hn.out; omega) (by have := Hn.out; omega))), hK _ ?_⟩
    clear hK K
    (refine mixC (by decide) (fun K hK => ?_); go_simp; refine hK _ ?_; clear hK K)
    (refine mixC (by decide) (fun K hK => ?_); go_simp; refine hK _ ?_; clear hK K)
    (refine mixC (by decide) (fun K hK => ?_); go_simp; refine hK _ ?_; clear hK K)
    (refine mixC (by decide) (fun K hK => ?_); go_simp; refine hK _ ?_; clear hK K)
    (refine mixC (by decide) (fun K hK => ?_); go_simp; refine hK _ ?_; clear hK K)
    refine mixW rfl ?_
    go_simp
    refine ⟨_, fun n1 => ⟨⟨n1, rfl⟩, rfl⟩, ?_⟩
    (refine mixB' (by decide) (by kernel_rfl) (fun K hK => ?_); go_simp; refine hK _ ?_; clear hK K)
    (refine mixC (by decide) (fun K hK => ?_); go_simp; refine hK _ ?_; clear hK K)
    (refine mixC (by decide) (fun K hK => ?_); go_simp; refine hK _ ?_; clear hK K)
    (refine mixC (by decide) (fun K hK => ?_); go_simp; refine hK _ ?_; clear hK K)
    (refine mixC (by decide) (fun K hK => ?_); go_simp; refine hK _ ?_; clear hK K)
    simp only [wpMix]
    intro nq
    go_wp2
    go_ret
    exact ⟨rfl, (hk2.alloc _).drewN _⟩

theorem refNumber_any (s : ByteArray) (n : Int) (w : World) (hs : s.size ≤ 140737488351232) :
    Calls Try.prog 43 #[.string s, .int .i64 n] w fun e w' =>
      e = .returned (.tuple #[.int .u64 (rfixed s.data.toList 0 0 n).1, .int .i64 ((rfixed s.data.toList 0 0 n).2.1 : Nat), .int .i64 (rfixed s.data.toList 0 0 n).2.2]) ∧ w = w' := by
  by_cases hb : n < 1 ∨ 8 < n
  · have hr : rfixed s.data.toList 0 0 n = (0, 0, 1) := by unfold rfixed; rw [if_pos ⟨rfl, hb⟩]
    rw [hr]
    clear hr
    rcases hb with hb | hb
    all_goals
      go_enter Try.func43, Try.ntmps43
      go_wp2
      go_ret3
      exact ⟨rfl, rfl⟩
  · obtain ⟨m, rfl⟩ : ∃ m : Nat, n = m := ⟨n.toNat, by omega⟩
    have h1 : 1 ≤ (m : Int) := by omega
    have h8 : (m : Int) ≤ 8 := by omega
    by_cases hl : s.size < m
    · have hr : rfixed s.data.toList 0 0 m = (0, 0, 10) := by
        unfold rfixed rtake; rw [if_neg (by omega), if_neg (by simp), if_pos (by rw [dlen, Int.toNat_natCast]; omega)]; rfl
      rw [hr]
      clear hr hb
      go_enter Try.func43, Try.ntmps43
      go_wp2
      go_ret3
      exact ⟨rfl, rfl⟩
    · have hr : rfixed s.data.toList 0 0 m = (num (s.data.toList.take m), m, 0) := by
        unfold rfixed rtake; rw [if_neg (by omega), if_neg (by simp), if_neg (by rw [dlen, Int.toNat_natCast]; omega)]; simp
      rw [hr]
      clear hr hb
      go_enter Try.func43, Try.ntmps43
      go_wp2
      go_loop [7, 8] (fun xv iv => ∃ k X : Nat, k ≤ m ∧ iv = .int .i64 k ∧ xv = .int .u64 X ∧ Hid (X = num (s.data.toList.take k))) (fun _ iv => m - (intOf iv).toNat)
      case atStart => exact ⟨0, 0, Nat.zero_le _, rfl, rfl, rfl⟩
      case round =>
        obtain ⟨k, X, hk, rfl, rfl, HX⟩ := hrel
        by_cases hlt : k < m
        · have hks : k < s.size := by omega
          have hXb : X < 72057594037927936 := by
            rw [HX.out]
            have h1 := num_lt (s.data.toList.take k)
            have h2 : 256 ^ (s.data.toList.take k).length ≤ 256 ^ 7 := Nat.pow_le_pow_right (by omega) (by have := List.length_take_le k s.data.toList; omega)
            omega
          go_wp2
          go_round
          case rel => exact ⟨k + 1, 256 * X + s[k].toNat, by omega, by go_num, by have := s[k].toNat_lt; simp only [wrap_byte]; rw [IntWalk.u64_in _ ⟨by omega, by omega⟩]; go_num, by
            unfold Hid; rw [List.take_succ_eq_append_getElem (by rw [dlen]; exact hks), num_snoc, HX.out, Nat.mul_comm]; rfl⟩
          case measure => simp [intOf]; omega
        · go_wp2
          go_ret3
          have : k = m := by omega
          subst this
          exact ⟨by rw [← HX.out]; rfl, rfl⟩
end Go.Proofs.Ytcakgmnhipbmhaa
