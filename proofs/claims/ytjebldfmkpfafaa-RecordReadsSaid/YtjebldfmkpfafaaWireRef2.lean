/- Layer 3: what the reference's functions answer: Var, Number, Few, Text. -/
import Derived.Test.YtjebldfmkpfafaaWireRef
import Derived.Test.YtjebldfmkpfafaaMix
namespace Go.Proofs.Ytjebldfmkpfafaa
open Go.RowKit
set_option maxRecDepth 100000

set_option maxHeartbeats 1000000 in
theorem refVar_any (x : Nat) (w : World) (hx : x < 18446744073709551616) :
    Calls Try.prog 30 #[.int .u64 x] w fun e w' => e = .returned (.string (str (vby x))) ∧ Keeps [] w w' := by
  have hb := vsz_bd x
  have Hx := Lib.hid hx
  by_cases h9 : vsz x = 9
  · have h9b : ((vsz x : Int) == 9) = true := beq_nat_eq h9
    have hv := vby_nine h9
    rw [hv]
    have hbl : (be x 8).length = 8 := be_length x 8
    clear h9 hv
    go_enter Try.func30, Try.ntmps30
    go_wp2_with (first | (go_at_call 60; (with_reducible refine (refSize_any x _ hx).mono ?_); rintro e w1 ⟨rfl, rfl⟩) | (go_at_call 31; refine (refFixed_any x 8 _ (by omega) hx).mono ?_; rintro e w2 ⟨rfl, hk2⟩))
    go_ret
    exact ⟨rfl, hk2⟩
  · have h9b : ((vsz x : Int) == 9) = false := beq_nat_ne h9
    obtain ⟨n, hn⟩ : ∃ n, vsz x = n + 1 := ⟨vsz x - 1, by omega⟩
    have hn8 : n < 8 := by omega
    have hv := vby_less hn hn8
    rw [hv]
    have hbe : be x (vsz x) = UInt8.ofNat (x / 256 ^ n) :: be x n := by rw [hn]; rfl
    have hf1 := first_lt (by omega) hn hn8
    have hf2 := first_small (by omega) hn hn8
    have hor := or_small hf1 hn8
    have hbl : (be x n).length = n := be_length x n
    generalize hy : x / 256 ^ n = y at *
    obtain ⟨t, ht⟩ : ∃ t, t = str (be x (vsz x)) := ⟨_, rfl⟩
    have hd : t.data.toList = UInt8.ofNat y :: be x n := by rw [ht, str_data, hbe]
    have hts : t.size = n + 1 := by rw [ht, str_size, hbe]; simp [hbl]
    have hp0 : 0 < t.size := by omega
    have hp1 : (1 : Int) ≤ (t.size : Int) := by omega
    have h0 : (t[0]'hp0).toNat = y := by
      have : t[0]'hp0 = t.data.toList[0]'(by rw [dlen]; exact hp0) := rfl
      rw [this]; simp only [hd, List.getElem_cons_zero, UInt8.toNat_ofNat']; omega
    have hex : t.extract 1 t.size = str (be x n) := by
      rw [str_extract, hd, hts, Nat.add_sub_cancel, List.drop_succ_cons, List.drop_zero, List.take_of_length_le (by omega)]
    have hV : y + vhd (n + 1) < 256 := by
      have := (UInt8.ofNat (y + vhd (n + 1))).toNat_lt
      rw [hor] at this
      exact this
    have hw1 : IntKind.i64.wrap (y : Int) = y := IntWalk.i64_in _ ⟨by omega, by omega⟩
    have hw2 : IntKind.i64.wrap ((vhd (vsz x) : Int) + (y : Int)) = ((y + vhd (n + 1) : Nat) : Int) := by rw [hn, IntWalk.i64_in _ ⟨by omega, by omega⟩]; omega
    generalize y + vhd (n + 1) = V at *
    have hw3 : IntKind.u8.wrap (V : Int) = V := IntWalk.u8_in _ ⟨by omega, by omega⟩
    have Ht := Lib.hid ht
    have Hn := Lib.hid hn
    have Hor := Lib.hid hor
    clear hv hbe h9 hn hy hf1 hor hd hts ht
    go_enter Try.func30, Try.ntmps30
    go_wp2_with (first | (go_at_call 60; (with_reducible refine (refSize_any x _ hx).mono ?_); rintro e w1 ⟨rfl, rfl⟩) | (go_at_call 31; (with_reducible refine (refFixed_any x (vsz x) _ (by have := Hn.out; omega) hx).mono ?_); rintro e w2 ⟨rfl, hk2⟩; rw [← Ht.out]))
    have hcv : ∀ n, Sem.run Try.prog (convert 41 9 (.slice (some ⟨w2.heap.size, 0, none⟩) 1 1)) ((w2.alloc (.cells #[.int .u8 (V : Int)] 5)).drewN n) = .ok (.string (str [UInt8.ofNat V])) ((w2.alloc (.cells #[.int .u8 (V : Int)] 5)).drewN n) :=
      fun n => lit_string (P := Try.prog) (w2.drewN n) Try.underlying41 Try.underlying5 Try.underlying9 (V : Int)
    have hsum : ¬ (9223372036854775807 < 1 + n) := by omega
    refine region_mix1 (fun w' => ∃ n, w' = w2.drewN n) (fun w' => ∃ n, w' = (w2.alloc (.cells #[.int .u8 (V : Int)] 5)).drewN n) 7 (by kernel_rfl) (by kernel_rfl) ⟨1, rfl⟩ ?_
    (refine mixC (by decide) (fun K hK => ?_); go_simp; refine hK _ ?_; clear hK K)
    refine mixC (by decide) (fun K hK => ?_)
    go_simp
    refine ⟨_, fun n1 => Calls.quiet_of_same (Calls_flip (refHead_any _ _ (by have := Hn.out; omega) (by have := Hn.out; omega))), fun n1 => Calls.quiet_of_same (Calls_flip (refHead_any _ _ (by have := Hn.out; omega) (by have := Hn.out; omega))), hK _ ?_⟩
    clear hK K
    (refine mixC (by decide) (fun K hK => ?_); go_simp; refine hK _ ?_; clear hK K)
    (refine mixC (by decide) (fun K hK => ?_); go_simp; refine hK _ ?_; clear hK K)
    (refine mixC (by decide) (fun K hK => ?_); go_simp; refine hK _ ?_; clear hK K)
    (refine mixC (by decide) (fun K hK => ?_); go_simp; refine hK _ ?_; clear hK K)
    (refine mixC (by decide) (fun K hK => ?_); go_simp; refine hK _ ?_; clear hK K)
    refine mixW rfl ?_
    go_simp
    refine ⟨_, fun n1 => ⟨⟨n1, rfl⟩, rfl⟩, ?_⟩
    (refine mixB' (by decide) (by kernel_rfl) (fun K hK => ?_); go_simp; refine hK _ ?_; clear hK K)
    (refine mixC (by decide) (fun K hK => ?_); go_simp; refine hK _ ?_; clear hK K)
    (refine mixC (by decide) (fun K hK => ?_); go_simp; refine hK _ ?_; clear hK K)
    (refine mixC (by decide) (fun K hK => ?_); go_simp; refine hK _ ?_; clear hK K)
    (refine mixC (by decide) (fun K hK => ?_); go_simp; refine hK _ ?_; clear hK K)
    simp only [wpMix]
    intro nq
    go_wp2
    go_ret
    exact ⟨rfl, (hk2.alloc _).drewN _⟩

end Go.Proofs.Ytjebldfmkpfafaa
