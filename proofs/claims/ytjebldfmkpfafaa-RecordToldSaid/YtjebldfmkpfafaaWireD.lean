/- Layer 3, the reader: what Fixed, Var, Int, Text, Raw, Done do. -/
import Derived.Test.YtjebldfmkpfafaaWireB
import Derived.Test.YtjebldfmkpfafaaWireC
namespace Go.Proofs.Ytjebldfmkpfafaa
open Go.RowKit
set_option maxRecDepth 100000

section
variable (b : Nat) (s : ByteArray) (p : Nat) (er : Int) (w : World) (hi : InAt w b s p er) (hp : p ≤ s.size) (hs : s.size ≤ 140737488351232)
include hi hp hs

theorem inFixed_any (n : Int) : Calls Try.prog 53 #[.pointer (some ⟨b, 0, none⟩), .int .i64 n] w fun e w' =>
    e = .returned (.int .u64 (rfixed s.data.toList p er n).1) ∧ InTo w w' b s (rfixed s.data.toList p er n).2 := by
  by_cases hbad : er = 0 ∧ (n < 1 ∨ 8 < n)
  · have hr : rfixed s.data.toList p er n = (0, p, 1) := by simp only [rfixed, if_pos hbad]
    obtain ⟨rfl, hn⟩ := hbad
    rw [hr]
    have h1 : ((0 : Int) == 0) = true := rfl
    have hc0 := cell_of_heap hi 0
    have H := Lib.hid hi
    clear hi hr
    rcases hn with hn | hn
    · go_enter Try.func53, Try.ntmps53
      go_wp2_with (first | (go_at_call 78; refine (inReady_any _ _ _ _ _ H.out).mono ?_; rintro e w' ⟨rfl, rfl⟩))
      refine region_tail 8 (by kernel_rfl) (by kernel_rfl) ?_
      simp only [List.take_succ_cons, List.take_zero, List.drop_succ_cons, List.drop_zero]
      repeat still_step
      refine wpStill_nil ?_
      go_wp2_with (first | (go_at_call 79; refine (stand_any b s p 0 _ (H.out.drewN _).1 _ _).mono ?_; rintro e w' ⟨rfl, hto⟩) | (go_at_call 81; refine (take_dead b s p 1 _ hto.1 n (by decide)).mono ?_; rintro e w' ⟨rfl, rfl⟩) | (go_at_call 80; refine (number_any _ _ (by decide)).mono ?_; rintro e w' ⟨rfl, rfl⟩))
      go_ret
      exact ⟨rfl, (H.out.drewN _).trans hto⟩
    · go_enter Try.func53, Try.ntmps53
      go_wp2_with (first | (go_at_call 78; refine (inReady_any _ _ _ _ _ H.out).mono ?_; rintro e w' ⟨rfl, rfl⟩))
      refine region_tail 8 (by kernel_rfl) (by kernel_rfl) ?_
      simp only [List.take_succ_cons, List.take_zero, List.drop_succ_cons, List.drop_zero]
      repeat still_step
      refine wpStill_nil ?_
      go_wp2_with (first | (go_at_call 79; refine (stand_any b s p 0 _ (H.out.drewN _).1 _ _).mono ?_; rintro e w' ⟨rfl, hto⟩) | (go_at_call 81; refine (take_dead b s p 1 _ hto.1 n (by decide)).mono ?_; rintro e w' ⟨rfl, rfl⟩) | (go_at_call 80; refine (number_any _ _ (by decide)).mono ?_; rintro e w' ⟨rfl, rfl⟩))
      go_ret
      exact ⟨rfl, (H.out.drewN _).trans hto⟩
  · have hr : rfixed s.data.toList p er n = (num (rtake s.data.toList p er n.toNat).1, (rtake s.data.toList p er n.toNat).2) := by simp only [rfixed, if_neg hbad]
    rw [hr]
    have H := Lib.hid hi
    clear hi hr
    by_cases he : er = 0
    · have hn : 1 ≤ n ∧ n ≤ 8 := by omega
      obtain ⟨hn1, hn2⟩ := hn
      have hlen := rtake_len s.data.toList p er n.toNat
      have h1 : (er == 0) = true := by simpa using he
      have He := Lib.hid he
      clear he hbad
      go_enter Try.func53, Try.ntmps53
      go_wp2_with (first | (go_at_call 78; refine (inReady_any _ _ _ _ _ H.out).mono ?_; rintro e w' ⟨rfl, rfl⟩) | (go_at_call 81; refine (take_any b s p er _ H.out hp hs n (by omega)).mono ?_; rintro e w' ⟨rfl, hto⟩) | (go_at_call 80; refine (number_any _ _ (by rw [str_size]; omega)).mono ?_; rintro e w' ⟨rfl, rfl⟩))
      go_ret
      exact ⟨rfl, hto⟩
    · have h1 : (er == 0) = false := by simpa using he
      have hlen : (rtake s.data.toList p er n.toNat).1.length ≤ 8 := by simp [rtake, he]
      go_enter Try.func53, Try.ntmps53
      go_wp2_with (first | (go_at_call 78; refine (inReady_any _ _ _ _ _ H.out).mono ?_; rintro e w' ⟨rfl, rfl⟩) | (go_at_call 81; refine (take_any b s p er _ H.out hp hs n (by omega)).mono ?_; rintro e w' ⟨rfl, hto⟩) | (go_at_call 80; refine (number_any _ _ (by rw [str_size]; omega)).mono ?_; rintro e w' ⟨rfl, rfl⟩))
      go_ret
      exact ⟨rfl, hto⟩
end
end Go.Proofs.Ytjebldfmkpfafaa
