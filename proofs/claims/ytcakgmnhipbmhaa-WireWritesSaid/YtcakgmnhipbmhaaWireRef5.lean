/- Layer 3: what the laws' text answers. -/
import Derived.Test.YtcakgmnhipbmhaaWireRef4
import Derived.Deep.RegionHeld3
namespace Go.Proofs.Ytcakgmnhipbmhaa
open Go.RowKit

set_option maxHeartbeats 1000000 in
theorem text_any (o : OpR) (w : World) (hg : o.good) (hs : o.s.size ≤ 300) : Calls Try.prog 22 #[o.agg] w fun e w' => e = .returned (.string (str (wby o))) ∧ Keeps [] w w' := by
  obtain ⟨kind, x, s, n⟩ := o
  have hx := hg.x0
  unfold wby
  dsimp only at *
  by_cases k0 : kind = 0
  · subst k0
    have e0 : ((0 : Int) == 0) = true := rfl
    rw [if_pos rfl]
    by_cases hb : n < 1 ∨ 8 < n
    · rw [if_pos hb]
      rcases hb with hb | hb
      all_goals
        go_enter Try.func22, Try.ntmps22
        go_wp2
        go_ret
        exact ⟨rfl, (Keeps.refl [] w).alloc _⟩
    · rw [if_neg hb]
      obtain ⟨m, rfl⟩ : ∃ m : Nat, n = m := ⟨n.toNat, by omega⟩
      have h1 : 1 ≤ (m : Int) := by omega
      have h8 : (m : Int) ≤ 8 := by omega
      clear hb
      go_enter Try.func22, Try.ntmps22
      go_wp2_with (go_at_call 40; (with_reducible refine (refFixed_any x m _ (by omega) hx).mono ?_); rintro e w1 ⟨rfl, hk1⟩)
      go_ret
      exact ⟨rfl, ((Keeps.refl [] w).alloc _).trans hk1 (by simp)⟩
  · have e0 : (kind == 0) = false := by simpa using k0
    rw [if_neg k0]
    by_cases k1 : kind = 1 ∨ kind = 4
    · rw [if_pos k1]
      rcases k1 with rfl | rfl
      all_goals
        go_enter Try.func22, Try.ntmps22
        go_wp2_with (go_at_call 41; (with_reducible refine (refVar_any x _ hx).mono ?_); rintro e w1 ⟨rfl, hk1⟩)
        go_ret
        exact ⟨rfl, ((Keeps.refl [] w).alloc _).trans hk1 (by simp)⟩
    · have e1 : (kind == 1) = false := by simp; omega
      have e4 : (kind == 4) = false := by simp; omega
      rw [if_neg k1]
      by_cases k2 : kind = 2
      · subst k2
        rw [if_pos rfl]
        have hss : s.size < 18446744073709551616 := by omega
        have hv9 := (vsz_bd s.size).2
        have hvc : ∀ w', Calls Try.prog 41 #[.int .u64 s.size] w' fun e w'' => e = .returned (.string (str (vby s.size))) ∧ Keeps [] w' w'' := fun w' => refVar_any s.size w' hss
        have hv1 : (((str (vby s.size)).size : Nat) : Int) ≤ 8388608 := by rw [str_size, vby_length]; omega
        have hv2 : (s.size : Int) ≤ 8388608 := by omega
        have hsum : ¬ (9223372036854775807 < (str (vby s.size)).size + s.size) := by omega
        have hw : IntKind.u64.wrap (s.size : Int) = s.size := IntWalk.u64_in _ ⟨by omega, by omega⟩
        have hfin : str (vby s.size ++ s.data.toList) = str (vby s.size) ++ s := by rw [← str_append, str_self]
        rw [hfin]
        generalize str (vby s.size) = T at *
        have Hvc := Lib.hid hvc
        clear hv9 hvc hfin hss
        have hca : ∀ w', Keeps [] (w.alloc (.cells #[.int .i64 2, .int .u64 x, .string s, .int .i64 n] 46)) w' → w'.cell? ⟨w.heap.size, 2, none⟩ = some (.string s) := fun w' h => cell_of_heap (h.some (heap_alloc_self w _) (by simp)) 2
        have Hz1 := Lib.hid (hca _ (Keeps.refl _ _))
        have Hca := Lib.hid hca
        clear hca
        go_enter Try.func22, Try.ntmps22
        go_wp2_with fail
        go_region_held3 (fun w' => w'.cell? ⟨w.heap.size, 2, none⟩ = some (.string s)) (first | exact Hz1.out | exact d2) (first | (go_at_call 41; (with_reducible refine (Hvc.out _).mono ?_); rintro e w4 ⟨rfl, hk4⟩; have d2 := Hca.out w4 hk4.ofDrew))
        go_wp2
        go_ret
        exact ⟨rfl, ((Keeps.refl [] w).alloc _).trans hk4.ofDrew (by simp)⟩
      · have e2 : (kind == 2) = false := by simpa using k2
        rw [if_neg k2]
        have hss : str s.data.toList = s := str_self s
        rw [hss]
        clear hss
        go_enter Try.func22, Try.ntmps22
        go_wp2
        go_ret
        exact ⟨rfl, (Keeps.refl [] w).alloc _⟩

end Go.Proofs.Ytcakgmnhipbmhaa
