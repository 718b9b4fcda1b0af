/- Layer 11: Check. -/
import Derived.Test.YtcbpkplmaglpcaaSupB
namespace Go.Proofs.Ytcbpkplmaglpcaa
open Go.RowKit

set_option maxHeartbeats 4000000 in
theorem check_in (s : Sup) (hg : s.good) (hr : s.inRange) (w : World) : Calls Try.prog 18 #[s.agg] w fun e w' => e = .returned (.int .i64 s.check) ∧ Keeps [] w w' := by
  rw [Sup.check_in hr]
  obtain ⟨key, epoch, serial, size, tail, number⟩ := s
  obtain ⟨k0, e0, e1, s0, s1, z0, z1, t0, t1, n0, n1⟩ := hg
  obtain ⟨⟨p1, p2⟩, p3, p4⟩ := hr
  unfold Sup.agg
  simp only at *
  have d3 := decide_eq_true p3
  have d4 := decide_eq_true p4
  have hs1 := fun w => serial_any serial w
  have hs2 := fun w => serial_any number w
  rw [d3] at hs1
  rw [d4] at hs2
  have Hs1 := Lib.hid hs1
  have Hs2 := Lib.hid hs2
  have Hrc := Lib.hid (fun w => ringCheck_any size tail w z0 z1 t0 t1)
  clear hs1 hs2 d3 d4
  generalize hR : (if 1 ≤ size ∧ size ≤ 65536 ∧ 0 ≤ tail ∧ tail < 1099511627776 then (0 : Int) else 1) = R at *
  have HR := Lib.hid hR
  clear hR
  by_cases hz : size = 0 ∧ key = 0 ∧ epoch = 0 ∧ serial = 0 ∧ tail = 0 ∧ number = 0
  · obtain ⟨rfl, rfl, rfl, rfl, rfl, rfl⟩ := hz
    have hR1 : R = 1 := by rw [← HR.out, if_neg (by omega)]
    subst hR1
    go_enter Try.func18, Try.ntmps18
    go_wp2
    go_ret
    exact ⟨rfl, (Keeps.refl [] w).alloc _⟩
  rcases (show ¬ size = 0 ∨ ¬ key = 0 ∨ ¬ epoch = 0 ∨ ¬ serial = 0 ∨ ¬ tail = 0 ∨ ¬ number = 0 by omega) with hz' | hz' | hz' | hz' | hz' | hz'
  all_goals
    go_enter Try.func18, Try.ntmps18
    go_wp2_with (first
      | (go_at_call 31; (with_reducible refine (Hs1.out _).mono ?_); rintro e w1 ⟨rfl, rfl⟩)
      | (go_at_call 31; (with_reducible refine (Hs2.out _).mono ?_); rintro e w1 ⟨rfl, rfl⟩)
      | (go_at_call 32; (with_reducible refine (Hrc.out _).mono ?_); rintro e w2 ⟨rfl, hk2⟩))
    go_ret
    exact ⟨rfl, ((Keeps.refl [] w).alloc _).trans hk2 (by simp)⟩
end Go.Proofs.Ytcbpkplmaglpcaa
