/- Layer 3, the reader: what Text does; nil writers and readers. -/
import Derived.Test.YtjebldfmkpfafaaRecP
namespace Go.Proofs.Ytjebldfmkpfafaa
open Go.RowKit
set_option maxRecDepth 100000

theorem rvar_ge (l : List UInt8) (p : Nat) (er : Int) : p ≤ (rvar l p er).2.1 := by
  unfold rvar
  dsimp only
  generalize l.getD p 0 = c at *
  split
  · exact Nat.le_refl _
  · split
    · exact Nat.le_refl _
    · split
      · exact Nat.le_refl _
      · split
        · exact Nat.le_add_right _ _
        · exact Nat.le_refl _
theorem rint_ge (l : List UInt8) (p : Nat) (er most : Int) : p ≤ (rint l p er most).2.1 := by
  unfold rint
  dsimp only
  split
  · exact Nat.le_refl _
  · exact rvar_ge l p er
theorem rtake_facts (l : List UInt8) (p : Nat) (er : Int) (n : Nat) : p ≤ (rtake l p er n).2.1 ∧ ((rtake l p er n).2.2 ≠ 0 → (rtake l p er n).1 = []) := by
  unfold rtake
  split
  · exact ⟨Nat.le_refl _, fun _ => rfl⟩
  · split
    · exact ⟨Nat.le_refl _, fun _ => rfl⟩
    · exact ⟨Nat.le_add_right _ _, fun h => absurd rfl h⟩

section
variable (b : Nat) (s : ByteArray) (p : Nat) (er : Int) (w : World) (hi : InAt w b s p er) (hp : p ≤ s.size) (hs : s.size ≤ 140737488351232)
include hi hp hs

theorem inText_any (most : Int) (hm : most ≤ 9223372036854775807) (hm0 : -9223372036854775808 ≤ most) : Calls Try.prog 59 #[.pointer (some ⟨b, 0, none⟩), .int .i64 most] w fun e w' =>
    e = .returned (.string (str (rtext s.data.toList p er most).1)) ∧ InTo w w' b s (rtext s.data.toList p er most).2 := by
  have hint := inInt_any b s p er w hi hp hs most hm hm0
  obtain ⟨h1, h2, h3⟩ := rint_facts s.data.toList p er most (by simpa using hp)
  have h4 := rint_ge s.data.toList p er most
  have hr : rtext s.data.toList p er most = if (rtake s.data.toList (rint s.data.toList p er most).2.1 (rint s.data.toList p er most).2.2 (rint s.data.toList p er most).1).2.2 ≠ 0 then ([], p, (rtake s.data.toList (rint s.data.toList p er most).2.1 (rint s.data.toList p er most).2.2 (rint s.data.toList p er most).1).2.2)
    else rtake s.data.toList (rint s.data.toList p er most).2.1 (rint s.data.toList p er most).2.2 (rint s.data.toList p er most).1 := rfl
  rw [hr]
  clear hr
  generalize rint s.data.toList p er most = r at *
  obtain ⟨x, q, e1⟩ := r
  dsimp only at *
  have hq : q ≤ s.size := by simpa using h1
  obtain ⟨h5, h6⟩ := rtake_facts s.data.toList q e1 x
  have h7 := rtake_pos s.data.toList q e1 x (by simpa using h1)
  have htk := fun w1 h => take_any b s q e1 w1 h hq hs (x : Int) (fun _ => by omega)
  simp only [Int.toNat_natCast] at htk
  have hdead : e1 ≠ 0 → (rtake s.data.toList q e1 x).2.1 = q := by intro h; simp [rtake, h]
  generalize rtake s.data.toList q e1 x = t at *
  obtain ⟨tl, q2, e2⟩ := t
  dsimp only at *
  have hq2 : q2 ≤ s.size := by simpa using h7
  have H := Lib.hid hi
  have Hint := Lib.hid hint
  have Htk := Lib.hid htk
  have H2 := Lib.hid h2
  have H3 := Lib.hid h3
  have H6 := Lib.hid h6
  have Hdead := Lib.hid hdead
  clear hi hint htk h2 h3 h6 hdead
  by_cases he : e2 = 0
  · subst he
    have hne : ((0 : Int) != 0) = false := rfl
    rw [if_neg (by simp)]
    go_enter Try.func59, Try.ntmps59
    go_wp2_with (first | (go_at_call 82; refine (inAt_any _ _ _ _ _ H.out).mono ?_; rintro e w' ⟨rfl, rfl⟩) | (go_at_call 77; refine Hint.out.mono ?_; rintro e w1 ⟨rfl, hto⟩) | (go_at_call 81; refine (Htk.out _ hto.1).mono ?_; rintro e w2 ⟨rfl, hto2⟩; have hc1 := cell_of_heap hto2.1 1))
    go_ret
    exact ⟨rfl, hto.trans hto2⟩
  · have hne : (e2 != 0) = true := by simpa using he
    have htl := H6.out he
    subst htl
    rw [if_pos he]
    by_cases hpq : p < q2
    · go_enter Try.func59, Try.ntmps59
      go_wp2_with (first | (go_at_call 82; refine (inAt_any _ _ _ _ _ H.out).mono ?_; rintro e w' ⟨rfl, rfl⟩) | (go_at_call 77; refine Hint.out.mono ?_; rintro e w1 ⟨rfl, hto⟩) | (go_at_call 81; refine (Htk.out _ hto.1).mono ?_; rintro e w2 ⟨rfl, hto2⟩; have hc1 := cell_of_heap hto2.1 1; have hc0 := cell_of_heap hto2.1 0))
      refine region_tail 9 (by kernel_rfl) (by kernel_rfl) ?_
      simp only [List.take_succ_cons, List.take_zero, List.drop_succ_cons, List.drop_zero]
      repeat still_step
      refine wpStill_nil ?_
      go_wp2_with (first | (go_at_call 79; refine (stand_any b s _ _ _ (hto2.1.drewN _).1 _ _).mono ?_; rintro e w' ⟨rfl, hto3⟩))
      go_ret
      exact ⟨rfl, (hto.trans hto2).trans ((hto2.1.drewN _).trans hto3)⟩
    · have : q2 = p := by omega
      subst this
      go_enter Try.func59, Try.ntmps59
      go_wp2_with (first | (go_at_call 82; refine (inAt_any _ _ _ _ _ H.out).mono ?_; rintro e w' ⟨rfl, rfl⟩) | (go_at_call 77; refine Hint.out.mono ?_; rintro e w1 ⟨rfl, hto⟩) | (go_at_call 81; refine (Htk.out _ hto.1).mono ?_; rintro e w2 ⟨rfl, hto2⟩; have hc1 := cell_of_heap hto2.1 1; have hc0 := cell_of_heap hto2.1 0))
      go_ret
      exact ⟨rfl, hto.trans hto2⟩
end

section
variable (w : World)
theorem nil_ready : Calls Try.prog 78 #[.pointer none] w fun e w' => e = .returned (.bool false) ∧ w = w' := by
  go_enter Try.func78, Try.ntmps78
  go_wp2
  go_ret
  exact ⟨rfl, rfl⟩
theorem nil_take (n : Int) : Calls Try.prog 81 #[.pointer none, .int .i64 n] w fun e w' => e = .returned (.string ⟨#[]⟩) ∧ w = w' := by
  go_enter Try.func81, Try.ntmps81
  go_wp2_with (first | (go_at_call 78; refine (nil_ready _).mono ?_; rintro e w' ⟨rfl, rfl⟩))
  go_ret
  exact ⟨rfl, rfl⟩
theorem nil_inVar : Calls Try.prog 96 #[.pointer none] w fun e w' => e = .returned (.int .u64 0) ∧ w = w' := by
  go_enter Try.func96, Try.ntmps96
  go_wp2_with (first | (go_at_call 78; refine (nil_ready _).mono ?_; rintro e w' ⟨rfl, rfl⟩))
  go_ret
  exact ⟨rfl, rfl⟩
theorem nil_inFixed (n : Int) : Calls Try.prog 53 #[.pointer none, .int .i64 n] w fun e w' => e = .returned (.int .u64 0) ∧ w = w' := by
  go_enter Try.func53, Try.ntmps53
  go_wp2_with (first | (go_at_call 78; refine (nil_ready _).mono ?_; rintro e w' ⟨rfl, rfl⟩) | (go_at_call 81; refine (nil_take _ _).mono ?_; rintro e w' ⟨rfl, rfl⟩) | (go_at_call 80; refine (number_any _ _ (by decide)).mono ?_; rintro e w' ⟨rfl, rfl⟩))
  go_ret
  exact ⟨rfl, rfl⟩
theorem nil_inAt : Calls Try.prog 82 #[.pointer none] w fun e w' => e = .returned (.int .i64 0) ∧ w = w' := by
  go_enter Try.func82, Try.ntmps82
  go_wp2
  go_ret
  exact ⟨rfl, rfl⟩
theorem nil_inLeft : Calls Try.prog 100 #[.pointer none] w fun e w' => e = .returned (.int .i64 0) ∧ w = w' := by
  go_enter Try.func100, Try.ntmps100
  go_wp2
  go_ret
  exact ⟨rfl, rfl⟩
theorem nil_inErr : Calls Try.prog 85 #[.pointer none] w fun e w' => e = .returned (.int .i64 2) ∧ w = w' := by
  go_enter Try.func85, Try.ntmps85
  go_wp2
  go_ret
  exact ⟨rfl, rfl⟩
theorem nil_inInt (n : Int) : Calls Try.prog 77 #[.pointer none, .int .i64 n] w fun e w' => e = .returned (.int .i64 0) ∧ w = w' := by
  go_enter Try.func77, Try.ntmps77
  go_wp2_with (first | (go_at_call 78; refine (nil_ready _).mono ?_; rintro e w' ⟨rfl, rfl⟩) | (go_at_call 82; refine (nil_inAt _).mono ?_; rintro e w' ⟨rfl, rfl⟩) | (go_at_call 96; refine (nil_inVar _).mono ?_; rintro e w' ⟨rfl, rfl⟩))
  go_ret
  exact ⟨rfl, rfl⟩
theorem nil_inText (n : Int) : Calls Try.prog 59 #[.pointer none, .int .i64 n] w fun e w' => e = .returned (.string ⟨#[]⟩) ∧ w = w' := by
  go_enter Try.func59, Try.ntmps59
  go_wp2_with (first | (go_at_call 82; refine (nil_inAt _).mono ?_; rintro e w' ⟨rfl, rfl⟩) | (go_at_call 77; refine (nil_inInt _ _).mono ?_; rintro e w' ⟨rfl, rfl⟩) | (go_at_call 81; refine (nil_take _ _).mono ?_; rintro e w' ⟨rfl, rfl⟩))
  go_ret
  exact ⟨rfl, rfl⟩
theorem nil_outString : Calls Try.prog 42 #[.pointer none] w fun e w' => e = .returned (.string ⟨#[]⟩) ∧ w = w' := by
  go_enter Try.func42, Try.ntmps42
  go_wp2
  go_ret
  exact ⟨rfl, rfl⟩
theorem nil_outFixed (x : Int) (n : Int) : Calls Try.prog 44 #[.pointer none, .int .u64 x, .int .i64 n] w fun e w' => e = .returned (.int .i64 2) ∧ w = w' := by
  go_enter Try.func44, Try.ntmps44
  go_wp2
  go_ret
  exact ⟨rfl, rfl⟩
theorem nil_outVar (v : Value) : Calls Try.prog 41 #[.pointer none, v] w fun e w' => e = .returned (.tuple #[]) ∧ w = w' := by
  go_enter Try.func41, Try.ntmps41
  go_wp2
  go_returns
  exact ⟨rfl, rfl⟩
theorem nil_outRaw (v : Value) : Calls Try.prog 43 #[.pointer none, v] w fun e w' => e = .returned (.tuple #[]) ∧ w = w' := by
  go_enter Try.func43, Try.ntmps43
  go_wp2
  go_returns
  exact ⟨rfl, rfl⟩
end
end Go.Proofs.Ytjebldfmkpfafaa
