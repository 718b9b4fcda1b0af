/- Layer 3, the reader: what Var, Int, Text, Raw and Read do, each in one sentence. -/
import Derived.Test.YtjebldfmkpfafaaWireE
namespace Go.Proofs.Ytjebldfmkpfafaa
open Go.RowKit
set_option maxRecDepth 100000

theorem getD_data (s : ByteArray) (p : Nat) (hp : p < s.size) : s.data.toList.getD p 0 = s[p] := by
  have h : p < s.data.toList.length := by simpa using hp
  rw [List.getD_eq_getElem?_getD, List.getElem?_eq_getElem h]
  rfl

section
variable (b : Nat) (s : ByteArray) (p : Nat) (er : Int) (w : World) (hi : InAt w b s p er) (hp : p ≤ s.size) (hs : s.size ≤ 140737488351232)
include hi hp hs

theorem inVar_any : Calls Try.prog 96 #[.pointer (some ⟨b, 0, none⟩)] w fun e w' =>
    e = .returned (.int .u64 (rvar s.data.toList p er).1) ∧ InTo w w' b s (rvar s.data.toList p er).2 := by
  have hl : s.data.toList.length = s.size := by simp
  by_cases he : er = 0
  · subst he
    by_cases h1 : s.size ≤ p
    · refine (inVar_end b s p w hi hp hs h1).mono ?_
      rintro e w' ⟨rfl, h2⟩
      have : rvar s.data.toList p 0 = (0, p, 10) := by unfold rvar; rw [if_neg (by simp), if_pos (by omega)]
      rw [this]; exact ⟨rfl, h2⟩
    · have hg := getD_data s p (by omega)
      by_cases h2 : s.size - p < vlead s[p]
      · refine (inVar_short b s p w hi hp hs (by omega) h2).mono ?_
        rintro e w' ⟨rfl, h3⟩
        have : rvar s.data.toList p 0 = (0, p, 10) := by unfold rvar; rw [if_neg (by simp), if_neg (by omega)]; simp only [hg, hl]; rw [if_pos h2]
        rw [this]; exact ⟨rfl, h3⟩
      · refine (inVar_go b s p w hi hp hs (by omega) (by omega)).mono ?_
        rintro e w' ⟨rfl, h3⟩
        have : rvar s.data.toList p 0 = if vsz (vval ((s.data.toList.drop p).take (vlead s[p]))) = vlead s[p] then (vval ((s.data.toList.drop p).take (vlead s[p])), p + vlead s[p], 0) else (0, p, 12) := by
          unfold rvar; rw [if_neg (by simp), if_neg (by omega)]; simp only [hg, hl]; rw [if_neg h2]
        rw [this]
        split at h3 <;> rename_i hq
        · rw [if_pos hq, if_pos hq]; exact ⟨rfl, h3⟩
        · rw [if_neg hq, if_neg hq]; exact ⟨rfl, h3⟩
  · refine (inVar_dead b s p er w hi he).mono ?_
    rintro e w' ⟨rfl, rfl⟩
    have : rvar s.data.toList p er = (0, p, er) := by unfold rvar; rw [if_pos he]
    rw [this]
    exact ⟨rfl, hi.same⟩
end

theorem rvar_facts (l : List UInt8) (p : Nat) (er : Int) (hp : p ≤ l.length) : (rvar l p er).2.1 ≤ l.length ∧ (rvar l p er).1 ≤ 18446744073709551615 ∧ ((rvar l p er).2.2 ≠ 0 → (rvar l p er).1 = 0 ∧ (rvar l p er).2.1 = p) := by
  have hv : vval ((l.drop p).take (vlead (l.getD p 0))) ≤ 18446744073709551615 := vval_lt _ (by have := vlead_bd (l.getD p 0); rw [List.length_take]; omega)
  unfold rvar
  dsimp only
  generalize l.getD p 0 = c at *
  split
  · exact ⟨hp, Nat.zero_le _, fun _ => ⟨rfl, rfl⟩⟩
  · split
    · exact ⟨hp, Nat.zero_le _, fun _ => ⟨rfl, rfl⟩⟩
    · split
      · exact ⟨hp, Nat.zero_le _, fun _ => ⟨rfl, rfl⟩⟩
      · split
        · exact ⟨by dsimp only; omega, hv, fun h => absurd rfl h⟩
        · exact ⟨hp, Nat.zero_le _, fun _ => ⟨rfl, rfl⟩⟩
theorem rint_facts (l : List UInt8) (p : Nat) (er most : Int) (hp : p ≤ l.length) : (rint l p er most).2.1 ≤ l.length ∧ ((rint l p er most).2.2 ≠ 0 → (rint l p er most).1 = 0 ∧ (rint l p er most).2.1 = p) ∧
    ((rint l p er most).2.2 = 0 → 0 ≤ most ∧ ((rint l p er most).1 : Int) ≤ most) := by
  obtain ⟨h1, h2, h3⟩ := rvar_facts l p er hp
  unfold rint
  dsimp only
  split
  · exact ⟨hp, fun _ => ⟨rfl, rfl⟩, fun h => by simp at h⟩
  · exact ⟨h1, h3, fun h => by omega⟩

section
variable (b : Nat) (s : ByteArray) (p : Nat) (er : Int) (w : World) (hi : InAt w b s p er) (hp : p ≤ s.size) (hs : s.size ≤ 140737488351232)
include hi hp hs

theorem inInt_any (most : Int) (hm : most ≤ 9223372036854775807) (hm0 : -9223372036854775808 ≤ most) : Calls Try.prog 77 #[.pointer (some ⟨b, 0, none⟩), .int .i64 most] w fun e w' =>
    e = .returned (.int .i64 (rint s.data.toList p er most).1) ∧ InTo w w' b s (rint s.data.toList p er most).2 := by
  have hv := inVar_any b s p er w hi hp hs
  obtain ⟨_, hx, hz⟩ := rvar_facts s.data.toList p er (by simpa using hp)
  have hr : rint s.data.toList p er most = if (rvar s.data.toList p er).2.2 = 0 ∧ (most < 0 ∨ most < ((rvar s.data.toList p er).1 : Int)) then (0, p, 12) else rvar s.data.toList p er := rfl
  rw [hr]
  clear hr
  generalize rvar s.data.toList p er = r at *
  obtain ⟨x, q, e2⟩ := r
  dsimp only at *
  have H := Lib.hid hi
  have Hv := Lib.hid hv
  have Hz := Lib.hid hz
  clear hi hv hz
  by_cases h1 : e2 = 0
  · subst h1
    have h0 : ((0 : Int) == 0) = true := rfl
    by_cases h2 : most < 0
    · rw [if_pos ⟨rfl, .inl h2⟩]
      go_enter Try.func77, Try.ntmps77
      go_wp2_with (first | (go_at_call 82; refine (inAt_any _ _ _ _ _ H.out).mono ?_; rintro e w' ⟨rfl, rfl⟩) | (go_at_call 96; refine Hv.out.mono ?_; rintro e w1 ⟨rfl, hto⟩) | (go_at_call 78; refine (inReady_any _ _ _ _ _ hto.1).mono ?_; rintro e w' ⟨rfl, rfl⟩) | (go_at_call 79; refine (stand_any b s _ _ _ hto.1 _ _).mono ?_; rintro e w'' ⟨rfl, hto2⟩))
      go_ret
      exact ⟨rfl, hto.trans hto2⟩
    · obtain ⟨m, rfl⟩ : ∃ m : Nat, most = m := ⟨most.toNat, by omega⟩
      by_cases h3 : (m : Int) < (x : Int)
      · rw [if_pos ⟨rfl, .inr h3⟩]
        go_enter Try.func77, Try.ntmps77
        go_wp2_with (first | (go_at_call 82; refine (inAt_any _ _ _ _ _ H.out).mono ?_; rintro e w' ⟨rfl, rfl⟩) | (go_at_call 96; refine Hv.out.mono ?_; rintro e w1 ⟨rfl, hto⟩) | (go_at_call 78; refine (inReady_any _ _ _ _ _ hto.1).mono ?_; rintro e w' ⟨rfl, rfl⟩) | (go_at_call 79; refine (stand_any b s _ _ _ hto.1 _ _).mono ?_; rintro e w'' ⟨rfl, hto2⟩))
        go_ret
        exact ⟨rfl, hto.trans hto2⟩
      · rw [if_neg (by omega)]
        go_enter Try.func77, Try.ntmps77
        go_wp2_with (first | (go_at_call 82; refine (inAt_any _ _ _ _ _ H.out).mono ?_; rintro e w' ⟨rfl, rfl⟩) | (go_at_call 96; refine Hv.out.mono ?_; rintro e w1 ⟨rfl, hto⟩) | (go_at_call 78; refine (inReady_any _ _ _ _ _ hto.1).mono ?_; rintro e w' ⟨rfl, rfl⟩))
        go_ret
        exact ⟨rfl, hto⟩
  · have h0 : (e2 == 0) = false := by simpa using h1
    rw [if_neg (by omega)]
    obtain ⟨rfl, rfl⟩ := Hz.out h1
    go_enter Try.func77, Try.ntmps77
    go_wp2_with (first | (go_at_call 82; refine (inAt_any _ _ _ _ _ H.out).mono ?_; rintro e w' ⟨rfl, rfl⟩) | (go_at_call 96; refine Hv.out.mono ?_; rintro e w1 ⟨rfl, hto⟩) | (go_at_call 78; refine (inReady_any _ _ _ _ _ hto.1).mono ?_; rintro e w' ⟨rfl, rfl⟩))
    go_ret
    exact ⟨rfl, hto⟩

end

theorem read_any (s : ByteArray) (w : World) : Calls Try.prog 84 #[.string s] w fun e w' =>
    e = .returned (.pointer (some ⟨w.heap.size, 0, none⟩)) ∧ InAt w' w.heap.size s 0 0 ∧ Keeps [] w w' := by
  go_enter Try.func84, Try.ntmps84
  go_wp2
  go_ret
  exact ⟨rfl, heap_alloc_self _ _, (Keeps.refl _ _).alloc _⟩
end Go.Proofs.Ytjebldfmkpfafaa
