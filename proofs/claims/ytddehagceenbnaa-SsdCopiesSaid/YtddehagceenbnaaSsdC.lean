/- Layer 4, the device: inside, Stop, Lose. -/
import Derived.Test.YtddehagceenbnaaSsdB
namespace Go.Proofs.Ytddehagceenbnaa
open Go.RowKit

/-- What is wrong with n sectors from a place on, of so many. -/
def insideE (len : Nat) (a n : Int) : Int := if a < 0 ∨ n < 0 then 1 else if (len : Int) < a ∨ (len : Int) - a < n then 31 else 0

theorem inside_any (b : Nat) (d : Dev) (F : List Nat) (w : World) (hd : DevAt w b d F) (hl : d.now.length ≤ 65536) (a n : Int) (ha : a ≤ 9223372036854775807) :
    Calls Try.prog 28 #[.pointer (some ⟨b, 0, none⟩), .int .i64 a, .int .i64 n] w fun e w' => e = .returned (.int .i64 (insideE d.now.length a n)) ∧ w = w' := by
  obtain ⟨vl, vn, vp, hb, hF, _, _, h2, _⟩ := hd
  obtain ⟨ad, cap, rfl⟩ := ownsRow_shape h2
  have hc1 := cell_of_heap hb 1
  clear hb hF h2
  unfold insideE
  by_cases h1 : a < 0 ∨ n < 0
  · rw [if_pos h1]
    rcases h1 with h1 | h1
    all_goals
      go_enter Try.func28, Try.ntmps28
      go_wp2
      all_goals (go_ret; exact ⟨rfl, rfl⟩)
  · rw [if_neg h1]
    have h3 : 0 ≤ a := by omega
    have h4 : 0 ≤ n := by omega
    clear h1
    by_cases h5 : (d.now.length : Int) < a
    · rw [if_pos (.inl h5)]
      go_enter Try.func28, Try.ntmps28
      go_wp2
      all_goals (go_ret; exact ⟨rfl, rfl⟩)
    · have h6 : a ≤ (d.now.length : Int) := by omega
      have hw : IntKind.i64.wrap ((d.now.length : Int) - a) = (d.now.length : Int) - a := IntWalk.i64_in _ ⟨by omega, by omega⟩
      by_cases h7 : (d.now.length : Int) - a < n
      · rw [if_pos (.inr h7)]
        clear h5
        go_enter Try.func28, Try.ntmps28
        go_wp2
        all_goals (go_ret; exact ⟨rfl, rfl⟩)
      · rw [if_neg (by omega)]
        have h8 : n ≤ (d.now.length : Int) - a := by omega
        clear h5 h7
        go_enter Try.func28, Try.ntmps28
        go_wp2
        all_goals (go_ret; exact ⟨rfl, rfl⟩)

theorem lose_any (b : Nat) (d : Dev) (F : List Nat) (w : World) (hd : DevAt w b d F) :
    Calls Try.prog 31 #[.pointer (some ⟨b, 0, none⟩)] w fun e w' => e = .returned (.tuple #[]) ∧ DevAt w' b { d with lost := true } F ∧ Keeps [b] w w' := by
  have Hd := Lib.hid hd
  obtain ⟨vl, vn, vp, hb, hF, _⟩ := hd
  have c3 := cell_of_heap hb 3
  have hf := free_of_heap hb 3
  have hk : Keeps [b] w (w.setCell ⟨b, 3, none⟩ (.bool true)) := (Keeps.refl [b] w).setCell (p := ⟨b, 3, none⟩) (by simp) _
  have Hk := Lib.hid hk
  have Hd2 := Lib.hid (Hd.out.put hk true d.stops d.left (fun _ _ _ h => heap_setCell h 3 _))
  clear hb hF hk
  go_enter Try.func31, Try.ntmps31
  go_wp2
  go_end0
  exact ⟨rfl, Hd2.out, Hk.out⟩

theorem stop_any (b : Nat) (d : Dev) (F : List Nat) (w : World) (hd : DevAt w b d F) (n : Int) :
    Calls Try.prog 19 #[.pointer (some ⟨b, 0, none⟩), .int .i64 n] w fun e w' => e = .returned (.tuple #[]) ∧ DevAt w' b { d with stops := decide (0 ≤ n), left := n } F ∧ Keeps [b] w w' := by
  have Hd := Lib.hid hd
  obtain ⟨vl, vn, vp, hb, hF, _⟩ := hd
  have c4 := cell_of_heap hb 4
  have c5 := cell_of_heap hb 5
  have hf4 := free_of_heap hb 4
  have hf5 := free_of_heap hb 5
  have hk : Keeps [b] w ((w.setCell ⟨b, 4, none⟩ (.bool (decide (0 ≤ n)))).setCell ⟨b, 5, none⟩ (.int .i64 n)) := ((Keeps.refl [b] w).setCell (p := ⟨b, 4, none⟩) (by simp) _).setCell (p := ⟨b, 5, none⟩) (by simp) _
  have Hk := Lib.hid hk
  have Hd2 := Lib.hid (Hd.out.put hk d.lost (decide (0 ≤ n)) n (fun _ _ _ h => heap_setCell (heap_setCell h 4 _) 5 _))
  clear hb hF hk
  go_enter Try.func19, Try.ntmps19
  go_wp2
  go_end0
  exact ⟨rfl, Hd2.out, Hk.out⟩
end Go.Proofs.Ytddehagceenbnaa
