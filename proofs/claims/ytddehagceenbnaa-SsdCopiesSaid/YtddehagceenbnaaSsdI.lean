/- Layer 4, the device: Write, all ways; Barrier. -/
import Derived.Test.YtddehagceenbnaaSsdH
namespace Go.Proofs.Ytddehagceenbnaa
open Go.RowKit

theorem DevAt.mem {w : World} {b : Nat} {d : Dev} {F : List Nat} (h : DevAt w b d F) : b ∈ F := by obtain ⟨_, _, _, _, rfl, _⟩ := h; simp
theorem DevAt.chg {w w' : World} {b : Nat} {d : Dev} {F : List Nat} (h : DevAt w b d F) (k : Keeps [b] w w') : Chg F F w w' :=
  ⟨k.mono (fun x hx => by rw [List.mem_singleton] at hx; subst hx; exact h.mem), fun _ h => .inl h⟩

set_option maxHeartbeats 2000000 in
theorem write_any (b : Nat) (d : Dev) (F : List Nat) (w : World) (hd : DevAt w b d F) (hok : d.ok) (a : Int) (s : ByteArray) (hp : d.pend.length ≤ 1000000000) (hs : s.size ≤ 140737488351232) (ha : a ≤ 9223372036854775807) :
    Calls Try.prog 12 #[.pointer (some ⟨b, 0, none⟩), .int .i64 a, .string s] w fun e w' =>
      e = .returned (.int .i64 (d.write a s.data.toList).2) ∧ ∃ F', DevAt w' b (d.write a s.data.toList).1 F' ∧ Chg F F' w w' := by
  have hre := ready_any b d F w hd hok
  unfold Dev.write
  rw [dlen]
  cases hdd : d.dead
  · simp only [Bool.false_eq_true, if_false]
    rw [hdd] at hre
    simp only [Bool.false_eq_true, if_false] at hre
    have hwr := fun A h1 h2 => write_in b d F w hd hok A s hp hdd h1 h2
    obtain ⟨hok2, hnow, hlast, hpend⟩ := Dev.tick_ok hok hdd
    have hfew : d.now.length ≤ 65536 := by have := hok.same; have := hok.few; omega
    rw [← hnow] at hfew hwr ⊢
    have hinc := fun w' h => inside_any b d.tick F w' h hfew a ((s.size / 64 : Nat) : Int) ha
    have hdF := fun w' => hd.chg (w' := w')
    generalize d.tick = d1 at *
    have Hre := Lib.hid hre
    have HdF := Lib.hid hdF
    by_cases h0 : a < 0
    · rw [if_pos h0]
      clear hre hinc hwr hnow hlast hpend hok2 hok hd hdF hdd
      go_enter Try.func12, Try.ntmps12
      go_wp2_with (go_at_call 27; (with_reducible refine Hre.out.mono ?_); rintro e w1 ⟨rfl, hd1, hk1⟩)
      go_ret
      exact ⟨rfl, F, hd1, HdF.out _ hk1⟩
    · rw [if_neg h0]
      have h0' : 0 ≤ a := by omega
      by_cases h1 : s.size % 64 ≠ 0
      · rw [if_pos h1]
        have hm : (((s.size : Int) % 64) != 0) = true := by rw [bne_iff_ne]; omega
        clear hre hinc hwr hnow hlast hpend hok2 hok hd hdF hdd h0 h1
        go_enter Try.func12, Try.ntmps12
        go_wp2_with (go_at_call 27; (with_reducible refine Hre.out.mono ?_); rintro e w1 ⟨rfl, hd1, hk1⟩)
        go_ret
        exact ⟨rfl, F, hd1, HdF.out _ hk1⟩
      · rw [if_neg h1]
        have h1' : s.size % 64 = 0 := by omega
        by_cases h2 : insideE d1.now.length a (s.size / 64 : Nat) ≠ 0
        · rw [if_pos h2]
          have hm : (((s.size : Int) % 64) != 0) = false := by rw [bne_eq_false_iff_eq]; omega
          have h3 : (insideE d1.now.length a ((s.size / 64 : Nat) : Int) != 0) = true := by simpa using h2
          have hdv : (s.size : Int) / 64 = ((s.size / 64 : Nat) : Int) := by omega
          generalize hE : insideE d1.now.length a ((s.size / 64 : Nat) : Int) = E at *
          rw [← hdv] at hinc
          have Hinc := Lib.hid hinc
          clear hre hinc hwr hnow hlast hpend hok2 hok hd hdF hdd h0 h1 h1' h2 hdv hE
          go_enter Try.func12, Try.ntmps12
          go_wp2_with (first | (go_at_call 27; (with_reducible refine Hre.out.mono ?_); rintro e w1 ⟨rfl, hd1, hk1⟩) | (go_at_call 28; (with_reducible refine (Hinc.out _ hd1).mono ?_); rintro e w2 ⟨rfl, rfl⟩))
          go_ret
          exact ⟨rfl, F, hd1, HdF.out _ hk1⟩
        · rw [if_neg h2]
          obtain ⟨A, rfl⟩ : ∃ A : Nat, a = A := ⟨a.toNat, by omega⟩
          exact hwr A h1' (by simpa using h2)
  · simp only [if_true]
    rw [hdd] at hre
    simp only [if_true] at hre
    have Hre := Lib.hid hre
    have HdF := Lib.hid (fun w' => hd.chg (w' := w'))
    clear hre hd hok hdd
    go_enter Try.func12, Try.ntmps12
    go_wp2_with (go_at_call 27; (with_reducible refine Hre.out.mono ?_); rintro e w1 ⟨rfl, hd1, hk1⟩)
    go_ret
    exact ⟨rfl, F, hd1, HdF.out _ hk1⟩

/-- What Barrier does. -/
def Dev.settle (last : List (List UInt8)) : List (Nat × List UInt8) → List (List UInt8)
  | [] => last
  | (i, s) :: r => settle (last.set i s) r
def Dev.barrier (d : Dev) : Dev × Int := if d.dead then (d, 17) else ({ d.tick with last := Dev.settle d.last d.pend, pend := [] }, 0)

theorem Dev.settle_snoc : ∀ (l : List (Nat × List UInt8)) (last : List (List UInt8)) (i : Nat) (s : List UInt8), Dev.settle last (l ++ [(i, s)]) = (Dev.settle last l).set i s
  | [], _, _, _ => rfl
  | (j, t) :: r, last, i, s => Dev.settle_snoc r (last.set j t) i s

theorem Dev.settle_ok : ∀ (l : List (Nat × List UInt8)) (last : List (List UInt8)) (n : Nat), last.length = n → (∀ s, s ∈ last → s.length = 64) → (∀ p, p ∈ l → p.1 < n ∧ p.2.length = 64) →
    (Dev.settle last l).length = n ∧ ∀ s, s ∈ Dev.settle last l → s.length = 64
  | [], _, _, h1, h2, _ => ⟨h1, h2⟩
  | (i, s) :: r, last, n, h1, h2, h3 => by
    refine Dev.settle_ok r (last.set i s) n (by rw [List.length_set]; exact h1) (fun x hx => ?_) (fun p hp => h3 p (by simp [hp]))
    rcases List.mem_or_eq_of_mem_set hx with h | h
    · exact h2 x h
    · rw [h]; exact (h3 (i, s) (by simp)).2
end Go.Proofs.Ytddehagceenbnaa
