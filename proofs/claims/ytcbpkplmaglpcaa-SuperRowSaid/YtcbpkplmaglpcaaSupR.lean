/- Layer 11, the reference: Check, Sector, number. -/
import Derived.Test.YtcbpkplmaglpcaaSupF
import Derived.Test.YtcbpkplmaglpcaaSupRefA
import Derived.Test.YtcbpkplmaglpcaaSupRefB
namespace Go.Proofs.Ytcbpkplmaglpcaa
open Go.RowKit

set_option maxHeartbeats 4000000 in
theorem refCheck_any (s : Sup) (hg : s.good) (w : World) : Calls Try.prog 16 #[s.agg] w fun e w' => e = .returned (.int .i64 s.check) ∧ Keeps [] w w' := by
  by_cases hr : s.inRange
  · have Hm := Lib.hid (fun w => refMay_any s.size s.tail w hg.z0 hg.z1 hg.t0 hg.t1)
    have hc := Sup.check_in hr
    have HM : Hid (decide (1 ≤ s.size ∧ s.size ≤ 65536 ∧ 0 ≤ s.tail ∧ s.tail < 1099511627776) = decide (s.check = 0)) := by
      unfold Hid; rw [hc]; by_cases h : 1 ≤ s.size ∧ s.size ≤ 65536 ∧ 0 ≤ s.tail ∧ s.tail < 1099511627776 <;> simp [h]
    have H01 : s.check = 0 ∨ s.check = 1 := by rw [hc]; split <;> simp
    rw [HM.out] at Hm
    generalize s.check = c at *
    clear HM hc
    obtain ⟨key, epoch, serial, size, tail, number⟩ := s
    obtain ⟨⟨p1, p2⟩, ⟨p3, p4⟩, p5, p6⟩ := hr
    unfold Sup.agg at *
    dsimp only at *
    clear hg
    rcases H01 with rfl | rfl
    all_goals
      simp only [decide_true, decide_false, Int.one_ne_zero] at Hm
      go_enter Try.func16, Try.ntmps16
      go_wp2_with (go_at_call 30; (with_reducible refine (Hm.out _).mono ?_); rintro e w1 ⟨rfl, rfl⟩)
      go_ret
      exact ⟨rfl, (Keeps.refl [] w).alloc _⟩
  · rw [Sup.check_out hr]
    obtain ⟨key, epoch, serial, size, tail, number⟩ := s
    unfold Sup.inRange at hr
    unfold Sup.agg
    dsimp only at *
    clear hg
    rcases (show epoch < 0 ∨ (¬ epoch < 0 ∧ 4294967296 ≤ epoch) ∨ (¬ epoch < 0 ∧ ¬ 4294967296 ≤ epoch ∧ serial < 0) ∨ (¬ epoch < 0 ∧ ¬ 4294967296 ≤ epoch ∧ ¬ serial < 0 ∧ 1099511627776 ≤ serial) ∨
        (¬ epoch < 0 ∧ ¬ 4294967296 ≤ epoch ∧ ¬ serial < 0 ∧ ¬ 1099511627776 ≤ serial ∧ number < 0) ∨ (¬ epoch < 0 ∧ ¬ 4294967296 ≤ epoch ∧ ¬ serial < 0 ∧ ¬ 1099511627776 ≤ serial ∧ ¬ number < 0 ∧ 1099511627776 ≤ number) by omega) with
      h | ⟨h1, h⟩ | ⟨h1, h2, h⟩ | ⟨h1, h2, h3, h⟩ | ⟨h1, h2, h3, h4, h⟩ | ⟨h1, h2, h3, h4, h5, h⟩
    all_goals
      clear hr
      go_enter Try.func16, Try.ntmps16
      go_wp2
      go_ret
      exact ⟨rfl, (Keeps.refl [] w).alloc _⟩

set_option maxHeartbeats 1000000 in
/-- A number of so many bytes from one on. -/
theorem refNumber11_any (s : List UInt8) (p n : Nat) (w : World) (hs : s.length ≤ 1000) (hp : p + n ≤ s.length) (h1 : 1 ≤ n) (h8 : n ≤ 8) :
    Calls Try.prog 29 #[.string (str s), .int .i64 p, .int .i64 n] w fun e w' => e = .returned (.int .i64 (if 1125899906842624 < num ((s.drop p).take n) then -1 else (num ((s.drop p).take n) : Int))) ∧ w = w' := by
  have hex : (str s).extract p s.length = str (s.drop p) := by rw [str_extract, str_data, List.take_of_length_le (by rw [List.length_drop]; omega)]
  have Hn := Lib.hid (fun w => refNumber_any (str (s.drop p)) n w (by rw [str_size, List.length_drop]; omega))
  have hr : rfixed (s.drop p) 0 0 (n : Int) = (num ((s.drop p).take n), n, 0) := by
    unfold rfixed rtake
    rw [if_neg (by omega), if_neg (by simp), if_neg (by rw [List.length_drop, Int.toNat_natCast]; omega)]
    simp
  rw [str_data, hr] at Hn
  clear hr
  dsimp only at Hn
  have hx : num ((s.drop p).take n) < 18446744073709551616 := bnum_lt' (n := 8) (by rw [List.length_take]; omega)
  generalize num ((s.drop p).take n) = X at *
  have hps : (p : Int) ≤ (s.length : Int) := by omega
  have Hex := Lib.hid hex
  generalize s.drop p = D at *
  clear hex
  have hexa := Hex.out
  by_cases hb : 1125899906842624 < X
  · rw [if_pos hb]
    have hb2 : (1125899906842624 : Int) < (X : Int) := by omega
    clear hb
    go_enter Try.func29, Try.ntmps29
    go_wp2_with (go_at_call 28; (with_reducible refine (Hn.out _).mono ?_); rintro e w1 ⟨rfl, rfl⟩)
    go_ret
    exact ⟨rfl, rfl⟩
  · rw [if_neg hb]
    have hb2 : ¬ (1125899906842624 : Int) < (X : Int) := by omega
    clear hb
    go_enter Try.func29, Try.ntmps29
    go_wp2_with (go_at_call 28; (with_reducible refine (Hn.out _).mono ?_); rintro e w1 ⟨rfl, rfl⟩)
    go_ret
    exact ⟨by first | rfl | go_num, rfl⟩
end Go.Proofs.Ytcbpkplmaglpcaa
