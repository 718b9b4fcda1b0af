/- Layer 6: Volume of the answer; Prefix, the program's and the answer's. -/
import Derived.Test.YtdjhlnkkbpmfmaaDoorNamA
namespace Go.Proofs.YtdjhlnkkbpmfmaaDoor
open Go.RowKit

set_option maxHeartbeats 4000000 in
set_option maxRecDepth 100000 in
theorem rvolume_any (s : List UInt8) (w : World) (hs : s.length ≤ 140737488351232) : Calls Tryd.prog 16 #[.string (str s)] w fun e w' => e = .returned (.bool (volOk s)) ∧ w' = w := by
  obtain ⟨v, hv⟩ : ∃ v : Bool, volOk s = v := ⟨_, rfl⟩
  rw [hv]
  have Hv := Lib.hid hv
  clear hv
  go_enter Tryd.func16, Tryd.ntmps16
  go_wp2
  go_loop [3] (fun iv => ∃ k : Nat, k ≤ s.length ∧ iv = .int .i64 k ∧ Hid (∀ j (hj : j < s.length), j < k → plainB s[j] = true)) (fun iv => s.length - (intOf iv).toNat)
  case atStart => exact ⟨0, Nat.zero_le _, rfl, fun j hj h => by omega⟩
  case round =>
    obtain ⟨k, hk, rfl, hall⟩ := hrel
    by_cases hlt : k < s.length
    · have hki : (k : Int) < (s.length : Int) := by omega
      have hki0 : (0 : Int) ≤ (k : Int) := by omega
      have hsz : k < (str s).size := by rw [str_size]; exact hlt
      have hB := Lib.hid (plainB_R (s[k]'hlt))
      have hsk : s[k]'hlt = (str s)[k]'hsz := rfl
      rw [hsk] at hB
      have Hsk := Lib.hid hsk
      clear hsk
      have hcl : ((str s)[k]'hsz).toNat < 256 := UInt8.toNat_lt _
      by_cases h1 : 97 ≤ (((str s)[k]'hsz).toNat : Int) <;> by_cases h2 : (((str s)[k]'hsz).toNat : Int) ≤ 122 <;> by_cases h3 : 48 ≤ (((str s)[k]'hsz).toNat : Int) <;> by_cases h4 : (((str s)[k]'hsz).toNat : Int) ≤ 57 <;> cases b5 : ((((str s)[k]'hsz).toNat : Int) == 45) <;> cases hp : plainR (((str s)[k]'hsz).toNat : Int)
      all_goals have h5 := b5
      all_goals first | rw [beq_iff_eq] at h5 | rw [beq_eq_false_iff_ne] at h5
      all_goals have b6 : ((((str s)[k]'hsz).toNat : Int) != 45) = !((((str s)[k]'hsz).toNat : Int) == 45) := rfl
      all_goals rw [b5] at b6
      all_goals simp only [Bool.not_true, Bool.not_false] at b6
      all_goals first
        | (exfalso; omega)
        | (exfalso; simp [plainR, h1, h2, h3, h4, h5] at hp; done)
        | (have hvo : v = false := by
             rw [← Hv.out, volOk_bad hlt (by rw [Hsk.out, hB.out, hp])]
           subst hvo
           clear hp
           go_wp2
           go_ret
           exact ⟨rfl, rfl⟩)
        | (have Hp := Lib.hid hp
           clear hp
           go_wp2
           go_round
           case rel =>
             refine ⟨k + 1, by omega, by go_num, fun j hj hjk => ?_⟩
             by_cases hj2 : j < k
             · exact hall.out j hj hj2
             · obtain rfl : j = k := by omega
               rw [Hsk.out, hB.out, Hp.out]
           case measure => simp [intOf]; omega)
    · obtain rfl : k = s.length := by omega
      have hall2 := fun j hj => hall.out j hj hj
      by_cases g1 : 1 ≤ s.length
      · by_cases g2 : s.length ≤ 32
        · have hvo : v = true := by rw [← Hv.out]; exact volOk_all g1 g2 hall2
          subst hvo
          have i1 : (1 : Int) ≤ (s.length : Int) := by omega
          have i2 : (s.length : Int) ≤ 32 := by omega
          go_wp2
          go_ret
          exact ⟨rfl, rfl⟩
        · have hvo : v = false := by rw [← Hv.out]; exact volOk_long (by omega)
          subst hvo
          have i1 : (1 : Int) ≤ (s.length : Int) := by omega
          have i2 : ¬ (s.length : Int) ≤ 32 := by omega
          go_wp2
          go_ret
          exact ⟨rfl, rfl⟩
      · have hvo : v = false := by
          rw [← Hv.out, show s = [] from List.length_eq_zero_iff.1 (by omega)]
          rfl
        subst hvo
        have i1 : ¬ (1 : Int) ≤ (s.length : Int) := by omega
        go_wp2
        go_ret
        exact ⟨rfl, rfl⟩

theorem slash (v : List UInt8) (c : UInt8) : v ++ [47] ++ [c] ++ [47] = v ++ [47, c, 47] := by simp

set_option maxHeartbeats 2000000 in
set_option maxRecDepth 100000 in
theorem rprefix_any (v : List UInt8) (k : Int) (w : World) (hv : v.length ≤ 1000000) : Calls Tryd.prog 14 #[.string (str v), .int .i64 k] w fun e w' => e = .returned (.tuple #[.string (str (preOf v k).1), .int .i64 (preOf v k).2]) ∧ w' = w := by
  have Vo := Lib.hid (fun w => rvolume_any v w (by omega))
  obtain ⟨r, hr⟩ : ∃ r, preOf v k = r := ⟨_, rfl⟩
  have Hr := Lib.hid hr
  rw [hr]
  clear hr
  cases hvo : volOk v
  · rw [hvo] at Vo
    have h2 : r = ([], 1) := by rw [← Hr.out]; exact if_pos hvo
    subst h2
    clear hvo
    go_enter Tryd.func14, Tryd.ntmps14
    go_wp2_with (go_at_call 16; (with_reducible refine (Vo.out _).mono ?_); rintro e w1 ⟨rfl, rfl⟩)
    go_ret2
    exact ⟨rfl, rfl⟩
  · rw [hvo] at Vo
    have hnv : ¬ volOk v = false := by rw [hvo]; decide
    by_cases h1 : k < 1
    · have h2 : r = ([], 14) := by rw [← Hr.out]; unfold preOf; rw [if_neg hnv, if_pos (.inl h1)]
      subst h2
      clear hvo hnv
      go_enter Tryd.func14, Tryd.ntmps14
      go_wp2_with (go_at_call 16; (with_reducible refine (Vo.out _).mono ?_); rintro e w1 ⟨rfl, rfl⟩)
      go_ret2
      exact ⟨rfl, rfl⟩
    by_cases h4 : 4 < k
    · have h2 : r = ([], 14) := by rw [← Hr.out]; unfold preOf; rw [if_neg hnv, if_pos (.inr h4)]
      subst h2
      clear hvo hnv
      go_enter Tryd.func14, Tryd.ntmps14
      go_wp2_with (go_at_call 16; (with_reducible refine (Vo.out _).mono ?_); rintro e w1 ⟨rfl, rfl⟩)
      go_ret2
      exact ⟨rfl, rfl⟩
    have h2 : r = (v ++ [47, letterOf k, 47], 0) := by rw [← Hr.out]; unfold preOf; rw [if_neg hnv, if_neg (by omega)]
    subst h2
    have Le := Lib.hid (fun w => letter_any k w)
    have hs47 : ByteArray.mk #[47] = str [47] := rfl
    have hsl := slash v (letterOf k)
    have Hsl := Lib.hid hsl
    generalize letterOf k = lt at *
    clear hvo hnv Hr hsl
    go_enter Tryd.func14, Tryd.ntmps14
    go_wp2_with (first
      | (go_at_call 16; (with_reducible refine (Vo.out _).mono ?_); rintro e w1 ⟨rfl, rfl⟩)
      | (go_at_call 26; (with_reducible refine (Le.out _).mono ?_); rintro e w1 ⟨rfl, rfl⟩))
    go_ret2
    exact ⟨rfl, rfl⟩
end Go.Proofs.YtdjhlnkkbpmfmaaDoor
