/- Layer 6: Parse of the answer. -/
import Derived.Test.YtdjhlnkkbpmfmaaDoorNamQ
namespace Go.Proofs.YtdjhlnkkbpmfmaaDoor
open Go.RowKit

theorem results_tmp4 {fn : Func} {t u v x : Tmp} (h : fn.results = #[.tmp t, .tmp u, .tmp v, .tmp x]) (tmps : Array Value) (P : Program) (w : World) :
    (results fn tmps).run P w = .ok (.tuple #[tmps.getD t undef, tmps.getD u undef, tmps.getD v undef, tmps.getD x undef]) w := by
  simp [results, h]

theorem ofI_parts (v d : List UInt8) (c1 c2 c3 : UInt8) (hd : d.length = 10) {k : Int} (h1 : 1 ≤ k) (h4 : k ≤ 4) :
    ofI (v ++ c1 :: c2 :: c3 :: d) v k = match parseP v c1 c2 c3 d with | some (k0, n) => if k = k0 then (n : Int) else -1 | none => -1 := by
  unfold ofI parseP
  by_cases hv : volOk v = true
  · have hp : preOf v k = (v ++ [47, letterOf k, 47], 0) := by
      unfold preOf
      rw [if_neg (by rw [hv]; decide), if_neg (by omega)]
    rw [hp]
    dsimp only
    have e1 : (v ++ [47, letterOf k, 47]).length = v.length + 3 := by simp
    have e2 : (v ++ c1 :: c2 :: c3 :: d).take (v.length + 3) = v ++ [c1, c2, c3] := by rw [List.take_length_add_append]; rfl
    have e3 : (v ++ c1 :: c2 :: c3 :: d).drop (v.length + 3) = d := by rw [List.drop_length_add_append]; rfl
    have e4 : (v ++ c1 :: c2 :: c3 :: d).length = v.length + 3 + 10 := by simp [hd]
    rw [e1, e2, e3, e4]
    by_cases hc : c1 = 47 ∧ c2 = letterOf k ∧ c3 = 47
    · obtain ⟨rfl, rfl, rfl⟩ := hc
      rw [if_neg (by simp), letter_kidx h1 h4, if_pos ⟨hv, rfl, rfl, h1⟩]
      unfold numI
      cases numGo 0 d with
      | none => rfl
      | some n => simp
    · rw [if_pos (.inr (.inr (by
        intro e
        rw [List.append_cancel_left_eq] at e
        simp only [List.cons.injEq, and_true] at e
        exact hc ⟨e.1, e.2.1, e.2.2⟩)))]
      split
      · rename_i k0 n h
        by_cases hk : k = k0
        · exfalso
          split at h
          · rename_i h2
            have h3 : kidx c2 = k0 := by
              cases hn : numGo 0 d with
              | none => rw [hn] at h; simp at h
              | some m => rw [hn] at h; simp at h; exact h.1
            exact hc ⟨h2.2.1, by rw [hk, ← h3, (kidx_letter h2.2.2.2).1], h2.2.2.1⟩
          · simp at h
        · rw [if_neg hk]
      · rfl
  · have hp : preOf v k = ([], 1) := by
      unfold preOf
      rw [if_pos (by simpa using hv)]
    rw [hp, if_pos (.inl (by decide)), if_neg (fun h => hv h.1)]

set_option maxHeartbeats 4000000 in
set_option maxRecDepth 100000 in
theorem rparse_short (S : ByteArray) (w : World) (hs : S.size ≤ 13) : Calls Tryd.prog 20 #[.string S] w fun e w' => e = .returned (.tuple #[.string (str []), .int .i64 0, .int .i64 0, .bool false]) ∧ w' = w := by
  have hi : (S.size : Int) < 14 := by omega
  clear hs
  go_enter Tryd.func20, Tryd.ntmps20
  go_wp2_with fail
  refine bodyPost_ret (results_tmp4 rfl _ _ _) rfl ⟨rfl, rfl⟩

set_option maxHeartbeats 8000000 in
set_option maxRecDepth 100000 in
theorem rparse_any (v d : List UInt8) (c1 c2 c3 : UInt8) (w : World) (hv1 : 1 ≤ v.length) (hv : v.length ≤ 900000) (hd : d.length = 10) :
    Calls Tryd.prog 20 #[.string (str (v ++ c1 :: c2 :: c3 :: d))] w fun e w' =>
      e = .returned (match parseP v c1 c2 c3 d with | some (k, n) => .tuple #[.string (str v), .int .i64 k, .int .i64 n, .bool true] | none => .tuple #[.string (str []), .int .i64 0, .int .i64 0, .bool false]) ∧ w' = w := by
  have Of : Hid (∀ (k : Int) (w' : World), 1 ≤ k → k ≤ 4 → Calls Tryd.prog 21 #[.string (str (v ++ c1 :: c2 :: c3 :: d)), .string (str v), .int .i64 k] w' fun e w2 => e = .returned (.int .i64 (match parseP v c1 c2 c3 d with | some (k0, n) => if k = k0 then (n : Int) else -1 | none => -1)) ∧ w2 = w') := fun k w' h1 h4 => by
    have h := of_any (v ++ c1 :: c2 :: c3 :: d) v k w' (by simp [hd]; omega) (by omega)
    rw [ofI_parts v d c1 c2 c3 hd h1 h4] at h
    exact h
  have hkr : Hid (∀ k n, parseP v c1 c2 c3 d = some (k, n) → 1 ≤ k ∧ k ≤ 4) := fun k n h => by
    unfold parseP at h
    split at h
    · rename_i h2
      cases hn : numGo 0 d with
      | none => rw [hn] at h; simp at h
      | some m =>
        rw [hn] at h
        simp at h
        exact ⟨by omega, by have := (kidx_letter h2.2.2.2).2; omega⟩
    · simp at h
  obtain ⟨A, hA⟩ : ∃ A, v.length = A := ⟨_, rfl⟩
  have hS : (str (v ++ c1 :: c2 :: c3 :: d)).size = A + 13 := by rw [str_size]; simp [hA, hd]
  have x2 : (str (v ++ c1 :: c2 :: c3 :: d)).extract 0 A = str v := by
    rw [str_extract, str_data, List.drop_zero, Nat.sub_zero, ← hA, List.take_left]
  generalize str (v ++ c1 :: c2 :: c3 :: d) = S at *
  generalize parseP v c1 c2 c3 d = P at *
  have g1 : ¬ ((A + 13 : Nat) : Int) < 14 := by omega
  have i3 : (A : Int) ≤ ((A + 13 : Nat) : Int) := by omega
  have hAb : (A : Int) ≤ 1000000 := by omega
  have hA0 : (0 : Int) ≤ (A : Int) := by omega
  clear hA hd hv hv1
  cases P with
  | none =>
    dsimp only at Of
    clear hkr
    go_enter Tryd.func20, Tryd.ntmps20
    go_wp2_with fail
    go_loop [7] (fun kv => ∃ k : Nat, 1 ≤ k ∧ k ≤ 5 ∧ kv = .int .i64 k) (fun kv => 5 - (intOf kv).toNat)
    case atStart => exact ⟨1, by omega, by omega, rfl⟩
    case round =>
      obtain ⟨k, h1, h5, rfl⟩ := hrel
      by_cases h4 : k ≤ 4
      · have hi : (k : Int) ≤ 4 := by omega
        have hi1 : (1 : Int) ≤ (k : Int) := by omega
        have O2 := Lib.hid (fun w' => Of.out (k : Int) w' hi1 hi)
        go_wp2_with (go_at_call 21; (with_reducible refine (O2.out _).mono ?_); rintro e w1 ⟨rfl, rfl⟩)
        go_round
        case rel => exact ⟨k + 1, by omega, by omega, by go_num⟩
        case measure => simp [intOf]; omega
      · obtain rfl : k = 5 := by omega
        go_wp2_with fail
        refine bodyPost_ret (results_tmp4 rfl _ _ _) rfl ⟨rfl, rfl⟩
  | some kn =>
    obtain ⟨K, n⟩ := kn
    dsimp only at Of ⊢
    obtain ⟨hK1, hK4⟩ := hkr.out K n rfl
    have hn0 : (0 : Int) ≤ (n : Int) := by omega
    clear hkr
    go_enter Tryd.func20, Tryd.ntmps20
    go_wp2_with fail
    go_loop [7] (fun kv => ∃ k : Nat, 1 ≤ k ∧ (k : Int) ≤ K ∧ kv = .int .i64 k) (fun kv => 5 - (intOf kv).toNat)
    case atStart => exact ⟨1, by omega, by omega, rfl⟩
    case round =>
      obtain ⟨k, h1, hkK, rfl⟩ := hrel
      have hi : (k : Int) ≤ 4 := by omega
      have hi1 : (1 : Int) ≤ (k : Int) := by omega
      have O2 := fun w' => Of.out (k : Int) w' hi1 hi
      by_cases hk : (k : Int) = K
      · simp only [if_pos hk] at O2
        have O3 := Lib.hid O2
        have Hk := Lib.hid hk
        clear O2 hk
        go_wp2_with (go_at_call 21; (with_reducible refine (O3.out _).mono ?_); rintro e w1 ⟨rfl, rfl⟩)
        rw [← Hk.out]
        refine bodyPost_ret (results_tmp4 rfl _ _ _) rfl ⟨rfl, rfl⟩
      · simp only [if_neg hk] at O2
        have O3 := Lib.hid O2
        have Hk : Hid ((k : Int) < K) := by unfold Hid; omega
        clear O2 hk hkK
        go_wp2_with (go_at_call 21; (with_reducible refine (O3.out _).mono ?_); rintro e w1 ⟨rfl, rfl⟩)
        go_round
        case rel => exact ⟨k + 1, by omega, by have := Hk.out; omega, by go_num⟩
        case measure => simp [intOf]; omega
end Go.Proofs.YtdjhlnkkbpmfmaaDoor
