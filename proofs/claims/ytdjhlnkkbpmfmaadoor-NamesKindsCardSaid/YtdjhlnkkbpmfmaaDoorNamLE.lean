/- NamesBack, walked. -/
import Derived.Test.YtdjhlnkkbpmfmaaDoorNamN
import Derived.Test.YtdjhlnkkbpmfmaaDoorNamS
import Derived.Test.YtdjhlnkkbpmfmaaDoorNamLD
namespace Go.Proofs.YtdjhlnkkbpmfmaaDoor.lawNamesBack
open Go.RowKit

/-! ## plain -/
theorem hexval_hexd : ∀ d : Fin 16, hexval (hexd d.val).toNat = d.val := by decide
theorem hexd_hexval : ∀ c : Fin 256, 0 ≤ hexval c.val → hexd (hexval c.val).toNat = UInt8.ofNat c.val := by decide +kernel
theorem numGo_hexm (N : Nat) : ∀ (m a : Nat), numGo a (hexm m N) = some (a * 16 ^ m + N % 16 ^ m)
  | 0, a => by simp [hexm, numGo, Nat.mod_one]
  | m + 1, a => by
    have hd : N / 16 ^ m % 16 < 16 := Nat.mod_lt _ (by omega)
    have hv := hexval_hexd ⟨_, hd⟩
    simp only at hv
    rw [hexm_front, numGo, hv, if_neg (by omega), Int.toNat_natCast, numGo_hexm N m, Nat.pow_succ, Nat.mod_mul]
    congr 1
    rw [Nat.add_mul, Nat.mul_assoc, Nat.mul_comm 16 (16 ^ m), Nat.mul_comm (N / 16 ^ m % 16)]
    omega
theorem hexm_numGo : ∀ (d : List UInt8) (a n : Nat), numGo a d = some n → hexm d.length n = d ∧ n / 16 ^ d.length = a
  | [], a, n, h => by
    obtain rfl : a = n := by simpa [numGo] using h
    exact ⟨rfl, by simp⟩
  | c :: d, a, n, h => by
    rw [numGo] at h
    split at h
    · simp at h
    · rename_i hc
      obtain ⟨e1, e2⟩ := hexm_numGo d _ n h
      have hx := hexval_lt c.toNat
      have hb := hexd_hexval ⟨c.toNat, c.toNat_lt⟩ (show 0 ≤ hexval c.toNat by omega)
      simp only [UInt8.ofNat_toNat] at hb
      refine ⟨?_, ?_⟩
      · rw [List.length_cons, hexm_front, e1, e2, show (a * 16 + (hexval c.toNat).toNat) % 16 = (hexval c.toNat).toNat by omega, hb]
      · rw [List.length_cons, Nat.pow_succ, ← Nat.div_div_eq_div_mul, e2]
        omega

/-- Parse of Print. -/
theorem back {v : List UInt8} {k n : Int} (h : (prtOf v k n).2 = 0) : 0 ≤ n ∧ 1 ≤ v.length ∧ v.length ≤ 32 ∧ (prtOf v k n).1 = v ++ 47 :: letterOf k :: 47 :: hexm 10 n.toNat ∧ parseP v 47 (letterOf k) 47 (hexm 10 n.toNat) = some (k, n.toNat) := by
  unfold prtOf at h ⊢
  by_cases h1 : (preOf v k).2 ≠ 0
  · rw [if_pos h1] at h; exact absurd h h1
  · rw [if_neg h1] at h ⊢
    by_cases h2 : n < 0 ∨ 1099511627776 ≤ n
    · rw [if_pos h2] at h; simp at h
    · rw [if_neg h2]
      obtain ⟨a1, a2, a3, a4⟩ := preOf_ok (Classical.not_not.1 h1)
      refine ⟨by omega, (volOk_le a1).1, (volOk_le a1).2.1, by rw [a4]; simp, ?_⟩
      unfold parseP
      rw [letter_kidx a2 a3, if_pos ⟨a1, rfl, rfl, a2⟩, numGo_hexm, Nat.zero_mul, Nat.zero_add, Nat.mod_eq_of_lt (by omega)]
      rfl
/-- Print of Parse. -/
theorem forth {v d : List UInt8} {c1 c2 c3 : UInt8} {k : Int} {n : Nat} (hd : d.length = 10) (h : parseP v c1 c2 c3 d = some (k, n)) : prtOf v k n = (v ++ c1 :: c2 :: c3 :: d, 0) := by
  unfold parseP at h
  split at h
  · rename_i h1
    obtain ⟨a1, rfl, rfl, a2⟩ := h1
    obtain ⟨e1, e2⟩ := kidx_letter a2
    cases hn : numGo 0 d with
    | none => rw [hn] at h; simp at h
    | some m =>
      rw [hn] at h
      simp only [Option.map_some, Option.some.injEq, Prod.mk.injEq] at h
      obtain ⟨rfl, rfl⟩ := h
      have hlt := numGo_lt d 0 m hn
      rw [hd] at hlt
      have e16 : (0 + 1) * 16 ^ 10 = 1099511627776 := by decide
      obtain ⟨e3, _⟩ := hexm_numGo d 0 m hn
      rw [hd] at e3
      have hp : preOf v (kidx c2) = (v ++ [47, c2, 47], 0) := by
        unfold preOf
        rw [if_neg (by rw [a1]; decide), if_neg (by omega), e1]
      unfold prtOf
      rw [hp]
      dsimp only
      rw [if_neg (by simp), if_neg (by omega), Int.toNat_natCast, e3]
      simp
  · simp at h

/-! ## the walk -/
set_option maxHeartbeats 4000000 in
set_option maxRecDepth 100000 in
theorem walk_long (s t : ByteArray) (k n : Int) (hs : 100 < s.size ∨ 100 < t.size) (W : World) (hT : TabC W) : Calls Tryd.prog 7 #[.agg #[.string s, .int .i64 k, .int .i64 n], .string t] W fun e w' => e = .returned (.bool true) ∧ Keeps [] W w' := by
  have Aw := Lib.hid (fun (w' : World) (k : Keeps [] W w') => awake_any w' (hT.kept k))
  have HO := Lib.hid (heap_at (w := W) (o := .cells #[.string s, .int .i64 k, .int .i64 n] 23 (0, 0)) rfl)
  have c0 := cell_of_heap HO.out 0
  have K0 := Lib.hid ((Keeps.refl [] W).alloc (.cells #[.string s, .int .i64 k, .int .i64 n] 23 (0, 0)))
  clear hT
  by_cases h1 : 100 < s.size
  · have hi : (100 : Int) < (s.size : Int) := by omega
    clear hs
    go_enter Tryd.func7, Tryd.ntmps7
    go_wp2_with (go_at_call 10; (with_reducible refine (Aw.out _ K0.out).mono ?_); rintro e w1 ⟨rfl, k1⟩)
    go_ret
    exact ⟨rfl, KT K0.out k1⟩
  · have hi : ¬ (100 : Int) < (s.size : Int) := by omega
    have hj : (100 : Int) < (t.size : Int) := by omega
    clear hs
    go_enter Tryd.func7, Tryd.ntmps7
    go_wp2_with (go_at_call 10; (with_reducible refine (Aw.out _ K0.out).mono ?_); rintro e w1 ⟨rfl, k1⟩)
    go_ret
    exact ⟨rfl, KT K0.out k1⟩

/-- What Parse answers of a text: none, or a name of which Print answers the text. -/
inductive Read (S : ByteArray) : Prop where
  | none (Np : Hid (∀ w' : World, Calls Tryd.prog 19 #[.string S] w' fun e w2 => e = .returned (.tuple #[.agg #[.string (str []), .int .i64 0, .int .i64 0], .int .i64 12]) ∧ Keeps [] w' w2))
  | some (u : List UInt8) (j m : Int) (Np : Hid (∀ w' : World, Calls Tryd.prog 19 #[.string S] w' fun e w2 => e = .returned (.tuple #[.agg #[.string (str u), .int .i64 j, .int .i64 m], .int .i64 0]) ∧ Keeps [] w' w2))
      (Pq : Hid (∀ w' : World, TabC w' → Calls Tryd.prog 11 #[.agg #[.string (str u), .int .i64 j, .int .i64 m]] w' fun e w2 => e = .returned (.tuple #[.string S, .int .i64 0]) ∧ Keeps [] w' w2))
theorem read_any (s : ByteArray) (hs : s.size ≤ 100) : Read s := by
  by_cases h13 : s.size ≤ 13
  · exact .none (fun w' => nparse_short s w' h13)
  obtain ⟨v, c1, c2, c3, d, he, hv, hd⟩ := lawNamesParses.parts (l := s.data.toList) (by rw [dlen]; omega)
  rw [dlen] at hv
  have Np := fun w' => nparse_any v d c1 c2 c3 w' (by omega) (by omega) hd
  rw [← he, str_self] at Np
  cases hP : parseP v c1 c2 c3 d with
  | none =>
    rw [hP] at Np
    exact .none Np
  | some kn =>
    obtain ⟨k, n⟩ := kn
    rw [hP] at Np
    refine .some v k n Np (fun w' hT => ?_)
    have h := nprint_any v k n w' (by omega) hT
    rw [forth hd hP, ← he, str_self] at h
    exact h

set_option maxHeartbeats 8000000 in
set_option maxRecDepth 100000 in
theorem walk (v : List UInt8) (k n : Int) (S : ByteArray) (hv : v.length ≤ 100) (hS : S.size ≤ 100) (W : World) (hT : TabC W) : Calls Tryd.prog 7 #[.agg #[.string (str v), .int .i64 k, .int .i64 n], .string S] W fun e w' => e = .returned (.bool true) ∧ Keeps [] W w' := by
  have Aw := Lib.hid (fun (w' : World) (k : Keeps [] W w') => awake_any w' (hT.kept k))
  have HT := Lib.hid (fun (w' : World) (k : Keeps [] W w') => hT.kept k)
  have Np : Hid (∀ w' : World, Keeps [] W w' → Calls Tryd.prog 11 #[.agg #[.string (str v), .int .i64 k, .int .i64 n]] w' fun e w2 => e = .returned (.tuple #[.string (str (prtOf v k n).1), .int .i64 (prtOf v k n).2]) ∧ Keeps [] w' w2) := fun w' kk => nprint_any v k n w' (by omega) (hT.kept kk)
  have Rd := read_any S hS
  have Bk : Hid ((prtOf v k n).2 = 0 → ∀ w' : World, Calls Tryd.prog 19 #[.string (str (prtOf v k n).1)] w' fun e w2 => e = .returned (.tuple #[.agg #[.string (str v), .int .i64 k, .int .i64 n], .int .i64 0]) ∧ Keeps [] w' w2) := fun h w' => by
    obtain ⟨h0, h1, h2, h3, h4⟩ := back h
    have hp := nparse_any v (hexm 10 n.toNat) 47 (letterOf k) 47 w' h1 (by omega) (hexm_length 10 _)
    rw [h4] at hp
    rw [h3]
    have e : ((n.toNat : Nat) : Int) = n := by omega
    dsimp only at hp
    rw [e] at hp
    exact hp
  obtain ⟨T, e, h1⟩ : ∃ T e, prtOf v k n = (T, e) := ⟨_, _, rfl⟩
  rw [h1] at Np Bk
  dsimp only at Np Bk
  have hi : ¬ (100 : Int) < (v.length : Int) := by omega
  have hj : ¬ (100 : Int) < (S.size : Int) := by omega
  have HO := Lib.hid (heap_at (w := W) (o := .cells #[.string (str v), .int .i64 k, .int .i64 n] 23 (0, 0)) rfl)
  have K0 := Lib.hid ((Keeps.refl [] W).alloc (.cells #[.string (str v), .int .i64 k, .int .i64 n] 23 (0, 0)))
  have KC : Hid (∀ w', Keeps [] (W.alloc (.cells #[.string (str v), .int .i64 k, .int .i64 n] 23)) w' → w'.cell? ⟨W.heap.size, 0, none⟩ = some (.string (str v)) ∧ w'.cell? ⟨W.heap.size, 1, none⟩ = some (.int .i64 k) ∧ w'.cell? ⟨W.heap.size, 2, none⟩ = some (.int .i64 n)) :=
    fun w' kk => ⟨cell_of_heap (kk.some HO.out (by simp)) 0, cell_of_heap (kk.some HO.out (by simp)) 1, cell_of_heap (kk.some HO.out (by simp)) 2⟩
  have CA : Hid (∀ (a b c : Value) (w : World) (g : Nat), g = w.heap.size → (w.alloc (.cells #[a, b, c] 23)).cell? ⟨g, 0, none⟩ = some a ∧ (w.alloc (.cells #[a, b, c] 23)).cell? ⟨g, 1, none⟩ = some b ∧ (w.alloc (.cells #[a, b, c] 23)).cell? ⟨g, 2, none⟩ = some c) :=
    fun a b c w g h => ⟨cell_of_heap (heap_at h) 0, cell_of_heap (heap_at h) 1, cell_of_heap (heap_at h) 2⟩
  have KA : Hid (∀ (w0 w1 : World) (o : Obj), Keeps [] w0 w1 → Keeps [] w0 (w1.alloc o)) := fun w0 w1 o h => h.alloc o
  obtain ⟨c0, c1, c2⟩ := KC.out _ (Keeps.refl [] _)
  clear h1 hT hv hS
  by_cases he : e = 0
  · subst he
    have Bk2 := Lib.hid (Bk.out rfl)
    clear Bk
    cases Rd with
    | none Rn =>
      go_enter Tryd.func7, Tryd.ntmps7
      go_wp2_with (first
        | (go_at_call 11; (with_reducible refine (Np.out _ K0.out).mono ?_); rintro e w1 ⟨rfl, k1⟩)
        | (go_at_call 19; (with_reducible refine (Bk2.out _).mono ?_); rintro e w2 ⟨rfl, k2⟩; have K2 := KA.out _ _ (.cells #[.string (str v), .int .i64 k, .int .i64 n] 23) (KT k1 k2); clear c0 c1 c2; obtain ⟨c0, c1, c2⟩ := KC.out _ K2; obtain ⟨d0, d1, d2⟩ := CA.out (.string (str v)) (.int .i64 k) (.int .i64 n) w2 _ rfl)
        | (go_at_call 19; (with_reducible refine (Rn.out _).mono ?_); rintro e w3 ⟨rfl, k3⟩; have K3 := KA.out _ _ (.cells #[.string (str []), .int .i64 0, .int .i64 0] 23) (KT K2 k3))
        | (go_at_call 10; (with_reducible refine (Aw.out _ (KT K0.out K3)).mono ?_); rintro e w4 ⟨rfl, k4⟩))
      go_ret
      exact ⟨rfl, KT (KT K0.out K3) k4⟩
    | some u j m Rn Pq =>
      go_enter Tryd.func7, Tryd.ntmps7
      go_wp2_with (first
        | (go_at_call 11; (with_reducible refine (Np.out _ K0.out).mono ?_); rintro e w1 ⟨rfl, k1⟩)
        | (go_at_call 19; (with_reducible refine (Bk2.out _).mono ?_); rintro e w2 ⟨rfl, k2⟩; have K2 := KA.out _ _ (.cells #[.string (str v), .int .i64 k, .int .i64 n] 23) (KT k1 k2); clear c0 c1 c2; obtain ⟨c0, c1, c2⟩ := KC.out _ K2; obtain ⟨d0, d1, d2⟩ := CA.out (.string (str v)) (.int .i64 k) (.int .i64 n) w2 _ rfl)
        | (go_at_call 19; (with_reducible refine (Rn.out _).mono ?_); rintro e w3 ⟨rfl, k3⟩; have K3 := KA.out _ _ (.cells #[.string (str u), .int .i64 j, .int .i64 m] 23) (KT K2 k3); obtain ⟨f0, f1, f2⟩ := CA.out (.string (str u)) (.int .i64 j) (.int .i64 m) w3 _ rfl)
        | (go_at_call 11; (with_reducible refine (Pq.out _ (HT.out _ (KT K0.out K3))).mono ?_); rintro e w4 ⟨rfl, k4⟩)
        | (go_at_call 10; (with_reducible refine (Aw.out _ (KT (KT K0.out K3) k4)).mono ?_); rintro e w5 ⟨rfl, k5⟩))
      go_ret
      exact ⟨rfl, KT (KT (KT K0.out K3) k4) k5⟩
  · have hb : (e == 0) = false := by rw [beq_eq_false_iff_ne]; exact he
    clear he Bk
    cases Rd with
    | none Rn =>
      go_enter Tryd.func7, Tryd.ntmps7
      go_wp2_with (first
        | (go_at_call 11; (with_reducible refine (Np.out _ K0.out).mono ?_); rintro e w1 ⟨rfl, k1⟩)
        | (go_at_call 19; (with_reducible refine (Rn.out _).mono ?_); rintro e w3 ⟨rfl, k3⟩; have K3 := KA.out _ _ (.cells #[.string (str []), .int .i64 0, .int .i64 0] 23) (KT k1 k3))
        | (go_at_call 10; (with_reducible refine (Aw.out _ (KT K0.out K3)).mono ?_); rintro e w4 ⟨rfl, k4⟩))
      go_ret
      exact ⟨rfl, KT (KT K0.out K3) k4⟩
    | some u j m Rn Pq =>
      go_enter Tryd.func7, Tryd.ntmps7
      go_wp2_with (first
        | (go_at_call 11; (with_reducible refine (Np.out _ K0.out).mono ?_); rintro e w1 ⟨rfl, k1⟩)
        | (go_at_call 19; (with_reducible refine (Rn.out _).mono ?_); rintro e w3 ⟨rfl, k3⟩; have K3 := KA.out _ _ (.cells #[.string (str u), .int .i64 j, .int .i64 m] 23) (KT k1 k3); obtain ⟨f0, f1, f2⟩ := CA.out (.string (str u)) (.int .i64 j) (.int .i64 m) w3 _ rfl)
        | (go_at_call 11; (with_reducible refine (Pq.out _ (HT.out _ (KT K0.out K3))).mono ?_); rintro e w4 ⟨rfl, k4⟩)
        | (go_at_call 10; (with_reducible refine (Aw.out _ (KT (KT K0.out K3) k4)).mono ?_); rintro e w5 ⟨rfl, k5⟩))
      go_ret
      exact ⟨rfl, KT (KT (KT K0.out K3) k4) k5⟩
end Go.Proofs.YtdjhlnkkbpmfmaaDoor.lawNamesBack
