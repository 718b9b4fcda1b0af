/- NamesOrder, walked. -/
import Derived.Test.YtdjhlnkkbpmfmaaDoorNamN
import Derived.Test.YtdjhlnkkbpmfmaaDoorNamO
namespace Go.Proofs.YtdjhlnkkbpmfmaaDoor.lawNamesOrder
open Go.RowKit

theorem two_cells {W : World} {x0 x1 x2 y0 y1 y2 : Value} {t : TypeId} : ∀ w', Keeps [] ((W.alloc (.cells #[x0, x1, x2] t)).alloc (.cells #[y0, y1, y2] t)) w' →
    (w'.cell? ⟨W.heap.size, 0, none⟩ = some x0 ∧ w'.cell? ⟨W.heap.size, 1, none⟩ = some x1 ∧ w'.cell? ⟨W.heap.size, 2, none⟩ = some x2) ∧ (w'.cell? ⟨W.heap.size + 1, 0, none⟩ = some y0 ∧ w'.cell? ⟨W.heap.size + 1, 1, none⟩ = some y1 ∧ w'.cell? ⟨W.heap.size + 1, 2, none⟩ = some y2) := fun w' k => by
  have h1 := k.some (heap_was (heap_at (w := W) (o := .cells #[x0, x1, x2] t (0, 0)) rfl)) (by simp)
  have h2 := k.some (heap_at (w := W.alloc (.cells #[x0, x1, x2] t)) (o := .cells #[y0, y1, y2] t (0, 0)) (k := W.heap.size + 1) (by simp)) (by simp)
  exact ⟨⟨cell_of_heap h1 0, cell_of_heap h1 1, cell_of_heap h1 2⟩, cell_of_heap h2 0, cell_of_heap h2 1, cell_of_heap h2 2⟩

set_option maxHeartbeats 4000000 in
set_option maxRecDepth 100000 in
theorem walk_long (s t : ByteArray) (k n j m : Int) (hs : 100 < s.size ∨ 100 < t.size) (W : World) (hT : TabC W) : Calls Tryd.prog 5 #[.agg #[.string s, .int .i64 k, .int .i64 n], .agg #[.string t, .int .i64 j, .int .i64 m]] W fun e w' => e = .returned (.bool true) ∧ Keeps [] W w' := by
  have Aw := Lib.hid (fun (w' : World) (k : Keeps [] W w') => awake_any w' (hT.kept k))
  have K0 : Hid (Keeps [] W ((W.alloc (.cells #[.string s, .int .i64 k, .int .i64 n] 23)).alloc (.cells #[.string t, .int .i64 j, .int .i64 m] 23))) := ((Keeps.refl [] W).alloc _).alloc _
  obtain ⟨⟨c0, c1, c2⟩, d0, d1, d2⟩ := two_cells (W := W) (x0 := .string s) (x1 := .int .i64 k) (x2 := .int .i64 n) (y0 := .string t) (y1 := .int .i64 j) (y2 := .int .i64 m) (t := 23) _ (Keeps.refl [] _)
  clear hT c1 c2 d1 d2
  by_cases h1 : 100 < s.size
  · have hi : (100 : Int) < (s.size : Int) := by omega
    clear hs
    go_enter Tryd.func5, Tryd.ntmps5
    go_wp2_with (go_at_call 10; (with_reducible refine (Aw.out _ K0.out).mono ?_); rintro e w1 ⟨rfl, k1⟩)
    go_ret
    exact ⟨rfl, KT K0.out k1⟩
  · have hi : ¬ (100 : Int) < (s.size : Int) := by omega
    have hj : (100 : Int) < (t.size : Int) := by omega
    clear hs
    go_enter Tryd.func5, Tryd.ntmps5
    go_wp2_with (go_at_call 10; (with_reducible refine (Aw.out _ K0.out).mono ?_); rintro e w1 ⟨rfl, k1⟩)
    go_ret
    exact ⟨rfl, KT K0.out k1⟩

/-- What the walk needs of two texts: s, the Prefix p, t; what they say. -/
structure Told (v u : List UInt8) (k n j m : Int) (S p T : List UInt8) (e f g : Int) : Prop where
  same : e = 0 → f = 0 → v = u → k = j → (p.length ≤ S.length ∧ S.take p.length = p)
  other : e = 0 → f = 0 → ¬ (v = u ∧ k = j) → p.length ≤ S.length → ¬ S.take p.length = p
  order : e = 0 → g = 0 → v = u → k = j → Op.bytesLess S T = decide (n < m) ∧ (S == T) = decide (n = m)

theorem told (v u : List UInt8) (k n j m : Int) : Told v u k n j m (prtOf v k n).1 (preOf u j).1 (prtOf u j m).1 (prtOf v k n).2 (preOf u j).2 (prtOf u j m).2 := by
  have hprt : ∀ (v : List UInt8) (k n : Int), (prtOf v k n).2 = 0 → (preOf v k).2 = 0 ∧ 0 ≤ n ∧ n < 1099511627776 ∧ (prtOf v k n).1 = (preOf v k).1 ++ hexm 10 n.toNat := fun v k n h => by
    unfold prtOf at h ⊢
    by_cases h1 : (preOf v k).2 ≠ 0
    · rw [if_pos h1] at h; exact absurd h h1
    · rw [if_neg h1] at h ⊢
      by_cases h2 : n < 0 ∨ 1099511627776 ≤ n
      · rw [if_pos h2] at h; simp at h
      · rw [if_neg h2]
        exact ⟨Classical.not_not.1 h1, by omega, by omega, rfl⟩
  refine ⟨fun he hf hvu hkj => ?_, fun he hf hne hle htk => ?_, fun he hg hvu hkj => ?_⟩
  · subst hvu hkj
    obtain ⟨_, _, _, e1⟩ := hprt _ _ _ he
    rw [e1]
    exact ⟨by simp, List.take_left⟩
  · obtain ⟨h0, _, _, e1⟩ := hprt _ _ _ he
    obtain ⟨a1, a2, a3, a4⟩ := preOf_ok h0
    obtain ⟨b1, b2, b3, b4⟩ := preOf_ok hf
    apply hne
    rw [e1, a4, b4] at htk
    refine begins_only a1 b1 a2 a3 b2 b3 (hexm 10 n.toNat) ?_
    have := List.take_prefix (u ++ [47, letterOf j, 47]).length ((v ++ [47, letterOf k, 47]) ++ hexm 10 n.toNat)
    rw [htk] at this
    exact this
  · subst hvu hkj
    obtain ⟨_, n0, n1, e1⟩ := hprt _ _ _ he
    obtain ⟨_, m0, m1, e2⟩ := hprt _ _ _ hg
    obtain ⟨h1, h2⟩ := texts_order (preOf v k).1 (a := n.toNat) (b := m.toNat) (by omega) (by omega)
    rw [e1, e2, h1, h2]
    constructor
    · congr 1
      rw [eq_iff_iff]
      omega
    · congr 1
      rw [eq_iff_iff]
      omega

set_option maxHeartbeats 8000000 in
set_option maxRecDepth 100000 in
theorem walk (v u : List UInt8) (k n j m : Int) (hv : v.length ≤ 100) (hu : u.length ≤ 100) (W : World) (hT : TabC W) : Calls Tryd.prog 5 #[.agg #[.string (str v), .int .i64 k, .int .i64 n], .agg #[.string (str u), .int .i64 j, .int .i64 m]] W fun e w' => e = .returned (.bool true) ∧ Keeps [] W w' := by
  have Aw := Lib.hid (fun (w' : World) (k : Keeps [] W w') => awake_any w' (hT.kept k))
  have Np : Hid (∀ w' : World, Keeps [] W w' → Calls Tryd.prog 11 #[.agg #[.string (str v), .int .i64 k, .int .i64 n]] w' fun e w2 => e = .returned (.tuple #[.string (str (prtOf v k n).1), .int .i64 (prtOf v k n).2]) ∧ Keeps [] w' w2) := fun w' kk => nprint_any v k n w' (by omega) (hT.kept kk)
  have Nq : Hid (∀ w' : World, Keeps [] W w' → Calls Tryd.prog 11 #[.agg #[.string (str u), .int .i64 j, .int .i64 m]] w' fun e w2 => e = .returned (.tuple #[.string (str (prtOf u j m).1), .int .i64 (prtOf u j m).2]) ∧ Keeps [] w' w2) := fun w' kk => nprint_any u j m w' (by omega) (hT.kept kk)
  have Nx := Lib.hid (fun w' => nprefix_any u j w' (by omega))
  have Td := Lib.hid (told v u k n j m)
  have l1 := prtOf_length v k n
  have l2 := preOf_length u j
  have l3 := prtOf_length u j m
  obtain ⟨S, e, h1⟩ : ∃ S e, prtOf v k n = (S, e) := ⟨_, _, rfl⟩
  obtain ⟨p, f, h2⟩ : ∃ p f, preOf u j = (p, f) := ⟨_, _, rfl⟩
  obtain ⟨T, g, h3⟩ : ∃ T g, prtOf u j m = (T, g) := ⟨_, _, rfl⟩
  rw [h1] at Np Td l1
  rw [h2] at Nx Td l2
  rw [h3] at Nq Td l3
  dsimp only at Np Nx Nq Td l1 l2 l3
  clear h1 h2 h3 hT
  have hi : ¬ (100 : Int) < (v.length : Int) := by omega
  have hj : ¬ (100 : Int) < (u.length : Int) := by omega
  have K0 : Hid (Keeps [] W ((W.alloc (.cells #[.string (str v), .int .i64 k, .int .i64 n] 23)).alloc (.cells #[.string (str u), .int .i64 j, .int .i64 m] 23))) := ((Keeps.refl [] W).alloc _).alloc _
  have KC := Lib.hid (two_cells (W := W) (x0 := .string (str v)) (x1 := .int .i64 k) (x2 := .int .i64 n) (y0 := .string (str u)) (y1 := .int .i64 j) (y2 := .int .i64 m) (t := 23))
  obtain ⟨⟨c0, c1, c2⟩, d0, d1, d2⟩ := KC.out _ (Keeps.refl [] _)
  clear hv hu
  by_cases he : e = 0
  · subst he
    by_cases hf : f = 0
    · subst hf
      have hx : (str S).extract 0 p.length = str (S.take p.length) := by rw [str_extract, str_data, List.drop_zero, Nat.sub_zero]
      by_cases hvk : v = u ∧ k = j
      · obtain ⟨rfl, rfl⟩ := hvk
        obtain ⟨hle, htk⟩ := Td.out.same rfl rfl rfl rfl
        rw [htk] at hx
        have hlei : (p.length : Int) ≤ (S.length : Int) := by omega
        have hO := fun hg => Td.out.order rfl hg rfl rfl
        clear htk Td
        by_cases hg : g = 0
        · subst hg
          obtain ⟨o1, o2⟩ := hO rfl
          have o3 : (n == m) = decide (n = m) := rfl
          obtain ⟨c, hc⟩ : ∃ c, decide (n < m) = c := ⟨_, rfl⟩
          obtain ⟨d, hd⟩ : ∃ d, decide (n = m) = d := ⟨_, rfl⟩
          rw [hc] at o1
          rw [hd] at o2 o3
          clear hO hd
          go_enter Tryd.func5, Tryd.ntmps5
          go_wp2_with (first
            | (go_at_call 11; (with_reducible refine (Np.out _ K0.out).mono ?_); rintro e w1 ⟨rfl, k1⟩; clear c0 c1 c2 d0 d1 d2; obtain ⟨⟨c0, c1, c2⟩, d0, d1, d2⟩ := KC.out _ k1)
            | (go_at_call 13; (with_reducible refine (Nx.out _).mono ?_); rintro e w2 ⟨rfl, k2⟩; have K2 := KT k1 k2; clear c0 c1 c2 d0 d1 d2; obtain ⟨⟨c0, c1, c2⟩, d0, d1, d2⟩ := KC.out _ K2)
            | (go_at_call 11; (with_reducible refine (Nq.out _ (KT K0.out K2)).mono ?_); rintro e w3 ⟨rfl, k3⟩; have K3 := KT K2 k3; clear c0 c1 c2 d0 d1 d2; obtain ⟨⟨c0, c1, c2⟩, d0, d1, d2⟩ := KC.out _ K3)
            | (go_at_call 10; (with_reducible refine (Aw.out _ (KT K0.out K3)).mono ?_); rintro e w4 ⟨rfl, k4⟩))
          go_ret
          exact ⟨rfl, KT (KT K0.out K3) k4⟩
        · have hb : (g != 0) = true := bne_iff_ne.2 hg
          clear hO hg
          go_enter Tryd.func5, Tryd.ntmps5
          go_wp2_with (first
            | (go_at_call 11; (with_reducible refine (Np.out _ K0.out).mono ?_); rintro e w1 ⟨rfl, k1⟩; clear c0 c1 c2 d0 d1 d2; obtain ⟨⟨c0, c1, c2⟩, d0, d1, d2⟩ := KC.out _ k1)
            | (go_at_call 13; (with_reducible refine (Nx.out _).mono ?_); rintro e w2 ⟨rfl, k2⟩; have K2 := KT k1 k2; clear c0 c1 c2 d0 d1 d2; obtain ⟨⟨c0, c1, c2⟩, d0, d1, d2⟩ := KC.out _ K2)
            | (go_at_call 11; (with_reducible refine (Nq.out _ (KT K0.out K2)).mono ?_); rintro e w3 ⟨rfl, k3⟩; have K3 := KT K2 k3; clear c0 c1 c2 d0 d1 d2; obtain ⟨⟨c0, c1, c2⟩, d0, d1, d2⟩ := KC.out _ K3)
            | (go_at_call 10; (with_reducible refine (Aw.out _ (KT K0.out K3)).mono ?_); rintro e w4 ⟨rfl, k4⟩))
          go_ret
          exact ⟨rfl, KT (KT K0.out K3) k4⟩
      · have hoth := Td.out.other rfl rfl hvk
        clear Td
        have hw : (v == u) = false ∨ ((v == u) = true ∧ (k == j) = false) := by
          by_cases h1 : v = u
          · right
            exact ⟨by rw [h1]; exact beq_self_eq_true u, by rw [beq_eq_false_iff_ne]; exact fun h2 => hvk ⟨h1, h2⟩⟩
          · left
            rw [beq_eq_false_iff_ne]
            exact h1
        have hbg : ((S.length : Int) < (p.length : Int)) ∨ ((p.length : Int) ≤ (S.length : Int) ∧ (S.take p.length == p) = false) := by
          by_cases hle : p.length ≤ S.length
          · right
            exact ⟨by omega, by rw [beq_eq_false_iff_ne]; exact hoth hle⟩
          · left
            omega
        have hgg : (g != 0) = true ∨ (g != 0) = false := by cases (g != 0) <;> simp
        clear hvk hoth
        generalize S.take p.length = Q at *
        rcases hw with hw | ⟨hw, hkj⟩ <;> rcases hbg with hle | ⟨hle, hq⟩ <;> rcases hgg with hb | hb
        all_goals
          go_enter Tryd.func5, Tryd.ntmps5
          go_wp2_with (first
            | (go_at_call 11; (with_reducible refine (Np.out _ K0.out).mono ?_); rintro e w1 ⟨rfl, k1⟩; clear c0 c1 c2 d0 d1 d2; obtain ⟨⟨c0, c1, c2⟩, d0, d1, d2⟩ := KC.out _ k1)
            | (go_at_call 13; (with_reducible refine (Nx.out _).mono ?_); rintro e w2 ⟨rfl, k2⟩; have K2 := KT k1 k2; clear c0 c1 c2 d0 d1 d2; obtain ⟨⟨c0, c1, c2⟩, d0, d1, d2⟩ := KC.out _ K2)
            | (go_at_call 11; (with_reducible refine (Nq.out _ (KT K0.out K2)).mono ?_); rintro e w3 ⟨rfl, k3⟩; have K3 := KT K2 k3; clear c0 c1 c2 d0 d1 d2; obtain ⟨⟨c0, c1, c2⟩, d0, d1, d2⟩ := KC.out _ K3)
            | (go_at_call 10; (with_reducible refine (Aw.out _ (KT K0.out K3)).mono ?_); rintro e w4 ⟨rfl, k4⟩))
          go_ret
          exact ⟨rfl, KT (KT K0.out K3) k4⟩
    · have hb : (f != 0) = true := bne_iff_ne.2 hf
      clear Td hf
      go_enter Tryd.func5, Tryd.ntmps5
      go_wp2_with (first
        | (go_at_call 11; (with_reducible refine (Np.out _ K0.out).mono ?_); rintro e w1 ⟨rfl, k1⟩; clear c0 c1 c2 d0 d1 d2; obtain ⟨⟨c0, c1, c2⟩, d0, d1, d2⟩ := KC.out _ k1)
        | (go_at_call 13; (with_reducible refine (Nx.out _).mono ?_); rintro e w2 ⟨rfl, k2⟩; have K2 := KT k1 k2; clear c0 c1 c2 d0 d1 d2; obtain ⟨⟨c0, c1, c2⟩, d0, d1, d2⟩ := KC.out _ K2)
        | (go_at_call 10; (with_reducible refine (Aw.out _ (KT K0.out K2)).mono ?_); rintro e w4 ⟨rfl, k4⟩))
      go_ret
      exact ⟨rfl, KT (KT K0.out K2) k4⟩
  · have hb : (e != 0) = true := bne_iff_ne.2 he
    clear Td he
    go_enter Tryd.func5, Tryd.ntmps5
    go_wp2_with (first
      | (go_at_call 11; (with_reducible refine (Np.out _ K0.out).mono ?_); rintro e w1 ⟨rfl, k1⟩; clear c0 c1 c2 d0 d1 d2; obtain ⟨⟨c0, c1, c2⟩, d0, d1, d2⟩ := KC.out _ k1)
      | (go_at_call 13; (with_reducible refine (Nx.out _).mono ?_); rintro e w2 ⟨rfl, k2⟩; have K2 := KT k1 k2; clear c0 c1 c2 d0 d1 d2; obtain ⟨⟨c0, c1, c2⟩, d0, d1, d2⟩ := KC.out _ K2)
      | (go_at_call 10; (with_reducible refine (Aw.out _ (KT K0.out K2)).mono ?_); rintro e w4 ⟨rfl, k4⟩))
    go_ret
    exact ⟨rfl, KT (KT K0.out K2) k4⟩
end Go.Proofs.YtdjhlnkkbpmfmaaDoor.lawNamesOrder
