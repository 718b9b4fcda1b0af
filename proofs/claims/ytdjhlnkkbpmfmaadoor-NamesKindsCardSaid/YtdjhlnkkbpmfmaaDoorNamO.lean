/- Layer 6, plain: texts of one volume and kind are in order as their numbers are, and a text begins with its own Prefix alone. -/
import Derived.Test.YtdjhlnkkbpmfmaaDoorNamC
namespace Go.Proofs.YtdjhlnkkbpmfmaaDoor

theorem plain_not {v : List UInt8} (h : volOk v = true) : (47 : UInt8) ∉ v := fun hm => by
  have := (volOk_le h).2.2 47 hm
  exact absurd this (by decide)
theorem cut_same : ∀ (a b r q : List UInt8), (47 : UInt8) ∉ a → (47 : UInt8) ∉ b → (b ++ 47 :: q) <+: (a ++ 47 :: r) → a = b ∧ q <+: r
  | [], [], r, q, _, _, h => by simpa using h
  | [], d :: b, r, q, _, hb, h => by
    obtain ⟨t, ht⟩ := h
    simp only [List.cons_append, List.nil_append, List.cons.injEq] at ht
    exact absurd (by simp [ht.1]) hb
  | c :: a, [], r, q, ha, _, h => by
    obtain ⟨t, ht⟩ := h
    simp only [List.cons_append, List.nil_append, List.cons.injEq] at ht
    exact absurd (by simp [ht.1]) ha
  | c :: a, d :: b, r, q, ha, hb, h => by
    obtain ⟨t, ht⟩ := h
    simp only [List.cons_append, List.cons.injEq] at ht
    obtain ⟨rfl, ht⟩ := ht
    obtain ⟨e, h2⟩ := cut_same a b r q (fun h => ha (by simp [h])) (fun h => hb (by simp [h])) ⟨t, by simpa using ht⟩
    exact ⟨by rw [e], h2⟩
theorem letter_inj {k j : Int} (h1 : 1 ≤ k) (h2 : k ≤ 4) (h3 : 1 ≤ j) (h4 : j ≤ 4) (h : letterOf k = letterOf j) : k = j := by
  rcases (show k = 1 ∨ k = 2 ∨ k = 3 ∨ k = 4 by omega) with rfl | rfl | rfl | rfl <;> rcases (show j = 1 ∨ j = 2 ∨ j = 3 ∨ j = 4 by omega) with rfl | rfl | rfl | rfl <;> first | rfl | exact absurd h (by decide)

/-- A text begins with its own Prefix alone. -/
theorem begins_only {v u : List UInt8} {k j : Int} (hv : volOk v = true) (hu : volOk u = true) (h1 : 1 ≤ k) (h2 : k ≤ 4) (h3 : 1 ≤ j) (h4 : j ≤ 4) (X : List UInt8)
    (h : (u ++ [47, letterOf j, 47]) <+: (v ++ [47, letterOf k, 47]) ++ X) : v = u ∧ k = j := by
  have h' : (u ++ 47 :: [letterOf j, 47]) <+: (v ++ 47 :: ([letterOf k, 47] ++ X)) := by simpa using h
  obtain ⟨e, t, ht⟩ := cut_same v u _ _ (plain_not hv) (plain_not hu) h'
  simp only [List.cons_append, List.cons.injEq] at ht
  exact ⟨e, letter_inj h1 h2 h3 h4 ht.1.symm⟩

theorem less_same : ∀ (P x y : List UInt8), Op.bytesLess (P ++ x) (P ++ y) = Op.bytesLess x y
  | [], _, _ => rfl
  | c :: P, x, y => by
    rw [List.cons_append, List.cons_append, Op.bytesLess, less_same P x y]
    simp
theorem hexd_less : ∀ (d e : Fin 16), decide (hexd d.val < hexd e.val) = decide (d.val < e.val) := by decide
theorem hexd_same : ∀ (d e : Fin 16), (hexd d.val == hexd e.val) = decide (d.val = e.val) := by decide
theorem hexm_less (a b : Nat) : ∀ k, Op.bytesLess (hexm k a) (hexm k b) = decide (a % 16 ^ k < b % 16 ^ k) ∧ (hexm k a = hexm k b ↔ a % 16 ^ k = b % 16 ^ k)
  | 0 => ⟨by simp [hexm, Op.bytesLess, Nat.mod_one], by simp [hexm, Nat.mod_one]⟩
  | k + 1 => by
    obtain ⟨h1, h2⟩ := hexm_less a b k
    have hp : 0 < 16 ^ k := Nat.pow_pos (by omega)
    have ea : a % 16 ^ (k + 1) = a % 16 ^ k + 16 ^ k * (a / 16 ^ k % 16) := by rw [Nat.pow_succ, Nat.mod_mul]
    have eb : b % 16 ^ (k + 1) = b % 16 ^ k + 16 ^ k * (b / 16 ^ k % 16) := by rw [Nat.pow_succ, Nat.mod_mul]
    have la : a % 16 ^ k < 16 ^ k := Nat.mod_lt _ hp
    have lb : b % 16 ^ k < 16 ^ k := Nat.mod_lt _ hp
    have da : a / 16 ^ k % 16 < 16 := Nat.mod_lt _ (by omega)
    have db : b / 16 ^ k % 16 < 16 := Nat.mod_lt _ (by omega)
    have l1 := hexd_less ⟨_, da⟩ ⟨_, db⟩
    have l2 := hexd_same ⟨_, da⟩ ⟨_, db⟩
    simp only at l1 l2
    rw [hexm_front, hexm_front, Op.bytesLess, h1, ea, eb]
    generalize a / 16 ^ k % 16 = d at *
    generalize b / 16 ^ k % 16 = e at *
    generalize a % 16 ^ k = x at *
    generalize b % 16 ^ k = y at *
    generalize 16 ^ k = P at *
    rcases Nat.lt_trichotomy d e with h | h | h
    · have : P * (d + 1) ≤ P * e := Nat.mul_le_mul_left _ h
      rw [Nat.mul_add] at this
      have n1 : ¬ d = e := by omega
      have hne : hexd d ≠ hexd e := fun hh => by rw [hh, beq_self_eq_true] at l2; exact n1 (by simpa using l2.symm)
      constructor
      · have hx : x + P * d < y + P * e := by omega
        rw [l1, decide_eq_true h, decide_eq_true hx]
        rfl
      · constructor
        · intro hh
          exact absurd (List.cons.inj hh).1 hne
        · intro hh
          omega
    · subst h
      constructor
      · rw [l1, decide_eq_false (Nat.lt_irrefl d), beq_self_eq_true, Bool.false_or, Bool.true_and]
        congr 1
        rw [eq_iff_iff]
        omega
      · rw [List.cons_eq_cons]
        constructor
        · rintro ⟨_, hh⟩
          rw [h2.1 hh]
        · intro hh
          exact ⟨rfl, h2.2 (by omega)⟩
    · have : P * (e + 1) ≤ P * d := Nat.mul_le_mul_left _ h
      rw [Nat.mul_add] at this
      have n1 : ¬ d = e := by omega
      have hne : hexd d ≠ hexd e := fun hh => by rw [hh, beq_self_eq_true] at l2; exact n1 (by simpa using l2.symm)
      constructor
      · have hx : ¬ x + P * d < y + P * e := by omega
        have hy : ¬ d < e := by omega
        rw [l1, l2, decide_eq_false hy, decide_eq_false n1, decide_eq_false hx]
        rfl
      · constructor
        · intro hh
          exact absurd (List.cons.inj hh).1 hne
        · intro hh
          omega
/-- .. and so are the texts. -/
theorem texts_order (P : List UInt8) {a b : Nat} (ha : a < 1099511627776) (hb : b < 1099511627776) : Op.bytesLess (P ++ hexm 10 a) (P ++ hexm 10 b) = decide (a < b) ∧ ((P ++ hexm 10 a == P ++ hexm 10 b) = decide (a = b)) := by
  obtain ⟨h1, h2⟩ := hexm_less a b 10
  rw [Nat.mod_eq_of_lt (by omega), Nat.mod_eq_of_lt (by omega)] at h1 h2
  refine ⟨by rw [less_same, h1], ?_⟩
  rw [Bool.eq_iff_iff, beq_iff_eq, decide_eq_true_eq, List.append_cancel_left_eq]
  exact h2
end Go.Proofs.YtdjhlnkkbpmfmaaDoor
