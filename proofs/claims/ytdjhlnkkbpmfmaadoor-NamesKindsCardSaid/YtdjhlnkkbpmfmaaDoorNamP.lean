/- Layer 6, plain: what names are. -/
import Derived.Test.YtdjhlnkkbpmfmaaDoorBase
namespace Go.Proofs.YtdjhlnkkbpmfmaaDoor

/-- May a byte be in a volume's name? -/
def plainB (b : UInt8) : Bool := (decide (97 ≤ b.toNat) && decide (b.toNat ≤ 122)) || (decide (48 ≤ b.toNat) && decide (b.toNat ≤ 57)) || decide (b.toNat = 45)
def volOk (s : List UInt8) : Bool := decide (1 ≤ s.length ∧ s.length ≤ 32) && s.all plainB
def letterOf (k : Int) : UInt8 := if k = 1 then 100 else if k = 2 then 99 else if k = 3 then 109 else 101
def preOf (v : List UInt8) (k : Int) : List UInt8 × Int := if volOk v = false then ([], 1) else if k < 1 ∨ 4 < k then ([], 14) else (v ++ [47, letterOf k, 47], 0)
/-- A digit. -/
def hexd (d : Nat) : UInt8 := if d ≤ 9 then UInt8.ofNat (48 + d) else UInt8.ofNat (87 + d)
/-- The last m digits of a number. -/
def hexm : Nat → Nat → List UInt8
  | 0, _ => []
  | m + 1, n => hexm m (n / 16) ++ [hexd (n % 16)]
/-- Its digits, as many as it has. -/
def hexs (n : Nat) : List UInt8 := if _h : n < 16 then [hexd n] else hexs (n / 16) ++ [hexd (n % 16)]
termination_by n
decreasing_by omega

theorem hexm_length (m n : Nat) : (hexm m n).length = m := by
  induction m generalizing n with
  | zero => rfl
  | succ m ih => simp [hexm, ih]
theorem hexm_zero (m : Nat) : hexm m 0 = List.replicate m 48 := by
  induction m with
  | zero => rfl
  | succ m ih => rw [hexm, Nat.zero_div, ih, List.replicate_succ']; rfl
theorem hexs_small {n : Nat} (h : n < 16) : hexs n = [hexd n] := by rw [hexs]; simp [h]
theorem hexs_big {n : Nat} (h : ¬ n < 16) : hexs n = hexs (n / 16) ++ [hexd (n % 16)] := by rw [hexs]; simp [h]
theorem hexs_pos (n : Nat) : 1 ≤ (hexs n).length := by
  by_cases h : n < 16
  · rw [hexs_small h]; simp
  · rw [hexs_big h]; simp
/-- Nulls ahead of the digits. -/
theorem hexm_eq : ∀ (m n : Nat), n < 16 ^ (m + 1) → (hexs n).length ≤ m + 1 ∧ hexm (m + 1) n = List.replicate (m + 1 - (hexs n).length) 48 ++ hexs n := by
  intro m
  induction m with
  | zero =>
    intro n h
    have h : n < 16 := by simpa using h
    rw [hexs_small h]
    refine ⟨by simp, ?_⟩
    simp only [hexm, Nat.mod_eq_of_lt h]
    rfl
  | succ m ih =>
    intro n h
    by_cases h16 : n < 16
    · rw [hexs_small h16]
      refine ⟨by simp, ?_⟩
      rw [hexm, Nat.div_eq_of_lt h16, Nat.mod_eq_of_lt h16, hexm_zero]
      rfl
    · have hd : n / 16 < 16 ^ (m + 1) := by
        rw [Nat.div_lt_iff_lt_mul (by omega), ← Nat.pow_succ]
        exact h
      obtain ⟨hl, he⟩ := ih _ hd
      rw [hexs_big h16]
      refine ⟨by simp only [List.length_append, List.length_singleton]; omega, ?_⟩
      rw [hexm, he, List.length_append, List.length_singleton, List.append_assoc]
      congr 2
      omega
theorem hexd_toNat {d : Nat} (h : d < 16) : (hexd d).toNat = if d ≤ 9 then 48 + d else 87 + d := by
  unfold hexd
  split <;> simp only [UInt8.toNat_ofNat'] <;> omega

/-- A name's text. -/
def prtOf (v : List UInt8) (k n : Int) : List UInt8 × Int := if (preOf v k).2 ≠ 0 then ([], (preOf v k).2) else if n < 0 ∨ 1099511627776 ≤ n then ([], 31) else ((preOf v k).1 ++ hexm 10 n.toNat, 0)

theorem volOk_le {v : List UInt8} (h : volOk v = true) : 1 ≤ v.length ∧ v.length ≤ 32 ∧ ∀ b ∈ v, plainB b = true := by
  unfold volOk at h
  simp only [Bool.and_eq_true, decide_eq_true_eq, List.all_eq_true] at h
  exact ⟨h.1.1, h.1.2, h.2⟩
theorem preOf_ok {v : List UInt8} {k : Int} (h : (preOf v k).2 = 0) : volOk v = true ∧ 1 ≤ k ∧ k ≤ 4 ∧ preOf v k = (v ++ [47, letterOf k, 47], 0) := by
  unfold preOf at h ⊢
  by_cases hv : volOk v = false
  · rw [if_pos hv] at h; simp at h
  · rw [if_neg hv] at h ⊢
    by_cases hk : k < 1 ∨ 4 < k
    · rw [if_pos hk] at h; simp at h
    · rw [if_neg hk]
      exact ⟨by simpa using hv, by omega, by omega, rfl⟩
theorem preOf_length (v : List UInt8) (k : Int) : (preOf v k).1.length ≤ 35 := by
  unfold preOf
  split
  · simp
  · split
    · simp
    · rename_i h _
      have := (volOk_le (by simpa using h)).2.1
      simp only [List.length_append, List.length_cons, List.length_nil]
      omega
theorem prtOf_length (v : List UInt8) (k n : Int) : (prtOf v k n).1.length ≤ 45 := by
  unfold prtOf
  split
  · simp
  · split
    · simp
    · have := preOf_length v k
      rw [List.length_append, hexm_length]
      omega
end Go.Proofs.YtdjhlnkkbpmfmaaDoor
