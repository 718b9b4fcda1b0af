/- Layer 3, plain: of two numbers the greater one's bytes are the greater ones. -/
import Derived.Test.YtjebldfmkpfafaaWireMath
namespace Go.Proofs.Ytjebldfmkpfafaa
set_option maxRecDepth 100000

theorem bytesLess_num : ∀ (l m : List UInt8), l.length = m.length → Op.bytesLess l m = decide (num l < num m)
  | [], [], _ => by simp [Op.bytesLess]
  | [], _ :: _, h => by simp at h
  | _ :: _, [], h => by simp at h
  | c :: l, d :: m, h => by
    have hl : l.length = m.length := by simpa using h
    have h1 := num_lt l
    have h2 := num_lt m
    rw [hl] at h1
    rw [Op.bytesLess, bytesLess_num l m hl, num_cons, num_cons, hl]
    generalize 256 ^ m.length = P at *
    rw [Bool.eq_iff_iff]
    simp only [Bool.or_eq_true, Bool.and_eq_true, decide_eq_true_eq, beq_iff_eq, UInt8.lt_iff_toNat_lt]
    constructor
    · rintro (h3 | ⟨h3, h4⟩)
      · have : (c.toNat + 1) * P ≤ d.toNat * P := Nat.mul_le_mul_right _ h3
        rw [Nat.add_mul] at this
        omega
      · rw [h3]; omega
    · intro h3
      by_cases h4 : c.toNat < d.toNat
      · exact .inl h4
      · right
        have h5 : c.toNat ≤ d.toNat := by
          apply Nat.le_of_not_lt
          intro h6
          have : (d.toNat + 1) * P ≤ c.toNat * P := Nat.mul_le_mul_right _ h6
          rw [Nat.add_mul] at this
          omega
        have h6 : c.toNat = d.toNat := by omega
        rw [h6] at h3
        exact ⟨UInt8.toNat_inj.1 h6, by omega⟩

theorem lead_rng : ∀ c : Fin 256, vhd (vlead (UInt8.ofNat c.val)) ≤ c.val ∧ (vlead (UInt8.ofNat c.val) = 9 ∨ c.val < vhd (vlead (UInt8.ofNat c.val) + 1)) := by decide +kernel
theorem vhd_mono : ∀ (n m : Fin 10), n.val ≤ m.val → vhd n.val ≤ vhd m.val := by decide +kernel

theorem lead_less {c d : UInt8} (h : vlead c < vlead d) : c.toNat < d.toNat := by
  have h1 := lead_rng ⟨c.toNat, c.toNat_lt⟩
  have h2 := lead_rng ⟨d.toNat, d.toNat_lt⟩
  have h3 := vlead_bd c
  have h4 := vlead_bd d
  simp only [UInt8.ofNat_toNat] at h1 h2
  have h5 := vhd_mono ⟨vlead c + 1, by omega⟩ ⟨vlead d, by omega⟩ h
  simp only [] at h5
  omega

theorem vsz_mono {a b : Nat} (ha : a < 2 ^ 64) (_hb : b < 2 ^ 64) (h : vsz a < vsz b) : a < b := by
  have h1 := vsz_bd a
  have h2 := vsz_bd b
  have h3 := vsz_lt ha (by omega)
  apply Nat.lt_of_not_le
  intro h4
  have := vsz_le (x := b) h1.1 h1.2 (by omega)
  omega

theorem vby_num {x : Nat} (hx : x < 2 ^ 64) : num (vby x) = x + vhd (vsz x) * 256 ^ (vsz x - 1) := by
  have hb := vsz_bd x
  by_cases h9 : vsz x = 9
  · rw [vby_nine h9, num_cons, be_length, num_be, h9, Nat.mod_eq_of_lt (by omega)]
    have : vhd 9 = 255 := by decide
    rw [this]
    simp only [show (255 : UInt8).toNat = 255 from rfl]
    omega
  · obtain ⟨n, hn⟩ : ∃ n, vsz x = n + 1 := ⟨vsz x - 1, by omega⟩
    have hn8 : n < 8 := by omega
    rw [vby_less hn hn8, num_cons, be_length, num_be, or_small (first_lt hx hn hn8) hn8, hn, Nat.add_mul, Nat.add_sub_cancel]
    have := Nat.div_add_mod x (256 ^ n)
    rw [Nat.mul_comm] at this
    omega

theorem vby_order {a b : Nat} (ha : a < 2 ^ 64) (hb : b < 2 ^ 64) : Op.bytesLess (vby a) (vby b) = decide (a < b) := by
  rcases Nat.lt_trichotomy (vsz a) (vsz b) with h | h | h
  · obtain ⟨c, t, h1, h2, h3, _⟩ := vby_shape a ha
    obtain ⟨d, u, k1, k2, k3, _⟩ := vby_shape b hb
    have := lead_less (c := c) (d := d) (by omega)
    have hab := vsz_mono ha hb h
    rw [h1, k1, Op.bytesLess]
    simp [hab, UInt8.lt_iff_toNat_lt, this]
  · rw [bytesLess_num _ _ (by rw [vby_length, vby_length, h]), vby_num ha, vby_num hb, h]
    rw [Bool.eq_iff_iff]; simp
  · obtain ⟨c, t, h1, h2, h3, _⟩ := vby_shape a ha
    obtain ⟨d, u, k1, k2, k3, _⟩ := vby_shape b hb
    have := lead_less (c := d) (d := c) (by omega)
    have hab := vsz_mono hb ha h
    rw [h1, k1, Op.bytesLess]
    have e1 : ¬ c < d := by rw [UInt8.lt_iff_toNat_lt]; omega
    have e2 : (c == d) = false := by rw [beq_eq_false_iff_ne]; intro e; rw [e] at this; omega
    have e3 : ¬ a < b := by omega
    simp [e1, e2, e3]

theorem vby_inj {a b : Nat} (ha : a < 2 ^ 64) (hb : b < 2 ^ 64) (h : vby a = vby b) : a = b := by
  have h1 := vby_order ha hb
  have h2 := vby_order hb ha
  have h3 : ∀ l : List UInt8, Op.bytesLess l l = false := by intro l; rw [bytesLess_num l l rfl]; simp
  rw [h, h3] at h1
  rw [h, h3] at h2
  simp at h1 h2
  omega
end Go.Proofs.Ytjebldfmkpfafaa
