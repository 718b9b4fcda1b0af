/- Layer 3, plain: a number's bytes and the number of bytes; what was written is read again. -/
import Derived.Test.YtjebldfmkpfafaaWireG
namespace Go.Proofs.Ytjebldfmkpfafaa
set_option maxRecDepth 100000

theorem num_foldl (l : List UInt8) : ∀ a : Nat, l.foldl (fun x c => x * 256 + c.toNat) a = a * 256 ^ l.length + num l := by
  induction l with
  | nil => intro a; simp [num]
  | cons c l ih =>
    intro a
    have h1 := ih (a * 256 + c.toNat)
    have h2 := ih (0 * 256 + c.toNat)
    unfold num
    simp only [List.foldl_cons, List.length_cons] at *
    rw [h1, h2]
    have e : a * 256 * 256 ^ l.length = a * (256 ^ l.length * 256) := by rw [Nat.mul_assoc, Nat.mul_comm 256]
    simp only [Nat.zero_mul, Nat.zero_add, Nat.pow_succ, Nat.add_mul]
    omega
theorem num_cons (c : UInt8) (l : List UInt8) : num (c :: l) = c.toNat * 256 ^ l.length + num l := by
  have := num_foldl l (0 * 256 + c.toNat)
  rw [show num (c :: l) = l.foldl (fun x c => x * 256 + c.toNat) (0 * 256 + c.toNat) from rfl, this]
  simp only [Nat.zero_mul, Nat.zero_add]

theorem num_be (x n : Nat) : num (be x n) = x % 256 ^ n := by
  induction n with
  | zero => simp [be, num, Nat.mod_one]
  | succ n ih =>
    rw [be, num_cons, be_length, ih, Nat.mod_pow_succ, Nat.mul_comm]
    simp only [UInt8.toNat_ofNat', Nat.reducePow]
    omega

theorem num_inj : ∀ (l m : List UInt8), l.length = m.length → num l = num m → l = m
  | [], [], _, _ => rfl
  | [], _ :: _, h, _ => by simp at h
  | _ :: _, [], h, _ => by simp at h
  | c :: l, d :: m, h, e => by
    have hl : l.length = m.length := by simpa using h
    rw [num_cons, num_cons, hl] at e
    have h1 := num_lt l
    have h2 := num_lt m
    rw [hl] at h1
    have hcd : c.toNat = d.toNat := by
      have a1 : (c.toNat * 256 ^ m.length + num l) / 256 ^ m.length = c.toNat := by
        rw [Nat.mul_comm, Nat.mul_add_div (Nat.pow_pos (by omega)), Nat.div_eq_of_lt h1]; omega
      have a2 : (d.toNat * 256 ^ m.length + num m) / 256 ^ m.length = d.toNat := by
        rw [Nat.mul_comm, Nat.mul_add_div (Nat.pow_pos (by omega)), Nat.div_eq_of_lt h2]; omega
      rw [← a1, e, a2]
    rw [hcd] at e
    rw [UInt8.toNat_inj.1 hcd, num_inj l m hl (by omega)]

theorem be_of_num {x n : Nat} {l : List UInt8} (hl : l.length = n) (h : x % 256 ^ n = num l) : be x n = l :=
  num_inj _ _ (by rw [be_length, hl]) (by rw [num_be, h])

theorem lead_tab : ∀ (n : Fin 8) (y : Fin 128), y.val < 2 ^ (8 - (n.val + 1)) → vlead (UInt8.ofNat (y.val + vhd (n.val + 1))) = n.val + 1 ∧ (y.val + vhd (n.val + 1)) % 2 ^ (9 - (n.val + 1)) = y.val ∧ y.val + vhd (n.val + 1) < 256 := by decide +kernel
theorem lead_back : ∀ (n : Fin 8) (c : Fin 256), vlead (UInt8.ofNat c.val) = n.val + 1 → c.val % 2 ^ (9 - (n.val + 1)) + vhd (n.val + 1) = c.val := by decide +kernel
theorem lead_nine : ∀ (c : Fin 256), vlead (UInt8.ofNat c.val) = 9 → c.val = 255 := by decide +kernel

theorem first_small {x n : Nat} (hx : x < 2 ^ 64) (h : vsz x = n + 1) (hn : n < 8) : x / 256 ^ n < 128 := by
  have h1 := first_lt hx h hn
  have h2 : 2 ^ (8 - (n + 1)) ≤ 2 ^ 7 := Nat.pow_le_pow_right (by omega) (by omega)
  omega

theorem vby_shape (x : Nat) (hx : x < 2 ^ 64) : ∃ c t, vby x = c :: t ∧ t.length + 1 = vsz x ∧ vlead c = vsz x ∧ vval (vby x) = x := by
  have hb := vsz_bd x
  by_cases h9 : vsz x = 9
  · refine ⟨255, be x 8, vby_nine h9, by rw [be_length, h9], by rw [h9]; decide +kernel, ?_⟩
    rw [vby_nine h9]
    unfold vval
    rw [if_neg (by simp [be_length]), List.tail_cons, num_be]
    exact Nat.mod_eq_of_lt (by omega)
  · obtain ⟨n, hn⟩ : ∃ n, vsz x = n + 1 := ⟨vsz x - 1, by omega⟩
    have hn8 : n < 8 := by omega
    have h1 := first_lt hx hn hn8
    have h0 := first_small hx hn hn8
    obtain ⟨t1, t2, t3⟩ := lead_tab ⟨n, hn8⟩ ⟨x / 256 ^ n, h0⟩ h1
    refine ⟨_, _, vby_less hn hn8, by rw [be_length, hn], by rw [hn]; exact t1, ?_⟩
    rw [vby_less hn hn8]
    unfold vval
    have ht : (UInt8.ofNat (x / 256 ^ n + vhd (n + 1))).toNat = x / 256 ^ n + vhd (n + 1) := or_small h1 hn8
    rw [if_pos (by simp [be_length]; omega), List.tail_cons, num_be, List.headD_cons, ht]
    simp only [List.length_cons, be_length, Nat.add_sub_cancel]
    rw [t2]
    have := Nat.div_add_mod x (256 ^ n)
    rw [Nat.mul_comm] at this
    exact this

/-- What the reader's Var does, by what is left. -/
theorem rvar_drop (l : List UInt8) (p : Nat) (c : UInt8) (t : List UInt8) (h : l.drop p = c :: t) : rvar l p 0 =
    if t.length + 1 < vlead c then (0, p, 10) else if vsz (vval ((c :: t).take (vlead c))) = vlead c then (vval ((c :: t).take (vlead c)), p + vlead c, 0) else (0, p, 12) := by
  have hlen : l.length - p = t.length + 1 := by rw [← List.length_drop, h]; rfl
  have hg : l.getD p 0 = c := by
    have : l[p]? = (l.drop p)[0]? := by rw [List.getElem?_drop]; rfl
    rw [List.getD_eq_getElem?_getD, this, h]; rfl
  unfold rvar
  dsimp only
  rw [if_neg (by simp), if_neg (by omega), hg, h, hlen]

theorem rvar_vby {l : List UInt8} {p x : Nat} {r : List UInt8} (hx : x < 2 ^ 64) (h : l.drop p = vby x ++ r) : rvar l p 0 = (x, p + vsz x, 0) := by
  obtain ⟨c, t, h1, h2, h3, h4⟩ := vby_shape x hx
  rw [h1] at h
  rw [rvar_drop l p c (t ++ r) (by simpa using h), h3]
  have ht : (c :: (t ++ r)).take (vsz x) = vby x := by rw [← h2, h1, List.take_succ_cons, List.take_left]
  rw [if_neg (by rw [List.length_append]; omega), ht, h4, if_pos rfl]

theorem rvar_part {l : List UInt8} {p x : Nat} {r : List UInt8} (hx : x < 2 ^ 64) (h : vby x = l.drop p ++ r) (hr : r ≠ []) : rvar l p 0 = (0, p, 10) := by
  obtain ⟨c, t, h1, h2, h3, h4⟩ := vby_shape x hx
  cases hd : l.drop p with
  | nil =>
    unfold rvar
    have : l.length ≤ p := by simpa using hd
    rw [if_neg (by simp), if_pos this]
  | cons d u =>
    rw [h1, hd] at h
    obtain ⟨rfl, ht⟩ : c = d ∧ t = u ++ r := by simpa using h
    rw [rvar_drop l p c u hd, h3]
    have : 0 < r.length := List.length_pos_iff.2 hr
    rw [if_pos (by rw [← h2, ht, List.length_append]; omega)]

theorem rvar_good {l : List UInt8} {p : Nat} (h : (rvar l p 0).2.2 = 0) : ∃ r, l.drop p = vby (rvar l p 0).1 ++ r ∧ (rvar l p 0).2.1 = p + vsz (rvar l p 0).1 ∧ (rvar l p 0).1 < 2 ^ 64 := by
  cases hd : l.drop p with
  | nil =>
    exfalso
    have h0 : l.length ≤ p := by simpa using hd
    unfold rvar at h
    rw [if_neg (by simp), if_pos h0] at h
    simp at h
  | cons c t =>
    have hr := rvar_drop l p c t hd
    have hb := vlead_bd c
    by_cases h1 : t.length + 1 < vlead c
    · rw [hr, if_pos h1] at h; simp at h
    rw [if_neg h1] at hr
    by_cases h2 : vsz (vval ((c :: t).take (vlead c))) = vlead c
    · rw [if_pos h2] at hr
      have hlt := vval_lt ((c :: t).take (vlead c)) (by simp; omega)
      rw [hr]
      dsimp only
      refine ⟨(c :: t).drop (vlead c), ?_, by rw [h2], by omega⟩
      have key : vby (vval ((c :: t).take (vlead c))) = (c :: t).take (vlead c) := by
        obtain ⟨n, hn⟩ : ∃ n, vlead c = n + 1 := ⟨vlead c - 1, by omega⟩
        rw [hn] at h2 ⊢
        rw [List.take_succ_cons] at h2 ⊢
        have hu : (t.take n).length = n := by simp; omega
        generalize t.take n = u at *
        have hnum := num_lt u
        rw [hu] at hnum
        have hc := c.toNat_lt
        by_cases h9 : n = 8
        · subst h9
          rw [vby_nine h2]
          have e1 : vval (c :: u) = num u := by unfold vval; rw [if_neg (by simp [hu])]; rfl
          have e2 := lead_nine ⟨c.toNat, c.toNat_lt⟩ (by simpa using hn)
          rw [e1, be_of_num hu (Nat.mod_eq_of_lt hnum)]
          congr 1
          exact UInt8.toNat_inj.1 e2.symm
        · have hn8 : n < 8 := by omega
          rw [vby_less h2 hn8]
          have e1 : vval (c :: u) = c.toNat % 2 ^ (9 - (n + 1)) * 256 ^ n + num u := by
            unfold vval; rw [if_pos (by simp [hu]; omega)]; simp [hu]
          have e2 := lead_back ⟨n, hn8⟩ ⟨c.toNat, c.toNat_lt⟩ (by simpa using hn)
          have hp : 0 < 256 ^ n := Nat.pow_pos (by omega)
          rw [e1, be_of_num hu (by rw [Nat.add_comm, Nat.add_mul_mod_self_right]; exact Nat.mod_eq_of_lt hnum), Nat.mul_comm, Nat.mul_add_div hp, Nat.div_eq_of_lt hnum, Nat.add_zero]
          congr 1
          simp only [] at e2
          rw [e2]
          simp
      rw [key, List.take_append_drop]
    · rw [hr, if_neg h2] at h; simp at h

end Go.Proofs.Ytjebldfmkpfafaa
