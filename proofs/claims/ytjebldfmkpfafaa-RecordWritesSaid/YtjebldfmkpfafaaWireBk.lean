/- Layer 3, plain: what calls write is read again, in order; and what is read of a beginning of it. -/
import Derived.Test.YtjebldfmkpfafaaWireMath
import Derived.Test.YtjebldfmkpfafaaWireRW
namespace Go.Proofs.Ytjebldfmkpfafaa
set_option maxRecDepth 100000

theorem drop_len {l t r : List UInt8} {p : Nat} (h : l.drop p = t ++ r) (ht : t ≠ []) : p + t.length + r.length = l.length := by
  have h1 : (l.drop p).length = t.length + r.length := by rw [h, List.length_append]
  have h2 : 0 < t.length := List.length_pos_iff.2 ht
  rw [List.length_drop] at h1
  omega

theorem rtake_good {l t r : List UInt8} {p : Nat} (h : l.drop p = t ++ r) (_hp : p ≤ l.length) : rtake l p 0 t.length = (t, p + t.length, 0) := by
  unfold rtake
  have h1 : (l.drop p).length = t.length + r.length := by rw [h, List.length_append]
  rw [List.length_drop] at h1
  rw [if_neg (by simp), if_neg (by omega), h, List.take_left]

theorem rtake_part {l t r : List UInt8} {p : Nat} (h : t = l.drop p ++ r) (hr : r ≠ []) : rtake l p 0 t.length = ([], p, 10) := by
  unfold rtake
  have h1 : t.length = (l.drop p).length + r.length := by rw [h, List.length_append]
  have h2 : 0 < r.length := List.length_pos_iff.2 hr
  rw [List.length_drop] at h1
  rw [if_neg (by simp), if_pos (by omega)]

theorem rfixed_be {l r : List UInt8} {p x n : Nat} (hn : 1 ≤ n) (hn8 : n ≤ 8) (h : l.drop p = be x n ++ r) (hp : p ≤ l.length) : rfixed l p 0 n = (x % 256 ^ n, p + n, 0) := by
  have h1 := rtake_good h hp
  rw [be_length] at h1
  unfold rfixed
  rw [if_neg (by omega), Int.toNat_natCast, h1, num_be]

theorem rint_vby {l r : List UInt8} {p x : Nat} {most : Int} (hx : x < 2 ^ 64) (hm : (x : Int) ≤ most) (h : l.drop p = vby x ++ r) : rint l p 0 most = (x, p + vsz x, 0) := by
  unfold rint
  rw [rvar_vby hx h]
  dsimp only
  rw [if_neg (by omega)]

theorem drop_more {l t r : List UInt8} {p : Nat} (h : l.drop p = t ++ r) : l.drop (p + t.length) = r := by
  rw [← List.drop_drop, h, List.drop_left]

theorem rtext_txt {l t r : List UInt8} {p : Nat} (ht : t.length < 2 ^ 64) (h : l.drop p = vby t.length ++ t ++ r) : rtext l p 0 t.length = (t, p + (vby t.length ++ t).length, 0) := by
  have hne : vby t.length ≠ [] := by
    have h1 := vby_length t.length
    have h2 := vsz_bd t.length
    intro h0; rw [h0] at h1; simp at h1; omega
  have hlen := drop_len (by rw [h, List.append_assoc]) hne
  have h1 := rint_vby (most := t.length) ht (Int.le_refl _) (by rw [h, List.append_assoc])
  have h2 : l.drop (p + vsz t.length) = t ++ r := by rw [← vby_length]; exact drop_more (by rw [h, List.append_assoc])
  have h3 := rtake_good h2 (by rw [vby_length] at hlen; omega)
  unfold rtext
  rw [h1]
  dsimp only
  rw [h3, if_neg (by simp), List.length_append, vby_length, Nat.add_assoc]

theorem rraw_good {l t r : List UInt8} {p : Nat} (h : l.drop p = t ++ r) (hp : p ≤ l.length) : rraw l p 0 t.length = (t, p + t.length, 0) := by
  unfold rraw
  rw [if_neg (by omega), Int.toNat_natCast, rtake_good h hp]

theorem rfixed_part {l r : List UInt8} {p x n : Nat} (hn : 1 ≤ n) (hn8 : n ≤ 8) (h : be x n = l.drop p ++ r) (hr : r ≠ []) : (rfixed l p 0 n).2 = (p, 10) := by
  have h1 := rtake_part h hr
  rw [be_length] at h1
  unfold rfixed
  rw [if_neg (by omega), Int.toNat_natCast, h1]
theorem rraw_part {l t r : List UInt8} {p : Nat} (h : t = l.drop p ++ r) (hr : r ≠ []) : (rraw l p 0 t.length).2 = (p, 10) := by
  unfold rraw
  rw [if_neg (by omega), Int.toNat_natCast, rtake_part h hr]
theorem rtext_part {l t r : List UInt8} {p : Nat} (ht : t.length < 2 ^ 64) (h : vby t.length ++ t = l.drop p ++ r) (hr : r ≠ []) : (rtext l p 0 t.length).2 = (p, 10) := by
  have hv := vby_length t.length
  by_cases hc : (l.drop p).length < (vby t.length).length
  · have h1 : vby t.length = l.drop p ++ (vby t.length).drop (l.drop p).length := by
      have := congrArg (List.take (vby t.length).length) h
      rw [List.take_left, List.take_append, List.take_of_length_le (by omega)] at this
      rw [this]
      simp
    have h2 : (vby t.length).drop (l.drop p).length ≠ [] := by
      intro h0
      have := congrArg List.length h0
      simp only [List.length_drop, List.length_nil] at this
      rw [List.length_drop] at hc
      omega
    have h3 := rvar_part ht h1 h2
    have h4 : rint l p 0 t.length = (0, p, 10) := by
      unfold rint
      rw [h3]
      dsimp only
      rw [if_neg (by simp)]
    unfold rtext
    rw [h4]
    dsimp only
    have h5 : rtake l p 10 0 = ([], p, 10) := by unfold rtake; rw [if_pos (by decide)]
    rw [h5, if_pos (by simp)]
  · have h1 : l.drop p = vby t.length ++ (l.drop p).drop (vby t.length).length := by
      have := congrArg (List.take (vby t.length).length) h
      rw [List.take_left, List.take_append_of_le_length (by omega)] at this
      rw [this, List.length_take]
      have hmin : min (vby t.length).length (l.drop p).length = (vby t.length).length := by omega
      rw [hmin, List.take_append_drop]
    have h2 : t = (l.drop p).drop (vby t.length).length ++ r := by
      have := congrArg (List.drop (vby t.length).length) h
      rw [List.drop_left, List.drop_append_of_le_length (by omega)] at this
      exact this
    have h3 := rint_vby (most := t.length) ht (Int.le_refl _) h1
    have h4 : t = l.drop (p + vsz t.length) ++ r := by rw [← vby_length, ← List.drop_drop]; exact h2
    have h5 := rtake_part h4 hr
    unfold rtext
    rw [h3]
    dsimp only
    rw [h5, if_pos (by simp)]

/-- The bytes of all calls. -/
def wall (l : List OpR) : List UInt8 := l.flatMap wby
theorem wall_take {l : List OpR} {k : Nat} {o : OpR} (h : l[k]? = some o) : wall (l.take (k + 1)) = wall (l.take k) ++ wby o := by
  unfold wall; rw [List.take_add_one, h]; simp
theorem wall_split (l : List OpR) (k : Nat) : wall l = wall (l.take k) ++ wall (l.drop k) := by
  unfold wall; rw [← List.flatMap_append, List.take_append_drop]
theorem wall_drop {l : List OpR} {k : Nat} {o : OpR} (h : l[k]? = some o) : (wall l).drop (wall (l.take k)).length = wby o ++ wall (l.drop (k + 1)) := by
  have h1 : l.drop k = o :: l.drop (k + 1) := by
    obtain ⟨hlt, rfl⟩ := List.getElem?_eq_some_iff.1 h
    exact List.drop_eq_getElem_cons hlt
  rw [wall_split l k, List.drop_left, h1]
  rfl
theorem wall_le {l : List OpR} (k : Nat) : (wall (l.take k)).length ≤ (wall l).length := by
  rw [wall_split l k, List.length_append]; omega
theorem wall_bound : ∀ (l : List OpR), (∀ o, o ∈ l → o.s.size ≤ 300) → (wall l).length ≤ 317 * l.length
  | [], _ => by simp [wall]
  | o :: l, h => by
    have h1 := wall_bound l (fun o ho => h o (by simp [ho]))
    have h2 := wby_le o
    have h3 := h o (by simp)
    have : wall (o :: l) = wby o ++ wall l := rfl
    rw [this, List.length_append, List.length_cons]
    omega

/-- What the reader is asked, if it is asked for what was written: where it stands then, and what is wrong. -/
def rback (l : List UInt8) (p : Nat) (er : Int) (o : OpR) : Nat × Int :=
  if o.kind = 0 then (rfixed l p er o.n).2 else if o.kind = 1 ∨ o.kind = 4 then (rvar l p er).2 else if o.kind = 2 then (rtext l p er o.s.size).2 else (rraw l p er o.s.size).2

theorem rback_good {l r : List UInt8} {p : Nat} {o : OpR} (hx : o.x < 2 ^ 64) (hs : o.s.size < 2 ^ 64) (hn : o.kind = 0 → 1 ≤ o.n ∧ o.n ≤ 8) (hp : p ≤ l.length) (h : l.drop p = wby o ++ r) : rback l p 0 o = (p + (wby o).length, 0) := by
  unfold rback wby at *
  by_cases k0 : o.kind = 0
  · rw [if_pos k0] at h ⊢
    rw [if_pos k0]
    obtain ⟨h1, h2⟩ := hn k0
    have hbad : ¬ (o.n < 1 ∨ 8 < o.n) := by omega
    rw [if_neg hbad] at h ⊢
    obtain ⟨m, hm⟩ : ∃ m : Nat, o.n = m := ⟨o.n.toNat, by omega⟩
    rw [hm, Int.toNat_natCast] at h ⊢
    rw [rfixed_be (by omega) (by omega) h hp, be_length]
  · rw [if_neg k0] at h ⊢
    rw [if_neg k0]
    by_cases k1 : o.kind = 1 ∨ o.kind = 4
    · rw [if_pos k1] at h ⊢
      rw [if_pos k1, rvar_vby hx h, vby_length]
    · rw [if_neg k1] at h ⊢
      rw [if_neg k1]
      by_cases k2 : o.kind = 2
      · rw [if_pos k2] at h ⊢
        rw [if_pos k2]
        have := rtext_txt (t := o.s.data.toList) (p := p) (l := l) (r := r) (by rw [dlen]; exact hs) (by rw [dlen]; exact h)
        rw [dlen] at this
        rw [this]
      · rw [if_neg k2] at h ⊢
        rw [if_neg k2]
        have := rraw_good h hp
        rw [dlen] at this
        rw [this, dlen]

theorem rback_part {l r : List UInt8} {p : Nat} {o : OpR} (hx : o.x < 2 ^ 64) (hs : o.s.size < 2 ^ 64) (hn : o.kind = 0 → 1 ≤ o.n ∧ o.n ≤ 8) (h : wby o = l.drop p ++ r) (hr : r ≠ []) : (rback l p 0 o).2 = 10 := by
  unfold rback wby at *
  by_cases k0 : o.kind = 0
  · rw [if_pos k0] at h ⊢
    obtain ⟨h1, h2⟩ := hn k0
    have hbad : ¬ (o.n < 1 ∨ 8 < o.n) := by omega
    rw [if_neg hbad] at h
    obtain ⟨m, hm⟩ : ∃ m : Nat, o.n = m := ⟨o.n.toNat, by omega⟩
    rw [hm, Int.toNat_natCast] at h
    rw [hm, rfixed_part (by omega) (by omega) h hr]
  · rw [if_neg k0] at h ⊢
    by_cases k1 : o.kind = 1 ∨ o.kind = 4
    · rw [if_pos k1] at h ⊢
      rw [rvar_part hx h hr]
    · rw [if_neg k1] at h ⊢
      by_cases k2 : o.kind = 2
      · rw [if_pos k2] at h ⊢
        have := rtext_part (t := o.s.data.toList) (p := p) (l := l) (r := r) (by rw [dlen]; exact hs) (by rw [dlen]; exact h) hr
        rw [dlen] at this
        rw [this]
      · rw [if_neg k2] at h ⊢
        have := rraw_part h hr
        rw [dlen] at this
        rw [this]
end Go.Proofs.Ytjebldfmkpfafaa
