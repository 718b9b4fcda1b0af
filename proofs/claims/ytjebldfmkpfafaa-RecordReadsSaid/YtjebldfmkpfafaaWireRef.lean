/- Layer 3, the laws' own: the list of calls as an argument. -/
import Derived.Test.YtjebldfmkpfafaaBytesOf
import Derived.Test.YtjebldfmkpfafaaWireI
import Derived.Test.YtjebldfmkpfafaaRecP
import Derived.Deep.RegionHeld3
namespace Go.Proofs.Ytjebldfmkpfafaa
open Go.ChangeShapes Go.WideShapes Go.ChangeAt Go.RowKit Go.Deep
set_option maxRecDepth 100000
open Go.ChangeMaps (open_string shut_string)

/-- One call. -/
structure OpR where
  kind : Int
  x : Nat
  s : ByteArray
  n : Int

def OpR.vals (o : OpR) : List Value := [.int .i64 o.kind, .int .u64 o.x, .string o.s, .int .i64 o.n]
structure OpR.good (o : OpR) : Prop where
  k0 : -9223372036854775808 ≤ o.kind
  k1 : o.kind ≤ 9223372036854775807
  x0 : o.x < 18446744073709551616
  s0 : o.s.size ≤ 9223372036854775807
  n0 : -9223372036854775808 ≤ o.n
  n1 : o.n ≤ 9223372036854775807

/-- The list of calls. -/
def OpsAt (w : World) (v : Value) (l : List OpR) (G : List Nat) : Prop := SlRows w v OpR.vals 4 l G

theorem OpsAt.keep {w w' : World} {v : Value} {l : List OpR} {F G : List Nat} (h : OpsAt w v l G) (k : Keeps F w w') (hd : ∀ x, x ∈ G → x ∉ F) : OpsAt w' v l G := SlRows.keep h k hd

/-- Are calls not too many? -/
def fewB (l : List OpR) : Bool := l.all (fun o => decide (o.s.size ≤ 300)) && decide (l.length ≤ 60)

section
variable (l : List OpR) (w : World) (v : Value) (G : List Nat) (h : OpsAt w v l G) (hl : l.length ≤ 9223372036854775807)
include h

/-- The cells of one call. -/
theorem OpsAt.cells {k : Nat} {o : OpR} (hk : l[k]? = some o) {b off cap : Nat} (hv : v = .slice (some ⟨b, off, none⟩) l.length cap) :
    w.cell? ⟨b, off + k * 4, none⟩ = some (.int .i64 o.kind) ∧ w.cell? ⟨b, off + k * 4 + 1, none⟩ = some (.int .u64 o.x) ∧ w.cell? ⟨b, off + k * 4 + 2, none⟩ = some (.string o.s) ∧ w.cell? ⟨b, off + k * 4 + 3, none⟩ = some (.int .i64 o.n) := by
  obtain ⟨ad, cap', rfl, h2⟩ := h
  obtain ⟨b', off', rfl, _, hc⟩ := h2 (by intro h0; subst h0; simp at hk)
  simp only [Value.slice.injEq, Option.some.injEq, Addr.mk.injEq, and_true, true_and] at hv
  obtain ⟨⟨rfl, rfl⟩, _⟩ := hv
  exact ⟨hc k o hk 0 _ rfl, hc k o hk 1 _ rfl, hc k o hk 2 _ rfl, hc k o hk 3 _ rfl⟩

include hl
end
end Go.Proofs.Ytjebldfmkpfafaa

/- Layer 3, the laws' own: what write and read do. -/
namespace Go.Proofs.Ytjebldfmkpfafaa
open Go.RowKit
set_option maxRecDepth 100000

/-- The bytes that a call writes. -/
def wby (o : OpR) : List UInt8 :=
  if o.kind = 0 then (if o.n < 1 ∨ 8 < o.n then [] else be o.x o.n.toNat)
  else if o.kind = 1 ∨ o.kind = 4 then vby o.x
  else if o.kind = 2 then vby o.s.size ++ o.s.data.toList
  else o.s.data.toList
/-- What is wrong with it. -/
def werr (o : OpR) : Int := if o.kind = 0 ∧ (o.n < 1 ∨ 8 < o.n) then 1 else 0

abbrev OpR.agg (o : OpR) : Value := .agg #[.int .i64 o.kind, .int .u64 o.x, .string o.s, .int .i64 o.n]

theorem wby_le (o : OpR) : (wby o).length ≤ o.s.size + 17 := by
  have h1 := vsz_bd o.x
  have h2 := vsz_bd o.s.size
  unfold wby
  split
  · split
    · simp
    · rw [be_length]; omega
  · split
    · rw [vby_length]; omega
    · split
      · simp [vby_length]; omega
      · simp

/-- What a call reads: the number, the text, where the reader stands then, and what is wrong. -/
def rop (l : List UInt8) (p : Nat) (er : Int) (o : OpR) : Nat × List UInt8 × Nat × Int :=
  if o.kind = 0 then ((rfixed l p er o.n).1, [], (rfixed l p er o.n).2)
  else if o.kind = 1 then ((rvar l p er).1, [], (rvar l p er).2)
  else if o.kind = 2 then (0, (rtext l p er o.n).1, (rtext l p er o.n).2)
  else if o.kind = 4 then ((rint l p er o.n).1, [], (rint l p er o.n).2)
  else (0, (rraw l p er o.n).1, (rraw l p er o.n).2)

end Go.Proofs.Ytjebldfmkpfafaa

/- Layer 3, plain: what calls write is read again, in order; and what is read of a beginning of it. -/
namespace Go.Proofs.Ytjebldfmkpfafaa
set_option maxRecDepth 100000

theorem drop_len {l t r : List UInt8} {p : Nat} (h : l.drop p = t ++ r) (ht : t ≠ []) : p + t.length + r.length = l.length := by
  have h1 : (l.drop p).length = t.length + r.length := by rw [h, List.length_append]
  have h2 : 0 < t.length := List.length_pos_iff.2 ht
  rw [List.length_drop] at h1
  omega

theorem rtake_good {l t r : List UInt8} {p : Nat} (h : l.drop p = t ++ r) (_hp : p ≤ l.length) : rtake l p 0 t.length = (t, p + t.length, 0) := by
  unfold rtake
  have h1 : (l.drop p).length = t.length + r.length := by rw [h, List.length_append]
  rw [List.length_drop] at h1
  rw [if_neg (by simp), if_neg (by omega), h, List.take_left]

theorem rtake_part {l t r : List UInt8} {p : Nat} (h : t = l.drop p ++ r) (hr : r ≠ []) : rtake l p 0 t.length = ([], p, 10) := by
  unfold rtake
  have h1 : t.length = (l.drop p).length + r.length := by rw [h, List.length_append]
  have h2 : 0 < r.length := List.length_pos_iff.2 hr
  rw [List.length_drop] at h1
  rw [if_neg (by simp), if_pos (by omega)]

theorem rfixed_be {l r : List UInt8} {p x n : Nat} (hn : 1 ≤ n) (hn8 : n ≤ 8) (h : l.drop p = be x n ++ r) (hp : p ≤ l.length) : rfixed l p 0 n = (x % 256 ^ n, p + n, 0) := by
  have h1 := rtake_good h hp
  rw [be_length] at h1
  unfold rfixed
  rw [if_neg (by omega), Int.toNat_natCast, h1, num_be]

theorem rint_vby {l r : List UInt8} {p x : Nat} {most : Int} (hx : x < 2 ^ 64) (hm : (x : Int) ≤ most) (h : l.drop p = vby x ++ r) : rint l p 0 most = (x, p + vsz x, 0) := by
  unfold rint
  rw [rvar_vby hx h]
  dsimp only
  rw [if_neg (by omega)]

theorem drop_more {l t r : List UInt8} {p : Nat} (h : l.drop p = t ++ r) : l.drop (p + t.length) = r := by
  rw [← List.drop_drop, h, List.drop_left]

theorem rtext_txt {l t r : List UInt8} {p : Nat} (ht : t.length < 2 ^ 64) (h : l.drop p = vby t.length ++ t ++ r) : rtext l p 0 t.length = (t, p + (vby t.length ++ t).length, 0) := by
  have hne : vby t.length ≠ [] := by
    have h1 := vby_length t.length
    have h2 := vsz_bd t.length
    intro h0; rw [h0] at h1; simp at h1; omega
  have hlen := drop_len (by rw [h, List.append_assoc]) hne
  have h1 := rint_vby (most := t.length) ht (Int.le_refl _) (by rw [h, List.append_assoc])
  have h2 : l.drop (p + vsz t.length) = t ++ r := by rw [← vby_length]; exact drop_more (by rw [h, List.append_assoc])
  have h3 := rtake_good h2 (by rw [vby_length] at hlen; omega)
  unfold rtext
  rw [h1]
  dsimp only
  rw [h3, if_neg (by simp), List.length_append, vby_length, Nat.add_assoc]

theorem rraw_good {l t r : List UInt8} {p : Nat} (h : l.drop p = t ++ r) (hp : p ≤ l.length) : rraw l p 0 t.length = (t, p + t.length, 0) := by
  unfold rraw
  rw [if_neg (by omega), Int.toNat_natCast, rtake_good h hp]

theorem rfixed_part {l r : List UInt8} {p x n : Nat} (hn : 1 ≤ n) (hn8 : n ≤ 8) (h : be x n = l.drop p ++ r) (hr : r ≠ []) : (rfixed l p 0 n).2 = (p, 10) := by
  have h1 := rtake_part h hr
  rw [be_length] at h1
  unfold rfixed
  rw [if_neg (by omega), Int.toNat_natCast, h1]
theorem rraw_part {l t r : List UInt8} {p : Nat} (h : t = l.drop p ++ r) (hr : r ≠ []) : (rraw l p 0 t.length).2 = (p, 10) := by
  unfold rraw
  rw [if_neg (by omega), Int.toNat_natCast, rtake_part h hr]
theorem rtext_part {l t r : List UInt8} {p : Nat} (ht : t.length < 2 ^ 64) (h : vby t.length ++ t = l.drop p ++ r) (hr : r ≠ []) : (rtext l p 0 t.length).2 = (p, 10) := by
  have hv := vby_length t.length
  by_cases hc : (l.drop p).length < (vby t.length).length
  · have h1 : vby t.length = l.drop p ++ (vby t.length).drop (l.drop p).length := by
      have := congrArg (List.take (vby t.length).length) h
      rw [List.take_left, List.take_append, List.take_of_length_le (by omega)] at this
      rw [this]
      simp
    have h2 : (vby t.length).drop (l.drop p).length ≠ [] := by
      intro h0
      have := congrArg List.length h0
      simp only [List.length_drop, List.length_nil] at this
      rw [List.length_drop] at hc
      omega
    have h3 := rvar_part ht h1 h2
    have h4 : rint l p 0 t.length = (0, p, 10) := by
      unfold rint
      rw [h3]
      dsimp only
      rw [if_neg (by simp)]
    unfold rtext
    rw [h4]
    dsimp only
    have h5 : rtake l p 10 0 = ([], p, 10) := by unfold rtake; rw [if_pos (by decide)]
    rw [h5, if_pos (by simp)]
  · have h1 : l.drop p = vby t.length ++ (l.drop p).drop (vby t.length).length := by
      have := congrArg (List.take (vby t.length).length) h
      rw [List.take_left, List.take_append_of_le_length (by omega)] at this
      rw [this, List.length_take]
      have hmin : min (vby t.length).length (l.drop p).length = (vby t.length).length := by omega
      rw [hmin, List.take_append_drop]
    have h2 : t = (l.drop p).drop (vby t.length).length ++ r := by
      have := congrArg (List.drop (vby t.length).length) h
      rw [List.drop_left, List.drop_append_of_le_length (by omega)] at this
      exact this
    have h3 := rint_vby (most := t.length) ht (Int.le_refl _) h1
    have h4 : t = l.drop (p + vsz t.length) ++ r := by rw [← vby_length, ← List.drop_drop]; exact h2
    have h5 := rtake_part h4 hr
    unfold rtext
    rw [h3]
    dsimp only
    rw [h5, if_pos (by simp)]

/-- The bytes of all calls. -/
def wall (l : List OpR) : List UInt8 := l.flatMap wby
theorem wall_take {l : List OpR} {k : Nat} {o : OpR} (h : l[k]? = some o) : wall (l.take (k + 1)) = wall (l.take k) ++ wby o := by
  unfold wall; rw [List.take_add_one, h]; simp
theorem wall_split (l : List OpR) (k : Nat) : wall l = wall (l.take k) ++ wall (l.drop k) := by
  unfold wall; rw [← List.flatMap_append, List.take_append_drop]
theorem wall_drop {l : List OpR} {k : Nat} {o : OpR} (h : l[k]? = some o) : (wall l).drop (wall (l.take k)).length = wby o ++ wall (l.drop (k + 1)) := by
  have h1 : l.drop k = o :: l.drop (k + 1) := by
    obtain ⟨hlt, rfl⟩ := List.getElem?_eq_some_iff.1 h
    exact List.drop_eq_getElem_cons hlt
  rw [wall_split l k, List.drop_left, h1]
  rfl
theorem wall_le {l : List OpR} (k : Nat) : (wall (l.take k)).length ≤ (wall l).length := by
  rw [wall_split l k, List.length_append]; omega
theorem wall_bound : ∀ (l : List OpR), (∀ o, o ∈ l → o.s.size ≤ 300) → (wall l).length ≤ 317 * l.length
  | [], _ => by simp [wall]
  | o :: l, h => by
    have h1 := wall_bound l (fun o ho => h o (by simp [ho]))
    have h2 := wby_le o
    have h3 := h o (by simp)
    have : wall (o :: l) = wby o ++ wall l := rfl
    rw [this, List.length_append, List.length_cons]
    omega

/-- What the reader is asked, if it is asked for what was written: where it stands then, and what is wrong. -/
def rback (l : List UInt8) (p : Nat) (er : Int) (o : OpR) : Nat × Int :=
  if o.kind = 0 then (rfixed l p er o.n).2 else if o.kind = 1 ∨ o.kind = 4 then (rvar l p er).2 else if o.kind = 2 then (rtext l p er o.s.size).2 else (rraw l p er o.s.size).2

theorem rback_good {l r : List UInt8} {p : Nat} {o : OpR} (hx : o.x < 2 ^ 64) (hs : o.s.size < 2 ^ 64) (hn : o.kind = 0 → 1 ≤ o.n ∧ o.n ≤ 8) (hp : p ≤ l.length) (h : l.drop p = wby o ++ r) : rback l p 0 o = (p + (wby o).length, 0) := by
  unfold rback wby at *
  by_cases k0 : o.kind = 0
  · rw [if_pos k0] at h ⊢
    rw [if_pos k0]
    obtain ⟨h1, h2⟩ := hn k0
    have hbad : ¬ (o.n < 1 ∨ 8 < o.n) := by omega
    rw [if_neg hbad] at h ⊢
    obtain ⟨m, hm⟩ : ∃ m : Nat, o.n = m := ⟨o.n.toNat, by omega⟩
    rw [hm, Int.toNat_natCast] at h ⊢
    rw [rfixed_be (by omega) (by omega) h hp, be_length]
  · rw [if_neg k0] at h ⊢
    rw [if_neg k0]
    by_cases k1 : o.kind = 1 ∨ o.kind = 4
    · rw [if_pos k1] at h ⊢
      rw [if_pos k1, rvar_vby hx h, vby_length]
    · rw [if_neg k1] at h ⊢
      rw [if_neg k1]
      by_cases k2 : o.kind = 2
      · rw [if_pos k2] at h ⊢
        rw [if_pos k2]
        have := rtext_txt (t := o.s.data.toList) (p := p) (l := l) (r := r) (by rw [dlen]; exact hs) (by rw [dlen]; exact h)
        rw [dlen] at this
        rw [this]
      · rw [if_neg k2] at h ⊢
        rw [if_neg k2]
        have := rraw_good h hp
        rw [dlen] at this
        rw [this, dlen]

theorem rback_part {l r : List UInt8} {p : Nat} {o : OpR} (hx : o.x < 2 ^ 64) (hs : o.s.size < 2 ^ 64) (hn : o.kind = 0 → 1 ≤ o.n ∧ o.n ≤ 8) (h : wby o = l.drop p ++ r) (hr : r ≠ []) : (rback l p 0 o).2 = 10 := by
  unfold rback wby at *
  by_cases k0 : o.kind = 0
  · rw [if_pos k0] at h ⊢
    obtain ⟨h1, h2⟩ := hn k0
    have hbad : ¬ (o.n < 1 ∨ 8 < o.n) := by omega
    rw [if_neg hbad] at h
    obtain ⟨m, hm⟩ : ∃ m : Nat, o.n = m := ⟨o.n.toNat, by omega⟩
    rw [hm, Int.toNat_natCast] at h
    rw [hm, rfixed_part (by omega) (by omega) h hr]
  · rw [if_neg k0] at h ⊢
    by_cases k1 : o.kind = 1 ∨ o.kind = 4
    · rw [if_pos k1] at h ⊢
      rw [rvar_part hx h hr]
    · rw [if_neg k1] at h ⊢
      by_cases k2 : o.kind = 2
      · rw [if_pos k2] at h ⊢
        have := rtext_part (t := o.s.data.toList) (p := p) (l := l) (r := r) (by rw [dlen]; exact hs) (by rw [dlen]; exact h) hr
        rw [dlen] at this
        rw [this]
      · rw [if_neg k2] at h ⊢
        have := rraw_part h hr
        rw [dlen] at this
        rw [this]
end Go.Proofs.Ytjebldfmkpfafaa

/- Layer 3, plain: of two numbers the greater one's bytes are the greater ones. -/
namespace Go.Proofs.Ytjebldfmkpfafaa
set_option maxRecDepth 100000

theorem bytesLess_num : ∀ (l m : List UInt8), l.length = m.length → Op.bytesLess l m = decide (num l < num m)
  | [], [], _ => by simp [Op.bytesLess]
  | [], _ :: _, h => by simp at h
  | _ :: _, [], h => by simp at h
  | c :: l, d :: m, h => by
    have hl : l.length = m.length := by simpa using h
    have h1 := num_lt l
    have h2 := num_lt m
    rw [hl] at h1
    rw [Op.bytesLess, bytesLess_num l m hl, num_cons, num_cons, hl]
    generalize 256 ^ m.length = P at *
    rw [Bool.eq_iff_iff]
    simp only [Bool.or_eq_true, Bool.and_eq_true, decide_eq_true_eq, beq_iff_eq, UInt8.lt_iff_toNat_lt]
    constructor
    · rintro (h3 | ⟨h3, h4⟩)
      · have : (c.toNat + 1) * P ≤ d.toNat * P := Nat.mul_le_mul_right _ h3
        rw [Nat.add_mul] at this
        omega
      · rw [h3]; omega
    · intro h3
      by_cases h4 : c.toNat < d.toNat
      · exact .inl h4
      · right
        have h5 : c.toNat ≤ d.toNat := by
          apply Nat.le_of_not_lt
          intro h6
          have : (d.toNat + 1) * P ≤ c.toNat * P := Nat.mul_le_mul_right _ h6
          rw [Nat.add_mul] at this
          omega
        have h6 : c.toNat = d.toNat := by omega
        rw [h6] at h3
        exact ⟨UInt8.toNat_inj.1 h6, by omega⟩

theorem lead_rng : ∀ c : Fin 256, vhd (vlead (UInt8.ofNat c.val)) ≤ c.val ∧ (vlead (UInt8.ofNat c.val) = 9 ∨ c.val < vhd (vlead (UInt8.ofNat c.val) + 1)) := by decide +kernel
theorem vhd_mono : ∀ (n m : Fin 10), n.val ≤ m.val → vhd n.val ≤ vhd m.val := by decide +kernel

theorem lead_less {c d : UInt8} (h : vlead c < vlead d) : c.toNat < d.toNat := by
  have h1 := lead_rng ⟨c.toNat, c.toNat_lt⟩
  have h2 := lead_rng ⟨d.toNat, d.toNat_lt⟩
  have h3 := vlead_bd c
  have h4 := vlead_bd d
  simp only [UInt8.ofNat_toNat] at h1 h2
  have h5 := vhd_mono ⟨vlead c + 1, by omega⟩ ⟨vlead d, by omega⟩ h
  simp only [] at h5
  omega

theorem vsz_mono {a b : Nat} (ha : a < 2 ^ 64) (_hb : b < 2 ^ 64) (h : vsz a < vsz b) : a < b := by
  have h1 := vsz_bd a
  have h2 := vsz_bd b
  have h3 := vsz_lt ha (by omega)
  apply Nat.lt_of_not_le
  intro h4
  have := vsz_le (x := b) h1.1 h1.2 (by omega)
  omega

theorem vby_num {x : Nat} (hx : x < 2 ^ 64) : num (vby x) = x + vhd (vsz x) * 256 ^ (vsz x - 1) := by
  have hb := vsz_bd x
  by_cases h9 : vsz x = 9
  · rw [vby_nine h9, num_cons, be_length, num_be, h9, Nat.mod_eq_of_lt (by omega)]
    have : vhd 9 = 255 := by decide
    rw [this]
    simp only [show (255 : UInt8).toNat = 255 from rfl]
    omega
  · obtain ⟨n, hn⟩ : ∃ n, vsz x = n + 1 := ⟨vsz x - 1, by omega⟩
    have hn8 : n < 8 := by omega
    rw [vby_less hn hn8, num_cons, be_length, num_be, or_small (first_lt hx hn hn8) hn8, hn, Nat.add_mul, Nat.add_sub_cancel]
    have := Nat.div_add_mod x (256 ^ n)
    rw [Nat.mul_comm] at this
    omega

theorem vby_order {a b : Nat} (ha : a < 2 ^ 64) (hb : b < 2 ^ 64) : Op.bytesLess (vby a) (vby b) = decide (a < b) := by
  rcases Nat.lt_trichotomy (vsz a) (vsz b) with h | h | h
  · obtain ⟨c, t, h1, h2, h3, _⟩ := vby_shape a ha
    obtain ⟨d, u, k1, k2, k3, _⟩ := vby_shape b hb
    have := lead_less (c := c) (d := d) (by omega)
    have hab := vsz_mono ha hb h
    rw [h1, k1, Op.bytesLess]
    simp [hab, UInt8.lt_iff_toNat_lt, this]
  · rw [bytesLess_num _ _ (by rw [vby_length, vby_length, h]), vby_num ha, vby_num hb, h]
    rw [Bool.eq_iff_iff]; simp
  · obtain ⟨c, t, h1, h2, h3, _⟩ := vby_shape a ha
    obtain ⟨d, u, k1, k2, k3, _⟩ := vby_shape b hb
    have := lead_less (c := d) (d := c) (by omega)
    have hab := vsz_mono hb ha h
    rw [h1, k1, Op.bytesLess]
    have e1 : ¬ c < d := by rw [UInt8.lt_iff_toNat_lt]; omega
    have e2 : (c == d) = false := by rw [beq_eq_false_iff_ne]; intro e; rw [e] at this; omega
    have e3 : ¬ a < b := by omega
    simp [e1, e2, e3]

theorem vby_inj {a b : Nat} (ha : a < 2 ^ 64) (hb : b < 2 ^ 64) (h : vby a = vby b) : a = b := by
  have h1 := vby_order ha hb
  have h2 := vby_order hb ha
  have h3 : ∀ l : List UInt8, Op.bytesLess l l = false := by intro l; rw [bytesLess_num l l rfl]; simp
  rw [h, h3] at h1
  rw [h, h3] at h2
  simp at h1 h2
  omega
end Go.Proofs.Ytjebldfmkpfafaa

/- Layer 3: what the reference's functions answer. -/
namespace Go.Proofs.Ytjebldfmkpfafaa
open Go.RowKit
set_option maxRecDepth 100000

theorem refFixed_any (x n : Nat) (w : World) (hn : n ≤ 8) (hx : x < 18446744073709551616) :
    Calls Try.prog 31 #[.int .u64 x, .int .i64 n] w fun e w' => e = .returned (.string (str (be x n))) ∧ Keeps [] w w' := by
  go_enter Try.func31, Try.ntmps31
  go_wp2
  go_loopw [0, 5, 6] (fun xv ov iv wr => ∃ k X : Nat, k ≤ n ∧ iv = .int .i64 k ∧ xv = .int .u64 X ∧ X < 18446744073709551616 ∧ ov = .string (str (be x k)) ∧ Hid (X = x / 256 ^ k) ∧ Keeps [] w wr) (fun _ _ iv _ => n - (intOf iv).toNat)
  case atStart => exact ⟨0, x, Nat.zero_le _, rfl, rfl, hx, rfl, by simp [Hid], Keeps.refl _ _⟩
  case round =>
    obtain ⟨k, X, hk, rfl, rfl, hX, rfl, HX, hkp⟩ := hrel
    have hbl : (be x k).length = k := be_length x k
    by_cases hlt : k < n
    · have hcv := lit_string (P := Try.prog) wr Try.underlying41 Try.underlying5 Try.underlying9 ((X : Int) % 256)
      go_wp2
      go_roundw
      case rel => exact ⟨k + 1, X / 256, by omega, by go_num, by go_num, by omega, by
          have e1 : UInt8.ofNat (X % 256) = UInt8.ofNat (x / 256 ^ k) := by
            rw [← HX.out]
            apply UInt8.toNat_inj.1
            simp only [UInt8.toNat_ofNat']
            omega
          rw [e1]; rfl, by unfold Hid; rw [HX.out, Nat.div_div_eq_div_mul, Nat.pow_succ], hkp.alloc _⟩
      case measure => simp [intOf]; omega
    · go_wp2
      go_ret
      have : k = n := by omega
      subst this
      exact ⟨rfl, hkp⟩

theorem vsz_of {x n : Nat} (hx : x < 2 ^ 64) (h1 : 1 ≤ n) (h9 : n ≤ 9) (hlo : n = 1 ∨ 2 ^ (7 * (n - 1)) ≤ x) (hhi : n = 9 ∨ x < 2 ^ (7 * n)) : vsz x = n := by
  have hb := vsz_bd x
  have hle : vsz x ≤ n := by
    rcases hhi with rfl | h
    · exact hb.2
    · exact vsz_le h1 h9 h
  rcases hlo with rfl | h
  · omega
  · apply Nat.le_antisymm hle
    apply Nat.le_of_not_lt
    intro h2
    have h3 := vsz_lt hx (by omega)
    have h4 : 2 ^ (7 * vsz x) ≤ 2 ^ (7 * (n - 1)) := Nat.pow_le_pow_right (by omega) (by omega)
    omega

theorem refSize_any (x : Nat) (w : World) (hx : x < 18446744073709551616) :
    Calls Try.prog 60 #[.int .u64 x] w fun e w' => e = .returned (.int .i64 (vsz x)) ∧ w = w' := by
  have Hx := Lib.hid (show x < 2 ^ 64 by omega)
  go_enter Try.func60, Try.ntmps60
  go_wp2
  go_loop [3, 4] (fun nv mv => ∃ n M : Nat, 1 ≤ n ∧ n ≤ 9 ∧ nv = .int .i64 n ∧ mv = .int .u64 M ∧ Hid (n < 9 → M = 2 ^ (7 * n)) ∧ Hid (n = 1 ∨ 2 ^ (7 * (n - 1)) ≤ x)) (fun nv _ => 9 - (intOf nv).toNat)
  case atStart => exact ⟨1, 128, by omega, by omega, rfl, rfl, fun _ => rfl, .inl rfl⟩
  case round =>
    obtain ⟨n, M, h1, h9, rfl, rfl, HM, Hlo⟩ := hrel
    by_cases hn : n < 9
    · have hM := HM.out hn
      have hMb : M ≤ 72057594037927936 := by rw [hM]; exact Nat.pow_le_pow_right (n := 2) (j := 56) (by omega) (by omega)
      have HM' := Lib.hid hM
      clear hM
      by_cases hc : M ≤ x
      · by_cases hn8 : n + 1 < 9
        · have hMc : M ≤ 562949953421312 := by rw [HM'.out]; exact Nat.pow_le_pow_right (n := 2) (j := 49) (by omega) (by omega)
          go_wp2
          go_round
          case rel => exact ⟨n + 1, 128 * M, by omega, by omega, by go_num, by go_num, fun _ => by rw [HM'.out, Nat.mul_add, Nat.pow_add, Nat.mul_comm], .inr (by rw [Nat.add_sub_cancel, ← HM'.out]; exact hc)⟩
          case measure => simp [intOf]; omega
        · go_wp2
          go_round
          case rel => exact ⟨n + 1, M, by omega, by omega, by go_num, rfl, fun h => absurd h hn8, .inr (by rw [Nat.add_sub_cancel, ← HM'.out]; exact hc)⟩
          case measure => simp [intOf]; omega
      · go_wp2
        go_ret
        exact ⟨ret_int (by rw [vsz_of Hx.out h1 h9 Hlo.out (.inr (by rw [← HM'.out]; omega))]), rfl⟩
    · go_wp2
      go_ret
      exact ⟨ret_int (by rw [vsz_of Hx.out h1 h9 Hlo.out (.inl (by omega))]), rfl⟩

set_option maxHeartbeats 1000000 in
theorem refHead_any (n : Nat) (w : World) (h1 : 1 ≤ n) (h2 : n ≤ 9) :
    Calls Try.prog 61 #[.int .i64 n] w fun r w' => r = .returned (.int .i64 (vhd n)) ∧ w = w' := by
  rcases (show n = 1 ∨ n = 2 ∨ n = 3 ∨ n = 4 ∨ n = 5 ∨ n = 6 ∨ n = 7 ∨ n = 8 ∨ n = 9 by omega) with h | h | h | h | h | h | h | h | h
  all_goals
    subst h
    go_enter Try.func61, Try.ntmps61
    go_wp2
    go_rounds 9
    go_ret
    exact ⟨rfl, rfl⟩
end Go.Proofs.Ytjebldfmkpfafaa

