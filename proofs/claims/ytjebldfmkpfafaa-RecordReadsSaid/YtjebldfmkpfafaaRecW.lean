/- Layer 10, plain: what was written is read. -/
import Derived.Test.YtjebldfmkpfafaaRecV
import Derived.Test.YtjebldfmkpfafaaRecP
namespace Go.Proofs.Ytjebldfmkpfafaa
open Go.RowKit
set_option maxRecDepth 100000

theorem rtake_good {l t r : List UInt8} {p : Nat} (h : l.drop p = t ++ r) (_hp : p ≤ l.length) : rtake l p 0 t.length = (t, p + t.length, 0) := by
  unfold rtake
  have h1 : (l.drop p).length = t.length + r.length := by rw [h, List.length_append]
  rw [List.length_drop] at h1
  rw [if_neg (by simp), if_neg (by omega), h, List.take_left]
theorem rfixed_be {l r : List UInt8} {p x n : Nat} (hn : 1 ≤ n) (hn8 : n ≤ 8) (h : l.drop p = be x n ++ r) (hp : p ≤ l.length) : rfixed l p 0 n = (x % 256 ^ n, p + n, 0) := by
  have h1 := rtake_good h hp
  rw [be_length] at h1
  unfold rfixed
  rw [if_neg (by omega), Int.toNat_natCast, h1, num_be]
theorem rint_vby {l r : List UInt8} {p x : Nat} {most : Int} (hx : x < 2 ^ 64) (hm : (x : Int) ≤ most) (h : l.drop p = vby x ++ r) : rint l p 0 most = (x, p + vsz x, 0) := by
  unfold rint
  rw [rvar_vby hx h]
  dsimp only
  rw [if_neg (by omega)]
theorem drop_more {l t r : List UInt8} {p : Nat} (h : l.drop p = t ++ r) : l.drop (p + t.length) = r := by
  rw [← List.drop_drop, h, List.drop_left]
theorem spB_split (l : List Sp) (k : Nat) : Rc.spB l = Rc.spB (l.take k) ++ Rc.spB (l.drop k) := by
  unfold Rc.spB; rw [← List.flatMap_append, List.take_append_drop]
theorem vsz_len (x : Nat) : vsz x = (vby x).length := (vby_length x).symm

/-- Spans that were written are read. -/
theorem rspK_back {L r : List UInt8} {p : Nat} {l : List Sp} (hl : ∀ s, s ∈ l → 0 ≤ s.1 ∧ s.1 ≤ 65536 ∧ 0 ≤ s.2 ∧ s.2 ≤ 65536) (h : L.drop p = Rc.spB l ++ r) : ∀ k, k ≤ l.length → rspK L p 0 k = (l.take k, p + (Rc.spB (l.take k)).length, 0)
  | 0, _ => by simp [rspK, Rc.spB]
  | k + 1, hk => by
    have ih := rspK_back hl h k (by omega)
    obtain ⟨s, hs⟩ : ∃ s, l[k]? = some s := ⟨l[k], by simp [show k < l.length by omega]⟩
    have hst : l.take (k + 1) = l.take k ++ [s] := by rw [List.take_add_one, hs]; rfl
    have hdr : l.drop k = s :: l.drop (k + 1) := by
      obtain ⟨hlt, rfl⟩ := List.getElem?_eq_some_iff.1 hs
      exact List.drop_eq_getElem_cons hlt
    obtain ⟨b0, b1, b2, b3⟩ := hl s (List.mem_of_getElem? hs)
    have hq : L.drop (p + (Rc.spB (l.take k)).length) = vby s.1.toNat ++ (vby s.2.toNat ++ (Rc.spB (l.drop (k + 1)) ++ r)) := by
      rw [← List.drop_drop, h, spB_split l k, List.append_assoc, List.drop_left, hdr]
      unfold Rc.spB
      simp
    have r1 := rint_vby (most := 65536) (show s.1.toNat < 2 ^ 64 by omega) (by omega) hq
    have hq2 := drop_more hq
    rw [← vsz_len] at hq2
    have r2 := rint_vby (most := 65536) (show s.2.toNat < 2 ^ 64 by omega) (by omega) hq2
    rw [rspK, ih]
    dsimp only
    rw [r1]
    dsimp only
    rw [r2, hst, spB_snoc, vsz_len, vsz_len, List.length_append, List.length_append]
    dsimp only
    refine Prod.ext ?_ (Prod.ext ?_ rfl)
    · show l.take k ++ [((s.1.toNat : Int), (s.2.toNat : Int))] = l.take k ++ [s]
      rw [Int.toNat_of_nonneg b0, Int.toNat_of_nonneg b2]
    · dsimp only
      omega

theorem rspA_back {L r : List UInt8} {p : Nat} {l : List Sp} (hl : ∀ s, s ∈ l → 0 ≤ s.1 ∧ s.1 ≤ 65536 ∧ 0 ≤ s.2 ∧ s.2 ≤ 65536) (hn : l.length ≤ 64) (h : L.drop p = vby l.length ++ (Rc.spB l ++ r)) :
    rspA L p 0 = (l, p + (vby l.length ++ Rc.spB l).length, 0) := by
  have r1 := rint_vby (most := 64) (show l.length < 2 ^ 64 by omega) (by omega) h
  have h2 := drop_more h
  rw [← vsz_len] at h2
  unfold rspA
  rw [r1]
  dsimp only
  rw [rspK_back hl h2 l.length (Nat.le_refl _), List.take_length, List.length_append, vsz_len]
  refine Prod.ext rfl (Prod.ext ?_ rfl)
  dsimp only
  omega

theorem rtext_back {L t r : List UInt8} {p : Nat} (ht : t.length ≤ 512) (hp : p ≤ L.length) (h : L.drop p = vby t.length ++ (t ++ r)) : rtext L p 0 512 = (t, p + (vby t.length ++ t).length, 0) := by
  have r1 := rint_vby (most := 512) (show t.length < 2 ^ 64 by omega) (by omega) h
  have h2 := drop_more h
  have h3 : p + (vby t.length).length ≤ L.length := by
    have h4 : (L.drop p).length = (vby t.length).length + (t ++ r).length := by rw [h, List.length_append]
    rw [List.length_drop] at h4
    omega
  rw [← vsz_len] at h2 h3
  have r2 := rtake_good h2 h3
  unfold rtext
  rw [r1]
  dsimp only
  rw [r2]
  dsimp only
  rw [if_neg (by simp), List.length_append, vsz_len]
  refine Prod.ext rfl (Prod.ext ?_ rfl)
  dsimp only
  omega

/-- The sum that a head tells. -/
def Rc.sumOf (r : Rc) (X : Nat) : Nat := if r.kd = 1 then X else 0
/-- What a body tells. -/
theorem rdR_back {r : Rc} (h : r.hok) (hs0 : r.kd ≠ 3 → r.tx = []) (hs3 : r.kd = 3 → r.sp = []) {X : Nat} (hX : X < 4294967296) {L rest : List UInt8} (hL : L = r.bodyB X ++ rest) :
    (rdK L).2.2 = 0 ∧ (rdK L).1 ≠ 0 ∧ (rdR L).2.2.2 = 0 ∧ (rdR L).2.1 = { r with dt := [] } ∧ (rdR L).1 = r.sumOf X := by
  rw [Rc.bodyB_eq] at hL
  have hd0 : L.drop 0 = vby r.ep.toNat ++ (vby r.nr.toNat ++ (vby r.kd.toNat ++ (r.partB X ++ rest))) := by rw [List.drop_zero, hL]; simp
  have e0 := h.e0; have e1 := h.e1; have n0 := h.n0; have n1 := h.n1; have hk := h.k
  have rE : rdE L = (r.ep.toNat, 0 + vsz r.ep.toNat, 0) := rint_vby (show r.ep.toNat < 2 ^ 64 by omega) (by omega) hd0
  have hd1 := drop_more hd0
  rw [← vsz_len] at hd1
  have rN : rdN L = (r.nr.toNat, 0 + vsz r.ep.toNat + vsz r.nr.toNat, 0) := by
    unfold rdN; rw [rE]; exact rint_vby (show r.nr.toNat < 2 ^ 64 by omega) (by omega) hd1
  have hd2 := drop_more hd1
  rw [← vsz_len] at hd2
  have rK : rdK L = (r.kd.toNat, 0 + vsz r.ep.toNat + vsz r.nr.toNat + vsz r.kd.toNat, 0) := by
    unfold rdK; rw [rN]; exact rint_vby (show r.kd.toNat < 2 ^ 64 by omega) (by omega) hd2
  have hd3 := drop_more hd2
  rw [← vsz_len] at hd3
  have hlen : 0 + vsz r.ep.toNat + vsz r.nr.toNat + vsz r.kd.toNat ≤ L.length := by rw [hL, vsz_len, vsz_len, vsz_len]; simp only [List.length_append]; omega
  have hrec : rec0 L = ⟨r.ep, r.nr, r.kd, [], [], []⟩ := by
    unfold rec0
    rw [rE, rN, rK]
    dsimp only
    rw [Int.toNat_of_nonneg e0, Int.toNat_of_nonneg n0, Int.toNat_of_nonneg (by omega)]
  generalize hP : 0 + vsz r.ep.toNat + vsz r.nr.toNat + vsz r.kd.toNat = P at *
  refine ⟨by rw [rK], by rw [rK]; show r.kd.toNat ≠ 0; omega, ?_⟩
  unfold rdR
  rw [rK, hrec]
  dsimp only
  unfold Rc.partB at hd3
  rcases hk with hk | hk | hk
  · rw [if_neg (show ¬ r.kd = 3 by omega), if_pos hk, List.append_assoc, List.append_assoc] at hd3
    have hb : ∀ s, s ∈ r.sp → 0 ≤ s.1 ∧ s.1 ≤ 65536 ∧ 0 ≤ s.2 ∧ s.2 ≤ 65536 := fun s hs => by have := maySp_bd (h.s2 (by omega) s hs); omega
    have rS := rspA_back hb (h.s1 (by omega)) (by simpa using hd3)
    have hd4 : L.drop (P + (vby r.sp.length ++ Rc.spB r.sp).length) = be X 4 ++ rest := drop_more (by simpa using hd3)
    have hp4 : P + (vby r.sp.length ++ Rc.spB r.sp).length ≤ L.length := by
      have h4 : (L.drop P).length = (vby r.sp.length ++ Rc.spB r.sp).length + (be X 4 ++ rest).length := by rw [hd3]; simp only [List.length_append]; omega
      rw [List.length_drop] at h4
      omega
    have rF := rfixed_be (n := 4) (by decide) (by decide) hd4 hp4
    rw [if_pos (show r.kd.toNat = 1 by omega)]
    unfold rd1
    rw [rS]
    dsimp only
    have rF2 : rfixed L (P + (vby r.sp.length ++ Rc.spB r.sp).length) 0 4 = (X % 256 ^ 4, P + (vby r.sp.length ++ Rc.spB r.sp).length + 4, 0) := rF
    rw [rF2]
    refine ⟨rfl, ?_, ?_⟩
    · rw [hs0 (by omega)]
    · unfold Rc.sumOf; rw [if_pos hk]; show X % 256 ^ 4 = X; omega
  · rw [if_neg (show ¬ r.kd = 3 by omega), if_neg (show ¬ r.kd = 1 by omega), List.append_nil, List.append_assoc] at hd3
    have hb : ∀ s, s ∈ r.sp → 0 ≤ s.1 ∧ s.1 ≤ 65536 ∧ 0 ≤ s.2 ∧ s.2 ≤ 65536 := fun s hs => by have := maySp_bd (h.s2 (by omega) s hs); omega
    have rS := rspA_back hb (h.s1 (by omega)) hd3
    rw [if_neg (show ¬ r.kd.toNat = 1 by omega), if_pos (show r.kd.toNat = 2 by omega)]
    unfold rd2
    rw [rS]
    refine ⟨rfl, ?_, ?_⟩
    · show (⟨r.ep, r.nr, r.kd, r.sp, [], []⟩ : Rc) = _; rw [hs0 (by omega)]
    · unfold Rc.sumOf; rw [if_neg (by omega)]
  · rw [if_pos hk, if_neg (show ¬ r.kd = 1 by omega), List.append_nil, List.append_assoc] at hd3
    have rT := rtext_back (h.t hk) hlen hd3
    rw [if_neg (show ¬ r.kd.toNat = 1 by omega), if_neg (show ¬ r.kd.toNat = 2 by omega)]
    unfold rd3
    rw [rT]
    refine ⟨rfl, ?_, ?_⟩
    · show (⟨r.ep, r.nr, r.kd, [], [], r.tx⟩ : Rc) = _; rw [hs3 hk]
    · unfold Rc.sumOf; rw [if_neg (by omega)]
end Go.Proofs.Ytjebldfmkpfafaa
