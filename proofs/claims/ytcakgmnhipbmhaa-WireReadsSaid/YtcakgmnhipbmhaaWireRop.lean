/- Layer 3, plain: a call that reads from a place on reads as of the bytes from there; behind a failure nothing is read. -/
import Derived.Test.YtcakgmnhipbmhaaWireRW
namespace Go.Proofs.Ytcakgmnhipbmhaa

theorem rtake_shift (l : List UInt8) (p n : Nat) : rtake l p 0 n = ((rtake (l.drop p) 0 0 n).1, if l.length - p < n then p else p + n, (rtake (l.drop p) 0 0 n).2.2) := by
  unfold rtake
  simp only [ne_eq, not_true_eq_false, if_false, List.length_drop, Nat.sub_zero, List.drop_zero]
  split <;> simp

theorem rtake_end (l : List UInt8) (n : Nat) : (rtake l 0 0 n).2.1 = if l.length < n then 0 else n := by
  unfold rtake
  simp only [ne_eq, not_true_eq_false, if_false, Nat.sub_zero]
  split <;> simp

theorem rtake_sh (l : List UInt8) (p n : Nat) : rtake l p 0 n = ((rtake (l.drop p) 0 0 n).1, p + (rtake (l.drop p) 0 0 n).2.1, (rtake (l.drop p) 0 0 n).2.2) := by
  rw [rtake_shift, rtake_end, List.length_drop]
  split <;> rfl

theorem rtake_from (l : List UInt8) (p q n : Nat) : rtake l (p + q) 0 n = ((rtake (l.drop p) q 0 n).1, p + (rtake (l.drop p) q 0 n).2.1, (rtake (l.drop p) q 0 n).2.2) := by
  unfold rtake
  simp only [ne_eq, not_true_eq_false, if_false, List.length_drop, List.drop_drop, Nat.sub_sub]
  split <;> simp [Nat.add_assoc]

theorem rvar_sh (l : List UInt8) (p : Nat) : rvar l p 0 = ((rvar (l.drop p) 0 0).1, p + (rvar (l.drop p) 0 0).2.1, (rvar (l.drop p) 0 0).2.2) := by
  have hg : (l.drop p).getD 0 0 = l.getD p 0 := by simp [List.getD]
  unfold rvar
  rw [hg]
  simp only [ne_eq, not_true_eq_false, if_false, List.length_drop, Nat.sub_zero, List.drop_zero]
  by_cases h1 : l.length ≤ p
  · have h2 : l.length - p ≤ 0 := by omega
    simp only [h1, h2, if_true, Nat.add_zero]
  · have h2 : ¬ l.length - p ≤ 0 := by omega
    simp only [h1, h2, if_false]
    by_cases h3 : l.length - p < vlead (l.getD p 0)
    · simp only [h3, if_true, Nat.add_zero]
    · simp only [h3, if_false]
      split <;> simp

theorem rfixed_sh (l : List UInt8) (p : Nat) (n : Int) : rfixed l p 0 n = ((rfixed (l.drop p) 0 0 n).1, p + (rfixed (l.drop p) 0 0 n).2.1, (rfixed (l.drop p) 0 0 n).2.2) := by
  unfold rfixed
  by_cases hb : n < 1 ∨ 8 < n
  · rw [if_pos ⟨rfl, hb⟩, if_pos ⟨rfl, hb⟩]; rfl
  · rw [if_neg (fun h => hb h.2), if_neg (fun h => hb h.2), rtake_sh]

theorem rint_sh (l : List UInt8) (p : Nat) (n : Int) : rint l p 0 n = ((rint (l.drop p) 0 0 n).1, p + (rint (l.drop p) 0 0 n).2.1, (rint (l.drop p) 0 0 n).2.2) := by
  unfold rint
  rw [rvar_sh]
  dsimp only
  split <;> rfl

theorem rtext_sh (l : List UInt8) (p : Nat) (n : Int) : rtext l p 0 n = ((rtext (l.drop p) 0 0 n).1, p + (rtext (l.drop p) 0 0 n).2.1, (rtext (l.drop p) 0 0 n).2.2) := by
  unfold rtext
  rw [rint_sh]
  generalize rint (l.drop p) 0 0 n = r
  obtain ⟨x, q, e⟩ := r
  dsimp only
  by_cases he : e = 0
  · subst he
    rw [rtake_from]
    dsimp only
    split <;> rfl
  · have h : ∀ l q, rtake l q e x = ([], q, e) := by intro l q; unfold rtake; rw [if_pos he]
    rw [h, h, if_pos he, if_pos he]; rfl

theorem rraw_sh (l : List UInt8) (p : Nat) (n : Int) : rraw l p 0 n = ((rraw (l.drop p) 0 0 n).1, p + (rraw (l.drop p) 0 0 n).2.1, (rraw (l.drop p) 0 0 n).2.2) := by
  unfold rraw
  by_cases hb : n < 0
  · rw [if_pos ⟨rfl, hb⟩, if_pos ⟨rfl, hb⟩]; rfl
  · rw [if_neg (fun h => hb h.2), if_neg (fun h => hb h.2), rtake_sh]

theorem rop_shift (l : List UInt8) (p : Nat) (o : OpR) : rop l p 0 o = ((rop (l.drop p) 0 0 o).1, (rop (l.drop p) 0 0 o).2.1, p + (rop (l.drop p) 0 0 o).2.2.1, (rop (l.drop p) 0 0 o).2.2.2) := by
  unfold rop
  rw [rfixed_sh, rvar_sh, rtext_sh, rint_sh, rraw_sh]
  split
  · rfl
  split
  · rfl
  split
  · rfl
  split <;> rfl

theorem rop_dead (l : List UInt8) (p : Nat) (e : Int) (o : OpR) (he : e ≠ 0) : rop l p e o = (0, [], p, e) := by
  have h : ∀ n, rtake l p e n = ([], p, e) := by intro n; unfold rtake; rw [if_pos he]
  have hv : rvar l p e = (0, p, e) := by unfold rvar; rw [if_pos he]
  have hi : ∀ n, rint l p e n = (0, p, e) := by intro n; unfold rint; rw [hv]; dsimp only; rw [if_neg (fun h => he h.1)]
  unfold rop rfixed rtext rraw
  rw [hv]
  simp [h, hi, he, num]

theorem rtake_in (l : List UInt8) (p : Nat) (e : Int) (n : Nat) (hp : p ≤ l.length) : (rtake l p e n).2.1 ≤ l.length := by
  unfold rtake
  split
  · exact hp
  · split
    · exact hp
    · show p + n ≤ _
      omega

theorem rop_in (l : List UInt8) (p : Nat) (e : Int) (o : OpR) (hp : p ≤ l.length) : (rop l p e o).2.2.1 ≤ l.length := by
  have h1 := (rvar_facts l p e hp).1
  have h2 := (rint_facts l p e o.n hp).1
  unfold rop
  split
  · unfold rfixed; split
    · exact hp
    · exact rtake_in _ _ _ _ hp
  split
  · exact h1
  split
  · unfold rtext
    dsimp only
    split
    · exact hp
    · exact rtake_in _ _ _ _ h2
  split
  · exact h2
  · unfold rraw; split
    · exact hp
    · exact rtake_in _ _ _ _ hp
end Go.Proofs.Ytcakgmnhipbmhaa
