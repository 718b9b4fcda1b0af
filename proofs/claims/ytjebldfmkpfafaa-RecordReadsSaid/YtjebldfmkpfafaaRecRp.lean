/- Layer 10, plain: what the reference reads of a head is what the program reads of it. -/
import Derived.Test.YtjebldfmkpfafaaRecRt
import Derived.Test.YtjebldfmkpfafaaRecZ
namespace Go.Proofs.Ytjebldfmkpfafaa
open Go.RowKit
set_option maxRecDepth 100000

theorem pairs_back {D r : List UInt8} {l : List Sp} {k0 p : Nat} {pre : List Nat} (hl : ∀ s, s ∈ l → 0 ≤ s.1 ∧ s.1 ≤ 65536 ∧ 0 ≤ s.2 ∧ s.2 ≤ 65536) (hk : numK D k0 = some (pre, p)) (h : D.drop p = Rc.spB l ++ r) :
    ∃ q, numK D (k0 + 2 * l.length) = some (pre ++ l.flatMap (fun s => [s.1.toNat, s.2.toNat]), q) ∧ D.drop q = r := by
  induction l generalizing k0 p pre with
  | nil =>
    refine ⟨p, ?_, ?_⟩
    · simpa using hk
    · simpa [Rc.spB] using h
  | cons s t ih =>
    have hs := hl s (by simp)
    have e : Rc.spB (s :: t) = vby s.1.toNat ++ vby s.2.toNat ++ Rc.spB t := by unfold Rc.spB; simp
    rw [e, List.append_assoc, List.append_assoc] at h
    obtain ⟨h1, h2⟩ := numK_step hk h (by omega)
    obtain ⟨h3, h4⟩ := numK_step h1 h2 (by omega)
    obtain ⟨q, h5, h6⟩ := ih (fun x hx => hl x (by simp [hx])) h3 h4
    refine ⟨q, ?_, h6⟩
    rw [List.length_cons, show k0 + 2 * (t.length + 1) = k0 + 1 + 1 + 2 * t.length by omega, h5]
    simp

theorem pairsK_back (l : List Sp) (hl : ∀ s, s ∈ l → 0 ≤ s.1 ∧ s.1 ≤ 65536 ∧ 0 ≤ s.2 ∧ s.2 ≤ 65536) : ∀ k, k ≤ l.length → pairsK (l.flatMap fun s => [s.1.toNat, s.2.toNat]) k = l.take k
  | 0, _ => by simp [pairsK]
  | k + 1, hk => by
    rw [pairsK, pairsK_back l hl k (by omega)]
    have hlt : k < l.length := by omega
    have hg : ∀ j, j < 2 → (l.flatMap fun s => [s.1.toNat, s.2.toNat])[k * 2 + j]? = [l[k].1.toNat, l[k].2.toNat][j]? := fun j hj => by
      obtain ⟨h1, h2⟩ := flat_parts (f := fun s : Sp => [s.1.toNat, s.2.toNat]) (c := 2) (fun x _ => rfl) (i := k) (x := l[k]) (List.getElem?_eq_getElem hlt)
      rw [h1, List.append_assoc, List.getElem?_append_right (by omega), h2, Nat.add_sub_cancel_left, List.getElem?_append_left (by simpa using hj)]
    have g0 := hg 0 (by decide)
    have g1 := hg 1 (by decide)
    have hs := hl l[k] (List.getElem_mem hlt)
    rw [List.getD_eq_getElem?_getD, List.getD_eq_getElem?_getD, show 2 * k = k * 2 + 0 by omega, show k * 2 + 0 + 1 = k * 2 + 1 by omega, g0, g1, List.take_add_one, List.getElem?_eq_getElem hlt]
    simp only [List.getElem?_cons_zero, List.getElem?_cons_succ, Option.getD_some, Option.toList]
    congr 2
    exact Prod.ext (by dsimp only; omega) (by dsimp only; omega)

/-- What is read of what was written. -/
theorem toldQ_back {r : Rc} (h : r.hok) (hs0 : r.kd ≠ 3 → r.tx = []) (hs3 : r.kd = 3 → r.sp = []) {X : Nat} {L rest : List UInt8} (hL : L = r.bodyB X ++ rest) :
    toldQ L = some ({ r with dt := [] }, if r.kd = 1 then be X 4 else []) := by
  rw [Rc.bodyB_eq] at hL
  have hd0 : L.drop 0 = vby r.ep.toNat ++ (vby r.nr.toNat ++ (vby r.kd.toNat ++ (r.partB X ++ rest))) := by rw [List.drop_zero, hL]; simp
  have e0 := h.e0; have e1 := h.e1; have n0 := h.n0; have n1 := h.n1; have hk := h.k
  obtain ⟨a1, b1⟩ := numK_step (s := L) (k := 0) (p := 0) (l := []) rfl hd0 (by omega)
  obtain ⟨a2, b2⟩ := numK_step a1 b1 (by omega)
  obtain ⟨a3, b3⟩ := numK_step a2 b2 (by omega)
  unfold Rc.partB at b3
  by_cases hk3 : r.kd = 3
  · rw [if_pos hk3, if_neg (show ¬ r.kd = 1 by omega), List.append_nil, List.append_assoc] at b3
    have ht := h.t hk3
    obtain ⟨a4, b4⟩ := numK_step a3 b3 (by omega)
    generalize 0 + vsz r.ep.toNat + vsz r.nr.toNat + vsz r.kd.toNat + vsz r.tx.length = P at *
    have hkn : r.kd.toNat = 3 := by omega
    unfold toldQ
    rw [a4, Option.bind_some, b4]
    dsimp only
    simp only [List.nil_append, List.cons_append, List.getD_cons_zero, List.getD_cons_succ]
    rw [if_pos hkn, if_neg (by rw [List.length_append]; omega), List.take_left, if_neg (show ¬ r.kd = 1 by omega)]
    have e3 : (⟨((r.ep.toNat : Nat) : Int), ((r.nr.toNat : Nat) : Int), 3, [], [], r.tx⟩ : Rc) = { r with dt := [] } := by
      rw [Int.toNat_of_nonneg e0, Int.toNat_of_nonneg n0, ← hk3]
      have := hs3 hk3
      obtain ⟨ep, nr, kd, sp, dt, tx⟩ := r
      dsimp only at *
      rw [this]
    rw [e3]
  · rw [if_neg hk3, List.append_assoc, List.append_assoc] at b3
    have hs1 := h.s1 hk3
    have hb : ∀ s, s ∈ r.sp → 0 ≤ s.1 ∧ s.1 ≤ 65536 ∧ 0 ≤ s.2 ∧ s.2 ≤ 65536 := fun s hs => by have := maySp_bd (h.s2 hk3 s hs); omega
    obtain ⟨a4, b4⟩ := numK_step a3 b3 (by omega)
    generalize 0 + vsz r.ep.toNat + vsz r.nr.toNat + vsz r.kd.toNat + vsz r.sp.length = P at *
    have hkn : ¬ r.kd.toNat = 3 := by omega
    obtain ⟨q, a5, b5⟩ := pairs_back (D := L.drop P) (k0 := 0) (p := 0) (pre := []) hb rfl (by rw [List.drop_zero]; exact b4)
    rw [Nat.zero_add, List.nil_append] at a5
    have hpk := pairsK_back r.sp hb r.sp.length (Nat.le_refl _)
    rw [List.take_length] at hpk
    unfold toldQ
    rw [a4, Option.bind_some]
    dsimp only
    simp only [List.nil_append, List.cons_append, List.getD_cons_zero, List.getD_cons_succ]
    rw [if_neg hkn, if_neg (by omega), a5, Option.bind_some]
    dsimp only
    rw [hpk, b5]
    have e3 : ∀ k : Int, r.kd = k → (⟨((r.ep.toNat : Nat) : Int), ((r.nr.toNat : Nat) : Int), k, r.sp, [], []⟩ : Rc) = { r with dt := [] } := fun k hk' => by
      rw [Int.toNat_of_nonneg e0, Int.toNat_of_nonneg n0, ← hk']
      have := hs0 hk3
      obtain ⟨ep, nr, kd, sp, dt, tx⟩ := r
      dsimp only at *
      rw [this]
    have hql : (L.drop P).length = q + ((L.drop P).drop q).length ∨ (L.drop P).length < q := by rw [List.length_drop (i := q)]; omega
    have hqf := (numK_facts a5).1
    by_cases hk1 : r.kd = 1
    · rw [if_pos (show r.kd.toNat = 1 by omega), if_pos hk1]
      rw [if_pos hk1] at b5
      have hbl : (be X 4).length = 4 := be_length _ _
      have hq2 : ((L.drop P).drop q).length = 4 + rest.length := by rw [b5, List.length_append, hbl]
      rw [if_neg (by omega), e3 1 hk1, List.take_left' hbl]
    · rw [if_neg (show ¬ r.kd.toNat = 1 by omega), e3 _ (by omega), if_neg hk1]

/-- What the reference's record is like. -/
theorem toldQ_fit {b : List UInt8} {r : Rc} {sum : List UInt8} (hb : b.length ≤ 100000) (h : toldQ b = some (r, sum)) : r.dt = [] ∧ r.sp.length ≤ 64 ∧ (r.kd = 1 → sum.length = 4) ∧ r.tx.length ≤ 100000 := by
  unfold toldQ at h
  cases hN : numK b 4 with
  | none => rw [hN] at h; cases h
  | some x =>
    rw [hN, Option.bind_some] at h
    split at h
    · split at h
      · cases h
      · simp only [Option.some.injEq, Prod.mk.injEq] at h
        obtain ⟨rfl, rfl⟩ := h
        refine ⟨rfl, Nat.zero_le _, fun h => by simp at h, ?_⟩
        rw [List.length_take, List.length_drop]; omega
    · split at h
      · cases h
      · rename_i h64
        cases hM : numK (b.drop x.2) (2 * x.1.getD 3 0) with
        | none => rw [hM] at h; cases h
        | some y =>
          rw [hM, Option.bind_some] at h
          split at h
          · split at h
            · cases h
            · rename_i hy
              simp only [Option.some.injEq, Prod.mk.injEq] at h
              obtain ⟨rfl, rfl⟩ := h
              refine ⟨rfl, by dsimp only; rw [pairsK_len]; omega, fun _ => ?_, Nat.zero_le _⟩
              rw [List.length_take, List.length_drop, List.length_drop] at *
              omega
          · rename_i hn1
            simp only [Option.some.injEq, Prod.mk.injEq] at h
            obtain ⟨rfl, rfl⟩ := h
            refine ⟨rfl, by dsimp only; rw [pairsK_len]; omega, fun h => ?_, Nat.zero_le _⟩
            exact absurd (by dsimp only at h; omega) hn1

theorem hok_full {r : Rc} (h : r.full.check = 0) : r.hok ∧ (r.kd ≠ 3 → r.tx = []) ∧ (r.kd = 3 → r.sp = []) := by
  obtain ⟨a, _, _, _, b, c⟩ := Rc.check_ok h
  unfold Rc.full at a b c
  split at a
  · rename_i hh
    rw [if_pos hh] at b c
    exact ⟨⟨a.e0, a.e1, a.n0, a.n1, a.k, a.s1, a.s2, a.t⟩, fun h => (b h).2, c⟩
  · rename_i hh
    rw [if_neg hh] at b c
    exact ⟨a, fun h => (b h).2, c⟩
theorem full_head (r : Rc) (X : Nat) : r.full.headB X = r.headB X := by
  unfold Rc.full
  split <;> rfl
theorem headB_same {r : Rc} (h : r.kd ≠ 1) (X Y : Nat) : r.headB X = r.headB Y := by
  have hb : r.bodyB X = r.bodyB Y := by unfold Rc.bodyB; simp only [if_neg h]
  unfold Rc.headB
  rw [hb]

/-- The head made anew. -/
def againQ (r : Rc) (sum : List UInt8) : List UInt8 := if r.kd = 1 then r.headB (num sum) else r.headB (crcMore 0 r.dt)
theorem be_num4 {l : List UInt8} (h : l.length = 4) : be (num l) 4 = l ∧ num l < 4294967296 := by
  have h1 := num_lt4 l
  rw [h] at h1
  exact ⟨be_of_num h (Nat.mod_eq_of_lt h1), h1⟩

/-- Both read the same of a head. -/
theorem told_q (H : List UInt8) (hH : H.length ≤ 100000) :
    (toldV H = (Rc.zero, 0, 12) ∧ (toldQ (bodyOfH H) = none ∨ ∃ r sum, toldQ (bodyOfH H) = some (r, sum) ∧ (r.full.check ≠ 0 ∨ (r.full.check = 0 ∧ againQ r sum ≠ H)))) ∨
    ∃ r X, X < 4294967296 ∧ toldV H = (r, X, 0) ∧ toldQ (bodyOfH H) = some (r, if r.kd = 1 then be X 4 else []) ∧ r.full.check = 0 ∧ againQ r (if r.kd = 1 then be X 4 else []) = H := by
  rcases told_cases H with h | ⟨r, X, h, hh, hc, hd⟩
  · left
    refine ⟨h, ?_⟩
    cases hq : toldQ (bodyOfH H) with
    | none => exact .inl rfl
    | some y =>
      obtain ⟨r, sum⟩ := y
      refine .inr ⟨r, sum, rfl, ?_⟩
      by_cases hc : r.full.check = 0
      · refine .inr ⟨hc, fun ha => ?_⟩
        have hb : (bodyOfH H).length ≤ 100000 := Nat.le_trans (bodyOfH_len H) hH
        obtain ⟨f1, f2, f3, f4⟩ := toldQ_fit hb hq
        obtain ⟨Y, hY, he⟩ : ∃ Y, Y < 4294967296 ∧ r.headB Y = H := by
          unfold againQ at ha
          split at ha
          · rename_i hk
            exact ⟨num sum, (be_num4 (f3 hk)).2, ha⟩
          · exact ⟨_, crcMore_lt 0 r.dt, ha⟩
        have hb := told_back hc hY
        rw [full_head, he, h] at hb
        simp at hb
      · exact .inl hc
  · right
    have hX := toldP_x H
    rw [h] at hX
    obtain ⟨g1, g2, g3⟩ := hok_full hc
    have hbd := body_of_head r X g1
    rw [hh] at hbd
    have hq := toldQ_back g1 g2 g3 hbd
    have hrr : ({ r with dt := [] } : Rc) = r := by rw [← hd]
    rw [hrr] at hq
    refine ⟨r, X, hX, h, hq, hc, ?_⟩
    unfold againQ
    by_cases hk : r.kd = 1
    · rw [if_pos hk, if_pos hk, num_be, Nat.mod_eq_of_lt (by simpa using hX), hh]
    · rw [if_neg hk, headB_same hk _ X, hh]
end Go.Proofs.Ytjebldfmkpfafaa
