/- Layer 10, plain: what is decoded is encoded. -/
import Derived.Test.YtjebldfmkpfafaaRecX
namespace Go.Proofs.Ytjebldfmkpfafaa
open Go.RowKit
set_option maxRecDepth 100000

theorem rdR_dt (b : List UInt8) : (rdR b).2.1.dt = [] := by
  unfold rdR
  split
  · rfl
  · split <;> rfl
theorem told_cases (s : List UInt8) : toldV s = (Rc.zero, 0, 12) ∨ ∃ r X, toldV s = (r, X, 0) ∧ r.headB X = s ∧ r.full.check = 0 ∧ r.dt = [] := by
  by_cases h : (rdK (bodyOfH s)).2.2 ≠ 0 ∨ (rdK (bodyOfH s)).1 = 0
  · left; unfold toldV toldP; rw [if_pos h]
  · rw [not_or] at h
    rw [toldV_of (by simpa using h.1) h.2 rfl]
    split
    · exact .inl rfl
    · split
      · exact .inl rfl
      · split
        · exact .inl rfl
        · rename_i h1 h2 h3
          exact .inr ⟨_, _, rfl, by simpa using h3, by simpa using h2, rdR_dt _⟩
theorem crc_cases (s : List UInt8) : (crcOpen s).2 = 0 ∨ (crcOpen s).2 = 10 ∨ (crcOpen s).2 = 13 := by
  unfold crcOpen
  split
  · exact .inr (.inl rfl)
  · split
    · exact .inl rfl
    · exact .inr (.inr rfl)
theorem open_cases (s : List UInt8) : (∃ e : Int, openV s = (Rc.zero, 0, 0, e) ∧ (e = 10 ∨ e = 12 ∨ e = 13)) ∨
    ∃ r N X, openV s = (r, N, X, 0) ∧ 1 ≤ N ∧ N * 64 ≤ s.length ∧ r.headB X = s.take (N * 64) ∧ r.full.check = 0 ∧ r.dt = [] := by
  by_cases h1 : s.length < 64
  · exact .inl ⟨10, by unfold openV; rw [if_pos h1], .inl rfl⟩
  · by_cases h2 : [76, 82].isPrefixOf s = false ∨ nOf s < 1 ∨ 40 < nOf s
    · exact .inl ⟨12, by unfold openV; rw [if_neg h1, if_pos h2], .inr (.inl rfl)⟩
    · by_cases h3 : s.length < nOf s * 64
      · exact .inl ⟨10, by unfold openV; rw [if_neg h1, if_neg h2, if_pos h3], .inl rfl⟩
      · by_cases h4 : (crcOpen (s.take (nOf s * 64))).2 ≠ 0
        · refine .inl ⟨_, by unfold openV; rw [if_neg h1, if_neg h2, if_neg h3, if_pos h4], ?_⟩
          rcases crc_cases (s.take (nOf s * 64)) with h | h | h
          · exact absurd h h4
          · exact .inl h
          · exact .inr (.inr h)
        · rcases told_cases (s.take (nOf s * 64)) with h5 | ⟨r, X, h5, h6, h7, h8⟩
          · exact .inl ⟨12, by unfold openV; rw [if_neg h1, if_neg h2, if_neg h3, if_neg h4, h5]; rfl, .inr (.inl rfl)⟩
          · refine .inr ⟨r, nOf s, X, by unfold openV; rw [if_neg h1, if_neg h2, if_neg h3, if_neg h4, h5]; rfl, ?_, by omega, h6, h7, h8⟩
            rw [not_or, not_or] at h2
            omega

/-- A record whose data may be laid. -/
theorem full_back {r : Rc} (hd : r.dt = []) (hc : r.full.check = 0) {d : List UInt8} (hl : r.kd = 1 → (d.length : Int) = r.sects * 64) (h0 : r.kd ≠ 1 → d = []) : ({ r with dt := d } : Rc).check = 0 ∧ 0 ≤ r.sects := by
  by_cases hk : r.kd = 1
  · have hs : r.sects = totS r.sp := by unfold Rc.sects; rw [if_pos hk]
    by_cases hin : 0 < r.sects ∧ r.sects ≤ 512
    · refine ⟨?_, by omega⟩
      have hf : r.full = { r with dt := List.replicate (r.sects.toNat * 64) 0 } := by unfold Rc.full; rw [if_pos hin]
      rw [hf] at hc
      obtain ⟨hok, h1, h2, h3, h4, h5⟩ := Rc.check_ok hc
      have h6 : r.spok = true := (h4 (show r.kd ≠ 3 by omega)).1
      have h7 := hl hk
      have hn : ({ r with dt := d } : Rc).nums := ⟨hok.e0, hok.e1, hok.n0, hok.n1⟩
      have hsp : ({ r with dt := d } : Rc).spok = true := h6
      unfold Rc.check
      rw [if_pos hn, if_pos hk]
      unfold Rc.written
      rw [if_neg (show ¬ (({ r with dt := d } : Rc).spok = false ∨ 512 < totS r.sp) from fun h => h.elim (fun h => by rw [hsp] at h; cases h) (fun h => by omega))]
      rw [if_neg (show ¬ ((d.length : Int) ≠ totS r.sp * 64) from fun h => h (by omega))]
    · exfalso
      have hf : r.full = r := by unfold Rc.full; rw [if_neg hin]
      rw [hf] at hc
      obtain ⟨hok, h1, h2, h3, h4, h5⟩ := Rc.check_ok hc
      obtain ⟨h6, h7⟩ := h3 hk
      obtain ⟨g1, g2, g3, g4⟩ := Rc.spok_spec (h4 (by omega)).1
      have g5 := totS_pos g1 g4
      rw [hd] at h6
      simp at h6
      omega
  · have hs : r.sects = 0 := by unfold Rc.sects; rw [if_neg hk]
    have hf : r.full = r := by unfold Rc.full; rw [if_neg (by omega)]
    rw [hf] at hc
    rw [h0 hk, ← hd]
    exact ⟨hc, by omega⟩

theorem dec_cases (s : List UInt8) : (∃ e : Int, decV s = (Rc.zero, 0, e) ∧ (e = 10 ∨ e = 12 ∨ e = 13)) ∨
    ∃ (x : Rc) (n : Nat), decV s = (x, (n : Int), 0) ∧ x.check = 0 ∧ 64 * n ≤ s.length ∧ x.encV.1 = s.take (64 * n) := by
  rcases open_cases s with ⟨e, h1, h2⟩ | ⟨r, N, X, h1, h2, h3, h4, h5, h6⟩
  · refine .inl ⟨e, ?_, h2⟩
    unfold decV
    rw [h1, if_pos (show e ≠ 0 by omega)]
  · unfold decV
    rw [h1]
    dsimp only
    rw [if_neg (fun h => h rfl)]
    by_cases hl : (s.length : Int) < (N + r.sects) * 64
    · rw [if_pos hl]; exact .inl ⟨10, rfl, .inl rfl⟩
    · rw [if_neg hl]
      by_cases hk : r.kd = 1
      · rw [if_pos hk]
        by_cases hc : crcMore 0 ((s.drop (N * 64)).take (r.sects.toNat * 64)) ≠ X
        · rw [if_pos hc]; exact .inl ⟨13, rfl, .inr (.inr rfl)⟩
        · rw [if_neg hc]
          have hc' : crcMore 0 ((s.drop (N * 64)).take (r.sects.toNat * 64)) = X := by simpa using hc
          have hs0 : 0 ≤ r.sects := (full_back h6 h5 (d := List.replicate (r.sects.toNat * 64) 0) (fun _ => by
            by_cases hh : 0 ≤ r.sects
            · rw [List.length_replicate]; omega
            · exfalso
              have hs : r.sects = totS r.sp := by unfold Rc.sects; rw [if_pos hk]
              have hf : r.full = r := by unfold Rc.full; rw [if_neg (by omega)]
              rw [hf] at h5
              obtain ⟨_, _, _, q3, q4, _⟩ := Rc.check_ok h5
              obtain ⟨g1, g2, g3, g4⟩ := Rc.spok_spec (q4 (by omega)).1
              have := totS_pos g1 g4
              omega) (fun h => absurd hk h)).2
          have hdl : ((s.drop (N * 64)).take (r.sects.toNat * 64)).length = r.sects.toNat * 64 := by rw [List.length_take, List.length_drop]; omega
          obtain ⟨g1, _⟩ := full_back h6 h5 (d := (s.drop (N * 64)).take (r.sects.toNat * 64)) (fun _ => by rw [hdl]; omega) (fun h => absurd hk h)
          refine .inr ⟨_, N + r.sects.toNat, by rw [show ((N + r.sects.toNat : Nat) : Int) = (N : Int) + r.sects by omega], g1, by omega, ?_⟩
          rw [enc_shape g1]
          dsimp only
          rw [hc']
          have hh : ({ r with dt := (s.drop (N * 64)).take (r.sects.toNat * 64) } : Rc).headB X = r.headB X := by
            have := headB_sumOf r X ((s.drop (N * 64)).take (r.sects.toNat * 64))
            unfold Rc.sumOf at this
            rw [if_pos hk] at this
            exact this
          rw [hh, h4, show 64 * (N + r.sects.toNat) = N * 64 + r.sects.toNat * 64 by omega, List.take_add]
      · rw [if_neg hk]
        have hs : r.sects = 0 := by unfold Rc.sects; rw [if_neg hk]
        obtain ⟨g1, _⟩ := full_back h6 h5 (d := []) (fun h => absurd h hk) (fun _ => rfl)
        have e1 : ({ r with dt := [] } : Rc) = r := withD_self h6
        rw [e1] at g1
        refine .inr ⟨r, N, by rw [hs, Int.add_zero], g1, by omega, ?_⟩
        rw [enc_shape g1, h6, List.append_nil]
        dsimp only
        rw [show 64 * N = N * 64 by omega, ← h4]
        have a1 := headB_sumOf r (crcMore 0 []) []
        have a2 := headB_sumOf r X []
        unfold Rc.sumOf at a1 a2
        rw [if_neg hk] at a1 a2
        rw [← a1, ← a2]
end Go.Proofs.Ytjebldfmkpfafaa
