/- Layer 10: told, all kinds. -/
import Derived.Test.YtjebldfmkpfafaaRecS1
import Derived.Test.YtjebldfmkpfafaaRecS2
import Derived.Test.YtjebldfmkpfafaaRecS3
import Derived.Test.YtjebldfmkpfafaaRecS4
namespace Go.Proofs.Ytjebldfmkpfafaa
open Go.RowKit
set_option maxRecDepth 100000

theorem toldV_of {s : List UInt8} {T : Nat × Rc × Nat × Int} (h1 : (rdK (bodyOfH s)).2.2 = 0) (h2 : (rdK (bodyOfH s)).1 ≠ 0) (hT : rdR (bodyOfH s) = T) :
    toldV s = if T.2.2.2 ≠ 0 then (Rc.zero, 0, 12) else if T.2.1.full.check ≠ 0 then (Rc.zero, 0, 12) else if T.2.1.headB T.1 ≠ s then (Rc.zero, 0, 12) else (T.2.1, T.1, 0) := by
  unfold toldV toldP
  rw [if_neg (show ¬ ((rdK (bodyOfH s)).2.2 ≠ 0 ∨ (rdK (bodyOfH s)).1 = 0) from fun h => h.elim (fun h => h h1) (fun h => h2 h)), hT]
  by_cases a : T.2.2.2 ≠ 0
  · rw [if_pos a, if_pos a]
  · rw [if_neg a, if_neg a]
    by_cases b : T.2.1.full.check ≠ 0
    · rw [if_pos b, if_pos b]
    · rw [if_neg b, if_neg b]
      by_cases c : T.2.1.headB T.1 ≠ s
      · rw [if_pos c, if_pos c]
      · rw [if_neg c, if_neg c]

theorem totS_pos {l : List Sp} (h0 : 1 ≤ l.length) (h : ∀ s, s ∈ l → maySp s = true) : 1 ≤ totS l := by
  cases l with
  | nil => simp at h0
  | cons a r =>
    have h1 := maySp_bd (h a (by simp))
    have h2 := totS_bd r (fun s hs => by have := maySp_bd (h s (List.mem_cons_of_mem _ hs)); omega)
    show 1 ≤ a.2 + totS r
    omega

theorem told_any (s : List UInt8) (w : World) (h8 : 8 ≤ s.length) (hs : s.length ≤ 4000) : Calls Try.prog 64 #[.string (str s)] w (ToldPost s w (toldV s)) := by
  by_cases hf : (rdK (bodyOfH s)).2.2 = 0
  · by_cases h0 : (rdK (bodyOfH s)).1 = 0
    · exact told_b s w h8 hs hf h0
    · have h3 := rint_most (bodyOfH s) _ (rdN (bodyOfH s)).2.2 3 (rdN_le _) (by decide)
      change ((rdK (bodyOfH s)).1 : Int) ≤ 3 at h3
      have hR : rdR (bodyOfH s) = if (rdK (bodyOfH s)).1 = 1 then rd1 (bodyOfH s) (rdK (bodyOfH s)).2.1 0 (rec0 (bodyOfH s)) else if (rdK (bodyOfH s)).1 = 2 then rd2 (bodyOfH s) (rdK (bodyOfH s)).2.1 0 (rec0 (bodyOfH s)) else rd3 (bodyOfH s) (rdK (bodyOfH s)).2.1 0 (rec0 (bodyOfH s)) := by unfold rdR; rw [hf]
      rcases (show (rdK (bodyOfH s)).1 = 1 ∨ (rdK (bodyOfH s)).1 = 2 ∨ (rdK (bodyOfH s)).1 = 3 by omega) with hk | hk | hk
      · rw [if_pos hk] at hR
        have hv := toldV_of hf h0 hR
        have hkd : (rd1 (bodyOfH s) (rdK (bodyOfH s)).2.1 0 (rec0 (bodyOfH s))).2.1.kd = 1 := by show ((rdK (bodyOfH s)).1 : Int) = 1; rw [hk]; rfl
        have hdt : (rd1 (bodyOfH s) (rdK (bodyOfH s)).2.1 0 (rec0 (bodyOfH s))).2.1.dt = [] := rfl
        by_cases h4 : (rd1 (bodyOfH s) (rdK (bodyOfH s)).2.1 0 (rec0 (bodyOfH s))).2.2.2 = 0
        · rw [if_neg (fun h => h h4)] at hv
          by_cases hin : 0 < (rd1 (bodyOfH s) (rdK (bodyOfH s)).2.1 0 (rec0 (bodyOfH s))).2.1.sects ∧ (rd1 (bodyOfH s) (rdK (bodyOfH s)).2.1 0 (rec0 (bodyOfH s))).2.1.sects ≤ 512
          · by_cases hc : (rd1 (bodyOfH s) (rdK (bodyOfH s)).2.1 0 (rec0 (bodyOfH s))).2.1.full.check = 0
            · rw [if_neg (fun h => h hc)] at hv
              by_cases hh : (rd1 (bodyOfH s) (rdK (bodyOfH s)).2.1 0 (rec0 (bodyOfH s))).2.1.headB (rd1 (bodyOfH s) (rdK (bodyOfH s)).2.1 0 (rec0 (bodyOfH s))).1 = s
              · rw [if_neg (fun h => h hh)] at hv
                exact told_1inok s w h8 hs hf hk h4 hc hin.1 hin.2 hh hv
              · rw [if_pos hh] at hv
                exact told_1inhead s w h8 hs hf hk h4 hc hin.1 hin.2 hh hv
            · rw [if_pos hc] at hv
              exact told_1inbad s w h8 hs hf hk h4 hc hin.1 hin.2 hv
          · have hful : (rd1 (bodyOfH s) (rdK (bodyOfH s)).2.1 0 (rec0 (bodyOfH s))).2.1.full = (rd1 (bodyOfH s) (rdK (bodyOfH s)).2.1 0 (rec0 (bodyOfH s))).2.1 := by unfold Rc.full; rw [if_neg hin]
            have hse : (rd1 (bodyOfH s) (rdK (bodyOfH s)).2.1 0 (rec0 (bodyOfH s))).2.1.sects = totS (rd1 (bodyOfH s) (rdK (bodyOfH s)).2.1 0 (rec0 (bodyOfH s))).2.1.sp := by unfold Rc.sects; rw [if_pos hkd]
            have hc : (rd1 (bodyOfH s) (rdK (bodyOfH s)).2.1 0 (rec0 (bodyOfH s))).2.1.full.check ≠ 0 := by
              intro h
              rw [hful] at h
              obtain ⟨_, _, _, h5, h6, _⟩ := Rc.check_ok h
              obtain ⟨h7, h8'⟩ := h5 hkd
              obtain ⟨g1, g2, g3, g4⟩ := Rc.spok_spec (h6 (by omega)).1
              have g5 := totS_pos g1 g4
              rw [hdt] at h7
              simp at h7
              omega
            rw [if_pos hc] at hv
            by_cases hz : 0 < (rd1 (bodyOfH s) (rdK (bodyOfH s)).2.1 0 (rec0 (bodyOfH s))).2.1.sects
            · exact told_1bigbad s w h8 hs hf hk h4 hc hz (fun h => hin ⟨hz, h⟩) hv
            · exact told_1zerobad s w h8 hs hf hk h4 hc hz hv
        · rw [if_pos h4] at hv
          exact told_1err s w h8 hs hf hk h4 hv
      · rw [if_neg (by omega), if_pos hk] at hR
        have hv := toldV_of hf h0 hR
        have hz : ¬ 0 < (rd2 (bodyOfH s) (rdK (bodyOfH s)).2.1 0 (rec0 (bodyOfH s))).2.1.sects := by
          have hkd : (rd2 (bodyOfH s) (rdK (bodyOfH s)).2.1 0 (rec0 (bodyOfH s))).2.1.kd = 2 := by show ((rdK (bodyOfH s)).1 : Int) = 2; rw [hk]; rfl
          unfold Rc.sects; rw [if_neg (by omega)]; omega
        by_cases h4 : (rd2 (bodyOfH s) (rdK (bodyOfH s)).2.1 0 (rec0 (bodyOfH s))).2.2.2 = 0
        · rw [if_neg (fun h => h h4)] at hv
          by_cases hc : (rd2 (bodyOfH s) (rdK (bodyOfH s)).2.1 0 (rec0 (bodyOfH s))).2.1.full.check = 0
          · rw [if_neg (fun h => h hc)] at hv
            by_cases hh : (rd2 (bodyOfH s) (rdK (bodyOfH s)).2.1 0 (rec0 (bodyOfH s))).2.1.headB (rd2 (bodyOfH s) (rdK (bodyOfH s)).2.1 0 (rec0 (bodyOfH s))).1 = s
            · rw [if_neg (fun h => h hh)] at hv
              exact told_2zerook s w h8 hs hf hk h4 hc hz hh hv
            · rw [if_pos hh] at hv
              exact told_2zerohead s w h8 hs hf hk h4 hc hz hh hv
          · rw [if_pos hc] at hv
            exact told_2zerobad s w h8 hs hf hk h4 hc hz hv
        · rw [if_pos h4] at hv
          exact told_2err s w h8 hs hf hk h4 hv
      · rw [if_neg (by omega), if_neg (by omega)] at hR
        have hv := toldV_of hf h0 hR
        have hz : ¬ 0 < (rd3 (bodyOfH s) (rdK (bodyOfH s)).2.1 0 (rec0 (bodyOfH s))).2.1.sects := by
          have hkd : (rd3 (bodyOfH s) (rdK (bodyOfH s)).2.1 0 (rec0 (bodyOfH s))).2.1.kd = 3 := by show ((rdK (bodyOfH s)).1 : Int) = 3; rw [hk]; rfl
          unfold Rc.sects; rw [if_neg (by omega)]; omega
        by_cases h4 : (rd3 (bodyOfH s) (rdK (bodyOfH s)).2.1 0 (rec0 (bodyOfH s))).2.2.2 = 0
        · rw [if_neg (fun h => h h4)] at hv
          by_cases hc : (rd3 (bodyOfH s) (rdK (bodyOfH s)).2.1 0 (rec0 (bodyOfH s))).2.1.full.check = 0
          · rw [if_neg (fun h => h hc)] at hv
            by_cases hh : (rd3 (bodyOfH s) (rdK (bodyOfH s)).2.1 0 (rec0 (bodyOfH s))).2.1.headB (rd3 (bodyOfH s) (rdK (bodyOfH s)).2.1 0 (rec0 (bodyOfH s))).1 = s
            · rw [if_neg (fun h => h hh)] at hv
              exact told_3zerook s w h8 hs hf hk h4 hc hz hh hv
            · rw [if_pos hh] at hv
              exact told_3zerohead s w h8 hs hf hk h4 hc hz hh hv
          · rw [if_pos hc] at hv
            exact told_3zerobad s w h8 hs hf hk h4 hc hz hv
        · rw [if_pos h4] at hv
          exact told_3err s w h8 hs hf hk h4 hv
  · exact told_a s w h8 hs hf
end Go.Proofs.Ytjebldfmkpfafaa
