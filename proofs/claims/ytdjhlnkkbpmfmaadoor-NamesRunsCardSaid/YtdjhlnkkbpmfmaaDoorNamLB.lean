/- NamesRuns, walked. -/
import Derived.Test.YtdjhlnkkbpmfmaaDoorNamN
namespace Go.Proofs.YtdjhlnkkbpmfmaaDoor.lawNamesRuns
open Go.RowKit

set_option maxHeartbeats 4000000 in
set_option maxRecDepth 100000 in
theorem walk_big (ad : Option Addr) (n cap : Nat) (a : Int) (hn : 100 < n) (W : World) (hT : TabC W) : Calls Tryd.prog 4 #[.slice ad n cap, .int .i64 a] W fun e w' => e = .returned (.bool true) ∧ Keeps [] W w' := by
  have Aw := Lib.hid (awake_any W hT)
  have hi : (100 : Int) < (n : Int) := by omega
  clear hT hn
  go_enter Tryd.func4, Tryd.ntmps4
  go_wp2_with (go_at_call 10; (with_reducible refine Aw.out.mono ?_); rintro e w1 ⟨rfl, k1⟩)
  go_ret
  exact ⟨rfl, k1⟩

set_option maxHeartbeats 4000000 in
set_option maxRecDepth 100000 in
theorem walk_far (ad : Option Addr) (n cap : Nat) (a : Int) (hn : ¬ 100 < n) (ha : 1152921504606846976 < a) (W : World) (hT : TabC W) : Calls Tryd.prog 4 #[.slice ad n cap, .int .i64 a] W fun e w' => e = .returned (.bool true) ∧ Keeps [] W w' := by
  have Aw := Lib.hid (awake_any W hT)
  have hi : ¬ (100 : Int) < (n : Int) := by omega
  clear hT hn
  go_enter Tryd.func4, Tryd.ntmps4
  go_wp2_with (go_at_call 10; (with_reducible refine Aw.out.mono ?_); rintro e w1 ⟨rfl, k1⟩)
  go_ret
  exact ⟨rfl, k1⟩

set_option maxHeartbeats 8000000 in
set_option maxRecDepth 100000 in
theorem walk (l : List Int) (v : Value) (G : List Nat) (a : Int) (W : World) (hv : SlAt W v (l.map intV) G) (hl : ¬ 100 < l.length) (ha0 : -9223372036854775808 ≤ a) (ha1 : ¬ 1152921504606846976 < a) (hw : ∀ x, x ∈ l → i64R x) (hT : TabC W) :
    Calls Tryd.prog 4 #[v, .int .i64 a] W fun e w' => e = .returned (.bool true) ∧ Keeps [] W w' := by
  have Aw := Lib.hid (fun (w' : World) (k : Keeps [] W w') => awake_any w' (hT.kept k))
  have Hv := Lib.hid hv
  have Rn : Hid (∀ w' : World, Keeps [] W w' → Calls Tryd.prog 18 #[v, .int .i64 a] w' fun e w2 => ∃ (v' : Value) (m : Nat), e = .returned v' ∧ (∀ j : Nat, j < m → a + (j : Int) ∈ l) ∧ a + (m : Int) ∉ l ∧ w2.ownsRow 0 3 1 v' m ((runL a m).map intV) ∧ (∀ x, x ∈ v'.ownBlock.toList → w'.heap.size ≤ x) ∧ Keeps [] w' w2) :=
    fun w' k => run_any l v G a w' (hv.keep k (by simp)) (by omega) ha0 (by omega) hw
  obtain ⟨ad, cap, rfl, _⟩ := hv
  rw [List.length_map] at Rn ⊢
  have Hl : Hid (l.length ≤ 100) := by unfold Hid; omega
  have hi : ¬ (100 : Int) < (l.length : Int) := by omega
  clear hT hw hl
  go_enter Tryd.func4, Tryd.ntmps4
  go_wp2_with fail
  go_loopw [5, 6] (fun ov fv wr => ∃ m : Nat, fv = .int .i64 (a + (m : Int)) ∧ Hid (∀ j : Nat, j < m → a + (j : Int) ∈ l) ∧ Hid (wr.ownsRow 0 3 1 ov m ((runL a m).map intV)) ∧ Hid (∀ x, x ∈ ov.ownBlock.toList → W.heap.size ≤ x) ∧ Keeps [] W wr) (fun _ fv _ => l.length + 1 - (intOf fv - a).toNat)
  case atStart => exact ⟨0, by simp, fun j hj => by omega, World.ownsRow_nil _ _ _ _, by simp [Hid, Value.ownBlock], Keeps.refl [] _⟩
  case round =>
    obtain ⟨m, rfl, hall, Hrow, Hfr, hkk⟩ := hrel
    have hml2 := run_le m l a hall.out
    have hml : m ≤ 100 := Nat.le_trans hml2 Hl.out
    obtain ⟨ad2, cap2, rfl⟩ := ownsRow_shape Hrow.out
    have Hkk := Lib.hid hkk
    obtain ⟨y, hy⟩ : ∃ y, y = a + (m : Int) := ⟨_, rfl⟩
    rw [← hy]
    obtain ⟨wo, hwo⟩ : ∃ wo : World, wo = wr := ⟨_, rfl⟩
    have Hwo := Lib.hid hwo
    have Hy := Lib.hid hy
    clear hkk hy hwo
    go_wp2_with fail
    go_loopw [7, 8] (fun tv iv wr => ∃ k : Nat, k ≤ l.length ∧ iv = .int .i64 k ∧ tv = .bool (decide (y ∈ l.take k)) ∧ Keeps [] wo wr) (fun _ iv _ => l.length - (intOf iv).toNat)
    case atStart => exact ⟨0, Nat.zero_le _, rfl, by simp, by rw [Hwo.out]; exact Keeps.refl [] _⟩
    case round =>
      obtain ⟨k, hk, rfl, rfl, hk2⟩ := hrel
      by_cases hlt : k < l.length
      · have hki : (k : Int) < (l.length : Int) := by omega
        have hki0 : (0 : Int) ≤ (k : Int) := by omega
        obtain ⟨x, hx⟩ : ∃ x, l[k]? = some x := ⟨l[k], by simp [hlt]⟩
        obtain ⟨ad', cap', e1, hc⟩ := Hv.out
        obtain ⟨b, off, rfl, _, hcell⟩ := hc (by intro h0; rw [List.map_eq_nil_iff] at h0; rw [h0] at hlt; simp at hlt)
        obtain rfl : ad = some ⟨b, off, none⟩ := by injection e1
        have hkw : Keeps [] W wr := by
          have h1 := Hkk.out
          rw [← Hwo.out] at h1
          exact KT h1 hk2
        have c0 := hkw.cell0 (hcell k (intV x) (by rw [List.getElem?_map, hx]; rfl))
        unfold intV at c0
        have hst : decide (y ∈ l.take (k + 1)) = (decide (y ∈ l.take k) || decide (y = x)) := by
          rw [List.take_add_one, hx]
          simp [List.mem_append]
        have Hst := Lib.hid hst
        have Hk2 := Lib.hid hk2
        generalize decide (y ∈ l.take k) = t at *
        clear hst hk2 hkw hcell hc e1 hx
        cases t
        · by_cases hxy : x = y
          · subst hxy
            go_wp2_with fail
            go_roundw
            case rel => exact ⟨k + 1, by omega, by go_num, by rw [Hst.out]; simp, Hk2.out⟩
            case measure => simp [intOf]; omega
          · have hb2 : (x == y) = false := by rw [beq_eq_false_iff_ne]; exact hxy
            have Hxy : Hid (¬ y = x) := fun e => hxy e.symm
            clear hxy
            go_wp2_with fail
            go_roundw
            case rel => exact ⟨k + 1, by omega, by go_num, by rw [Hst.out, decide_eq_false Hxy.out]; rfl, Hk2.out⟩
            case measure => simp [intOf]; omega
        · go_wp2_with fail
          go_roundw
          case rel => exact ⟨k + 1, by omega, by go_num, by rw [Hst.out]; rfl, Hk2.out⟩
          case measure => simp [intOf]; omega
      · obtain rfl : k = l.length := by omega
        rw [List.take_length]
        have hkw : Keeps [] W wr := by
          have h1 := Hkk.out
          rw [← Hwo.out] at h1
          exact KT h1 hk2
        have hrow2 : wr.ownsRow 0 3 1 (.slice ad2 m cap2) m ((runL a m).map intV) := by
          have h1 := Hrow.out
          rw [← Hwo.out] at h1
          exact own_keep h1 hk2 (by simp)
        have Hrow2 := Lib.hid hrow2
        have Hkw := Lib.hid hkw
        clear hrow2 hkw hk2 Hkk Hrow
        by_cases hin : y ∈ l
        · have hdi : decide (y ∈ l) = true := decide_eq_true hin
          have Hin : Hid (a + (m : Int) ∈ l) := by rw [← Hy.out]; exact hin
          rw [hdi]
          have hb1 : IntKind.i64.wrap (y + 1) = a + ((m + 1 : Nat) : Int) := by rw [Hy.out, IntWalk.i64_in _ ⟨by omega, by omega⟩]; omega
          have hyv : Hid (((runL a (m + 1)).map intV) = (runL a m).map intV ++ [.int .i64 y]) := by rw [runV_succ, ← Hy.out]; rfl
          clear hin hdi
          go_wp2_with (at_builtin; refine wpList_app1 tyInts rfl (.tmp 37) (.tmp 39) rfl _ _ _ rfl rfl Hrow2.out rfl ?c1 ?c2 ?c3 ?c4)
          case c1 => rfl
          case c2 => omega
          case c3 => unfold maxLen; omega
          case c4 =>
          intro g' cap' w' hown' hc'
          have Hown3 : Hid (w'.ownsRow 0 3 1 (.slice (some ⟨g', 0, none⟩) (m + 1) cap') (m + 1) ((runL a (m + 1)).map intV)) := by
            rw [hyv.out]
            exact hown'
          have Hc := Lib.hid hc'
          clear hown' hc' hyv
          go_wp2_with fail
          go_roundw
          case rel =>
            refine ⟨m + 1, rfl, fun j hj => ?_, Hown3.out, fun x hx => (Hc.out.fresh x hx).elim (Hfr.out x) (fun h => Nat.le_trans Hkw.out.size h), Hkw.out.trans Hc.out.keeps (fun x hx => .inr (Hfr.out x hx))⟩
            by_cases hjm : j < m
            · exact hall.out j hjm
            · obtain rfl : j = m := by omega
              exact Hin.out
          case measure =>
            rw [Hy.out]
            simp [intOf]
            omega
        · have hdi : decide (y ∈ l) = false := decide_eq_false hin
          have Hin : Hid (a + (m : Int) ∉ l) := by rw [← Hy.out]; exact hin
          rw [hdi]
          clear hin hdi
          have It : Hid (∀ (w1 w2 : World) (v' : Value) (n : Nat), n = m → Keeps [] wr w2 → w2.ownsRow 0 3 1 v' n ((runL a n).map intV) → Calls Tryd.prog 17 #[v', .slice ad2 m cap2] w2 fun e w3 => e = .returned (.bool true) ∧ Keeps [] w2 w3) := fun w1 w2 v' n e k h => by
            subst e
            have h1 := ints_any (runL a n) (runL a n) v' (.slice ad2 n cap2) _ _ w2 (SlAt.own h) ((SlAt.own Hrow2.out).keep k (by simp)) (by rw [runL_length]; omega) (by rw [runL_length]; omega)
            rw [decide_eq_true rfl] at h1
            exact h1
          go_wp2_with (first
            | (go_at_call 18; (with_reducible refine (Rn.out _ Hkw.out).mono ?_); rintro e w4 ⟨v', n, rfl, h1, h2, h3, _, k4⟩; have hnm := run_same h1 h2 hall.out Hin.out)
            | (go_at_call 17; (with_reducible refine (It.out wr _ _ n hnm k4 h3).mono ?_); rintro e w5 ⟨rfl, k5⟩)
            | (go_at_call 10; (with_reducible refine (Aw.out _ (KT Hkw.out (KT k4 k5))).mono ?_); rintro e w6 ⟨rfl, k6⟩))
          go_ret
          exact ⟨rfl, KT (KT Hkw.out (KT k4 k5)) k6⟩
end Go.Proofs.YtdjhlnkkbpmfmaaDoor.lawNamesRuns
