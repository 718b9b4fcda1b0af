/- Whatever becomes of the sector of a Next (lost, kept, torn), Pick answers it, or the one ahead of it: SuperTorn answers true at all inputs; without conditions. -/
import Derived.Test.YtcbpkplmaglpcaaTornA
import Derived.Test.YtcbpkplmaglpcaaTornB
import Derived.Test.YtcbpkplmaglpcaaTornC
import Derived.Test.YtcbpkplmaglpcaaTornD
import Derived.Test.YtcbpkplmaglpcaaTornE
import Derived.Test.YtcbpkplmaglpcaaOpenP
namespace Go.Proofs.Ytcbpkplmaglpcaa.lawSuperTorn
open Go.ChangeShapes Go.WideShapes Go.ChangeAt Go.RowKit
open Go.ChangeMaps (open_string shut_string)

theorem walk_bad (s : Sup) (hg : s.good) (hc : s.check ≠ 0) (a b how : Int) (W : World) : Calls Try.prog 7 #[s.agg, .agg #[.int .i64 a, .int .i64 b], .int .i64 how] W fun e w' => e = .returned (.bool true) ∧ Keeps [] W w' := by
  have C2 := Lib.hid (fun w => refCheck_any s hg w)
  have Pl := Lib.hid (fun w => plain_any s w)
  have hb : (s.check != 0) = true := by rw [bne_iff_ne]; exact hc
  clear hc hg
  generalize s.check = c at *
  obtain ⟨key, epoch, serial, size, tail, number⟩ := s
  unfold Sup.agg at *
  dsimp only at *
  go_enter Try.func7, Try.ntmps7
  go_wp2_with (first
    | (go_at_call 12; (with_reducible refine (Pl.out _).mono ?_); rintro e w1 ⟨rfl, k1⟩)
    | (go_at_call 16; (with_reducible refine (C2.out _).mono ?_); rintro e w2 ⟨rfl, k2⟩)
    | (go_at_call 9; (with_reducible refine (awake_any _).mono ?_); rintro e w5 ⟨rfl, k5⟩))
  go_ret
  exact ⟨rfl, KT (((Keeps.refl [] W).alloc _).alloc _) (KT k1 (KT k2 k5))⟩

theorem walk_none (s : Sup) (hg : s.good) (hc : s.check = 0) (a b how : Int) (ha0 : -9223372036854775808 ≤ a) (ha1 : a ≤ 9223372036854775807) (hb0 : -9223372036854775808 ≤ b) (hb1 : b ≤ 9223372036854775807) (hx : (s.next a b).2 ≠ 0) (W : World) :
    Calls Try.prog 7 #[s.agg, .agg #[.int .i64 a, .int .i64 b], .int .i64 how] W fun e w' => e = .returned (.bool true) ∧ Keeps [] W w' := by
  have C2 := Lib.hid (fun w => refCheck_any s hg w)
  have Pl := Lib.hid (fun w => plain_any s w)
  have Nx := Lib.hid (fun w => next_any s hg a b ha0 ha1 hb0 hb1 w)
  have hb : ((s.next a b).2 != 0) = true := by rw [bne_iff_ne]; exact hx
  rw [hc] at C2
  generalize s.next a b = X at *
  obtain ⟨x, xe⟩ := X
  have HS := Lib.hid (heap_was (o := .cells #[.int .i64 a, .int .i64 b] 49 (0, 0)) (heap_at (w := W) (o := .cells #[.int .u64 s.key, .int .i64 s.epoch, .int .i64 s.serial, .int .i64 s.size, .int .i64 s.tail, .int .i64 s.number] 25 (0, 0)) rfl))
  have HT := Lib.hid (heap_at (w := W.alloc (.cells #[.int .u64 s.key, .int .i64 s.epoch, .int .i64 s.serial, .int .i64 s.size, .int .i64 s.tail, .int .i64 s.number] 25)) (o := .cells #[.int .i64 a, .int .i64 b] 49 (0, 0)) (k := W.heap.size + 1) (by simp))
  clear hc hg hx ha0 ha1 hb0 hb1
  obtain ⟨key, epoch, serial, size, tail, number⟩ := s
  unfold Sup.agg at *
  dsimp only at *
  go_enter Try.func7, Try.ntmps7
  go_wp2_with (first
    | (go_at_call 12; (with_reducible refine (Pl.out _).mono ?_); rintro e w1 ⟨rfl, k1⟩)
    | (go_at_call 16; (with_reducible refine (C2.out _).mono ?_); rintro e w2 ⟨rfl, k2⟩; have K2 := KT k1 k2; obtain ⟨⟨c0, c1, c2, c3, c4, c5⟩, _⟩ := cells6 (K2.some HS.out (by simp)); have t0 := cell_of_heap (K2.some HT.out (by simp)) 0; have t1 := cell_of_heap (K2.some HT.out (by simp)) 1)
    | (go_at_call 15; (with_reducible refine (Nx.out _).mono ?_); rintro e w3 ⟨rfl, k3⟩)
    | (go_at_call 9; (with_reducible refine (awake_any _).mono ?_); rintro e w5 ⟨rfl, k5⟩))
  go_ret
  exact ⟨rfl, KT (((Keeps.refl [] W).alloc _).alloc _) (KT K2 (KT k3 (KT ((Keeps.refl [] w3).alloc _) k5)))⟩

theorem walk_any (s : Sup) (hg : s.good) (a b how : Int) (ha0 : -9223372036854775808 ≤ a) (ha1 : a ≤ 9223372036854775807) (hb0 : -9223372036854775808 ≤ b) (hb1 : b ≤ 9223372036854775807) (W : World) :
    Calls Try.prog 7 #[s.agg, .agg #[.int .i64 a, .int .i64 b], .int .i64 how] W fun e w' => e = .returned (.bool true) ∧ Keeps [] W w' := by
  by_cases hc : s.check = 0
  · by_cases hx : (s.next a b).2 = 0
    · have hx2 : s.next a b = (s.behind a b, 0) ∧ (s.behind a b).check = 0 := by
        unfold Sup.next at hx ⊢
        rw [if_neg (by simp [hc])] at hx ⊢
        by_cases h1 : a < s.tail ∨ b < s.number
        · rw [if_pos h1] at hx; simp at hx
        · rw [if_neg h1] at hx ⊢
          by_cases h2 : (s.behind a b).check ≠ 0
          · rw [if_pos h2] at hx; exact absurd hx h2
          · rw [if_neg h2]; exact ⟨rfl, Classical.not_not.1 h2⟩
      obtain ⟨hx3, hn⟩ := hx2
      have hs := (check_le s hc).2.1.1
      rcases (show 0 < s.serial ∨ s.serial = 0 by omega) with h0 | h0
      · rcases (show s.serial % 2 = 0 ∨ s.serial % 2 = 1 by omega) with hp | hp
        · by_cases g1 : how = 1
          · subst g1; exact torn_pos_one_0 s hg hc a b ha0 ha1 hb0 hb1 hx3 hn h0 hp W
          · by_cases g2 : how = 2
            · subst g2; exact torn_pos_two_0 s hg hc a b ha0 ha1 hb0 hb1 hx3 hn h0 hp W
            · exact torn_pos_else_0 s hg hc a b ha0 ha1 hb0 hb1 hx3 hn h0 hp how g1 g2 W
        · by_cases g1 : how = 1
          · subst g1; exact torn_pos_one_1 s hg hc a b ha0 ha1 hb0 hb1 hx3 hn h0 hp W
          · by_cases g2 : how = 2
            · subst g2; exact torn_pos_two_1 s hg hc a b ha0 ha1 hb0 hb1 hx3 hn h0 hp W
            · exact torn_pos_else_1 s hg hc a b ha0 ha1 hb0 hb1 hx3 hn h0 hp how g1 g2 W
      · rcases (show s.serial % 2 = 0 ∨ s.serial % 2 = 1 by omega) with hp | hp
        · by_cases g1 : how = 1
          · subst g1; exact torn_zero_one_0 s hg hc a b ha0 ha1 hb0 hb1 hx3 hn h0 hp W
          · by_cases g2 : how = 2
            · subst g2; exact torn_zero_two_0 s hg hc a b ha0 ha1 hb0 hb1 hx3 hn h0 hp W
            · exact torn_zero_else_0 s hg hc a b ha0 ha1 hb0 hb1 hx3 hn h0 hp how g1 g2 W
        · omega
    · exact walk_none s hg hc a b how ha0 ha1 hb0 hb1 hx W
  · exact walk_bad s hg hc a b how W
-- ROWEND
set_option maxRecDepth 100000 in
theorem lifted (os : Os) (started : os.Started) (H : Type) (enc : TypeId × Value → H) :
    ReturnsInHanded {} Try.checked os 7 .any (Rows.superTornSpec.pre6 enc Try.prog Try.f7 Rows.superTornRow.domain false) (Rows.superTornSpec.post enc Try.prog Try.f7 false true false false) := by
  refine returnsInHanded_of_change (C := Try.checked) Try.own started (by kernel_rfl) Try.func7
    (ChangeSpec.witness6 (enc := enc) (C := Try.checked) false ⟨#[], #[.agg #[.int .u64 0, .int .i64 0, .int .i64 0, .int .i64 0, .int .i64 0, .int .i64 0], .agg #[.int .i64 0, .int .i64 0], .int .i64 0], []⟩ 8 (by kernel_rfl) (by kernel_rfl) (by kernel_rfl) (by kernel_rfl)) ?_
  intro W base args ds gs before hval0 hW _ _
  have hval : ∀ (j : Nat) t v, Try.f7.params[j]? = some t → args[j]? = some v → Value.okWide Try.prog W .any base t v := hval0
  have hW' := hW
  obtain ⟨p, q, hA0, hV, rfl, hfz, hnd⟩ := hW
  have hA : DataW.TrodAll enc Try.prog W 0 (fun _ => true) true Try.f7.params.toList args.toList ds p := hA0
  rw [Try.params7] at hA hval
  obtain ⟨v0, vs0, d0, ds0, p0, q0, hargs, rfl, rfl, h0, r0⟩ := trodAll_cons hA
  obtain ⟨v1, vs1, d1, ds1, p1, q1, rfl, rfl, rfl, h1, r1⟩ := trodAll_cons r0
  obtain ⟨v2, vs2, d2, ds2, p2, q2, rfl, rfl, rfl, h2, r2⟩ := trodAll_cons r1
  obtain ⟨rfl, rfl, rfl⟩ := trodAll_nil r2
  obtain rfl : args = #[v0, v1, v2] := by cases args; simp_all
  obtain ⟨cs0, n0, x0, rfl, e0⟩ := open_agg Try.underlying25 (hval 0 25 v0 rfl rfl) h0
  obtain ⟨s, c0, gs⟩ := elem_sup e0
  obtain rfl : cs0 = (s.vals).toArray := by rw [← c0]
  obtain ⟨ta, tb, rfl, ⟨wat0, wat1⟩, wbt0, wbt1⟩ := open_pair (by kernel_rfl) (by kernel_rfl) Try.underlying49 Try.underlying3 (hval 1 49 v1 rfl rfl) h1
  obtain ⟨h, rfl, rfl, rfl, wh⟩ := open_int Try.underlying3 (hval 2 3 v2 rfl rfl) h2
  obtain ⟨wh0, wh1⟩ := wf_i64 wh
  refine (walk_any s gs ta tb h wat0 wat1 wbt0 wbt1 W).mono fun e W' ⟨he, hk⟩ => ?_
  subst he
  exact ⟨_, rfl, law_end Try.laidOut (by kernel_rfl) rfl rfl Try.underlying4 hW' rfl hk⟩

theorem proved : Rows.SuperTornSaid :=
  OpenClaim.holds_of_wide 7 Try.f7 rfl rfl rfl rfl rfl rfl rfl ⟨rfl, rfl, rfl, rfl, rfl⟩ rfl rfl rfl rfl rfl (by kernel_rfl) Try.func7 (by kernel_rfl)
    (of_decide_eq_true (by kernel_rfl)) (by unfold Func.isWrapper; first | (rw [if_pos (by decide +kernel)]; kernel_rfl) | (rw [if_neg (by decide +kernel)]; exact ⟨rfl, rfl⟩))
    (fun os started H enc _ => lifted os started H enc)
end Go.Proofs.Ytcbpkplmaglpcaa.lawSuperTorn
