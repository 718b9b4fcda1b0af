/- A nil writer and a nil reader do nothing: WireNil answers true at all inputs; without conditions. -/
import Derived.Test.YtcakgmnhipbmhaaWireRW
namespace Go.Proofs.Ytcakgmnhipbmhaa.lawWireNil
open Go.ChangeShapes Go.WideShapes Go.ChangeAt Go.RowKit Go.Deep

theorem nil_outText (k : Nat) (s : ByteArray) (w : World) (hc : w.cell? ⟨k, 0, none⟩ = some (.string s)) (hs : s.size ≤ 9223372036854775807) :
    Calls Try.prog 18 #[.pointer none, .slice (some ⟨k, 0, none⟩) 1 1] w fun e w' => e = .returned (.tuple #[]) ∧ Keeps [] w w' := by
  go_enter Try.func18, Try.ntmps18
  go_wp2
  refine wp_loop_rounds 2 ?_
  rw [rounds_succ]
  go_wp2_with (first | (go_at_call 11; (with_reducible refine (nil_outVar _ _).mono ?_); rintro e w1 ⟨rfl, rfl⟩) | (go_at_call 19; (with_reducible refine (nil_outRaw _ _).mono ?_); rintro e w2 ⟨rfl, rfl⟩))
  rw [rounds_succ]
  go_wp2
  go_end0
  exact ⟨rfl, ((Keeps.refl [] w).alloc _).alloc _⟩

theorem nil_write (o : OpR) (w : World) (hg : o.good) : Calls Try.prog 21 #[.pointer none, o.agg] w fun e w' => e = .returned (.int .i64 (if o.kind = 0 then 2 else 0)) ∧ Keeps [] w w' := by
  obtain ⟨kind, x, s, n⟩ := o
  have hs := hg.s0
  clear hg
  dsimp only at *
  by_cases k0 : kind = 0
  · subst k0
    rw [if_pos rfl]
    go_enter Try.func21, Try.ntmps21
    go_wp2_with (first | (go_at_call 39; (with_reducible refine (nil_outFixed _ _ _).mono ?_); rintro e w1 ⟨rfl, rfl⟩))
    go_ret
    exact ⟨rfl, (Keeps.refl [] w).alloc _⟩
  · have e0 : (kind == 0) = false := by simpa using k0
    rw [if_neg k0]
    by_cases k1 : kind = 1 ∨ kind = 4
    · rcases k1 with rfl | rfl
      all_goals
        go_enter Try.func21, Try.ntmps21
        go_wp2_with (first | (go_at_call 11; (with_reducible refine (nil_outVar _ _).mono ?_); rintro e w1 ⟨rfl, rfl⟩))
        go_ret
        exact ⟨rfl, ((Keeps.refl [] w).alloc _).alloc _⟩
    · have e1 : (kind == 1) = false := by simp; omega
      have e4 : (kind == 4) = false := by simp; omega
      by_cases k2 : kind = 2
      · subst k2
        go_enter Try.func21, Try.ntmps21
        go_wp2_with fail
        refine (nil_outText (w.heap.size + 1) s _ (cell_new (by simp) _ _ 0) hs).mono ?_
        rintro e w1 ⟨rfl, hk⟩
        go_wp2
        go_ret
        exact ⟨rfl, (((Keeps.refl [] w).alloc _).alloc _).trans hk (by simp)⟩
      · have e2 : (kind == 2) = false := by simpa using k2
        go_enter Try.func21, Try.ntmps21
        go_wp2_with (first | (go_at_call 19; (with_reducible refine (nil_outRaw _ _).mono ?_); rintro e w1 ⟨rfl, rfl⟩))
        go_ret
        exact ⟨rfl, ((Keeps.refl [] w).alloc _).alloc _⟩

theorem nil_read (o : OpR) (w : World) : Calls Try.prog 24 #[.pointer none, o.agg] w fun e w' => e = .returned (.tuple #[.int .u64 0, .string ⟨#[]⟩]) ∧ Keeps [] w w' := by
  obtain ⟨kind, x, s, n⟩ := o
  by_cases k0 : kind = 0
  · subst k0
    go_enter Try.func24, Try.ntmps24
    go_wp2_with (first | (go_at_call 28; (with_reducible refine (nil_inFixed _ _).mono ?_); rintro e w1 ⟨rfl, rfl⟩))
    go_ret2
    exact ⟨rfl, (Keeps.refl [] w).alloc _⟩
  · have e0 : (kind == 0) = false := by simpa using k0
    by_cases k1 : kind = 1
    · subst k1
      go_enter Try.func24, Try.ntmps24
      go_wp2_with (first | (go_at_call 15; (with_reducible refine (nil_inVar _).mono ?_); rintro e w1 ⟨rfl, rfl⟩))
      go_ret2
      exact ⟨rfl, (Keeps.refl [] w).alloc _⟩
    · have e1 : (kind == 1) = false := by simpa using k1
      by_cases k2 : kind = 2
      · subst k2
        go_enter Try.func24, Try.ntmps24
        go_wp2_with (first | (go_at_call 29; (with_reducible refine (nil_inText _ _).mono ?_); rintro e w1 ⟨rfl, rfl⟩))
        go_ret2
        exact ⟨rfl, (Keeps.refl [] w).alloc _⟩
      · have e2 : (kind == 2) = false := by simpa using k2
        by_cases k4 : kind = 4
        · subst k4
          go_enter Try.func24, Try.ntmps24
          go_wp2_with (first | (go_at_call 42; (with_reducible refine (nil_inInt _ _).mono ?_); rintro e w1 ⟨rfl, rfl⟩))
          go_ret2
          exact ⟨rfl, (Keeps.refl [] w).alloc _⟩
        · have e4 : (kind == 4) = false := by simpa using k4
          go_enter Try.func24, Try.ntmps24
          go_wp2_with (first | (go_at_call 30; (with_reducible refine (nil_inRaw _ _).mono ?_); rintro e w1 ⟨rfl, rfl⟩))
          go_ret2
          exact ⟨rfl, (Keeps.refl [] w).alloc _⟩

set_option maxHeartbeats 1600000 in
theorem walk (o : OpR) (w : World) (hg : o.good) :
    Calls Try.prog 9 #[o.agg] w fun e w' => e = .returned (.bool true) ∧ Keeps [] w w' := by
  have hfew : OpsAt ((w.alloc (.cells #[.int .i64 o.kind, .int .u64 o.x, .string o.s, .int .i64 o.n] 46)).alloc (.cells #[.int .i64 o.kind, .int .u64 o.x, .string o.s, .int .i64 o.n] 46)) (.slice (some ⟨w.heap.size + 1, 0, none⟩) 1 1) [o] [w.heap.size + 1] := by
    refine ⟨_, _, rfl, fun _ => ⟨_, _, rfl, by simp, fun i a hi j u hj => ?_⟩⟩
    have hi0 : i = 0 := by
      rcases Nat.eq_zero_or_pos i with h | h
      · exact h
      · rw [List.getElem?_eq_none (by simp; omega)] at hi; cases hi
    subst hi0
    simp at hi
    subst hi
    have hb := heap_alloc_self (w.alloc (.cells #[.int .i64 o.kind, .int .u64 o.x, .string o.s, .int .i64 o.n] 46)) (.cells #[.int .i64 o.kind, .int .u64 o.x, .string o.s, .int .i64 o.n] 46)
    rw [show (w.alloc (Obj.cells #[.int .i64 o.kind, .int .u64 o.x, .string o.s, .int .i64 o.n] 46)).heap.size = w.heap.size + 1 by simp] at hb
    rw [cell_of_heap hb]
    simpa [OpR.vals] using hj
  have Hfew := Lib.hid (few_any [o] _ _ _ hfew (by simp))
  have hw := fun W => nil_write o W hg
  have hr := fun W => nil_read o W
  have Hg := Lib.hid hg
  clear hfew hg
  obtain ⟨kind, x, s, n⟩ := o
  dsimp only at *
  have Hw := Lib.hid hw
  have Hr := Lib.hid hr
  clear hw hr
  have hc0 : ((w.alloc (.cells #[.int .i64 kind, .int .u64 x, .string s, .int .i64 n] 46)).alloc (.cells #[.int .i64 kind, .int .u64 x, .string s, .int .i64 n] 46)).heap[w.heap.size]? = some (.cells #[.int .i64 kind, .int .u64 x, .string s, .int .i64 n] 46 (0, 0)) :=
    ((Keeps.refl [] _).alloc _).some (heap_alloc_self w _) (by simp)
  have Hc0 := Lib.hid hc0
  clear hc0
  cases hf : fewB [⟨kind, x, s, n⟩]
  · rw [hf] at Hfew
    clear hf
    go_enter Try.func9, Try.ntmps9
    go_wp2_with (first | (go_at_call 20; refine Hfew.out.mono ?_; rintro e w5 ⟨rfl, rfl⟩) | (go_at_call 10; (with_reducible refine (awake_any _).mono ?_); rintro e w6 ⟨rfl, hk6⟩))
    go_ret
    exact ⟨rfl, (((Keeps.refl [] w).alloc _).alloc _).trans hk6 (by simp)⟩
  · rw [hf] at Hfew
    clear hf
    by_cases k0 : kind = 0
    · subst k0
      have e0 : ((0 : Int) == 0) = true := rfl
      simp only [if_true] at Hw
      go_enter Try.func9, Try.ntmps9
      go_wp2_with (first | (go_at_call 20; refine Hfew.out.mono ?_; rintro e w5 ⟨rfl, rfl⟩) | (go_at_call 21; (with_reducible refine (Hw.out _).mono ?_); rintro e w6 ⟨rfl, hk6⟩; have D := Lib.hid (hk6.some Hc0.out (by simp)); have c0 := cell_of_heap D.out 0; have c1 := cell_of_heap D.out 1; have c2 := cell_of_heap D.out 2; have c3 := cell_of_heap D.out 3) | (go_at_call 24; (with_reducible refine (Hr.out _).mono ?_); rintro e w7 ⟨rfl, hk7⟩; have D1 := Lib.hid (hk7.some D.out (by simp)); have b0 := cell_of_heap D1.out 0) | (go_at_call 12; (with_reducible refine (nil_outString _).mono ?_); rintro e w8 ⟨rfl, rfl⟩) | (go_at_call 17; (with_reducible refine (nil_inAt _).mono ?_); rintro e w8 ⟨rfl, rfl⟩) | (go_at_call 26; (with_reducible refine (nil_inLeft _).mono ?_); rintro e w8 ⟨rfl, rfl⟩) | (go_at_call 16; (with_reducible refine (nil_inErr _).mono ?_); rintro e w8 ⟨rfl, rfl⟩) | (go_at_call 27; (with_reducible refine (nil_inDone _).mono ?_); rintro e w8 ⟨rfl, rfl⟩) | (go_at_call 10; (with_reducible refine (awake_any _).mono ?_); rintro e w8 ⟨rfl, hk8⟩))
      go_ret
      exact ⟨rfl, (((((Keeps.refl [] w).alloc _).alloc _).trans hk6 (by simp)).trans hk7 (by simp)).trans hk8 (by simp)⟩
    · have e0 : (kind == 0) = false := by simpa using k0
      simp only [if_neg k0] at Hw
      go_enter Try.func9, Try.ntmps9
      go_wp2_with (first | (go_at_call 20; refine Hfew.out.mono ?_; rintro e w5 ⟨rfl, rfl⟩) | (go_at_call 21; (with_reducible refine (Hw.out _).mono ?_); rintro e w6 ⟨rfl, hk6⟩; have D := Lib.hid (hk6.some Hc0.out (by simp)); have c0 := cell_of_heap D.out 0; have c1 := cell_of_heap D.out 1; have c2 := cell_of_heap D.out 2; have c3 := cell_of_heap D.out 3) | (go_at_call 24; (with_reducible refine (Hr.out _).mono ?_); rintro e w7 ⟨rfl, hk7⟩; have D1 := Lib.hid (hk7.some D.out (by simp)); have b0 := cell_of_heap D1.out 0) | (go_at_call 12; (with_reducible refine (nil_outString _).mono ?_); rintro e w8 ⟨rfl, rfl⟩) | (go_at_call 17; (with_reducible refine (nil_inAt _).mono ?_); rintro e w8 ⟨rfl, rfl⟩) | (go_at_call 26; (with_reducible refine (nil_inLeft _).mono ?_); rintro e w8 ⟨rfl, rfl⟩) | (go_at_call 16; (with_reducible refine (nil_inErr _).mono ?_); rintro e w8 ⟨rfl, rfl⟩) | (go_at_call 27; (with_reducible refine (nil_inDone _).mono ?_); rintro e w8 ⟨rfl, rfl⟩) | (go_at_call 10; (with_reducible refine (awake_any _).mono ?_); rintro e w8 ⟨rfl, hk8⟩))
      go_ret
      exact ⟨rfl, (((((Keeps.refl [] w).alloc _).alloc _).trans hk6 (by simp)).trans hk7 (by simp)).trans hk8 (by simp)⟩
-- ROWEND
set_option maxRecDepth 100000 in
theorem lifted (os : Os) (started : os.Started) (H : Type) (enc : TypeId × Value → H) :
    ReturnsInHanded {} Try.checked os 9 .any (Rows.wireNilSpec.pre6 enc Try.prog Try.f9 Rows.wireNilRow.domain false) (Rows.wireNilSpec.post enc Try.prog Try.f9 false true false false) := by
  refine returnsInHanded_of_change (C := Try.checked) Try.own started (by kernel_rfl) Try.func9
    (ChangeSpec.witness6 (enc := enc) (C := Try.checked) false ⟨#[], #[.agg #[.int .i64 0, .int .u64 0, .string .empty, .int .i64 0]], []⟩ 8 (by kernel_rfl) (by kernel_rfl) (by kernel_rfl) (by kernel_rfl)) ?_
  intro W base args ds gs before hval0 hW _ _
  have hval : ∀ (j : Nat) t v, Try.f9.params[j]? = some t → args[j]? = some v → Value.okWide Try.prog W .any base t v := hval0
  have hW' := hW
  obtain ⟨p, q, hA0, hV, rfl, hfz, hnd⟩ := hW
  have hA : DataW.TrodAll enc Try.prog W 0 (fun _ => true) true Try.f9.params.toList args.toList ds p := hA0
  rw [Try.params9] at hA hval
  obtain ⟨v0, vs0, d0, ds0, p0, q0, hargs, rfl, rfl, h0, r0⟩ := trodAll_cons hA
  obtain ⟨rfl, rfl, rfl⟩ := trodAll_nil r0
  obtain rfl : args = #[v0] := by cases args; simp_all
  obtain ⟨cs0, n0, x0, rfl, e0⟩ := open_agg Try.underlying46 (hval 0 46 v0 rfl rfl) h0
  obtain ⟨o, c0, go⟩ := elem_op e0
  obtain rfl : cs0 = (o.vals).toArray := by rw [← c0]
  refine (walk o W go).mono fun e W' ⟨he, hk⟩ => ?_
  subst he
  exact ⟨_, rfl, law_end Try.laidOut (by kernel_rfl) rfl rfl Try.underlying4 hW' rfl hk⟩

theorem proved : Rows.WireNilSaid :=
  OpenClaim.holds_of_wide 9 Try.f9 rfl rfl rfl rfl rfl rfl rfl ⟨rfl, rfl, rfl, rfl, rfl⟩ rfl rfl rfl rfl rfl (by kernel_rfl) Try.func9 (by kernel_rfl)
    (of_decide_eq_true (by kernel_rfl)) (by unfold Func.isWrapper; first | (rw [if_pos (by decide +kernel)]; kernel_rfl) | (rw [if_neg (by decide +kernel)]; exact ⟨rfl, rfl⟩))
    (fun os started H enc _ => lifted os started H enc)
end Go.Proofs.Ytcakgmnhipbmhaa.lawWireNil
