/- A nil device has nothing: SsdNil answers true at all inputs; without conditions. -/
import Derived.Test.YtddehagceenbnaaSsdR
namespace Go.Proofs.Ytddehagceenbnaa.lawSsdNil
open Go.ChangeShapes Go.WideShapes Go.ChangeAt Go.RowKit

theorem nil_ready (w : World) : Calls Try.prog 27 #[.pointer none] w fun e w' => e = .returned (.int .i64 2) ∧ w = w' := by
  go_enter Try.func27, Try.ntmps27
  go_wp2
  go_ret
  exact ⟨rfl, rfl⟩
theorem nil_write (a : Int) (s : ByteArray) (w : World) : Calls Try.prog 12 #[.pointer none, .int .i64 a, .string s] w fun e w' => e = .returned (.int .i64 2) ∧ w = w' := by
  go_enter Try.func12, Try.ntmps12
  go_wp2_with (go_at_call 27; (with_reducible refine (nil_ready _).mono ?_); rintro e w1 ⟨rfl, rfl⟩)
  go_ret
  exact ⟨rfl, rfl⟩
theorem nil_barrier (w : World) : Calls Try.prog 14 #[.pointer none] w fun e w' => e = .returned (.int .i64 2) ∧ w = w' := by
  go_enter Try.func14, Try.ntmps14
  go_wp2_with (go_at_call 27; (with_reducible refine (nil_ready _).mono ?_); rintro e w1 ⟨rfl, rfl⟩)
  go_ret
  exact ⟨rfl, rfl⟩
theorem nil_read (a n : Int) (w : World) : Calls Try.prog 17 #[.pointer none, .int .i64 a, .int .i64 n] w fun e w' => e = .returned (.tuple #[.string ⟨#[]⟩, .int .i64 2]) ∧ w = w' := by
  go_enter Try.func17, Try.ntmps17
  go_wp2
  go_ret2
  exact ⟨rfl, rfl⟩
theorem nil_crash (ad : Option Addr) (n c : Nat) (w : World) : Calls Try.prog 16 #[.pointer none, .slice ad n c] w fun e w' => e = .returned (.tuple #[]) ∧ w = w' := by
  go_enter Try.func16, Try.ntmps16
  go_wp2
  (try simp only [Exit.inBlock, Exit.then])
  refine bodyPost_ret (results_none rfl _ _ _) rfl ?_
  exact ⟨rfl, rfl⟩
theorem nil_stop (n : Int) (w : World) : Calls Try.prog 19 #[.pointer none, .int .i64 n] w fun e w' => e = .returned (.tuple #[]) ∧ w = w' := by
  go_enter Try.func19, Try.ntmps19
  go_wp2
  go_end0
  exact ⟨rfl, rfl⟩
theorem nil_lose (w : World) : Calls Try.prog 31 #[.pointer none] w fun e w' => e = .returned (.tuple #[]) ∧ w = w' := by
  go_enter Try.func31, Try.ntmps31
  go_wp2
  go_end0
  exact ⟨rfl, rfl⟩
theorem nil_sectors (w : World) : Calls Try.prog 25 #[.pointer none] w fun e w' => e = .returned (.int .i64 0) ∧ w = w' := by
  go_enter Try.func25, Try.ntmps25
  go_wp2
  go_ret
  exact ⟨rfl, rfl⟩
theorem nil_pending (w : World) : Calls Try.prog 15 #[.pointer none] w fun e w' => e = .returned (.int .i64 0) ∧ w = w' := by
  go_enter Try.func15, Try.ntmps15
  go_wp2
  go_ret
  exact ⟨rfl, rfl⟩
theorem nil_lost (w : World) : Calls Try.prog 26 #[.pointer none] w fun e w' => e = .returned (.bool false) ∧ w = w' := by
  go_enter Try.func26, Try.ntmps26
  go_wp2
  go_ret
  exact ⟨rfl, rfl⟩
theorem nil_copy (w : World) : Calls Try.prog 24 #[.pointer none] w fun e w' => e = .returned (.pointer none) ∧ w = w' := by
  go_enter Try.func24, Try.ntmps24
  go_wp2
  go_ret
  exact ⟨rfl, rfl⟩

/-- What a call of it answers. -/
def nilE (ask : Int) : Int := if ask = 2 ∨ ask = 3 ∨ ask = 4 then 0 else 2

theorem nil_does (ask pos n : Int) (data : ByteArray) (ka : Option Addr) (kn kc : Nat) (w : World) :
    Calls Try.prog 20 #[.pointer none, .agg #[.int .i64 ask, .int .i64 pos, .int .i64 n, .string data, .slice ka kn kc]] w fun e w' => e = .returned (.tuple #[.string ⟨#[]⟩, .int .i64 (nilE ask)]) ∧ Keeps [] w w' := by
  have hk : Keeps [] w (w.alloc (.cells #[.int .i64 ask, .int .i64 pos, .int .i64 n, .string data, .slice ka kn kc] 41)) := (Keeps.refl [] w).alloc _
  have Hk := Lib.hid hk
  clear hk
  rcases ask_of ask with rfl | rfl | rfl | rfl | rfl | ⟨e0, e1, e2, e3, e4⟩
  · go_enter Try.func20, Try.ntmps20
    go_wp2_with (go_at_call 12; (with_reducible refine (nil_write _ _ _).mono ?_); rintro e w1 ⟨rfl, rfl⟩)
    go_ret2
    exact ⟨rfl, Hk.out⟩
  · go_enter Try.func20, Try.ntmps20
    go_wp2_with (go_at_call 14; (with_reducible refine (nil_barrier _).mono ?_); rintro e w1 ⟨rfl, rfl⟩)
    go_ret2
    exact ⟨rfl, Hk.out⟩
  · go_enter Try.func20, Try.ntmps20
    go_wp2_with (go_at_call 16; (with_reducible refine (nil_crash _ _ _ _).mono ?_); rintro e w1 ⟨rfl, rfl⟩)
    go_ret2
    exact ⟨rfl, Hk.out⟩
  · go_enter Try.func20, Try.ntmps20
    go_wp2_with (go_at_call 19; (with_reducible refine (nil_stop _ _).mono ?_); rintro e w1 ⟨rfl, rfl⟩)
    go_ret2
    exact ⟨rfl, Hk.out⟩
  · go_enter Try.func20, Try.ntmps20
    go_wp2_with (go_at_call 31; (with_reducible refine (nil_lose _).mono ?_); rintro e w1 ⟨rfl, rfl⟩)
    go_ret2
    exact ⟨rfl, Hk.out⟩
  · have z : nilE ask = 2 := by unfold nilE; simp only [beq_eq_false_iff_ne] at e2 e3 e4; rw [if_neg (by omega)]
    rw [z]
    clear z
    go_enter Try.func20, Try.ntmps20
    go_wp2_with (go_at_call 17; (with_reducible refine (nil_read _ _ _).mono ?_); rintro e w1 ⟨rfl, rfl⟩)
    go_ret2
    exact ⟨rfl, Hk.out⟩

set_option maxHeartbeats 2000000 in
set_option maxRecDepth 100000 in
theorem walk_any (o : OpS) (W : World) (hg : o.good W) : Calls Try.prog 9 #[o.agg] W fun e w' => e = .returned (.bool true) ∧ Keeps [] W w' := by
  obtain ⟨G, ⟨ka, kc, hkv, _⟩, _⟩ := hg.k0
  rw [List.length_map] at hkv
  obtain ⟨ask, pos, n, data, kv, keep⟩ := o
  dsimp only at hkv
  subst hkv
  have hfew : OpsAt ((W.alloc (.cells #[.int .i64 ask, .int .i64 pos, .int .i64 n, .string data, .slice ka keep.length kc] 41)).alloc (.cells #[.int .i64 ask, .int .i64 pos, .int .i64 n, .string data, .slice ka keep.length kc] 41)) (.slice (some ⟨W.heap.size + 1, 0, none⟩) 1 1) [⟨ask, pos, n, data, .slice ka keep.length kc, keep⟩] [W.heap.size + 1] := by
    refine ⟨_, _, rfl, fun _ => ⟨_, _, rfl, by simp, fun i a hi j u hj => ?_⟩⟩
    have hi0 : i = 0 := by
      rcases Nat.eq_zero_or_pos i with h | h
      · exact h
      · rw [List.getElem?_eq_none (by simp; omega)] at hi; cases hi
    subst hi0
    simp at hi
    subst hi
    rw [cell_of_heap (heap_alloc_at (by simp))]
    simpa [OpS.vals] using hj
  have Hfew := Lib.hid (few_any [⟨ask, pos, n, data, .slice ka keep.length kc, keep⟩] _ _ _ hfew W (by simp) (fun o ho => by simp at ho; subst ho; exact hg))
  have hb : ((W.alloc (.cells #[.int .i64 ask, .int .i64 pos, .int .i64 n, .string data, .slice ka keep.length kc] 41)).alloc (.cells #[.int .i64 ask, .int .i64 pos, .int .i64 n, .string data, .slice ka keep.length kc] 41)).heap[W.heap.size]? = some (.cells #[.int .i64 ask, .int .i64 pos, .int .i64 n, .string data, .slice ka keep.length kc] 41 (0, 0)) :=
    ((Keeps.refl [] _).alloc _).some (heap_alloc_self W _) (by simp)
  have Hb := Lib.hid hb
  have hkw : Keeps [] W ((W.alloc (.cells #[.int .i64 ask, .int .i64 pos, .int .i64 n, .string data, .slice ka keep.length kc] 41)).alloc (.cells #[.int .i64 ask, .int .i64 pos, .int .i64 n, .string data, .slice ka keep.length kc] 41)) := ((Keeps.refl [] W).alloc _).alloc _
  have Hkw := Lib.hid hkw
  clear hfew hg hb hkw
  unfold OpS.agg
  dsimp only
  cases hf : fewB [⟨ask, pos, n, data, .slice ka keep.length kc, keep⟩]
  · rw [hf] at Hfew
    clear hf
    go_enter Try.func9, Try.ntmps9
    go_wp2_with (first | (go_at_call 18; (with_reducible refine Hfew.out.mono ?_); rintro e w5 ⟨rfl, rfl⟩) | (go_at_call 11; (with_reducible refine (awake_any _).mono ?_); rintro e w6 ⟨rfl, hk6⟩))
    go_ret
    exact ⟨rfl, KT Hkw.out hk6⟩
  · rw [hf] at Hfew
    clear hf
    have hd := fun w => nil_does ask pos n data ka keep.length kc w
    by_cases h2 : ask < 2 ∨ 4 < ask
    · have z : nilE ask = 2 := by unfold nilE; rw [if_neg (by omega)]
      rw [z] at hd
      have Hd := Lib.hid hd
      clear z hd
      rcases h2 with h2 | h2
      all_goals
        first | (have d1 : decide (ask < 2) = true := by simpa using h2) | (have d1 : decide (ask < 2) = false := by simp; omega)
        first | (have d2 : decide (4 < ask) = true := by simpa using h2) | (have d2 : decide (4 < ask) = false := by simp; omega)
        go_enter Try.func9, Try.ntmps9
        go_wp2_with (first | (go_at_call 18; (with_reducible refine Hfew.out.mono ?_); rintro e w5 ⟨rfl, rfl⟩) | (go_at_call 20; (with_reducible refine (Hd.out _).mono ?_); rintro e w6 ⟨rfl, k6⟩; have b0 := cell_of_heap (k6.some Hb.out (by simp)) 0) | (go_at_call 25; (with_reducible refine (nil_sectors _).mono ?_); rintro e w8 ⟨rfl, rfl⟩) | (go_at_call 15; (with_reducible refine (nil_pending _).mono ?_); rintro e w8 ⟨rfl, rfl⟩) | (go_at_call 26; (with_reducible refine (nil_lost _).mono ?_); rintro e w8 ⟨rfl, rfl⟩) | (go_at_call 24; (with_reducible refine (nil_copy _).mono ?_); rintro e w8 ⟨rfl, rfl⟩) | (go_at_call 11; (with_reducible refine (awake_any _).mono ?_); rintro e w8 ⟨rfl, k8⟩))
        go_ret
        exact ⟨rfl, KT (KT Hkw.out k6) k8⟩
    · have z : nilE ask = 0 := by unfold nilE; rw [if_pos (by omega)]
      rw [z] at hd
      have Hd := Lib.hid hd
      have d1 : decide (ask < 2) = false := by simp; omega
      have d2 : decide (4 < ask) = false := by simp; omega
      clear z hd
      go_enter Try.func9, Try.ntmps9
      go_wp2_with (first | (go_at_call 18; (with_reducible refine Hfew.out.mono ?_); rintro e w5 ⟨rfl, rfl⟩) | (go_at_call 20; (with_reducible refine (Hd.out _).mono ?_); rintro e w6 ⟨rfl, k6⟩; have b0 := cell_of_heap (k6.some Hb.out (by simp)) 0) | (go_at_call 25; (with_reducible refine (nil_sectors _).mono ?_); rintro e w8 ⟨rfl, rfl⟩) | (go_at_call 15; (with_reducible refine (nil_pending _).mono ?_); rintro e w8 ⟨rfl, rfl⟩) | (go_at_call 26; (with_reducible refine (nil_lost _).mono ?_); rintro e w8 ⟨rfl, rfl⟩) | (go_at_call 24; (with_reducible refine (nil_copy _).mono ?_); rintro e w8 ⟨rfl, rfl⟩) | (go_at_call 11; (with_reducible refine (awake_any _).mono ?_); rintro e w8 ⟨rfl, k8⟩))
      go_ret
      exact ⟨rfl, KT (KT Hkw.out k6) k8⟩
-- ROWEND
set_option maxRecDepth 100000 in
theorem lifted (os : Os) (started : os.Started) (H : Type) (enc : TypeId × Value → H) :
    ReturnsInHanded {} Try.checked os 9 .any (Rows.ssdNilSpec.pre6 enc Try.prog Try.f9 Rows.ssdNilRow.domain false) (Rows.ssdNilSpec.post enc Try.prog Try.f9 false true false false) := by
  refine returnsInHanded_of_change (C := Try.checked) Try.own started (by kernel_rfl) Try.func9
    (ChangeSpec.witness6 (enc := enc) (C := Try.checked) false ⟨#[], #[.agg #[.int .i64 0, .int .i64 0, .int .i64 0, .string .empty, .slice none 0 0]], []⟩ 8 (by kernel_rfl) (by kernel_rfl) (by kernel_rfl) (by kernel_rfl)) ?_
  intro W base args ds gs before hval0 hW _ _
  have hval : ∀ (j : Nat) t v, Try.f9.params[j]? = some t → args[j]? = some v → Value.okWide Try.prog W .any base t v := hval0
  have hW' := hW
  obtain ⟨p, q, hA0, hV, rfl, hfz, hnd⟩ := hW
  have hA : DataW.TrodAll enc Try.prog W 0 (fun _ => true) true Try.f9.params.toList args.toList ds p := hA0
  rw [Try.params9] at hA hval
  obtain ⟨v0, vs0, d0, ds0, p0, q0, hargs, rfl, rfl, h0, r0⟩ := trodAll_cons hA
  obtain ⟨rfl, rfl, rfl⟩ := trodAll_nil r0
  obtain rfl : args = #[v0] := by cases args; simp_all
  obtain ⟨cs0, n0, x0, rfl, e0⟩ := open_agg Try.underlying41 (hval 0 41 v0 rfl rfl) h0
  obtain ⟨o, c0, go⟩ := elem_op e0
  obtain rfl : cs0 = (o.vals).toArray := by rw [← c0]
  refine (walk_any o W go).mono fun e W' ⟨he, hk⟩ => ?_
  subst he
  exact ⟨_, rfl, law_end Try.laidOut (by kernel_rfl) rfl rfl Try.underlying4 hW' rfl hk⟩

theorem proved : Rows.SsdNilSaid :=
  OpenClaim.holds_of_wide 9 Try.f9 rfl rfl rfl rfl rfl rfl rfl ⟨rfl, rfl, rfl, rfl, rfl⟩ rfl rfl rfl rfl rfl (by kernel_rfl) Try.func9 (by kernel_rfl)
    (of_decide_eq_true (by kernel_rfl)) (by unfold Func.isWrapper; first | (rw [if_pos (by decide +kernel)]; kernel_rfl) | (rw [if_neg (by decide +kernel)]; exact ⟨rfl, rfl⟩))
    (fun os started H enc _ => lifted os started H enc)
end Go.Proofs.Ytddehagceenbnaa.lawSsdNil
