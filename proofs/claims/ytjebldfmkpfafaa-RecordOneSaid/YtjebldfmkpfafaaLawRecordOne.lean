/-
What is proved: RecordOne. For every string of at most 4000 bytes: what Decode takes for a record is encoded as the same sectors, and it may be; else Decode tells what is wrong and hands back no record. No conditions.
-/
import Derived.Test.YtjebldfmkpfafaaRecK
import Derived.Test.YtjebldfmkpfafaaLaw
import Derived.Test.YtjebldfmkpfafaaOpen
import Derived.Test.YtjebldfmkpfafaaRecY
import Derived.Test.YtjebldfmkpfafaaRecZ
namespace Go.Proofs.Ytjebldfmkpfafaa.lawRecordOne
open Go.ChangeShapes Go.WideShapes Go.ChangeAt Go.RowKit
open Go.ChangeMaps (open_string shut_string)
set_option maxRecDepth 100000

set_option maxHeartbeats 4000000 in
theorem walk_long (s : List UInt8) (W : World) (hs : 4000 < s.length) (h63 : s.length ≤ 9223372036854775807) : Calls Try.prog 5 #[.string (str s)] W fun e w' => e = .returned (.bool true) ∧ Keeps [] W w' := by
  have Aw := Lib.hid (fun w => awake_any w)
  have h1 : decide (4000 < (s.length : Int)) = true := decide_eq_true (by omega)
  have h2 : (s.length : Int) ≤ 9223372036854775807 := by omega
  go_enter Try.func5, Try.ntmps5
  go_wp2_with (first
    | (go_at_call 10; (with_reducible refine (Aw.out _).mono ?_); rintro e w1 ⟨rfl, k1⟩))
  go_ret
  exact ⟨rfl, k1⟩

set_option maxHeartbeats 4000000 in
theorem walk_bad (s : List UInt8) (W : World) (hs : s.length ≤ 4000) (e : Int) (hd : decV s = (Rc.zero, 0, e)) (he : e = 10 ∨ e = 12 ∨ e = 13) : Calls Try.prog 5 #[.string (str s)] W fun e w' => e = .returned (.bool true) ∧ Keeps [] W w' := by
  have Aw := Lib.hid (fun w => awake_any w)
  have No := Lib.hid (fun v G w h => none_any v G w h)
  have De := Lib.hid (fun w => dec_all s w (by omega))
  have h1 : decide (4000 < (s.length : Int)) = false := decide_eq_false (by omega)
  rw [hd] at De
  unfold DecPost Rc.val at De
  unfold Rc.val at No
  dsimp only at De
  have e1 : Rc.zero.ep = 0 := rfl
  have e2 : Rc.zero.nr = 0 := rfl
  have e3 : Rc.zero.kd = 0 := rfl
  have e4 : Rc.zero.dt = [] := rfl
  have e5 : Rc.zero.tx = [] := rfl
  have e6 : Rc.zero.sp.length = 0 := rfl
  simp only [e1, e2, e3, e4, e5] at De No
  have hz := str_empty
  clear hd e1 e2 e3 e4 e5
  rcases he with rfl | rfl | rfl
  all_goals
    go_enter Try.func5, Try.ntmps5
    go_wp2_with (first
      | (go_at_call 18; (with_reducible refine (De.out _).mono ?_); rintro e w1 ⟨sv, G, rfl, hg, hGb, k1⟩; have Hg := Lib.hid hg; obtain ⟨ad, cap, rfl, _⟩ := hg.at_; rw [e6] at *; clear hg hGb)
      | (go_at_call 19; (with_reducible refine (No.out _ _ _ (Hg.out.newer ((Keeps.refl [] w1).alloc (.cells #[.int .i64 0, .int .i64 0, .int .i64 0, .slice ad 0 cap, .string (str []), .string (str [])] 24)))).mono ?_); rintro e w2 ⟨rfl, k2⟩)
      | (go_at_call 10; (with_reducible refine (Aw.out _).mono ?_); rintro e w3 ⟨rfl, k3⟩))
    go_ret
    exact ⟨rfl, KT (KT (k1.alloc _) k2) k3⟩

set_option maxHeartbeats 4000000 in
theorem walk_good (s : List UInt8) (W : World) (hs : s.length ≤ 4000) (r : Rc) (n : Nat) (hd : decV s = (r, (n : Int), 0)) (hc : r.check = 0) (hn : 64 * n ≤ s.length) (he : r.encV.1 = s.take (64 * n)) : Calls Try.prog 5 #[.string (str s)] W fun e w' => e = .returned (.bool true) ∧ Keeps [] W w' := by
  have Aw := Lib.hid (fun w => awake_any w)
  have De := Lib.hid (fun w => dec_all s w (by omega))
  have En := Lib.hid (fun sv G w h hG => encode_any r sv G w h hG)
  have Pl := Lib.hid (fun sv G w h => plain_any r sv G w h)
  have Rk := Lib.hid (fun sv G w h => rcheck_any r sv G w h)
  have h1 : decide (4000 < (s.length : Int)) = false := decide_eq_false (by omega)
  have he2 : r.encV.2 = 0 := by unfold Rc.encV; rw [if_pos hc]
  rw [hd] at De
  rw [he, he2] at En
  rw [hc] at Rk
  unfold DecPost Rc.val at De
  unfold Rc.val at En Pl Rk
  dsimp only at De
  obtain ⟨M, hM⟩ : ∃ M, 64 * n = M := ⟨_, rfl⟩
  have hwM : IntKind.i64.wrap (64 * (n : Int)) = (M : Int) := by rw [IntWalk.i64_in _ ⟨by omega, by omega⟩]; omega
  rw [hM] at En hn
  have hcut : (str s).extract 0 M = str (s.take M) := by rw [str_extract, str_data]; simp
  have hb1 : (M : Int) ≤ (s.length : Int) := by omega
  have hb2 : decide (M ≤ s.length) = true := decide_eq_true hn
  generalize s.take M = E at *
  clear hd hc he he2 hM
  go_enter Try.func5, Try.ntmps5
  go_wp2_with (first
    | (go_at_call 18; (with_reducible refine (De.out _).mono ?_); rintro e w1 ⟨sv, G, rfl, hg, hGb, k1⟩; have Hg := Lib.hid hg; have HGb := Lib.hid hGb; obtain ⟨ad, cap, rfl, _⟩ := hg.at_; clear hg hGb; have Kr := Lib.hid ((Keeps.refl [] w1).alloc (.cells #[.int .i64 r.ep, .int .i64 r.nr, .int .i64 r.kd, .slice ad r.sp.length cap, .string (str r.dt), .string (str r.tx)] 24)); have CB := Lib.hid (fun w' (k : Keeps [] (w1.alloc (.cells #[.int .i64 r.ep, .int .i64 r.nr, .int .i64 r.kd, .slice ad r.sp.length cap, .string (str r.dt), .string (str r.tx)] 24)) w') => (cells6 (k.some (heap_at (w := w1) (k := w1.heap.size) (o := .cells #[.int .i64 r.ep, .int .i64 r.nr, .int .i64 r.kd, .slice ad r.sp.length cap, .string (str r.dt), .string (str r.tx)] 24) rfl) (by simp))).1))
    | (go_at_call 13; (with_reducible refine (En.out _ _ _ (Hg.out.newer Kr.out) ?hgg).mono ?_); (case hgg => intro x hx; have := (HGb.out x hx).2; have := Kr.out.size; omega); rintro e w2 ⟨rfl, k2⟩; have Ks := Lib.hid ((Keeps.refl [] _).trans k2 (by simp)); obtain ⟨d0, d1, d2, d3, d4, d5⟩ := CB.out _ k2; replace Kr := Lib.hid (KT Kr.out k2))
    | (go_at_call 12; (with_reducible refine (Pl.out _ _ _ (Hg.out.newer Kr.out)).mono ?_); rintro e w3 ⟨rfl, k3⟩; replace Kr := Lib.hid (KT Kr.out k3))
    | (go_at_call 11; (with_reducible refine (Rk.out _ _ _ (Hg.out.newer Kr.out)).mono ?_); rintro e w4 ⟨rfl, k4⟩; replace Kr := Lib.hid (KT Kr.out k4))
    | (go_at_call 10; (with_reducible refine (Aw.out _).mono ?_); rintro e w5 ⟨rfl, k5⟩))
  go_ret
  exact ⟨rfl, KT k1 (KT Kr.out k5)⟩

theorem walk_any (s : ByteArray) (W : World) (h63 : s.size ≤ 9223372036854775807) : Calls Try.prog 5 #[.string s] W fun e w' => e = .returned (.bool true) ∧ Keeps [] W w' := by
  rw [← str_self s]
  have hl : s.data.toList.length ≤ 9223372036854775807 := by rw [dlen]; exact h63
  generalize s.data.toList = l at *
  by_cases hs : 4000 < l.length
  · exact walk_long l W hs hl
  · rcases dec_cases l with ⟨e, h1, h2⟩ | ⟨x, n, h1, h2, h3, h4⟩
    · exact walk_bad l W (by omega) e h1 h2
    · exact walk_good l W (by omega) x n h1 h2 h3 h4
-- ROWEND
set_option maxRecDepth 100000 in
theorem lifted (os : Os) (started : os.Started) (H : Type) (enc : TypeId × Value → H) :
    ReturnsInHanded {} Try.checked os 5 .any (Rows.recordOneSpec.pre6 enc Try.prog Try.f5 Rows.recordOneRow.domain false) (Rows.recordOneSpec.post enc Try.prog Try.f5 false true false false) := by
  refine returnsInHanded_of_change (C := Try.checked) Try.own started (by kernel_rfl) Try.func5
    (ChangeSpec.witness6 (enc := enc) (C := Try.checked) false ⟨#[], #[.string .empty], []⟩ 8 (by kernel_rfl) (by kernel_rfl) (by kernel_rfl) (by kernel_rfl)) ?_
  intro W base args ds gs before hval0 hW _ _
  have hval : ∀ (j : Nat) t v, Try.f5.params[j]? = some t → args[j]? = some v → Value.okWide Try.prog W .any base t v := hval0
  have hW' := hW
  obtain ⟨p, q, hA0, hV, rfl, hfz, hnd⟩ := hW
  have hA : DataW.TrodAll enc Try.prog W 0 (fun _ => true) true Try.f5.params.toList args.toList ds p := hA0
  rw [Try.params5] at hA hval
  obtain ⟨v0, vs0, d0, ds0, p0, q0, hargs, rfl, rfl, h0, r0⟩ := trodAll_cons hA
  obtain ⟨rfl, rfl, rfl⟩ := trodAll_nil r0
  obtain rfl : args = #[v0] := by cases args; simp_all
  obtain ⟨s, rfl, rfl, rfl, ws⟩ := open_string Try.underlying9 (hval 0 9 v0 rfl rfl) h0
  unfold maxLen at ws
  refine (walk_any s W (by omega)).mono fun e W' ⟨he, hk⟩ => ?_
  subst he
  exact ⟨_, rfl, law_end Try.laidOut (by kernel_rfl) rfl rfl Try.underlying4 hW' rfl hk⟩

theorem proved : Rows.RecordOneSaid :=
  OpenClaim.holds_of_wide 5 Try.f5 rfl rfl rfl rfl rfl rfl rfl ⟨rfl, rfl, rfl, rfl, rfl⟩ rfl rfl rfl rfl rfl (by kernel_rfl) Try.func5 (by kernel_rfl)
    (of_decide_eq_true (by kernel_rfl)) (by unfold Func.isWrapper; first | (rw [if_pos (by decide +kernel)]; kernel_rfl) | (rw [if_neg (by decide +kernel)]; exact ⟨rfl, rfl⟩))
    (fun os started H enc _ => lifted os started H enc)
end Go.Proofs.Ytjebldfmkpfafaa.lawRecordOne
