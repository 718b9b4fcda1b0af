/- lighterlaw05.BucketLates, whatever its input: true, and the input reads as it did. Of late calls of one name the oldest one that may be done is. Conditions: the tied card's. -/
import Derived.Test.YtflgagglkkehiaaDoorBkX
import Derived.Test.YtflgagglkkehiaaDoorCards
import Derived.Test.YtflgagglkkehiaaDoorTie
import Derived.SevenTiedAt
namespace Go.Proofs.YtflgagglkkehiaaDoor.lawBucketLates
open Go.ChangeShapes Go.WideShapes Go.ChangeAt Go.RowKit
open Go.ChangeMaps (open_string shut_string)

def s1 : Bk := (newB 1000).fates [3, 3]
def s3 (a b : Bs) : Bk := ⟨[], 1000, [], [(true, [107], a), (true, [107], b)]⟩
theorem put1 (a : Bs) (ha : a.length ≤ 200) : s1.put' [107] a = (34, ⟨[], 1000, [3], [(true, [107], a)]⟩) := by
  have h : (nameB [107] && decide (a.length ≤ 65536)) = true := by rw [decide_eq_true (by omega)]; rfl
  unfold Bk.put'
  rw [if_pos h]
  rfl
theorem put2 (a b : Bs) (hb : b.length ≤ 200) : (⟨[], 1000, [3], [(true, [107], a)]⟩ : Bk).put' [107] b = (34, s3 a b) := by
  have h : (nameB [107] && decide (b.length ≤ 65536)) = true := by rw [decide_eq_true (by omega)]; rfl
  unfold Bk.put'
  rw [if_pos h]
  rfl
theorem first_put (a : Bs) (l : List Cl) (ha : a.length ≤ 200) : ((⟨[], 1000, [], l⟩ : Bk).act (true, [107], a)).2 = ⟨[([107], a)], 1000, [], l⟩ := by
  unfold Bk.act
  rw [if_pos rfl]
  unfold Bk.put
  rw [if_neg (by show ¬ false = true; decide), if_neg (by show ¬ 1000 < 0 + a.length; omega)]
  rfl
theorem second_put (a b : Bs) (l : List Cl) : ((⟨[([107], a)], 1000, [], l⟩ : Bk).act (true, [107], b)).2 = ⟨[([107], a)], 1000, [], l⟩ := by
  unfold Bk.act
  rw [if_pos rfl]
  unfold Bk.put
  rw [if_pos (by rfl)]
theorem cut0 (a b : Bs) (n : Int) : ((s3 a b).cut n : Int) = min (max n 0) 2 := by
  unfold Bk.cut s3
  show ((min n.toNat 2 : Nat) : Int) = _
  omega
theorem get_after (a b : Bs) (n : Int) (ha : a.length ≤ 200) : ((s3 a b).land n).get [107] 0 1000 = if n < 1 then ([], 15) else (a, 0) := by
  have hn : (nameB [107] && decide ((0 : Int) ≤ 0) && decide ((0 : Int) ≤ 1000)) = true := by decide
  unfold Bk.get
  rw [if_pos hn]
  by_cases h1 : n < 1
  · rw [if_pos h1]
    have hc : (s3 a b).cut n = 0 := by have := cut0 a b n; omega
    have hl : (s3 a b).land n = s3 a b := by unfold Bk.land Bk.drop; rw [hc]; rfl
    rw [hl]
    rfl
  · rw [if_neg h1]
    have key : ((s3 a b).land n).look [107] = (a, 0) := by
      by_cases h2 : n < 2
      · have hc : (s3 a b).cut n = 1 := by have := cut0 a b n; omega
        have hl : (s3 a b).land n = ⟨[([107], a)], 1000, [], [(true, [107], b)]⟩ := by
          unfold Bk.land Bk.drop
          rw [hc]
          exact first_put a _ ha
        rw [hl]
        rfl
      · have hc : (s3 a b).cut n = 2 := by have := cut0 a b n; omega
        have hl : (s3 a b).land n = ⟨[([107], a)], 1000, [], []⟩ := by
          unfold Bk.land Bk.drop
          rw [hc]
          show ((((⟨[], 1000, [], []⟩ : Bk).act (true, [107], a)).2).act (true, [107], b)).2 = _
          rw [first_put a _ ha, second_put]
        rw [hl]
        rfl
    rw [key, if_pos rfl, if_neg (by show ¬ ((a.length : Int) < 0); omega)]
    show (List.take 1000 (a.drop 0), (0 : Int)) = _
    rw [List.drop_zero, List.take_of_length_le (by omega)]
theorem s1_ok : s1.ok 1 := (newB_ok 1000 (by omega) 0).fates [3, 3] (by simp) (by intro x hx; simp only [List.mem_cons, List.not_mem_nil, or_false] at hx; rcases hx with rfl | rfl <;> unfold i64R <;> omega)

set_option maxHeartbeats 4000000 in
set_option maxRecDepth 100000 in
theorem walk_big (a b : Bs) (n : Int) (w : World) (hbig : ¬ (a.length ≤ 200 ∧ b.length ≤ 200)) : Calls Tryd.prog 3 #[.string (str a), .string (str b), .int .i64 n] w fun e w' => e = .returned (.bool true) ∧ Keeps [] w w' := by
  have N : Hid (Calls Tryd.prog 11 #[.int .i64 1000] w fun e w' => ∃ p, e = .returned (.tuple #[.pointer (some ⟨p, 0, none⟩), .int .i64 0]) ∧ Mine w w' p (newB 1000)) := m_new (w0 := w) (w := w) 1000 (by omega) (Keeps.refl _ _)
  have Aw := Lib.hid awake_any
  obtain ⟨ra, hra⟩ : ∃ r, decide (200 < (a.length : Int)) = r := ⟨_, rfl⟩
  obtain ⟨rb, hrb⟩ : ∃ r, decide (200 < (b.length : Int)) = r := ⟨_, rfl⟩
  have hor : ra = true ∨ rb = true := by
    rw [← hra, ← hrb, decide_eq_true_eq, decide_eq_true_eq]
    omega
  clear hbig
  rcases hor with rfl | rfl
  · have hla : (200 : Int) < (a.length : Int) := by simpa using hra
    clear hra hrb
    go_enter Tryd.func3, Tryd.ntmps3
    go_wp2_with (first
      | (go_at_call 11; (with_reducible refine (N.out).mono ?_); rintro e w1 ⟨p, rfl, h1⟩)
      | (go_at_call 12; (with_reducible refine (Aw.out _).mono ?_); rintro e w2 ⟨rfl, k2⟩))
    go_ret
    exact ⟨rfl, h1.keeps.trans k2 (by simp)⟩
  · cases ra
    · have hla : ¬ ((200 : Int) < (a.length : Int)) := by simpa using hra
      have hlb : (200 : Int) < (b.length : Int) := by simpa using hrb
      clear hra hrb
      go_enter Tryd.func3, Tryd.ntmps3
      go_wp2_with (first
        | (go_at_call 11; (with_reducible refine (N.out).mono ?_); rintro e w1 ⟨p, rfl, h1⟩)
        | (go_at_call 12; (with_reducible refine (Aw.out _).mono ?_); rintro e w2 ⟨rfl, k2⟩))
      go_ret
      exact ⟨rfl, h1.keeps.trans k2 (by simp)⟩
    · have hla : (200 : Int) < (a.length : Int) := by simpa using hra
      clear hra hrb
      go_enter Tryd.func3, Tryd.ntmps3
      go_wp2_with (first
        | (go_at_call 11; (with_reducible refine (N.out).mono ?_); rintro e w1 ⟨p, rfl, h1⟩)
        | (go_at_call 12; (with_reducible refine (Aw.out _).mono ?_); rintro e w2 ⟨rfl, k2⟩))
      go_ret
      exact ⟨rfl, h1.keeps.trans k2 (by simp)⟩

set_option maxHeartbeats 4000000 in
set_option maxRecDepth 100000 in
theorem walk (a b : Bs) (n : Int) (w : World) (ha : a.length ≤ 200) (hb : b.length ≤ 200) : Calls Tryd.prog 3 #[.string (str a), .string (str b), .int .i64 n] w fun e w' => e = .returned (.bool true) ∧ Keeps [] w w' := by
  have sk : ByteArray.mk #[107] = str [107] := rfl
  have N : Hid (Calls Tryd.prog 11 #[.int .i64 1000] w fun e w' => ∃ p, e = .returned (.tuple #[.pointer (some ⟨p, 0, none⟩), .int .i64 0]) ∧ Mine w w' p (newB 1000)) := m_new (w0 := w) (w := w) 1000 (by omega) (Keeps.refl _ _)
  have Aw := Lib.hid awake_any
  have o1 := s1_ok
  have o2 := o1.put' [107] a
  rw [put1 a ha] at o2
  have o3 := o2.put' [107] b
  dsimp only at o3
  rw [put2 a b hb] at o3
  have o4 := o3.land n
  dsimp only at o4
  have Fa : Hid (∀ (w1 : World) (p : Nat), Mine w w1 p (newB 1000) → Calls Tryd.prog 13 #[.pointer (some ⟨p, 0, none⟩), .slice (some ⟨w1.heap.size, 0, none⟩) 2 2] (w1.alloc (.cells #[.int .i64 3, .int .i64 3] 3)) fun e w' => e = .returned (.tuple #[]) ∧ Mine w w' p s1) :=
    fun w1 p h => m_fates (h.newer ((Keeps.refl [] w1).alloc _)) (newB_ok 1000 (by omega) 0) (by omega) _ [3, 3] (SlSrc.lit w1 [.int .i64 3, .int .i64 3] 3 2 rfl) (by simp)
  have P1 : Hid (∀ (w1 : World) (p : Nat), Mine w w1 p s1 → Calls Tryd.prog 14 #[.pointer (some ⟨p, 0, none⟩), .string (str [107]), .string (str a)] w1 fun e w' => e = .returned (.int .i64 34) ∧ Mine w w' p ⟨[], 1000, [3], [(true, [107], a)]⟩) :=
    fun w1 p h => by have := m_put h o1 (by omega) [107] a (by decide); rw [put1 a ha] at this; exact this
  have P2 : Hid (∀ (w1 : World) (p : Nat), Mine w w1 p ⟨[], 1000, [3], [(true, [107], a)]⟩ → Calls Tryd.prog 14 #[.pointer (some ⟨p, 0, none⟩), .string (str [107]), .string (str b)] w1 fun e w' => e = .returned (.int .i64 34) ∧ Mine w w' p (s3 a b)) :=
    fun w1 p h => by have := m_put h o2 (by omega) [107] b (by decide); rw [put2 a b hb] at this; exact this
  have W1 : Hid (∀ (w1 : World) (p : Nat), Mine w w1 p (s3 a b) → Calls Tryd.prog 15 #[.pointer (some ⟨p, 0, none⟩)] w1 fun e w' => e = .returned (.int .i64 2) ∧ w' = w1) :=
    fun w1 p h => m_waits h
  obtain ⟨K, hK⟩ : ∃ K, (s3 a b).cut n = K := ⟨_, rfl⟩
  have hc := cut0 a b n
  rw [hK] at hc
  have La : Hid (∀ (w1 : World) (p : Nat), Mine w w1 p (s3 a b) → Calls Tryd.prog 16 #[.pointer (some ⟨p, 0, none⟩), .int .i64 n] w1 fun e w' => e = .returned (.int .i64 K) ∧ Mine w w' p ((s3 a b).land n)) :=
    fun w1 p h => by have := m_land h o3 (by omega) n; rw [hK] at this; exact this
  have hwl : (((s3 a b).land n).l.length : Int) = 2 - (K : Int) := by
    rw [Bk.land_l, hK, List.length_drop]
    show ((2 - K : Nat) : Int) = _
    omega
  have W2 : Hid (∀ (w1 : World) (p : Nat), Mine w w1 p (((s3 a b).land n).get2 [107] 0 1000) → Calls Tryd.prog 15 #[.pointer (some ⟨p, 0, none⟩)] w1 fun e w' => e = .returned (.int .i64 (2 - (K : Int))) ∧ w' = w1) :=
    fun w1 p h => by
      have := m_waits h
      have e : (((s3 a b).land n).get2 [107] 0 1000).l = ((s3 a b).land n).l := by
        unfold Bk.get2
        split <;> rfl
      rw [e, hwl] at this
      exact this
  have hga := get_after a b n ha
  have hw2 : IntKind.i64.wrap (2 - (K : Int)) = 2 - (K : Int) := by rw [IntWalk.i64_in _ ⟨by omega, by omega⟩]
  have hb1 : ((K : Int) != (K : Int)) = false := by simp
  have hb2 : ((2 - (K : Int)) != (2 - (K : Int))) = false := by simp
  have hcc : min (max n 0) 2 = (K : Int) := hc.symm
  have hla : ¬ ((200 : Int) < (a.length : Int)) := by omega
  have hlb : ¬ ((200 : Int) < (b.length : Int)) := by omega
  have hab : (a == a) = true := by simp
  by_cases hn1 : n < 1
  · rw [if_pos hn1] at hga
    have Ge : Hid (∀ (w1 : World) (p : Nat), Mine w w1 p ((s3 a b).land n) → Calls Tryd.prog 17 #[.pointer (some ⟨p, 0, none⟩), .string (str [107]), .int .i64 0, .int .i64 1000] w1 fun e w' => e = .returned (.tuple #[.string (str []), .int .i64 15]) ∧ Mine w w' p (((s3 a b).land n).get2 [107] 0 1000)) :=
      fun w1 p h => by have := m_get h o4 [107] (by decide) 0 1000 (by unfold i64R; omega) (by unfold i64R; omega); rw [hga] at this; exact this
    generalize ((s3 a b).land n).get2 [107] 0 1000 = b5 at *
    generalize (s3 a b).land n = b4 at *
    generalize s3 a b = b3 at *
    clear o1 o2 o3 o4 hc hK hwl hga ha hb
    go_enter Tryd.func3, Tryd.ntmps3
    go_wp2_with (first
      | (go_at_call 11; (with_reducible refine (N.out).mono ?_); rintro e w1 ⟨p, rfl, h1⟩)
      | (go_at_call 13; (with_reducible refine (Fa.out _ _ h1).mono ?_); rintro e w2 ⟨rfl, h2⟩)
      | (go_at_call 14; (with_reducible refine (P2.out _ _ h3).mono ?_); rintro e w4 ⟨rfl, h4⟩)
      | (go_at_call 14; (with_reducible refine (P1.out _ _ h2).mono ?_); rintro e w3 ⟨rfl, h3⟩)
      | (go_at_call 15; (with_reducible refine (W2.out _ _ h6).mono ?_); rintro e w7 ⟨rfl, rfl⟩)
      | (go_at_call 15; (with_reducible refine (W1.out _ _ h4).mono ?_); rintro e w8 ⟨rfl, rfl⟩)
      | (go_at_call 16; (with_reducible refine (La.out _ _ h4).mono ?_); rintro e w5 ⟨rfl, h5⟩)
      | (go_at_call 17; (with_reducible refine (Ge.out _ _ h5).mono ?_); rintro e w6 ⟨rfl, h6⟩)
      | (go_at_call 12; (with_reducible refine (Aw.out _).mono ?_); rintro e w9 ⟨rfl, k9⟩))
    go_ret
    exact ⟨rfl, h6.keeps.trans k9 (by simp)⟩
  · rw [if_neg hn1] at hga
    have Ge : Hid (∀ (w1 : World) (p : Nat), Mine w w1 p ((s3 a b).land n) → Calls Tryd.prog 17 #[.pointer (some ⟨p, 0, none⟩), .string (str [107]), .int .i64 0, .int .i64 1000] w1 fun e w' => e = .returned (.tuple #[.string (str a), .int .i64 0]) ∧ Mine w w' p (((s3 a b).land n).get2 [107] 0 1000)) :=
      fun w1 p h => by have := m_get h o4 [107] (by decide) 0 1000 (by unfold i64R; omega) (by unfold i64R; omega); rw [hga] at this; exact this
    generalize ((s3 a b).land n).get2 [107] 0 1000 = b5 at *
    generalize (s3 a b).land n = b4 at *
    generalize s3 a b = b3 at *
    clear o1 o2 o3 o4 hc hK hwl hga ha hb
    go_enter Tryd.func3, Tryd.ntmps3
    go_wp2_with (first
      | (go_at_call 11; (with_reducible refine (N.out).mono ?_); rintro e w1 ⟨p, rfl, h1⟩)
      | (go_at_call 13; (with_reducible refine (Fa.out _ _ h1).mono ?_); rintro e w2 ⟨rfl, h2⟩)
      | (go_at_call 14; (with_reducible refine (P2.out _ _ h3).mono ?_); rintro e w4 ⟨rfl, h4⟩)
      | (go_at_call 14; (with_reducible refine (P1.out _ _ h2).mono ?_); rintro e w3 ⟨rfl, h3⟩)
      | (go_at_call 15; (with_reducible refine (W2.out _ _ h6).mono ?_); rintro e w7 ⟨rfl, rfl⟩)
      | (go_at_call 15; (with_reducible refine (W1.out _ _ h4).mono ?_); rintro e w8 ⟨rfl, rfl⟩)
      | (go_at_call 16; (with_reducible refine (La.out _ _ h4).mono ?_); rintro e w5 ⟨rfl, h5⟩)
      | (go_at_call 17; (with_reducible refine (Ge.out _ _ h5).mono ?_); rintro e w6 ⟨rfl, h6⟩)
      | (go_at_call 12; (with_reducible refine (Aw.out _).mono ?_); rintro e w9 ⟨rfl, k9⟩))
    go_ret
    exact ⟨rfl, h6.keeps.trans k9 (by simp)⟩

theorem walk_any (a b : ByteArray) (n : Int) (W : World) : Calls Tryd.prog 3 #[.string a, .string b, .int .i64 n] W fun e w' => e = .returned (.bool true) ∧ Keeps [] W w' := by
  rw [← str_self a, ← str_self b]
  by_cases h : a.data.toList.length ≤ 200 ∧ b.data.toList.length ≤ 200
  · exact walk _ _ n W h.1 h.2
  · exact walk_big _ _ n W h

-- ROWEND
set_option maxRecDepth 100000 in
theorem lifted (os : Os) (started : os.Started) (H : Type) (enc : TypeId × Value → H) :
    ReturnsInHanded {} Tryd.checked os 3 .any (fun w args => (Rows.bucketLatesSpec.pre enc Tryd.prog Tryd.f3 [] false w args ∧ laidMetH Tryd.prog laidU w) ∧ sizedMet enc Tryd.prog Tryd.f3 (OpenSpec.ofChange Rows.bucketLatesSpec) false w args)
      (Rows.bucketLatesSpec.post enc Tryd.prog Tryd.f3 false true false false) := by
  refine returnsInHanded_of_change_and (C := Tryd.checked) (X := fun w _ => laidMetH Tryd.prog laidU w) (fun _ _ _ hh h => h.of_heap hh) Tryd.own started (by kernel_rfl) Tryd.func3
    (ChangeSpec.witness_shaped (enc := enc) (C := Tryd.checked) (os := os) (X := fun w _ => laidMetH Tryd.prog laidU w) false (World.laidAll Tryd.prog os laidU) #[.string .empty, .string .empty, .int .i64 0] 8 (World.laidAll_os _ _ _) (World.shaped_of_ZipB (by kernel_rfl) (by kernel_rfl)) (by kernel_rfl) (by kernel_rfl) (by kernel_rfl) (by rw [MakeChecks.laidMetH_plain _ _ _ (by kernel_rfl)]; exact laidMet_laidAll _ (by kernel_rfl) (by kernel_rfl))) ?_
  intro W base args ds gs before hval0 hW _ _ hL _
  have hval : ∀ (j : Nat) t v, Tryd.f3.params[j]? = some t → args[j]? = some v → Value.okWide Tryd.prog W .any base t v := hval0
  have hW' := hW
  obtain ⟨p, q, hA0, hV, rfl, hfz, hnd⟩ := hW
  have hA : DataW.TrodAll enc Tryd.prog W 0 (fun _ => true) true Tryd.f3.params.toList args.toList ds p := hA0
  rw [Tryd.params3] at hA hval
  obtain ⟨v0, vs0, d0, ds0, p0, q0, hargs, rfl, rfl, h0, r0⟩ := trodAll_cons hA
  obtain ⟨v1, vs1, d1, ds1, p1, q1, rfl, rfl, rfl, h1, r1⟩ := trodAll_cons r0
  obtain ⟨v2, vs2, d2, ds2, p2, q2, rfl, rfl, rfl, h2, r2⟩ := trodAll_cons r1
  obtain ⟨rfl, rfl, rfl⟩ := trodAll_nil r2
  obtain rfl : args = #[v0, v1, v2] := by cases args; simp_all
  obtain ⟨a, rfl, rfl, rfl, wa⟩ := open_string Tryd.underlying9 (hval 0 9 v0 rfl rfl) h0
  unfold maxLen at wa
  obtain ⟨b, rfl, rfl, rfl, wb⟩ := open_string Tryd.underlying9 (hval 1 9 v1 rfl rfl) h1
  unfold maxLen at wb
  obtain ⟨n, rfl, rfl, rfl, wn⟩ := open_int Tryd.underlying3 (hval 2 3 v2 rfl rfl) h2
  obtain ⟨wn0, wn1⟩ := wf_i64 wn
  refine (walk_any a b n W).mono fun e W' ⟨he, hk⟩ => ?_
  subst he
  exact ⟨_, rfl, law_end Tryd.laidOut (by kernel_rfl) rfl rfl Tryd.underlying4 hW' rfl hk⟩

theorem row_holds : Rows.BucketLatesSaid :=
  OpenClaim.holds_of_wide 3 Tryd.f3 rfl rfl rfl rfl rfl rfl rfl ⟨rfl, rfl, rfl, rfl, rfl⟩ rfl rfl rfl rfl rfl (by kernel_rfl) Tryd.func3 (by kernel_rfl)
    (of_decide_eq_true (by kernel_rfl)) (by unfold Func.isWrapper; first | (rw [if_pos (by decide +kernel)]; kernel_rfl) | (rw [if_neg (by decide +kernel)]; exact ⟨rfl, rfl⟩))
    (fun os started H enc _ => lifted os started H enc)
theorem proved : Rows.BucketLatesCardSaid :=
  Claim7.holds_tied_plain_at .later [] [.data, .pinned] true (true, "e4129f4e5938461e8878458e06df438afec1d99629e799e21c52c19d7c204c58") true
    row_holds (fun _ h => by cases h) (by kernel_rfl) (fun _ h => by cases h) bucketLates_row_tie rfl ⟨rfl, rfl⟩ (by kernel_rfl) rfl
    (fun f fn hf hfn => by
      obtain rfl : f = 3 := Option.some.inj ((show Tryd.prog.funcNamed "lighter/lighterlaw05.BucketLates" = some 3 by kernel_rfl).symm.trans hf) |>.symm
      obtain rfl : fn = Tryd.f3 := (Option.some.inj (Tryd.func3.symm.trans hfn)).symm
      exact ⟨by kernel_rfl, fun j t ht => by
        rw [Tryd.params3] at ht
        have hm : t ∈ [9, 9, 3] := by simpa using Array.mem_of_getElem? ht
        have hall : ([9, 9, 3].all fun u => !Tryd.prog.wantsStandIn u) = true := by kernel_rfl
        exact (show Tryd.prog.wantsStandIn t = false by simpa using List.all_eq_true.1 hall t hm)⟩)
    (by kernel_rfl)
end Go.Proofs.YtflgagglkkehiaaDoor.lawBucketLates
