/- lighterlaw05.BucketParts, whatever its input: true, and the input reads as it did. An object that is got in parts is what was put. Conditions: the tied card's. -/
import Derived.Test.YtflgagglkkehiaaDoorBkX
import Derived.Test.YtflgagglkkehiaaDoorOpenP
import Derived.Test.YtflgagglkkehiaaDoorCards
import Derived.Test.YtflgagglkkehiaaDoorTie
import Derived.SevenTiedAt
namespace Go.Proofs.YtflgagglkkehiaaDoor.lawBucketParts
open Go.ChangeShapes Go.WideShapes Go.ChangeAt Go.RowKit
open Go.ChangeMaps (open_string shut_string)

def pb (s : Bs) : Bk := ⟨[([107], s)], 1000, [], []⟩
theorem put1 (s : Bs) (hs : s.length ≤ 200) : (newB 1000).put' [107] s = (0, pb s) := by
  have h : (nameB [107] && decide (s.length ≤ 65536)) = true := by rw [decide_eq_true (by omega)]; rfl
  unfold Bk.put'
  rw [if_pos h]
  have h2 : (newB 1000).does (true, [107], s) = (newB 1000).put [107] s := rfl
  rw [h2]
  unfold Bk.put
  rw [if_neg (by show ¬ false = true; decide), if_neg (by show ¬ 1000 < 0 + s.length; omega)]
  rfl
theorem get1 (s : Bs) (A n : Int) (hA : 0 ≤ A) (hn : 0 ≤ n) (hl : A ≤ s.length) : (pb s).get [107] A n = ((s.drop A.toNat).take n.toNat, 0) := by
  have h : (nameB [107] && decide (0 ≤ A) && decide (0 ≤ n)) = true := by rw [decide_eq_true hA, decide_eq_true hn]; rfl
  unfold Bk.get
  rw [if_pos h]
  have hl2 : (pb s).look [107] = (s, 0) := rfl
  rw [hl2, if_pos rfl, if_neg (by show ¬ ((s.length : Int) < A); omega)]
theorem get2 (s : Bs) (A n : Int) : (pb s).get2 [107] A n = pb s := by
  unfold Bk.get2
  split <;> rfl
theorem size1 (s : Bs) : (pb s).size [107] = ((s.length : Int), 0) := rfl
theorem size2 (s : Bs) : (pb s).size2 [107] = pb s := rfl
theorem used1 (s : Bs) : usedO (pb s).m = s.length := by show ([([107], s)].map (fun p : Bs × Bs => p.2.length)).sum = _; simp

theorem new_at (w : World) : ∀ w1, Keeps [] w w1 → Calls Tryd.prog 11 #[.int .i64 1000] w1 fun e w' => ∃ p, e = .returned (.tuple #[.pointer (some ⟨p, 0, none⟩), .int .i64 0]) ∧ Mine w w' p (newB 1000) ∧ Keeps [] w1 w' := fun w1 h1 => by
  refine (m_new (w0 := w1) (w := w1) 1000 (by omega) (Keeps.refl _ _)).mono ?_
  rintro e w' ⟨p, rfl, F, h2, h3, h4⟩
  exact ⟨p, rfl, ⟨F, h2, fun x hx => Nat.le_trans h1.size (h3 x hx), h1.trans h4 (by simp)⟩, h4⟩

set_option maxHeartbeats 4000000 in
set_option maxRecDepth 100000 in
theorem walk (s : Bs) (i k : Int) (w : World) (hs : s.length ≤ 200) (hi : 0 ≤ i) (hk : i ≤ k) (hl : k ≤ s.length) : Calls Tryd.prog 4 #[.string (str s), .agg #[.int .i64 i, .int .i64 k]] w fun e w' => e = .returned (.bool true) ∧ Keeps [] w w' := by
  have sk : ByteArray.mk #[107] = str [107] := rfl
  have Nn := Lib.hid (new_at w)
  have Aw := Lib.hid awake_any
  have o1 := (newB_ok 1000 (by omega) 0).put' [107] s
  rw [put1 s hs] at o1
  have P1 : Hid (∀ (w1 : World) (p : Nat), Mine w w1 p (newB 1000) → Calls Tryd.prog 14 #[.pointer (some ⟨p, 0, none⟩), .string (str [107]), .string (str s)] w1 fun e w' => e = .returned (.int .i64 0) ∧ Mine w w' p (pb s)) :=
    fun w1 p h => by have := m_put h (newB_ok 1000 (by omega) 0) (by omega) [107] s (by decide); rw [put1 s hs] at this; exact this
  have Ge : ∀ (A n : Int), 0 ≤ A → 0 ≤ n → A ≤ s.length → n ≤ 2000000 → ∀ (w1 : World) (p : Nat), Mine w w1 p (pb s) → Calls Tryd.prog 17 #[.pointer (some ⟨p, 0, none⟩), .string (str [107]), .int .i64 A, .int .i64 n] w1 fun e w' => e = .returned (.tuple #[.string (str ((s.drop A.toNat).take n.toNat)), .int .i64 0]) ∧ Mine w w' p (pb s) :=
    fun A n h1 h2 h3 h4 w1 p h => by have := m_get h o1 [107] (by decide) A n (by unfold i64R; omega) (by unfold i64R; omega); rw [get1 s A n h1 h2 h3, get2] at this; exact this
  obtain ⟨x, hx⟩ : ∃ x, (s.drop (0 : Int).toNat).take i.toNat = x := ⟨_, rfl⟩
  obtain ⟨y, hy⟩ : ∃ y, (s.drop i.toNat).take (k - i).toNat = y := ⟨_, rfl⟩
  obtain ⟨z, hz⟩ : ∃ z, (s.drop k.toNat).take (1048576 : Int).toNat = z := ⟨_, rfl⟩
  have hxyz : x ++ y ++ z = s := by
    rw [← hx, ← hy, ← hz]
    rw [show (s.drop k.toNat).take (1048576 : Int).toNat = s.drop k.toNat from List.take_of_length_le (by rw [List.length_drop]; omega), show (0 : Int).toNat = 0 from rfl, List.drop_zero]
    rw [List.append_assoc, show s.drop k.toNat = (s.drop i.toNat).drop (k - i).toNat by rw [List.drop_drop]; congr 1; omega, List.take_append_drop, List.take_append_drop]
  have G1 := Ge 0 i (by omega) hi (by omega) (by omega)
  have G2 := Ge i (k - i) hi (by omega) (by omega) (by omega)
  have G3 := Ge k 1048576 (by omega) (by omega) (by omega) (by omega)
  rw [hx] at G1
  rw [hy] at G2
  rw [hz] at G3
  have Si : Hid (∀ (w1 : World) (p : Nat), Mine w w1 p (pb s) → Calls Tryd.prog 18 #[.pointer (some ⟨p, 0, none⟩), .string (str [107])] w1 fun e w' => e = .returned (.tuple #[.int .i64 s.length, .int .i64 0]) ∧ Mine w w' p (pb s)) :=
    fun w1 p h => by have := m_size h o1 [107] (by decide); rw [size1, size2] at this; exact this
  have Us : Hid (∀ (w1 : World) (p : Nat), Mine w w1 p (pb s) → Calls Tryd.prog 19 #[.pointer (some ⟨p, 0, none⟩)] w1 fun e w' => e = .returned (.int .i64 s.length) ∧ w' = w1) :=
    fun w1 p h => by have := m_used h; rw [used1] at this; exact this
  have H1 := Lib.hid G1
  have H2 := Lib.hid G2
  have H3 := Lib.hid G3
  have K0 : Hid (Keeps [] w (w.alloc (.cells #[.int .i64 i, .int .i64 k] 34))) := (Keeps.refl [] w).alloc _
  have d0 := cell_of_heap (heap_alloc_self w (.cells #[.int .i64 i, .int .i64 k] 34)) 0
  have d1 := cell_of_heap (heap_alloc_self w (.cells #[.int .i64 i, .int .i64 k] 34)) 1
  have D0 := Lib.hid d0
  have D1 := Lib.hid d1
  have hs0 : decide ((200 : Int) < (s.length : Int)) = false := decide_eq_false (by omega)
  have hi0 : decide (i < 0) = false := decide_eq_false (by omega)
  have hk0 : decide (k < i) = false := decide_eq_false (by omega)
  have hl0 : decide ((s.length : Int) < k) = false := decide_eq_false (by omega)
  have hw1 : IntKind.i64.wrap (k - i) = k - i := by rw [IntWalk.i64_in _ ⟨by omega, by omega⟩]
  have hb1 : ((s.length : Int) == (s.length : Int)) = true := by simp
  have hcat : x ++ (y ++ z) = s := by rw [← List.append_assoc]; exact hxyz
  have hlen : x.length + y.length + z.length = s.length := by rw [← hxyz, List.length_append, List.length_append]
  have hx1 : ¬ (9223372036854775807 < x.length + y.length) := by omega
  have hx2 : ¬ (9223372036854775807 < x.length + y.length + z.length) := by omega
  clear o1 Ge hx hy hz G1 G2 G3 hi hk hl hs d0 d1 hlen hxyz
  go_enter Tryd.func4, Tryd.ntmps4
  go_wp2_with (first
    | (go_at_call 11; (with_reducible refine (Nn.out _ K0.out).mono ?_); rintro e w1 ⟨p, rfl, m1, q1⟩; have e0 := q1.cell0 D0.out; have e1 := q1.cell0 D1.out)
    | (go_at_call 14; (with_reducible refine (P1.out _ _ m1).mono ?_); rintro e w2 ⟨rfl, m2⟩)
    | (go_at_call 17; (with_reducible refine (H3.out _ _ m4).mono ?_); rintro e w5 ⟨rfl, m5⟩)
    | (go_at_call 17; (with_reducible refine (H2.out _ _ m3).mono ?_); rintro e w4 ⟨rfl, m4⟩)
    | (go_at_call 17; (with_reducible refine (H1.out _ _ m2).mono ?_); rintro e w3 ⟨rfl, m3⟩)
    | (go_at_call 18; (with_reducible refine (Si.out _ _ m5).mono ?_); rintro e w6 ⟨rfl, m6⟩)
    | (go_at_call 19; (with_reducible refine (Us.out _ _ m6).mono ?_); rintro e w7 ⟨rfl, rfl⟩)
    | (go_at_call 12; (with_reducible refine (Aw.out _).mono ?_); rintro e w9 ⟨rfl, k9⟩))
  go_ret
  exact ⟨rfl, m6.keeps.trans k9 (by simp)⟩

set_option maxHeartbeats 4000000 in
set_option maxRecDepth 100000 in
theorem walk_out (s : Bs) (i k : Int) (w : World) (h : ¬ (s.length ≤ 200 ∧ 0 ≤ i ∧ i ≤ k ∧ k ≤ s.length)) : Calls Tryd.prog 4 #[.string (str s), .agg #[.int .i64 i, .int .i64 k]] w fun e w' => e = .returned (.bool true) ∧ Keeps [] w w' := by
  have Nn := Lib.hid (new_at w)
  have Aw := Lib.hid awake_any
  have K0 : Hid (Keeps [] w (w.alloc (.cells #[.int .i64 i, .int .i64 k] 34))) := (Keeps.refl [] w).alloc _
  have d0 := cell_of_heap (heap_alloc_self w (.cells #[.int .i64 i, .int .i64 k] 34)) 0
  have d1 := cell_of_heap (heap_alloc_self w (.cells #[.int .i64 i, .int .i64 k] 34)) 1
  have D0 := Lib.hid d0
  have D1 := Lib.hid d1
  clear d0 d1
  by_cases h1 : (200 : Int) < (s.length : Int)
  · clear h
    go_enter Tryd.func4, Tryd.ntmps4
    go_wp2_with (first
      | (go_at_call 11; (with_reducible refine (Nn.out _ K0.out).mono ?_); rintro e w1 ⟨p, rfl, m1, q1⟩; have e0 := q1.cell0 D0.out; have e1 := q1.cell0 D1.out)
      | (go_at_call 12; (with_reducible refine (Aw.out _).mono ?_); rintro e w9 ⟨rfl, k9⟩))
    go_ret
    exact ⟨rfl, m1.keeps.trans k9 (by simp)⟩
  by_cases h2 : i < 0
  · clear h
    go_enter Tryd.func4, Tryd.ntmps4
    go_wp2_with (first
      | (go_at_call 11; (with_reducible refine (Nn.out _ K0.out).mono ?_); rintro e w1 ⟨p, rfl, m1, q1⟩; have e0 := q1.cell0 D0.out; have e1 := q1.cell0 D1.out)
      | (go_at_call 12; (with_reducible refine (Aw.out _).mono ?_); rintro e w9 ⟨rfl, k9⟩))
    go_ret
    exact ⟨rfl, m1.keeps.trans k9 (by simp)⟩
  by_cases h3 : k < i
  · clear h
    go_enter Tryd.func4, Tryd.ntmps4
    go_wp2_with (first
      | (go_at_call 11; (with_reducible refine (Nn.out _ K0.out).mono ?_); rintro e w1 ⟨p, rfl, m1, q1⟩; have e0 := q1.cell0 D0.out; have e1 := q1.cell0 D1.out)
      | (go_at_call 12; (with_reducible refine (Aw.out _).mono ?_); rintro e w9 ⟨rfl, k9⟩))
    go_ret
    exact ⟨rfl, m1.keeps.trans k9 (by simp)⟩
  by_cases h4 : (s.length : Int) < k
  · clear h
    go_enter Tryd.func4, Tryd.ntmps4
    go_wp2_with (first
      | (go_at_call 11; (with_reducible refine (Nn.out _ K0.out).mono ?_); rintro e w1 ⟨p, rfl, m1, q1⟩; have e0 := q1.cell0 D0.out; have e1 := q1.cell0 D1.out)
      | (go_at_call 12; (with_reducible refine (Aw.out _).mono ?_); rintro e w9 ⟨rfl, k9⟩))
    go_ret
    exact ⟨rfl, m1.keeps.trans k9 (by simp)⟩
  exact absurd ⟨by omega, by omega, by omega, by omega⟩ h

theorem walk_any (a : ByteArray) (i k : Int) (W : World) : Calls Tryd.prog 4 #[.string a, .agg #[.int .i64 i, .int .i64 k]] W fun e w' => e = .returned (.bool true) ∧ Keeps [] W w' := by
  rw [← str_self a]
  by_cases h : a.data.toList.length ≤ 200 ∧ 0 ≤ i ∧ i ≤ k ∧ k ≤ a.data.toList.length
  · exact walk _ i k W h.1 h.2.1 h.2.2.1 h.2.2.2
  · exact walk_out _ i k W h

-- ROWEND
set_option maxRecDepth 100000 in
theorem lifted (os : Os) (started : os.Started) (H : Type) (enc : TypeId × Value → H) :
    ReturnsInHanded {} Tryd.checked os 4 .any (fun w args => (Rows.bucketPartsSpec.pre enc Tryd.prog Tryd.f4 [] false w args ∧ laidMetH Tryd.prog laidU w) ∧ sizedMet enc Tryd.prog Tryd.f4 (OpenSpec.ofChange Rows.bucketPartsSpec) false w args)
      (Rows.bucketPartsSpec.post enc Tryd.prog Tryd.f4 false true false false) := by
  refine returnsInHanded_of_change_and (C := Tryd.checked) (X := fun w _ => laidMetH Tryd.prog laidU w) (fun _ _ _ hh h => h.of_heap hh) Tryd.own started (by kernel_rfl) Tryd.func4
    (ChangeSpec.witness_shaped (enc := enc) (C := Tryd.checked) (os := os) (X := fun w _ => laidMetH Tryd.prog laidU w) false (World.laidAll Tryd.prog os laidU) #[.string .empty, .agg #[.int .i64 0, .int .i64 0]] 8 (World.laidAll_os _ _ _) (World.shaped_of_ZipB (by kernel_rfl) (by kernel_rfl)) (by kernel_rfl) (by kernel_rfl) (by kernel_rfl) (by rw [MakeChecks.laidMetH_plain _ _ _ (by kernel_rfl)]; exact laidMet_laidAll _ (by kernel_rfl) (by kernel_rfl))) ?_
  intro W base args ds gs before hval0 hW _ _ hL _
  have hval : ∀ (j : Nat) t v, Tryd.f4.params[j]? = some t → args[j]? = some v → Value.okWide Tryd.prog W .any base t v := hval0
  have hW' := hW
  obtain ⟨p, q, hA0, hV, rfl, hfz, hnd⟩ := hW
  have hA : DataW.TrodAll enc Tryd.prog W 0 (fun _ => true) true Tryd.f4.params.toList args.toList ds p := hA0
  rw [Tryd.params4] at hA hval
  obtain ⟨v0, vs0, d0, ds0, p0, q0, hargs, rfl, rfl, h0, r0⟩ := trodAll_cons hA
  obtain ⟨v1, vs1, d1, ds1, p1, q1, rfl, rfl, rfl, h1, r1⟩ := trodAll_cons r0
  obtain ⟨rfl, rfl, rfl⟩ := trodAll_nil r1
  obtain rfl : args = #[v0, v1] := by cases args; simp_all
  obtain ⟨a, rfl, rfl, rfl, wa⟩ := open_string Tryd.underlying9 (hval 0 9 v0 rfl rfl) h0
  unfold maxLen at wa
  obtain ⟨ta, tb, rfl, ⟨wat0, wat1⟩, wbt0, wbt1⟩ := open_pair (by kernel_rfl) (by kernel_rfl) Tryd.underlying34 Tryd.underlying3 (hval 1 34 v1 rfl rfl) h1
  refine (walk_any a ta tb W).mono fun e W' ⟨he, hk⟩ => ?_
  subst he
  exact ⟨_, rfl, law_end Tryd.laidOut (by kernel_rfl) rfl rfl Tryd.underlying4 hW' rfl hk⟩

theorem row_holds : Rows.BucketPartsSaid :=
  OpenClaim.holds_of_wide 4 Tryd.f4 rfl rfl rfl rfl rfl rfl rfl ⟨rfl, rfl, rfl, rfl, rfl⟩ rfl rfl rfl rfl rfl (by kernel_rfl) Tryd.func4 (by kernel_rfl)
    (of_decide_eq_true (by kernel_rfl)) (by unfold Func.isWrapper; first | (rw [if_pos (by decide +kernel)]; kernel_rfl) | (rw [if_neg (by decide +kernel)]; exact ⟨rfl, rfl⟩))
    (fun os started H enc _ => lifted os started H enc)
theorem proved : Rows.BucketPartsCardSaid :=
  Claim7.holds_tied_plain_at .later [] [.data, .pinned] true (true, "e4129f4e5938461e8878458e06df438afec1d99629e799e21c52c19d7c204c58") true
    row_holds (fun _ h => by cases h) (by kernel_rfl) (fun _ h => by cases h) bucketParts_row_tie rfl ⟨rfl, rfl⟩ (by kernel_rfl) rfl
    (fun f fn hf hfn => by
      obtain rfl : f = 4 := Option.some.inj ((show Tryd.prog.funcNamed "lighter/lighterlaw05.BucketParts" = some 4 by kernel_rfl).symm.trans hf) |>.symm
      obtain rfl : fn = Tryd.f4 := (Option.some.inj (Tryd.func4.symm.trans hfn)).symm
      exact ⟨by kernel_rfl, fun j t ht => by
        rw [Tryd.params4] at ht
        have hm : t ∈ [9, 34] := by simpa using Array.mem_of_getElem? ht
        have hall : ([9, 34].all fun u => !Tryd.prog.wantsStandIn u) = true := by kernel_rfl
        exact (show Tryd.prog.wantsStandIn t = false by simpa using List.all_eq_true.1 hall t hm)⟩)
    (by kernel_rfl)
end Go.Proofs.YtflgagglkkehiaaDoor.lawBucketParts
