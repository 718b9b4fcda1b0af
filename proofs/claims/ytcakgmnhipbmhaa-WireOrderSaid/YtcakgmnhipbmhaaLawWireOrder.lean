/- Each number has one form, and of two numbers the greater one's bytes are the greater ones: WireOrder answers true at all inputs; without conditions. -/
import Derived.Test.YtcakgmnhipbmhaaWireI
import Derived.Test.YtcakgmnhipbmhaaWireOrd
import Derived.Test.YtcakgmnhipbmhaaLaw
namespace Go.Proofs.Ytcakgmnhipbmhaa.lawWireOrder
open Go.ChangeShapes Go.WideShapes Go.ChangeAt Go.RowKit
open Go.ChangeMaps (open_string shut_string)

set_option maxHeartbeats 1600000 in
theorem walk (a b : Nat) (s : ByteArray) (w : World) (ha : a < 18446744073709551616) (hb : b < 18446744073709551616) (hs : s.size ≤ 40) :
    Calls Try.prog 3 #[.int .u64 a, .int .u64 b, .string s] w fun e w' => e = .returned (.bool true) ∧ Keeps [] w w' := by
  have Ho := Lib.hid (vby_order (a := a) (b := b) ha hb)
  have Hi := Lib.hid (vby_inj (a := a) (b := b) ha hb)
  have hcases : ∃ t u v : Bool, Op.bytesLess (vby a) (vby b) = t ∧ decide (a < b) = t ∧ (vby a == vby b) = u ∧ ((a : Int) == (b : Int)) = u := by
    refine ⟨decide (a < b), decide (a = b), true, Ho.out, rfl, ?_, ?_⟩
    · by_cases h : a = b
      · subst h; simp
      · simp [h]; exact fun h2 => h (Hi.out h2)
    · by_cases h : a = b
      · subst h; simp
      · simp [h]; omega
  obtain ⟨t, u, _, h1, h2, h3, h4⟩ := hcases
  clear Ho Hi
  have Ha := Lib.hid ha
  have Hb := Lib.hid hb
  clear ha hb
  go_enter Try.func3, Try.ntmps3
  go_wp2_with (go_at_call 11; (with_reducible refine (outVar_any w.heap.size [w.heap.size] [] [a] _ (by simp) (by simpa using Ha.out) (((OutAt.new w).keep ((Keeps.refl [] _).alloc _) (by simp)).keep ((Keeps.refl [] _).alloc _) (by simp)) _ [w.heap.size + 1 + 1] (SlAt.lit' [u64v a] 22 (by simp) rfl) (one_apart (by omega)) (one_lt (by simp))).mono ?_); rintro e w1 ⟨rfl, F1, ho1, hch1⟩)
  simp only [List.nil_append, List.flatMap_cons, List.flatMap_nil, List.append_nil] at ho1
  have ho2 : OutAt w1 (w.heap.size + 1) [] [w.heap.size + 1] := ((OutAt.new' (w := w.alloc (.cells #[.slice none 0 0] 26)) (by simp)).keep ((Keeps.refl [] _).alloc _) (by simp)).keep hch1.keeps (one_apart (by omega))
  have hk1 : Keeps [] w w1 := (((Keeps.refl [] w).alloc _).alloc _).trans hch1.alloc.keeps (by simp)
  have hz1 : w.heap.size + 2 ≤ w1.heap.size := by have := hch1.keeps.size; simp at this; omega
  have ap1 : ∀ k, k ∈ F1 → k ∉ [w.heap.size + 1] := by
    intro k hk hk'
    have := hch1.fresh k hk
    simp at *
    omega
  have Ho1 := Lib.hid ho1
  have Ho2 := Lib.hid ho2
  have Ap1 := Lib.hid ap1
  clear ho1 ho2 hch1 ap1
  go_wp2_with (go_at_call 11; (with_reducible refine (outVar_any (w.heap.size + 1) [w.heap.size + 1] [] [b] _ (by simp) (by simpa using Hb.out) (Ho2.out.keep ((Keeps.refl [] _).alloc _) (by simp)) _ [w1.heap.size] (SlAt.lit' [u64v b] 22 rfl rfl) (one_apart (by omega)) (one_lt (by simp))).mono ?_); rintro e w2 ⟨rfl, F2, ho2, hch2⟩)
  simp only [List.nil_append, List.flatMap_cons, List.flatMap_nil, List.append_nil] at ho2
  have ho1 := Ho1.out.keep hch2.alloc.keeps Ap1.out
  have hk2 : Keeps [] w w2 := hk1.trans hch2.alloc.keeps (by intro x hx; rw [List.mem_singleton] at hx; omega)
  have Hs1 := Lib.hid (outString_any _ _ _ _ ho1)
  have Hs2 := Lib.hid (outString_any _ _ _ _ ho2)
  clear ho1 ho2 hch2 hk1
  have hsz : ((vby a).length : Int) = vsz a := by rw [vby_length]
  go_wp2_with (first | (go_at_call 12; (with_reducible refine Hs1.out.mono ?_); rintro e w3 ⟨rfl, rfl⟩) | (go_at_call 12; (with_reducible refine Hs2.out.mono ?_); rintro e w3 ⟨rfl, rfl⟩) | (go_at_call 13; (with_reducible refine (size_any a _ (by have := Ha.out; omega)).mono ?_); rintro e w3 ⟨rfl, rfl⟩) | (go_at_call 14; (with_reducible refine (read_any s _).mono ?_); rintro e w3 ⟨rfl, hi3, hk3⟩))
  have hs2 : s.size ≤ 140737488351232 := by omega
  have hv := inVar_any w2.heap.size s 0 0 w3 hi3 (by omega) hs2
  have hk3' : Keeps [] w w3 := hk2.trans hk3 (by simp)
  have hgood := rvar_good (l := s.data.toList) (p := 0)
  obtain ⟨hpos, _, hbad⟩ := rvar_facts s.data.toList 0 0 (by omega)
  have hin : w2.heap.size < w3.heap.size := hi3.lt
  have hge := hk2.size
  generalize rvar s.data.toList 0 0 = r at *
  obtain ⟨n, q, er⟩ := r
  dsimp only at *
  have Hv := Lib.hid hv
  have Hgood := Lib.hid hgood
  have Hbad := Lib.hid hbad
  clear hv hgood hbad hi3 Hs1 Hs2
  by_cases he : er = 0
  · subst he
    have h0 : ((0 : Int) != 0) = false := rfl
    obtain ⟨r, hr, hq, hn⟩ := Hgood.out rfl
    have hq' : q ≤ s.size := by simpa using hpos
    have hcmp : (vby n == (s.extract 0 q).toList) = true := by
      rw [Lib.toList_data, Lib.extract_data, hr, hq, ← vby_length]
      simp
    have Hr := Lib.hid hr
    have Hq := Lib.hid hq
    have Hn := Lib.hid hn
    clear hr hq hn Hgood Hbad hk2 hk3
    go_wp2_with (first | (go_at_call 15; (with_reducible refine Hv.out.mono ?_); rintro e w4 ⟨rfl, hi4, hk4⟩) | (go_at_call 16; (with_reducible refine (inErr_any _ _ _ _ _ hi4).mono ?_); rintro e w5 ⟨rfl, rfl⟩))
    have hk4' : Keeps [] w w4 := hk3'.trans hk4 (by intro x hx; rw [List.mem_singleton] at hx; omega)
    have hge4 := hi4.lt
    have Hi4 := Lib.hid hi4
    clear hi4 hk4 hk3' Hv
    go_wp2_with (go_at_call 11; (with_reducible refine (outVar_any w4.heap.size [w4.heap.size] [] [n] _ (by simp) (by simpa using Hn.out) ((OutAt.new _).keep ((Keeps.refl [] _).alloc _) (by simp)) _ [w4.heap.size + 1] (SlAt.lit' [u64v n] 22 (by simp) rfl) (one_apart (by omega)) (one_lt (by simp))).mono ?_); rintro e w5 ⟨rfl, F5, ho5, hch5⟩)
    simp only [List.nil_append, List.flatMap_cons, List.flatMap_nil, List.append_nil] at ho5
    have Ho5 := Lib.hid ho5
    have hi5 := (Hi4.out.keep ((Keeps.refl [] _).alloc _) (by simp)).keep hch5.alloc.keeps (by simp; omega)
    have Hi5 := Lib.hid hi5
    have hk5 : Keeps [] w w5 := hk4'.trans (((Keeps.refl [] _).alloc _).trans hch5.alloc.keeps (by simp)) (by simp)
    clear ho5 hi5 hch5
    go_wp2_with (first | (go_at_call 12; (with_reducible refine (outString_any _ _ _ _ Ho5.out).mono ?_); rintro e w6 ⟨rfl, rfl⟩) | (go_at_call 17; (with_reducible refine (inAt_any _ _ _ _ _ Hi5.out).mono ?_); rintro e w5 ⟨rfl, rfl⟩) | (go_at_call 10; (with_reducible refine (awake_any _).mono ?_); rintro e w6 ⟨rfl, hk6⟩))
    go_ret
    exact ⟨rfl, hk5.trans hk6 (by simp)⟩
  · have h0 : (er != 0) = true := by simpa using he
    obtain ⟨rfl, rfl⟩ := Hbad.out he
    clear Hgood Hbad hk2 hk3
    go_wp2_with (first | (go_at_call 15; (with_reducible refine Hv.out.mono ?_); rintro e w4 ⟨rfl, hi4, hk4⟩) | (go_at_call 16; (with_reducible refine (inErr_any _ _ _ _ _ hi4).mono ?_); rintro e w5 ⟨rfl, rfl⟩) | (go_at_call 17; (with_reducible refine (inAt_any _ _ _ _ _ hi4).mono ?_); rintro e w5 ⟨rfl, rfl⟩) | (go_at_call 10; (with_reducible refine (awake_any _).mono ?_); rintro e w5 ⟨rfl, hk5⟩))
    go_ret
    exact ⟨rfl, (hk3'.trans hk4 (by intro x hx; rw [List.mem_singleton] at hx; omega)).trans hk5 (by simp)⟩

theorem walk_any (a b : Nat) (s : ByteArray) (w : World) (ha : a < 18446744073709551616) (hb : b < 18446744073709551616) (hs : s.size ≤ 9223372036854775807) :
    Calls Try.prog 3 #[.int .u64 a, .int .u64 b, .string s] w fun e w' => e = .returned (.bool true) ∧ Keeps [] w w' := by
  by_cases h : s.size ≤ 40
  · exact walk a b s w ha hb h
  · have h' : (40 : Int) < (s.size : Int) := by omega
    go_enter Try.func3, Try.ntmps3
    go_wp2_with (go_at_call 10; (with_reducible refine (awake_any _).mono ?_); rintro e w6 ⟨rfl, hk6⟩)
    go_ret
    exact ⟨rfl, hk6⟩

set_option maxRecDepth 100000 in
theorem lifted (os : Os) (started : os.Started) (H : Type) (enc : TypeId × Value → H) :
    ReturnsInHanded {} Try.checked os 3 .any (Rows.wireOrderSpec.pre6 enc Try.prog Try.f3 Rows.wireOrderRow.domain false) (Rows.wireOrderSpec.post enc Try.prog Try.f3 false true false false) := by
  refine returnsInHanded_of_change (C := Try.checked) Try.own started (by kernel_rfl) Try.func3
    (ChangeSpec.witness6 (enc := enc) (C := Try.checked) false ⟨#[], #[.int .u64 0, .int .u64 0, .string .empty], []⟩ 8 (by kernel_rfl) (by kernel_rfl) (by kernel_rfl) (by kernel_rfl)) ?_
  intro W base args ds gs before hval0 hW _ _
  have hval : ∀ (j : Nat) t v, Try.f3.params[j]? = some t → args[j]? = some v → Value.okWide Try.prog W .any base t v := hval0
  have hW' := hW
  obtain ⟨p, q, hA0, hV, rfl, hfz, hnd⟩ := hW
  have hA : DataW.TrodAll enc Try.prog W 0 (fun _ => true) true Try.f3.params.toList args.toList ds p := hA0
  rw [Try.params3] at hA hval
  obtain ⟨v0, vs0, d0, ds0, p0, q0, hargs, rfl, rfl, h0, r0⟩ := trodAll_cons hA
  obtain ⟨v1, vs1, d1, ds1, p1, q1, rfl, rfl, rfl, h1, r1⟩ := trodAll_cons r0
  obtain ⟨v2, vs2, d2, ds2, p2, q2, rfl, rfl, rfl, h2, r2⟩ := trodAll_cons r1
  obtain ⟨rfl, rfl, rfl⟩ := trodAll_nil r2
  obtain rfl : args = #[v0, v1, v2] := by cases args; simp_all
  obtain ⟨a, rfl, rfl, rfl, wa⟩ := open_int Try.underlying22 (hval 0 22 v0 rfl rfl) h0
  obtain ⟨b, rfl, rfl, rfl, wb⟩ := open_int Try.underlying22 (hval 1 22 v1 rfl rfl) h1
  obtain ⟨s, rfl, rfl, rfl, hmax⟩ := open_string Try.underlying9 (hval 2 9 v2 rfl rfl) h2
  obtain ⟨a, rfl, wa'⟩ := wf_u64 wa
  obtain ⟨b, rfl, wb'⟩ := wf_u64 wb
  refine (walk_any a b s W wa' wb' (by unfold maxLen at hmax; omega)).mono fun e W' ⟨he, hk⟩ => ?_
  subst he
  exact ⟨_, rfl, law_end Try.laidOut (by kernel_rfl) rfl rfl Try.underlying4 hW' rfl hk⟩

theorem proved : Rows.WireOrderSaid :=
  OpenClaim.holds_of_wide 3 Try.f3 rfl rfl rfl rfl rfl rfl rfl ⟨rfl, rfl, rfl, rfl, rfl⟩ rfl rfl rfl rfl rfl (by kernel_rfl) Try.func3 (by kernel_rfl)
    (of_decide_eq_true (by kernel_rfl)) (by unfold Func.isWrapper; first | (rw [if_pos (by decide +kernel)]; kernel_rfl) | (rw [if_neg (by decide +kernel)]; exact ⟨rfl, rfl⟩))
    (fun os started H enc _ => lifted os started H enc)

end Go.Proofs.Ytcakgmnhipbmhaa.lawWireOrder
