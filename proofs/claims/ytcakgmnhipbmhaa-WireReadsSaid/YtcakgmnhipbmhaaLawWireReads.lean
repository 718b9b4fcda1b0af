/- What is read of any bytes, call by call, where the reader stands, and what is wrong: WireReads answers true at all inputs. -/
import Derived.Test.YtcakgmnhipbmhaaWireRef6
import Derived.Test.YtcakgmnhipbmhaaWireRop
import Derived.Test.YtcakgmnhipbmhaaWireBk
import Derived.Deep.RegionHeld3
namespace Go.Proofs.Ytcakgmnhipbmhaa.lawWireReads
open Go.ChangeShapes Go.WideShapes Go.ChangeAt Go.RowKit
open Go.ChangeMaps (open_string)

set_option maxHeartbeats 4000000 in
set_option maxRecDepth 100000 in
theorem walk (s : ByteArray) (l : List OpR) (v : Value) (G : List Nat) (w : World) (hs : s.size ≤ 500) (hg : ∀ o, o ∈ l → o.good) (h : OpsAt w v l G) (hG : ∀ k, k ∈ G → k < w.heap.size) (hf : fewB l = true) :
    Calls Try.prog 6 #[.string s, v] w fun e w' => e = .returned (.bool true) ∧ Keeps [] w w' := by
  have hf2 := hf
  unfold fewB at hf2
  simp only [Bool.and_eq_true, List.all_eq_true, decide_eq_true_eq] at hf2
  obtain ⟨hsz, hlen⟩ := hf2
  have Hg := Lib.hid hg
  have Hh := Lib.hid h
  have HG := Lib.hid hG
  have Hf := Lib.hid (few_any l w v G h (by omega))
  rw [hf] at Hf
  have hs5 : (s.size : Int) ≤ 500 := by omega
  have hsd := dlen s
  obtain ⟨ad, cap, rfl, h2⟩ := h
  clear hg hsz hG hf
  go_enter Try.func6, Try.ntmps6
  go_wp2_with (first | (go_at_call 20; (with_reducible refine Hf.out.mono ?_); rintro e w1 ⟨rfl, rfl⟩) | (go_at_call 14; (with_reducible refine (read_any s _).mono ?_); rintro e w3 ⟨rfl, hi3, hk3⟩))
  obtain ⟨wo, rfl⟩ : ∃ wo : World, wo = w := ⟨_, rfl⟩
  go_loopw [6, 7, 8] (fun av ev iv wr => ∃ (k at' : Nat) (er : Int), k ≤ l.length ∧ iv = .int .i64 k ∧ av = .int .i64 at' ∧ ev = .int .i64 er ∧ at' ≤ s.size ∧ InAt wr wo.heap.size s at' er ∧ Keeps [] wo wr) (fun _ _ iv _ => l.length - (intOf iv).toNat)
  case atStart => exact ⟨0, 0, 0, Nat.zero_le _, rfl, rfl, rfl, Nat.zero_le _, hi3, hk3⟩
  case round =>
    obtain ⟨k, at', er, hk, rfl, rfl, rfl, hat, hi, hkk⟩ := hrel
    have hge2 := hi.lt
    by_cases hlt : k < l.length
    · obtain ⟨o, ho⟩ : ∃ o, l[k]? = some o := ⟨l[k], by simp [hlt]⟩
      have h0 : l ≠ [] := by intro h; subst h; simp at hlt
      obtain ⟨b, off, had, _, _⟩ := h2 h0
      subst had
      have hcell := fun w' (hk : Keeps [] wo w') => (Hh.out.keep hk (by simp)).cells _ _ _ _ ho rfl
      obtain ⟨c0, c1, c2, c3⟩ := hcell wr hkk
      have Hcell := Lib.hid hcell
      have hgo := Hg.out o (List.mem_of_getElem? ho)
      have hro := read_op wo.heap.size s at' er wr hi hat (by omega) o hgo
      have hin := rop_in s.data.toList at' er o (by omega)
      have Hgo := Lib.hid hgo
      clear hcell ho hgo h2 h0
      have hin2 : ∀ w' (q : Nat) (e : Int), InAt w' wo.heap.size s q e → ∀ n, InAt (w'.drewN n) wo.heap.size s q e := fun w' q e h n => h.keep ((Keeps.refl [] _).drewN n) (by simp)
      have Hin2 := Lib.hid hin2
      clear hin2
      by_cases he : er = 0
      · subst he
        have hso := rop_shift s.data.toList at' o
        have hsub : (s.extract at' s.size).data.toList = s.data.toList.drop at' := by
          rw [str_extract, str_data, List.take_of_length_le (by rw [List.length_drop, hsd]; omega)]
        generalize rop s.data.toList at' 0 o = R at *
        obtain ⟨R2, hR2⟩ : ∃ R2, R2 = rop (s.data.toList.drop at') 0 0 o := ⟨_, rfl⟩
        rw [← hR2] at hso
        obtain ⟨x, t, p, e⟩ := R
        obtain ⟨x2, t2, p2, e2⟩ := R2
        simp only [Prod.mk.injEq] at hso
        obtain ⟨rfl, rfl, rfl, rfl⟩ := hso
        dsimp only at *
        have Hro := Lib.hid hro
        clear hro
        have has := fun w hg hs => asked_any (s.extract at' s.size) o w hg hs
        rw [hsub, ← hR2] at has
        dsimp only at has
        clear hR2
        have hes : (s.extract at' s.size).size ≤ 140737488351232 := by rw [ByteArray.size_extract]; omega
        clear hsub
        have hin9 : at' + p2 ≤ s.size := by omega
        have hwa : IntKind.i64.wrap ((at' : Int) + (p2 : Int)) = ((at' + p2 : Nat) : Int) := by rw [IntWalk.i64_in _ ⟨by omega, by omega⟩]; omega
        generalize hAq : at' + p2 = A at *
        have hws : IntKind.i64.wrap ((s.size : Int) - (A : Int)) = ((s.size - A : Nat) : Int) := by rw [IntWalk.i64_in _ ⟨by omega, by omega⟩]; omega
        clear hAq hin
        go_wp2_with (go_at_call 24; (with_reducible refine Hro.out.mono ?_); rintro e w1 ⟨rfl, hi1, hk1⟩)
        have hk2 : Keeps [] wo w1 := hkk.trans hk1 (fun x hx => .inr (by rw [List.mem_singleton] at hx; omega))
        have Hc1 := Lib.hid (Hcell.out w1 hk2)
        go_region_held3 (fun w' => w'.cell? ⟨b, off + k * 4, none⟩ = some (.int .i64 o.kind) ∧ w'.cell? ⟨b, off + k * 4 + 1, none⟩ = some (.int .u64 o.x) ∧ w'.cell? ⟨b, off + k * 4 + 2, none⟩ = some (.string o.s) ∧ w'.cell? ⟨b, off + k * 4 + 3, none⟩ = some (.int .i64 o.n)) (first | exact Hc1.out | exact d1) (first | (go_at_call 25; refine (has _ Hgo.out hes).mono ?_; rintro e w4 ⟨rfl, hk4⟩; have d1 := Hcell.out _ (hk2.trans hk4.ofDrew (by simp))))
        have hi4 := hi1.keep hk4.ofDrew (by simp)
        have hk5 := hk2.trans hk4.ofDrew (by simp)
        clear hi1 hk1 hk2 hk4 Hc1 d1
        go_wp2_with (first | (go_at_call 16; (with_reducible refine (inErr_any _ _ _ _ _ (Hin2.out _ _ _ hi4 _)).mono ?_); rintro e w5 ⟨rfl, rfl⟩) | (go_at_call 17; (with_reducible refine (inAt_any _ _ _ _ _ hi4).mono ?_); rintro e w5 ⟨rfl, rfl⟩) | (go_at_call 26; (with_reducible refine (inLeft_any _ _ _ _ _ hi4 hin9 (by omega)).mono ?_); rintro e w5 ⟨rfl, n5, rfl⟩))
        go_roundw
        case rel => exact ⟨k + 1, A, _, by omega, by go_num, rfl, rfl, hin9, Hin2.out _ _ _ hi4 _, hk5.drewN _⟩
        case measure => simp [intOf]; omega
      · have hso := rop_dead s.data.toList at' er o he
        rw [hso] at hro
        dsimp only at *
        have Hro := Lib.hid hro
        clear hro hin hso
        have hne : (er == 0) = false := by simpa using he
        have hws : IntKind.i64.wrap ((s.size : Int) - (at' : Int)) = ((s.size - at' : Nat) : Int) := by rw [IntWalk.i64_in _ ⟨by omega, by omega⟩]; omega
        go_wp2_with (first | (go_at_call 24; (with_reducible refine Hro.out.mono ?_); rintro e w1 ⟨rfl, hi1, hk1⟩) | (go_at_call 16; (with_reducible refine (inErr_any _ _ _ _ _ (Hin2.out _ _ _ hi1 _)).mono ?_); rintro e w5 ⟨rfl, rfl⟩) | (go_at_call 17; (with_reducible refine (inAt_any _ _ _ _ _ hi1).mono ?_); rintro e w5 ⟨rfl, rfl⟩) | (go_at_call 26; (with_reducible refine (inLeft_any _ _ _ _ _ hi1 hat (by omega)).mono ?_); rintro e w5 ⟨rfl, n5, rfl⟩))
        have hk2 : Keeps [] wo w1 := hkk.trans hk1 (fun x hx => .inr (by rw [List.mem_singleton] at hx; omega))
        go_roundw
        case rel => exact ⟨k + 1, at', er, by omega, by go_num, rfl, rfl, hat, Hin2.out _ _ _ hi1 _, hk2.drewN _⟩
        case measure => simp [intOf]; omega
    · have hd := inDone_any wo.heap.size s at' er wr hi hat (by omega)
      by_cases he : er = 0
      · subst he
        by_cases hal : at' < s.size
        · have hdn : rdone s.data.toList at' 0 = 11 := by unfold rdone; rw [if_neg (by simp), if_pos (by rw [hsd]; exact hal)]
          rw [hdn] at hd
          have Hd := Lib.hid hd
          clear hdn hd
          go_wp2_with (first | (go_at_call 27; (with_reducible refine Hd.out.mono ?_); rintro e w5 ⟨rfl, n5, rfl⟩) | (go_at_call 10; (with_reducible refine (awake_any _).mono ?_); rintro e w6 ⟨rfl, hk6⟩))
          go_ret
          exact ⟨rfl, (hkk.drewN _).trans hk6 (by simp)⟩
        · have hdn : rdone s.data.toList at' 0 = 0 := by unfold rdone; rw [if_neg (by simp), if_neg (by rw [hsd]; exact hal)]
          rw [hdn] at hd
          have Hd := Lib.hid hd
          clear hdn hd
          go_wp2_with (first | (go_at_call 27; (with_reducible refine Hd.out.mono ?_); rintro e w5 ⟨rfl, n5, rfl⟩) | (go_at_call 10; (with_reducible refine (awake_any _).mono ?_); rintro e w6 ⟨rfl, hk6⟩))
          go_ret
          exact ⟨rfl, (hkk.drewN _).trans hk6 (by simp)⟩
      · have hdn : rdone s.data.toList at' er = er := by unfold rdone; rw [if_pos he]
        rw [hdn] at hd
        have Hd := Lib.hid hd
        have hne : (er == 0) = false := by simpa using he
        clear hdn hd
        go_wp2_with (first | (go_at_call 27; (with_reducible refine Hd.out.mono ?_); rintro e w5 ⟨rfl, n5, rfl⟩) | (go_at_call 10; (with_reducible refine (awake_any _).mono ?_); rintro e w6 ⟨rfl, hk6⟩))
        go_ret
        exact ⟨rfl, (hkk.drewN _).trans hk6 (by simp)⟩

theorem walk_any (s : ByteArray) (l : List OpR) (v : Value) (G : List Nat) (w : World) (hg : ∀ o, o ∈ l → o.good) (h : OpsAt w v l G) (hG : ∀ k, k ∈ G → k < w.heap.size) (hl : l.length ≤ 9223372036854775807) :
    Calls Try.prog 6 #[.string s, v] w fun e w' => e = .returned (.bool true) ∧ Keeps [] w w' := by
  by_cases hs : s.size ≤ 500
  · cases hf : fewB l
    · have Hf := Lib.hid (few_any l w v G h hl)
      rw [hf] at Hf
      have hs5 : (s.size : Int) ≤ 500 := by omega
      clear h hf
      go_enter Try.func6, Try.ntmps6
      go_wp2_with (first | (go_at_call 20; (with_reducible refine Hf.out.mono ?_); rintro e w5 ⟨rfl, rfl⟩) | (go_at_call 10; (with_reducible refine (awake_any _).mono ?_); rintro e w6 ⟨rfl, hk6⟩))
      go_ret
      exact ⟨rfl, hk6⟩
    · exact walk s l v G w hs hg h hG hf
  · have hs5 : (500 : Int) < (s.size : Int) := by omega
    clear h
    go_enter Try.func6, Try.ntmps6
    go_wp2_with (go_at_call 10; (with_reducible refine (awake_any _).mono ?_); rintro e w6 ⟨rfl, hk6⟩)
    go_ret
    exact ⟨rfl, hk6⟩
-- ROWEND
set_option maxRecDepth 100000 in
theorem lifted (os : Os) (started : os.Started) (H : Type) (enc : TypeId × Value → H) :
    ReturnsInHanded {} Try.checked os 6 .any (Rows.wireReadsSpec.pre6 enc Try.prog Try.f6 Rows.wireReadsRow.domain false) (Rows.wireReadsSpec.post enc Try.prog Try.f6 false true false false) := by
  refine returnsInHanded_of_change (C := Try.checked) Try.own started (by kernel_rfl) Try.func6
    (ChangeSpec.witness6 (enc := enc) (C := Try.checked) false ⟨#[], #[.string .empty, .slice none 0 0], []⟩ 8 (by kernel_rfl) (by kernel_rfl) (by kernel_rfl) (by kernel_rfl)) ?_
  intro W base args ds gs before hval0 hW _ _
  have hval : ∀ (j : Nat) t v, Try.f6.params[j]? = some t → args[j]? = some v → Value.okWide Try.prog W .any base t v := hval0
  have hW' := hW
  obtain ⟨p, q, hA0, hV, rfl, hfz, hnd⟩ := hW
  have hA : DataW.TrodAll enc Try.prog W 0 (fun _ => true) true Try.f6.params.toList args.toList ds p := hA0
  rw [Try.params6] at hA hval
  obtain ⟨v0, vs0, d0, ds0, p0, q0, hargs, rfl, rfl, h0, r0⟩ := trodAll_cons hA
  obtain ⟨v1, vs1, d1, ds1, p1, q1, rfl, rfl, rfl, h1, r1⟩ := trodAll_cons r0
  obtain ⟨rfl, rfl, rfl⟩ := trodAll_nil r1
  obtain rfl : args = #[v0, v1] := by cases args; simp_all
  obtain ⟨s, rfl, rfl, rfl, ws⟩ := open_string Try.underlying9 (hval 0 9 v0 rfl rfl) h0
  unfold maxLen at ws
  obtain ⟨l, Gl, hl, gl, bl, ll⟩ := open_rows OpR.vals OpR.good 4 (by kernel_rfl) (by decide) Try.underlying41 (hval 1 41 v1 rfl rfl) (fun _ _ _ h => elem_op h) h1
  refine (walk_any s l v1 Gl W gl hl bl ll).mono fun e W' ⟨he, hk⟩ => ?_
  subst he
  exact ⟨_, rfl, law_end Try.laidOut (by kernel_rfl) rfl rfl Try.underlying4 hW' rfl hk⟩

theorem proved : Rows.WireReadsSaid :=
  OpenClaim.holds_of_wide 6 Try.f6 rfl rfl rfl rfl rfl rfl rfl ⟨rfl, rfl, rfl, rfl, rfl⟩ rfl rfl rfl rfl rfl (by kernel_rfl) Try.func6 (by kernel_rfl)
    (of_decide_eq_true (by kernel_rfl)) (by unfold Func.isWrapper; first | (rw [if_pos (by decide +kernel)]; kernel_rfl) | (rw [if_neg (by decide +kernel)]; exact ⟨rfl, rfl⟩))
    (fun os started H enc _ => lifted os started H enc)
end Go.Proofs.Ytcakgmnhipbmhaa.lawWireReads
