/- Layer 4, the reference: Crash. -/
import Derived.Test.YtddehagceenbnaaSsdRefE
namespace Go.Proofs.Ytddehagceenbnaa
open Go.RowKit

set_option maxHeartbeats 8000000 in
set_option maxRecDepth 100000 in
theorem refCrash_any (b : Nat) (d : Dev) (vL vP : Value) (w : World) (h : RefIs w b d vL vP) (hok : d.ok) (hp : d.pend.length ≤ 1000000000) (kv : Value) (keep : List Int) (G : List Nat) (hkv : SlAt w kv (keep.map (Value.int .i64)) G)
    (hG : ∀ k, k ∈ G → k < w.heap.size) (hGF : ∀ k, k ∈ G → k ∉ refF b vL vP) :
    Calls Try.prog 35 #[.pointer (some ⟨b, 0, none⟩), kv] w fun e w' =>
      e = .returned (.tuple #[]) ∧ ∃ vP', RefIs w' b (d.crash keep) vL vP' ∧ Chg (refF b vL vP) (refF b vL vP') w w' := by
  obtain ⟨aL, cL, hvL⟩ := ownsRow_shape h.last
  subst hvL
  obtain ⟨aP, cP, hvP⟩ := ownsRow_shape h.pend
  subst hvP
  obtain ⟨ka, kc, rfl, hkc⟩ := hkv
  rw [List.length_map]
  have c3 := cell_of_heap h.hb 3
  have f3 := free_of_heap h.hb 3
  have hk0 : Keeps [b] w (w.setCell ⟨b, 3, none⟩ (.bool false)) := (Keeps.refl [b] w).setCell (p := ⟨b, 3, none⟩) (by simp) _
  have h0 : RefIs (w.setCell ⟨b, 3, none⟩ (.bool false)) b { d with stops := false } (.slice aL d.last.length cL) (.slice aP d.pend.length cP) :=
    ⟨heap_setCell h.hb 3 _, own_keep h.last hk0 (one_not (own_ne h.hb h.last (by decide))), own_keep h.pend hk0 (one_not (own_ne h.hb h.pend (by decide)))⟩
  have H0 := Lib.hid h0
  have Hch0 := Lib.hid (refF_chg (vL := .slice aL d.last.length cL) (vP := .slice aP d.pend.length cP) hk0)
  have Hok := Lib.hid hok
  have HG := Lib.hid hG
  have HGF := Lib.hid hGF
  have Hkc := Lib.hid hkc
  have HvF : Hid (∀ x, x ∈ (Value.slice aL d.last.length cL).ownBlock.toList → x ∈ refF b (.slice aL d.last.length cL) (.slice aP d.pend.length cP)) := fun x hx => by simp [refF, hx]
  clear h hok hG hGF hkc hk0 h0
  go_enter Try.func35, Try.ntmps35
  go_wp2
  clear c3 f3
  go_loopw [4] (fun iv wr => ∃ k : Nat, k ≤ d.pend.length ∧ iv = .int .i64 k ∧ RefIs wr b { d with stops := false, last := ((d.pend.zip keep).take k).foldl fall1 d.last } (.slice aL d.last.length cL) (.slice aP d.pend.length cP) ∧ Chg (refF b (.slice aL d.last.length cL) (.slice aP d.pend.length cP)) (refF b (.slice aL d.last.length cL) (.slice aP d.pend.length cP)) w wr) (fun iv _ => d.pend.length - (intOf iv).toNat)
  case atStart => exact ⟨0, Nat.zero_le _, rfl, by simpa using H0.out, Hch0.out⟩
  case round =>
    obtain ⟨k, hk, rfl, hd2, hch⟩ := hrel
    by_cases hlt : k < d.pend.length
    · obtain ⟨p, hpk⟩ : ∃ p, d.pend[k]? = some p := ⟨d.pend[k]'hlt, by simp [hlt]⟩
      obtain ⟨hp1, hp2⟩ := Hok.out.p64 p (List.mem_of_getElem? hpk)
      have hsos := fall_ok ((d.pend.zip keep).take k) d.last _ rfl Hok.out.l64 (fun q hq => Hok.out.p64 q.1 (List.of_mem_zip (List.mem_of_mem_take hq)).1)
      have hso := hsos.1
      obtain ⟨gP, cP', hvP, q0, q1⟩ := hd2.put hpk
      injection hvP with hv1 _ hv2
      subst hv1 hv2
      obtain ⟨x, hx⟩ : ∃ x, (((d.pend.zip keep).take k).foldl fall1 d.last)[p.1]? = some x := ⟨_, List.getElem?_eq_getElem (by rw [hso]; exact hp1)⟩
      have hx64 := hsos.2 x (List.mem_of_getElem? hx)
      obtain ⟨gL, cL', hvL, s0, f0, _⟩ := hd2.sec hx
      dsimp only at hvL
      rw [hso] at hvL
      injection hvL with hv1 _ hv2
      subst hv1 hv2
      have hsec := fun w' t (hw : RefIs w' b { d with stops := false, last := ((d.pend.zip keep).take k).foldl fall1 d.last } (.slice (some ⟨gL, 0, none⟩) d.last.length cL) (.slice (some ⟨gP, 0, none⟩) d.pend.length cP)) => hw.setSec hx (g := gL) (cap := cL) (by rw [← hso]) t
      have c0 := cell_of_heap hd2.hb 0
      have c1 := cell_of_heap hd2.hb 1
      have Hsec := Lib.hid hsec
      have Hd2 := Lib.hid hd2
      have hki : (k : Int) < (d.pend.length : Int) := by omega
      have hki0 : (0 : Int) ≤ (k : Int) := by omega
      have hpi : (p.1 : Int) < (d.last.length : Int) := by omega
      have hpi0 : (0 : Int) ≤ (p.1 : Int) := by omega
      have knew : Keeps [] wr (wr.alloc (.cells #[.int .i64 p.1, .string (str p.2)] 75)) := (Keeps.refl [] wr).alloc _
      have nnew := heap_alloc_self wr (.cells #[.int .i64 p.1, .string (str p.2)] 75)
      have Kn := Lib.hid knew
      have e0' := knew.cell0 c0
      have s0' := knew.cell0 s0
      have f0' : (wr.alloc (.cells #[.int .i64 p.1, .string (str p.2)] 75)).frozen? ⟨gL, p.1, none⟩ = false := by
        obtain ⟨_, _, hvL2, _, f0'', _⟩ := (Hd2.out.kept knew).sec hx
        dsimp only at hvL2
        rw [hso] at hvL2
        injection hvL2 with hv1 _ _
        simp only [Option.some.injEq, Addr.mk.injEq, and_true] at hv1
        rw [hv1]; exact f0''
      have n0 := cell_of_heap nnew 0
      have n1 := cell_of_heap nnew 1
      have Hpk := Lib.hid hpk
      have Hx := Lib.hid hx
      have Hx64 := Lib.hid hx64
      have Hp2 := Lib.hid hp2
      clear hsec hd2 hpk hso hsos hx hx64 hp2 knew nnew
      by_cases hkp : k < keep.length
      · obtain ⟨h, hkh⟩ : ∃ h, keep[k]? = some h := ⟨keep[k]'hkp, by simp [hkp]⟩
        obtain ⟨kb, off, hka, hkb, hkcell⟩ := Hkc.out (by intro h0; rw [List.map_eq_nil_iff] at h0; rw [h0] at hkp; simp at hkp)
        subst hka
        have ck := hch.keeps.cell (p := ⟨kb, off + k, none⟩) (HG.out kb hkb) (HGF.out kb hkb)
        rw [hkcell k (.int .i64 h) (by rw [List.getElem?_map, hkh]; rfl)] at ck
        have hkp1 : (k : Int) < (keep.length : Int) := by omega
        obtain ⟨m0, m1⟩ := fmode_bd h
        have hbnd : 0 ≤ h.tmod 3 + 3 ∧ h.tmod 3 + 3 ≤ 5 := by omega
        have hnx : ((d.pend.zip keep).take (k + 1)).foldl fall1 d.last = (((d.pend.zip keep).take k).foldl fall1 d.last).set p.1 (fell h p.2 x) := by
          have e : (d.pend.zip keep)[k]? = some (p, h) := by rw [List.getElem?_zip_eq_some]; exact ⟨Hpk.out, hkh⟩
          rw [List.take_add_one, e, Option.toList_some, List.foldl_append, List.foldl_cons, List.foldl_nil]
          show List.set _ _ (fell _ _ (List.getD _ _ _)) = _
          rw [List.getD_eq_getElem?_getD, Hx.out]
          rfl
        have Hnx := Lib.hid hnx
        have Hkcell := Lib.hid hkcell
        have Hkh := Lib.hid hkh
        clear hnx hkcell hkh
        by_cases h1 : fmode h = 1
        · have hf : fell h p.2 x = p.2 := by unfold fell; rw [if_pos h1]
          have e1 : ((h.tmod 3 + 3) % 3 == 1) = true := by unfold fmode at h1; simpa using h1
          have e2 : ((h.tmod 3 + 3) % 3 == 2) = false := by unfold fmode at h1; simp; omega
          have Hf := Lib.hid hf
          clear hf h1
          go_wp2
          refine region_tail 9 (by kernel_rfl) (by kernel_rfl) ?_
          simp only [List.take_succ_cons, List.take_zero, List.drop_succ_cons, List.drop_zero]
          iterate 9 still_step
          refine wpStill_nil ?_
          go_wp2
          go_roundw
          case rel =>
            have h3 := Hsec.out _ p.2 ((Hd2.out.kept Kn.out).kept ((Keeps.refl [] _).drewN 1))
            exact ⟨k + 1, by omega, by go_num, by rw [Hnx.out, Hf.out]; exact h3.1, hch.trans (F1 := _) ⟨(Kn.out.mono (by simp)).trans ((h3.2.mono HvF.out).ofDrewN) (fun _ h => .inl h), fun _ h => .inl h⟩⟩
          case measure => simp [intOf]; omega
        · by_cases h2 : fmode h = 2
          · have hf : fell h p.2 x = p.2.take 32 ++ x.drop 32 := by unfold fell; rw [if_neg h1, if_pos h2]
            have e1 : ((h.tmod 3 + 3) % 3 == 1) = false := by unfold fmode at h1; simpa using h1
            have e2 : ((h.tmod 3 + 3) % 3 == 2) = true := by unfold fmode at h2; simpa using h2
            have y1 : (str p.2).extract 0 32 = str (p.2.take 32) := by rw [str_extract, str_data, List.drop_zero, Nat.sub_zero]
            have y2 : (str x).extract 32 64 = str (x.drop 32) := by rw [str_extract, str_data, List.take_of_length_le (by rw [List.length_drop, Hx64.out]; omega)]
            have z1 : p.2.length = 64 := Hp2.out
            have z2 : x.length = 64 := Hx64.out
            have Hf := Lib.hid hf
            clear hf h1 h2
            go_wp2
            refine region_tail 20 (by kernel_rfl) (by kernel_rfl) ?_
            simp only [List.take_succ_cons, List.take_zero, List.drop_succ_cons, List.drop_zero]
            iterate 20 still_step
            refine wpStill_nil ?_
            go_wp2
            go_roundw
            case rel =>
              have h3 := Hsec.out _ (p.2.take 32 ++ x.drop 32) ((Hd2.out.kept Kn.out).kept ((Keeps.refl [] _).drewN 1))
              exact ⟨k + 1, by omega, by go_num, by rw [Hnx.out, Hf.out]; exact h3.1, hch.trans (F1 := _) ⟨(Kn.out.mono (by simp)).trans ((h3.2.mono HvF.out).ofDrewN) (fun _ h => .inl h), fun _ h => .inl h⟩⟩
            case measure => simp [intOf]; omega
          · have hf : fell h p.2 x = x := by unfold fell; rw [if_neg h1, if_neg h2]
            have e1 : ((h.tmod 3 + 3) % 3 == 1) = false := by unfold fmode at h1; simpa using h1
            have e2 : ((h.tmod 3 + 3) % 3 == 2) = false := by unfold fmode at h2; simpa using h2
            have hset : (((d.pend.zip keep).take k).foldl fall1 d.last).set p.1 x = ((d.pend.zip keep).take k).foldl fall1 d.last := by
              apply List.ext_getElem?
              intro i
              rw [List.getElem?_set]
              split
              · rename_i hi
                subst hi
                rw [if_pos (List.getElem?_eq_some_iff.1 Hx.out).1]
                exact Hx.out.symm
              · rfl
            have Hf := Lib.hid hf
            have Hset := Lib.hid hset
            clear hf h1 h2 hset
            go_wp2
            go_roundw
            case rel => exact ⟨k + 1, by omega, by go_num, by rw [Hnx.out, Hf.out, Hset.out]; exact Hd2.out.kept Kn.out, hch.trans (F1 := _) ⟨Kn.out.mono (by simp), fun _ h => .inl h⟩⟩
            case measure => simp [intOf]; omega
      · have hkp1 : (keep.length : Int) ≤ (k : Int) := by omega
        have hnx : (d.pend.zip keep).take (k + 1) = (d.pend.zip keep).take k := by
          rw [List.take_of_length_le (by rw [List.length_zip]; omega), List.take_of_length_le (by rw [List.length_zip]; omega)]
        have Hnx := Lib.hid hnx
        clear hnx
        go_wp2
        go_roundw
        case rel => exact ⟨k + 1, by omega, by go_num, by rw [Hnx.out]; exact Hd2.out.kept Kn.out, hch.trans (F1 := _) ⟨Kn.out.mono (by simp), fun _ h => .inl h⟩⟩
        case measure => simp [intOf]; omega
    · obtain rfl : k = d.pend.length := by omega
      have hz : (d.pend.zip keep).take d.pend.length = d.pend.zip keep := List.take_of_length_le (by rw [List.length_zip]; omega)
      rw [hz] at hd2
      have c1 := cell_of_heap hd2.hb 1
      have f1 := free_of_heap hd2.hb 1
      have Hp := Lib.hid hd2.putPend
      clear hd2 hz
      go_wp2
      go_end0
      exact ⟨rfl, _, Hp.out.1.like ⟨rfl, rfl, rfl, rfl, rfl⟩, hch.trans Hp.out.2⟩
end Go.Proofs.Ytddehagceenbnaa
