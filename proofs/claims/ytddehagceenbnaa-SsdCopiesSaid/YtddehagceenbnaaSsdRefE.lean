/- Layer 4, the reference: Write, all ways; Barrier; Stop. -/
import Derived.Test.YtddehagceenbnaaSsdRefD
namespace Go.Proofs.Ytddehagceenbnaa
open Go.RowKit

theorem refF_chg {w w' : World} {b : Nat} {vL vP : Value} (k : Keeps [b] w w') : Chg (refF b vL vP) (refF b vL vP) w w' :=
  ⟨k.mono (fun x hx => by rw [List.mem_singleton] at hx; subst hx; simp [refF]), fun _ h => .inl h⟩

set_option maxHeartbeats 2000000 in
theorem refWrite_any (b : Nat) (d : Dev) (vL vP : Value) (w : World) (h : RefIs w b d vL vP) (hok : d.ok) (a : Int) (s : ByteArray) (hp : d.pend.length ≤ 1000000000) (hs : s.size ≤ 140737488351232) (ha : a ≤ 9223372036854775807) :
    Calls Try.prog 33 #[.pointer (some ⟨b, 0, none⟩), .int .i64 a, .string s] w fun e w' =>
      e = .returned (.int .i64 (d.write a s.data.toList).2) ∧ ∃ vP', RefIs w' b (d.write a s.data.toList).1 vL vP' ∧ Chg (refF b vL vP) (refF b vL vP') w w' := by
  have hre := refDead_any b d vL vP w h hok
  unfold Dev.write
  rw [dlen]
  cases hdd : d.dead
  · simp only [Bool.false_eq_true, if_false]
    rw [hdd] at hre
    simp only [Bool.false_eq_true, if_false] at hre
    have hwr := fun A N h1 h2 => refWrite_in b d vL vP w h hok A s hp hdd N h1 h2
    obtain ⟨hok2, hnow, hlast, hpend⟩ := Dev.tick_ok hok hdd
    have hnl : d.now.length = d.last.length := hok.same
    have hfew : d.tick.last.length ≤ 65536 := hok2.few
    rw [hnl, ← hlast]
    rw [← hlast] at hwr
    have hbe := fun w' h' h0 => refBeyond_any b d.tick vL vP w' h' hfew a ((s.size / 64 : Nat) : Int) h0
    generalize d.tick = d1 at *
    have Hre := Lib.hid hre
    by_cases h0 : a < 0
    · rw [if_pos h0]
      clear hre hbe hwr hnow hlast hpend hok2 hok h hdd hnl
      go_enter Try.func33, Try.ntmps33
      go_wp2_with (go_at_call 40; (with_reducible refine Hre.out.mono ?_); rintro e w1 ⟨rfl, hd1, hk1⟩)
      go_ret
      exact ⟨rfl, vP, hd1, refF_chg hk1⟩
    · rw [if_neg h0]
      have h0' : 0 ≤ a := by omega
      by_cases h1 : s.size % 64 ≠ 0
      · rw [if_pos h1]
        have hm : (((s.size : Int) % 64) != 0) = true := by rw [bne_iff_ne]; omega
        clear hre hbe hwr hnow hlast hpend hok2 hok h hdd hnl h0 h1
        go_enter Try.func33, Try.ntmps33
        go_wp2_with (go_at_call 40; (with_reducible refine Hre.out.mono ?_); rintro e w1 ⟨rfl, hd1, hk1⟩)
        go_ret
        exact ⟨rfl, vP, hd1, refF_chg hk1⟩
      · rw [if_neg h1]
        have h1' : s.size % 64 = 0 := by omega
        by_cases h2 : insideE d1.last.length a (s.size / 64 : Nat) ≠ 0
        · rw [if_pos h2]
          have hm : (((s.size : Int) % 64) != 0) = false := by rw [bne_eq_false_iff_eq]; omega
          have eb : beyondB d1.last.length a ((s.size / 64 : Nat) : Int) = true ∧ insideE d1.last.length a ((s.size / 64 : Nat) : Int) = 31 := by
            unfold insideE at h2 ⊢
            rw [if_neg (by omega)] at h2 ⊢
            split at h2
            · rename_i h3
              rw [if_pos h3]
              refine ⟨?_, rfl⟩
              unfold beyondB
              simpa using h3
            · exact absurd rfl h2
          rw [eb.1] at hbe
          rw [eb.2]
          obtain ⟨N, hN⟩ : ∃ N, s.size / 64 = N := ⟨_, rfl⟩
          have hdv : (s.size : Int) / 64 = (N : Int) := by omega
          have hNb : (N : Int) ≤ 144115188075855872 := by omega
          rw [hN] at hbe
          have Hbe := Lib.hid hbe
          clear hre hbe hwr hnow hlast hpend hok2 hok h hdd hnl h0 h1 h1' h2 eb hN
          go_enter Try.func33, Try.ntmps33
          go_wp2_with (first | (go_at_call 40; (with_reducible refine Hre.out.mono ?_); rintro e w1 ⟨rfl, hd1, hk1⟩) | (go_at_call 38; (with_reducible refine (Hbe.out _ hd1 h0').mono ?_); rintro e w2 ⟨rfl, rfl⟩))
          go_ret
          exact ⟨rfl, vP, hd1, refF_chg hk1⟩
        · rw [if_neg h2]
          obtain ⟨A, rfl⟩ : ∃ A : Nat, a = A := ⟨a.toNat, by omega⟩
          have hin : insideE d1.last.length (A : Int) ((s.size / 64 : Nat) : Int) = 0 := by
            cases Decidable.em (insideE d1.last.length (A : Int) ((s.size / 64 : Nat) : Int) = 0) with
            | inl h => exact h
            | inr h => exact absurd h h2
          rw [Int.toNat_natCast]
          refine hwr A (s.size / 64) (by omega) ?_
          unfold insideE at hin
          split at hin
          · cases hin
          · split at hin
            · cases hin
            · omega
  · simp only [if_true]
    rw [hdd] at hre
    simp only [if_true] at hre
    have Hre := Lib.hid hre
    clear hre h hok hdd
    go_enter Try.func33, Try.ntmps33
    go_wp2_with (go_at_call 40; (with_reducible refine Hre.out.mono ?_); rintro e w1 ⟨rfl, hd1, hk1⟩)
    go_ret
    exact ⟨rfl, vP, hd1, refF_chg hk1⟩

/-- A sector of what lasts is written. -/
theorem RefIs.setSec {w : World} {b : Nat} {d : Dev} {vL vP : Value} (h : RefIs w b d vL vP) {i : Nat} {s : List UInt8} (hi : d.last[i]? = some s) {g cap : Nat} (hv : vL = .slice (some ⟨g, 0, none⟩) d.last.length cap) (t : List UInt8) :
    RefIs (w.setCell ⟨g, i, none⟩ (.string (str t))) b { d with last := d.last.set i t } vL vP ∧ Keeps vL.ownBlock.toList w (w.setCell ⟨g, i, none⟩ (.string (str t))) := by
  obtain ⟨g', cap', hv', _, _, hs⟩ := h.sec hi
  rw [hv] at hv'
  injection hv' with h1 _ h2
  simp only [Option.some.injEq, Addr.mk.injEq, and_true] at h1
  subst h1 h2
  have hb := own_ne h.hb h.last (by decide)
  have hp := own_apart h.pend h.last (by decide)
  have hk : Keeps vL.ownBlock.toList w (w.setCell ⟨g, i, none⟩ (.string (str t))) := (Keeps.refl _ w).setCell (p := ⟨g, i, none⟩) (by rw [hv]; simp [Value.ownBlock]) _
  refine ⟨⟨hk.some h.hb hb, ?_, own_keep h.pend hk hp⟩, hk⟩
  show World.ownsRow _ _ _ _ _ (d.last.set i t).length _
  rw [List.length_set]
  exact hs t

theorem RefIs.putPend {w : World} {b : Nat} {d : Dev} {vL vP : Value} (h : RefIs w b d vL vP) : RefIs (w.setCell ⟨b, 1, none⟩ (.slice none 0 0)) b { d with pend := [] } vL (.slice none 0 0) ∧ Chg (refF b vL vP) (refF b vL (.slice none 0 0)) w (w.setCell ⟨b, 1, none⟩ (.slice none 0 0)) := by
  have hk : Keeps [b] w (w.setCell ⟨b, 1, none⟩ (.slice none 0 0)) := (Keeps.refl [b] w).setCell (p := ⟨b, 1, none⟩) (by simp) _
  refine ⟨⟨heap_setCell h.hb 1 _, own_keep h.last hk (one_not (own_ne h.hb h.last (by decide))), ⟨rfl, .inl ⟨rfl, rfl⟩⟩⟩, hk.mono (by intro x hx; rw [List.mem_singleton] at hx; subst hx; simp [refF]), ?_⟩
  intro x hx
  have e0 : (Value.slice none 0 0).ownBlock.toList = [] := rfl
  unfold refF at *
  rw [e0, List.append_nil] at hx
  simp only [List.mem_cons, List.mem_append] at hx ⊢
  rcases hx with h | h
  · exact .inl (.inl h)
  · exact .inl (.inr (.inl h))

set_option maxHeartbeats 4000000 in
set_option maxRecDepth 100000 in
theorem refBarrier_any (b : Nat) (d : Dev) (vL vP : Value) (w : World) (h : RefIs w b d vL vP) (hok : d.ok) (hp : d.pend.length ≤ 1000000000) :
    Calls Try.prog 34 #[.pointer (some ⟨b, 0, none⟩)] w fun e w' =>
      e = .returned (.int .i64 d.barrier.2) ∧ ∃ vP', RefIs w' b d.barrier.1 vL vP' ∧ Chg (refF b vL vP) (refF b vL vP') w w' := by
  have hre := refDead_any b d vL vP w h hok
  unfold Dev.barrier
  cases hdd : d.dead
  · simp only [Bool.false_eq_true, if_false]
    rw [hdd] at hre
    simp only [Bool.false_eq_true, if_false] at hre
    obtain ⟨hok2, hnow, hlast, hpend⟩ := Dev.tick_ok hok hdd
    rw [← hlast, ← hpend]
    rw [← hpend] at hp
    generalize d.tick = d1 at *
    have Hre := Lib.hid hre
    have Hok2 := Lib.hid hok2
    have hL := ownsRow_shape h.last
    obtain ⟨aL, cL, hvL⟩ := hL
    rw [← hlast] at hvL
    have hvF : ∀ x, x ∈ vL.ownBlock.toList → x ∈ refF b vL vP := fun x hx => by simp [refF, hx]
    have HvF := Lib.hid hvF
    clear hre hok2 hnow hlast hpend hdd hok h hvF
    subst hvL
    go_enter Try.func34, Try.ntmps34
    go_wp2_with (go_at_call 40; (with_reducible refine Hre.out.mono ?_); rintro e w1 ⟨rfl, hd1, hk1⟩)
    obtain ⟨aP, cP, hvP⟩ := ownsRow_shape hd1.pend
    subst hvP
    have hch1 : Chg _ _ w w1 := refF_chg (vL := .slice aL d1.last.length cL) (vP := .slice aP d1.pend.length cP) hk1
    clear hk1
    go_loopw [3] (fun iv wr => ∃ k : Nat, k ≤ d1.pend.length ∧ iv = .int .i64 k ∧ RefIs wr b { d1 with last := Dev.settle d1.last (d1.pend.take k) } (.slice aL d1.last.length cL) (.slice aP d1.pend.length cP) ∧ Chg (refF b (.slice aL d1.last.length cL) (.slice aP d1.pend.length cP)) (refF b (.slice aL d1.last.length cL) (.slice aP d1.pend.length cP)) w wr) (fun iv _ => d1.pend.length - (intOf iv).toNat)
    case atStart => exact ⟨0, Nat.zero_le _, rfl, by simpa [Dev.settle] using hd1, hch1⟩
    case round =>
      obtain ⟨k, hk, rfl, hd2, hch⟩ := hrel
      clear hd1 hch1
      by_cases hlt : k < d1.pend.length
      · obtain ⟨p, hpk⟩ : ∃ p, d1.pend[k]? = some p := ⟨d1.pend[k]'hlt, by simp [hlt]⟩
        obtain ⟨hp1, hp2⟩ := Hok2.out.p64 p (List.mem_of_getElem? hpk)
        have hso := (Dev.settle_ok (d1.pend.take k) d1.last _ rfl Hok2.out.l64 (fun q hq => Hok2.out.p64 q (List.mem_of_mem_take hq))).1
        have hnx : Dev.settle d1.last (d1.pend.take (k + 1)) = (Dev.settle d1.last (d1.pend.take k)).set p.1 p.2 := by
          rw [List.take_add_one, hpk]; exact Dev.settle_snoc _ _ _ _
        obtain ⟨gP, cP', hvP, q0, q1⟩ := hd2.put hpk
        injection hvP with hv1 _ hv2
        subst hv1 hv2
        obtain ⟨x, hx⟩ : ∃ x, (Dev.settle d1.last (d1.pend.take k))[p.1]? = some x := ⟨_, List.getElem?_eq_getElem (by rw [hso]; exact hp1)⟩
        obtain ⟨gL, cL', hvL, s0, f0, _⟩ := hd2.sec hx
        have hvL' := hvL
        dsimp only at hvL hvL'
        rw [hso] at hvL
        injection hvL with hv1 _ hv2
        subst hv1 hv2
        have hsec := fun w' (hw : RefIs w' b { d1 with last := Dev.settle d1.last (d1.pend.take k) } (.slice (some ⟨gL, 0, none⟩) d1.last.length cL) (.slice (some ⟨gP, 0, none⟩) d1.pend.length cP)) => hw.setSec hx (g := gL) (cap := cL) (by rw [← hso]) p.2
        have c0 := cell_of_heap hd2.hb 0
        have c1 := cell_of_heap hd2.hb 1
        have Hsec := Lib.hid hsec
        have Hnx := Lib.hid hnx
        have Hd2 := Lib.hid hd2
        have hki : (k : Int) < (d1.pend.length : Int) := by omega
        have hki0 : (0 : Int) ≤ (k : Int) := by omega
        have hpi : (p.1 : Int) < (d1.last.length : Int) := by omega
        have hpi0 : (0 : Int) ≤ (p.1 : Int) := by omega
        clear hsec hnx hd2 hpk hso hx hvL' hp2
        go_wp2
        refine region_tail 21 (by kernel_rfl) (by kernel_rfl) ?_
        simp only [List.take_succ_cons, List.take_zero, List.drop_succ_cons, List.drop_zero]
        iterate 21 still_step
        refine wpStill_nil ?_
        go_wp2
        go_roundw
        case rel =>
          have h3 := Hsec.out (wr.drewN 1) (Hd2.out.kept ((Keeps.refl [] wr).drewN 1))
          exact ⟨k + 1, by omega, by go_num, by rw [Hnx.out]; exact h3.1, hch.trans (F1 := _) ⟨(h3.2.mono HvF.out).ofDrewN, fun _ h => .inl h⟩⟩
        case measure => simp [intOf]; omega
      · obtain rfl : k = d1.pend.length := by omega
        rw [List.take_length] at hd2
        have c1 := cell_of_heap hd2.hb 1
        have f1 := free_of_heap hd2.hb 1
        have Hp := Lib.hid hd2.putPend
        clear hd2
        go_wp2
        go_ret
        exact ⟨rfl, _, Hp.out.1, hch.trans Hp.out.2⟩
  · simp only [if_true]
    rw [hdd] at hre
    simp only [if_true] at hre
    have Hre := Lib.hid hre
    clear hre h hok hdd
    go_enter Try.func34, Try.ntmps34
    go_wp2_with (go_at_call 40; (with_reducible refine Hre.out.mono ?_); rintro e w1 ⟨rfl, hd1, hk1⟩)
    go_ret
    exact ⟨rfl, vP, hd1, refF_chg hk1⟩

theorem refStop_any (b : Nat) (d : Dev) (vL vP : Value) (w : World) (h : RefIs w b d vL vP) (n : Int) :
    Calls Try.prog 36 #[.pointer (some ⟨b, 0, none⟩), .int .i64 n] w fun e w' => e = .returned (.tuple #[]) ∧ RefIs w' b (d.stop n) vL vP ∧ Keeps [b] w w' := by
  have c3 := cell_of_heap h.hb 3
  have c4 := cell_of_heap h.hb 4
  have f3 := free_of_heap h.hb 3
  have f4 := free_of_heap h.hb 4
  have hk : Keeps [b] w ((w.setCell ⟨b, 3, none⟩ (.bool (decide (0 ≤ n)))).setCell ⟨b, 4, none⟩ (.int .i64 n)) := ((Keeps.refl [b] w).setCell (p := ⟨b, 3, none⟩) (by simp) _).setCell (p := ⟨b, 4, none⟩) (by simp) _
  have hR : RefIs ((w.setCell ⟨b, 3, none⟩ (.bool (decide (0 ≤ n)))).setCell ⟨b, 4, none⟩ (.int .i64 n)) b (d.stop n) vL vP :=
    ⟨heap_setCell (heap_setCell h.hb 3 _) 4 _, own_keep h.last hk (one_not (own_ne h.hb h.last (by decide))), own_keep h.pend hk (one_not (own_ne h.hb h.pend (by decide)))⟩
  have Hk := Lib.hid hk
  have HR := Lib.hid hR
  clear h hk hR
  go_enter Try.func36, Try.ntmps36
  go_wp2
  go_end0
  exact ⟨rfl, HR.out, Hk.out⟩
end Go.Proofs.Ytddehagceenbnaa
