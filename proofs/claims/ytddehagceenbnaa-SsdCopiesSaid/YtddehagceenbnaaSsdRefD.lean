/- Layer 4, the reference: Write. -/
import Derived.Test.YtddehagceenbnaaSsdRefC
namespace Go.Proofs.Ytddehagceenbnaa
open Go.RowKit

theorem Dev.putN_pend (d d' : Dev) (a : Nat) (l : List UInt8) (h : d.pend = d'.pend) : ∀ k, (d.putN a l k).pend = (d'.putN a l k).pend
  | 0 => h
  | k + 1 => by
    show (d.putN a l k).pend ++ _ = (d'.putN a l k).pend ++ _
    rw [Dev.putN_pend d d' a l h k]

/-- As far as the reference is asked, two devices are one. -/
structure Like (d d' : Dev) : Prop where
  last : d.last = d'.last
  pend : d.pend = d'.pend
  lost : d.lost = d'.lost
  stops : d.stops = d'.stops
  left : d.left = d'.left
theorem RefIs.like {w : World} {b : Nat} {d d' : Dev} {vL vP : Value} (h : RefIs w b d vL vP) (l : Like d d') : RefIs w b d' vL vP :=
  ⟨by rw [← l.lost, ← l.stops, ← l.left]; exact h.hb, by rw [← l.last]; exact h.last, by rw [← l.pend]; exact h.pend⟩

set_option maxHeartbeats 4000000 in
set_option maxRecDepth 100000 in
theorem refWrite_in (b : Nat) (d : Dev) (vL vP : Value) (w : World) (h : RefIs w b d vL vP) (hok : d.ok) (A : Nat) (s : ByteArray) (hp : d.pend.length ≤ 1000000000) (hdd : d.dead = false) (N : Nat)
    (hN : s.size = 64 * N) (hA : A + N ≤ d.last.length) :
    Calls Try.prog 33 #[.pointer (some ⟨b, 0, none⟩), .int .i64 A, .string s] w fun e w' =>
      e = .returned (.int .i64 0) ∧ ∃ vP', RefIs w' b (d.tick.putN A s.data.toList N) vL vP' ∧ Chg (refF b vL vP) (refF b vL vP') w w' := by
  have hre := refDead_any b d vL vP w h hok
  rw [hdd] at hre
  simp only [Bool.false_eq_true, if_false] at hre
  obtain ⟨hok2, hnow, hlast, hpend⟩ := Dev.tick_ok hok hdd
  have hfew : d.last.length ≤ 65536 := hok.few
  rw [← hlast] at hA hfew
  rw [← hpend] at hp
  generalize d.tick = d1 at *
  have hbe := fun w' h' => refBeyond_any b d1 vL vP w' h' hfew A (N : Int) (by omega)
  have eb : beyondB d1.last.length (A : Int) (N : Int) = false := by unfold beyondB; simp; omega
  rw [eb] at hbe
  have hNb : N ≤ 65536 := by omega
  have hsN : (s.size : Int) = 64 * (N : Int) := by omega
  have hmod : (64 * (N : Int)) % 64 = 0 := by omega
  have hdiv : (64 * (N : Int)) / 64 = (N : Int) := by omega
  have Hre := Lib.hid hre
  have Hbe := Lib.hid hbe
  have HN := Lib.hid hN
  have Hok2 := Lib.hid hok2
  have hnl := fun k => d1.putN_len A s.data.toList k
  have Hnl := Lib.hid hnl
  have hA0 : (0 : Int) ≤ (A : Int) := by omega
  have hN0 : (0 : Int) ≤ (N : Int) := by omega
  have hbF : b ∈ refF b vL vP := by simp [refF]
  clear hre hbe hok2 hnow hlast hpend hdd hok h hN hnl eb
  go_enter Try.func33, Try.ntmps33
  go_wp2_with (first | (go_at_call 40; (with_reducible refine Hre.out.mono ?_); rintro e w1 ⟨rfl, hd1, hk1⟩) | (go_at_call 38; (with_reducible refine (Hbe.out _ hd1).mono ?_); rintro e w2 ⟨rfl, rfl⟩))
  have hch1 : Chg (refF b vL vP) (refF b vL vP) w w1 := ⟨hk1.mono (by intro x hx; rw [List.mem_singleton] at hx; subst hx; exact hbF), fun k h => .inl h⟩
  clear hk1
  go_loopw [7] (fun iv wr => ∃ (k : Nat) (vP1 : Value), k ≤ N ∧ iv = .int .i64 k ∧ RefIs wr b (d1.putN A s.data.toList k) vL vP1 ∧ Chg (refF b vL vP) (refF b vL vP1) w wr) (fun iv _ => N - (intOf iv).toNat)
  case atStart => exact ⟨0, vP, Nat.zero_le _, rfl, hd1, hch1⟩
  case round =>
    obtain ⟨k, vP1, hk, rfl, hd2, hch⟩ := hrel
    clear hd1 hch1
    by_cases hlt : k < N
    · have hk0 : (0 : Int) ≤ (k : Int) := by omega
      have hk1 : (k : Int) < (N : Int) := by omega
      obtain ⟨n1, n2, n3, n4, n5, n6⟩ := Hnl.out k
      have hput : d1.putN A s.data.toList (k + 1) = (d1.putN A s.data.toList k).put1 (A + k) (chunk s.data.toList k) := rfl
      have hex : s.extract (64 * k) (64 * k + 64) = str (chunk s.data.toList k) := by
        rw [str_extract]; congr 1; unfold chunk; congr 1; omega
      generalize d1.putN A s.data.toList k = d2 at *
      obtain ⟨ap, cp, hvp⟩ := ownsRow_shape hd2.pend
      subst hvp
      have hpl : d2.pend.length ≤ 1000065536 := by omega
      have c1 := cell_of_heap hd2.hb 1
      have hnb := own_ne hd2.hb hd2.pend (by decide)
      have Hd2 := Lib.hid hd2
      have Hhn := Lib.hid (And.intro n1 (And.intro n2 (And.intro n3 (And.intro n4 (And.intro n5 n6)))))
      have Hput := Lib.hid hput
      have hlp := hd2.pend
      clear n1 n2 n3 n4 n5 n6 hput hd2
      generalize chunk s.data.toList k = c at *
      have hkA : Keeps [] (wr.drewN 1) ((wr.drewN 1).alloc (.cells #[.int .i64 ((A : Int) + (k : Int)), .string (str c)] 75)) := (Keeps.refl [] _).alloc _
      obtain ⟨gq, cq, wq, hrun, hownq, hchq⟩ := exec_app1 (P := Try.prog) tyPut 67 (.slice ap d2.pend.length cp) _ _ (wr.drewN 1) ((wr.drewN 1).alloc (.cells #[.int .i64 ((A : Int) + (k : Int)), .string (str c)] 75)) wr.heap.size _ hkA (heap_alloc_self (wr.drewN 1) _) hlp rfl (by simp [Value.oneCell']) (by omega) (by unfold maxLen; omega)
      obtain ⟨Ws, hW0, hW1, hW2, hW3⟩ : ∃ Ws : Nat → World, Ws 0 = wr.drewN 1 ∧ Ws 1 = (wr.drewN 1).alloc (.cells #[.int .i64 ((A : Int) + (k : Int)), .string (str c)] 75) ∧ Ws 2 = wq ∧ wq.setCell ⟨b, 1, none⟩ (.slice (some ⟨gq, 0, none⟩) (d2.pend.length + 1) cq) = Ws 3 := ⟨fun | 0 => _ | 1 => _ | 2 => _ | _ => _, rfl, rfl, rfl, rfl⟩
      have q0 : (Ws 0).cell? ⟨b, 1, none⟩ = some (.slice ap d2.pend.length cp) := by rw [hW0]; exact c1
      have q1 : (Ws 1).cell? ⟨b, 1, none⟩ = some (.slice ap d2.pend.length cp) := by rw [hW1]; exact hkA.cell0 c1
      have hq2 := hchq.keeps.some (w := wr.drewN 1) Hd2.out.hb hnb
      have q2 : (Ws 2).cell? ⟨b, 1, none⟩ = some (.slice ap d2.pend.length cp) := by rw [hW2]; exact cell_of_heap hq2 1
      have f2 : (Ws 2).frozen? ⟨b, 1, none⟩ = false := by rw [hW2]; exact free_of_heap hq2 1
      have r3 := fun ev o x h h' => exec_buildOne (P := Try.prog) (Ws 0) 67 75 [.int .i64 ((A : Int) + (k : Int)), .string (str c)] Try.underlying67 (by kernel_rfl) (by kernel_rfl) (by simp) (by simp) ev o x h h'
      rw [show (Ws 0).heap.size = wr.heap.size by rw [hW0]; rfl, show (Ws 0).alloc (.cells [Value.int .i64 ((A : Int) + (k : Int)), Value.string (str c)].toArray 75) = Ws 1 by rw [hW0, hW1]] at r3
      have r4 := hrun
      rw [← hW1, ← hW2] at r4
      rw [← hW2] at hW3
      have R3 := Lib.hid r3
      have R4 := Lib.hid r4
      have HW0 := Lib.hid hW0
      have HW2 := Lib.hid hW2
      have hw1 : IntKind.i64.wrap ((A : Int) + (k : Int)) = (A : Int) + (k : Int) := IntWalk.i64_in _ ⟨by omega, by omega⟩
      have hwA : IntKind.i64.wrap (64 * (k : Int)) = 64 * (k : Int) := IntWalk.i64_in _ ⟨by omega, by omega⟩
      have hwB : IntKind.i64.wrap (64 * (k : Int) + 64) = 64 * (k : Int) + 64 := IntWalk.i64_in _ ⟨by omega, by omega⟩
      have ht1 : (64 * (k : Int)).toNat = 64 * k := by omega
      have ht2 : (64 * (k : Int) + 64).toNat = 64 * k + 64 := by omega
      have hb1 : 0 ≤ 64 * (k : Int) := by omega
      have hb2 : 64 * (k : Int) + 64 ≤ 64 * (N : Int) := by omega
      have hb3 : 0 ≤ 64 * (k : Int) + 64 := by omega
      have hb4 : 64 * (k : Int) ≤ 64 * (k : Int) + 64 := by omega
      clear hW0 hW1 hW2 hrun r3 r4 hq2 hkA hlp c1
      go_wp2
      refine region_at Ws [16, 17, 20] (by kernel_rfl) (by kernel_rfl) HW0.out.symm ?_
      iterate 4 (refine atP (by rfl) (fun K hK => ?_); go_simp; refine hK _ ?_; clear hK K)
      (refine atR [0, 1] (by kernel_rfl) (fun K hK => ?_); go_simp; refine hK _ ?_; clear hK K)
      iterate 11 (refine atP (by rfl) (fun K hK => ?_); go_simp; refine hK _ ?_; clear hK K)
      refine atW 0 rfl (by decide) rfl _ (R3.out _ _ (.tmp 44) rfl (by rfl)) ?_
      refine atW 1 rfl (by decide) rfl _ (R4.out _ _ (.tmp 33) (.tmp 45) rfl rfl (by rfl) (by rfl)) ?_
      iterate 2 (refine atP (by rfl) (fun K hK => ?_); go_simp; refine hK _ ?_; clear hK K)
      refine atS 2 rfl (by decide) rfl (by go_simp) ?_
      refine wpAt_nil ?_
      go_wp2
      go_roundw
      case rel =>
        have hq : wq.ownsRow 0 75 2 (.slice (some ⟨gq, 0, none⟩) (d2.pend.length + 1) cq) (d2.pend ++ [(A + k, c)]).length ((d2.pend ++ [(A + k, c)]).flatMap rputv) := by
          rw [List.length_append, List.length_singleton, List.flatMap_append]
          have e : [(A + k, c)].flatMap rputv = #[Value.int .i64 ((A : Int) + (k : Int)), Value.string (str c)].toList := by
            simp [rputv]
          rw [e]
          exact hownq
        have hsp := (Hd2.out.kept ((Keeps.refl [] wr).drewN 1)).setPend hq hchq
        rw [← HW2.out, hW3] at hsp
        exact ⟨k + 1, .slice (some ⟨gq, 0, none⟩) (d2.pend.length + 1) cq, by omega, by go_num, by rw [Hput.out]; exact hsp.1.like ⟨rfl, rfl, rfl, rfl, rfl⟩, hch.trans (F1 := refF b vL (.slice ap d2.pend.length cp)) hsp.2.drewN⟩
      case measure => simp [intOf]; omega
    · obtain rfl : k = N := by omega
      have Hd2 := Lib.hid hd2
      clear hd2
      go_wp2
      go_ret
      exact ⟨rfl, vP1, Hd2.out, hch⟩
end Go.Proofs.Ytddehagceenbnaa
