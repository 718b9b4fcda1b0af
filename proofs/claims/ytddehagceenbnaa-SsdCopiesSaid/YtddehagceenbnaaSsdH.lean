/- Layer 4, the device: Write. -/
import Derived.Test.YtddehagceenbnaaSsdG
namespace Go.Proofs.Ytddehagceenbnaa
open Go.RowKit

set_option maxHeartbeats 2000000 in
set_option maxRecDepth 100000 in
theorem write_in (b : Nat) (d : Dev) (F : List Nat) (w : World) (hd : DevAt w b d F) (hok : d.ok) (A : Nat) (s : ByteArray) (hp : d.pend.length ≤ 1000000000) (hdd : d.dead = false)
    (h64 : s.size % 64 = 0) (hin : insideE d.now.length A (s.size / 64 : Nat) = 0) :
    Calls Try.prog 12 #[.pointer (some ⟨b, 0, none⟩), .int .i64 A, .string s] w fun e w' =>
      e = .returned (.int .i64 0) ∧ ∃ F', DevAt w' b (d.tick.putN A s.data.toList (s.size / 64)) F' ∧ Chg F F' w w' := by
  have hre := ready_any b d F w hd hok
  rw [hdd] at hre
  simp only [Bool.false_eq_true, if_false] at hre
  obtain ⟨hok2, hnow, hlast, hpend⟩ := Dev.tick_ok hok hdd
  have hfew : d.now.length ≤ 65536 := by have := hok.same; have := hok.few; omega
  rw [← hpend] at hp
  rw [← hnow] at hin hfew
  generalize d.tick = d1 at *
  obtain ⟨N, hN⟩ : ∃ N, s.size = 64 * N := ⟨s.size / 64, by omega⟩
  have hN2 : s.size / 64 = N := by omega
  have hA : A + N ≤ d1.now.length := by
    unfold insideE at hin
    rw [hN2] at hin
    split at hin
    · cases hin
    · split at hin
      · cases hin
      · omega
  have hin2 : insideE d1.now.length A N = 0 := by rw [← hN2]; exact hin
  have hinc := fun w' F' h => inside_any b d1 F' w' h hfew A N (by omega)
  rw [hin2] at hinc
  rw [hN2]
  have hbF : b ∈ F := by obtain ⟨_, _, _, _, rfl, _⟩ := hd; simp
  have hNb : N ≤ 65536 := by omega
  have hsN : (s.size : Int) = 64 * (N : Int) := by omega
  have hmod : (64 * (N : Int)) % 64 = 0 := by omega
  have hdiv : (64 * (N : Int)) / 64 = (N : Int) := by omega
  have Hre := Lib.hid hre
  have Hinc := Lib.hid hinc
  have HbF := Lib.hid hbF
  have HN := Lib.hid hN
  have Hok2 := Lib.hid hok2
  have hnl := fun k => d1.putN_len A s.data.toList k
  have hpo := fun k h1 h2 => Dev.ok.putN hok2 (a := A) (l := s.data.toList) k h1 h2
  have Hnl := Lib.hid hnl
  have Hpo := Lib.hid hpo
  have hA0 : (0 : Int) ≤ (A : Int) := by omega
  have hN0 : (0 : Int) ≤ (N : Int) := by omega
  clear hre hinc hbF hok2 hnow hlast hpend hdd hok hd hin hin2 hN hN2 h64 hnl hpo
  go_enter Try.func12, Try.ntmps12
  go_wp2_with (first | (go_at_call 27; (with_reducible refine Hre.out.mono ?_); rintro e w1 ⟨rfl, hd1, hk1⟩) | (go_at_call 28; (with_reducible refine (Hinc.out _ _ hd1).mono ?_); rintro e w2 ⟨rfl, rfl⟩))
  have hch1 : Chg F F w w1 := ⟨hk1.mono (by intro x hx; rw [List.mem_singleton] at hx; subst hx; exact HbF.out), fun k h => .inl h⟩
  clear hk1
  go_loopw [35] (fun iv wr => ∃ (k : Nat) (F1 : List Nat), k ≤ N ∧ iv = .int .i64 k ∧ DevAt wr b (d1.putN A s.data.toList k) F1 ∧ Chg F F1 w wr) (fun iv _ => N - (intOf iv).toNat)
  case atStart => exact ⟨0, F, Nat.zero_le _, rfl, hd1, hch1⟩
  case round =>
    obtain ⟨k, F1, hk, rfl, hd2, hch⟩ := hrel
    clear hd1 hch1
    by_cases hlt : k < N
    · have hk0 : (0 : Int) ≤ (k : Int) := by omega
      have hk1 : (k : Int) < (N : Int) := by omega
      obtain ⟨n1, n2, n3, n4, n5, n6⟩ := Hnl.out k
      have ok1 := Hpo.out k (by omega) (by have := HN.out; rw [dlen]; omega)
      have hput : d1.putN A s.data.toList (k + 1) = (d1.putN A s.data.toList k).put1 (A + k) (chunk s.data.toList k) := rfl
      have hcl : (chunk s.data.toList k).length = 64 := chunk_len (by rw [dlen]; have := HN.out; omega)
      generalize d1.putN A s.data.toList k = d2 at *
      obtain ⟨vl, vn, vp, hb, hF, hdj, h1, h2, h3⟩ := hd2
      obtain ⟨x, hx⟩ : ∃ x, d2.now[A + k]? = some x := ⟨d2.now[A + k]'(by omega), by simp⟩
      obtain ⟨g, cap, rfl, hr, ht, hs⟩ := DevAt.setNow (w := wr.drewN 1) hb hdj h1 h2 h3 ok1.n64 hx
      have hb' : ∀ m, (wr.drewN m).heap[b]? = _ := fun m => hb
      have hc1 := cell_of_heap hb 1
      have hlen : d2.now.length ≤ 65536 := by omega
      have hlen2 : ((A : Int) + (k : Int)) < (d2.now.length : Int) := by omega
      have hlen0 : 0 ≤ ((A : Int) + (k : Int)) := by omega
      have hw1 : IntKind.i64.wrap ((A : Int) + (k : Int)) = ((A + k : Nat) : Int) := by rw [IntWalk.i64_in _ ⟨by omega, by omega⟩]; omega
      have hw2 : IntKind.i64.wrap ((k : Int) * 64) = ((64 * k : Nat) : Int) := by rw [IntWalk.i64_in _ ⟨by omega, by omega⟩]; omega
      have Hn := Lib.hid (And.intro n1 (And.intro n2 (And.intro n3 (And.intro n4 (And.intro n5 n6)))))
      have hA5 : ((A + k : Nat) : Int) = (A : Int) + (k : Int) := by omega
      have HA5 := Lib.hid hA5
      have Hhb := Lib.hid hb
      have Hput := Lib.hid hput
      have Hcl := Lib.hid hcl
      have Hx := Lib.hid hx
      have HF1 := Lib.hid hF
      have Hs := Lib.hid hs
      have Hr := Lib.hid hr
      have Ht := Lib.hid ht
      have Hb' := Lib.hid hb'
      have Hh1 := Lib.hid h1
      have Hh2 := Lib.hid h2
      have Hh3 := Lib.hid h3
      clear n1 n2 n3 n4 n5 n6 hA5 hb hput hcl hx hF hs hr ht hb' h1 h2 h3 ok1
      have ht1 : ((A : Int) + (k : Int)).toNat = A + k := by omega
      have ht2 : (64 * (k : Int)).toNat = 64 * k := by omega
      have hb1 : 0 ≤ 64 * (k : Int) := by omega
      have hb2 : 64 * (k : Int) ≤ 64 * (N : Int) := by omega
      have hb3 : 64 * (k : Int) ≤ (s.size : Int) := by omega
      go_wp2
      refine region_tail 13 (by kernel_rfl) (by kernel_rfl) ?_
      simp only [List.take_succ_cons, List.take_zero, List.drop_succ_cons, List.drop_zero]
      repeat still_step
      refine wpStill_nil ?_
      have hts : (s.extract (64 * k) s.size).data.toList.take 64 = chunk s.data.toList k := by
        rw [str_extract, str_data, List.take_take, Nat.min_eq_left (by omega)]; rfl
      refine wpList_copyLong rfl (.tmp 46) (.tmp 50) 22 9 5 rfl Try.underlying22 Try.sizeU8 g ((A + k) * 64) 64 64 (by rfl) (s.extract (64 * k) s.size) (by rfl) (by rw [ByteArray.size_extract]; omega) (by exact Ht.out) ?_
      rw [hts]
      clear hts
      obtain ⟨q1, q2, q3, q4, q5⟩ := Hs.out (chunk s.data.toList k) Hcl.out
      have hsl : (secv (chunk s.data.toList k)).length = 64 := by unfold secv; rw [List.length_map]; exact Hcl.out
      have q6 : ((wr.drewN 1).setCells g ((A + k) * 64) (secv (chunk s.data.toList k))).rangeAt g ((A + k) * 64) (secv (chunk s.data.toList k)) := World.rangeAt_setCells_same _ _ _ _ (by rw [hsl]; exact Ht.out)
      generalize chunk s.data.toList k = c at *
      show wpList _ _ _ _ _ ((wr.drewN 1).setCells g ((A + k) * 64) (secv c))
      generalize (wr.drewN 1).setCells g ((A + k) * 64) (secv c) = w2 at *
      have c1 := cell_of_heap q1 1
      have c2 := cell_of_heap q1 2
      obtain ⟨ad, cap2, rfl⟩ := ownsRow_shape q4
      have f2 := free_of_heap q1 2
      have H1 := Lib.hid q1
      have H2 := Lib.hid q2
      have H3 := Lib.hid q3
      have H4 := Lib.hid q4
      have H5 := Lib.hid q5
      have hu := Try.underlying61
      have hi : (Try.prog.info? 61).map (·.size) = some (secv c).length := by rw [hsl]; exact Try.sizeSector
      have hone : ∀ v ∈ secv c, v.oneCell' = true := fun v hv => by unfold secv at hv; exact u8v_one _ v hv
      have hpl : d2.pend.length ≤ 1000065536 := by have := Hn.out; omega
      generalize hsc : secv c = sc at *
      have Hsc := Lib.hid hsc
      clear hsc
      clear q1 q2 q3 q4 q5 hc1
      go_wp2
      have hnb := own_ne H1.out H4.out (by decide)
      obtain ⟨gq, cq, wq, hrun, hownq, hchq⟩ := exec_app1 (P := Try.prog) tyWrite 56 (.slice ad d2.pend.length cap2) _ _ (w2.drewN 1) ((w2.drewN 1).alloc (.cells (Value.int .i64 ((A : Int) + (k : Int)) :: sc).toArray 63)) w2.heap.size _ ((Keeps.refl [] _).alloc _) (heap_alloc_self (w2.drewN 1) _) H4.out (by simp [hsl]) (by simp [Value.oneCell']; exact hone) (by omega) (by unfold maxLen; omega)
      obtain ⟨Ws, hW0, hW1, hW2, hW3⟩ : ∃ Ws : Nat → World, Ws 0 = w2.drewN 1 ∧ Ws 1 = (w2.drewN 1).alloc (.cells (Value.int .i64 ((A : Int) + (k : Int)) :: sc).toArray 63) ∧ Ws 2 = wq ∧ wq.setCell ⟨b, 2, none⟩ (.slice (some ⟨gq, 0, none⟩) (d2.pend.length + 1) cq) = Ws 3 := ⟨fun | 0 => _ | 1 => _ | 2 => _ | _ => _, rfl, rfl, rfl, rfl⟩
      have c10 : (Ws 0).cell? ⟨b, 1, none⟩ = some (.slice (some ⟨g, 0, none⟩) d2.now.length cap) := by rw [hW0]; exact c1
      have c20 : (Ws 0).cell? ⟨b, 2, none⟩ = some (.slice ad d2.pend.length cap2) := by rw [hW0]; exact c2
      have c21 : (Ws 1).cell? ⟨b, 2, none⟩ = some (.slice ad d2.pend.length cap2) := by rw [hW1]; exact ((Keeps.refl [] (w2.drewN 1)).alloc _).cell0 c2
      have c22 : (Ws 2).cell? ⟨b, 2, none⟩ = some (.slice ad d2.pend.length cap2) := by rw [hW2]; exact cell_of_heap (hchq.keeps.some (w := w2.drewN 1) H1.out hnb) 2
      have f22 : (Ws 2).frozen? ⟨b, 2, none⟩ = false := by rw [hW2]; exact free_of_heap (hchq.keeps.some (w := w2.drewN 1) H1.out hnb) 2
      have r0 : (Ws 0).rangeAt g ((A + k) * 64) sc := by rw [hW0]; exact q6
      have hrun1 := hrun
      rw [← hW1, ← hW2] at hrun1
      rw [← hW2] at hW3
      have hbs := fun ev o x h h' => exec_buildOne (P := Try.prog) (Ws 0) 56 63 (Value.int .i64 ((A : Int) + (k : Int)) :: sc) Try.underlying56 (by rw [List.length_cons, hsl]; exact Try.sizeWrite) (by kernel_rfl) (by simp) (by simp [hsl]) ev o x h h'
      rw [show (Ws 0).heap.size = w2.heap.size by rw [hW0]; rfl, show (Ws 0).alloc (.cells (Value.int .i64 ((A : Int) + (k : Int)) :: sc).toArray 63) = Ws 1 by rw [hW0, hW1]] at hbs
      have Hbs := Lib.hid hbs
      have Hrun := Lib.hid hrun1
      have HW0 := Lib.hid hW0
      have HW2 := Lib.hid hW2
      have Hu := Lib.hid hu
      have Hi := Lib.hid hi
      clear hW0 hW1 hW2 hbs hrun hrun1 c1 c2 f2 q6 hu hi
      refine region_at Ws [18, 19, 22] (by kernel_rfl) (by kernel_rfl) HW0.out.symm ?_
      (refine atP (by rfl) (fun K hK => ?_); go_simp; refine hK _ ?_; clear hK K)
      (refine atP (by rfl) (fun K hK => ?_); go_simp; refine hK _ ?_; clear hK K)
      (refine atP (by rfl) (fun K hK => ?_); go_simp; refine hK _ ?_; clear hK K)
      (refine atP (by rfl) (fun K hK => ?_); go_simp; refine hK _ ?_; clear hK K)
      (refine atR [0, 1] (by kernel_rfl) (fun K hK => ?_); go_simp; refine hK _ ?_; clear hK K)
      (refine atP (by rfl) (fun K hK => ?_); go_simp; refine hK _ ?_; clear hK K)
      (refine atP (by rfl) (fun K hK => ?_); go_simp; refine hK _ ?_; clear hK K)
      (refine atP (by rfl) (fun K hK => ?_); go_simp; refine hK _ ?_; clear hK K)
      (refine atP (by rfl) (fun K hK => ?_); go_simp; refine hK _ ?_; clear hK K)
      (refine atP (by rfl) (fun K hK => ?_); go_simp; refine hK _ ?_; clear hK K)
      (refine atP (by rfl) (fun K hK => ?_); go_simp; refine hK _ ?_; clear hK K)
      (refine atR [0] (by kernel_rfl) (fun K hK => ?_); go_simp; refine hK _ ?_; clear hK K)
      (refine atP (by rfl) (fun K hK => ?_); go_simp; refine hK _ ?_; clear hK K)
      (refine atP (by rfl) (fun K hK => ?_); go_simp; refine hK _ ?_; clear hK K)
      (refine atP (by rfl) (fun K hK => ?_); go_simp; refine hK _ ?_; clear hK K)
      (refine atP (by rfl) (fun K hK => ?_); go_simp; refine hK _ ?_; clear hK K)
      refine atV [0] (by kernel_rfl) rfl (.agg sc.toArray) ⟨exec_load _ 61 g ((A + k) * 64) sc _ r0 Hu.out rfl Hi.out _ _ (.tmp 67) rfl (by rfl), trivial⟩ ?_
      refine atV [0] (by kernel_rfl) rfl (.agg (Value.int .i64 ((A : Int) + (k : Int)) :: sc).toArray) ⟨exec_build2 _ 63 _ _ _ 0 1 (.tmp 59) (.tmp 68) rfl (.int .i64 ((A : Int) + (k : Int))) (.agg sc.toArray) (by rfl) (by rfl) (builtWrite (.int .i64 ((A : Int) + (k : Int))) rfl sc hsl), trivial⟩ ?_
      refine atW 0 rfl (by decide) rfl _ (Hbs.out _ _ (.tmp 69) rfl (by rfl)) ?_
      refine atW 1 rfl (by decide) rfl _ (Hrun.out _ _ (.tmp 56) (.tmp 70) rfl rfl (by rfl) (by rfl)) ?_
      (refine atP (by rfl) (fun K hK => ?_); go_simp; refine hK _ ?_; clear hK K)
      (refine atP (by rfl) (fun K hK => ?_); go_simp; refine hK _ ?_; clear hK K)
      refine atS 2 rfl (by decide) rfl (by go_simp) ?_
      refine wpAt_nil ?_
      go_wp2
      go_roundw
      case rel =>
        have hq : wq.ownsRow 0 63 65 (.slice (some ⟨gq, 0, none⟩) (d2.pend.length + 1) cq) (d2.pend ++ [(A + k, c)]).length ((d2.pend ++ [(A + k, c)]).flatMap putv) := by
          rw [List.length_append, List.length_singleton, List.flatMap_append]
          have e : [(A + k, c)].flatMap putv = (Value.int .i64 ((A : Int) + (k : Int)) :: sc).toArray.toList := by
            rw [← HA5.out, ← Hsc.out]; simp [putv, secv]
          rw [e]
          exact hownq
        have hsp := DevAt.setPend (w := w2.drewN 1) (d := { d2 with now := d2.now.set (A + k) c }) H1.out hdj H2.out H3.out H4.out hq hchq
        rw [← HW2.out, hW3] at hsp
        refine ⟨k + 1, _, by omega, by go_num, by rw [Hput.out]; exact hsp.1, (hch.trans (F1 := F1) ?_).trans (F1 := F1) (HF1.out ▸ hsp.2)⟩
        refine ⟨?_, fun k h => .inl h⟩
        have h5 : Keeps [g] wr (w2.drewN 1) := (H5.out.drewN 1).ofDrewN
        refine h5.mono ?_
        intro x hx
        rw [List.mem_singleton] at hx
        subst hx
        rw [HF1.out]
        simp [Value.ownBlock]
      case measure => simp [intOf]; omega
    · obtain rfl : k = N := by omega
      go_wp2
      go_ret
      exact ⟨rfl, F1, hd2, hch⟩
end Go.Proofs.Ytddehagceenbnaa
