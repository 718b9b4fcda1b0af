/- Layer 4, the device: Barrier. -/
import Derived.Test.YtddehagceenbnaaSsdI
namespace Go.Proofs.Ytddehagceenbnaa
open Go.RowKit

theorem putv_one (p : Nat × List UInt8) : ∀ v ∈ putv p, v.oneCell' = true := by
  intro v hv
  unfold putv at hv
  rcases List.mem_cons.1 hv with rfl | hv
  · rfl
  · exact u8v_one _ v hv

/-- A sector of what lasts is written. -/
theorem DevAt.setLast {w : World} {b : Nat} {d : Dev} {vl vn vp : Value} (hb : w.heap[b]? = some (.cells #[vl, vn, vp, .bool d.lost, .bool d.stops, .int .i64 d.left] 58 (0, 0)))
    (hdj : ∀ x, x ∈ vl.ownBlock.toList → x ∉ vn.ownBlock.toList) (h1 : w.ownsRow 0 61 64 vl d.last.length (d.last.flatMap secv)) (h2 : w.ownsRow 0 61 64 vn d.now.length (d.now.flatMap secv))
    (h3 : w.ownsRow 0 63 65 vp d.pend.length (d.pend.flatMap putv)) (hn : ∀ s, s ∈ d.last → s.length = 64) {i : Nat} {x : List UInt8} (hi : d.last[i]? = some x) :
    ∃ g cap, vl = .slice (some ⟨g, 0, none⟩) d.last.length cap ∧ w.rangeAt g (i * 64) (secv x) ∧ w.there g (i * 64) 64 ∧ ∀ y, y.length = 64 →
      (w.setCells g (i * 64) (secv y)).heap[b]? = some (.cells #[vl, vn, vp, .bool d.lost, .bool d.stops, .int .i64 d.left] 58 (0, 0)) ∧
      (w.setCells g (i * 64) (secv y)).ownsRow 0 61 64 vl (d.last.set i y).length ((d.last.set i y).flatMap secv) ∧ (w.setCells g (i * 64) (secv y)).ownsRow 0 61 64 vn d.now.length (d.now.flatMap secv) ∧
      (w.setCells g (i * 64) (secv y)).ownsRow 0 63 65 vp d.pend.length (d.pend.flatMap putv) ∧ Keeps [g] w (w.setCells g (i * 64) (secv y)) := by
  obtain ⟨g, cap, rfl, hr, ht, hs⟩ := own_elem h1 (secv_len hn) rfl hi
  refine ⟨g, cap, rfl, hr, ht, fun y hy => ?_⟩
  have hk : Keeps [g] w (w.setCells g (i * 64) (secv y)) := keeps_setCells _ _ _
  have hbg : b ≠ g := by
    have := own_ne hb h1 (by decide)
    simpa [Value.ownBlock] using this
  have hty : ∀ k, k ∈ vp.ownBlock.toList → k ∉ [g] := by
    intro k hk hk'
    rw [List.mem_singleton] at hk'
    subst hk'
    rcases h3.2 with ⟨rfl, _⟩ | ⟨g', cap', cur, rfl, _, hg, _⟩
    · simp [Value.ownBlock] at hk
    · simp [Value.ownBlock] at hk
      subst hk
      have := own_ne hg h1 (by decide)
      simp [Value.ownBlock] at this
  refine ⟨hk.some hb (by simpa using hbg), ?_, own_keep h2 hk (fun x hx hx' => hdj g (by simp [Value.ownBlock]) (by rw [List.mem_singleton] at hx'; subst hx'; exact hx)), own_keep h3 hk hty, hk⟩
  rw [List.length_set]
  exact hs y (by unfold secv; rw [List.length_map]; exact hy)

/-- The device d lies at block b, its slices told. -/
structure DevIs (w : World) (b : Nat) (d : Dev) (vl vn vp : Value) : Prop where
  hb : w.heap[b]? = some (.cells #[vl, vn, vp, .bool d.lost, .bool d.stops, .int .i64 d.left] 58 (0, 0))
  dj : ∀ x, x ∈ vl.ownBlock.toList → x ∉ vn.ownBlock.toList
  last : w.ownsRow 0 61 64 vl d.last.length (d.last.flatMap secv)
  now : w.ownsRow 0 61 64 vn d.now.length (d.now.flatMap secv)
  pend : w.ownsRow 0 63 65 vp d.pend.length (d.pend.flatMap putv)

def devF (b : Nat) (vl vn vp : Value) : List Nat := b :: (vl.ownBlock.toList ++ vn.ownBlock.toList ++ vp.ownBlock.toList)
theorem devF_nil {b : Nat} {vl vn : Value} (vp : Value) : ∀ x, x ∈ devF b vl vn (.slice none 0 0) → x ∈ devF b vl vn vp := by
  intro x hx
  have e : (Value.slice none 0 0).ownBlock.toList = [] := rfl
  unfold devF at *
  rw [e, List.append_nil] at hx
  simp only [List.mem_cons, List.mem_append] at *
  rcases hx with h | h | h
  · exact .inl h
  · exact .inr (.inl (.inl h))
  · exact .inr (.inl (.inr h))
theorem DevIs.at {w : World} {b : Nat} {d : Dev} {vl vn vp : Value} (h : DevIs w b d vl vn vp) : DevAt w b d (devF b vl vn vp) := ⟨vl, vn, vp, h.hb, rfl, h.dj, h.last, h.now, h.pend⟩
theorem DevAt.is {w : World} {b : Nat} {d : Dev} {F : List Nat} (h : DevAt w b d F) : ∃ vl vn vp, DevIs w b d vl vn vp ∧ F = devF b vl vn vp := by
  obtain ⟨vl, vn, vp, hb, hF, hdj, h1, h2, h3⟩ := h
  exact ⟨vl, vn, vp, ⟨hb, hdj, h1, h2, h3⟩, hF⟩
theorem DevIs.keep {w w' : World} {b : Nat} {d : Dev} {vl vn vp : Value} {G : List Nat} (h : DevIs w b d vl vn vp) (k : Keeps G w w') (hd : ∀ x, x ∈ devF b vl vn vp → x ∉ G) : DevIs w' b d vl vn vp :=
  ⟨k.some h.hb (hd _ (by simp [devF])), h.dj, own_keep h.last k (fun x hx => hd x (by simp [devF, hx])), own_keep h.now k (fun x hx => hd x (by simp [devF, hx])), own_keep h.pend k (fun x hx => hd x (by simp [devF, hx]))⟩

set_option maxHeartbeats 2000000 in
set_option maxRecDepth 100000 in
theorem barrier_in (b : Nat) (d : Dev) (F : List Nat) (w : World) (hd : DevAt w b d F) (hok : d.ok) (hp : d.pend.length ≤ 1000000000) (hdd : d.dead = false) :
    Calls Try.prog 14 #[.pointer (some ⟨b, 0, none⟩)] w fun e w' =>
      e = .returned (.int .i64 0) ∧ ∃ F', DevAt w' b { d.tick with last := Dev.settle d.last d.pend, pend := [] } F' ∧ Chg F F' w w' := by
  have hre := ready_any b d F w hd hok
  rw [hdd] at hre
  simp only [Bool.false_eq_true, if_false] at hre
  obtain ⟨hok2, hnow, hlast, hpend⟩ := Dev.tick_ok hok hdd
  have hdF := fun w' => hd.chg (w' := w')
  rw [← hlast, ← hpend]
  rw [← hpend] at hp
  generalize d.tick = d1 at *
  have Hre := Lib.hid hre
  have HdF := Lib.hid hdF
  have Hok2 := Lib.hid hok2
  clear hre hdF hok2 hnow hlast hpend hdd hok hd
  go_enter Try.func14, Try.ntmps14
  go_wp2_with ((go_at_call 27; (with_reducible refine Hre.out.mono ?_); rintro e w1 ⟨rfl, hd1, hk1⟩; obtain ⟨vl, vn, vp, hi1, hF⟩ := hd1.is; obtain ⟨ap, cp, hvp⟩ := ownsRow_shape hi1.pend; subst hvp; have hc2 := cell_of_heap hi1.hb 2))
  have hch1 := HdF.out _ hk1
  have HF := Lib.hid hF
  clear hc2 hk1 hd1 hF
  go_loopw [16] (fun iv wr => ∃ k : Nat, k ≤ d1.pend.length ∧ iv = .int .i64 k ∧ DevIs wr b { d1 with last := Dev.settle d1.last (d1.pend.take k) } vl vn (.slice ap d1.pend.length cp) ∧ Chg F F w wr) (fun iv _ => d1.pend.length - (intOf iv).toNat)
  case atStart => exact ⟨0, Nat.zero_le _, rfl, by simpa [Dev.settle] using hi1, hch1⟩
  case round =>
    obtain ⟨k, hk, rfl, hd2, hch⟩ := hrel
    clear hi1 hch1
    by_cases hlt : k < d1.pend.length
    · obtain ⟨p, hpk⟩ : ∃ p, d1.pend[k]? = some p := ⟨d1.pend[k]'hlt, by simp [hlt]⟩
      obtain ⟨hp1, hp2⟩ := Hok2.out.p64 p (List.mem_of_getElem? hpk)
      have hso := Dev.settle_ok (d1.pend.take k) d1.last _ rfl Hok2.out.l64 (fun q hq => Hok2.out.p64 q (List.mem_of_mem_take hq))
      have hnx : Dev.settle d1.last (d1.pend.take (k + 1)) = (Dev.settle d1.last (d1.pend.take k)).set p.1 p.2 := by
        rw [List.take_add_one, hpk]; exact Dev.settle_snoc _ _ _ _
      obtain ⟨gp, capp, hvp, hra, _, _⟩ := own_elem hd2.pend (putv_len Hok2.out.p64) rfl hpk
      injection hvp with hv1 _ hv2
      subst hv1 hv2
      have hfew := Hok2.out.few
      have hpl : (putv p).length = 65 := putv_len Hok2.out.p64 p (List.mem_of_getElem? hpk)
      obtain ⟨z, hz, hzero⟩ := zero_any (P := Try.prog) (e := 63) (n := 65) (by kernel_rfl)
      have hi65 : (Try.prog.info? 63).map (·.size) = some (putv p).length := by rw [hpl]; exact Try.sizeWrite
      have hk0 : (0 : Int) ≤ (k : Int) := by omega
      have hk1 : (k : Int) < (d1.pend.length : Int) := by omega
      have Hra := Lib.hid hra
      have Hpl := Lib.hid hpl
      have Hz := Lib.hid hz
      have Hzero := Lib.hid hzero
      have Hi65 := Lib.hid hi65
      have Hnx := Lib.hid hnx
      have Hso := Lib.hid hso
      have Hpk := Lib.hid hpk
      clear hra hpl hz hzero hi65 hnx hso hpk
      go_wp2_with (first
        | ((with_reducible refine wpList_run (w' := wr) (o := ⟨some 19, _, _, _, _, _⟩) ?_ (.agg (putv p).toArray) ?_ ?_); exact rfl; exact exec_load wr 63 gp (k * 65) (putv p) _ Hra.out Try.underlying63 rfl Hi65.out _ _ (.tmp 18) rfl rfl)
        | ((with_reducible refine wpList_run (w' := wr.alloc (.cells z.cells 63)) (o := ⟨some 5, _, _, _, _, _⟩) ?_ (.pointer (some ⟨wr.heap.size, 0, none⟩)) ?_ ?_); exact rfl; exact exec_alloc _ 63 _ _ rfl z Hzero.out)
        | ((with_reducible refine wpList_runS (w' := wr.alloc (.cells (putv p).toArray 63)) (o := ⟨none, .store 63 _ _, _, _, _, _⟩) ?_ ?_ ?_); exact rfl; exact exec_storeNew wr 63 z.cells (putv p) Hi65.out (by rw [Hz.out, Hpl.out]) (putv_one p) _ _ (.tmp 5) (.tmp 19) rfl rfl rfl))
      have hk2 : Keeps [] wr (wr.alloc (.cells (putv p).toArray 63)) := (Keeps.refl [] wr).alloc _
      have hn2 := heap_alloc_self wr (.cells (putv p).toArray 63)
      generalize wr.alloc (.cells (putv p).toArray 63) = w2 at *
      have hd3 := hd2.keep hk2 (by simp)
      have hch2 : Chg F F wr w2 := ⟨hk2.mono (by simp), fun _ h => .inl h⟩
      obtain ⟨x, hx⟩ : ∃ x, (Dev.settle d1.last (d1.pend.take k))[p.1]? = some x := ⟨(Dev.settle d1.last (d1.pend.take k))[p.1]'(by rw [Hso.out.1]; exact hp1), by simp⟩
      obtain ⟨g, capl, hvl, _, hth, hset⟩ := DevAt.setLast (w := w2.drewN 1) hd3.hb hd3.dj hd3.last hd3.now hd3.pend Hso.out.2 hx
      have hsl : (Dev.settle d1.last (d1.pend.take k)).length = d1.last.length := Hso.out.1
      dsimp only at hvl hset hth
      rw [hsl] at hvl
      have c0 := cell_of_heap hd3.hb 0
      subst hvl
      have n0 := cell_of_heap hn2 0
      have e0 : (putv p).toArray[0]? = some (.int .i64 p.1) := by simp [putv]
      rw [e0] at n0
      have hr1 : w2.rangeAt wr.heap.size 1 (secv p.2) := by
        intro j v hj
        rw [cell_of_heap hn2]
        simp only [List.getElem?_toArray, putv, Nat.add_comm 1 j, List.getElem?_cons_succ]
        exact hj
      have hp10 : (0 : Int) ≤ (p.1 : Int) := by omega
      have hp11 : (p.1 : Int) < (d1.last.length : Int) := by omega
      have hsv : (secv p.2).length = 64 := by unfold secv; rw [List.length_map]; exact hp2
      have Hhr1 := Lib.hid hr1
      have Hset := Lib.hid (hset p.2 hp2)
      have Hth := Lib.hid hth
      have Hsv := Lib.hid hsv
      have Hsl := Lib.hid hsl
      have Hx := Lib.hid hx
      have Hhp2 := Lib.hid hp2
      generalize wr.heap.size = N2 at *
      clear hn2 e0 hset hth hsv hsl hr1 hx hp2
      refine region_tail 9 (by kernel_rfl) (by kernel_rfl) ?_
      simp only [List.take_succ_cons, List.take_zero, List.drop_succ_cons, List.drop_zero]
      iterate 7 still_step
      refine still_load_mid rfl 61 (.tmp 26) rfl N2 1 (by rfl) (secv p.2) _ Hhr1.out Try.underlying61 rfl (by rw [Hsv.out]; exact Try.sizeSector) ?_
      still_step
      refine wpStill_nil ?_
      refine wpList_runS rfl (by exact exec_storeMid _ 61 g (p.1 * 64) (secv p.2) (by rw [Hsv.out]; exact Hth.out) (by rw [Hsv.out]; exact Try.sizeSector) (fun v hv => by unfold secv at hv; exact u8v_one _ v hv) _ _ (.tmp 28) (.tmp 27) rfl (by rfl) (by rfl)) ?_
      go_wp2
      go_roundw
      case rel =>
        refine ⟨k + 1, by omega, by go_num, ?_, (hch.trans hch2).trans ?_⟩
        · rw [Hnx.out]
          obtain ⟨q1, q2, q3, q4, q5⟩ := Hset.out
          exact ⟨q1, hd3.dj, q2, q3, q4⟩
        · refine ⟨((Hset.out.2.2.2.2.mono ?_ : Keeps F _ _).ofDrewN), fun _ h => .inl h⟩
          intro y hy
          rw [List.mem_singleton] at hy
          subst hy
          rw [HF.out]
          simp [devF, Value.ownBlock]
      case measure => simp [intOf]; omega
    · obtain rfl : k = d1.pend.length := by omega
      rw [List.take_length] at hd2
      have hd2' := hd2
      have hc2 := cell_of_heap hd2.hb 2
      have hf2 := free_of_heap hd2.hb 2
      have Hd2 := Lib.hid hd2
      clear hd2
      go_wp2
      go_ret
      refine ⟨rfl, devF b vl vn (.slice none 0 0), ?_, ?_⟩
      · have hk3 : Keeps [b] wr (wr.setCell ⟨b, 2, none⟩ (.slice none 0 0)) := (Keeps.refl [b] wr).setCell (p := ⟨b, 2, none⟩) (by simp) _
        have one : ∀ {v : Value}, b ∉ v.ownBlock.toList → ∀ x, x ∈ v.ownBlock.toList → x ∉ [b] := by
          intro v hv x hx hx'
          rw [List.mem_singleton] at hx'
          subst hx'
          exact hv hx
        exact (DevIs.mk (d := { d1 with last := Dev.settle d1.last d1.pend, pend := [] }) (heap_setCell Hd2.out.hb 2 _) Hd2.out.dj (own_keep Hd2.out.last hk3 (one (own_ne Hd2.out.hb Hd2.out.last (by decide)))) (own_keep Hd2.out.now hk3 (one (own_ne Hd2.out.hb Hd2.out.now (by decide)))) (by exact ⟨rfl, .inl ⟨rfl, rfl⟩⟩)).at
      · refine hch.trans (F1 := F) ⟨(Keeps.refl F wr).setCell (p := ⟨b, 2, none⟩) (by left; rw [HF.out]; simp [devF]) _, fun x hx => .inl ?_⟩
        rw [HF.out]
        exact devF_nil _ x hx
end Go.Proofs.Ytddehagceenbnaa
