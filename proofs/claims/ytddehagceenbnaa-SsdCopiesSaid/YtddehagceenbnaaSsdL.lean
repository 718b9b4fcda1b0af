/- Layer 4, the device: what becomes of a pending write. -/
import Derived.Test.YtddehagceenbnaaSsdK
namespace Go.Proofs.Ytddehagceenbnaa
open Go.RowKit

/-- How a number tells what becomes of a pending write. -/
def fmode (how : Int) : Int := (how.tmod 3 + 3) % 3
/-- What a sector is then. -/
def fell (how : Int) (new old : List UInt8) : List UInt8 := if fmode how = 1 then new else if fmode how = 2 then new.take 32 ++ old.drop 32 else old

theorem fmode_bd (how : Int) : -2 ≤ how.tmod 3 ∧ how.tmod 3 ≤ 2 := by
  have h1 := Int.tmod_lt_of_pos how (b := 3) (by omega)
  have h2 := Int.lt_tmod_of_pos how (b := 3) (by omega)
  omega

theorem fell_len {how : Int} {new old : List UInt8} (h1 : new.length = 64) (h2 : old.length = 64) : (fell how new old).length = 64 := by
  unfold fell
  split
  · exact h1
  · split
    · rw [List.length_append, List.length_take, List.length_drop, h1, h2]; rfl
    · exact h2

theorem DevIs.kept {w w' : World} {b : Nat} {d : Dev} {vl vn vp : Value} (h : DevIs w b d vl vn vp) (k : Keeps [] w w') : DevIs w' b d vl vn vp := h.keep k (by simp)

theorem setCell_self {w : World} {b o : Nat} {v : Value} (h : w.cell? ⟨b, o, none⟩ = some v) : w.setCell ⟨b, o, none⟩ v = w := by
  unfold World.cell? at h
  have e : w.heap.modify b (fun | .cells c elem frozen => .cells (if (none : Option Nat).isSome then c else c.setIfInBounds o v) elem frozen | x => x) = w.heap := by
    apply Array.ext_getElem?
    intro i
    rw [Array.getElem?_modify]
    split
    · subst_vars
      dsimp only at h
      cases hb : w.heap[i]? with
      | none => rfl
      | some ob =>
        rw [hb] at h
        cases ob with
        | cells cs t z =>
          simp at h
          simp only [Option.map_some, Option.isSome_none, Bool.false_eq_true, if_false]
          congr 2
          apply Array.ext_getElem?
          intro j
          rw [Array.getElem?_setIfInBounds]
          split
          · subst_vars
            have hlt := (Array.getElem?_eq_some_iff.1 h).1
            rw [if_pos hlt, h]
          · rfl
        | _ => simp at h
    · rfl
  unfold World.setCell
  exact congrArg (fun x => { w with heap := x }) e

/-- Cells that are written over themselves. -/
theorem setCells_self {b : Nat} : ∀ (vs : List Value) (o : Nat) (w : World), w.rangeAt b o vs → w.setCells b o vs = w
  | [], _, _, _ => rfl
  | v :: r, o, w, h => by
    have h0 := h 0 v rfl
    rw [Nat.add_zero] at h0
    have e : w.setCell ⟨b, o, none⟩ v = w := setCell_self h0
    rw [World.setCells, e]
    exact setCells_self r (o + 1) w (fun j u hj => by have := h (j + 1) u (by simpa using hj); rwa [Nat.add_assoc, Nat.add_comm 1 j])

theorem setCells_append {b : Nat} : ∀ (vs us : List Value) (o : Nat) (w : World), w.setCells b o (vs ++ us) = (w.setCells b o vs).setCells b (o + vs.length) us
  | [], us, o, w => rfl
  | v :: r, us, o, w => by
    rw [List.cons_append, World.setCells, World.setCells, setCells_append r us (o + 1)]
    rw [List.length_cons, Nat.add_assoc, Nat.add_comm 1]

/-- The first cells of a range are written: as if all were, the others as they are. -/
theorem setCells_part {w : World} {b o : Nat} {cs us : List Value} (h : w.rangeAt b o cs) : w.setCells b o us = w.setCells b o (us ++ cs.drop us.length) := by
  rw [setCells_append]
  symm
  refine setCells_self _ _ _ (fun j v hj => ?_)
  have hjl : j < (cs.drop us.length).length := (List.getElem?_eq_some_iff.1 hj).1
  rw [World.cell?_setCells_out b us o w ⟨b, o + us.length + j, none⟩ (fun _ _ => by right; show o + us.length ≤ o + us.length + j; omega)]
  rw [List.getElem?_drop] at hj
  rw [Nat.add_assoc]
  exact h _ v hj

set_option maxHeartbeats 1000000 in
set_option maxRecDepth 100000 in
theorem falls_any (b : Nat) (d : Dev) (vl vn vp : Value) (w : World) (hd : DevIs w b d vl vn vp) (hl : ∀ s, s ∈ d.last → s.length = 64) (p : Nat × List UInt8) (old : List UInt8) (ho : d.last[p.1]? = some old) (hp2 : p.2.length = 64) (how : Int) :
    Calls Try.prog 29 #[.pointer (some ⟨b, 0, none⟩), .agg (putv p).toArray, .int .i64 how] w fun e w' =>
      e = .returned (.tuple #[]) ∧ DevIs w' b { d with last := d.last.set p.1 (fell how p.2 old) } vl vn vp ∧ Keeps vl.ownBlock.toList w w' := by
  have hp1 : p.1 < d.last.length := (List.getElem?_eq_some_iff.1 ho).1
  have holen := hl old (List.mem_of_getElem? ho)
  obtain ⟨m0, m1⟩ := fmode_bd how
  have hbnd : 0 ≤ how.tmod 3 + 3 ∧ how.tmod 3 + 3 ≤ 5 := by omega
  have hpl : (putv p).length = 65 := by unfold putv; rw [List.length_cons, List.length_map, hp2]
  have hk2 : Keeps [] w (w.alloc (.cells (putv p).toArray 63)) := (Keeps.refl [] w).alloc _
  have hn2 := heap_alloc_self w (.cells (putv p).toArray 63)
  by_cases h1 : fmode how = 1
  · have hf : fell how p.2 old = p.2 := by unfold fell; rw [if_pos h1]
    rw [hf]
    have e1 : ((how.tmod 3 + 3) % 3 == 1) = true := by unfold fmode at h1; simpa using h1
    have e2 : ((how.tmod 3 + 3) % 3 == 2) = false := by unfold fmode at h1; simp; omega
    have hd2 := hd.kept hk2
    generalize hW2 : w.alloc (.cells (putv p).toArray 63) = w2 at *
    obtain ⟨g, capl, hvl, _, hth, hset⟩ := DevAt.setLast (w := w2.drewN 1) hd2.hb hd2.dj hd2.last hd2.now hd2.pend hl ho
    have c0 := cell_of_heap hd2.hb 0
    subst hvl
    have n0 := cell_of_heap hn2 0
    rw [show (putv p).toArray[0]? = some (.int .i64 p.1) by simp [putv]] at n0
    have hr1 : w2.rangeAt w.heap.size 1 (secv p.2) := by
      intro j v hj
      rw [cell_of_heap hn2]
      simp only [List.getElem?_toArray, putv, Nat.add_comm 1 j, List.getElem?_cons_succ]
      exact hj
    have hp10 : (0 : Int) ≤ (p.1 : Int) := by omega
    have hp11 : (p.1 : Int) < (d.last.length : Int) := by omega
    have hsv : (secv p.2).length = 64 := by unfold secv; rw [List.length_map]; exact hp2
    have Hhr1 := Lib.hid hr1
    have Hset := Lib.hid (hset p.2 hp2)
    have Hth := Lib.hid hth
    have Hsv := Lib.hid hsv
    have HW2 := Lib.hid hW2
    have Hk2 := Lib.hid hk2
    have Hdj := Lib.hid hd2.dj
    have hN : w.heap.size = w.heap.size := rfl
    clear hd hd2 ho hf hn2 hk2 h1 holen hp2 hpl hr1 hset hth hsv hW2 hN hl
    go_enter Try.func29, Try.ntmps29
    go_wp2
    rw [HW2.out]
    refine region_tail 9 (by kernel_rfl) (by kernel_rfl) ?_
    simp only [List.take_succ_cons, List.take_zero, List.drop_succ_cons, List.drop_zero]
    iterate 7 still_step
    refine still_load_mid rfl 61 (.tmp 18) rfl w.heap.size 1 (by rfl) (secv p.2) _ Hhr1.out Try.underlying61 rfl (by rw [Hsv.out]; exact Try.sizeSector) ?_
    still_step
    refine wpStill_nil ?_
    refine wpList_runS rfl (by exact exec_storeMid _ 61 g (p.1 * 64) (secv p.2) (by rw [Hsv.out]; exact Hth.out) (by rw [Hsv.out]; exact Try.sizeSector) (fun v hv => by unfold secv at hv; exact u8v_one _ v hv) _ _ (.tmp 20) (.tmp 19) rfl (by rfl) (by rfl)) ?_
    go_wp2
    go_end0
    obtain ⟨q1, q2, q3, q4, q5⟩ := Hset.out
    exact ⟨rfl, ⟨q1, Hdj.out, q2, q3, q4⟩, (Hk2.out.mono (by simp)).trans (F' := [g]) (q5.ofDrewN) (fun x hx => .inl (by simpa [Value.ownBlock] using hx))⟩
  · by_cases h2 : fmode how = 2
    · have hf : fell how p.2 old = p.2.take 32 ++ old.drop 32 := by unfold fell; rw [if_neg h1, if_pos h2]
      rw [hf]
      have e1 : ((how.tmod 3 + 3) % 3 == 1) = false := by unfold fmode at h1; simpa using h1
      have e2 : ((how.tmod 3 + 3) % 3 == 2) = true := by unfold fmode at h2; simpa using h2
      have hd2 := hd.kept hk2
      generalize hW2 : w.alloc (.cells (putv p).toArray 63) = w2 at *
      obtain ⟨g, capl, hvl, hro, hth, hset⟩ := DevAt.setLast (w := w2.drewN 1) hd2.hb hd2.dj hd2.last hd2.now hd2.pend hl ho
      have c0 := cell_of_heap hd2.hb 0
      subst hvl
      have n0 := cell_of_heap hn2 0
      rw [show (putv p).toArray[0]? = some (.int .i64 p.1) by simp [putv]] at n0
      have hr1 : (w2.drewN 1).rangeAt w.heap.size 1 (secv (p.2.take 32)) := by
        intro j v hj
        show w2.cell? _ = _
        rw [cell_of_heap hn2]
        simp only [List.getElem?_toArray, putv, Nat.add_comm 1 j, List.getElem?_cons_succ]
        unfold secv at hj
        rw [List.map_take, List.getElem?_take] at hj
        split at hj
        · exact hj
        · cases hj
      have hp10 : (0 : Int) ≤ (p.1 : Int) := by omega
      have hp11 : (p.1 : Int) < (d.last.length : Int) := by omega
      have hsv : (secv (p.2.take 32)).length = 32 := by unfold secv; rw [List.length_map, List.length_take, hp2]; rfl
      have hsc : (w2.drewN 1).setCells g (p.1 * 64) (secv (p.2.take 32)) = (w2.drewN 1).setCells g (p.1 * 64) (secv (p.2.take 32)) := rfl
      have hsame : ∀ cs, w2.heap[g]? = some (.cells cs 61 (0, 0)) → True := fun _ _ => trivial
      have Hhr1 := Lib.hid hr1
      have Hset := Lib.hid (hset (p.2.take 32 ++ old.drop 32) (by rw [List.length_append, List.length_take, List.length_drop, hp2, holen]; rfl))
      have Hth := Lib.hid hth
      have Hro := Lib.hid hro
      have Hsv := Lib.hid hsv
      have HW2 := Lib.hid hW2
      have Hk2 := Lib.hid hk2
      have Hdj := Lib.hid hd2.dj
      have Hold := Lib.hid holen
      have Hp2 := Lib.hid hp2
      clear hd hd2 ho hf hn2 hk2 h1 h2 holen hp2 hpl hr1 hset hth hsv hW2 hl hsc hsame hro
      go_enter Try.func29, Try.ntmps29
      go_wp2
      rw [HW2.out]
      refine region_tail 10 (by kernel_rfl) (by kernel_rfl) ?_
      simp only [List.take_succ_cons, List.take_zero, List.drop_succ_cons, List.drop_zero]
      iterate 10 still_step
      refine wpStill_nil ?_
      refine wpList_run rfl (goInt 32) (by exact exec_copyCells _ 22 22 5 Try.underlying22 Try.sizeU8 g (p.1 * 64) 32 64 w.heap.size 1 64 (secv (p.2.take 32)) Hsv.out Hhr1.out (fun v hv => by unfold secv at hv; exact u8v_one _ v hv) (fun j hj => Hth.out j (by omega)) _ _ (.tmp 30) (.tmp 32) rfl (by rfl) (by rfl)) ?_
      go_wp2
      go_end0
      rw [setCells_part Hro.out]
      have e : secv (p.2.take 32) ++ (secv old).drop 32 = secv (p.2.take 32 ++ old.drop 32) := by unfold secv; rw [List.map_append, List.map_drop]
      rw [Hsv.out, e]
      obtain ⟨q1, q2, q3, q4, q5⟩ := Hset.out
      exact ⟨rfl, ⟨q1, Hdj.out, q2, q3, q4⟩, (Hk2.out.mono (by simp)).trans (F' := [g]) (q5.ofDrewN) (fun x hx => .inl (by simpa [Value.ownBlock] using hx))⟩
    · have hf : fell how p.2 old = old := by unfold fell; rw [if_neg h1, if_neg h2]
      have hset : d.last.set p.1 old = d.last := by
        apply List.ext_getElem?
        intro i
        rw [List.getElem?_set]
        split
        · subst_vars; exact ho.symm
        · rfl
      rw [hf, hset]
      have e1 : ((how.tmod 3 + 3) % 3 == 1) = false := by unfold fmode at h1; simpa using h1
      have e2 : ((how.tmod 3 + 3) % 3 == 2) = false := by unfold fmode at h2; simpa using h2
      have Hd := Lib.hid (hd.kept hk2)
      have Hk2 := Lib.hid hk2
      clear hd ho hf hset hn2 hk2 h1 h2 holen hp2 hpl
      go_enter Try.func29, Try.ntmps29
      go_wp2
      go_end0
      exact ⟨rfl, Hd.out, Hk2.out.mono (by simp)⟩
end Go.Proofs.Ytddehagceenbnaa
