/- Layer 4, plain: a sector that is not written by the others' calls. -/
import Derived.Test.YtddehagceenbnaaSsdX
import Derived.Test.YtddehagceenbnaaSsdR
namespace Go.Proofs.Ytddehagceenbnaa

/-- The sector 19 has y, of which x lasts; all else that is pending is below it. -/
structure Aside (x y : UInt8) (d : Dev) : Prop where
  lost : d.lost = false
  stops : d.stops = false
  len : d.last.length = 20
  nlen : d.now.length = 20
  now : d.now[19]? = some (fullL y)
  last : d.last[19]? = some (fullL x)
  pend : ∃ r, d.pend = (19, fullL y) :: r ∧ ∀ p, p ∈ r → p.1 < 19

theorem aside_putN {x y : UInt8} {d : Dev} (h : Aside x y d) (a : Nat) (l : List UInt8) : ∀ k, a + k ≤ 19 → Aside x y (d.putN a l k)
  | 0, _ => h
  | k + 1, hk => by
    have h' := aside_putN h a l k (by omega)
    obtain ⟨r, hr, hlt⟩ := h'.pend
    refine ⟨h'.lost, h'.stops, h'.len, ?_, ?_, h'.last, r ++ [(a + k, chunk l k)], ?_, ?_⟩
    · show ((d.putN a l k).now.set _ _).length = 20
      rw [List.length_set]; exact h'.nlen
    · show ((d.putN a l k).now.set _ _)[19]? = _
      rw [List.getElem?_set_ne (by omega)]; exact h'.now
    · show (d.putN a l k).pend ++ _ = _
      rw [hr]; rfl
    · intro p hp
      rcases List.mem_append.1 hp with h1 | h1
      · exact hlt p h1
      · simp at h1; subst h1; show a + k < 19; omega

theorem aside_does {x y : UInt8} {d : Dev} (h : Aside x y d) (o : OpS) (h0 : o.ask = 0) (h1 : o.pos ≤ 8) (h2 : o.data.size ≤ 640) : Aside x y (d.does o).1 := by
  have hd : d.dead = false := by unfold Dev.dead; rw [h.lost, h.stops]; rfl
  have ht : d.tick = d := by unfold Dev.tick; rw [h.stops]; rfl
  unfold Dev.does
  rw [if_pos h0]
  show Aside x y (d.write o.pos o.data.data.toList).1
  unfold Dev.write
  rw [hd, ht]
  simp only [Bool.false_eq_true, if_false]
  split
  · exact h
  · split
    · exact h
    · split
      · exact h
      · exact aside_putN h _ _ _ (by rw [dlen]; omega)

theorem aside_start (x y : UInt8) : ((Dev.new 20).write 19 (fullL x)).2 = 0 ∧ ((Dev.new 20).write 19 (fullL x)).1.barrier.2 = 0 ∧ (((Dev.new 20).write 19 (fullL x)).1.barrier.1.write 19 (fullL y)).2 = 0 ∧
    Aside x y (((Dev.new 20).write 19 (fullL x)).1.barrier.1.write 19 (fullL y)).1 ∧ (((Dev.new 20).write 19 (fullL x)).1.barrier.1.write 19 (fullL y)).1.pend.length = 1 := by
  have w1 : (Dev.new 20).write 19 (fullL x) = ((Dev.new 20).tick.putN 19 (fullL x) 1, 0) := Dev.write_fit (d := Dev.new 20) (a := 19) (n := 1) rfl (fullL_len x) (by simp [Dev.new])
  have e1 : (Dev.new 20).tick.putN 19 (fullL x) 1 = (Dev.new 20).put1 19 (fullL x) := by
    show (Dev.new 20).put1 (19 + 0) (chunk (fullL x) 0) = _
    have : chunk (fullL x) 0 = fullL x := by unfold chunk; rw [Nat.mul_zero, List.drop_zero, List.take_of_length_le (by rw [fullL_len]; omega)]
    rw [this]
  rw [w1, e1]
  generalize hD : (Dev.new 20).put1 19 (fullL x) = D
  have hDd : D.dead = false := by rw [← hD]; rfl
  have hDt : D.tick = D := by rw [← hD]; rfl
  have hb : D.barrier = ({ D with last := Dev.settle D.last D.pend, pend := [] }, 0) := by unfold Dev.barrier; rw [hDd, hDt]; rfl
  rw [hb]
  generalize hE : ({ D with last := Dev.settle D.last D.pend, pend := [] } : Dev) = E
  have hEn : E.now.length = 20 := by rw [← hE, ← hD]; simp [Dev.put1, Dev.new]
  have hEl : E.last = (List.replicate 20 (List.replicate 64 0)).set 19 (fullL x) := by rw [← hE, ← hD]; rfl
  have hEd : E.dead = false := by rw [← hE, ← hD]; rfl
  have hEt : E.tick = E := by rw [← hE, ← hD]; rfl
  have w2 : E.write 19 (fullL y) = (E.tick.putN 19 (fullL y) 1, 0) := Dev.write_fit (d := E) (a := 19) (n := 1) hEd (fullL_len y) (by omega)
  have e2 : E.tick.putN 19 (fullL y) 1 = E.put1 19 (fullL y) := by
    rw [hEt]
    show E.put1 (19 + 0) (chunk (fullL y) 0) = _
    have : chunk (fullL y) 0 = fullL y := by unfold chunk; rw [Nat.mul_zero, List.drop_zero, List.take_of_length_le (by rw [fullL_len]; omega)]
    rw [this]
  rw [w2, e2]
  have hp : E.pend = [] := by rw [← hE]
  refine ⟨rfl, rfl, rfl, ⟨?_, ?_, ?_, ?_, ?_, ?_, [], ?_, by simp⟩, ?_⟩
  · show E.lost = false; rw [← hE, ← hD]; rfl
  · show E.stops = false; rw [← hE, ← hD]; rfl
  · show E.last.length = 20; rw [hEl]; simp
  · show (E.now.set 19 _).length = 20; rw [List.length_set, hEn]
  · show (E.now.set 19 _)[19]? = _; rw [List.getElem?_set_self (by omega)]
  · show E.last[19]? = _; rw [hEl, List.getElem?_set_self (by simp)]
  · show E.pend ++ _ = _; rw [hp]; rfl
  · show (E.pend ++ _).length = 1; rw [hp]; rfl

theorem fold_aside (qs : List ((Nat × List UInt8) × Int)) : ∀ (last : List (List UInt8)), (∀ q, q ∈ qs → q.1.1 < 19) → (qs.foldl fall1 last)[19]? = last[19]? := by
  induction qs with
  | nil => intro last _; rfl
  | cons q r ih =>
    intro last h
    rw [List.foldl_cons, ih _ (fun q hq => h q (by simp [hq]))]
    unfold fall1
    rw [List.getElem?_set_ne (by have := h q (by simp); omega)]

theorem fmode_0 : fmode 0 = 0 := by decide
theorem fmode_1 : fmode 1 = 1 := by decide

theorem aside_read {x y : UInt8} {d : Dev} (h : Aside x y d) : d.read 19 1 = (fullL y, 0) := by
  have := Dev.read_fit (d := d) (a := 19) (n := 1) h.lost (by rw [h.nlen]; omega)
  refine this.trans ?_
  obtain ⟨hlt, hg⟩ := List.getElem?_eq_some_iff.1 h.now
  rw [List.drop_eq_getElem_cons hlt, hg]
  simp

theorem aside_crash {x y : UInt8} {d : Dev} (h : Aside x y d) (k0 : Int) (ks : List Int) (hk : k0 = 0 ∨ k0 = 1) : (d.crash (k0 :: ks)).read 19 1 = (fullL (if k0 = 1 then y else x), 0) := by
  obtain ⟨r, hr, hlt⟩ := h.pend
  obtain ⟨hl19, hg⟩ := List.getElem?_eq_some_iff.1 h.last
  have h1 : (fallAll d.last d.pend (k0 :: ks))[19]? = some (fullL (if k0 = 1 then y else x)) := by
    unfold fallAll
    rw [hr, List.zip_cons_cons, List.foldl_cons, fold_aside _ _ (fun q hq => hlt q.1 (List.of_mem_zip hq).1)]
    unfold fall1
    rw [List.getElem?_set_self hl19, List.getD_eq_getElem?_getD, h.last]
    simp only [Option.getD_some]
    rcases hk with rfl | rfl
    · unfold fell; rw [fmode_0]; rfl
    · unfold fell; rw [fmode_1]; rfl
  have hlen : (d.crash (k0 :: ks)).now.length = 20 := by
    show (fallAll d.last d.pend (k0 :: ks)).length = 20
    unfold fallAll
    have : ∀ (qs : List ((Nat × List UInt8) × Int)) (l : List (List UInt8)), (qs.foldl fall1 l).length = l.length := by
      intro qs
      induction qs with
      | nil => intro l; rfl
      | cons q r ih => intro l; rw [List.foldl_cons, ih]; unfold fall1; rw [List.length_set]
    rw [this]; exact h.len
  have := Dev.read_fit (d := d.crash (k0 :: ks)) (a := 19) (n := 1) h.lost (by rw [hlen]; omega)
  refine this.trans ?_
  have h2 : (d.crash (k0 :: ks)).now[19]? = some (fullL (if k0 = 1 then y else x)) := h1
  obtain ⟨hlt2, hg2⟩ := List.getElem?_eq_some_iff.1 h2
  rw [List.drop_eq_getElem_cons hlt2, hg2]
  simp
end Go.Proofs.Ytddehagceenbnaa
