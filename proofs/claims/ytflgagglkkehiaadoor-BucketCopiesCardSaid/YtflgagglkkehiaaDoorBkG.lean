/- Layer 5: Fates. -/
import Derived.Test.YtflgagglkkehiaaDoorBkF
import Derived.Laws.AppendOwnNone
namespace Go.Proofs.YtflgagglkkehiaaDoor
open Go.RowKit Go.Maps

/-- What may be appended whole: nil, or so many cells. -/
def SlSrc (w : World) (x : Value) (news : List Value) : Prop := (x = .slice none 0 0 ∧ news = []) ∨ ∃ ad c, x = .slice (some ad) news.length c ∧ ∀ j u, news[j]? = some u → w.cell? (ad.add j) = some u
theorem SlSrc.newer {w w' : World} {x : Value} {news : List Value} (h : SlSrc w x news) (k : Keeps [] w w') : SlSrc w' x news := by
  rcases h with h | ⟨ad, c, h1, h2⟩
  · exact .inl h
  · exact .inr ⟨ad, c, h1, fun j u hj => k.cell0 (h2 j u hj)⟩

theorem wpList_appSl {P : Program} {t e : TypeId} {bytes : Nat} {z : Value} (T : SlTy P t e 1 bytes z) {ops : Array Oper} {rest : List Oper} {o : Oper} {a : Act} {Q : Exit → Act → World → Prop} {w : World} (hgd : o.guard = none) (s x : Operand)
    (ho : o.op = .call { callee := .builtin .append, args := #[s, x], argTypes := #[t, t] }) (v : Value) (n : Nat) (xs : List Value) (hs : a.eval s = v) (xv : Value) (hx : a.eval x = xv) (news : List Value) (hsrc : SlSrc w xv news)
    (hown : w.ownsRow 0 e 1 v n xs) (h1 : ∀ u ∈ news, u.oneCell' = true) (hlen : (n + news.length) * bytes ≤ 140737488355328) (h63 : n + news.length ≤ maxLen)
    (h : ∀ ad' cap w', w'.ownsRow 0 e 1 (.slice ad' (n + news.length) cap) (n + news.length) (xs ++ news) → Chg v.ownBlock.toList (Value.slice ad' (n + news.length) cap).ownBlock.toList w w' → wpList P ops Q rest (a.put o.dst (.slice ad' (n + news.length) cap)) w') :
    wpList P ops Q (o :: rest) a w := by
  rcases hsrc with ⟨rfl, rfl⟩ | ⟨ad, c, rfl, hc⟩
  · obtain ⟨ad', cap, rfl⟩ := ownsRow_shape hown
    obtain ⟨hu, ⟨i, hi, hz, hsz, hby⟩, hzs, hp⟩ := T
    exact wpList_append_own_none hgd s x t ho 0 e i 1 hu hi _ n xs hs hown hx (h ad' cap w (by simpa using hown) (Chg.refl _ _))
  · exact wpList_appN T hgd s x ho v n xs hs ad news.length c news hx (by simp) hc hown h1 hlen h63 h

theorem tyInts : SlTy Tryd.prog 40 3 1 8 (.int .i64 0) := SlTy.mk' Tryd.underlying40 (by kernel_rfl) rfl (by decide)
theorem one_cell_ints (L : List Int) : ∀ u ∈ L.map intV, u.oneCell' = true := by
  intro u hu
  obtain ⟨x, _, rfl⟩ := List.mem_map.1 hu
  rfl

/-- slices.Clone at whatever slice of ints. -/
theorem clone_any (w : World) (v : Value) (f : List Int) (G : List Nat) (hrow : RowAt w 1 v f.length (f.map intV) G) (hl : f.length ≤ 100000000) :
    Calls Tryd.prog 30 #[v] w fun e w' => ∃ v', e = .returned v' ∧ w'.ownsRow 0 3 1 v' f.length (f.map intV) ∧ (∀ x, x ∈ v'.ownBlock.toList → w.heap.size ≤ x) ∧ Keeps [] w w' := by
  have fin : ∀ (w' : World) (v' : Value) (xs : List Value), w'.ownsRow w.heap.size 3 1 v' f.length xs → w'.ownsRow 0 3 1 v' f.length xs ∧ ∀ x, x ∈ v'.ownBlock.toList → w.heap.size ≤ x := by
    intro w' v' xs h
    refine ⟨World.ownsRow.mono h (Nat.zero_le _), fun x hx => ?_⟩
    rcases h.2 with ⟨rfl, _⟩ | ⟨g, cap, cur, rfl, hb, _⟩
    · simp [Value.ownBlock] at hx
    · simp [Value.ownBlock] at hx; omega
  obtain ⟨ad, cap, rfl, hle, hcm, hao⟩ := hrow.shape
  rcases hf : f with _ | ⟨x, r⟩
  · subst hf
    cases ad with
    | none =>
      refine (Tryd.slices_Clone_int_nil 0 cap w).mono ?_
      rintro e w' ⟨rfl, rfl⟩
      exact ⟨_, rfl, World.ownsRow_nil _ _ _ _, by simp [Value.ownBlock], Keeps.refl _ _⟩
    | some a =>
      refine (Tryd.slices_Clone_int_zero a cap w).mono ?_
      rintro e w' ⟨v', rfl, h1, _, h2⟩
      obtain ⟨h3, h4⟩ := fin w' v' _ h1
      exact ⟨v', rfl, h3, h4, ofBelow h2⟩
  · rw [← hf]
    have hpos : 0 < f.length := by rw [hf]; simp
    obtain ⟨g, off, rfl⟩ := hao (by omega)
    refine (Tryd.slices_Clone_int g off f.length cap f w (Nat.le_refl _) (by omega) (fun j hj => ?_)).mono ?_
    · have := hrow.cell (by omega) j (intV (f.getD j 0)) (by rw [List.getElem?_map, List.getElem?_eq_getElem hj]; simp [List.getD_eq_getElem?_getD, hj])
      exact this
    · rintro e w' ⟨v', rfl, h1, _, h2⟩
      rw [List.take_length] at h1
      obtain ⟨h3, h4⟩ := fin w' v' _ h1
      exact ⟨v', rfl, h3, h4, ofBelow h2⟩

set_option maxHeartbeats 1000000 in
set_option maxRecDepth 100000 in
theorem fates_any (p : Nat) (b : Bk) (F : List Nat) (w : World) (hb : BkAt w p b F) (vl : Value) (L : List Int) (hL : SlSrc w vl (L.map intV)) (hf : b.f.length ≤ 20000000) (hl : L.length ≤ 20) :
    Calls Tryd.prog 13 #[.pointer (some ⟨p, 0, none⟩), vl] w fun e w' => e = .returned (.tuple #[]) ∧ ∃ F', BkAt w' p (b.fates L) F' ∧ Chg F F' w w' := by
  obtain ⟨mb, fv, lv, Gf, Gl, hc⟩ := hb
  have hcl := clone_any w fv b.f Gf hc.fat (by omega)
  obtain ⟨fad, fcap, rfl, _⟩ := hc.fat.shape
  have c3 := cell_of_heap hc.cells 3
  have Hc := Lib.hid hc
  have Hcl := Lib.hid hcl
  have HL := Lib.hid hL
  have Hf := Lib.hid hf
  have Hl := Lib.hid hl
  clear hc hcl hL hf hl
  go_enter Tryd.func13, Tryd.ntmps13
  go_wp2_with (first
    | (go_at_call 30; (with_reducible refine (Hcl.out).mono ?_); rintro e w1 ⟨v', rfl, h1, h2, h3⟩)
    | (at_builtin; refine wpList_appSl tyInts rfl (.tmp 11) (.tmp 12) rfl _ _ _ rfl _ rfl _ (HL.out.newer h3) h1 (one_cell_ints L) ?c1 ?c2 ?c3)
    | go_in)
  case c1 => have := Hf.out; have := Hl.out; rw [List.length_map]; omega
  case c2 => have := Hf.out; have := Hl.out; rw [List.length_map]; unfold maxLen; omega
  case c3 =>
  intro ad' cap' w2 hown hch
  have hk2 : Keeps [] w w2 := h3.trans (F' := v'.ownBlock.toList) hch.keeps (fun x hx => .inr (h2 x hx))
  have hc2 := Hc.out.newer hk2
  have d3 := cell_of_heap hc2.cells 3
  have g3 := free_of_heap hc2.cells 3
  have hfr : ∀ x, x ∈ (Value.slice ad' (b.f.length + L.length) cap').ownBlock.toList → w.heap.size ≤ x := fun x hx => (hch.fresh x hx).elim (h2 x) (fun h => Nat.le_trans h3.size h)
  have hrow := RowAt.own (by rw [← List.map_append] at hown; exact hown) (by omega)
  rw [show b.f.length + L.length = (b.f ++ L).length by rw [List.length_append]] at hrow hfr
  have hlt := Hc.out.lt
  have hF := Hc.out.foot
  have hs := hc2.setF (f' := b.f ++ L) hrow (fun h => by have := hfr _ h; have := hlt p (by rw [hF]; simp); omega) (fun h => by have := hfr _ h; have := hlt mb (by rw [hF]; simp); omega)
    (fun x h h' => by have := hfr _ h; have := hlt x (by rw [hF]; simp [h']); omega)
  rw [show (b.f ++ L).length = b.f.length + L.length by rw [List.length_append]] at hs hfr
  have Hs := Lib.hid hs
  have Hfr := Lib.hid hfr
  have Hk2 := Lib.hid hk2
  have HF := Lib.hid hF
  clear hs hfr hrow hc2 hown hch hk2 hF
  go_wp2
  go_end0
  refine ⟨rfl, _, ⟨_, _, _, _, _, Hs.out.1⟩, (Hk2.out.mono (by simp)).trans Hs.out.2 (fun x hx => .inl (by rw [List.mem_singleton] at hx; rw [hx, HF.out]; simp)), fun x hx => ?_⟩
  simp only [List.mem_cons, List.mem_append] at hx
  rw [HF.out]
  rcases hx with rfl | rfl | hx | hx
  · simp
  · simp
  · exact .inr (Hfr.out x hx)
  · simp [hx]
end Go.Proofs.YtflgagglkkehiaaDoor
