/- A slice at any offset, appended to by a whole slice. -/
import Derived.Test.YtflgagglkkehiaaDoorBkM
import Derived.Deep.Upon
namespace Go.Proofs.YtflgagglkkehiaaDoor
open Go.RowKit Go.Maps
section
variable {w w' : World} {size n : Nat} {v : Value} {xs : List Value} {G : List Nat}

/-- append(s, x...), x a slice that is not nil. -/
theorem exec_appN {P : Program} {t e : TypeId} {bytes : Nat} {z : Value} (T : SlTy P t e size bytes z) (ty : TypeId) (W w : World) (sa : Addr) (m sc : Nat) (news : List Value)
    (hk : Keeps [] W w) (hm : 0 < m) (hnl : news.length = m * size) (hnews : ∀ j u, news[j]? = some u → w.cell? (sa.add j) = some u)
    (hown : RowAt W size v n xs G) (h1 : ∀ u ∈ news, u.oneCell' = true) (hlen : (n + m) * bytes ≤ 140737488355328) (h63 : n + m ≤ maxLen) :
    ∃ v' G' w', (∀ (ev : Operand → Value) (o : Oper) (s x : Operand), o.op = .call { callee := .builtin .append, args := #[s, x], argTypes := #[t, t] } → o.type = ty → ev s = v → ev x = .slice (some sa) m sc →
        (execOp ev o).run P w = .ok (.value v') w') ∧
      RowAt w' size v' (n + m) (xs ++ news) G' ∧ Chg G G' W w' := by
  have hown' := hown.keep hk (by simp)
  obtain ⟨hu, ⟨i, hi, hz, hsz, hby⟩, hzs, hp⟩ := T
  obtain ⟨ad, cap, rfl, hl, hnc, hcm, hG0, hG⟩ := hown'
  have key : ∀ v' w', (Builtin.append_ #[t, t] ty #[.slice ad n cap, .slice (some sa) m sc]).run P w = .ok v' w' → (∀ (ev : Operand → Value) (o : Oper) (s x : Operand), o.op = .call { callee := .builtin .append, args := #[s, x], argTypes := #[t, t] } → o.type = ty → ev s = .slice ad n cap → ev x = .slice (some sa) m sc →
        (execOp ev o).run P w = .ok (.value v') w') := by
    intro v' w' hr ev o s x ho hty hs hx
    subst hty
    unfold execOp
    simp only [ho, resolve, invoke, builtin, Sem.run_bind, Sem.run_pure, Result.andThen_ok, List.map_toArray, List.map_cons, List.map_nil, hs, hx, hr]
  -- a new row
  have grow : ∀ v' w', (Builtin.append_ #[t, t] ty #[.slice ad n cap, .slice (some sa) m sc]).run P w = .ok v' w' → w'.ownsRow w.heap.size e size v' (n + m) (xs ++ news) → w.grownBy w' none → ∃ G', RowAt w' size v' (n + m) (xs ++ news) G' ∧ Chg G G' W w' := by
    intro v' w' _ ho hg
    have hlo := ho
    obtain ⟨hl2, h2⟩ := ho
    refine ⟨_, RowAt.own (World.ownsRow.mono hlo (Nat.zero_le _)) hp, ?_⟩
    refine ⟨(hk.mono (F' := G) (by simp)).trans (F' := G) (⟨hg.os, hg.tape, hg.output, hg.size, fun k hk' _ => hg.block k hk' (by simp)⟩) (fun x h => .inl h), fun k hk' => .inr ?_⟩
    rcases h2 with ⟨rfl, h0⟩ | ⟨g, cap', cur, rfl, hb, _⟩
    · omega
    · simp [Value.ownBlock] at hk'
      have := hk.size
      omega
  by_cases hroom : n + m ≤ cap
  · obtain ⟨g, off, rfl, hGg, hg, hcell, hspare⟩ := hG (by omega)
    have hrc : m * size ≤ (cap - n) * size := Nat.mul_le_mul_right _ (by omega)
    have hul := hnl
    have hrun := run_append_room_cells (P := P) w t ty e i hu hi g off n cap sa m sc news (by rw [hsz]; exact hul) hnews h1 hroom
      (fun j hj => by rw [hsz]; exact (hspare j (by omega)).1) (fun j hj => by rw [hsz]; exact (hspare j (by omega)).2)
    rw [hsz] at hrun
    refine ⟨_, G, _, key _ _ hrun, ?_, ?_⟩
    · refine ⟨_, cap, rfl, by rw [List.length_append, hl, hul, Nat.add_mul], hroom, hcm, fun x hx => Nat.lt_of_lt_of_le (hG0 x hx) (keeps_setCells news (off + n * size) w (b := g)).size, fun _ => ⟨g, off, rfl, hGg, ?_, ?_, ?_⟩⟩
      · exact Nat.lt_of_lt_of_le hg (keeps_setCells news (off + n * size) w (b := g)).size
      · intro j u hj
        by_cases hjx : j < xs.length
        · rw [List.getElem?_append_left hjx] at hj
          rw [World.cell?_setCells_out g _ _ _ _ (fun _ _ => Or.inl (by show off + j < off + n * size; omega))]
          exact hcell j u hj
        · rw [List.getElem?_append_right (by omega)] at hj
          obtain ⟨hj1, hj2⟩ := List.getElem?_eq_some_iff.1 hj
          have := World.cell?_setCells_in g news (off + n * size) w (fun j hj => (hspare j (by omega)).1) (j - xs.length) hj1
          rw [show off + n * size + (j - xs.length) = off + j by omega] at this
          rw [this, hj2]
      · intro j hj
        have h3 : (cap - (n + m)) * size + m * size = (cap - n) * size := by rw [← Nat.add_mul]; congr 1; omega
        have h4 : off + (n + m) * size + j = off + n * size + (m * size + j) := by rw [Nat.add_mul]; omega
        obtain ⟨s1, s2⟩ := hspare (m * size + j) (by omega)
        rw [h4, World.frozen?_setCells, World.cell?_setCells_out g _ _ _ _ (fun _ _ => Or.inr (by show off + n * size + news.length ≤ off + n * size + (m * size + j); omega))]
        exact ⟨s1, s2⟩
    · refine ⟨(hk.mono (F' := G) (by simp)).trans (F' := [g]) (keeps_setCells _ _ _) (fun x h => .inl (by rw [hGg]; exact h)), fun k h => .inl h⟩
  · rcases hao : ad with _ | a0
    · have hc0 : cap = 0 := by
        rcases Nat.eq_zero_or_pos cap with h0 | h0
        · exact h0
        · obtain ⟨g, off, e1, _⟩ := hG h0
          rw [hao] at e1; cases e1
      subst hc0
      obtain rfl : n = 0 := by omega
      obtain rfl : xs = [] := List.length_eq_zero_iff.1 (by simpa using hl)
      subst hao
      obtain ⟨g, cap, w', hr, h2, h3, h4, _⟩ := run_append_lies (P := P) w t ty w.heap.size e i z size bytes hu hi hz hsz hby hzs hp (.slice none 0 0) 0 [] (World.ownsRow_nil _ _ _ _) sa m sc news hnl hnews h1 hm h63 hlen (Nat.le_refl _) w.heap.size rfl
      obtain ⟨G', h5, h6⟩ := grow _ w' hr h2 h3
      exact ⟨_, G', w', key _ _ hr, h5, h6⟩
    · obtain ⟨v', w', hr, ho, hg⟩ := run_append_arg_grows (P := P) w t ty e i z size bytes hu hi hz hsz hby hzs hp a0 n cap xs hl (fun j u hj => by
        rcases Nat.eq_zero_or_pos cap with h0 | h0
        · have : xs.length = 0 := by rw [hl, show n = 0 by omega, Nat.zero_mul]
          rw [List.length_eq_zero_iff.1 this] at hj
          simp at hj
        · obtain ⟨g, off, e1, _, _, e4, _⟩ := hG h0
          rw [hao] at e1
          injection e1 with e1
          subst e1
          rw [Addr.add_lit]
          exact e4 j u hj) sa m sc news hnl hnews (by omega) h63 hlen
      rw [← hao] at hr
      obtain ⟨G', h3, h4⟩ := grow v' w' hr ho hg
      exact ⟨v', G', w', by subst hao; exact key _ _ hr, h3, h4⟩

/-- What may be appended whole: nil, or so many elements. -/
def SrcAt (w : World) (size : Nat) (x : Value) (m : Nat) (news : List Value) : Prop := (x = .slice none 0 0 ∧ m = 0 ∧ news = []) ∨ ∃ a c, x = .slice (some a) m c ∧ news.length = m * size ∧ ∀ j u, news[j]? = some u → w.cell? (a.add j) = some u
theorem SrcAt.newer {x : Value} {m : Nat} {news : List Value} (h : SrcAt w size x m news) (k : Keeps [] w w') : SrcAt w' size x m news := by
  rcases h with h | ⟨ad, c, h1, h2, h3⟩
  · exact .inl h
  · exact .inr ⟨ad, c, h1, h2, fun j u hj => k.cell0 (h3 j u hj)⟩

theorem exec_appM {P : Program} {t e : TypeId} {bytes : Nat} {z : Value} (T : SlTy P t e size bytes z) (ty : TypeId) (W w : World) (xv : Value) (m : Nat) (news : List Value)
    (hk : Keeps [] W w) (hsrc : SrcAt w size xv m news)
    (hown : RowAt W size v n xs G) (h1 : ∀ u ∈ news, u.oneCell' = true) (hlen : (n + m) * bytes ≤ 140737488355328) (h63 : n + m ≤ maxLen) :
    ∃ v' G' w', (∀ (ev : Operand → Value) (o : Oper) (s x : Operand), o.op = .call { callee := .builtin .append, args := #[s, x], argTypes := #[t, t] } → o.type = ty → ev s = v → ev x = xv →
        (execOp ev o).run P w = .ok (.value v') w') ∧
      RowAt w' size v' (n + m) (xs ++ news) G' ∧ Chg G G' W w' := by
  have nothing : m = 0 → news = [] → Src P size t xv 0 [] w → ∃ v' G' w', (∀ (ev : Operand → Value) (o : Oper) (s x : Operand), o.op = .call { callee := .builtin .append, args := #[s, x], argTypes := #[t, t] } → o.type = ty → ev s = v → ev x = xv →
        (execOp ev o).run P w = .ok (.value v') w') ∧ RowAt w' size v' (n + m) (xs ++ news) G' ∧ Chg G G' W w' := by
    rintro rfl rfl hs
    have hown' := hown.keep hk (by simp)
    obtain ⟨hu, ⟨i, hi, hz, hsz, hby⟩, hzs, hp⟩ := T
    obtain ⟨ad, cap, rfl, hnc, _⟩ := hown'.shape
    refine ⟨.slice ad n cap, G, w, fun ev o s x ho hty hs' hx' => ?_, by rw [List.append_nil, Nat.add_zero]; exact hown', ⟨hk.mono (by simp), fun k h => .inl h⟩⟩
    subst hty
    have hr := run_append_nothing (P := P) w t t o.type e i hu hi ad n cap hnc xv (by rw [hsz]; exact hs)
    unfold execOp
    simp only [ho, resolve, invoke, builtin, Sem.run_bind, Sem.run_pure, Result.andThen_ok, List.map_toArray, List.map_cons, List.map_nil, hs', hx', hr]
  rcases hsrc with ⟨rfl, rfl, rfl⟩ | ⟨a, c, rfl, hnl, hnews⟩
  · exact nothing rfl rfl (Src.ofNil w T.und 0)
  · rcases Nat.eq_zero_or_pos m with h0 | h0
    · subst h0
      obtain rfl : news = [] := List.length_eq_zero_iff.1 (by simpa using hnl)
      exact nothing rfl rfl (Src.ofSlice w T.und a 0 c [] (by simp) (by simp) (by simp))
    · exact exec_appN T ty W w a m c news hk h0 hnl hnews hown h1 hlen h63
end
end Go.Proofs.YtflgagglkkehiaaDoor
