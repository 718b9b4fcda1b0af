/- Layer 5: a bucket in memory; a slice at any offset, appended to. -/
import Derived.Test.YtflgagglkkehiaaDoorBkP
import Derived.Test.YtflgagglkkehiaaDoorRun
import Derived.Test.YtflgagglkkehiaaDoorArr
import Derived.ArgAppend
import Derived.Deep.Onto
namespace Go.Proofs.YtflgagglkkehiaaDoor
open Go.RowKit Go.Maps

/-! ## a slice whose spare cells are its own -/

def RowAt (w : World) (size : Nat) (v : Value) (n : Nat) (xs : List Value) (G : List Nat) : Prop :=
  ∃ ad cap, v = .slice ad n cap ∧ xs.length = n * size ∧ n ≤ cap ∧ cap ≤ maxLen ∧ (∀ x, x ∈ G → x < w.heap.size) ∧
    (0 < cap → ∃ g off, ad = some ⟨g, off, none⟩ ∧ G = [g] ∧ g < w.heap.size ∧ (∀ j u, xs[j]? = some u → w.cell? ⟨g, off + j, none⟩ = some u) ∧
      (∀ j, j < (cap - n) * size → (w.cell? ⟨g, off + n * size + j, none⟩).isSome = true ∧ w.frozen? ⟨g, off + n * size + j, none⟩ = false))

section
variable {w w' : World} {size n : Nat} {v : Value} {xs : List Value} {G : List Nat}

theorem RowAt.keep {F : List Nat} (h : RowAt w size v n xs G) (k : Keeps F w w') (hd : ∀ x, x ∈ G → x ∉ F) : RowAt w' size v n xs G := by
  obtain ⟨ad, cap, h1, h2, h3, h4, h5, h6⟩ := h
  refine ⟨ad, cap, h1, h2, h3, h4, fun x hx => Nat.lt_of_lt_of_le (h5 x hx) k.size, fun h0 => ?_⟩
  obtain ⟨g, off, e1, e2, e3, e4, e5⟩ := h6 h0
  have hb := k.block g e3 (hd g (by rw [e2]; simp))
  refine ⟨g, off, e1, e2, Nat.lt_of_lt_of_le e3 k.size, fun j u hj => (World.cell?_of_block (a := ⟨g, off + j, none⟩) hb).trans (e4 j u hj), fun j hj => ?_⟩
  obtain ⟨s1, s2⟩ := e5 j hj
  exact ⟨by rw [World.cell?_of_block (a := ⟨g, off + n * size + j, none⟩) hb]; exact s1, by rw [World.frozen?_of_block (a := ⟨g, off + n * size + j, none⟩) hb]; exact s2⟩
theorem RowAt.none' : RowAt w size (.slice none 0 0) 0 [] [] := ⟨_, _, rfl, by simp, Nat.le_refl _, Nat.zero_le _, (by simp), fun h => absurd h (by omega)⟩
theorem RowAt.lt (h : RowAt w size v n xs G) : ∀ x, x ∈ G → x < w.heap.size := by
  obtain ⟨ad, cap, h1, h2, h3, h4, h5, h6⟩ := h
  exact h5
theorem RowAt.own {e : TypeId} (h : w.ownsRow 0 e size v n xs) (_hs : 0 < size) : RowAt w size v n xs v.ownBlock.toList := by
  obtain ⟨hl, h2⟩ := h
  rcases h2 with ⟨rfl, rfl⟩ | ⟨g, cap, cur, rfl, hb, hh, hnc, hcm, hsz, ht⟩
  · obtain rfl : xs = [] := List.length_eq_zero_iff.1 (by simpa using hl)
    exact RowAt.none'
  · have hg := (Array.getElem?_eq_some_iff.1 hh).1
    refine ⟨_, cap, rfl, hl, hnc, hcm, fun x hx => ?_, fun _ => ⟨g, 0, rfl, rfl, hg, fun j u hj => ?_, fun j hj => ?_⟩⟩
    · simp [Value.ownBlock] at hx; omega
    · rw [Nat.zero_add, cell_of_heap hh]
      rw [← ht] at hj
      have hjl : j < n * size := by
        have := (List.getElem?_eq_some_iff.1 hj).1
        rw [List.length_take] at this
        omega
      rw [List.getElem?_take_of_lt hjl] at hj
      simpa using hj
    · have hlt : 0 + n * size + j < cur.size := by
        have : (cap - n) * size + n * size = cap * size := by rw [← Nat.add_mul, Nat.sub_add_cancel hnc]
        rw [hsz]; omega
      rw [cell_of_heap hh, free_of_heap hh]
      exact ⟨by rw [Array.getElem?_eq_getElem hlt]; rfl, rfl⟩

theorem RowAt.shape (h : RowAt w size v n xs G) : ∃ ad cap, v = .slice ad n cap ∧ n ≤ cap ∧ cap ≤ maxLen ∧ (0 < cap → ∃ g off, ad = some ⟨g, off, none⟩) := by
  obtain ⟨ad, cap, h1, h2, h3, h4, h5, h6⟩ := h
  exact ⟨ad, cap, h1, h3, h4, fun h0 => by obtain ⟨g, off, e, _⟩ := h6 h0; exact ⟨g, off, e⟩⟩
theorem RowAt.cell {g off cap : Nat} (h : RowAt w size (.slice (some ⟨g, off, none⟩) n cap) n xs G) (h0 : 0 < cap) : ∀ j u, xs[j]? = some u → w.cell? ⟨g, off + j, none⟩ = some u := by
  obtain ⟨ad, cap', h1, h2, h3, h4, h5, h6⟩ := h
  injection h1 with e1 _ e2
  subst e2
  obtain ⟨g', off', e3, _, _, h7, _⟩ := h6 h0
  rw [← e1] at e3
  injection e3 with e3
  injection e3 with e4 e5
  subst e4; subst e5
  exact h7
theorem RowAt.drop {g off cap : Nat} (h : RowAt w size (.slice (some ⟨g, off, none⟩) n cap) n xs G) (k : Nat) (hk : k ≤ n) (hc : k < cap) :
    RowAt w size (.slice (some ⟨g, off + k * size, none⟩) (n - k) (cap - k)) (n - k) (xs.drop (k * size)) G := by
  obtain ⟨ad, cap', h1, h2, h3, h4, h5, h6⟩ := h
  injection h1 with e1 _ e2
  subst e2
  obtain ⟨g', off', e3, hG, hg, h7, h8⟩ := h6 (by omega)
  rw [← e1] at e3
  injection e3 with e3
  injection e3 with e4 e5
  subst e4; subst e5
  have hnk : (n - k) * size + k * size = n * size := by rw [← Nat.add_mul, Nat.sub_add_cancel hk]
  refine ⟨_, _, rfl, by rw [List.length_drop, h2]; omega, by omega, by omega, h5, fun _ => ⟨g, _, rfl, hG, hg, fun j u hj => ?_, fun j hj => ?_⟩⟩
  · rw [List.getElem?_drop] at hj
    have := h7 _ _ hj
    rwa [← Nat.add_assoc] at this
  · rw [show cap - k - (n - k) = cap - n by omega] at hj
    have := h8 j hj
    rwa [show off + n * size + j = off + k * size + (n - k) * size + j by omega] at this
theorem RowAt.cut {ad : Option Addr} {cap : Nat} (h : RowAt w size (.slice ad n cap) n xs G) : RowAt w size (.slice ad 0 0) 0 [] G := by
  obtain ⟨ad', cap', h1, h2, h3, h4, h5, h6⟩ := h
  exact ⟨_, _, rfl, by simp, Nat.le_refl _, by omega, h5, fun h => absurd h (by omega)⟩
theorem RowAt.take {ad : Option Addr} {cap : Nat} (h : RowAt w size (.slice ad n cap) n xs G) (k : Nat) (hk : k ≤ n) : RowAt w size (.slice ad k k) k (xs.take (k * size)) G := by
  obtain ⟨ad', cap', h1, h2, h3, h4, h5, h6⟩ := h
  injection h1 with e1 _ e2
  subst e1; subst e2
  have hkn : k * size ≤ n * size := Nat.mul_le_mul_right _ hk
  refine ⟨_, _, rfl, by rw [List.length_take, h2]; omega, Nat.le_refl _, by omega, h5, fun h0 => ?_⟩
  obtain ⟨g, off, e3, hG, hg, h7, h8⟩ := h6 (by omega)
  refine ⟨g, off, e3, hG, hg, fun j u hj => ?_, fun j hj => by rw [Nat.sub_self, Nat.zero_mul] at hj; omega⟩
  have hjl : j < k * size := by
    have := (List.getElem?_eq_some_iff.1 hj).1
    rw [List.length_take] at this
    omega
  rw [List.getElem?_take_of_lt hjl] at hj
  exact h7 j u hj

/-- append(s, x), x laid into the block B by then. -/
theorem exec_appR {P : Program} {t e : TypeId} {bytes : Nat} {z : Value} (T : SlTy P t e size bytes z) (ty : TypeId) (W w : World) (B : Nat) (us : Array Value)
    (hk : Keeps [] W w) (hn : w.heap[B]? = some (.cells us e))
    (hown : RowAt W size v n xs G) (hus : us.size = size) (h1 : ∀ u ∈ us.toList, u.oneCell' = true) (hlen : (n + 1) * bytes ≤ 140737488355328) (h63 : n + 1 ≤ maxLen) :
    ∃ v' G' w', (∀ (ev : Operand → Value) (o : Oper) (s x : Operand), o.op = .call { callee := .builtin .append, args := #[s, x], argTypes := #[t, t] } → o.type = ty → ev s = v → ev x = .slice (some ⟨B, 0, none⟩) 1 1 →
        (execOp ev o).run P w = .ok (.value v') w') ∧
      RowAt w' size v' (n + 1) (xs ++ us.toList) G' ∧ Chg G G' W w' := by
  have hown' := hown.keep hk (by simp)
  obtain ⟨hu, ⟨i, hi, hz, hsz, hby⟩, hzs, hp⟩ := T
  obtain ⟨ad, cap, rfl, hl, hnc, hcm, hG0, hG⟩ := hown'
  have hnews := World.news_of_block hn
  have key : ∀ v' w', (Builtin.append_ #[t, t] ty #[.slice ad n cap, .slice (some ⟨B, 0, none⟩) 1 1]).run P w = .ok v' w' → (∀ (ev : Operand → Value) (o : Oper) (s x : Operand), o.op = .call { callee := .builtin .append, args := #[s, x], argTypes := #[t, t] } → o.type = ty → ev s = .slice ad n cap → ev x = .slice (some ⟨B, 0, none⟩) 1 1 →
        (execOp ev o).run P w = .ok (.value v') w') := by
    intro v' w' hr ev o s x ho hty hs hx
    subst hty
    unfold execOp
    simp only [ho, resolve, invoke, builtin, Sem.run_bind, Sem.run_pure, Result.andThen_ok, List.map_toArray, List.map_cons, List.map_nil, hs, hx, hr]
  -- a new row
  have grow : ∀ v' w', (Builtin.append_ #[t, t] ty #[.slice ad n cap, .slice (some ⟨B, 0, none⟩) 1 1]).run P w = .ok v' w' → w'.ownsRow w.heap.size e size v' (n + 1) (xs ++ us.toList) → w.grownBy w' none → ∃ G', RowAt w' size v' (n + 1) (xs ++ us.toList) G' ∧ Chg G G' W w' := by
    intro v' w' _ ho hg
    have hlo := ho
    obtain ⟨hl2, h2⟩ := ho
    refine ⟨_, RowAt.own (World.ownsRow.mono hlo (Nat.zero_le _)) hp, ?_⟩
    refine ⟨(hk.mono (F' := G) (by simp)).trans (F' := G) (⟨hg.os, hg.tape, hg.output, hg.size, fun k hk' _ => hg.block k hk' (by simp)⟩) (fun x h => .inl h), fun k hk' => .inr ?_⟩
    rcases h2 with ⟨rfl, h0⟩ | ⟨g, cap', cur, rfl, hb, _⟩
    · omega
    · simp [Value.ownBlock] at hk'
      have := hk.size
      omega
  by_cases hroom : n + 1 ≤ cap
  · obtain ⟨g, off, rfl, hGg, hg, hcell, hspare⟩ := hG (by omega)
    have hrc : size ≤ (cap - n) * size := Nat.le_mul_of_pos_left _ (by omega)
    have hul : us.toList.length = size := by simpa using hus
    have hrun := run_append_room_cells (P := P) w t ty e i hu hi g off n cap ⟨B, 0, none⟩ 1 1 us.toList (by rw [hsz, Nat.one_mul]; exact hul) hnews h1 hroom
      (fun j hj => by rw [hsz]; exact (hspare j (by omega)).1) (fun j hj => by rw [hsz]; exact (hspare j (by omega)).2)
    rw [hsz] at hrun
    refine ⟨_, G, _, key _ _ hrun, ?_, ?_⟩
    · refine ⟨_, cap, rfl, by rw [List.length_append, hl, hul, Nat.add_mul, Nat.one_mul], hroom, hcm, fun x hx => Nat.lt_of_lt_of_le (hG0 x hx) (keeps_setCells us.toList (off + n * size) w (b := g)).size, fun _ => ⟨g, off, rfl, hGg, ?_, ?_, ?_⟩⟩
      · exact Nat.lt_of_lt_of_le hg (keeps_setCells us.toList (off + n * size) w (b := g)).size
      · intro j u hj
        by_cases hjx : j < xs.length
        · rw [List.getElem?_append_left hjx] at hj
          rw [World.cell?_setCells_out g _ _ _ _ (fun _ _ => Or.inl (by show off + j < off + n * size; omega))]
          exact hcell j u hj
        · rw [List.getElem?_append_right (by omega)] at hj
          obtain ⟨hj1, hj2⟩ := List.getElem?_eq_some_iff.1 hj
          have := World.cell?_setCells_in g us.toList (off + n * size) w (fun j hj => (hspare j (by omega)).1) (j - xs.length) hj1
          rw [show off + n * size + (j - xs.length) = off + j by omega] at this
          rw [this, hj2]
      · intro j hj
        have h3 : (cap - (n + 1)) * size + size = (cap - n) * size := by rw [show cap - n = (cap - (n + 1)) + 1 by omega, Nat.add_mul, Nat.one_mul]
        have h4 : off + (n + 1) * size + j = off + n * size + (size + j) := by rw [Nat.add_mul, Nat.one_mul]; omega
        obtain ⟨s1, s2⟩ := hspare (size + j) (by omega)
        rw [h4, World.frozen?_setCells, World.cell?_setCells_out g _ _ _ _ (fun _ _ => Or.inr (by show off + n * size + us.toList.length ≤ off + n * size + (size + j); omega))]
        exact ⟨s1, s2⟩
    · refine ⟨(hk.mono (F' := G) (by simp)).trans (F' := [g]) (keeps_setCells _ _ _) (fun x h => .inl (by rw [hGg]; exact h)), fun k h => .inl h⟩
  · rcases hao : ad with _ | a0
    · have hc0 : cap = 0 := by
        rcases Nat.eq_zero_or_pos cap with h0 | h0
        · exact h0
        · obtain ⟨g, off, e1, _⟩ := hG h0
          rw [hao] at e1; cases e1
      subst hc0
      obtain rfl : n = 0 := by omega
      obtain rfl : xs = [] := List.length_eq_zero_iff.1 (by simpa using hl)
      subst hao
      obtain ⟨g, cap, w', hr, h2, h3, h4, _⟩ := run_append_lies (P := P) w t ty w.heap.size e i z size bytes hu hi hz hsz hby hzs hp (.slice none 0 0) 0 [] (World.ownsRow_nil _ _ _ _) ⟨B, 0, none⟩ 1 1 us.toList (by simp [hus]) hnews h1 (by omega) h63 hlen (Nat.le_refl _) w.heap.size rfl
      obtain ⟨G', h5, h6⟩ := grow _ w' hr h2 h3
      exact ⟨_, G', w', key _ _ hr, h5, h6⟩
    · obtain ⟨v', w', hr, ho, hg⟩ := run_append_arg_grows (P := P) w t ty e i z size bytes hu hi hz hsz hby hzs hp a0 n cap xs hl (fun j u hj => by
        rcases Nat.eq_zero_or_pos cap with h0 | h0
        · have : xs.length = 0 := by rw [hl, show n = 0 by omega, Nat.zero_mul]
          rw [List.length_eq_zero_iff.1 this] at hj
          simp at hj
        · obtain ⟨g, off, e1, _, _, e4, _⟩ := hG h0
          rw [hao] at e1
          injection e1 with e1
          subst e1
          rw [Addr.add_lit]
          exact e4 j u hj) ⟨B, 0, none⟩ 1 1 us.toList (by simp [hus]) hnews (by omega) h63 hlen
      rw [← hao] at hr
      obtain ⟨G', h3, h4⟩ := grow v' w' hr ho hg
      exact ⟨v', G', w', by subst hao; exact key _ _ hr, h3, h4⟩
end
end Go.Proofs.YtflgagglkkehiaaDoor
