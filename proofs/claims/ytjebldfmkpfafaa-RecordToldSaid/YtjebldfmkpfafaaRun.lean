/- Runs of operations that turn the world: append of one element, a literal of one element. -/
import Derived.Test.YtjebldfmkpfafaaSeq
import Derived.Test.YtjebldfmkpfafaaStep
import Derived.Deep.WholeRow
namespace Go.Proofs.Ytjebldfmkpfafaa
open Go.RowKit
set_option maxRecDepth 100000

/-- An operation of a plain list, its run given. -/
theorem wpList_run {P : Program} {ops : Array Oper} {rest : List Oper} {o : Oper} {a : Act} {w w' : World} {Q : Exit → Act → World → Prop} (hgd : o.guard = none) (v : Value) (hr : (execOp a.eval o).run P w = .ok (.value v) w') (h : wpList P ops Q rest (a.put o.dst v) w') : wpList P ops Q (o :: rest) a w :=
  wpList_plain hgd fun K hK => by
    unfold Oper.wp
    rw [hr]
    exact hK _ _ h
theorem wpList_runS {P : Program} {ops : Array Oper} {rest : List Oper} {o : Oper} {a : Act} {w w' : World} {Q : Exit → Act → World → Prop} (hgd : o.guard = none) (hr : (execOp a.eval o).run P w = .ok .skip w') (h : wpList P ops Q rest (a.put o.dst undef) w') : wpList P ops Q (o :: rest) a w :=
  wpList_plain hgd fun K hK => by
    unfold Oper.wp
    rw [hr]
    exact hK _ _ h

/-- A new variable of many cells. -/
theorem exec_alloc {P : Program} (w : World) (e : TypeId) (ev : Operand → Value) (o : Oper) (ho : o.op = .alloc e) (z : Value) (hz : ∀ w, (zeroValue e).run P w = .ok z w) :
    (execOp ev o).run P w = .ok (.value (.pointer (some ⟨w.heap.size, 0, none⟩))) (w.alloc (.cells z.cells e)) := by
  unfold execOp
  simp [ho, Instr.alloc, hz, newVar, newRow]

theorem zero_any {P : Program} {e : TypeId} {n : Nat} (h : ((P.info? e).bind (·.zero)).map (·.cells.size) = some n) : ∃ z : Value, z.cells.size = n ∧ ∀ w, (zeroValue e).run P w = .ok z w := by
  cases hi : P.info? e with
  | none => simp [hi] at h
  | some it =>
    cases hz : it.zero with
    | none => simp [hi, hz] at h
    | some z => exact ⟨z, by simpa [hi, hz] using h, fun w => by simp [zeroValue, typeInfo, hi, hz]⟩

/-- It is written whole. -/
theorem exec_storeNew {P : Program} (w : World) (e : TypeId) (c : Array Value) (cs : List Value) (hi : (P.info? e).map (·.size) = some cs.length) (hl : c.size = cs.length) (h1 : ∀ v ∈ cs, v.oneCell' = true)
    (ev : Operand → Value) (o : Oper) (p x : Operand) (ho : o.op = .store e p x) (hp : ev p = .pointer (some ⟨w.heap.size, 0, none⟩)) (hx : ev x = .agg cs.toArray) : (execOp ev o).run P (w.alloc (.cells c e)) = .ok .skip (w.alloc (.cells cs.toArray e)) := by
  have hr := run_storeAt_new (P := P) w e c cs.toArray (by simpa using hi) (by simpa using hl) (by simpa using h1)
  unfold execOp
  simp only [ho, hp, hx, Sem.run_bind, hr, Result.andThen_ok]
  rfl

/-- append(s, x), x laid into the block B by then. -/
theorem exec_app1 {P : Program} {t e : TypeId} {size bytes : Nat} {z : Value} (T : SlTy P t e size bytes z) (ty : TypeId) (v : Value) (n : Nat) (xs : List Value) (W w : World) (B : Nat) (us : Array Value)
    (hk : Keeps [] W w) (hn : w.heap[B]? = some (.cells us e))
    (hown : W.ownsRow 0 e size v n xs) (hus : us.size = size) (h1 : ∀ u ∈ us.toList, u.oneCell' = true) (hlen : (n + 1) * bytes ≤ 140737488355328) (h63 : n + 1 ≤ maxLen) :
    ∃ g cap w', (∀ (ev : Operand → Value) (o : Oper) (s x : Operand), o.op = .call { callee := .builtin .append, args := #[s, x], argTypes := #[t, t] } → o.type = ty → ev s = v → ev x = .slice (some ⟨B, 0, none⟩) 1 1 →
        (execOp ev o).run P w = .ok (.value (.slice (some ⟨g, 0, none⟩) (n + 1) cap)) w') ∧
      w'.ownsRow 0 e size (.slice (some ⟨g, 0, none⟩) (n + 1) cap) (n + 1) (xs ++ us.toList) ∧ Chg v.ownBlock.toList [g] W w' := by
  obtain ⟨hu, ⟨i, hi, hz, hsz, hby⟩, hzs, hp⟩ := T
  obtain ⟨g, cap, w', hr, h2, h3, h4, _⟩ := run_append_lies (P := P) w t ty 0 e i z size bytes hu hi hz hsz hby hzs hp v n xs (own_keep hown hk (by simp)) ⟨B, 0, none⟩ 1 1 us.toList (by simp [hus]) (World.news_of_block hn) h1 (by omega) h63 hlen (Nat.zero_le _) w.heap.size rfl
  refine ⟨g, cap, w', ?_, h2, ⟨(hk.mono (F' := v.ownBlock.toList) (by simp)).trans (F' := v.ownBlock.toList) ⟨h3.os, h3.tape, h3.output, h3.size, fun k hk hn => h3.block k hk (fun e => hn (by simp [← e]))⟩ (fun x h => .inl h), fun k hk' => ?_⟩⟩
  · intro ev o s x ho hty hs hx
    subst hty
    unfold execOp
    simp only [ho, resolve, invoke, builtin, Sem.run_bind, Sem.run_pure, Result.andThen_ok, List.map_toArray, List.map_cons, List.map_nil, hs, hx, hr]
  · rw [List.mem_singleton] at hk'
    subst hk'
    rcases h4 with h4 | h4
    · exact .inl (by rw [h4]; simp)
    · exact .inr (by rw [h4]; exact hk.size)

/-- []T{x}. -/
theorem exec_buildOne {P : Program} (w : World) (t e : TypeId) (us : List Value) (hu : P.underlying t = some (.slice e)) (hsz : (P.info? e).map (·.size) = some us.length) (hz : ((P.info? e).bind (·.zero)).isSome = true) (h0 : 0 < us.length) (hsmall : us.length ≤ 2 ^ 24)
    (ev : Operand → Value) (o : Oper) (x : Operand) (ho : o.op = .buildSlice t 1 #[(0, x)]) (hx : (ev x).cells = us.toArray) :
    (execOp ev o).run P w = .ok (.value (.slice (some ⟨w.heap.size, 0, none⟩) 1 1)) (w.alloc (.cells us.toArray e)) := by
  cases hie : P.info? e with
  | none => simp [hie] at hsz
  | some ie =>
    simp only [hie, Option.map_some, Option.some.injEq, Option.bind_some] at hsz hz
    obtain ⟨z, hzz⟩ := Option.isSome_iff_exists.1 hz
    have hr : (Instr.buildSlice t 1 #[(0, ev x)]).run P w = .ok (.slice (some ⟨w.heap.size, 0, none⟩) 1 1) (w.alloc (.cells us.toArray e)) := by
      refine run_buildSlice w t e 1 _ _ ie z hu hie hzz (by rw [hsz]; omega) (by rw [hsz]; omega) ?_
      have h5 := fold_put us 0 0 ((Array.range (1 * us.length)).map (z.cells[· % z.cells.size]!))
      rw [Nat.add_zero, put_all (by simp)] at h5
      simp only [hsz, Instr.fill, hx]
      simp
      rw [← h5]
      simp
    unfold execOp
    simp only [ho, List.map_toArray, List.map_cons, List.map_nil, Sem.run_bind, hr, Result.andThen_ok]
    rfl

/-- A whole array or struct is read. -/
theorem exec_load {P : Program} (w : World) (ty : TypeId) (b off : Nat) (cs : List Value) (d : TypeDesc) (hc : w.rangeAt b off cs) (hu : P.underlying ty = some d) (hd : d.isRow = true) (hi : (P.info? ty).map (·.size) = some cs.length)
    (ev : Operand → Value) (o : Oper) (x : Operand) (ho : o.op = .load ty x) (hx : ev x = .pointer (some ⟨b, off, none⟩)) : (execOp ev o).run P w = .ok (.value (.agg cs.toArray)) w := by
  unfold execOp
  simp only [ho, hx, Sem.run_bind, run_loadAt_mid w b off ty cs d hc hu hd hi, Result.andThen_ok]
  rfl

/-- A struct or an array is built. -/
theorem exec_build {P : Program} (w : World) (t : TypeId) (cells : Array Value) (ev : Operand → Value) (o : Oper) (parts : Array (Nat × Operand)) (ho : o.op = .build t parts)
    (hb : P.built t (parts.map fun (i, x) => (i, ev x)).toList = some cells) : (execOp ev o).run P w = .ok (.value (.agg cells)) w := by
  unfold execOp
  simp only [ho, Sem.run_bind, run_build w t _ cells hb, Result.andThen_ok]
  rfl

theorem exec_build2 {P : Program} (w : World) (t : TypeId) (cells : Array Value) (ev : Operand → Value) (o : Oper) (i j : Nat) (x y : Operand) (ho : o.op = .build t #[(i, x), (j, y)]) (u v : Value) (hx : ev x = u) (hy : ev y = v)
    (hb : P.built t [(i, u), (j, v)] = some cells) : (execOp ev o).run P w = .ok (.value (.agg cells)) w :=
  exec_build w t cells ev o _ ho (by simpa [hx, hy] using hb)

/-- A whole array or struct is stored. -/
theorem exec_storeMid {P : Program} (w : World) (ty : TypeId) (b off : Nat) (cs : List Value) (ht : w.there b off cs.length) (hi : (P.info? ty).map (·.size) = some cs.length) (h1 : ∀ v ∈ cs, v.oneCell' = true)
    (ev : Operand → Value) (o : Oper) (p x : Operand) (ho : o.op = .store ty p x) (hp : ev p = .pointer (some ⟨b, off, none⟩)) (hx : ev x = .agg cs.toArray) : (execOp ev o).run P w = .ok .skip (w.setCells b off cs) := by
  have hr := run_storeAt_mid (P := P) w b off ty cs.toArray (by simpa using ht) (by simpa using hi) (by simpa using h1)
  unfold execOp
  simp only [ho, hp, hx, Sem.run_bind, hr, Result.andThen_ok]
  rfl

/-- copy(d, s): both of the same length, elements of one cell. -/
theorem exec_copyCells {P : Program} (w : World) (dT sT elem : TypeId) (hu : P.underlying dT = some (.slice elem)) (hz : (P.info? elem).map (·.size) = some 1) (b off n dCap : Nat) (kb ko sCap : Nat) (cs : List Value) (hl : cs.length = n)
    (hs : w.rangeAt kb ko cs) (h1 : ∀ v ∈ cs, v.oneCell' = true) (ht : w.there b off n)
    (ev : Operand → Value) (o : Oper) (d x : Operand) (ho : o.op = .call { callee := .builtin .copy, args := #[d, x], argTypes := #[dT, sT] }) (hd : ev d = .slice (some ⟨b, off, none⟩) n dCap) (hx : ev x = .slice (some ⟨kb, ko, none⟩) n sCap) :
    (execOp ev o).run P w = .ok (.value (goInt n)) (w.setCells b off cs) := by
  subst hl
  have hst := run_storeCells_cells (P := P) b off cs 0 w (by intro j hj; simpa using (ht j hj).1) (by intro j hj; simpa using (ht j hj).2) h1
  have hfc := run_firstCells_some (P := P) (w := w) 1 cs.length ⟨kb, ko, none⟩ cs.length sCap cs (by simp) (fun j v hj => by rw [Addr.add_mid]; exact hs j v hj)
  have hr : (Builtin.copy_ #[dT, sT] o.type #[.slice (some ⟨b, off, none⟩) cs.length dCap, .slice (some ⟨kb, ko, none⟩) cs.length sCap]).run P w = .ok (goInt cs.length) (w.setCells b off cs) := by
    cases hq : P.info? elem with
    | none => simp [hq] at hz
    | some i =>
      have hi : i.size = 1 := by simpa [hq] using hz
      have hm : Nat.min cs.length cs.length = cs.length := Nat.min_self _
      simp [Builtin.copy_, run_underlying hu, Builtin.lenOf, sizeOf, typeInfo, hq, hi, hm, hfc]
      rw [Nat.add_zero] at hst
      rw [hst]
      rfl
  unfold execOp
  simp only [ho, resolve, invoke, builtin, Sem.run_bind, Sem.run_pure, Result.andThen_ok, List.map_toArray, List.map_cons, List.map_nil, hd, hx, hr]
end Go.Proofs.Ytjebldfmkpfafaa
