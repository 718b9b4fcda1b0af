/- A region that draws its order: append of one element as one step. -/
import Derived.Test.YtjebldfmkpfafaaArr
import Derived.Deep.RegionHeld3
import Derived.Deep.AppendLies
import Derived.Great.BuildSlice
namespace Go.Proofs.Ytjebldfmkpfafaa
open Go.RowKit
set_option maxRecDepth 100000

theorem own_keep {w w' : World} {e : TypeId} {size n : Nat} {v : Value} {xs : List Value} {G : List Nat} (h : w.ownsRow 0 e size v n xs) (k : Keeps G w w') (hd : ∀ x, x ∈ v.ownBlock.toList → x ∉ G) : w'.ownsRow 0 e size v n xs := by
  refine ⟨h.1, ?_⟩
  rcases h.2 with hn | ⟨g, cap, cur, rfl, hbg, hg, r⟩
  · exact .inl hn
  · exact .inr ⟨g, cap, cur, rfl, hbg, k.some hg (hd _ (by simp [Value.ownBlock])), r⟩

/-- append(s, x) inside such a region: x was laid into the block B by then, behind W. -/
theorem step_app1 {P : Program} {t e : TypeId} {size bytes : Nat} {z : Value} (T : SlTy P t e size bytes z) {ops : Array Oper} {o : Oper} {a : Act} {w : World} {K : Act → World → Prop} {Q : Exit → Act → World → Prop} {E : Prop} (hgd : o.guard = none) (s x : Operand)
    (ho : o.op = .call { callee := .builtin .append, args := #[s, x], argTypes := #[t, t] }) (v : Value) (n : Nat) (xs : List Value) (hs : a.eval s = v) (W : World) (B : Nat) (us : Array Value)
    (hx : a.eval x = .slice (some ⟨B, 0, none⟩) 1 1) (hk : Keeps [] W w) (hn : w.heap[B]? = some (.cells us e))
    (hown : W.ownsRow 0 e size v n xs) (hus : us.size = size) (h1 : ∀ u ∈ us.toList, u.oneCell' = true) (hlen : (n + 1) * bytes ≤ 140737488355328) (h63 : n + 1 ≤ maxLen)
    (h : ∀ g cap w', w'.ownsRow 0 e size (.slice (some ⟨g, 0, none⟩) (n + 1) cap) (n + 1) (xs ++ us.toList) → Chg v.ownBlock.toList [g] W w' → K (a.put o.dst (.slice (some ⟨g, 0, none⟩) (n + 1) cap)) w') :
    if Region.wanted o (yielded ops a.tmps) = true then Oper.wp P o a w K Q else E := by
  obtain ⟨hu, ⟨i, hi, hz, hsz, hby⟩, hzs, hp⟩ := T
  refine step_append_lies w hgd s x t ho 0 e i z size bytes hu hi hz hsz hby hzs hp v n xs hs (own_keep hown hk (by simp)) ⟨B, 0, none⟩ 1 1 us.toList hx (by simp [hus]) (World.news_of_block hn) h1 (by omega) h63 hlen (Nat.zero_le _) w.heap.size rfl ?_
  intro g cap w' h2 h3 h4 h5
  refine h g cap w' h2 ⟨(hk.mono (F' := v.ownBlock.toList) (by simp)).trans (F' := v.ownBlock.toList) ⟨h3.os, h3.tape, h3.output, h3.size, fun k hk hn => h3.block k hk (fun e => hn (by simp [← e]))⟩ (fun x h => .inl h), fun k hk' => ?_⟩
  rw [List.mem_singleton] at hk'
  subst hk'
  rcases h4 with h4 | h4
  · exact .inl (by rw [h4]; simp)
  · exact .inr (by rw [h4]; exact hk.size)

/-- A read that yields a value, its run given. -/
theorem still_run {P : Program} {ops : Array Oper} {w : World} {Q : Act → Prop} {a : Act} {o : Oper} {rest : List Oper} (hgd : o.guard = none) (v : Value) (hr : (execOp a.eval o).run P w = .ok (.value v) w) (h : wpStill P ops w Q rest (a.put o.dst v)) : wpStill P ops w Q (o :: rest) a := by
  refine wpStill_step (fun K hK => ?_)
  have hw : Region.wanted o (yielded ops a.tmps) = true := by simp [Region.wanted, hgd]
  rw [if_pos hw]
  unfold Oper.still
  rw [hr]
  exact ⟨rfl, hK _ h⟩

/-- A whole array or struct is read. -/
theorem still_load_mid {P : Program} {ops : Array Oper} {w : World} {Q : Act → Prop} {a : Act} {o : Oper} {rest : List Oper} (hgd : o.guard = none) (ty : TypeId) (x : Operand) (ho : o.op = .load ty x)
    (b off : Nat) (hx : a.eval x = .pointer (some ⟨b, off, none⟩)) (cs : List Value) (d : TypeDesc) (hc : w.rangeAt b off cs) (hu : P.underlying ty = some d) (hd : d.isRow = true) (hi : (P.info? ty).map (·.size) = some cs.length)
    (h : wpStill P ops w Q rest (a.put o.dst (.agg cs.toArray))) : wpStill P ops w Q (o :: rest) a := by
  refine still_run hgd (.agg cs.toArray) ?_ h
  unfold execOp
  simp only [ho, hx, Sem.run_bind, run_loadAt_mid w b off ty cs d hc hu hd hi, Result.andThen_ok]
  rfl

theorem fold_put : ∀ (sc : List Value) (n o : Nat) (cs : Array Value), (sc.zipIdx n).foldl (fun cs x => cs.setIfInBounds (o + x.snd) x.fst) cs = put cs (o + n) sc
  | [], _, _, _ => rfl
  | v :: r, n, o, cs => by
    rw [List.zipIdx_cons, List.foldl_cons, fold_put r]
    rfl

theorem put_all {Z : Array Value} {us : List Value} (h : Z.size = us.length) : put Z 0 us = us.toArray := by
  apply Array.toList_inj.1
  rw [put_toList _ _ _ (by omega), List.take_zero, Nat.zero_add, List.drop_of_length_le (by simp; omega)]
  simp

theorem put_tail {Z : Array Value} {x : Value} {us : List Value} (h : Z.size = us.length + 1) : put (Z.setIfInBounds 0 x) 1 us = (x :: us).toArray := by
  apply Array.toList_inj.1
  rw [put_toList _ _ _ (by simp; omega)]
  have hz : Z.toList.length = us.length + 1 := by simpa using h
  rw [List.drop_of_length_le (by simp; omega), Array.toList_setIfInBounds]
  cases hZ : Z.toList with
  | nil => rw [hZ] at hz; simp at hz
  | cons a r => simp

/-- A struct is built: its first field of one cell, its second one of many. -/
theorem built_two {P : Program} {t : TypeId} {n : Nat} {fs : Array Field} (hu : P.underlying t = some (.struct fs)) (hi : ((P.info? t).bind (·.zero)).map (·.cells.size) = some (n + 1))
    (hp : fs.toList.mapM (fun f => (P.info? f.type).map fun i => (f.offset, i.size)) = some [(0, 1), (1, n)]) (x : Value) (hx : x.cells = #[x]) (sc : List Value) (hs : sc.length = n) :
    P.built t [(0, x), (1, .agg sc.toArray)] = some (x :: sc).toArray := by
  obtain ⟨it, h1, z, h2, h3⟩ : ∃ it, P.info? t = some it ∧ ∃ z, it.zero = some z ∧ z.cells.size = n + 1 := by
    cases h : P.info? t with
    | none => simp [h] at hi
    | some it =>
      cases hz : it.zero with
      | none => simp [h, hz] at hi
      | some z => exact ⟨it, rfl, z, hz, by simpa [h, hz] using hi⟩
  subst hs
  unfold Program.built
  simp only [h1, hu, h2, hp, Instr.fill]
  have e1 : (Value.agg sc.toArray).cells = sc.toArray := rfl
  have h5 := fold_put sc 0 1 (z.cells.setIfInBounds 0 x)
  rw [Nat.add_zero, put_tail h3] at h5
  simp only [hx, e1]
  simp [h3]
  rw [← h5]
  simp
  omega

/-- The cells that the walk reckons of such a struct. -/
theorem fill_tail {Z : Array Value} (x : Value) (sc : List Value) (h : Z.size = sc.length + 1) (hx : Z[0]? = some x) : sc.zipIdx.foldl (fun cs x => cs.setIfInBounds (1 + x.snd) x.fst) Z = (x :: sc).toArray := by
  have h5 := fold_put sc 0 1 Z
  rw [Nat.add_zero] at h5
  have e : Z.setIfInBounds 0 x = Z := by
    apply Array.ext_getElem?
    intro i
    rw [Array.getElem?_setIfInBounds]
    split
    · subst_vars; rw [if_pos (by omega), hx]
    · rfl
  rw [h5, ← e, put_tail h]
theorem still_build {P : Program} {ops : Array Oper} {w : World} {Q : Act → Prop} {a : Act} {o : Oper} {rest : List Oper} (hgd : o.guard = none) (t : TypeId) (parts : Array (Nat × Operand)) (ho : o.op = .build t parts) (cells : Array Value)
    (hb : P.built t (parts.map fun (i, x) => (i, a.eval x)).toList = some cells) (h : wpStill P ops w Q rest (a.put o.dst (.agg cells))) : wpStill P ops w Q (o :: rest) a := by
  refine still_run hgd (.agg cells) ?_ h
  unfold execOp
  simp only [ho, Sem.run_bind, run_build w t _ cells hb, Result.andThen_ok]
  rfl

/-- []T{x}: x a struct or an array. -/
theorem wpList_buildOne {P : Program} {ops : Array Oper} {rest : List Oper} {o : Oper} {a : Act} {w : World} {Q : Exit → Act → World → Prop} (hg : o.guard = none) (t e : TypeId) (x : Operand) (ho : o.op = .buildSlice t 1 #[(0, x)])
    (us : List Value) (hx : a.eval x = .agg us.toArray) (hu : P.underlying t = some (.slice e)) (hsz : (P.info? e).map (·.size) = some us.length) (hz : ((P.info? e).bind (·.zero)).isSome = true) (h0 : 0 < us.length) (hsmall : us.length ≤ 2 ^ 24)
    (h : wpList P ops Q rest (a.put o.dst (.slice (some ⟨w.heap.size, 0, none⟩) 1 1)) (w.alloc (.cells us.toArray e))) : wpList P ops Q (o :: rest) a w := by
  cases hie : P.info? e with
  | none => simp [hie] at hsz
  | some ie =>
    simp only [hie, Option.map_some, Option.some.injEq, Option.bind_some] at hsz hz
    obtain ⟨z, hzz⟩ := Option.isSome_iff_exists.1 hz
    refine wpList_buildSlice hg t e 1 _ ho _ ie z hu hie hzz (by rw [hsz]; omega) (by rw [hsz]; omega) ?_ h
    have e1 : (Value.agg us.toArray).cells = us.toArray := rfl
    have h5 := fold_put us 0 0 ((Array.range (1 * us.length)).map (z.cells[· % z.cells.size]!))
    rw [Nat.add_zero, put_all (by simp)] at h5
    simp only [List.map_toArray, List.map_cons, List.map_nil, hx, hsz, Instr.fill, e1]
    simp
    rw [← h5]
    simp

/-- A step of a region that draws its order: []T{x}, x a struct or an array. -/
theorem step_buildOne {P : Program} {ops : Array Oper} {o : Oper} {a : Act} {w : World} {K : Act → World → Prop} {Q : Exit → Act → World → Prop} {E : Prop} (hg : o.guard = none) (t e : TypeId) (x : Operand) (ho : o.op = .buildSlice t 1 #[(0, x)])
    (us : List Value) (hx : a.eval x = .agg us.toArray) (hu : P.underlying t = some (.slice e)) (hsz : (P.info? e).map (·.size) = some us.length) (hz : ((P.info? e).bind (·.zero)).isSome = true) (h0 : 0 < us.length) (hsmall : us.length ≤ 2 ^ 24)
    (h : K (a.put o.dst (.slice (some ⟨w.heap.size, 0, none⟩) 1 1)) (w.alloc (.cells us.toArray e))) :
    if Region.wanted o (yielded ops a.tmps) = true then Oper.wp P o a w K Q else E := by
  have hw : Region.wanted o (yielded ops a.tmps) = true := by simp [Region.wanted, hg]
  rw [if_pos hw]
  cases hie : P.info? e with
  | none => simp [hie] at hsz
  | some ie =>
    simp only [hie, Option.map_some, Option.some.injEq, Option.bind_some] at hsz hz
    obtain ⟨z, hzz⟩ := Option.isSome_iff_exists.1 hz
    refine wp_buildSlice t e 1 _ ho _ ie z hu hie hzz (by rw [hsz]; omega) (by rw [hsz]; omega) ?_ h
    have e1 : (Value.agg us.toArray).cells = us.toArray := rfl
    have h5 := fold_put us 0 0 ((Array.range (1 * us.length)).map (z.cells[· % z.cells.size]!))
    rw [Nat.add_zero, put_all (by simp)] at h5
    simp only [List.map_toArray, List.map_cons, List.map_nil, hx, hsz, Instr.fill, e1]
    simp
    rw [← h5]
    simp
end Go.Proofs.Ytjebldfmkpfafaa
