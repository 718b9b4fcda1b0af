/- Words of this workplace, over any program: what a call keeps of the heap, footprints of objects, bytes as values. -/
import Derived.Test.YtjebldfmkpfafaaRows
import Derived.WalkKit
import Derived.WalkSpells
import Derived.Handy
import Derived.Lib.Hide
import Derived.Lib.AppendStr
import Derived.Lib.Strings
import Derived.Maps.AppendAt
import Derived.Laws.BytesArg
import Derived.Deep.Draws
import Derived.BigQuiet
import Derived.Deep.QuietTactic
import Derived.StillTailTactics
namespace Go.Proofs.Ytjebldfmkpfafaa
open Go.RowKit
set_option maxRecDepth 100000

theorem _root_.Go.World.heap_alloc_lt (w : World) (o : Obj) (k : Nat) (h : k < w.heap.size) : (w.alloc o).heap[k]? = w.heap[k]? := by
  show (w.heap.push o)[k]? = _
  rw [Array.getElem?_push, if_neg (by omega)]

/-- All blocks of w outside F are in w' as they were. -/
structure Keeps (F : List Nat) (w w' : World) : Prop where
  os : w'.os = w.os
  tape : w'.tape = w.tape
  output : w'.output = w.output
  size : w.heap.size ≤ w'.heap.size
  block : ∀ k, k < w.heap.size → k ∉ F → w'.heap[k]? = w.heap[k]?

namespace Keeps
theorem refl (F : List Nat) (w : World) : Keeps F w w := ⟨rfl, rfl, rfl, Nat.le_refl _, fun _ _ _ => rfl⟩
theorem trans {F F' : List Nat} {a b c : World} (h : Keeps F a b) (k : Keeps F' b c) (hF : ∀ x, x ∈ F' → x ∈ F ∨ a.heap.size ≤ x) : Keeps F a c :=
  ⟨k.os.trans h.os, k.tape.trans h.tape, k.output.trans h.output, Nat.le_trans h.size k.size, fun i hi hn =>
    (k.block i (Nat.lt_of_lt_of_le hi h.size) (fun hm => (hF i hm).elim hn (fun h => by omega))).trans (h.block i hi hn)⟩
theorem mono {F F' : List Nat} {a b : World} (h : Keeps F a b) (hF : ∀ x, x ∈ F → x ∈ F') : Keeps F' a b :=
  ⟨h.os, h.tape, h.output, h.size, fun i hi hn => h.block i hi (fun hm => hn (hF i hm))⟩
theorem drew {F : List Nat} {a w : World} (h : Keeps F a w) : Keeps F a w.drew := ⟨h.os, h.tape, h.output, h.size, h.block⟩
theorem drewN {F : List Nat} {a w : World} (n : Nat) (h : Keeps F a w) : Keeps F a (w.drewN n) := ⟨h.os, h.tape, h.output, h.size, h.block⟩
theorem ofDrew {F : List Nat} {a w : World} (h : Keeps F a.drew w) : Keeps F a w := ⟨h.os, h.tape, h.output, h.size, h.block⟩
theorem ofDrewN {F : List Nat} {a w : World} {n : Nat} (h : Keeps F (a.drewN n) w) : Keeps F a w := ⟨h.os, h.tape, h.output, h.size, h.block⟩
theorem alloc {F : List Nat} {a w : World} (h : Keeps F a w) (o : Obj) : Keeps F a (w.alloc o) :=
  h.trans (F' := []) ⟨rfl, rfl, rfl, by simp, fun k hk _ => World.heap_alloc_lt _ _ _ hk⟩ (by simp)
theorem setCell {F : List Nat} {a w : World} (h : Keeps F a w) {p : Addr} (hp : p.block ∈ F ∨ a.heap.size ≤ p.block) (u : Value) : Keeps F a (w.setCell p u) :=
  h.trans (F' := [p.block]) ⟨rfl, rfl, rfl, by simp [World.setCell], fun k _ hn => Below.heap_setCell _ _ _ _ (by simpa using hn)⟩ (by simpa using hp)
theorem grown {F : List Nat} {a w w' : World} {row : Option Nat} (h : Keeps F a w) (hg : w.grownBy w' row) (hr : ∀ k, row = some k → k ∈ F ∨ a.heap.size ≤ k) : Keeps F a w' :=
  h.trans (F' := row.toList) ⟨hg.os, hg.tape, hg.output, hg.size, fun k hk hn => hg.block k hk (fun e => hn (by simp [← e]))⟩ (by
    intro x hx; exact hr x (by simpa using hx))
theorem cell {F : List Nat} {w w' : World} (h : Keeps F w w') {p : Addr} (hp : p.block < w.heap.size) (hn : p.block ∉ F) : w'.cell? p = w.cell? p := World.cell?_of_block (w := w) (h.block p.block hp hn)
theorem cell0 {w w' : World} (h : Keeps [] w w') {p : Addr} {v : Value} (hv : w.cell? p = Option.some v) : w'.cell? p = Option.some v := (h.cell (World.block_lt_of_cell? w p hv) (by simp)).trans hv
theorem below {w w' : World} (h : Keeps [] w w') : Below w.heap.size w w' := ⟨h.os, h.tape, h.output, h.size, fun k hk => h.block k hk (by simp)⟩
theorem of_below {w w' : World} (h : Below w.heap.size w w') : Keeps [] w w' := ⟨h.os, h.tape, h.output, h.size, fun k hk _ => h.block k hk⟩
theorem some {F : List Nat} {w w' : World} (h : Keeps F w w') {k : Nat} {o : Obj} (ho : w.heap[k]? = some o) (hn : k ∉ F) : w'.heap[k]? = Option.some o :=
  (h.block k (Array.getElem?_eq_some_iff.1 ho).1 hn).trans ho
end Keeps

/-- From w to w' nothing outside the footprint F is turned, and the footprint is now F': what is new in it is new memory. -/
structure Chg (F F' : List Nat) (w w' : World) : Prop where
  keeps : Keeps F w w'
  fresh : ∀ k, k ∈ F' → k ∈ F ∨ w.heap.size ≤ k

namespace Chg
theorem refl (F : List Nat) (w : World) : Chg F F w w := ⟨Keeps.refl _ _, fun _ h => .inl h⟩
theorem trans {F F1 F2 : List Nat} {a b c : World} (h : Chg F F1 a b) (k : Chg F1 F2 b c) : Chg F F2 a c :=
  ⟨h.keeps.trans k.keeps h.fresh, fun x hx => (k.fresh x hx).elim (h.fresh x) (fun hb => .inr (Nat.le_trans h.keeps.size hb))⟩
/-- A new object. -/
theorem new (w : World) (o : Obj) : Chg [] [w.heap.size] w (w.alloc o) := ⟨(Keeps.refl [] w).alloc o, fun k hk => .inr (by simp at hk; omega)⟩
/-- What was done behind a new block. -/
theorem alloc {F F' : List Nat} {w w' : World} {o : Obj} (h : Chg F F' (w.alloc o) w') : Chg F F' w w' :=
  ⟨((Keeps.refl [] w).alloc o |>.mono (by simp)).trans h.keeps (fun _ h => .inl h), fun k hk => (h.fresh k hk).imp id (fun h => by simp at h; omega)⟩
theorem drewN {F F' : List Nat} {w w' : World} {n : Nat} (h : Chg F F' (w.drewN n) w') : Chg F F' w w' :=
  ⟨((Keeps.refl [] w).drewN n |>.mono (by simp)).trans h.keeps (fun _ h => .inl h), fun k hk => h.fresh k hk⟩
/-- What lies apart from the footprint ahead lies apart from the footprint behind. -/
theorem apart {F F' G : List Nat} {w w' : World} (h : Chg F F' w w') (hG : ∀ k, k ∈ G → k < w.heap.size) (hd : ∀ k, k ∈ G → k ∉ F) : ∀ k, k ∈ G → k ∉ F' :=
  fun k hk hk' => (h.fresh k hk').elim (hd k hk) (fun h => by have := hG k hk; omega)
end Chg

theorem ret_int {k : IntKind} {a b : Int} (h : a = b) : Ending.returned (.int k a) = .returned (.int k b) := by rw [h]

theorem bne_nat_ne {a b : Nat} (h : ¬ a = b) : ((a : Int) != (b : Int)) = true := by rw [bne_iff_ne]; omega
theorem bne_nat_eq {a b : Nat} (h : a = b) : ((a : Int) != (b : Int)) = false := by rw [h]; exact bne_self_eq_false _
theorem beq_nat_ne {a b : Nat} (h : ¬ a = b) : ((a : Int) == (b : Int)) = false := by rw [beq_eq_false_iff_ne]; omega
theorem beq_nat_eq {a b : Nat} (h : a = b) : ((a : Int) == (b : Int)) = true := by rw [h]; exact beq_self_eq_true _

/-- Bytes as a string. -/
def str (l : List UInt8) : ByteArray := ⟨l.toArray⟩
@[simp] theorem str_data (l : List UInt8) : (str l).data.toList = l := rfl
@[simp, go_sem] theorem str_size (l : List UInt8) : (str l).size = l.length := by simp [str, ByteArray.size]
@[simp, go_sem] theorem str_toList (l : List UInt8) : (str l).toList = l := by rw [ByteArray.toList_eq]; rfl
theorem dlen (s : ByteArray) : s.data.toList.length = s.size := by rw [Array.length_toList]; rfl
theorem str_self (s : ByteArray) : str s.data.toList = s := by cases s; simp [str]
theorem str_inj {l m : List UInt8} (h : str l = str m) : l = m := by rw [← str_data l, h, str_data]
theorem str_extract (s : ByteArray) (a b : Nat) : s.extract a b = str ((s.data.toList.drop a).take (b - a)) := by
  rw [← str_self (s.extract a b), Lib.extract_data]

/-- A byte as a value. -/
def u8v (c : UInt8) : Value := .int .u8 c.toNat

theorem u8v_one (l : List UInt8) : ∀ u ∈ l.map u8v, u.oneCell' = true := by
  intro u hu
  obtain ⟨c, _, rfl⟩ := List.mem_map.1 hu
  rfl

theorem cell_of_heap {w : World} {b : Nat} {cs : Array Value} {t : TypeId} {z : Nat × Nat} (h : w.heap[b]? = some (.cells cs t z)) (o : Nat) : w.cell? ⟨b, o, none⟩ = cs[o]? := by
  simp [World.cell?, h]
theorem free_of_heap {w : World} {b : Nat} {cs : Array Value} {t : TypeId} (h : w.heap[b]? = some (.cells cs t (0, 0))) (o : Nat) : w.frozen? ⟨b, o, none⟩ = false := by
  simp [World.frozen?, h]
theorem heap_setCell {w : World} {b : Nat} {cs : Array Value} {t : TypeId} {z : Nat × Nat} (h : w.heap[b]? = some (.cells cs t z)) (o : Nat) (v : Value) :
    (w.setCell ⟨b, o, none⟩ v).heap[b]? = some (.cells (cs.setIfInBounds o v) t z) := by
  simp [World.setCell, Array.getElem?_modify, h]
theorem heap_alloc_self (w : World) (o : Obj) : (w.alloc o).heap[w.heap.size]? = some o := by
  show (w.heap.push o)[w.heap.size]? = _
  simp

/-- A region that draws its order, whose operations but the last ones only read: these first, in the text's order. -/
theorem region_tail {P : Program} {id : Nat} {Q : Exit → Act → World → Prop} {a : Act} {w : World} {l : List Oper} (n : Nat) (hm : P.follows .mixedOrders = true) (hB : Region.lexTailB .any l.toArray n = true)
    (h : wpStill P l.toArray (w.drewN 1) (fun a' => wpList P l.toArray Q (l.drop n) a' (w.drewN 1)) (l.take n) a) : (Code.region id l.toArray true).wp P Q a w := wp_region_still_tail n hm hB h

theorem Calls_flip {P : Program} {f : FuncId} {args : Array Value} {w : World} {r : Ending} (h : Calls P f args w fun e w' => e = r ∧ w = w') : Calls P f args w fun e w' => e = r ∧ w' = w :=
  h.mono fun _ _ ⟨h1, h2⟩ => ⟨h1, h2.symm⟩

theorem cell_new {w : World} {k : Nat} (h : k = w.heap.size) (cs : Array Value) (t : TypeId) (o : Nat) : (w.alloc (.cells cs t)).cell? ⟨k, o, none⟩ = cs[o]? := by
  subst h
  exact cell_of_heap (heap_alloc_self w (.cells cs t)) o

/-! ## append onto a slice that the call owns -/

/-- What a slice type is in the program's tables. -/
structure SlTy (P : Program) (t e : TypeId) (size bytes : Nat) (z : Value) : Prop where
  und : P.underlying t = some (.slice e)
  info : ∃ i, P.info? e = some i ∧ i.zero = some z ∧ i.size = size ∧ i.bytes = bytes
  zs : z.cells.size = size
  pos : 0 < size

theorem SlTy.mk' {P : Program} {t e : TypeId} {size bytes : Nat} {z : Value} (hu : P.underlying t = some (.slice e))
    (h : (P.info? e).map (fun i => (i.zero, i.size, i.bytes)) = some (some z, size, bytes)) (hz : z.cells.size = size) (hp : 0 < size) : SlTy P t e size bytes z := by
  obtain ⟨i, h1, h2, h3, h4⟩ := info_parts h
  exact ⟨hu, ⟨i, h1, h2, h3, h4⟩, hz, hp⟩

section
variable {P : Program} {t e : TypeId} {size bytes : Nat} {z : Value}

theorem ownsRow_shape {w : World} {v : Value} {base n : Nat} {xs : List Value} (h : w.ownsRow base e size v n xs) : ∃ ad cap, v = .slice ad n cap := by
  rcases h.2 with ⟨rfl, rfl⟩ | ⟨g, cap, _, rfl, _⟩
  · exact ⟨none, 0, rfl⟩
  · exact ⟨_, cap, rfl⟩

theorem grownBy_chg {w w' : World} {v v' : Value} (hg : w.grownBy w' v.ownBlock) (hat : v'.ownBlock = v.ownBlock ∨ v'.ownBlock = some w.heap.size) : Chg v.ownBlock.toList v'.ownBlock.toList w w' := by
  refine ⟨⟨hg.os, hg.tape, hg.output, hg.size, fun k hk hn => hg.block k hk (fun e => hn (by simp [← e]))⟩, fun k hk => ?_⟩
  rcases hat with h | h
  · rw [h] at hk; exact .inl hk
  · rw [h] at hk; simp at hk; omega

/-- append(s, x): one element, which was laid into a block of its own. -/
theorem wpList_app1 (T : SlTy P t e size bytes z) {ops : Array Oper} {rest : List Oper} {o : Oper} {a : Act} {Q : Exit → Act → World → Prop} {w : World} {us : Array Value} (hgd : o.guard = none) (s x : Operand)
    (ho : o.op = .call { callee := .builtin .append, args := #[s, x], argTypes := #[t, t] }) (v : Value) (n : Nat) (xs : List Value) (hs : a.eval s = v)
    (hx : a.eval x = .slice (some ⟨w.heap.size, 0, none⟩) 1 1)
    (hown : w.ownsRow 0 e size v n xs) (hus : us.size = size) (h1 : ∀ u ∈ us.toList, u.oneCell' = true) (hlen : (n + 1) * bytes ≤ 140737488355328) (h63 : n + 1 ≤ maxLen)
    (h : ∀ g cap w', w'.ownsRow 0 e size (.slice (some ⟨g, 0, none⟩) (n + 1) cap) (n + 1) (xs ++ us.toList) → Chg v.ownBlock.toList [g] w w' → wpList P ops Q rest (a.put o.dst (.slice (some ⟨g, 0, none⟩) (n + 1) cap)) w') :
    wpList P ops Q (o :: rest) a (w.alloc (.cells us e)) := by
  obtain ⟨hu, ⟨i, hi, hz, hsz, hby⟩, hzs, hp⟩ := T
  refine wpList_append_own_at (w.alloc (.cells us e)) hgd s x t ho 0 e i z size bytes hu hi hz hsz hby hzs hp v n xs hs (hown.alloc _) ⟨w.heap.size, 0, none⟩ 1 1 us.toList hx (by simp [hus]) ?_ h1 h63 hlen (Nat.zero_le _) ?_
  · intro j u hj
    have hn : (w.alloc (.cells us e)).heap[w.heap.size]? = some (.cells us e) := heap_alloc_self w _
    have : ((⟨w.heap.size, 0, none⟩ : Addr).add j) = ⟨w.heap.size, j, none⟩ := by unfold Addr.add; split <;> simp_all
    rw [this, cell_of_heap hn]
    simpa using hj
  · intro v' w' h2 h3 h4 h5
    obtain ⟨g, cap, rfl⟩ : ∃ g cap, v' = .slice (some ⟨g, 0, none⟩) (n + 1) cap := by
      rcases h2.2 with ⟨_, h0⟩ | ⟨g, cap, _, rfl, _⟩
      · omega
      · exact ⟨g, cap, rfl⟩
    refine h g cap w' h2 ?_
    · refine ⟨⟨h3.os, h3.tape, h3.output, by have := h3.size; simp at this; omega, fun k hk hn => ?_⟩, fun k hk => ?_⟩
      · rw [h3.block k (by simp; omega) (fun e => hn (by simp [← e]))]
        exact World.heap_alloc_lt _ _ _ hk
      · rcases h5 with h | h
        · exact .inl (by rw [← h]; exact hk)
        · simp [Value.ownBlock] at h hk; omega

/-- append(s, x...): x is a slice whose cells are known. -/
theorem wpList_appN (T : SlTy P t e size bytes z) {ops : Array Oper} {rest : List Oper} {o : Oper} {a : Act} {Q : Exit → Act → World → Prop} {w : World} (hgd : o.guard = none) (s x : Operand)
    (ho : o.op = .call { callee := .builtin .append, args := #[s, x], argTypes := #[t, t] }) (v : Value) (n : Nat) (xs : List Value) (hs : a.eval s = v)
    (ad : Addr) (m c : Nat) (news : List Value) (hx : a.eval x = .slice (some ad) m c) (hl : news.length = m * size) (hnews : ∀ j u, news[j]? = some u → w.cell? (ad.add j) = some u)
    (hown : w.ownsRow 0 e size v n xs) (h1 : ∀ u ∈ news, u.oneCell' = true) (hlen : (n + m) * bytes ≤ 140737488355328) (h63 : n + m ≤ maxLen)
    (h : ∀ ad' cap w', w'.ownsRow 0 e size (.slice ad' (n + m) cap) (n + m) (xs ++ news) → Chg v.ownBlock.toList (Value.slice ad' (n + m) cap).ownBlock.toList w w' → wpList P ops Q rest (a.put o.dst (.slice ad' (n + m) cap)) w') :
    wpList P ops Q (o :: rest) a w := by
  obtain ⟨hu, ⟨i, hi, hz, hsz, hby⟩, hzs, hp⟩ := T
  exact wpList_append_own_at w hgd s x t ho 0 e i z size bytes hu hi hz hsz hby hzs hp v n xs hs hown ad m c news hx hl hnews h1 h63 hlen (Nat.zero_le _)
    fun v' w' h2 h3 _ h5 => by
      obtain ⟨ad', cap, rfl⟩ := ownsRow_shape h2
      exact h ad' cap w' h2 (grownBy_chg h3 h5)

end

section
variable {P : Program} {t e : TypeId} {z : Value}

/-- append(s, x...): x is a string. -/
theorem wpList_appStr (T : SlTy P t e 1 1 (.int .u8 0)) {u : TypeId} (hut : P.underlying u = some .string) {ops : Array Oper} {rest : List Oper} {o : Oper} {a : Act} {Q : Exit → Act → World → Prop} {w : World} (hgd : o.guard = none) (s x : Operand)
    (ho : o.op = .call { callee := .builtin .append, args := #[s, x], argTypes := #[t, u] }) (v : Value) (n : Nat) (xs : List Value) (hs : a.eval s = v)
    (st : ByteArray) (hx : a.eval x = .string st)
    (hown : w.ownsRow 0 e 1 v n xs) (hlen : n + st.size ≤ 140737488355328)
    (h : ∀ ad' cap w', w'.ownsRow 0 e 1 (.slice ad' (n + st.size) cap) (n + st.size) (xs ++ st.data.toList.map u8v) → Chg v.ownBlock.toList (Value.slice ad' (n + st.size) cap).ownBlock.toList w w' → wpList P ops Q rest (a.put o.dst (.slice ad' (n + st.size) cap)) w') :
    wpList P ops Q (o :: rest) a w := by
  obtain ⟨hu, ⟨i, hi, hz, hsz, hby⟩, hzs, hp⟩ := T
  have h63 : n + st.size ≤ maxLen := by unfold maxLen; omega
  obtain ⟨v', w', hr, h2, h3, h4⟩ := Lib.run_append_own_string (P := P) w 0 t u o.type e i hu hut hi hz hsz hby v n xs hown st h63 hlen (Nat.zero_le _)
  have hat : v'.ownBlock = v.ownBlock ∨ v'.ownBlock = some w.heap.size := by
    rcases hown.2 with ⟨rfl, rfl⟩ | ⟨g, cap, cur, rfl, hbg, hg, hnc, hcm, hcs, htake⟩
    · by_cases h0 : st.size = 0
      · left; rw [h4.2 ⟨rfl, h0⟩]
      · have hr2 := run_append_nil_string (P := P) w t u o.type e i _ hu hut hi hz st (by omega) (by unfold maxLen at h63; omega) (by rw [hby]; omega)
        rw [hr2] at hr
        injection hr with e1 e2
        right; rw [← e1]; rfl
    · by_cases hroom : n + st.size ≤ cap
      · have hr2 := Lib.run_append_room_string (P := P) w t u o.type e i hu hut hi hsz g n cap cur hg st hroom (by rw [hcs]; omega)
        rw [hr2] at hr
        injection hr with e1 e2
        left; rw [← e1]; rfl
      · have holds : ∀ j u, xs[j]? = some u → w.cell? ((⟨g, 0, none⟩ : Addr).add j) = some u := hown.cells (g := g) rfl
        have hr2 := Lib.run_append_grow_string (P := P) w t u o.type e i _ hu hut hi hz ⟨g, 0, none⟩ n cap xs (by rw [hsz]; exact hown.1) holds st (by omega) (by unfold maxLen at h63; omega)
          (by rw [hby]; have := growslice_fits (need := n + st.size) (old := cap) (bytes := 1) (by omega) (by omega); omega)
        rw [hr2] at hr
        injection hr with e1 e2
        right; rw [← e1]; rfl
  obtain ⟨ad', cap, rfl⟩ := ownsRow_shape h2
  refine wpList_plain hgd fun K hK => ?_
  unfold Oper.wp execOp
  simp only [ho, resolve, invoke, builtin, Sem.run_bind, Sem.run_pure, Result.andThen_ok, List.map_toArray, List.map_cons, List.map_nil, hs, hx, hr]
  exact hK _ _ (h ad' cap w' h2 (grownBy_chg h3 hat))
end

/-- string(b): b a slice that the call owns. -/
theorem own_string {P : Program} {w : World} {src dst e : TypeId} (hs : P.underlying src = some (.slice e)) (he : P.underlying e = some (.int .u8)) (hd : P.underlying dst = some .string)
    {v : Value} {n : Nat} {l : List UInt8} (hown : w.ownsRow 0 e 1 v n (l.map u8v)) : (convert src dst v).run P w = .ok (.string (str l)) w := by
  have hl : l.length = n := by simpa using hown.1
  rcases hown.2 with ⟨rfl, h0⟩ | ⟨g, cap, cur, rfl, hbg, hg, hnc, hcm, hcs, htake⟩
  · have : l = [] := List.eq_nil_of_length_eq_zero (by omega)
    subst this
    exact run_convert_bytes_nil (P := P) w src e hs he 0 0 dst hd
  · refine (run_convert_bytes_arg (P := P) w src e hs he g 0 n cap (l.map fun c => (c.toNat : Int)) (by simpa using hl) (fun i hi => ?_) dst hd).trans ?_
    · have hc := hown.cellAt i (by omega)
      rw [Nat.zero_add, hc]
      have hil : i < l.length := by omega
      simp [List.getElem?_eq_getElem hil, u8v, List.getD_eq_getElem?_getD]
    · congr 2
      unfold str strOfNums
      congr 2
      rw [List.map_map]
      simp [Function.comp_def]

/-! ## a slice that is only read -/

/-- The slice value v has the cells ts, one cell an element; G: the block that they lie in. -/
def SlAt (w : World) (v : Value) (ts : List Value) (G : List Nat) : Prop :=
  ∃ ad cap, v = .slice ad ts.length cap ∧ (ts ≠ [] → ∃ k off, ad = some ⟨k, off, none⟩ ∧ k ∈ G ∧ ∀ j u, ts[j]? = some u → w.cell? ⟨k, off + j, none⟩ = some u)

theorem SlAt.keep {w w' : World} {v : Value} {ts : List Value} {F G : List Nat} (h : SlAt w v ts G) (k : Keeps F w w') (hd : ∀ x, x ∈ G → x ∉ F) : SlAt w' v ts G := by
  obtain ⟨ad, cap, rfl, h2⟩ := h
  refine ⟨ad, cap, rfl, fun h0 => ?_⟩
  obtain ⟨b, off, rfl, hb, hc⟩ := h2 h0
  refine ⟨b, off, rfl, hb, fun j u hj => ?_⟩
  have := hc j u hj
  rw [← this]
  exact k.cell (World.block_lt_of_cell? w _ this) (hd _ hb)

/-- A new block that was laid for a list of arguments. -/
theorem SlAt.lit (w : World) (us : List Value) (t : TypeId) (n : Nat) (hn : us.length = n) : SlAt (w.alloc (.cells us.toArray t)) (.slice (some ⟨w.heap.size, 0, none⟩) n n) us [w.heap.size] := by
  subst hn
  refine ⟨_, _, rfl, fun _ => ⟨_, _, rfl, by simp, fun j u hj => ?_⟩⟩
  rw [Nat.zero_add, cell_of_heap (heap_alloc_self w _)]
  simpa using hj

/-- The same, the block's number spelled otherwise. -/
theorem SlAt.lit' {w : World} (us : List Value) (t : TypeId) {n k : Nat} (hk : k = w.heap.size) (hn : us.length = n) : SlAt (w.alloc (.cells us.toArray t)) (.slice (some ⟨k, 0, none⟩) n n) us [k] := by
  subst hk; exact SlAt.lit w us t n hn

theorem one_apart {x y : Nat} (h : x ≠ y) : ∀ k, k ∈ [x] → k ∉ [y] := by
  intro k hk hk'
  rw [List.mem_singleton] at hk hk'
  omega
theorem one_lt {x n : Nat} (h : x < n) : ∀ k, k ∈ [x] → k < n := by
  intro k hk
  rw [List.mem_singleton] at hk
  omega
theorem any_apart {F : List Nat} {y n : Nat} (h : ∀ k, k ∈ F → k < n) (hy : n ≤ y) : ∀ k, k ∈ F → k ∉ [y] := by
  intro k hk hk'
  rw [List.mem_singleton] at hk'
  have := h k hk
  omega
theorem one_any {F : List Nat} {y n : Nat} (h : ∀ k, k ∈ F → k < n) (hy : n ≤ y) : ∀ k, k ∈ [y] → k ∉ F := by
  intro k hk hk'
  rw [List.mem_singleton] at hk
  have := h k hk'
  omega

/-- string([]byte{c}): the block was just laid. -/
theorem lit_string {P : Program} (w : World) {src dst e : TypeId} (hs : P.underlying src = some (.slice e)) (he : P.underlying e = some (.int .u8)) (hd : P.underlying dst = some .string) (y : Int) :
    (convert src dst (.slice (some ⟨w.heap.size, 0, none⟩) 1 1)).run P (w.alloc (.cells #[.int .u8 y] e)) = .ok (.string (str [UInt8.ofNat y.toNat])) (w.alloc (.cells #[.int .u8 y] e)) := by
  refine (run_convert_bytes_arg (P := P) (w.alloc (.cells #[.int .u8 y] e)) src e hs he w.heap.size 0 1 1 [y] rfl (fun i hi => ?_) dst hd).trans rfl
  obtain rfl : i = 0 := by omega
  exact cell_new rfl _ _ 0

@[simp, go_sem] theorem str_append (a b : List UInt8) : str a ++ str b = str (a ++ b) := by
  have h : (str a ++ str b).data.toList = a ++ b := by simp
  rw [← str_self (str a ++ str b), h]

end Go.Proofs.Ytjebldfmkpfafaa
