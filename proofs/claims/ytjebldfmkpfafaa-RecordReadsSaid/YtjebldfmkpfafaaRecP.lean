/- Words of this workplace, over any program: what a call keeps of the heap, footprints of objects, bytes as values. -/
import Derived.Test.YtjebldfmkpfafaaRows
import Derived.WalkKit
import Derived.WalkSpells
import Derived.Handy
import Derived.Lib.Hide
import Derived.Lib.AppendStr
import Derived.Lib.Strings
import Derived.Maps.AppendAt
import Derived.Laws.BytesArg
import Derived.Deep.Draws
import Derived.BigQuiet
import Derived.Deep.QuietTactic
import Derived.StillTailTactics
import Derived.Lib.BitFns
import Derived.Lib.ItoaNum
import Derived.Test.YtjebldfmkpfafaaShelf
import Derived.WalkLawsBesides
import Derived.Deep.MidRow
import Derived.Laws.BitsAllLaws
import Derived.Deep.RegionHeld3
import Derived.Deep.AppendLies
import Derived.Great.BuildSlice
namespace Go.Proofs.Ytjebldfmkpfafaa
open Go.RowKit
set_option maxRecDepth 100000

theorem _root_.Go.World.heap_alloc_lt (w : World) (o : Obj) (k : Nat) (h : k < w.heap.size) : (w.alloc o).heap[k]? = w.heap[k]? := by
  show (w.heap.push o)[k]? = _
  rw [Array.getElem?_push, if_neg (by omega)]

/-- All blocks of w outside F are in w' as they were. -/
structure Keeps (F : List Nat) (w w' : World) : Prop where
  os : w'.os = w.os
  tape : w'.tape = w.tape
  output : w'.output = w.output
  size : w.heap.size ≤ w'.heap.size
  block : ∀ k, k < w.heap.size → k ∉ F → w'.heap[k]? = w.heap[k]?

namespace Keeps
theorem refl (F : List Nat) (w : World) : Keeps F w w := ⟨rfl, rfl, rfl, Nat.le_refl _, fun _ _ _ => rfl⟩
theorem trans {F F' : List Nat} {a b c : World} (h : Keeps F a b) (k : Keeps F' b c) (hF : ∀ x, x ∈ F' → x ∈ F ∨ a.heap.size ≤ x) : Keeps F a c :=
  ⟨k.os.trans h.os, k.tape.trans h.tape, k.output.trans h.output, Nat.le_trans h.size k.size, fun i hi hn =>
    (k.block i (Nat.lt_of_lt_of_le hi h.size) (fun hm => (hF i hm).elim hn (fun h => by omega))).trans (h.block i hi hn)⟩
theorem mono {F F' : List Nat} {a b : World} (h : Keeps F a b) (hF : ∀ x, x ∈ F → x ∈ F') : Keeps F' a b :=
  ⟨h.os, h.tape, h.output, h.size, fun i hi hn => h.block i hi (fun hm => hn (hF i hm))⟩
theorem drew {F : List Nat} {a w : World} (h : Keeps F a w) : Keeps F a w.drew := ⟨h.os, h.tape, h.output, h.size, h.block⟩
theorem drewN {F : List Nat} {a w : World} (n : Nat) (h : Keeps F a w) : Keeps F a (w.drewN n) := ⟨h.os, h.tape, h.output, h.size, h.block⟩
theorem ofDrew {F : List Nat} {a w : World} (h : Keeps F a.drew w) : Keeps F a w := ⟨h.os, h.tape, h.output, h.size, h.block⟩
theorem ofDrewN {F : List Nat} {a w : World} {n : Nat} (h : Keeps F (a.drewN n) w) : Keeps F a w := ⟨h.os, h.tape, h.output, h.size, h.block⟩
theorem alloc {F : List Nat} {a w : World} (h : Keeps F a w) (o : Obj) : Keeps F a (w.alloc o) :=
  h.trans (F' := []) ⟨rfl, rfl, rfl, by simp, fun k hk _ => World.heap_alloc_lt _ _ _ hk⟩ (by simp)
theorem setCell {F : List Nat} {a w : World} (h : Keeps F a w) {p : Addr} (hp : p.block ∈ F ∨ a.heap.size ≤ p.block) (u : Value) : Keeps F a (w.setCell p u) :=
  h.trans (F' := [p.block]) ⟨rfl, rfl, rfl, by simp [World.setCell], fun k _ hn => Below.heap_setCell _ _ _ _ (by simpa using hn)⟩ (by simpa using hp)
theorem grown {F : List Nat} {a w w' : World} {row : Option Nat} (h : Keeps F a w) (hg : w.grownBy w' row) (hr : ∀ k, row = some k → k ∈ F ∨ a.heap.size ≤ k) : Keeps F a w' :=
  h.trans (F' := row.toList) ⟨hg.os, hg.tape, hg.output, hg.size, fun k hk hn => hg.block k hk (fun e => hn (by simp [← e]))⟩ (by
    intro x hx; exact hr x (by simpa using hx))
theorem cell {F : List Nat} {w w' : World} (h : Keeps F w w') {p : Addr} (hp : p.block < w.heap.size) (hn : p.block ∉ F) : w'.cell? p = w.cell? p := World.cell?_of_block (w := w) (h.block p.block hp hn)
theorem cell0 {w w' : World} (h : Keeps [] w w') {p : Addr} {v : Value} (hv : w.cell? p = Option.some v) : w'.cell? p = Option.some v := (h.cell (World.block_lt_of_cell? w p hv) (by simp)).trans hv
theorem below {w w' : World} (h : Keeps [] w w') : Below w.heap.size w w' := ⟨h.os, h.tape, h.output, h.size, fun k hk => h.block k hk (by simp)⟩
theorem of_below {w w' : World} (h : Below w.heap.size w w') : Keeps [] w w' := ⟨h.os, h.tape, h.output, h.size, fun k hk _ => h.block k hk⟩
theorem some {F : List Nat} {w w' : World} (h : Keeps F w w') {k : Nat} {o : Obj} (ho : w.heap[k]? = some o) (hn : k ∉ F) : w'.heap[k]? = Option.some o :=
  (h.block k (Array.getElem?_eq_some_iff.1 ho).1 hn).trans ho
end Keeps

/-- From w to w' nothing outside the footprint F is turned, and the footprint is now F': what is new in it is new memory. -/
structure Chg (F F' : List Nat) (w w' : World) : Prop where
  keeps : Keeps F w w'
  fresh : ∀ k, k ∈ F' → k ∈ F ∨ w.heap.size ≤ k

namespace Chg
theorem refl (F : List Nat) (w : World) : Chg F F w w := ⟨Keeps.refl _ _, fun _ h => .inl h⟩
theorem trans {F F1 F2 : List Nat} {a b c : World} (h : Chg F F1 a b) (k : Chg F1 F2 b c) : Chg F F2 a c :=
  ⟨h.keeps.trans k.keeps h.fresh, fun x hx => (k.fresh x hx).elim (h.fresh x) (fun hb => .inr (Nat.le_trans h.keeps.size hb))⟩
/-- A new object. -/
theorem new (w : World) (o : Obj) : Chg [] [w.heap.size] w (w.alloc o) := ⟨(Keeps.refl [] w).alloc o, fun k hk => .inr (by simp at hk; omega)⟩
/-- What was done behind a new block. -/
theorem alloc {F F' : List Nat} {w w' : World} {o : Obj} (h : Chg F F' (w.alloc o) w') : Chg F F' w w' :=
  ⟨((Keeps.refl [] w).alloc o |>.mono (by simp)).trans h.keeps (fun _ h => .inl h), fun k hk => (h.fresh k hk).imp id (fun h => by simp at h; omega)⟩
theorem drewN {F F' : List Nat} {w w' : World} {n : Nat} (h : Chg F F' (w.drewN n) w') : Chg F F' w w' :=
  ⟨((Keeps.refl [] w).drewN n |>.mono (by simp)).trans h.keeps (fun _ h => .inl h), fun k hk => h.fresh k hk⟩
/-- What lies apart from the footprint ahead lies apart from the footprint behind. -/
theorem apart {F F' G : List Nat} {w w' : World} (h : Chg F F' w w') (hG : ∀ k, k ∈ G → k < w.heap.size) (hd : ∀ k, k ∈ G → k ∉ F) : ∀ k, k ∈ G → k ∉ F' :=
  fun k hk hk' => (h.fresh k hk').elim (hd k hk) (fun h => by have := hG k hk; omega)
end Chg

theorem ret_int {k : IntKind} {a b : Int} (h : a = b) : Ending.returned (.int k a) = .returned (.int k b) := by rw [h]

theorem bne_nat_ne {a b : Nat} (h : ¬ a = b) : ((a : Int) != (b : Int)) = true := by rw [bne_iff_ne]; omega
theorem bne_nat_eq {a b : Nat} (h : a = b) : ((a : Int) != (b : Int)) = false := by rw [h]; exact bne_self_eq_false _
theorem beq_nat_ne {a b : Nat} (h : ¬ a = b) : ((a : Int) == (b : Int)) = false := by rw [beq_eq_false_iff_ne]; omega
theorem beq_nat_eq {a b : Nat} (h : a = b) : ((a : Int) == (b : Int)) = true := by rw [h]; exact beq_self_eq_true _

/-- Bytes as a string. -/
def str (l : List UInt8) : ByteArray := ⟨l.toArray⟩
@[simp] theorem str_data (l : List UInt8) : (str l).data.toList = l := rfl
@[simp, go_sem] theorem str_size (l : List UInt8) : (str l).size = l.length := by simp [str, ByteArray.size]
@[simp, go_sem] theorem str_toList (l : List UInt8) : (str l).toList = l := by rw [ByteArray.toList_eq]; rfl
theorem dlen (s : ByteArray) : s.data.toList.length = s.size := by rw [Array.length_toList]; rfl
theorem str_self (s : ByteArray) : str s.data.toList = s := by cases s; simp [str]
theorem str_inj {l m : List UInt8} (h : str l = str m) : l = m := by rw [← str_data l, h, str_data]
theorem str_extract (s : ByteArray) (a b : Nat) : s.extract a b = str ((s.data.toList.drop a).take (b - a)) := by
  rw [← str_self (s.extract a b), Lib.extract_data]

/-- A byte as a value. -/
def u8v (c : UInt8) : Value := .int .u8 c.toNat

theorem u8v_one (l : List UInt8) : ∀ u ∈ l.map u8v, u.oneCell' = true := by
  intro u hu
  obtain ⟨c, _, rfl⟩ := List.mem_map.1 hu
  rfl

theorem cell_of_heap {w : World} {b : Nat} {cs : Array Value} {t : TypeId} {z : Nat × Nat} (h : w.heap[b]? = some (.cells cs t z)) (o : Nat) : w.cell? ⟨b, o, none⟩ = cs[o]? := by
  simp [World.cell?, h]
theorem free_of_heap {w : World} {b : Nat} {cs : Array Value} {t : TypeId} (h : w.heap[b]? = some (.cells cs t (0, 0))) (o : Nat) : w.frozen? ⟨b, o, none⟩ = false := by
  simp [World.frozen?, h]
theorem heap_setCell {w : World} {b : Nat} {cs : Array Value} {t : TypeId} {z : Nat × Nat} (h : w.heap[b]? = some (.cells cs t z)) (o : Nat) (v : Value) :
    (w.setCell ⟨b, o, none⟩ v).heap[b]? = some (.cells (cs.setIfInBounds o v) t z) := by
  simp [World.setCell, Array.getElem?_modify, h]
theorem heap_alloc_self (w : World) (o : Obj) : (w.alloc o).heap[w.heap.size]? = some o := by
  show (w.heap.push o)[w.heap.size]? = _
  simp

/-- A region that draws its order, whose operations but the last ones only read: these first, in the text's order. -/
theorem region_tail {P : Program} {id : Nat} {Q : Exit → Act → World → Prop} {a : Act} {w : World} {l : List Oper} (n : Nat) (hm : P.follows .mixedOrders = true) (hB : Region.lexTailB .any l.toArray n = true)
    (h : wpStill P l.toArray (w.drewN 1) (fun a' => wpList P l.toArray Q (l.drop n) a' (w.drewN 1)) (l.take n) a) : (Code.region id l.toArray true).wp P Q a w := wp_region_still_tail n hm hB h

theorem Calls_flip {P : Program} {f : FuncId} {args : Array Value} {w : World} {r : Ending} (h : Calls P f args w fun e w' => e = r ∧ w = w') : Calls P f args w fun e w' => e = r ∧ w' = w :=
  h.mono fun _ _ ⟨h1, h2⟩ => ⟨h1, h2.symm⟩

theorem cell_new {w : World} {k : Nat} (h : k = w.heap.size) (cs : Array Value) (t : TypeId) (o : Nat) : (w.alloc (.cells cs t)).cell? ⟨k, o, none⟩ = cs[o]? := by
  subst h
  exact cell_of_heap (heap_alloc_self w (.cells cs t)) o

/-! ## append onto a slice that the call owns -/

/-- What a slice type is in the program's tables. -/
structure SlTy (P : Program) (t e : TypeId) (size bytes : Nat) (z : Value) : Prop where
  und : P.underlying t = some (.slice e)
  info : ∃ i, P.info? e = some i ∧ i.zero = some z ∧ i.size = size ∧ i.bytes = bytes
  zs : z.cells.size = size
  pos : 0 < size

theorem SlTy.mk' {P : Program} {t e : TypeId} {size bytes : Nat} {z : Value} (hu : P.underlying t = some (.slice e))
    (h : (P.info? e).map (fun i => (i.zero, i.size, i.bytes)) = some (some z, size, bytes)) (hz : z.cells.size = size) (hp : 0 < size) : SlTy P t e size bytes z := by
  obtain ⟨i, h1, h2, h3, h4⟩ := info_parts h
  exact ⟨hu, ⟨i, h1, h2, h3, h4⟩, hz, hp⟩

section
variable {P : Program} {t e : TypeId} {size bytes : Nat} {z : Value}

theorem ownsRow_shape {w : World} {v : Value} {base n : Nat} {xs : List Value} (h : w.ownsRow base e size v n xs) : ∃ ad cap, v = .slice ad n cap := by
  rcases h.2 with ⟨rfl, rfl⟩ | ⟨g, cap, _, rfl, _⟩
  · exact ⟨none, 0, rfl⟩
  · exact ⟨_, cap, rfl⟩

theorem grownBy_chg {w w' : World} {v v' : Value} (hg : w.grownBy w' v.ownBlock) (hat : v'.ownBlock = v.ownBlock ∨ v'.ownBlock = some w.heap.size) : Chg v.ownBlock.toList v'.ownBlock.toList w w' := by
  refine ⟨⟨hg.os, hg.tape, hg.output, hg.size, fun k hk hn => hg.block k hk (fun e => hn (by simp [← e]))⟩, fun k hk => ?_⟩
  rcases hat with h | h
  · rw [h] at hk; exact .inl hk
  · rw [h] at hk; simp at hk; omega

/-- append(s, x): one element, which was laid into a block of its own. -/
theorem wpList_app1 (T : SlTy P t e size bytes z) {ops : Array Oper} {rest : List Oper} {o : Oper} {a : Act} {Q : Exit → Act → World → Prop} {w : World} {us : Array Value} (hgd : o.guard = none) (s x : Operand)
    (ho : o.op = .call { callee := .builtin .append, args := #[s, x], argTypes := #[t, t] }) (v : Value) (n : Nat) (xs : List Value) (hs : a.eval s = v)
    (hx : a.eval x = .slice (some ⟨w.heap.size, 0, none⟩) 1 1)
    (hown : w.ownsRow 0 e size v n xs) (hus : us.size = size) (h1 : ∀ u ∈ us.toList, u.oneCell' = true) (hlen : (n + 1) * bytes ≤ 140737488355328) (h63 : n + 1 ≤ maxLen)
    (h : ∀ g cap w', w'.ownsRow 0 e size (.slice (some ⟨g, 0, none⟩) (n + 1) cap) (n + 1) (xs ++ us.toList) → Chg v.ownBlock.toList [g] w w' → wpList P ops Q rest (a.put o.dst (.slice (some ⟨g, 0, none⟩) (n + 1) cap)) w') :
    wpList P ops Q (o :: rest) a (w.alloc (.cells us e)) := by
  obtain ⟨hu, ⟨i, hi, hz, hsz, hby⟩, hzs, hp⟩ := T
  refine wpList_append_own_at (w.alloc (.cells us e)) hgd s x t ho 0 e i z size bytes hu hi hz hsz hby hzs hp v n xs hs (hown.alloc _) ⟨w.heap.size, 0, none⟩ 1 1 us.toList hx (by simp [hus]) ?_ h1 h63 hlen (Nat.zero_le _) ?_
  · intro j u hj
    have hn : (w.alloc (.cells us e)).heap[w.heap.size]? = some (.cells us e) := heap_alloc_self w _
    have : ((⟨w.heap.size, 0, none⟩ : Addr).add j) = ⟨w.heap.size, j, none⟩ := by unfold Addr.add; split <;> simp_all
    rw [this, cell_of_heap hn]
    simpa using hj
  · intro v' w' h2 h3 h4 h5
    obtain ⟨g, cap, rfl⟩ : ∃ g cap, v' = .slice (some ⟨g, 0, none⟩) (n + 1) cap := by
      rcases h2.2 with ⟨_, h0⟩ | ⟨g, cap, _, rfl, _⟩
      · omega
      · exact ⟨g, cap, rfl⟩
    refine h g cap w' h2 ?_
    · refine ⟨⟨h3.os, h3.tape, h3.output, by have := h3.size; simp at this; omega, fun k hk hn => ?_⟩, fun k hk => ?_⟩
      · rw [h3.block k (by simp; omega) (fun e => hn (by simp [← e]))]
        exact World.heap_alloc_lt _ _ _ hk
      · rcases h5 with h | h
        · exact .inl (by rw [← h]; exact hk)
        · simp [Value.ownBlock] at h hk; omega

/-- append(s, x...): x is a slice whose cells are known. -/
theorem wpList_appN (T : SlTy P t e size bytes z) {ops : Array Oper} {rest : List Oper} {o : Oper} {a : Act} {Q : Exit → Act → World → Prop} {w : World} (hgd : o.guard = none) (s x : Operand)
    (ho : o.op = .call { callee := .builtin .append, args := #[s, x], argTypes := #[t, t] }) (v : Value) (n : Nat) (xs : List Value) (hs : a.eval s = v)
    (ad : Addr) (m c : Nat) (news : List Value) (hx : a.eval x = .slice (some ad) m c) (hl : news.length = m * size) (hnews : ∀ j u, news[j]? = some u → w.cell? (ad.add j) = some u)
    (hown : w.ownsRow 0 e size v n xs) (h1 : ∀ u ∈ news, u.oneCell' = true) (hlen : (n + m) * bytes ≤ 140737488355328) (h63 : n + m ≤ maxLen)
    (h : ∀ ad' cap w', w'.ownsRow 0 e size (.slice ad' (n + m) cap) (n + m) (xs ++ news) → Chg v.ownBlock.toList (Value.slice ad' (n + m) cap).ownBlock.toList w w' → wpList P ops Q rest (a.put o.dst (.slice ad' (n + m) cap)) w') :
    wpList P ops Q (o :: rest) a w := by
  obtain ⟨hu, ⟨i, hi, hz, hsz, hby⟩, hzs, hp⟩ := T
  exact wpList_append_own_at w hgd s x t ho 0 e i z size bytes hu hi hz hsz hby hzs hp v n xs hs hown ad m c news hx hl hnews h1 h63 hlen (Nat.zero_le _)
    fun v' w' h2 h3 _ h5 => by
      obtain ⟨ad', cap, rfl⟩ := ownsRow_shape h2
      exact h ad' cap w' h2 (grownBy_chg h3 h5)

end

section
variable {P : Program} {t e : TypeId} {z : Value}

/-- append(s, x...): x is a string. -/
theorem wpList_appStr (T : SlTy P t e 1 1 (.int .u8 0)) {u : TypeId} (hut : P.underlying u = some .string) {ops : Array Oper} {rest : List Oper} {o : Oper} {a : Act} {Q : Exit → Act → World → Prop} {w : World} (hgd : o.guard = none) (s x : Operand)
    (ho : o.op = .call { callee := .builtin .append, args := #[s, x], argTypes := #[t, u] }) (v : Value) (n : Nat) (xs : List Value) (hs : a.eval s = v)
    (st : ByteArray) (hx : a.eval x = .string st)
    (hown : w.ownsRow 0 e 1 v n xs) (hlen : n + st.size ≤ 140737488355328)
    (h : ∀ ad' cap w', w'.ownsRow 0 e 1 (.slice ad' (n + st.size) cap) (n + st.size) (xs ++ st.data.toList.map u8v) → Chg v.ownBlock.toList (Value.slice ad' (n + st.size) cap).ownBlock.toList w w' → wpList P ops Q rest (a.put o.dst (.slice ad' (n + st.size) cap)) w') :
    wpList P ops Q (o :: rest) a w := by
  obtain ⟨hu, ⟨i, hi, hz, hsz, hby⟩, hzs, hp⟩ := T
  have h63 : n + st.size ≤ maxLen := by unfold maxLen; omega
  obtain ⟨v', w', hr, h2, h3, h4⟩ := Lib.run_append_own_string (P := P) w 0 t u o.type e i hu hut hi hz hsz hby v n xs hown st h63 hlen (Nat.zero_le _)
  have hat : v'.ownBlock = v.ownBlock ∨ v'.ownBlock = some w.heap.size := by
    rcases hown.2 with ⟨rfl, rfl⟩ | ⟨g, cap, cur, rfl, hbg, hg, hnc, hcm, hcs, htake⟩
    · by_cases h0 : st.size = 0
      · left; rw [h4.2 ⟨rfl, h0⟩]
      · have hr2 := run_append_nil_string (P := P) w t u o.type e i _ hu hut hi hz st (by omega) (by unfold maxLen at h63; omega) (by rw [hby]; omega)
        rw [hr2] at hr
        injection hr with e1 e2
        right; rw [← e1]; rfl
    · by_cases hroom : n + st.size ≤ cap
      · have hr2 := Lib.run_append_room_string (P := P) w t u o.type e i hu hut hi hsz g n cap cur hg st hroom (by rw [hcs]; omega)
        rw [hr2] at hr
        injection hr with e1 e2
        left; rw [← e1]; rfl
      · have holds : ∀ j u, xs[j]? = some u → w.cell? ((⟨g, 0, none⟩ : Addr).add j) = some u := hown.cells (g := g) rfl
        have hr2 := Lib.run_append_grow_string (P := P) w t u o.type e i _ hu hut hi hz ⟨g, 0, none⟩ n cap xs (by rw [hsz]; exact hown.1) holds st (by omega) (by unfold maxLen at h63; omega)
          (by rw [hby]; have := growslice_fits (need := n + st.size) (old := cap) (bytes := 1) (by omega) (by omega); omega)
        rw [hr2] at hr
        injection hr with e1 e2
        right; rw [← e1]; rfl
  obtain ⟨ad', cap, rfl⟩ := ownsRow_shape h2
  refine wpList_plain hgd fun K hK => ?_
  unfold Oper.wp execOp
  simp only [ho, resolve, invoke, builtin, Sem.run_bind, Sem.run_pure, Result.andThen_ok, List.map_toArray, List.map_cons, List.map_nil, hs, hx, hr]
  exact hK _ _ (h ad' cap w' h2 (grownBy_chg h3 hat))
end

/-- string(b): b a slice that the call owns. -/
theorem own_string {P : Program} {w : World} {src dst e : TypeId} (hs : P.underlying src = some (.slice e)) (he : P.underlying e = some (.int .u8)) (hd : P.underlying dst = some .string)
    {v : Value} {n : Nat} {l : List UInt8} (hown : w.ownsRow 0 e 1 v n (l.map u8v)) : (convert src dst v).run P w = .ok (.string (str l)) w := by
  have hl : l.length = n := by simpa using hown.1
  rcases hown.2 with ⟨rfl, h0⟩ | ⟨g, cap, cur, rfl, hbg, hg, hnc, hcm, hcs, htake⟩
  · have : l = [] := List.eq_nil_of_length_eq_zero (by omega)
    subst this
    exact run_convert_bytes_nil (P := P) w src e hs he 0 0 dst hd
  · refine (run_convert_bytes_arg (P := P) w src e hs he g 0 n cap (l.map fun c => (c.toNat : Int)) (by simpa using hl) (fun i hi => ?_) dst hd).trans ?_
    · have hc := hown.cellAt i (by omega)
      rw [Nat.zero_add, hc]
      have hil : i < l.length := by omega
      simp [List.getElem?_eq_getElem hil, u8v, List.getD_eq_getElem?_getD]
    · congr 2
      unfold str strOfNums
      congr 2
      rw [List.map_map]
      simp [Function.comp_def]

/-! ## a slice that is only read -/

/-- The slice value v has the cells ts, one cell an element; G: the block that they lie in. -/
def SlAt (w : World) (v : Value) (ts : List Value) (G : List Nat) : Prop :=
  ∃ ad cap, v = .slice ad ts.length cap ∧ (ts ≠ [] → ∃ k off, ad = some ⟨k, off, none⟩ ∧ k ∈ G ∧ ∀ j u, ts[j]? = some u → w.cell? ⟨k, off + j, none⟩ = some u)

theorem SlAt.keep {w w' : World} {v : Value} {ts : List Value} {F G : List Nat} (h : SlAt w v ts G) (k : Keeps F w w') (hd : ∀ x, x ∈ G → x ∉ F) : SlAt w' v ts G := by
  obtain ⟨ad, cap, rfl, h2⟩ := h
  refine ⟨ad, cap, rfl, fun h0 => ?_⟩
  obtain ⟨b, off, rfl, hb, hc⟩ := h2 h0
  refine ⟨b, off, rfl, hb, fun j u hj => ?_⟩
  have := hc j u hj
  rw [← this]
  exact k.cell (World.block_lt_of_cell? w _ this) (hd _ hb)

/-- A new block that was laid for a list of arguments. -/
theorem SlAt.lit (w : World) (us : List Value) (t : TypeId) (n : Nat) (hn : us.length = n) : SlAt (w.alloc (.cells us.toArray t)) (.slice (some ⟨w.heap.size, 0, none⟩) n n) us [w.heap.size] := by
  subst hn
  refine ⟨_, _, rfl, fun _ => ⟨_, _, rfl, by simp, fun j u hj => ?_⟩⟩
  rw [Nat.zero_add, cell_of_heap (heap_alloc_self w _)]
  simpa using hj

/-- The same, the block's number spelled otherwise. -/
theorem SlAt.lit' {w : World} (us : List Value) (t : TypeId) {n k : Nat} (hk : k = w.heap.size) (hn : us.length = n) : SlAt (w.alloc (.cells us.toArray t)) (.slice (some ⟨k, 0, none⟩) n n) us [k] := by
  subst hk; exact SlAt.lit w us t n hn

theorem one_apart {x y : Nat} (h : x ≠ y) : ∀ k, k ∈ [x] → k ∉ [y] := by
  intro k hk hk'
  rw [List.mem_singleton] at hk hk'
  omega
theorem one_lt {x n : Nat} (h : x < n) : ∀ k, k ∈ [x] → k < n := by
  intro k hk
  rw [List.mem_singleton] at hk
  omega
theorem any_apart {F : List Nat} {y n : Nat} (h : ∀ k, k ∈ F → k < n) (hy : n ≤ y) : ∀ k, k ∈ F → k ∉ [y] := by
  intro k hk hk'
  rw [List.mem_singleton] at hk'
  have := h k hk
  omega
theorem one_any {F : List Nat} {y n : Nat} (h : ∀ k, k ∈ F → k < n) (hy : n ≤ y) : ∀ k, k ∈ [y] → k ∉ F := by
  intro k hk hk'
  rw [List.mem_singleton] at hk
  have := h k hk'
  omega

/-- string([]byte{c}): the block was just laid. -/
theorem lit_string {P : Program} (w : World) {src dst e : TypeId} (hs : P.underlying src = some (.slice e)) (he : P.underlying e = some (.int .u8)) (hd : P.underlying dst = some .string) (y : Int) :
    (convert src dst (.slice (some ⟨w.heap.size, 0, none⟩) 1 1)).run P (w.alloc (.cells #[.int .u8 y] e)) = .ok (.string (str [UInt8.ofNat y.toNat])) (w.alloc (.cells #[.int .u8 y] e)) := by
  refine (run_convert_bytes_arg (P := P) (w.alloc (.cells #[.int .u8 y] e)) src e hs he w.heap.size 0 1 1 [y] rfl (fun i hi => ?_) dst hd).trans rfl
  obtain rfl : i = 0 := by omega
  exact cell_new rfl _ _ 0

@[simp, go_sem] theorem str_append (a b : List UInt8) : str a ++ str b = str (a ++ b) := by
  have h : (str a ++ str b).data.toList = a ++ b := by simp
  rw [← str_self (str a ++ str b), h]

end Go.Proofs.Ytjebldfmkpfafaa

/- Layer 3, plain: bytes of numbers, and what a reader answers; no program in sight. -/
namespace Go.Proofs.Ytjebldfmkpfafaa
set_option maxRecDepth 100000

/-- So many bytes of a number, the high one first. -/
def be (x : Nat) : Nat → List UInt8
  | 0 => []
  | n + 1 => UInt8.ofNat (x / 256 ^ n) :: be x n

/-- The number of bytes, the high one first. -/
def num (l : List UInt8) : Nat := l.foldl (fun x c => x * 256 + c.toNat) 0

/-- How many bytes a number needs. -/
def vsz (x : Nat) : Nat := min (max ((Go.Lib.bitLen x + 6) / 7) 1) 9

/-- The bits of a first byte that tell that there are n. -/
def vhd (n : Nat) : Nat := 256 - 2 ^ (9 - n)

/-- A number in few bytes. -/
def vby (x : Nat) : List UInt8 := if vsz x = 9 then 255 :: be x 8 else UInt8.ofNat (x / 256 ^ (vsz x - 1) + vhd (vsz x)) :: be x (vsz x - 1)

/-- What the next n bytes are, where the reader stands then, and what is wrong. -/
def rtake (l : List UInt8) (p : Nat) (er : Int) (n : Nat) : List UInt8 × Nat × Int :=
  if er ≠ 0 then ([], p, er) else if l.length - p < n then ([], p, 10) else ((l.drop p).take n, p + n, 0)

def rfixed (l : List UInt8) (p : Nat) (er : Int) (n : Int) : Nat × Nat × Int :=
  if er = 0 ∧ (n < 1 ∨ 8 < n) then (0, p, 1) else (num (rtake l p er n.toNat).1, (rtake l p er n.toNat).2)

/-- How many bytes a first byte tells. -/
def vlead (c : UInt8) : Nat := 9 - Go.Lib.bitLen (255 - c.toNat)

/-- The number of so many bytes, of which the first tells how many there are. -/
def vval (t : List UInt8) : Nat :=
  if t.length < 9 then (t.headD 0).toNat % 2 ^ (9 - t.length) * 256 ^ (t.length - 1) + num t.tail else num t.tail

def rvar (l : List UInt8) (p : Nat) (er : Int) : Nat × Nat × Int :=
  if er ≠ 0 then (0, p, er) else if l.length ≤ p then (0, p, 10) else
  let n := vlead (l.getD p 0)
  if l.length - p < n then (0, p, 10) else
  let x := vval ((l.drop p).take n)
  if vsz x = n then (x, p + n, 0) else (0, p, 12)

def rint (l : List UInt8) (p : Nat) (er : Int) (most : Int) : Nat × Nat × Int :=
  let r := rvar l p er
  if r.2.2 = 0 ∧ (most < 0 ∨ most < (r.1 : Int)) then (0, p, 12) else r

def rtext (l : List UInt8) (p : Nat) (er : Int) (most : Int) : List UInt8 × Nat × Int :=
  let r := rint l p er most
  let t := rtake l r.2.1 r.2.2 r.1
  if t.2.2 ≠ 0 then ([], p, t.2.2) else t

def rraw (l : List UInt8) (p : Nat) (er : Int) (n : Int) : List UInt8 × Nat × Int :=
  if er = 0 ∧ n < 0 then ([], p, 1) else rtake l p er n.toNat

/-- What is wrong, or that bytes are left. -/
def rdone (l : List UInt8) (p : Nat) (er : Int) : Int := if er ≠ 0 then er else if p < l.length then 11 else 0

theorem bitLen_lt {x k : Nat} (hx : x < 2 ^ 64) (h : Go.Lib.bitLen x ≤ k) : x < 2 ^ k := by
  by_cases h0 : x = 0
  · rw [h0]; exact Nat.pow_pos (by omega)
  · obtain ⟨_, _, h3⟩ := Go.Lib.bitLenAux_bounds 64 x hx h0
    exact Nat.lt_of_lt_of_le h3 (Nat.pow_le_pow_right (by omega) h)

theorem vsz_bd (x : Nat) : 1 ≤ vsz x ∧ vsz x ≤ 9 := by unfold vsz; omega

/-- A number of n bytes, n at most 8, is below 128 ^ n. -/
theorem vsz_lt {x : Nat} (hx : x < 2 ^ 64) (h : vsz x < 9) : x < 2 ^ (7 * vsz x) := bitLen_lt hx (by unfold vsz at *; omega)
/-- And so the other way round. -/
theorem vsz_le {x n : Nat} (hn : 1 ≤ n) (hn8 : n ≤ 9) (h : x < 2 ^ (7 * n)) : vsz x ≤ n := by
  have := Go.Lib.bitLen_le x (7 * n) (by omega) h
  unfold vsz; omega

theorem be_length (x n : Nat) : (be x n).length = n := by induction n with
  | zero => rfl
  | succ n ih => simp [be, ih]

theorem vby_length (x : Nat) : (vby x).length = vsz x := by
  have := vsz_bd x
  unfold vby
  split
  · rename_i h; simp [be_length, h]
  · simp [be_length]; omega

end Go.Proofs.Ytjebldfmkpfafaa

/- Layer 3: what head and Size do. -/
namespace Go.Proofs.Ytjebldfmkpfafaa
open Go.RowKit
set_option maxRecDepth 100000

theorem head_any (n : Int) (w : World) (h1 : 1 ≤ n) (h2 : n ≤ 9) :
    Calls Try.prog 69 #[.int .i64 n] w fun r w' => r = .returned (.int .u8 (vhd n.toNat)) ∧ w = w' := by
  rcases (show n = 1 ∨ n = 2 ∨ n = 3 ∨ n = 4 ∨ n = 5 ∨ n = 6 ∨ n = 7 ∨ n = 8 ∨ n = 9 by omega) with h | h | h | h | h | h | h | h | h
  all_goals
    subst h
    go_enter Try.func69, Try.ntmps69
    go_wp2
    go_ret
    exact ⟨rfl, rfl⟩

theorem size_any (x : Nat) (w : World) (hx : x ≤ 18446744073709551615) :
    Calls Try.prog 67 #[.int .u64 x] w fun r w' => r = .returned (.int .i64 (vsz x)) ∧ w = w' := by
  have hb := Go.Lib.bitLen_le x 64 (by omega) (by omega)
  go_enter Try.func67, Try.ntmps67
  go_wp2_with (go_at_call 87; refine (Try.bits_Len64 (x : Int) _ (by omega) (by omega)).mono ?_; rintro e w' ⟨rfl, rfl⟩)
  go_ret
  exact ⟨ret_int (by unfold vsz; omega), rfl⟩
end Go.Proofs.Ytjebldfmkpfafaa

/- Layer 3, the writer: what put, head, Size, Fixed, Var, Raw, Text, String do. -/
namespace Go.Proofs.Ytjebldfmkpfafaa
open Go.RowKit
set_option maxRecDepth 100000

/-- The struct Out at block b holds the bytes l; F: the blocks that it has. -/
def OutAt (w : World) (b : Nat) (l : List UInt8) (F : List Nat) : Prop :=
  ∃ v, w.heap[b]? = some (.cells #[v] 82 (0, 0)) ∧ F = b :: v.ownBlock.toList ∧ w.ownsRow 0 5 1 v l.length (l.map u8v)

theorem Try.infoU8 : (Try.prog.info? 5).map (fun i => (i.zero, i.size, i.bytes)) = some (some (.int .u8 0), 1, 1) := by kernel_rfl

theorem OutAt.keep {w w' : World} {b : Nat} {l : List UInt8} {F G : List Nat} (h : OutAt w b l F) (k : Keeps G w w') (hd : ∀ x, x ∈ F → x ∉ G) : OutAt w' b l F := by
  obtain ⟨v, hb, rfl, hown⟩ := h
  refine ⟨v, k.some hb (hd _ (by simp)), rfl, hown.1, ?_⟩
  rcases hown.2 with hn | ⟨g, cap, cur, rfl, hbg, hg, r⟩
  · exact .inl hn
  · exact .inr ⟨g, cap, cur, rfl, hbg, k.some hg (hd _ (by simp [Value.ownBlock])), r⟩

theorem OutAt.lt {w : World} {b : Nat} {l : List UInt8} {F : List Nat} (h : OutAt w b l F) : ∀ k, k ∈ F → k < w.heap.size := by
  obtain ⟨v, hb, rfl, hown⟩ := h
  intro k hk
  rcases List.mem_cons.1 hk with rfl | hk
  · exact (Array.getElem?_eq_some_iff.1 hb).1
  · exact (hown.lt k (by simpa using hk)).2

theorem be_byte (x m : Nat) : (Value.int .u8 ((x : Int) / 2 ^ (8 * m) % 256)) = u8v (UInt8.ofNat (x / 256 ^ m)) := by
  unfold u8v
  congr 1
  rw [show (256 : Nat) = 2 ^ 8 from rfl, ← Nat.pow_mul]
  simp

theorem tyOut : SlTy Try.prog 41 5 1 1 (.int .u8 0) := SlTy.mk' Try.underlying41 (by kernel_rfl) rfl (by decide)

theorem own_ne {w : World} {b : Nat} {v u : Value} {n : Nat} {xs : List Value} {t e : TypeId} (hb : w.heap[b]? = some (.cells #[u] t (0, 0))) (hown : w.ownsRow 0 e 1 v n xs) (hne : e ≠ t) : b ∉ v.ownBlock.toList := by
  intro hm
  rcases hown.2 with ⟨rfl, _⟩ | ⟨g, cap, cur, rfl, _, hg, _⟩
  · simp [Value.ownBlock] at hm
  · simp only [Value.ownBlock, Option.toList, List.mem_singleton] at hm
    subst hm
    rw [hb] at hg
    simp only [Option.some.injEq, Obj.cells.injEq] at hg
    exact hne hg.2.1.symm

theorem ownsRow_setOther {w : World} {b o : Nat} {v x : Value} {n size : Nat} {xs : List Value} {e : TypeId} (hown : w.ownsRow 0 e size v n xs) (hne : b ∉ v.ownBlock.toList) : (w.setCell ⟨b, o, none⟩ x).ownsRow 0 e size v n xs := by
  refine ⟨hown.1, ?_⟩
  rcases hown.2 with hn | ⟨g, cap, cur, rfl, hbg, hg, r⟩
  · exact .inl hn
  · refine .inr ⟨g, cap, cur, rfl, hbg, ?_, r⟩
    rw [Below.heap_setCell _ _ _ _ (by simpa [Value.ownBlock, eq_comm] using hne)]
    exact hg

/-- Behind 'o.l = append(o.l, ..)'. -/
theorem outApp {w w2 : World} {b : Nat} {l : List UInt8} {v v' : Value} {n : Nat} {xs : List Value}
    (hb : w.heap[b]? = some (.cells #[v] 82 (0, 0))) (hown : w.ownsRow 0 5 1 v n xs)
    (hown' : w2.ownsRow 0 5 1 v' l.length (l.map u8v)) (hc : Chg v.ownBlock.toList v'.ownBlock.toList w w2) :
    OutAt (w2.setCell ⟨b, 0, none⟩ v') b l (b :: v'.ownBlock.toList) ∧ Chg (b :: v.ownBlock.toList) (b :: v'.ownBlock.toList) w (w2.setCell ⟨b, 0, none⟩ v') := by
  have hnb := own_ne hb hown (by decide)
  have hb2 : w2.heap[b]? = some (.cells #[v] 82 (0, 0)) := hc.keeps.some hb hnb
  have hnb' := own_ne hb2 hown' (by decide)
  refine ⟨⟨v', heap_setCell hb2 0 v', rfl, ownsRow_setOther hown' hnb'⟩, (hc.keeps.mono (by intro x hx; simp [hx])).setCell (by simp) _, ?_⟩
  intro k hk
  rcases List.mem_cons.1 hk with rfl | hk
  · simp
  · exact (hc.fresh k hk).imp (fun h => by simp [h]) id

set_option maxHeartbeats 400000 in
theorem put_any (b : Nat) (F : List Nat) (l : List UInt8) (x : Nat) (n : Nat) (w : World) (hn : n ≤ 8) (hl : l.length ≤ 1000000000) (ho : OutAt w b l F) :
    Calls Try.prog 68 #[.pointer (some ⟨b, 0, none⟩), .int .u64 x, .int .i64 n] w fun e w' =>
      e = .returned (.tuple #[]) ∧ ∃ F', OutAt w' b (l ++ be x n) F' ∧ Chg F F' w w' := by
  go_enter Try.func68, Try.ntmps68
  go_wp
  go_loopw [6] (fun i wr => ∃ (m : Nat) (c : List UInt8) (F1 : List Nat), m ≤ n ∧ i = .int .i64 ((m : Int) - 1) ∧ OutAt wr b c F1 ∧ Chg F F1 w wr ∧ c ++ be x m = l ++ be x n ∧ c.length ≤ l.length + n - m) (fun i _ => (intOf i + 1).toNat)
  case atStart => exact ⟨n, l, F, Nat.le_refl _, rfl, ho, Chg.refl _ _, rfl, by omega⟩
  case round =>
    obtain ⟨m, c, F1, hm, rfl, ho, hch, he, hcl⟩ := hrel
    have He := Lib.hid he
    clear he
    by_cases hm0 : m = 0
    · subst hm0
      go_wp2
      go_end0
      refine ⟨rfl, F1, ?_, hch⟩
      rw [← He.out]
      simpa [be] using ho
    · obtain ⟨v, hb, hF, hown⟩ := ho
      have hc0 : wr.cell? ⟨b, 0, none⟩ = some v := cell_of_heap hb 0
      have Hb := Lib.hid hb
      have HF := Lib.hid hF
      have Hown := Lib.hid hown
      clear hb hF hown
      go_wp2_with (at_builtin; refine wpList_app1 tyOut rfl (.tmp 17) (.tmp 24) rfl _ _ _ rfl rfl Hown.out rfl ?c1 ?c2 ?c3 ?c4)
      case c1 => rfl
      case c2 => omega
      case c3 => unfold maxLen; omega
      case c4 =>
      intro g' cap' w' hown' hc'
      obtain ⟨q, rfl⟩ : ∃ q, m = q + 1 := ⟨m - 1, by omega⟩
      rw [Nat.add_sub_cancel, be_byte] at hown'
      have R := outApp (l := c ++ [UInt8.ofNat (x / 256 ^ q)]) (v' := .slice (some ⟨g', 0, none⟩) (c.length + 1) cap') Hb.out Hown.out (by simpa using hown') hc'
      have hb2 := hc'.keeps.some Hb.out (own_ne Hb.out Hown.out (by decide))
      have hf2 := free_of_heap hb2 0
      have hc2 := cell_of_heap hb2 0
      clear hc0 hb2 hown'
      go_wp2
      go_roundw
      case rel => exact ⟨q, _, _, by omega, by go_num, R.1, hch.trans (HF.out ▸ R.2), by rw [← He.out]; simp [be], by simp; omega⟩
      case measure => simp [intOf]

theorem outString_any (b : Nat) (F : List Nat) (l : List UInt8) (w : World) (ho : OutAt w b l F) :
    Calls Try.prog 42 #[.pointer (some ⟨b, 0, none⟩)] w fun e w' => e = .returned (.string (str l)) ∧ w = w' := by
  obtain ⟨v, hb, hF, hown⟩ := ho
  have hc0 : w.cell? ⟨b, 0, none⟩ = some v := cell_of_heap hb 0
  have hcv := own_string (P := Try.prog) Try.underlying41 Try.underlying5 Try.underlying9 hown
  clear hb hF hown
  go_enter Try.func42, Try.ntmps42
  go_wp2
  go_ret
  exact ⟨rfl, rfl⟩

theorem outFixed_any (b : Nat) (F : List Nat) (l : List UInt8) (x : Nat) (n : Int) (w : World) (hl : l.length ≤ 1000000000) (ho : OutAt w b l F) :
    Calls Try.prog 44 #[.pointer (some ⟨b, 0, none⟩), .int .u64 x, .int .i64 n] w fun e w' =>
      e = .returned (.int .i64 (if n < 1 ∨ 8 < n then 1 else 0)) ∧ ∃ F', OutAt w' b (l ++ if n < 1 ∨ 8 < n then [] else be x n.toNat) F' ∧ Chg F F' w w' := by
  by_cases h : n < 1 ∨ 8 < n
  · rw [if_pos h, if_pos h]
    have H := Lib.hid ho
    clear ho
    rcases h with h | h
    all_goals
      go_enter Try.func44, Try.ntmps44
      go_wp2
      go_ret
      exact ⟨rfl, F, by simpa using H.out, Chg.refl _ _⟩
  · rw [if_neg h, if_neg h]
    obtain ⟨m, rfl⟩ : ∃ m : Nat, n = m := ⟨n.toNat, by omega⟩
    have hm1 : 1 ≤ (m : Int) := by omega
    have hm2 : (m : Int) ≤ 8 := by omega
    have H := Lib.hid ho
    clear ho h
    go_enter Try.func44, Try.ntmps44
    go_wp2_with (go_at_call 68; refine (put_any b F l x m w (by omega) hl H.out).mono ?_; rintro e w' ⟨rfl, F', ho', hch⟩)
    go_ret
    exact ⟨rfl, F', ho', hch⟩

theorem or_tab : ∀ (n : Fin 9) (c : Fin 256), 0 < n.val → c.val < 2 ^ (8 - n.val) → bits .or .u8 ((c.val : Nat) : Int) ((vhd n.val : Nat) : Int) = ((c.val + vhd n.val : Nat) : Int) := by decide +kernel

theorem or_small {y n : Nat} (hy : y < 2 ^ (8 - (n + 1))) (hn : n < 8) : (UInt8.ofNat (y + vhd (n + 1))).toNat = y + vhd (n + 1) := by
  have h : ∀ n : Fin 8, 2 ^ (8 - (n.val + 1)) + vhd (n.val + 1) ≤ 256 := by decide
  have := h ⟨n, hn⟩
  simp only [UInt8.toNat_ofNat'] at *
  omega

/-- Behind 'o.l[j] = c'. -/
theorem outStore {w : World} {b g M cap j n : Nat} {l : List UInt8} {c' : UInt8} (hb : w.heap[b]? = some (.cells #[.slice (some ⟨g, 0, none⟩) M cap] 82 (0, 0)))
    (hown : w.ownsRow 0 5 1 (.slice (some ⟨g, 0, none⟩) M cap) M (l.map u8v)) (hl : l.length = M) :
    OutAt ((w.drewN n).setCell ⟨g, j, none⟩ (u8v c')) b (l.set j c') (b :: (Value.slice (some ⟨g, 0, none⟩) M cap).ownBlock.toList) ∧
      Chg (b :: (Value.slice (some ⟨g, 0, none⟩) M cap).ownBlock.toList) (b :: (Value.slice (some ⟨g, 0, none⟩) M cap).ownBlock.toList) w ((w.drewN n).setCell ⟨g, j, none⟩ (u8v c')) := by
  have hne := own_ne hb hown (by decide)
  have hne' : b ≠ g := by simpa [Value.ownBlock] using hne
  have h1 := (hown.stored j (u8v c')).1
  refine ⟨⟨_, ?_, rfl, ?_⟩, (((Keeps.refl _ w).drewN n).setCell (by simp [Value.ownBlock]) _), fun k hk => .inl hk⟩
  · rw [Below.heap_setCell _ _ _ _ hne']
    exact hb
  · rw [List.length_set, List.map_set, hl]
    exact h1

/-- The cells of a list of numbers. -/
def u64v (x : Nat) : Value := .int .u64 x

theorem vby_nine {x : Nat} (h : vsz x = 9) : vby x = 255 :: be x 8 := by unfold vby; rw [if_pos h]
theorem vby_less {x n : Nat} (h : vsz x = n + 1) (hn : n < 8) : vby x = UInt8.ofNat (x / 256 ^ n + vhd (n + 1)) :: be x n := by
  unfold vby; rw [if_neg (by omega), h, Nat.add_sub_cancel]
/-- The first byte is small enough for its head's bits. -/
theorem first_lt {x n : Nat} (hx : x < 2 ^ 64) (h : vsz x = n + 1) (hn : n < 8) : x / 256 ^ n < 2 ^ (8 - (n + 1)) := by
  have h1 := vsz_lt hx (by omega)
  rw [Nat.div_lt_iff_lt_mul (Nat.pow_pos (by omega)), show (256 : Nat) = 2 ^ 8 from rfl, ← Nat.pow_mul, ← Nat.pow_add]
  rw [h] at h1
  exact Nat.lt_of_lt_of_le h1 (Nat.pow_le_pow_right (by omega) (by omega))

set_option maxHeartbeats 1600000 in
theorem outVar_any (b : Nat) (F : List Nat) (l : List UInt8) (xs : List Nat) (w : World) (hl : l.length + 9 * xs.length ≤ 1000000000) (hx : ∀ x, x ∈ xs → x < 18446744073709551616) (ho : OutAt w b l F)
    (v : Value) (G : List Nat) (hv : SlAt w v (xs.map u64v) G) (hd : ∀ k, k ∈ G → k ∉ F) (hG : ∀ k, k ∈ G → k < w.heap.size) :
    Calls Try.prog 41 #[.pointer (some ⟨b, 0, none⟩), v] w fun e w' =>
      e = .returned (.tuple #[]) ∧ ∃ F', OutAt w' b (l ++ xs.flatMap vby) F' ∧ Chg F F' w w' := by
  obtain ⟨ad, cap, rfl, hcs⟩ := hv
  have Hcs := Lib.hid hcs
  have Ho := Lib.hid ho
  have Hd := Lib.hid hd
  have HG := Lib.hid hG
  have Hx := Lib.hid hx
  clear hcs ho hd hG hx
  rw [List.length_map]
  by_cases h0 : xs = []
  · subst h0
    go_enter Try.func41, Try.ntmps41
    go_wp2
    refine wp_loop_rounds 1 ?_
    rw [rounds_succ]
    go_wp2
    go_end0
    exact ⟨rfl, F, by simpa using Ho.out, Chg.refl _ _⟩
  obtain ⟨kb, off, rfl, hkb, hcell⟩ := Hcs.out (by simpa using h0)
  have Hcell := Lib.hid hcell
  clear hcell h0
  go_enter Try.func41, Try.ntmps41
  go_wp2
  go_loopw [12] (fun i wr => ∃ (k : Nat) (F1 : List Nat), k ≤ xs.length ∧ i = .int .i64 k ∧ OutAt wr b (l ++ (xs.take k).flatMap vby) F1 ∧ Chg F F1 w wr ∧ (l ++ (xs.take k).flatMap vby).length ≤ l.length + 9 * k) (fun i _ => xs.length - (intOf i).toNat)
  case atStart => exact ⟨0, F, Nat.zero_le _, rfl, by simpa using Ho.out, Chg.refl _ _, by simp⟩
  case round =>
    obtain ⟨k, F1, hk, rfl, ho1, hch, hlen⟩ := hrel
    by_cases hlt : k < xs.length
    · obtain ⟨x, hxk⟩ : ∃ x, xs[k]? = some x := ⟨xs[k], by simp [hlt]⟩
      have hx0 : wr.cell? ⟨kb, off + k, none⟩ = some (u64v x) := by
        have h1 := Hcell.out k (u64v x) (by simp [hxk])
        rw [← h1]
        exact hch.keeps.cell (HG.out _ hkb) (Hd.out _ hkb)
      have hxl : x < 18446744073709551616 := Hx.out x (List.mem_of_getElem? hxk)
      have hnx : (xs.take (k + 1)).flatMap vby = (xs.take k).flatMap vby ++ vby x := by
        rw [List.take_add_one, hxk]; simp
      obtain ⟨c, hc⟩ : ∃ c, c = l ++ (xs.take k).flatMap vby := ⟨_, rfl⟩
      rw [← hc] at ho1 hlen
      have hcl : c.length ≤ 1000000000 := by omega
      have hvl := vby_length x
      have hvb := vsz_bd x
      have Hc := Lib.hid hc
      have Hnx := Lib.hid hnx
      have Hvl := Lib.hid hvl
      have Hch := Lib.hid hch
      clear hc hnx hxk hvl hch
      unfold u64v at hx0
      obtain ⟨v, hb, hF, hown⟩ := ho1
      obtain ⟨ad0, cap0, rfl⟩ := ownsRow_shape hown
      have hc0 : wr.cell? ⟨b, 0, none⟩ = some (.slice ad0 c.length cap0) := cell_of_heap hb 0
      have Hb := Lib.hid hb
      have HF := Lib.hid hF
      have Hown := Lib.hid hown
      clear hb hF hown
      by_cases h9 : vsz x = 9
      · have h9b : ((vsz x : Int) == 9) = true := beq_nat_eq h9
        have h9v := Lib.hid (vby_nine h9)
        have H9 := Lib.hid h9
        clear h9
        go_wp2_with (first | (go_at_call 67; refine (size_any x _ (by omega)).mono ?_; rintro e w' ⟨rfl, rfl⟩) | (at_builtin; refine wpList_app1 tyOut rfl (.tmp 24) (.tmp 25) rfl _ _ _ rfl rfl Hown.out rfl ?c1 ?c2 ?c3 ?c4))
        case c1 => rfl
        case c2 => omega
        case c3 => unfold maxLen; omega
        case c4 =>
        intro g' cap' w' hown' hc'
        have R := outApp (l := c ++ [255]) (v' := .slice (some ⟨g', 0, none⟩) (c.length + 1) cap') Hb.out Hown.out (by simpa [u8v] using hown') hc'
        have hb2 := hc'.keeps.some Hb.out (own_ne Hb.out Hown.out (by decide))
        have hf2 := free_of_heap hb2 0
        have hc2 := cell_of_heap hb2 0
        have HR := Lib.hid R
        clear hc0 hb2 hown' R hx0
        go_wp2_with (go_at_call 68; refine (put_any b _ (c ++ [255]) x 8 _ (by omega) (by simp; omega) HR.out.1).mono ?_; rintro e w2 ⟨rfl, F2, ho2, hch2⟩)
        go_roundw
        case rel => exact ⟨k + 1, F2, by omega, by go_num, by rw [Hnx.out, h9v.out, ← List.append_assoc, ← Hc.out]; simpa using ho2, (Hch.out.trans (HF.out ▸ HR.out.2)).trans hch2, by rw [Hnx.out, ← List.append_assoc, ← Hc.out, List.length_append, Hvl.out]; omega⟩
        case measure => simp [intOf]; omega
      · have h9b : ((vsz x : Int) == 9) = false := beq_nat_ne h9
        obtain ⟨n, hn⟩ : ∃ n, vsz x = n + 1 := ⟨vsz x - 1, by omega⟩
        have h9v := Lib.hid (vby_less hn (by omega))
        have h10 := first_lt hxl hn (by omega)
        have H10 := Lib.hid h10
        have hn8 : n < 8 := by omega
        have Hn := Lib.hid hn
        clear hn h9 h10
        go_wp2_with (first | (go_at_call 67; refine (size_any x _ (by omega)).mono ?_; rintro e w' ⟨rfl, rfl⟩) | (go_at_call 68; refine (put_any b _ c x (vsz x) _ (by have := Hn.out; omega) (by omega) ⟨_, Hb.out, HF.out, Hown.out⟩).mono ?_; rintro e w2 ⟨rfl, F2, ho2, hch2⟩))
        obtain ⟨v2, hb2, hF2, hown2⟩ := ho2
        obtain ⟨M, hM, hMe⟩ : ∃ M, c.length < M ∧ (c ++ be x (vsz x)).length = M := ⟨_, by rw [List.length_append, be_length]; omega, rfl⟩
        rw [hMe] at hown2
        obtain ⟨g2, cap2, rfl⟩ : ∃ g cap, v2 = .slice (some ⟨g, 0, none⟩) M cap := by
          rcases hown2.2 with ⟨_, h0⟩ | ⟨g, cap, _, rfl, _⟩
          · omega
          · exact ⟨g, cap, rfl⟩
        have hbe : be x (vsz x) = UInt8.ofNat (x / 256 ^ n) :: be x n := by rw [Hn.out]; rfl
        have hy : (UInt8.ofNat (x / 256 ^ n)).toNat = x / 256 ^ n := by
          have h1 := H10.out
          have h2 : 2 ^ (8 - (n + 1)) ≤ 2 ^ 7 := Nat.pow_le_pow_right (by omega) (by omega)
          simp only [UInt8.toNat_ofNat']
          generalize x / 256 ^ n = y at *
          omega
        have hB : w2.cell? ⟨g2, c.length, none⟩ = some (.int .u8 ((x / 256 ^ n : Nat) : Int)) := by
          rw [hown2.cellAt c.length (by omega), hbe, List.map_append, List.getElem?_append_right (by simp)]
          simp [u8v, hy]
        have hC := hown2.frozenAt c.length
        have hA := cell_of_heap hb2 0
        have hor := or_tab ⟨n + 1, by omega⟩ ⟨x / 256 ^ n, by have h1 := H10.out; have h2 : 2 ^ (8 - (n + 1)) ≤ 2 ^ 7 := Nat.pow_le_pow_right (by omega) (by omega); omega⟩ (by simp) H10.out
        have S := outStore (j := c.length) (n := 1) (c' := UInt8.ofNat (x / 256 ^ n + vhd (n + 1))) hb2 hown2 hMe
        have Hb2 := Lib.hid hb2
        have HF2 := Lib.hid hF2
        have Hown2 := Lib.hid hown2
        have HMe := Lib.hid hMe
        have Hbe := Lib.hid hbe
        have Hor := Lib.hid hor
        have HS := Lib.hid S
        clear hb2 hF2 hown2 hMe hbe hy hor hc0 hx0 S
        refine region_tail 11 (by kernel_rfl) (by kernel_rfl) ?_
        simp only [List.take_succ_cons, List.take_zero, List.drop_succ_cons, List.drop_zero]
        repeat (first | still_step | still_call (Calls_flip (head_any _ _ (by omega) (by omega))))
        refine wpStill_nil ?_
        go_wp2
        have hval : Value.int .u8 (bits .or .u8 ((x : Int) / 256 ^ n) ((vhd (vsz x) : Nat) : Int)) = u8v (UInt8.ofNat (x / 256 ^ n + vhd (n + 1))) := by
          have h1 := Hor.out
          simp only [Int.natCast_ediv, Int.natCast_pow] at h1
          rw [Hn.out, u8v]
          congr 1
          refine h1.trans ?_
          rw [or_small H10.out hn8]
        rw [hval]
        go_roundw
        case rel => exact ⟨k + 1, _, by omega, by go_num, by rw [Hnx.out, h9v.out, ← List.append_assoc, ← Hc.out]; have h1 := HS.out.1; rw [Hbe.out, List.set_append_right _ _ (Nat.le_refl _), Nat.sub_self] at h1; rw [HF2.out]; exact h1, (Hch.out.trans (HF.out ▸ hch2)).trans (HF2.out ▸ HS.out.2), by rw [Hnx.out, ← List.append_assoc, ← Hc.out, List.length_append, Hvl.out]; omega⟩
        case measure => simp [intOf]; omega
    · go_wp2
      go_end0
      exact ⟨rfl, F1, by rw [← List.take_of_length_le (l := xs) (i := k) (by omega)]; exact ho1, hch⟩

end Go.Proofs.Ytjebldfmkpfafaa

/- Layer 3, the reader: what ready, stand, take, number, At, Left, Err, Done do. -/
namespace Go.Proofs.Ytjebldfmkpfafaa
open Go.RowKit
set_option maxRecDepth 100000

/-- The struct In at block b stands at p in s; what is wrong is er. -/
def InAt (w : World) (b : Nat) (s : ByteArray) (p : Nat) (er : Int) : Prop :=
  w.heap[b]? = some (.cells #[.int .i64 p, .int .i64 er, .string s] 123 (0, 0))

theorem InAt.keep {w w' : World} {b : Nat} {s : ByteArray} {p : Nat} {er : Int} {F : List Nat} (h : InAt w b s p er) (k : Keeps F w w') (hd : b ∉ F) : InAt w' b s p er := k.some h hd
theorem InAt.lt {w : World} {b : Nat} {s : ByteArray} {p : Nat} {er : Int} (h : InAt w b s p er) : b < w.heap.size := (Array.getElem?_eq_some_iff.1 h).1

/-- From w to w' the reader at b has moved, and nothing else. -/
def InTo (w w' : World) (b : Nat) (s : ByteArray) (r : Nat × Int) : Prop := InAt w' b s r.1 r.2 ∧ Keeps [b] w w'

theorem InAt.same {w : World} {b : Nat} {s : ByteArray} {p : Nat} {er : Int} (h : InAt w b s p er) : InTo w w b s (p, er) := ⟨h, Keeps.refl _ _⟩
theorem InAt.drewN {w : World} {b : Nat} {s : ByteArray} {p : Nat} {er : Int} (n : Nat) (h : InAt w b s p er) : InTo w (w.drewN n) b s (p, er) := ⟨h, (Keeps.refl _ _).drewN n⟩
theorem InTo.trans {w w1 w2 : World} {b : Nat} {s : ByteArray} {r r' : Nat × Int} (h : InTo w w1 b s r) (k : InTo w1 w2 b s r') : InTo w w2 b s r' := ⟨k.1, h.2.trans k.2 (fun _ h => .inl h)⟩
theorem InAt.moved {w w' : World} {b : Nat} {s : ByteArray} {p : Nat} {er : Int} (h : InAt w b s p er) (q : Nat) (e : Int)
   (hw : w'.heap = ((w.setCell ⟨b, 0, none⟩ (.int .i64 q)).setCell ⟨b, 1, none⟩ (.int .i64 e)).heap) (h1 : w'.os = w.os) (h2 : w'.tape = w.tape) (h3 : w'.output = w.output) : InTo w w' b s (q, e) := by
  have k := ((Keeps.refl [b] w).setCell (p := ⟨b, 0, none⟩) (by simp) (.int .i64 q)).setCell (p := ⟨b, 1, none⟩) (by simp) (.int .i64 e)
  refine ⟨?_, ⟨h1, h2, h3, by rw [hw]; exact k.size, fun i hi hn => by rw [hw]; exact k.block i hi hn⟩⟩
  have := heap_setCell (heap_setCell h 0 (.int .i64 q)) 1 (.int .i64 e)
  unfold InAt
  rw [hw, this]
  rfl

theorem InAt.movedAt {w w' : World} {b : Nat} {s : ByteArray} {p : Nat} {er : Int} (h : InAt w b s p er) (q : Nat)
   (hw : w'.heap = (w.setCell ⟨b, 0, none⟩ (.int .i64 q)).heap) (h1 : w'.os = w.os) (h2 : w'.tape = w.tape) (h3 : w'.output = w.output) : InTo w w' b s (q, er) := by
  have k := (Keeps.refl [b] w).setCell (p := ⟨b, 0, none⟩) (by simp) (.int .i64 q)
  refine ⟨?_, ⟨h1, h2, h3, by rw [hw]; exact k.size, fun i hi hn => by rw [hw]; exact k.block i hi hn⟩⟩
  unfold InAt
  rw [hw, heap_setCell h 0 (.int .i64 q)]
  rfl

section
variable (b : Nat) (s : ByteArray) (p : Nat) (er : Int) (w : World) (hi : InAt w b s p er) (hp : p ≤ s.size) (hs : s.size ≤ 140737488351232)
include hi

theorem inAt_any : Calls Try.prog 82 #[.pointer (some ⟨b, 0, none⟩)] w fun e w' => e = .returned (.int .i64 p) ∧ w = w' := by
  have hc0 := cell_of_heap hi 0
  clear hi
  go_enter Try.func82, Try.ntmps82
  go_wp2
  go_ret
  exact ⟨rfl, rfl⟩

theorem inErr_any : Calls Try.prog 85 #[.pointer (some ⟨b, 0, none⟩)] w fun e w' => e = .returned (.int .i64 er) ∧ w = w' := by
  have hc0 := cell_of_heap hi 1
  clear hi
  go_enter Try.func85, Try.ntmps85
  go_wp2
  go_ret
  exact ⟨rfl, rfl⟩

theorem inReady_any : Calls Try.prog 78 #[.pointer (some ⟨b, 0, none⟩)] w fun e w' => e = .returned (.bool (er == 0)) ∧ w = w' := by
  have hc0 := cell_of_heap hi 1
  clear hi
  go_enter Try.func78, Try.ntmps78
  go_wp2
  go_ret
  exact ⟨rfl, rfl⟩

include hp hs
theorem inLeft_any : Calls Try.prog 100 #[.pointer (some ⟨b, 0, none⟩)] w fun e w' => e = .returned (.int .i64 ((s.size - p : Nat) : Int)) ∧ ∃ n, w' = w.drewN n := by
  have hc0 := cell_of_heap hi 0
  have hc2 := cell_of_heap hi 2
  clear hi
  go_enter Try.func100, Try.ntmps100
  go_wp2
  go_quiet (fail)
  go_wp2
  go_ret
  exact ⟨ret_int (by omega), nq, rfl⟩
end

theorem stand_any (b : Nat) (s : ByteArray) (p : Nat) (er : Int) (w : World) (hi : InAt w b s p er) (q : Nat) (e : Int) :
    Calls Try.prog 79 #[.pointer (some ⟨b, 0, none⟩), .int .i64 q, .int .i64 e] w fun r w' => r = .returned (.tuple #[]) ∧ InTo w w' b s (q, e) := by
  have hc0 := cell_of_heap hi 0
  have hc1 := cell_of_heap hi 1
  have hf0 := free_of_heap hi 0
  have hf1 := free_of_heap hi 1
  have Hi := Lib.hid hi
  clear hi
  go_enter Try.func79, Try.ntmps79
  go_wp2
  go_end0
  exact ⟨rfl, Hi.out.moved q e rfl rfl rfl rfl⟩

theorem take_dead (b : Nat) (s : ByteArray) (p : Nat) (er : Int) (w : World) (hi : InAt w b s p er) (n : Int) (he : er ≠ 0) :
    Calls Try.prog 81 #[.pointer (some ⟨b, 0, none⟩), .int .i64 n] w fun r w' => r = .returned (.string ⟨#[]⟩) ∧ w = w' := by
  have h1 : (er == 0) = false := by simpa using he
  have H := Lib.hid hi
  clear hi
  go_enter Try.func81, Try.ntmps81
  go_wp2_with (go_at_call 78; refine (inReady_any _ _ _ _ _ H.out).mono ?_; rintro e w' ⟨rfl, rfl⟩)
  go_ret
  exact ⟨rfl, rfl⟩

theorem take_short (b : Nat) (s : ByteArray) (p : Nat) (w : World) (hi : InAt w b s p 0) (hp : p ≤ s.size) (hs : s.size ≤ 140737488351232) (n : Int) (hn : ((s.size : Int) - p) < n) :
    Calls Try.prog 81 #[.pointer (some ⟨b, 0, none⟩), .int .i64 n] w fun r w' => r = .returned (.string ⟨#[]⟩) ∧ InTo w w' b s (p, 10) := by
  have hc0 := cell_of_heap hi 0
  have hc2 := cell_of_heap hi 2
  have H := Lib.hid hi
  clear hi
  go_enter Try.func81, Try.ntmps81
  go_wp2_with (go_at_call 78; refine (inReady_any _ _ _ _ _ H.out).mono ?_; rintro e w' ⟨rfl, rfl⟩)
  go_quiet (fail)
  go_wp2
  refine region_tail 8 (by kernel_rfl) (by kernel_rfl) ?_
  simp only [List.take_succ_cons, List.take_zero, List.drop_succ_cons, List.drop_zero]
  repeat still_step
  refine wpStill_nil ?_
  go_wp2_with (go_at_call 79; refine (stand_any b s p 0 _ (H.out.drewN _).1 _ _).mono ?_; rintro e w' ⟨rfl, hto⟩)
  go_ret
  exact ⟨rfl, (H.out.drewN _).trans hto⟩

theorem take_ok (b : Nat) (s : ByteArray) (p : Nat) (w : World) (hi : InAt w b s p 0) (hp : p ≤ s.size) (hs : s.size ≤ 140737488351232) (n : Nat) (hn : n ≤ s.size - p) :
    Calls Try.prog 81 #[.pointer (some ⟨b, 0, none⟩), .int .i64 n] w fun r w' => r = .returned (.string (s.extract p (p + n))) ∧ InTo w w' b s (p + n, 0) := by
  have hc0 := cell_of_heap hi 0
  have hc2 := cell_of_heap hi 2
  have hf0 := free_of_heap hi 0
  have hn' : ((n : Int) ≤ (s.size : Int) - p) := by omega
  have H := Lib.hid hi
  clear hi
  go_enter Try.func81, Try.ntmps81
  go_wp2_with (go_at_call 78; refine (inReady_any _ _ _ _ _ H.out).mono ?_; rintro e w' ⟨rfl, rfl⟩)
  go_quiet (fail)
  go_wp2
  go_quiet (fail)
  go_wp2
  go_ret
  exact ⟨rfl, H.out.movedAt (p + n) rfl rfl rfl rfl⟩

theorem num_snoc (l : List UInt8) (c : UInt8) : num (l ++ [c]) = num l * 256 + c.toNat := by simp [num, List.foldl_append]
theorem num_lt (l : List UInt8) : num l < 256 ^ l.length := by
  suffices h : ∀ n (l : List UInt8), l.length = n → num l < 256 ^ n from h _ l rfl
  intro n
  induction n with
  | zero => intro l hl; rw [List.eq_nil_of_length_eq_zero hl]; simp [num]
  | succ n ih =>
    intro l hl
    obtain ⟨l', c, rfl⟩ : ∃ l' c, l = l' ++ [c] := ⟨l.dropLast, l.getLast (by intro h; simp [h] at hl), (List.dropLast_concat_getLast _).symm⟩
    rw [num_snoc, Nat.pow_succ]
    have := ih l' (by simpa using hl)
    have := c.toNat_lt
    omega

theorem wrap_byte (c : UInt8) : IntKind.u64.wrap (c.toNat : Int) = (c.toNat : Int) := by
  have := c.toNat_lt
  exact IntWalk.u64_in _ ⟨by omega, by omega⟩

theorem bits_or_shift (a c : Nat) (ha : a < 72057594037927936) (hc : c < 256) : bits .or .u64 ((a : Int) * 256) (c : Int) = ((a * 256 + c : Nat) : Int) := by
  have h := bits_or_u64_nat (a * 256) c (by omega) (by omega)
  rw [Int.natCast_mul] at h
  refine h.trans ?_
  congr 1
  rw [show (256 : Nat) = 2 ^ 8 from rfl, ← Nat.shiftLeft_eq, ← Nat.shiftLeft_add_eq_or_of_lt (by omega), Nat.shiftLeft_eq]

theorem number_any (s : ByteArray) (w : World) (hs : s.size ≤ 8) :
    Calls Try.prog 80 #[.string s] w fun r w' => r = .returned (.int .u64 (num s.data.toList)) ∧ w = w' := by
  go_enter Try.func80, Try.ntmps80
  go_wp2
  go_loop [3, 7] (fun x i => ∃ k : Nat, k ≤ s.size ∧ i = .int .i64 k ∧ x = .int .u64 (num (s.data.toList.take k))) (fun _ i => s.size - (intOf i).toNat)
  case atStart => exact ⟨0, Nat.zero_le _, rfl, rfl⟩
  case round =>
    obtain ⟨k, hk, rfl, rfl⟩ := hrel
    by_cases hlt : k < s.size
    · have h1 := num_lt (s.data.toList.take k)
      have h2 : 256 ^ (s.data.toList.take k).length ≤ 256 ^ 7 := Nat.pow_le_pow_right (by omega) (by have := List.length_take_le k s.data.toList; omega)
      have h3 : num (s.data.toList.take k) < 72057594037927936 := by omega
      have h4 := bits_or_shift _ (s[k].toNat) h3 s[k].toNat_lt
      have H4 := Lib.hid h4
      clear h1 h2 h4
      go_wp2
      go_round
      case rel => exact ⟨k + 1, by omega, by go_num, by rw [wrap_byte, H4.out, List.take_succ_eq_append_getElem (by simpa using hlt), num_snoc]; rfl⟩
      case measure => simp [intOf]; omega
    · go_wp2
      go_ret
      exact ⟨ret_int (by rw [List.take_of_length_le (by simp; omega)]), rfl⟩
theorem take_any (b : Nat) (s : ByteArray) (p : Nat) (er : Int) (w : World) (hi : InAt w b s p er) (hp : p ≤ s.size) (hs : s.size ≤ 140737488351232) (n : Int) (hn : er = 0 → 0 ≤ n) :
    Calls Try.prog 81 #[.pointer (some ⟨b, 0, none⟩), .int .i64 n] w fun r w' => r = .returned (.string (str (rtake s.data.toList p er n.toNat).1)) ∧ InTo w w' b s (rtake s.data.toList p er n.toNat).2 := by
  by_cases he : er = 0
  · subst he
    obtain ⟨m, rfl⟩ : ∃ m : Nat, n = m := ⟨n.toNat, by have := hn rfl; omega⟩
    have hl : s.data.toList.length = s.size := by simp
    by_cases h : s.size - p < m
    · refine (take_short b s p w hi hp hs m (by omega)).mono ?_
      rintro e w' ⟨rfl, h2⟩
      simp only [rtake, ne_eq, not_true_eq_false, if_false, hl, Int.toNat_natCast, if_pos h]
      exact ⟨rfl, h2⟩
    · refine (take_ok b s p w hi hp hs m (by omega)).mono ?_
      rintro e w' ⟨rfl, h2⟩
      simp only [rtake, ne_eq, not_true_eq_false, if_false, hl, Int.toNat_natCast, if_neg h]
      exact ⟨by rw [str_extract]; simp, h2⟩
  · refine (take_dead b s p er w hi n he).mono ?_
    rintro e w' ⟨rfl, rfl⟩
    simp only [rtake, ne_eq, he, not_false_eq_true, if_true]
    exact ⟨rfl, hi.same⟩

theorem rtake_len (l : List UInt8) (p : Nat) (er : Int) (n : Nat) : (rtake l p er n).1.length ≤ n := by
  unfold rtake; split
  · simp
  · split
    · simp
    · simp; omega
theorem rtake_pos (l : List UInt8) (p : Nat) (er : Int) (n : Nat) (hp : p ≤ l.length) : (rtake l p er n).2.1 ≤ l.length := by
  unfold rtake; split
  · exact hp
  · split
    · exact hp
    · simp; omega

end Go.Proofs.Ytjebldfmkpfafaa

/- Layer 3, the reader: what Fixed, Var, Int, Text, Raw, Done do. -/
namespace Go.Proofs.Ytjebldfmkpfafaa
open Go.RowKit
set_option maxRecDepth 100000

section
variable (b : Nat) (s : ByteArray) (p : Nat) (er : Int) (w : World) (hi : InAt w b s p er) (hp : p ≤ s.size) (hs : s.size ≤ 140737488351232)
include hi hp hs

theorem inFixed_any (n : Int) : Calls Try.prog 53 #[.pointer (some ⟨b, 0, none⟩), .int .i64 n] w fun e w' =>
    e = .returned (.int .u64 (rfixed s.data.toList p er n).1) ∧ InTo w w' b s (rfixed s.data.toList p er n).2 := by
  by_cases hbad : er = 0 ∧ (n < 1 ∨ 8 < n)
  · have hr : rfixed s.data.toList p er n = (0, p, 1) := by simp only [rfixed, if_pos hbad]
    obtain ⟨rfl, hn⟩ := hbad
    rw [hr]
    have h1 : ((0 : Int) == 0) = true := rfl
    have hc0 := cell_of_heap hi 0
    have H := Lib.hid hi
    clear hi hr
    rcases hn with hn | hn
    · go_enter Try.func53, Try.ntmps53
      go_wp2_with (first | (go_at_call 78; refine (inReady_any _ _ _ _ _ H.out).mono ?_; rintro e w' ⟨rfl, rfl⟩))
      refine region_tail 8 (by kernel_rfl) (by kernel_rfl) ?_
      simp only [List.take_succ_cons, List.take_zero, List.drop_succ_cons, List.drop_zero]
      repeat still_step
      refine wpStill_nil ?_
      go_wp2_with (first | (go_at_call 79; refine (stand_any b s p 0 _ (H.out.drewN _).1 _ _).mono ?_; rintro e w' ⟨rfl, hto⟩) | (go_at_call 81; refine (take_dead b s p 1 _ hto.1 n (by decide)).mono ?_; rintro e w' ⟨rfl, rfl⟩) | (go_at_call 80; refine (number_any _ _ (by decide)).mono ?_; rintro e w' ⟨rfl, rfl⟩))
      go_ret
      exact ⟨rfl, (H.out.drewN _).trans hto⟩
    · go_enter Try.func53, Try.ntmps53
      go_wp2_with (first | (go_at_call 78; refine (inReady_any _ _ _ _ _ H.out).mono ?_; rintro e w' ⟨rfl, rfl⟩))
      refine region_tail 8 (by kernel_rfl) (by kernel_rfl) ?_
      simp only [List.take_succ_cons, List.take_zero, List.drop_succ_cons, List.drop_zero]
      repeat still_step
      refine wpStill_nil ?_
      go_wp2_with (first | (go_at_call 79; refine (stand_any b s p 0 _ (H.out.drewN _).1 _ _).mono ?_; rintro e w' ⟨rfl, hto⟩) | (go_at_call 81; refine (take_dead b s p 1 _ hto.1 n (by decide)).mono ?_; rintro e w' ⟨rfl, rfl⟩) | (go_at_call 80; refine (number_any _ _ (by decide)).mono ?_; rintro e w' ⟨rfl, rfl⟩))
      go_ret
      exact ⟨rfl, (H.out.drewN _).trans hto⟩
  · have hr : rfixed s.data.toList p er n = (num (rtake s.data.toList p er n.toNat).1, (rtake s.data.toList p er n.toNat).2) := by simp only [rfixed, if_neg hbad]
    rw [hr]
    have H := Lib.hid hi
    clear hi hr
    by_cases he : er = 0
    · have hn : 1 ≤ n ∧ n ≤ 8 := by omega
      obtain ⟨hn1, hn2⟩ := hn
      have hlen := rtake_len s.data.toList p er n.toNat
      have h1 : (er == 0) = true := by simpa using he
      have He := Lib.hid he
      clear he hbad
      go_enter Try.func53, Try.ntmps53
      go_wp2_with (first | (go_at_call 78; refine (inReady_any _ _ _ _ _ H.out).mono ?_; rintro e w' ⟨rfl, rfl⟩) | (go_at_call 81; refine (take_any b s p er _ H.out hp hs n (by omega)).mono ?_; rintro e w' ⟨rfl, hto⟩) | (go_at_call 80; refine (number_any _ _ (by rw [str_size]; omega)).mono ?_; rintro e w' ⟨rfl, rfl⟩))
      go_ret
      exact ⟨rfl, hto⟩
    · have h1 : (er == 0) = false := by simpa using he
      have hlen : (rtake s.data.toList p er n.toNat).1.length ≤ 8 := by simp [rtake, he]
      go_enter Try.func53, Try.ntmps53
      go_wp2_with (first | (go_at_call 78; refine (inReady_any _ _ _ _ _ H.out).mono ?_; rintro e w' ⟨rfl, rfl⟩) | (go_at_call 81; refine (take_any b s p er _ H.out hp hs n (by omega)).mono ?_; rintro e w' ⟨rfl, hto⟩) | (go_at_call 80; refine (number_any _ _ (by rw [str_size]; omega)).mono ?_; rintro e w' ⟨rfl, rfl⟩))
      go_ret
      exact ⟨rfl, hto⟩
end
end Go.Proofs.Ytjebldfmkpfafaa

/- Layer 3, the reader: what Var does. -/
namespace Go.Proofs.Ytjebldfmkpfafaa
open Go.RowKit
set_option maxRecDepth 100000

theorem bits_not8 (c : UInt8) : bits .xor .u8 IntKind.u8.max (c.toNat : Int) = ((255 - c.toNat : Nat) : Int) := by
  have h : ∀ n : Fin 256, bits .xor .u8 IntKind.u8.max ((n.val : Nat) : Int) = ((255 - n.val : Nat) : Int) := by decide +kernel
  exact h ⟨c.toNat, c.toNat_lt⟩

theorem vlead_bd (c : UInt8) : 1 ≤ vlead c ∧ vlead c ≤ 9 := by
  have := Lib.bitLen_le8 ⟨255 - c.toNat, by omega⟩
  unfold vlead; simp at this; omega

theorem lz_any (c : UInt8) (w : World) : Calls Try.prog 101 #[.int .u8 (bits .xor .u8 IntKind.u8.max (c.toNat : Int))] w fun e w' => e = .returned (.int .i64 ((vlead c : Int) - 1)) ∧ w = w' := by
  rw [bits_not8]
  have hb := Lib.bitLen_le8 ⟨255 - c.toNat, by omega⟩
  refine (Try.bits_LeadingZeros8 ((255 - c.toNat : Nat) : Int) w (by omega) (by omega)).mono ?_
  rintro e w' ⟨rfl, rfl⟩
  refine ⟨ret_int ?_, rfl⟩
  simp only [Int.toNat_natCast]
  unfold vlead; simp at hb; omega

theorem andNot_tab : ∀ (n : Fin 9) (c : Fin 256), 0 < n.val → bits .andNot .u8 ((c.val : Nat) : Int) ((vhd n.val : Nat) : Int) = ((c.val % 2 ^ (9 - n.val) : Nat) : Int) := by decide +kernel

theorem or_shift (a y i : Nat) (ha : a < 2 ^ i) (hi : i ≤ 56) (hy : y * 2 ^ i < 144115188075855872) : bits .or .u64 (a : Int) ((y * 2 ^ i : Nat) : Int) = ((y * 2 ^ i + a : Nat) : Int) := by
  have h56 : 2 ^ i ≤ 2 ^ 56 := Nat.pow_le_pow_right (by omega) hi
  rw [bits_or_u64_nat a (y * 2 ^ i) (by omega) (by omega), Nat.or_comm, ← Nat.shiftLeft_eq, ← Nat.shiftLeft_add_eq_or_of_lt ha]

theorem var_word (t : ByteArray) (n : Nat) (h1 : 1 ≤ n) (h2 : n < 9) (hts : t.size = n) (hp : 0 < t.size) :
    bits BinOp.or IntKind.u64 ((num (List.take (t.size - 1) t.data.toList.tail) : Nat) : Int) (IntKind.u64.wrap (IntKind.u64.wrap (bits BinOp.andNot IntKind.u8 ((t[0].toNat : Nat) : Int) ((vhd n : Nat) : Int)) * 2 ^ (8 * (n - 1)))) = ((vval t.data.toList : Nat) : Int) := by
  have hl : t.data.toList.length = n := by simpa using hts
  obtain ⟨c, l, hcl⟩ : ∃ c l, t.data.toList = c :: l := by
    cases h : t.data.toList with
    | nil => rw [h] at hl; simp at hl; omega
    | cons c l => exact ⟨c, l, rfl⟩
  have h0 : t[0] = c := by
    have : t[0] = t.data.toList[0]'(by omega) := rfl
    rw [this]; simp [hcl]
  have hll : l.length = n - 1 := by rw [hcl] at hl; simp at hl; omega
  rw [h0, hcl, hts]
  simp only [List.tail_cons]
  rw [List.take_of_length_le (by omega), andNot_tab ⟨n, h2⟩ ⟨c.toNat, c.toNat_lt⟩ h1]
  simp only []
  have hy : c.toNat % 2 ^ (9 - n) < 2 ^ (9 - n) := Nat.mod_lt _ (Nat.pow_pos (by omega))
  have hle : 2 ^ (9 - n) * 2 ^ (8 * (n - 1)) ≤ 2 ^ 57 := by rw [← Nat.pow_add]; exact Nat.pow_le_pow_right (by omega) (by omega)
  have hlt : c.toNat % 2 ^ (9 - n) * 2 ^ (8 * (n - 1)) < 2 ^ 57 := Nat.lt_of_lt_of_le (Nat.mul_lt_mul_of_pos_right hy (Nat.pow_pos (by omega))) hle
  have hc := c.toNat_lt
  have hsm : c.toNat % 2 ^ (9 - n) ≤ c.toNat := Nat.mod_le _ _
  rw [IntWalk.u64_in ((c.toNat % 2 ^ (9 - n) : Nat) : Int) ⟨by omega, by omega⟩]
  have e : ((c.toNat % 2 ^ (9 - n) : Nat) : Int) * 2 ^ (8 * (n - 1)) = ((c.toNat % 2 ^ (9 - n) * 2 ^ (8 * (n - 1)) : Nat) : Int) := by simp
  rw [e, IntWalk.u64_in _ ⟨by omega, by omega⟩]
  have hnum := num_lt l
  rw [hll, show (256 : Nat) = 2 ^ 8 from rfl, ← Nat.pow_mul] at hnum
  rw [or_shift _ _ _ hnum (by omega) (by omega)]
  congr 1
  unfold vval
  rw [if_pos (by simp [hll]; omega)]
  simp only [List.headD_cons, List.tail_cons, List.length_cons, hll]
  rw [show (256 : Nat) = 2 ^ 8 from rfl, ← Nat.pow_mul, show n - 1 + 1 = n by omega]

theorem vval_lt (l : List UInt8) (h : l.length ≤ 9) : vval l ≤ 18446744073709551615 := by
  have h1 := num_lt l.tail
  have h2 : 256 ^ l.tail.length ≤ 256 ^ 8 := Nat.pow_le_pow_right (by omega) (by simp; omega)
  unfold vval
  split
  · rename_i h3
    have hy : (l.headD 0).toNat % 2 ^ (9 - l.length) < 2 ^ (9 - l.length) := Nat.mod_lt _ (Nat.pow_pos (by omega))
    have h4 : (l.headD 0).toNat % 2 ^ (9 - l.length) * 256 ^ (l.length - 1) ≤ 255 * 256 ^ (l.length - 1) := Nat.mul_le_mul_right _ (by have := Nat.mod_le (l.headD 0).toNat (2 ^ (9 - l.length)); have := (l.headD 0).toNat_lt; omega)
    have h5 : 256 ^ (l.length - 1) ≤ 256 ^ 7 := Nat.pow_le_pow_right (by omega) (by omega)
    have h6 : 256 ^ l.tail.length ≤ 256 ^ 7 := Nat.pow_le_pow_right (by omega) (by simp; omega)
    omega
  · omega

section
variable (b : Nat) (s : ByteArray) (p : Nat) (er : Int) (w : World) (hi : InAt w b s p er) (hp : p ≤ s.size) (hs : s.size ≤ 140737488351232)
include hi

theorem inVar_dead (he : er ≠ 0) : Calls Try.prog 96 #[.pointer (some ⟨b, 0, none⟩)] w fun e w' =>
    e = .returned (.int .u64 0) ∧ w = w' := by
  have h1 : (er == 0) = false := by simpa using he
  have H := Lib.hid hi
  clear hi
  go_enter Try.func96, Try.ntmps96
  go_wp2_with (first | (go_at_call 78; refine (inReady_any _ _ _ _ _ H.out).mono ?_; rintro e w' ⟨rfl, rfl⟩))
  go_ret
  exact ⟨rfl, rfl⟩
end
section
variable (b : Nat) (s : ByteArray) (p : Nat) (w : World) (hi : InAt w b s p 0) (hp : p ≤ s.size) (hs : s.size ≤ 140737488351232)
include hi hp hs

theorem inVar_end (he : s.size ≤ p) : Calls Try.prog 96 #[.pointer (some ⟨b, 0, none⟩)] w fun e w' =>
    e = .returned (.int .u64 0) ∧ InTo w w' b s (p, 10) := by
  have h1 : ((0 : Int) == 0) = true := rfl
  have h2 : (((s.size - p : Nat) : Int) == 0) = true := by simp; omega
  have hc0 := cell_of_heap hi 0
  have H := Lib.hid hi
  clear hi
  go_enter Try.func96, Try.ntmps96
  go_wp2_with (first | (go_at_call 78; refine (inReady_any _ _ _ _ _ H.out).mono ?_; rintro e w' ⟨rfl, rfl⟩) | (go_at_call 100; refine (inLeft_any _ _ _ _ _ H.out hp hs).mono ?_; rintro e w' ⟨rfl, n, rfl⟩) | (go_at_call 79; refine (stand_any b s p 0 _ (H.out.drewN _).1 _ _).mono ?_; rintro e w' ⟨rfl, hto⟩))
  go_ret
  exact ⟨rfl, (H.out.drewN _).trans hto⟩

theorem inVar_short (hp' : p < s.size) (hn : s.size - p < vlead s[p]) : Calls Try.prog 96 #[.pointer (some ⟨b, 0, none⟩)] w fun e w' =>
    e = .returned (.int .u64 0) ∧ InTo w w' b s (p, 10) := by
  have h1 : ((0 : Int) == 0) = true := rfl
  have h2 : (((s.size - p : Nat) : Int) == 0) = false := by simp; omega
  have h3 : ((10 : Int) != 0) = true := rfl
  obtain ⟨h4, h5⟩ := vlead_bd s[p]
  have hc0 := cell_of_heap hi 0
  have hc2 := cell_of_heap hi 2
  have H := Lib.hid hi
  clear hi
  go_enter Try.func96, Try.ntmps96
  go_wp2_with (first | (go_at_call 78; refine (inReady_any _ _ _ _ _ H.out).mono ?_; rintro e w' ⟨rfl, rfl⟩) | (go_at_call 100; refine (inLeft_any _ _ _ _ _ H.out hp hs).mono ?_; rintro e w' ⟨rfl, n, rfl⟩) | (go_at_call 101; refine (lz_any _ _).mono ?_; rintro e w' ⟨rfl, rfl⟩) | (go_at_call 81; refine (take_short b s p _ (H.out.drewN _).1 hp hs _ (by omega)).mono ?_; rintro e w' ⟨rfl, hto⟩; have hc1' := cell_of_heap hto.1 1))
  go_ret
  exact ⟨rfl, (H.out.drewN _).trans hto⟩

set_option maxHeartbeats 1600000 in
theorem inVar_go (hp' : p < s.size) (hn : vlead s[p] ≤ s.size - p) : Calls Try.prog 96 #[.pointer (some ⟨b, 0, none⟩)] w fun e w' =>
    e = .returned (.int .u64 (if vsz (vval ((s.data.toList.drop p).take (vlead s[p]))) = vlead s[p] then vval ((s.data.toList.drop p).take (vlead s[p])) else 0)) ∧
      InTo w w' b s (if vsz (vval ((s.data.toList.drop p).take (vlead s[p]))) = vlead s[p] then (p + vlead s[p], 0) else (p, 12)) := by
  have h1 : ((0 : Int) == 0) = true := rfl
  have h2 : (((s.size - p : Nat) : Int) == 0) = false := by simp; omega
  have h3 : ((0 : Int) != 0) = false := rfl
  obtain ⟨h4, h5⟩ := vlead_bd s[p]
  have hc0 := cell_of_heap hi 0
  have hc2 := cell_of_heap hi 2
  have H := Lib.hid hi
  clear hi
  obtain ⟨t, ht⟩ : ∃ t, t = s.extract p (p + vlead s[p]) := ⟨_, rfl⟩
  have hts : t.size = vlead s[p] := by rw [ht]; simp; omega
  have hl : (s.data.toList.drop p).take (vlead s[p]) = t.data.toList := by rw [ht, Lib.extract_data]; simp
  rw [hl]
  have Ht := Lib.hid ht
  have Hts := Lib.hid hts
  clear ht hl hts
  have h9 : (t.extract 1 t.size).size ≤ 8 := by have := Hts.out; simp; omega
  have hpos : 0 < t.size := by have := Hts.out; omega
  obtain ⟨n, hn'⟩ : ∃ n, n = vlead s[p] := ⟨_, rfl⟩
  have Hn := Lib.hid hn'
  have hv := vval_lt t.data.toList (by have := Hts.out; simp; omega)
  by_cases hn9 : vlead s[p] < 9 <;> by_cases hq : vsz (vval t.data.toList) = vlead s[p]
  · have hq' : (((vsz (vval t.data.toList) : Nat) : Int) != ((vlead s[p] : Nat) : Int)) = false := bne_nat_eq hq
    rw [if_pos hq, if_pos hq]
    have Hq := Lib.hid hq
    clear hq hn'
    go_enter Try.func96, Try.ntmps96
    go_wp2_with (first | (go_at_call 78; refine (inReady_any _ _ _ _ _ H.out).mono ?_; rintro e w' ⟨rfl, rfl⟩) | (go_at_call 100; refine (inLeft_any _ _ _ _ _ H.out hp hs).mono ?_; rintro e w' ⟨rfl, n, rfl⟩) | (go_at_call 101; refine (lz_any _ _).mono ?_; rintro e w' ⟨rfl, rfl⟩) | (go_at_call 81; refine (take_ok b s p _ (H.out.drewN _).1 hp hs _ (by omega)).mono ?_; rintro e w' ⟨rfl, hto⟩; have hc1' := cell_of_heap hto.1 1; rw [← Ht.out]) | (go_at_call 80; refine (number_any _ _ h9).mono ?_; rintro e w' ⟨rfl, rfl⟩))
    go_quiet ((go_at_call 69; exact Calls.quiet_of_same (Calls_flip (head_any _ _ (by omega) (by omega)))))
    go_wp2_with (first | (go_at_call 67; rw [var_word t (vlead s[p]) h4 hn9 Hts.out hpos]; refine (size_any _ _ hv).mono ?_; rintro e w'' ⟨rfl, rfl⟩) | (go_at_call 79; refine (stand_any b s _ _ _ (hto.1.drewN _).1 _ _).mono ?_; rintro e w'' ⟨rfl, hto2⟩))
    go_ret
    exact ⟨rfl, ((H.out.drewN _).trans hto).trans (hto.1.drewN _)⟩
  · have hq' : (((vsz (vval t.data.toList) : Nat) : Int) != ((vlead s[p] : Nat) : Int)) = true := bne_nat_ne hq
    rw [if_neg hq, if_neg hq]
    have Hq := Lib.hid hq
    clear hq hn'
    go_enter Try.func96, Try.ntmps96
    go_wp2_with (first | (go_at_call 78; refine (inReady_any _ _ _ _ _ H.out).mono ?_; rintro e w' ⟨rfl, rfl⟩) | (go_at_call 100; refine (inLeft_any _ _ _ _ _ H.out hp hs).mono ?_; rintro e w' ⟨rfl, n, rfl⟩) | (go_at_call 101; refine (lz_any _ _).mono ?_; rintro e w' ⟨rfl, rfl⟩) | (go_at_call 81; refine (take_ok b s p _ (H.out.drewN _).1 hp hs _ (by omega)).mono ?_; rintro e w' ⟨rfl, hto⟩; have hc1' := cell_of_heap hto.1 1; rw [← Ht.out]) | (go_at_call 80; refine (number_any _ _ h9).mono ?_; rintro e w' ⟨rfl, rfl⟩))
    go_quiet ((go_at_call 69; exact Calls.quiet_of_same (Calls_flip (head_any _ _ (by omega) (by omega)))))
    go_wp2_with (first | (go_at_call 67; rw [var_word t (vlead s[p]) h4 hn9 Hts.out hpos]; refine (size_any _ _ hv).mono ?_; rintro e w'' ⟨rfl, rfl⟩) | (go_at_call 79; refine (stand_any b s _ _ _ (hto.1.drewN _).1 _ _).mono ?_; rintro e w'' ⟨rfl, hto2⟩))
    go_ret
    exact ⟨rfl, ((H.out.drewN _).trans hto).trans ((hto.1.drewN _).trans hto2)⟩
  · have hw9 : num (List.take (t.size - 1) t.data.toList.tail) = vval t.data.toList := by
      have := Hts.out
      rw [List.take_of_length_le (by simp)]
      unfold vval; rw [if_neg (by simp; omega)]
    have hq' : (((vsz (vval t.data.toList) : Nat) : Int) != ((vlead s[p] : Nat) : Int)) = false := bne_nat_eq hq
    rw [if_pos hq, if_pos hq]
    have Hq := Lib.hid hq
    clear hq hn'
    go_enter Try.func96, Try.ntmps96
    go_wp2_with (first | (go_at_call 78; refine (inReady_any _ _ _ _ _ H.out).mono ?_; rintro e w' ⟨rfl, rfl⟩) | (go_at_call 100; refine (inLeft_any _ _ _ _ _ H.out hp hs).mono ?_; rintro e w' ⟨rfl, n, rfl⟩) | (go_at_call 101; refine (lz_any _ _).mono ?_; rintro e w' ⟨rfl, rfl⟩) | (go_at_call 81; refine (take_ok b s p _ (H.out.drewN _).1 hp hs _ (by omega)).mono ?_; rintro e w' ⟨rfl, hto⟩; have hc1' := cell_of_heap hto.1 1; rw [← Ht.out]) | (go_at_call 80; refine (number_any _ _ h9).mono ?_; rintro e w' ⟨rfl, rfl⟩) | (go_at_call 67; refine (size_any _ _ hv).mono ?_; rintro e w'' ⟨rfl, rfl⟩) | (go_at_call 79; refine (stand_any b s _ _ _ hto.1 _ _).mono ?_; rintro e w'' ⟨rfl, hto2⟩))
    go_ret
    exact ⟨rfl, (H.out.drewN _).trans hto⟩
  · have hw9 : num (List.take (t.size - 1) t.data.toList.tail) = vval t.data.toList := by
      have := Hts.out
      rw [List.take_of_length_le (by simp)]
      unfold vval; rw [if_neg (by simp; omega)]
    have hq' : (((vsz (vval t.data.toList) : Nat) : Int) != ((vlead s[p] : Nat) : Int)) = true := bne_nat_ne hq
    rw [if_neg hq, if_neg hq]
    have Hq := Lib.hid hq
    clear hq hn'
    go_enter Try.func96, Try.ntmps96
    go_wp2_with (first | (go_at_call 78; refine (inReady_any _ _ _ _ _ H.out).mono ?_; rintro e w' ⟨rfl, rfl⟩) | (go_at_call 100; refine (inLeft_any _ _ _ _ _ H.out hp hs).mono ?_; rintro e w' ⟨rfl, n, rfl⟩) | (go_at_call 101; refine (lz_any _ _).mono ?_; rintro e w' ⟨rfl, rfl⟩) | (go_at_call 81; refine (take_ok b s p _ (H.out.drewN _).1 hp hs _ (by omega)).mono ?_; rintro e w' ⟨rfl, hto⟩; have hc1' := cell_of_heap hto.1 1; rw [← Ht.out]) | (go_at_call 80; refine (number_any _ _ h9).mono ?_; rintro e w' ⟨rfl, rfl⟩) | (go_at_call 67; refine (size_any _ _ hv).mono ?_; rintro e w'' ⟨rfl, rfl⟩) | (go_at_call 79; refine (stand_any b s _ _ _ hto.1 _ _).mono ?_; rintro e w'' ⟨rfl, hto2⟩))
    go_ret
    exact ⟨rfl, ((H.out.drewN _).trans hto).trans hto2⟩
end
end Go.Proofs.Ytjebldfmkpfafaa

/- Layer 3, the reader: what Var, Int, Text, Raw and Read do, each in one sentence. -/
namespace Go.Proofs.Ytjebldfmkpfafaa
open Go.RowKit
set_option maxRecDepth 100000

theorem getD_data (s : ByteArray) (p : Nat) (hp : p < s.size) : s.data.toList.getD p 0 = s[p] := by
  have h : p < s.data.toList.length := by simpa using hp
  rw [List.getD_eq_getElem?_getD, List.getElem?_eq_getElem h]
  rfl

section
variable (b : Nat) (s : ByteArray) (p : Nat) (er : Int) (w : World) (hi : InAt w b s p er) (hp : p ≤ s.size) (hs : s.size ≤ 140737488351232)
include hi hp hs

theorem inVar_any : Calls Try.prog 96 #[.pointer (some ⟨b, 0, none⟩)] w fun e w' =>
    e = .returned (.int .u64 (rvar s.data.toList p er).1) ∧ InTo w w' b s (rvar s.data.toList p er).2 := by
  have hl : s.data.toList.length = s.size := by simp
  by_cases he : er = 0
  · subst he
    by_cases h1 : s.size ≤ p
    · refine (inVar_end b s p w hi hp hs h1).mono ?_
      rintro e w' ⟨rfl, h2⟩
      have : rvar s.data.toList p 0 = (0, p, 10) := by unfold rvar; rw [if_neg (by simp), if_pos (by omega)]
      rw [this]; exact ⟨rfl, h2⟩
    · have hg := getD_data s p (by omega)
      by_cases h2 : s.size - p < vlead s[p]
      · refine (inVar_short b s p w hi hp hs (by omega) h2).mono ?_
        rintro e w' ⟨rfl, h3⟩
        have : rvar s.data.toList p 0 = (0, p, 10) := by unfold rvar; rw [if_neg (by simp), if_neg (by omega)]; simp only [hg, hl]; rw [if_pos h2]
        rw [this]; exact ⟨rfl, h3⟩
      · refine (inVar_go b s p w hi hp hs (by omega) (by omega)).mono ?_
        rintro e w' ⟨rfl, h3⟩
        have : rvar s.data.toList p 0 = if vsz (vval ((s.data.toList.drop p).take (vlead s[p]))) = vlead s[p] then (vval ((s.data.toList.drop p).take (vlead s[p])), p + vlead s[p], 0) else (0, p, 12) := by
          unfold rvar; rw [if_neg (by simp), if_neg (by omega)]; simp only [hg, hl]; rw [if_neg h2]
        rw [this]
        split at h3 <;> rename_i hq
        · rw [if_pos hq, if_pos hq]; exact ⟨rfl, h3⟩
        · rw [if_neg hq, if_neg hq]; exact ⟨rfl, h3⟩
  · refine (inVar_dead b s p er w hi he).mono ?_
    rintro e w' ⟨rfl, rfl⟩
    have : rvar s.data.toList p er = (0, p, er) := by unfold rvar; rw [if_pos he]
    rw [this]
    exact ⟨rfl, hi.same⟩
end

theorem rvar_facts (l : List UInt8) (p : Nat) (er : Int) (hp : p ≤ l.length) : (rvar l p er).2.1 ≤ l.length ∧ (rvar l p er).1 ≤ 18446744073709551615 ∧ ((rvar l p er).2.2 ≠ 0 → (rvar l p er).1 = 0 ∧ (rvar l p er).2.1 = p) := by
  have hv : vval ((l.drop p).take (vlead (l.getD p 0))) ≤ 18446744073709551615 := vval_lt _ (by have := vlead_bd (l.getD p 0); rw [List.length_take]; omega)
  unfold rvar
  dsimp only
  generalize l.getD p 0 = c at *
  split
  · exact ⟨hp, Nat.zero_le _, fun _ => ⟨rfl, rfl⟩⟩
  · split
    · exact ⟨hp, Nat.zero_le _, fun _ => ⟨rfl, rfl⟩⟩
    · split
      · exact ⟨hp, Nat.zero_le _, fun _ => ⟨rfl, rfl⟩⟩
      · split
        · exact ⟨by dsimp only; omega, hv, fun h => absurd rfl h⟩
        · exact ⟨hp, Nat.zero_le _, fun _ => ⟨rfl, rfl⟩⟩
theorem rint_facts (l : List UInt8) (p : Nat) (er most : Int) (hp : p ≤ l.length) : (rint l p er most).2.1 ≤ l.length ∧ ((rint l p er most).2.2 ≠ 0 → (rint l p er most).1 = 0 ∧ (rint l p er most).2.1 = p) ∧
    ((rint l p er most).2.2 = 0 → 0 ≤ most ∧ ((rint l p er most).1 : Int) ≤ most) := by
  obtain ⟨h1, h2, h3⟩ := rvar_facts l p er hp
  unfold rint
  dsimp only
  split
  · exact ⟨hp, fun _ => ⟨rfl, rfl⟩, fun h => by simp at h⟩
  · exact ⟨h1, h3, fun h => by omega⟩

section
variable (b : Nat) (s : ByteArray) (p : Nat) (er : Int) (w : World) (hi : InAt w b s p er) (hp : p ≤ s.size) (hs : s.size ≤ 140737488351232)
include hi hp hs

theorem inInt_any (most : Int) (hm : most ≤ 9223372036854775807) (hm0 : -9223372036854775808 ≤ most) : Calls Try.prog 77 #[.pointer (some ⟨b, 0, none⟩), .int .i64 most] w fun e w' =>
    e = .returned (.int .i64 (rint s.data.toList p er most).1) ∧ InTo w w' b s (rint s.data.toList p er most).2 := by
  have hv := inVar_any b s p er w hi hp hs
  obtain ⟨_, hx, hz⟩ := rvar_facts s.data.toList p er (by simpa using hp)
  have hr : rint s.data.toList p er most = if (rvar s.data.toList p er).2.2 = 0 ∧ (most < 0 ∨ most < ((rvar s.data.toList p er).1 : Int)) then (0, p, 12) else rvar s.data.toList p er := rfl
  rw [hr]
  clear hr
  generalize rvar s.data.toList p er = r at *
  obtain ⟨x, q, e2⟩ := r
  dsimp only at *
  have H := Lib.hid hi
  have Hv := Lib.hid hv
  have Hz := Lib.hid hz
  clear hi hv hz
  by_cases h1 : e2 = 0
  · subst h1
    have h0 : ((0 : Int) == 0) = true := rfl
    by_cases h2 : most < 0
    · rw [if_pos ⟨rfl, .inl h2⟩]
      go_enter Try.func77, Try.ntmps77
      go_wp2_with (first | (go_at_call 82; refine (inAt_any _ _ _ _ _ H.out).mono ?_; rintro e w' ⟨rfl, rfl⟩) | (go_at_call 96; refine Hv.out.mono ?_; rintro e w1 ⟨rfl, hto⟩) | (go_at_call 78; refine (inReady_any _ _ _ _ _ hto.1).mono ?_; rintro e w' ⟨rfl, rfl⟩) | (go_at_call 79; refine (stand_any b s _ _ _ hto.1 _ _).mono ?_; rintro e w'' ⟨rfl, hto2⟩))
      go_ret
      exact ⟨rfl, hto.trans hto2⟩
    · obtain ⟨m, rfl⟩ : ∃ m : Nat, most = m := ⟨most.toNat, by omega⟩
      by_cases h3 : (m : Int) < (x : Int)
      · rw [if_pos ⟨rfl, .inr h3⟩]
        go_enter Try.func77, Try.ntmps77
        go_wp2_with (first | (go_at_call 82; refine (inAt_any _ _ _ _ _ H.out).mono ?_; rintro e w' ⟨rfl, rfl⟩) | (go_at_call 96; refine Hv.out.mono ?_; rintro e w1 ⟨rfl, hto⟩) | (go_at_call 78; refine (inReady_any _ _ _ _ _ hto.1).mono ?_; rintro e w' ⟨rfl, rfl⟩) | (go_at_call 79; refine (stand_any b s _ _ _ hto.1 _ _).mono ?_; rintro e w'' ⟨rfl, hto2⟩))
        go_ret
        exact ⟨rfl, hto.trans hto2⟩
      · rw [if_neg (by omega)]
        go_enter Try.func77, Try.ntmps77
        go_wp2_with (first | (go_at_call 82; refine (inAt_any _ _ _ _ _ H.out).mono ?_; rintro e w' ⟨rfl, rfl⟩) | (go_at_call 96; refine Hv.out.mono ?_; rintro e w1 ⟨rfl, hto⟩) | (go_at_call 78; refine (inReady_any _ _ _ _ _ hto.1).mono ?_; rintro e w' ⟨rfl, rfl⟩))
        go_ret
        exact ⟨rfl, hto⟩
  · have h0 : (e2 == 0) = false := by simpa using h1
    rw [if_neg (by omega)]
    obtain ⟨rfl, rfl⟩ := Hz.out h1
    go_enter Try.func77, Try.ntmps77
    go_wp2_with (first | (go_at_call 82; refine (inAt_any _ _ _ _ _ H.out).mono ?_; rintro e w' ⟨rfl, rfl⟩) | (go_at_call 96; refine Hv.out.mono ?_; rintro e w1 ⟨rfl, hto⟩) | (go_at_call 78; refine (inReady_any _ _ _ _ _ hto.1).mono ?_; rintro e w' ⟨rfl, rfl⟩))
    go_ret
    exact ⟨rfl, hto⟩

end

theorem read_any (s : ByteArray) (w : World) : Calls Try.prog 84 #[.string s] w fun e w' =>
    e = .returned (.pointer (some ⟨w.heap.size, 0, none⟩)) ∧ InAt w' w.heap.size s 0 0 ∧ Keeps [] w w' := by
  go_enter Try.func84, Try.ntmps84
  go_wp2
  go_ret
  exact ⟨rfl, heap_alloc_self _ _, (Keeps.refl _ _).alloc _⟩
end Go.Proofs.Ytjebldfmkpfafaa

/- Layer 3, the writer: what Raw and Text do; the reader: what Text does. -/
namespace Go.Proofs.Ytjebldfmkpfafaa
open Go.RowKit
set_option maxRecDepth 100000

/-- The bytes of texts, one behind the other. -/
def raws (ss : List ByteArray) : List UInt8 := ss.flatMap fun s => s.data.toList
/-- The bytes of texts, each behind how many it has. -/
def txts (ss : List ByteArray) : List UInt8 := ss.flatMap fun s => vby s.size ++ s.data.toList

theorem raws_one (s : ByteArray) : raws [s] = s.data.toList := by simp [raws]

theorem raws_take {ss : List ByteArray} {k : Nat} {s : ByteArray} (h : ss[k]? = some s) : raws (ss.take (k + 1)) = raws (ss.take k) ++ s.data.toList := by
  unfold raws; rw [List.take_add_one, h]; simp
theorem txts_take {ss : List ByteArray} {k : Nat} {s : ByteArray} (h : ss[k]? = some s) : txts (ss.take (k + 1)) = txts (ss.take k) ++ (vby s.size ++ s.data.toList) := by
  unfold txts; rw [List.take_add_one, h]; simp
theorem raws_le {ss : List ByteArray} {k : Nat} : (raws (ss.take k)).length ≤ (raws ss).length := by
  have : raws ss = raws (ss.take k) ++ raws (ss.drop k) := by unfold raws; rw [← List.flatMap_append, List.take_append_drop]
  rw [this, List.length_append]; omega
theorem txts_le {ss : List ByteArray} {k : Nat} : (txts (ss.take k)).length ≤ (txts ss).length := by
  have : txts ss = txts (ss.take k) ++ txts (ss.drop k) := by unfold txts; rw [← List.flatMap_append, List.take_append_drop]
  rw [this, List.length_append]; omega

set_option maxHeartbeats 800000 in
theorem outRaw_any (b : Nat) (F : List Nat) (l : List UInt8) (ss : List ByteArray) (w : World) (hl : (l ++ raws ss).length ≤ 1000000000) (hn : ss.length ≤ 1000000000) (ho : OutAt w b l F)
    (v : Value) (G : List Nat) (hv : SlAt w v (ss.map Value.string) G) (hd : ∀ k, k ∈ G → k ∉ F) (hG : ∀ k, k ∈ G → k < w.heap.size) :
    Calls Try.prog 43 #[.pointer (some ⟨b, 0, none⟩), v] w fun e w' =>
      e = .returned (.tuple #[]) ∧ ∃ F', OutAt w' b (l ++ raws ss) F' ∧ Chg F F' w w' := by
  obtain ⟨ad, cap, rfl, hcs⟩ := hv
  have Hcs := Lib.hid hcs
  have Ho := Lib.hid ho
  have Hd := Lib.hid hd
  have HG := Lib.hid hG
  clear hcs ho hd hG
  rw [List.length_map]
  by_cases h0 : ss = []
  · subst h0
    go_enter Try.func43, Try.ntmps43
    go_wp2
    refine wp_loop_rounds 1 ?_
    rw [rounds_succ]
    go_wp2
    go_end0
    exact ⟨rfl, F, by simpa [raws] using Ho.out, Chg.refl _ _⟩
  obtain ⟨kb, off, rfl, hkb, hcell⟩ := Hcs.out (by simpa using h0)
  have Hcell := Lib.hid hcell
  clear hcell h0
  go_enter Try.func43, Try.ntmps43
  go_wp2
  go_loopw [10] (fun i wr => ∃ (k : Nat) (F1 : List Nat), k ≤ ss.length ∧ i = .int .i64 k ∧ OutAt wr b (l ++ raws (ss.take k)) F1 ∧ Chg F F1 w wr) (fun i _ => ss.length - (intOf i).toNat)
  case atStart => exact ⟨0, F, Nat.zero_le _, rfl, by simpa [raws] using Ho.out, Chg.refl _ _⟩
  case round =>
    obtain ⟨k, F1, hk, rfl, ho1, hch⟩ := hrel
    by_cases hlt : k < ss.length
    · obtain ⟨s, hsk⟩ : ∃ s, ss[k]? = some s := ⟨ss[k], by simp [hlt]⟩
      have hx0 : wr.cell? ⟨kb, off + k, none⟩ = some (.string s) := by
        have h1 := Hcell.out k (.string s) (by simp [hsk])
        rw [← h1]
        exact hch.keeps.cell (HG.out _ hkb) (Hd.out _ hkb)
      have hnx := raws_take hsk
      have hle := raws_le (ss := ss) (k := k + 1)
      rw [hnx] at hle
      have hcl : (l ++ raws (ss.take k)).length + s.size ≤ 1000000000 := by
        simp only [List.length_append, Array.length_toList, ByteArray.size] at hl hle ⊢; omega
      obtain ⟨c, hc⟩ : ∃ c, c = l ++ raws (ss.take k) := ⟨_, rfl⟩
      rw [← hc] at ho1 hcl
      have Hc := Lib.hid hc
      have Hnx := Lib.hid hnx
      have Hch := Lib.hid hch
      clear hc hnx hsk hch hle
      obtain ⟨v, hb, hF, hown⟩ := ho1
      obtain ⟨ad0, cap0, rfl⟩ := ownsRow_shape hown
      have hc0 : wr.cell? ⟨b, 0, none⟩ = some (.slice ad0 c.length cap0) := cell_of_heap hb 0
      have Hb := Lib.hid hb
      have HF := Lib.hid hF
      have Hown := Lib.hid hown
      clear hb hF hown
      go_wp2_with (at_builtin; refine wpList_appStr tyOut Try.underlying9 rfl (.tmp 18) (.tmp 19) rfl _ _ _ rfl s rfl Hown.out ?c1 ?c2)
      case c1 => omega
      case c2 =>
      intro ad' cap' w' hown' hc'
      have R := outApp (l := c ++ s.data.toList) (v' := .slice ad' (c.length + s.size) cap') Hb.out Hown.out (by rw [List.length_append, List.map_append, Array.length_toList, ByteArray.size_data]; exact hown') hc'
      have hb2 := hc'.keeps.some Hb.out (own_ne Hb.out Hown.out (by decide))
      have hf2 := free_of_heap hb2 0
      have hc2 := cell_of_heap hb2 0
      have HR := Lib.hid R
      clear hc0 hb2 hown' R hx0
      go_wp2
      go_roundw
      case rel => exact ⟨k + 1, _, by omega, by go_num, by rw [Hnx.out, ← List.append_assoc, ← Hc.out]; exact HR.out.1, Hch.out.trans (HF.out ▸ HR.out.2)⟩
      case measure => simp [intOf]; omega
    · go_wp2
      go_end0
      exact ⟨rfl, F1, by rw [← List.take_of_length_le (l := ss) (i := k) (by omega)]; exact ho1, hch⟩

set_option maxHeartbeats 800000 in
theorem outText_any (b : Nat) (F : List Nat) (l : List UInt8) (ss : List ByteArray) (w : World) (hl : (l ++ txts ss).length ≤ 900000000) (hn : ss.length ≤ 1000000000) (ho : OutAt w b l F)
    (v : Value) (G : List Nat) (hv : SlAt w v (ss.map Value.string) G) (hd : ∀ k, k ∈ G → k ∉ F) (hG : ∀ k, k ∈ G → k < w.heap.size) :
    Calls Try.prog 57 #[.pointer (some ⟨b, 0, none⟩), v] w fun e w' =>
      e = .returned (.tuple #[]) ∧ ∃ F', OutAt w' b (l ++ txts ss) F' ∧ Chg F F' w w' := by
  obtain ⟨ad, cap, rfl, hcs⟩ := hv
  have Hcs := Lib.hid hcs
  have Ho := Lib.hid ho
  have Hd := Lib.hid hd
  have HG := Lib.hid hG
  clear hcs ho hd hG
  rw [List.length_map]
  by_cases h0 : ss = []
  · subst h0
    go_enter Try.func57, Try.ntmps57
    go_wp2
    refine wp_loop_rounds 1 ?_
    rw [rounds_succ]
    go_wp2
    go_end0
    exact ⟨rfl, F, by simpa [txts] using Ho.out, Chg.refl _ _⟩
  obtain ⟨kb, off, rfl, hkb, hcell⟩ := Hcs.out (by simpa using h0)
  have Hcell := Lib.hid hcell
  clear hcell h0
  go_enter Try.func57, Try.ntmps57
  go_wp2
  go_loopw [8] (fun i wr => ∃ (k : Nat) (F1 : List Nat), k ≤ ss.length ∧ i = .int .i64 k ∧ OutAt wr b (l ++ txts (ss.take k)) F1 ∧ Chg F F1 w wr) (fun i _ => ss.length - (intOf i).toNat)
  case atStart => exact ⟨0, F, Nat.zero_le _, rfl, by simpa [txts] using Ho.out, Chg.refl _ _⟩
  case round =>
    obtain ⟨k, F1, hk, rfl, ho1, hch⟩ := hrel
    by_cases hlt : k < ss.length
    · obtain ⟨s, hsk⟩ : ∃ s, ss[k]? = some s := ⟨ss[k], by simp [hlt]⟩
      have hx0 : wr.cell? ⟨kb, off + k, none⟩ = some (.string s) := by
        have h1 := Hcell.out k (.string s) (by simp [hsk])
        rw [← h1]
        exact hch.keeps.cell (HG.out _ hkb) (Hd.out _ hkb)
      have hnx := txts_take hsk
      have hle := txts_le (ss := ss) (k := k + 1)
      rw [hnx] at hle
      have hcl : (l ++ txts (ss.take k)).length + s.size ≤ 900000000 := by
        simp only [List.length_append, Array.length_toList, ByteArray.size] at hl hle ⊢; omega
      obtain ⟨c, hc⟩ : ∃ c, c = l ++ txts (ss.take k) := ⟨_, rfl⟩
      rw [← hc] at ho1 hcl
      have hlt1 := ho1.lt
      have Hlt1 := Lib.hid hlt1
      have Hc := Lib.hid hc
      have Hnx := Lib.hid hnx
      have Hch := Lib.hid hch
      have Ho1 := Lib.hid ho1
      have hvs := vsz_bd s.size
      clear hc hnx hsk hch hle ho1 hlt1
      go_wp2_with (go_at_call 41; refine (outVar_any b F1 c [s.size] _ (by simp; omega) (by simp; omega) (Ho1.out.keep ((Keeps.refl [] _).alloc _) (by simp)) _ [wr.heap.size] (SlAt.lit wr [u64v s.size] 68 1 rfl) (fun x hx hx' => by have := Hlt1.out x hx'; simp at hx; omega) (by simp)).mono ?_; rintro e w1 ⟨rfl, F2, ho2, hch2⟩)
      have hlt2 := Lib.hid ho2.lt
      have hcl2 : (c ++ List.flatMap vby [s.size]).length + s.size ≤ 1000000000 := by simp [vby_length]; omega
      go_wp2_with (go_at_call 43; refine (outRaw_any b F2 (c ++ List.flatMap vby [s.size]) [s] _ (by rw [raws_one, List.length_append, Array.length_toList, ByteArray.size_data]; exact hcl2) (by simp) (ho2.keep ((Keeps.refl [] _).alloc _) (by simp)) _ [w1.heap.size] (SlAt.lit w1 [Value.string s] 9 1 rfl) (fun x hx hx' => by have := hlt2.out x hx'; simp at hx; omega) (by simp)).mono ?_; rintro e w2 ⟨rfl, F3, ho3, hch3⟩)
      have e1 : c ++ List.flatMap vby [s.size] ++ raws [s] = l ++ txts (List.take (k + 1) ss) := by rw [Hnx.out, Hc.out]; simp [raws]
      rw [e1] at ho3
      have hch4 := (Hch.out.trans ((Chg.alloc hch2))).trans (Chg.alloc hch3)
      clear e1 hch2 hch3
      go_roundw
      case rel => exact ⟨k + 1, _, by omega, by go_num, ho3, hch4⟩
      case measure => simp [intOf]; omega
    · go_wp2
      go_end0
      exact ⟨rfl, F1, by rw [← List.take_of_length_le (l := ss) (i := k) (by omega)]; exact ho1, hch⟩
end Go.Proofs.Ytjebldfmkpfafaa

/- Layer 3, plain: a number's bytes and the number of bytes; what was written is read again. -/
namespace Go.Proofs.Ytjebldfmkpfafaa
set_option maxRecDepth 100000

theorem num_foldl (l : List UInt8) : ∀ a : Nat, l.foldl (fun x c => x * 256 + c.toNat) a = a * 256 ^ l.length + num l := by
  induction l with
  | nil => intro a; simp [num]
  | cons c l ih =>
    intro a
    have h1 := ih (a * 256 + c.toNat)
    have h2 := ih (0 * 256 + c.toNat)
    unfold num
    simp only [List.foldl_cons, List.length_cons] at *
    rw [h1, h2]
    have e : a * 256 * 256 ^ l.length = a * (256 ^ l.length * 256) := by rw [Nat.mul_assoc, Nat.mul_comm 256]
    simp only [Nat.zero_mul, Nat.zero_add, Nat.pow_succ, Nat.add_mul]
    omega
theorem num_cons (c : UInt8) (l : List UInt8) : num (c :: l) = c.toNat * 256 ^ l.length + num l := by
  have := num_foldl l (0 * 256 + c.toNat)
  rw [show num (c :: l) = l.foldl (fun x c => x * 256 + c.toNat) (0 * 256 + c.toNat) from rfl, this]
  simp only [Nat.zero_mul, Nat.zero_add]

theorem num_be (x n : Nat) : num (be x n) = x % 256 ^ n := by
  induction n with
  | zero => simp [be, num, Nat.mod_one]
  | succ n ih =>
    rw [be, num_cons, be_length, ih, Nat.mod_pow_succ, Nat.mul_comm]
    simp only [UInt8.toNat_ofNat', Nat.reducePow]
    omega

theorem num_inj : ∀ (l m : List UInt8), l.length = m.length → num l = num m → l = m
  | [], [], _, _ => rfl
  | [], _ :: _, h, _ => by simp at h
  | _ :: _, [], h, _ => by simp at h
  | c :: l, d :: m, h, e => by
    have hl : l.length = m.length := by simpa using h
    rw [num_cons, num_cons, hl] at e
    have h1 := num_lt l
    have h2 := num_lt m
    rw [hl] at h1
    have hcd : c.toNat = d.toNat := by
      have a1 : (c.toNat * 256 ^ m.length + num l) / 256 ^ m.length = c.toNat := by
        rw [Nat.mul_comm, Nat.mul_add_div (Nat.pow_pos (by omega)), Nat.div_eq_of_lt h1]; omega
      have a2 : (d.toNat * 256 ^ m.length + num m) / 256 ^ m.length = d.toNat := by
        rw [Nat.mul_comm, Nat.mul_add_div (Nat.pow_pos (by omega)), Nat.div_eq_of_lt h2]; omega
      rw [← a1, e, a2]
    rw [hcd] at e
    rw [UInt8.toNat_inj.1 hcd, num_inj l m hl (by omega)]

theorem be_of_num {x n : Nat} {l : List UInt8} (hl : l.length = n) (h : x % 256 ^ n = num l) : be x n = l :=
  num_inj _ _ (by rw [be_length, hl]) (by rw [num_be, h])

theorem lead_tab : ∀ (n : Fin 8) (y : Fin 128), y.val < 2 ^ (8 - (n.val + 1)) → vlead (UInt8.ofNat (y.val + vhd (n.val + 1))) = n.val + 1 ∧ (y.val + vhd (n.val + 1)) % 2 ^ (9 - (n.val + 1)) = y.val ∧ y.val + vhd (n.val + 1) < 256 := by decide +kernel
theorem lead_back : ∀ (n : Fin 8) (c : Fin 256), vlead (UInt8.ofNat c.val) = n.val + 1 → c.val % 2 ^ (9 - (n.val + 1)) + vhd (n.val + 1) = c.val := by decide +kernel
theorem lead_nine : ∀ (c : Fin 256), vlead (UInt8.ofNat c.val) = 9 → c.val = 255 := by decide +kernel

theorem first_small {x n : Nat} (hx : x < 2 ^ 64) (h : vsz x = n + 1) (hn : n < 8) : x / 256 ^ n < 128 := by
  have h1 := first_lt hx h hn
  have h2 : 2 ^ (8 - (n + 1)) ≤ 2 ^ 7 := Nat.pow_le_pow_right (by omega) (by omega)
  omega

theorem vby_shape (x : Nat) (hx : x < 2 ^ 64) : ∃ c t, vby x = c :: t ∧ t.length + 1 = vsz x ∧ vlead c = vsz x ∧ vval (vby x) = x := by
  have hb := vsz_bd x
  by_cases h9 : vsz x = 9
  · refine ⟨255, be x 8, vby_nine h9, by rw [be_length, h9], by rw [h9]; decide +kernel, ?_⟩
    rw [vby_nine h9]
    unfold vval
    rw [if_neg (by simp [be_length]), List.tail_cons, num_be]
    exact Nat.mod_eq_of_lt (by omega)
  · obtain ⟨n, hn⟩ : ∃ n, vsz x = n + 1 := ⟨vsz x - 1, by omega⟩
    have hn8 : n < 8 := by omega
    have h1 := first_lt hx hn hn8
    have h0 := first_small hx hn hn8
    obtain ⟨t1, t2, t3⟩ := lead_tab ⟨n, hn8⟩ ⟨x / 256 ^ n, h0⟩ h1
    refine ⟨_, _, vby_less hn hn8, by rw [be_length, hn], by rw [hn]; exact t1, ?_⟩
    rw [vby_less hn hn8]
    unfold vval
    have ht : (UInt8.ofNat (x / 256 ^ n + vhd (n + 1))).toNat = x / 256 ^ n + vhd (n + 1) := or_small h1 hn8
    rw [if_pos (by simp [be_length]; omega), List.tail_cons, num_be, List.headD_cons, ht]
    simp only [List.length_cons, be_length, Nat.add_sub_cancel]
    rw [t2]
    have := Nat.div_add_mod x (256 ^ n)
    rw [Nat.mul_comm] at this
    exact this

/-- What the reader's Var does, by what is left. -/
theorem rvar_drop (l : List UInt8) (p : Nat) (c : UInt8) (t : List UInt8) (h : l.drop p = c :: t) : rvar l p 0 =
    if t.length + 1 < vlead c then (0, p, 10) else if vsz (vval ((c :: t).take (vlead c))) = vlead c then (vval ((c :: t).take (vlead c)), p + vlead c, 0) else (0, p, 12) := by
  have hlen : l.length - p = t.length + 1 := by rw [← List.length_drop, h]; rfl
  have hg : l.getD p 0 = c := by
    have : l[p]? = (l.drop p)[0]? := by rw [List.getElem?_drop]; rfl
    rw [List.getD_eq_getElem?_getD, this, h]; rfl
  unfold rvar
  dsimp only
  rw [if_neg (by simp), if_neg (by omega), hg, h, hlen]

theorem rvar_vby {l : List UInt8} {p x : Nat} {r : List UInt8} (hx : x < 2 ^ 64) (h : l.drop p = vby x ++ r) : rvar l p 0 = (x, p + vsz x, 0) := by
  obtain ⟨c, t, h1, h2, h3, h4⟩ := vby_shape x hx
  rw [h1] at h
  rw [rvar_drop l p c (t ++ r) (by simpa using h), h3]
  have ht : (c :: (t ++ r)).take (vsz x) = vby x := by rw [← h2, h1, List.take_succ_cons, List.take_left]
  rw [if_neg (by rw [List.length_append]; omega), ht, h4, if_pos rfl]

theorem rvar_part {l : List UInt8} {p x : Nat} {r : List UInt8} (hx : x < 2 ^ 64) (h : vby x = l.drop p ++ r) (hr : r ≠ []) : rvar l p 0 = (0, p, 10) := by
  obtain ⟨c, t, h1, h2, h3, h4⟩ := vby_shape x hx
  cases hd : l.drop p with
  | nil =>
    unfold rvar
    have : l.length ≤ p := by simpa using hd
    rw [if_neg (by simp), if_pos this]
  | cons d u =>
    rw [h1, hd] at h
    obtain ⟨rfl, ht⟩ : c = d ∧ t = u ++ r := by simpa using h
    rw [rvar_drop l p c u hd, h3]
    have : 0 < r.length := List.length_pos_iff.2 hr
    rw [if_pos (by rw [← h2, ht, List.length_append]; omega)]

theorem rvar_good {l : List UInt8} {p : Nat} (h : (rvar l p 0).2.2 = 0) : ∃ r, l.drop p = vby (rvar l p 0).1 ++ r ∧ (rvar l p 0).2.1 = p + vsz (rvar l p 0).1 ∧ (rvar l p 0).1 < 2 ^ 64 := by
  cases hd : l.drop p with
  | nil =>
    exfalso
    have h0 : l.length ≤ p := by simpa using hd
    unfold rvar at h
    rw [if_neg (by simp), if_pos h0] at h
    simp at h
  | cons c t =>
    have hr := rvar_drop l p c t hd
    have hb := vlead_bd c
    by_cases h1 : t.length + 1 < vlead c
    · rw [hr, if_pos h1] at h; simp at h
    rw [if_neg h1] at hr
    by_cases h2 : vsz (vval ((c :: t).take (vlead c))) = vlead c
    · rw [if_pos h2] at hr
      have hlt := vval_lt ((c :: t).take (vlead c)) (by simp; omega)
      rw [hr]
      dsimp only
      refine ⟨(c :: t).drop (vlead c), ?_, by rw [h2], by omega⟩
      have key : vby (vval ((c :: t).take (vlead c))) = (c :: t).take (vlead c) := by
        obtain ⟨n, hn⟩ : ∃ n, vlead c = n + 1 := ⟨vlead c - 1, by omega⟩
        rw [hn] at h2 ⊢
        rw [List.take_succ_cons] at h2 ⊢
        have hu : (t.take n).length = n := by simp; omega
        generalize t.take n = u at *
        have hnum := num_lt u
        rw [hu] at hnum
        have hc := c.toNat_lt
        by_cases h9 : n = 8
        · subst h9
          rw [vby_nine h2]
          have e1 : vval (c :: u) = num u := by unfold vval; rw [if_neg (by simp [hu])]; rfl
          have e2 := lead_nine ⟨c.toNat, c.toNat_lt⟩ (by simpa using hn)
          rw [e1, be_of_num hu (Nat.mod_eq_of_lt hnum)]
          congr 1
          exact UInt8.toNat_inj.1 e2.symm
        · have hn8 : n < 8 := by omega
          rw [vby_less h2 hn8]
          have e1 : vval (c :: u) = c.toNat % 2 ^ (9 - (n + 1)) * 256 ^ n + num u := by
            unfold vval; rw [if_pos (by simp [hu]; omega)]; simp [hu]
          have e2 := lead_back ⟨n, hn8⟩ ⟨c.toNat, c.toNat_lt⟩ (by simpa using hn)
          have hp : 0 < 256 ^ n := Nat.pow_pos (by omega)
          rw [e1, be_of_num hu (by rw [Nat.add_comm, Nat.add_mul_mod_self_right]; exact Nat.mod_eq_of_lt hnum), Nat.mul_comm, Nat.mul_add_div hp, Nat.div_eq_of_lt hnum, Nat.add_zero]
          congr 1
          simp only [] at e2
          rw [e2]
          simp
      rw [key, List.take_append_drop]
    · rw [hr, if_neg h2] at h; simp at h

end Go.Proofs.Ytjebldfmkpfafaa

/- Layer 2, plain: the check sum, and that a byte that is turned turns it. -/
namespace Go.Proofs.Ytjebldfmkpfafaa
set_option maxRecDepth 100000

/-- A register, moved by a bit. -/
def crcStep (x : Nat) : Nat := (x / 2) ^^^ (if x % 2 = 1 then 2197175160 else 0)
def crcSteps (x : Nat) : Nat → Nat
  | 0 => x
  | n + 1 => crcStep (crcSteps x n)
/-- A register that took a byte. -/
def crcByte (x : Nat) (c : UInt8) : Nat := crcSteps (x ^^^ c.toNat) 8
/-- A register that took bytes. -/
def crcRun (x : Nat) (l : List UInt8) : Nat := l.foldl crcByte x
/-- The check sum of bytes behind others. -/
def crcMore (x : Nat) (l : List UInt8) : Nat := 4294967295 - crcRun (4294967295 - x) l

theorem crcStep_lt {x : Nat} (h : x < 4294967296) : crcStep x < 4294967296 := by
  unfold crcStep
  have h1 : x / 2 < 2 ^ 32 := by omega
  have h2 : (if x % 2 = 1 then 2197175160 else 0) < 2 ^ 32 := by split <;> omega
  exact Nat.xor_lt_two_pow h1 h2

theorem crcSteps_lt {x : Nat} (h : x < 4294967296) : ∀ n, crcSteps x n < 4294967296
  | 0 => h
  | n + 1 => crcStep_lt (crcSteps_lt h n)

theorem xor_byte_lt {x : Nat} (h : x < 4294967296) (c : UInt8) : x ^^^ c.toNat < 4294967296 := by
  have h1 : x < 2 ^ 32 := h
  have h2 : c.toNat < 2 ^ 32 := by have := c.toNat_lt; omega
  exact Nat.xor_lt_two_pow h1 h2

theorem crcByte_lt {x : Nat} (h : x < 4294967296) (c : UInt8) : crcByte x c < 4294967296 := crcSteps_lt (xor_byte_lt h c) 8

theorem crcRun_lt : ∀ (l : List UInt8) {x : Nat}, x < 4294967296 → crcRun x l < 4294967296
  | [], _, h => h
  | c :: r, _, h => crcRun_lt r (crcByte_lt h c)

theorem crcRun_append (x : Nat) (l m : List UInt8) : crcRun x (l ++ m) = crcRun (crcRun x l) m := by unfold crcRun; rw [List.foldl_append]

theorem crcMore_lt (x : Nat) (l : List UInt8) : crcMore x l < 4294967296 := by unfold crcMore; omega

theorem crcMore_append {x : Nat} (h : x < 4294967296) (l m : List UInt8) : crcMore x (l ++ m) = crcMore (crcMore x l) m := by
  have h1 := crcRun_lt l (x := 4294967295 - x) (by omega)
  unfold crcMore
  rw [crcRun_append]
  congr 2
  omega

theorem xor_cancel_r {a b c : Nat} (h : a ^^^ c = b ^^^ c) : a = b := by
  have := congrArg (· ^^^ c) h
  simpa [Nat.xor_assoc, Nat.xor_self] using this
theorem xor_cancel_l {a b c : Nat} (h : a ^^^ b = a ^^^ c) : b = c := by
  rw [Nat.xor_comm a b, Nat.xor_comm a c] at h
  exact xor_cancel_r h

theorem crcStep_inj {x y : Nat} (hx : x < 4294967296) (hy : y < 4294967296) (h : crcStep x = crcStep y) : x = y := by
  have bit : ∀ z : Nat, z < 4294967296 → (crcStep z).testBit 31 = decide (z % 2 = 1) := by
    intro z hz
    unfold crcStep
    rw [Nat.testBit_xor, Nat.testBit_lt_two_pow (show z / 2 < 2 ^ 31 by omega)]
    by_cases h1 : z % 2 = 1
    · rw [if_pos h1]; simp [h1]; decide
    · rw [if_neg h1]; simp [h1]
  have h1 := bit x hx
  have h2 := bit y hy
  rw [h, h2] at h1
  have h3 : x % 2 = y % 2 := by
    have : (y % 2 = 1) ↔ (x % 2 = 1) := by simpa using h1
    omega
  unfold crcStep at h
  rw [h3] at h
  have h4 : x / 2 = y / 2 := xor_cancel_r h
  omega

theorem crcSteps_inj {x y : Nat} (hx : x < 4294967296) (hy : y < 4294967296) : ∀ n, crcSteps x n = crcSteps y n → x = y
  | 0, h => h
  | n + 1, h => crcSteps_inj hx hy n (crcStep_inj (crcSteps_lt hx n) (crcSteps_lt hy n) h)

theorem crcByte_inj {x y : Nat} (hx : x < 4294967296) (hy : y < 4294967296) {c : UInt8} (h : crcByte x c = crcByte y c) : x = y :=
  xor_cancel_r (crcSteps_inj (xor_byte_lt hx c) (xor_byte_lt hy c) 8 h)
theorem crcByte_inj2 {x : Nat} (hx : x < 4294967296) {c d : UInt8} (h : crcByte x c = crcByte x d) : c = d := by
  have h1 := crcSteps_inj (xor_byte_lt hx c) (xor_byte_lt hx d) 8 h
  exact UInt8.toNat_inj.1 (xor_cancel_l h1)

theorem crcRun_inj : ∀ (l : List UInt8) {x y : Nat}, x < 4294967296 → y < 4294967296 → crcRun x l = crcRun y l → x = y
  | [], _, _, _, _, h => h
  | c :: r, _, _, hx, hy, h => crcByte_inj hx hy (crcRun_inj r (crcByte_lt hx c) (crcByte_lt hy c) h)

/-- One byte is turned: the check sum is another one. -/
theorem crcMore_turned {x : Nat} (hx : x < 4294967296) (l m : List UInt8) {c d : UInt8} (hcd : c ≠ d) : crcMore x (l ++ c :: m) ≠ crcMore x (l ++ d :: m) := by
  intro h
  have h0 : 4294967295 - x < 4294967296 := by omega
  have b1 := crcRun_lt (l ++ c :: m) h0
  have b2 := crcRun_lt (l ++ d :: m) h0
  unfold crcMore at h
  have h1 : crcRun (4294967295 - x) (l ++ c :: m) = crcRun (4294967295 - x) (l ++ d :: m) := by omega
  rw [crcRun_append, crcRun_append] at h1
  have h2 := crcRun_lt l h0
  have h3 : crcByte (crcRun (4294967295 - x) l) c = crcByte (crcRun (4294967295 - x) l) d := crcRun_inj m (crcByte_lt h2 c) (crcByte_lt h2 d) h1
  exact hcd (crcByte_inj2 h2 h3)

theorem not_xor {x : Nat} (h : x < 4294967296) : 4294967295 ^^^ x = 4294967295 - x := by
  apply Nat.eq_of_testBit_eq
  intro i
  have e : 4294967295 - x = 2 ^ 32 - (x + 1) := by omega
  rw [e, Nat.testBit_two_pow_sub_succ (by omega), Nat.testBit_xor, show (4294967295 : Nat) = 2 ^ 32 - 1 by rfl, Nat.testBit_two_pow_sub_one]
  by_cases hi : i < 32
  · simp [hi]
  · have : x.testBit i = false := Nat.testBit_lt_two_pow (Nat.lt_of_lt_of_le h (show 2 ^ 32 ≤ 2 ^ i from Nat.pow_le_pow_right (by omega) (by omega)))
    simp [hi, this]

/-- A number as four bytes, the lowest one first. -/
def four (x : Nat) : List UInt8 := [UInt8.ofNat x, UInt8.ofNat (x / 256), UInt8.ofNat (x / 65536), UInt8.ofNat (x / 16777216)]
theorem four_inj {x y : Nat} (hx : x < 4294967296) (hy : y < 4294967296) (h : four x = four y) : x = y := by
  unfold four at h
  simp only [List.cons.injEq, and_true] at h
  obtain ⟨h0, h1, h2, h3⟩ := h
  have e0 := congrArg UInt8.toNat h0
  have e1 := congrArg UInt8.toNat h1
  have e2 := congrArg UInt8.toNat h2
  have e3 := congrArg UInt8.toNat h3
  simp only [UInt8.toNat_ofNat'] at e0 e1 e2 e3
  omega
end Go.Proofs.Ytjebldfmkpfafaa

/- Rows of arrays: elements of c cells each in a block that is owned; an element is read and written whole. -/
namespace Go.Proofs.Ytjebldfmkpfafaa
open Go.RowKit
set_option maxRecDepth 100000

/-- Cells in an array, one behind the other. -/
def put (cs : Array Value) (o : Nat) : List Value → Array Value
  | [] => cs
  | v :: r => put (cs.setIfInBounds o v) (o + 1) r

theorem put_toList : ∀ (vs : List Value) (cs : Array Value) (o : Nat), o + vs.length ≤ cs.size → (put cs o vs).toList = cs.toList.take o ++ vs ++ cs.toList.drop (o + vs.length)
  | [], cs, o, _ => by simp [put]
  | v :: r, cs, o, h => by
    have hl : cs.toList.length = cs.size := Array.length_toList
    simp only [List.length_cons] at h
    rw [put, put_toList r _ _ (by simp; omega)]
    simp only [Array.toList_setIfInBounds, List.length_cons]
    rw [List.set_eq_take_append_cons_drop, if_pos (by omega)]
    have h1 : (cs.toList.take o ++ v :: cs.toList.drop (o + 1)).take (o + 1) = cs.toList.take o ++ [v] := by
      rw [List.take_append, List.take_of_length_le (by simp; omega), List.length_take, Nat.min_eq_left (by omega)]
      simp
    have h2 : (cs.toList.take o ++ v :: cs.toList.drop (o + 1)).drop (o + 1 + r.length) = cs.toList.drop (o + (r.length + 1)) := by
      rw [List.drop_append, List.drop_of_length_le (by simp; omega), List.length_take, Nat.min_eq_left (by omega), show o + 1 + r.length - o = r.length + 1 by omega, List.drop_succ_cons, List.drop_drop, List.nil_append]
      congr 1
      omega
    rw [h1, h2]
    simp

theorem heap_setCells {t : TypeId} {z : Nat × Nat} {b : Nat} : ∀ (vs : List Value) (o : Nat) (w : World) (cs : Array Value), w.heap[b]? = some (.cells cs t z) → (w.setCells b o vs).heap[b]? = some (.cells (put cs o vs) t z)
  | [], _, _, _, h => h
  | v :: r, o, _, _, h => heap_setCells r (o + 1) _ _ (heap_setCell h o v)

theorem keeps_setCells {b : Nat} : ∀ (vs : List Value) (o : Nat) (w : World), Keeps [b] w (w.setCells b o vs)
  | [], _, w => Keeps.refl _ w
  | v :: r, o, w => ((Keeps.refl [b] w).setCell (p := ⟨b, o, none⟩) (by simp) v).trans (keeps_setCells r (o + 1) _) (fun _ h => .inl h)

theorem put_size : ∀ (vs : List Value) (cs : Array Value) (o : Nat), (put cs o vs).size = cs.size
  | [], _, _ => rfl
  | v :: r, cs, o => by rw [put, put_size r]; simp

theorem flat_len {α β : Type} {f : α → List β} {c : Nat} : ∀ (xs : List α), (∀ x, x ∈ xs → (f x).length = c) → (xs.flatMap f).length = xs.length * c
  | [], _ => by simp
  | x :: xs, h => by
    rw [List.flatMap_cons, List.length_append, flat_len xs (fun y hy => h y (by simp [hy])), h x (by simp), List.length_cons, Nat.succ_mul]; omega

theorem flat_parts {α β : Type} {f : α → List β} {c : Nat} {xs : List α} (h : ∀ x, x ∈ xs → (f x).length = c) {i : Nat} {x : α} (hi : xs[i]? = some x) :
    xs.flatMap f = (xs.take i).flatMap f ++ f x ++ (xs.drop (i + 1)).flatMap f ∧ ((xs.take i).flatMap f).length = i * c := by
  obtain ⟨hlt, rfl⟩ := List.getElem?_eq_some_iff.1 hi
  refine ⟨?_, ?_⟩
  · have e : xs = xs.take i ++ xs[i] :: xs.drop (i + 1) := by rw [← List.drop_eq_getElem_cons hlt, List.take_append_drop]
    conv => lhs; rw [e]
    rw [List.flatMap_append, List.flatMap_cons, List.append_assoc]
  · rw [flat_len _ (fun y hy => h y (List.mem_of_mem_take hy)), List.length_take, Nat.min_eq_left (by omega)]

/-- The element i of a row of arrays: its cells, and what becomes of the row when it is written. -/
theorem own_elem {α : Type} {w : World} {e : TypeId} {c n : Nat} {v : Value} {f : α → List Value} {xs : List α} (hown : w.ownsRow 0 e c v n (xs.flatMap f)) (hc : ∀ x, x ∈ xs → (f x).length = c) (hn : xs.length = n) {i : Nat} {x : α} (hi : xs[i]? = some x) :
    ∃ g cap, v = .slice (some ⟨g, 0, none⟩) n cap ∧ w.rangeAt g (i * c) (f x) ∧ w.there g (i * c) c ∧
      ∀ y, (f y).length = c → (w.setCells g (i * c) (f y)).ownsRow 0 e c v n ((xs.set i y).flatMap f) := by
  obtain ⟨hlt, _⟩ := List.getElem?_eq_some_iff.1 hi
  obtain ⟨hp, hpl⟩ := flat_parts hc hi
  have hx := hc x (List.mem_of_getElem? hi)
  have hic : (i + 1) * c ≤ n * c := Nat.mul_le_mul_right c (by omega)
  rw [Nat.succ_mul] at hic
  rcases hown.2 with ⟨_, h0⟩ | ⟨g, cap, cur, rfl, hb, hg, h1, h2, h3, h4⟩
  · omega
  have hcur : n * c ≤ cur.size := by rw [h3]; exact Nat.mul_le_mul_right c h1
  refine ⟨g, cap, rfl, ?_, ?_, ?_⟩
  · intro j u hj
    have hjl : j < c := by rw [← hx]; exact (List.getElem?_eq_some_iff.1 hj).1
    rw [cell_of_heap hg, ← Array.getElem?_toList]
    have h5 : (cur.toList.take (n * c))[i * c + j]? = some u := by
      rw [h4, hp, List.append_assoc, List.getElem?_append_right (by omega), hpl, Nat.add_sub_cancel_left, List.getElem?_append_left (by omega), hj]
    rwa [List.getElem?_take_of_lt (by omega)] at h5
  · intro j hj
    rw [cell_of_heap hg, free_of_heap hg]
    exact ⟨by rw [Array.getElem?_eq_getElem (by omega)]; rfl, rfl⟩
  · intro y hy
    refine ⟨?_, .inr ⟨g, cap, put cur (i * c) (f y), rfl, hb, heap_setCells _ _ _ _ hg, h1, h2, by rw [put_size, h3], ?_⟩⟩
    · rw [flat_len (c := c) _ (fun z hz => ?_), List.length_set, hn]
      rcases List.mem_or_eq_of_mem_set hz with h | rfl
      · exact hc z h
      · exact hy
    · rw [put_toList _ _ _ (by rw [hy]; omega), List.set_eq_take_append_cons_drop, if_pos hlt]
      have hfl : (f x).length = c := hx
      have ht1 : cur.toList.take (i * c) = (xs.take i).flatMap f := by
        have e1 : (xs.flatMap f).take (i * c) = (xs.take i).flatMap f := by
          rw [hp, List.append_assoc, List.take_append_of_le_length (by omega), List.take_of_length_le (by omega)]
        rw [← e1, ← h4, List.take_take, Nat.min_eq_left (by omega)]
      have ht2 : (cur.toList.drop (i * c + c)).take (n * c - (i * c + c)) = (xs.drop (i + 1)).flatMap f := by
        have e1 : (xs.flatMap f).drop (i * c + c) = (xs.drop (i + 1)).flatMap f := by
          rw [hp, List.drop_left' (by rw [List.length_append]; omega)]
        rw [← e1, ← h4, List.drop_take]
      rw [hy, ht1, List.take_append, List.take_of_length_le (by rw [List.length_append, hpl, hy]; omega), List.length_append, hpl, hy, ht2]
      simp
end Go.Proofs.Ytjebldfmkpfafaa

/- Layer 2: what step, byted, More, Sum do. -/
namespace Go.Proofs.Ytjebldfmkpfafaa
open Go.RowKit
set_option maxRecDepth 100000

theorem step_any (x : Nat) (w : World) (hx : x < 4294967296) : Calls Try.prog 92 #[.int .u32 x] w fun e w' => e = .returned (.int .u32 (crcStep x)) ∧ w = w' := by
  have hb : x / 2 < 4294967296 := by omega
  unfold crcStep
  by_cases h : x % 2 = 1
  · rw [if_pos h]
    have e1 : bits .and .u32 (x : Int) 1 = 1 := by
      have := u32_and_nat x 1 hx (by omega)
      rw [Nat.and_one_is_mod, h] at this
      exact this
    have e2 : bits .and .u32 2197175160 4294967295 = 2197175160 := by
      have := u32_and_nat 2197175160 4294967295 (by omega) (by omega)
      exact this.trans (by decide)
    have e3 : bits .xor .u32 ((x : Int) / 2) 2197175160 = ((x / 2 ^^^ 2197175160 : Nat) : Int) := by
      have := u32_xor_nat (x / 2) 2197175160 hb (by omega)
      rwa [Int.natCast_ediv] at this
    go_enter Try.func92, Try.ntmps92
    go_wp2
    go_ret
    exact ⟨ret_int (by simp), rfl⟩
  · rw [if_neg h]
    have h0 : x % 2 = 0 := by omega
    have e1 : bits .and .u32 (x : Int) 1 = 0 := by
      have := u32_and_nat x 1 hx (by omega)
      rw [Nat.and_one_is_mod, h0] at this
      exact this
    have e2 : bits .and .u32 2197175160 0 = 0 := by
      have := u32_and_nat 2197175160 0 (by omega) (by omega)
      exact this.trans (by decide)
    have e3 : bits .xor .u32 ((x : Int) / 2) 0 = ((x / 2 ^^^ 0 : Nat) : Int) := by
      have := u32_xor_nat (x / 2) 0 hb (by omega)
      rwa [Int.natCast_ediv] at this
    go_enter Try.func92, Try.ntmps92
    go_wp2
    go_ret
    exact ⟨ret_int (by simp), rfl⟩

theorem byted_any (x : Nat) (c : UInt8) (w : World) (hx : x < 4294967296) : Calls Try.prog 75 #[.int .u32 x, .int .u8 c.toNat] w fun e w' => e = .returned (.int .u32 (crcByte x c)) ∧ w = w' := by
  have hcl := c.toNat_lt
  have e1 : bits .xor .u32 (x : Int) (c.toNat : Int) = ((x ^^^ c.toNat : Nat) : Int) := u32_xor_nat x c.toNat hx (by omega)
  have hb := xor_byte_lt hx c
  unfold crcByte
  generalize x ^^^ c.toNat = y at *
  generalize hC : c.toNat = C at *
  clear hC
  go_enter Try.func75, Try.ntmps75
  go_wp2
  go_loop [0, 9] (fun xv iv => ∃ k z : Nat, k ≤ 8 ∧ iv = .int .i64 k ∧ xv = .int .u32 z ∧ Hid (z = crcSteps y k)) (fun _ iv => 8 - (intOf iv).toNat)
  case atStart => exact ⟨0, y, by omega, rfl, by first | rfl | simp [e1], rfl⟩
  case round =>
    obtain ⟨k, z, hk, rfl, rfl, Hz⟩ := hrel
    by_cases hlt : k < 8
    · have hzl : z < 4294967296 := by rw [Hz.out]; exact crcSteps_lt hb k
      go_wp2_with (go_at_call 92; (with_reducible refine (step_any z _ hzl).mono ?_); rintro e w1 ⟨rfl, rfl⟩)
      go_round
      case rel => exact ⟨k + 1, crcStep z, by omega, by go_num, rfl, by unfold Hid; rw [Hz.out]; rfl⟩
      case measure => simp [intOf]; omega
    · obtain rfl : k = 8 := by omega
      go_wp2
      go_ret
      rw [← Hz.out]
      exact ⟨rfl, rfl⟩
end Go.Proofs.Ytjebldfmkpfafaa

/- A region that draws its order: append of one element as one step. -/
namespace Go.Proofs.Ytjebldfmkpfafaa
open Go.RowKit
set_option maxRecDepth 100000

theorem own_keep {w w' : World} {e : TypeId} {size n : Nat} {v : Value} {xs : List Value} {G : List Nat} (h : w.ownsRow 0 e size v n xs) (k : Keeps G w w') (hd : ∀ x, x ∈ v.ownBlock.toList → x ∉ G) : w'.ownsRow 0 e size v n xs := by
  refine ⟨h.1, ?_⟩
  rcases h.2 with hn | ⟨g, cap, cur, rfl, hbg, hg, r⟩
  · exact .inl hn
  · exact .inr ⟨g, cap, cur, rfl, hbg, k.some hg (hd _ (by simp [Value.ownBlock])), r⟩

/-- append(s, x) inside such a region: x was laid into the block B by then, behind W. -/
theorem step_app1 {P : Program} {t e : TypeId} {size bytes : Nat} {z : Value} (T : SlTy P t e size bytes z) {ops : Array Oper} {o : Oper} {a : Act} {w : World} {K : Act → World → Prop} {Q : Exit → Act → World → Prop} {E : Prop} (hgd : o.guard = none) (s x : Operand)
    (ho : o.op = .call { callee := .builtin .append, args := #[s, x], argTypes := #[t, t] }) (v : Value) (n : Nat) (xs : List Value) (hs : a.eval s = v) (W : World) (B : Nat) (us : Array Value)
    (hx : a.eval x = .slice (some ⟨B, 0, none⟩) 1 1) (hk : Keeps [] W w) (hn : w.heap[B]? = some (.cells us e))
    (hown : W.ownsRow 0 e size v n xs) (hus : us.size = size) (h1 : ∀ u ∈ us.toList, u.oneCell' = true) (hlen : (n + 1) * bytes ≤ 140737488355328) (h63 : n + 1 ≤ maxLen)
    (h : ∀ g cap w', w'.ownsRow 0 e size (.slice (some ⟨g, 0, none⟩) (n + 1) cap) (n + 1) (xs ++ us.toList) → Chg v.ownBlock.toList [g] W w' → K (a.put o.dst (.slice (some ⟨g, 0, none⟩) (n + 1) cap)) w') :
    if Region.wanted o (yielded ops a.tmps) = true then Oper.wp P o a w K Q else E := by
  obtain ⟨hu, ⟨i, hi, hz, hsz, hby⟩, hzs, hp⟩ := T
  refine step_append_lies w hgd s x t ho 0 e i z size bytes hu hi hz hsz hby hzs hp v n xs hs (own_keep hown hk (by simp)) ⟨B, 0, none⟩ 1 1 us.toList hx (by simp [hus]) (World.news_of_block hn) h1 (by omega) h63 hlen (Nat.zero_le _) w.heap.size rfl ?_
  intro g cap w' h2 h3 h4 h5
  refine h g cap w' h2 ⟨(hk.mono (F' := v.ownBlock.toList) (by simp)).trans (F' := v.ownBlock.toList) ⟨h3.os, h3.tape, h3.output, h3.size, fun k hk hn => h3.block k hk (fun e => hn (by simp [← e]))⟩ (fun x h => .inl h), fun k hk' => ?_⟩
  rw [List.mem_singleton] at hk'
  subst hk'
  rcases h4 with h4 | h4
  · exact .inl (by rw [h4]; simp)
  · exact .inr (by rw [h4]; exact hk.size)

/-- A read that yields a value, its run given. -/
theorem still_run {P : Program} {ops : Array Oper} {w : World} {Q : Act → Prop} {a : Act} {o : Oper} {rest : List Oper} (hgd : o.guard = none) (v : Value) (hr : (execOp a.eval o).run P w = .ok (.value v) w) (h : wpStill P ops w Q rest (a.put o.dst v)) : wpStill P ops w Q (o :: rest) a := by
  refine wpStill_step (fun K hK => ?_)
  have hw : Region.wanted o (yielded ops a.tmps) = true := by simp [Region.wanted, hgd]
  rw [if_pos hw]
  unfold Oper.still
  rw [hr]
  exact ⟨rfl, hK _ h⟩

/-- A whole array or struct is read. -/
theorem still_load_mid {P : Program} {ops : Array Oper} {w : World} {Q : Act → Prop} {a : Act} {o : Oper} {rest : List Oper} (hgd : o.guard = none) (ty : TypeId) (x : Operand) (ho : o.op = .load ty x)
    (b off : Nat) (hx : a.eval x = .pointer (some ⟨b, off, none⟩)) (cs : List Value) (d : TypeDesc) (hc : w.rangeAt b off cs) (hu : P.underlying ty = some d) (hd : d.isRow = true) (hi : (P.info? ty).map (·.size) = some cs.length)
    (h : wpStill P ops w Q rest (a.put o.dst (.agg cs.toArray))) : wpStill P ops w Q (o :: rest) a := by
  refine still_run hgd (.agg cs.toArray) ?_ h
  unfold execOp
  simp only [ho, hx, Sem.run_bind, run_loadAt_mid w b off ty cs d hc hu hd hi, Result.andThen_ok]
  rfl

theorem fold_put : ∀ (sc : List Value) (n o : Nat) (cs : Array Value), (sc.zipIdx n).foldl (fun cs x => cs.setIfInBounds (o + x.snd) x.fst) cs = put cs (o + n) sc
  | [], _, _, _ => rfl
  | v :: r, n, o, cs => by
    rw [List.zipIdx_cons, List.foldl_cons, fold_put r]
    rfl

theorem put_all {Z : Array Value} {us : List Value} (h : Z.size = us.length) : put Z 0 us = us.toArray := by
  apply Array.toList_inj.1
  rw [put_toList _ _ _ (by omega), List.take_zero, Nat.zero_add, List.drop_of_length_le (by simp; omega)]
  simp

theorem put_tail {Z : Array Value} {x : Value} {us : List Value} (h : Z.size = us.length + 1) : put (Z.setIfInBounds 0 x) 1 us = (x :: us).toArray := by
  apply Array.toList_inj.1
  rw [put_toList _ _ _ (by simp; omega)]
  have hz : Z.toList.length = us.length + 1 := by simpa using h
  rw [List.drop_of_length_le (by simp; omega), Array.toList_setIfInBounds]
  cases hZ : Z.toList with
  | nil => rw [hZ] at hz; simp at hz
  | cons a r => simp

/-- A struct is built: its first field of one cell, its second one of many. -/
theorem built_two {P : Program} {t : TypeId} {n : Nat} {fs : Array Field} (hu : P.underlying t = some (.struct fs)) (hi : ((P.info? t).bind (·.zero)).map (·.cells.size) = some (n + 1))
    (hp : fs.toList.mapM (fun f => (P.info? f.type).map fun i => (f.offset, i.size)) = some [(0, 1), (1, n)]) (x : Value) (hx : x.cells = #[x]) (sc : List Value) (hs : sc.length = n) :
    P.built t [(0, x), (1, .agg sc.toArray)] = some (x :: sc).toArray := by
  obtain ⟨it, h1, z, h2, h3⟩ : ∃ it, P.info? t = some it ∧ ∃ z, it.zero = some z ∧ z.cells.size = n + 1 := by
    cases h : P.info? t with
    | none => simp [h] at hi
    | some it =>
      cases hz : it.zero with
      | none => simp [h, hz] at hi
      | some z => exact ⟨it, rfl, z, hz, by simpa [h, hz] using hi⟩
  subst hs
  unfold Program.built
  simp only [h1, hu, h2, hp, Instr.fill]
  have e1 : (Value.agg sc.toArray).cells = sc.toArray := rfl
  have h5 := fold_put sc 0 1 (z.cells.setIfInBounds 0 x)
  rw [Nat.add_zero, put_tail h3] at h5
  simp only [hx, e1]
  simp [h3]
  rw [← h5]
  simp
  omega

/-- The cells that the walk reckons of such a struct. -/
theorem fill_tail {Z : Array Value} (x : Value) (sc : List Value) (h : Z.size = sc.length + 1) (hx : Z[0]? = some x) : sc.zipIdx.foldl (fun cs x => cs.setIfInBounds (1 + x.snd) x.fst) Z = (x :: sc).toArray := by
  have h5 := fold_put sc 0 1 Z
  rw [Nat.add_zero] at h5
  have e : Z.setIfInBounds 0 x = Z := by
    apply Array.ext_getElem?
    intro i
    rw [Array.getElem?_setIfInBounds]
    split
    · subst_vars; rw [if_pos (by omega), hx]
    · rfl
  rw [h5, ← e, put_tail h]
theorem still_build {P : Program} {ops : Array Oper} {w : World} {Q : Act → Prop} {a : Act} {o : Oper} {rest : List Oper} (hgd : o.guard = none) (t : TypeId) (parts : Array (Nat × Operand)) (ho : o.op = .build t parts) (cells : Array Value)
    (hb : P.built t (parts.map fun (i, x) => (i, a.eval x)).toList = some cells) (h : wpStill P ops w Q rest (a.put o.dst (.agg cells))) : wpStill P ops w Q (o :: rest) a := by
  refine still_run hgd (.agg cells) ?_ h
  unfold execOp
  simp only [ho, Sem.run_bind, run_build w t _ cells hb, Result.andThen_ok]
  rfl

/-- []T{x}: x a struct or an array. -/
theorem wpList_buildOne {P : Program} {ops : Array Oper} {rest : List Oper} {o : Oper} {a : Act} {w : World} {Q : Exit → Act → World → Prop} (hg : o.guard = none) (t e : TypeId) (x : Operand) (ho : o.op = .buildSlice t 1 #[(0, x)])
    (us : List Value) (hx : a.eval x = .agg us.toArray) (hu : P.underlying t = some (.slice e)) (hsz : (P.info? e).map (·.size) = some us.length) (hz : ((P.info? e).bind (·.zero)).isSome = true) (h0 : 0 < us.length) (hsmall : us.length ≤ 2 ^ 24)
    (h : wpList P ops Q rest (a.put o.dst (.slice (some ⟨w.heap.size, 0, none⟩) 1 1)) (w.alloc (.cells us.toArray e))) : wpList P ops Q (o :: rest) a w := by
  cases hie : P.info? e with
  | none => simp [hie] at hsz
  | some ie =>
    simp only [hie, Option.map_some, Option.some.injEq, Option.bind_some] at hsz hz
    obtain ⟨z, hzz⟩ := Option.isSome_iff_exists.1 hz
    refine wpList_buildSlice hg t e 1 _ ho _ ie z hu hie hzz (by rw [hsz]; omega) (by rw [hsz]; omega) ?_ h
    have e1 : (Value.agg us.toArray).cells = us.toArray := rfl
    have h5 := fold_put us 0 0 ((Array.range (1 * us.length)).map (z.cells[· % z.cells.size]!))
    rw [Nat.add_zero, put_all (by simp)] at h5
    simp only [List.map_toArray, List.map_cons, List.map_nil, hx, hsz, Instr.fill, e1]
    simp
    rw [← h5]
    simp

/-- A step of a region that draws its order: []T{x}, x a struct or an array. -/
theorem step_buildOne {P : Program} {ops : Array Oper} {o : Oper} {a : Act} {w : World} {K : Act → World → Prop} {Q : Exit → Act → World → Prop} {E : Prop} (hg : o.guard = none) (t e : TypeId) (x : Operand) (ho : o.op = .buildSlice t 1 #[(0, x)])
    (us : List Value) (hx : a.eval x = .agg us.toArray) (hu : P.underlying t = some (.slice e)) (hsz : (P.info? e).map (·.size) = some us.length) (hz : ((P.info? e).bind (·.zero)).isSome = true) (h0 : 0 < us.length) (hsmall : us.length ≤ 2 ^ 24)
    (h : K (a.put o.dst (.slice (some ⟨w.heap.size, 0, none⟩) 1 1)) (w.alloc (.cells us.toArray e))) :
    if Region.wanted o (yielded ops a.tmps) = true then Oper.wp P o a w K Q else E := by
  have hw : Region.wanted o (yielded ops a.tmps) = true := by simp [Region.wanted, hg]
  rw [if_pos hw]
  cases hie : P.info? e with
  | none => simp [hie] at hsz
  | some ie =>
    simp only [hie, Option.map_some, Option.some.injEq, Option.bind_some] at hsz hz
    obtain ⟨z, hzz⟩ := Option.isSome_iff_exists.1 hz
    refine wp_buildSlice t e 1 _ ho _ ie z hu hie hzz (by rw [hsz]; omega) (by rw [hsz]; omega) ?_ h
    have e1 : (Value.agg us.toArray).cells = us.toArray := rfl
    have h5 := fold_put us 0 0 ((Array.range (1 * us.length)).map (z.cells[· % z.cells.size]!))
    rw [Nat.add_zero, put_all (by simp)] at h5
    simp only [List.map_toArray, List.map_cons, List.map_nil, hx, hsz, Instr.fill, e1]
    simp
    rw [← h5]
    simp
end Go.Proofs.Ytjebldfmkpfafaa

/- Layer 2: what More, Sum, Seal, Open do. -/
namespace Go.Proofs.Ytjebldfmkpfafaa
open Go.RowKit
set_option maxRecDepth 100000

def strV (s : List UInt8) : Value := .string (str s)

theorem run_snoc_byte (x : Nat) (l : List UInt8) (c : UInt8) : crcRun x (l ++ [c]) = crcByte (crcRun x l) c := by rw [crcRun_append]; rfl

theorem u32_not {x : Nat} (h : x < 4294967296) : bits .xor .u32 IntKind.u32.max (x : Int) = ((4294967295 - x : Nat) : Int) := by
  have h1 := u32_xor_nat 4294967295 x (by omega) h
  rw [not_xor h] at h1
  exact h1

set_option maxHeartbeats 2000000 in
theorem more_any (x : Nat) (ss : List (List UInt8)) (v : Value) (G : List Nat) (w : World) (hx : x < 4294967296) (hv : SlAt w v (ss.map strV) G) (hs : ∀ s, s ∈ ss → s.length ≤ 9223372036854775807) (hl : ss.length ≤ 9223372036854775807) :
    Calls Try.prog 47 #[.int .u32 x, v] w fun e w' => e = .returned (.int .u32 (crcMore x ss.flatten)) ∧ w = w' := by
  obtain ⟨ad, cap, rfl, hc⟩ := hv
  rw [List.length_map]
  have Hc := Lib.hid hc
  have Hs := Lib.hid hs
  have hnot := u32_not hx
  unfold crcMore
  have hx0 : 4294967295 - x < 4294967296 := by omega
  generalize 4294967295 - x = X at *
  have hsg : IntKind.u32.signed = false := rfl
  have hslen : (ss.length : Int) ≤ 9223372036854775807 := by omega
  clear hc hs
  go_enter Try.func47, Try.ntmps47
  go_wp2
  go_loop [5, 13] (fun xv iv => ∃ k z : Nat, k ≤ ss.length ∧ iv = .int .i64 k ∧ xv = .int .u32 z ∧ Hid (z = crcRun X (ss.take k).flatten)) (fun _ iv => ss.length - (intOf iv).toNat)
  case atStart => exact ⟨0, X, Nat.zero_le _, rfl, by first | rfl | rw [hnot], rfl⟩
  case round =>
    obtain ⟨k, z, hk, rfl, rfl, Hz⟩ := hrel
    have hzl : z < 4294967296 := by rw [Hz.out]; exact crcRun_lt _ hx0
    by_cases hlt : k < ss.length
    · obtain ⟨s, hsk⟩ : ∃ s, ss[k]? = some s := ⟨ss[k], by simp [hlt]⟩
      obtain ⟨b, off, rfl, _, hcell⟩ := Hc.out (by intro h0; rw [List.map_eq_nil_iff] at h0; rw [h0] at hlt; simp at hlt)
      have c0 := hcell k (strV s) (by rw [List.getElem?_map, hsk]; rfl)
      unfold strV at c0
      have hsl := Hs.out s (List.mem_of_getElem? hsk)
      have hst : (ss.take (k + 1)).flatten = (ss.take k).flatten ++ s := by rw [List.take_add_one, hsk]; simp
      have hki : (k : Int) < (ss.length : Int) := by omega
      have hki0 : (0 : Int) ≤ (k : Int) := by omega
      have Hst := Lib.hid hst
      have Hcell := Lib.hid hcell
      have Hsk := Lib.hid hsk
      clear hst hcell hsk
      go_wp2
      go_loop [5, 19] (fun xv iv => ∃ j y : Nat, j ≤ s.length ∧ iv = .int .i64 j ∧ xv = .int .u32 y ∧ Hid (y = crcRun z (s.take j))) (fun _ iv => s.length - (intOf iv).toNat)
      case atStart => exact ⟨0, z, Nat.zero_le _, rfl, rfl, rfl⟩
      case round =>
        obtain ⟨j, y, hj, rfl, rfl, Hy⟩ := hrel
        have hyl : y < 4294967296 := by rw [Hy.out]; exact crcRun_lt _ hzl
        by_cases hltj : j < s.length
        · have hji : (j : Int) < (s.length : Int) := by omega
          have hji0 : (0 : Int) ≤ (j : Int) := by omega
          have hsz : j < (str s).size := by rw [str_size]; exact hltj
          have hsj : s.take (j + 1) = s.take j ++ [(str s)[j]'hsz] := List.take_succ_eq_append_getElem hltj
          have Hsj := Lib.hid hsj
          clear hsj
          go_wp2_with (go_at_call 75; (with_reducible refine (byted_any y ((str s)[j]'hsz) _ hyl).mono ?_); rintro e w1 ⟨rfl, rfl⟩)
          go_round
          case rel => exact ⟨j + 1, crcByte y ((str s)[j]'hsz), by omega, by go_num, rfl, by unfold Hid; rw [Hsj.out, run_snoc_byte, ← Hy.out]⟩
          case measure => simp [intOf]; omega
        · obtain rfl : j = s.length := by omega
          go_wp2
          go_round
          case rel => exact ⟨k + 1, y, by omega, by go_num, rfl, by unfold Hid; rw [Hst.out, crcRun_append, ← Hz.out, Hy.out, List.take_length]⟩
          case measure => simp [intOf]; omega
    · obtain rfl : k = ss.length := by omega
      have hn2 := u32_not hzl
      go_wp2
      go_ret
      rw [List.take_length] at Hz
      rw [← Hz.out]
      exact ⟨by first | rfl | rw [hn2], rfl⟩

theorem sum_any (ss : List (List UInt8)) (v : Value) (G : List Nat) (w : World) (hv : SlAt w v (ss.map strV) G) (hs : ∀ s, s ∈ ss → s.length ≤ 9223372036854775807) (hl : ss.length ≤ 9223372036854775807) :
    Calls Try.prog 27 #[v] w fun e w' => e = .returned (.int .u32 (crcMore 0 ss.flatten)) ∧ w = w' := by
  have hm := more_any 0 ss v G w (by omega) hv hs hl
  rw [Int.natCast_zero] at hm
  obtain ⟨ad, cap, rfl, _⟩ := hv
  simp only [List.length_map] at hm ⊢
  have Hm := Lib.hid hm
  clear hm
  go_enter Try.func27, Try.ntmps27
  go_wp2_with (go_at_call 47; (with_reducible refine Hm.out.mono ?_); rintro e w1 ⟨rfl, rfl⟩)
  go_ret
  exact ⟨rfl, rfl⟩

theorem four_cells (X : Nat) (hX : X < 4294967296) : (four X).map u8v = [.int .u8 ((X : Int) % 256), .int .u8 ((X : Int) / 256 % 256), .int .u8 ((X : Int) / 65536 % 256), .int .u8 ((X : Int) / 16777216)] := by
  unfold four u8v
  simp only [List.map_cons, List.map_nil, UInt8.toNat_ofNat', List.cons.injEq, Value.int.injEq, true_and, and_true]
  omega

set_option maxHeartbeats 1000000 in
set_option maxRecDepth 100000 in
theorem seal_any (s : List UInt8) (w : World) (hs : s.length ≤ 140737488351232) :
    Calls Try.prog 46 #[.string (str s)] w fun e w' => e = .returned (.string (str (s ++ four (crcMore 0 s)))) ∧ Keeps [] w w' := by
  have hsum := sum_any [s] (.slice (some ⟨w.heap.size, 0, none⟩) 1 1) [w.heap.size] (w.alloc (.cells #[.string (str s)] 9)) (SlAt.lit w [strV s] _ 1 rfl) (fun t ht => by simp at ht; subst ht; omega) (by simp)
  rw [show [s].flatten = s by simp] at hsum
  have hX := crcMore_lt 0 s
  generalize crcMore 0 s = X at *
  have hW := heap_alloc_self (w.alloc (.cells #[.string (str s)] 9)) (.cells #[.int .u8 ((X : Int) % 256), .int .u8 ((X : Int) / 256 % 256), .int .u8 ((X : Int) / 65536 % 256), .int .u8 ((X : Int) / 16777216)] 5)
  rw [show (w.alloc (.cells #[.string (str s)] 9)).heap.size = w.heap.size + 1 by simp] at hW
  have hcv := own_string (P := Try.prog) (src := 41) (w := (w.alloc (.cells #[.string (str s)] 9)).alloc (.cells #[.int .u8 ((X : Int) % 256), .int .u8 ((X : Int) / 256 % 256), .int .u8 ((X : Int) / 65536 % 256), .int .u8 ((X : Int) / 16777216)] 5)) Try.underlying41 Try.underlying5 Try.underlying9 (v := .slice (some ⟨w.heap.size + 1, 0, none⟩) 4 4) (n := 4) (l := four X)
    ⟨by rw [four_cells X hX]; rfl, .inr ⟨w.heap.size + 1, 4, _, rfl, Nat.zero_le _, hW, Nat.le_refl _, by unfold maxLen; omega, rfl, by rw [four_cells X hX]; rfl⟩⟩
  have hcat : ¬ (9223372036854775807 < s.length + 4) := by omega
  have hf4 : (four X).length = 4 := rfl
  have Hsum := Lib.hid hsum
  clear hsum hW
  go_enter Try.func46, Try.ntmps46
  go_wp2_with (go_at_call 27; (with_reducible refine Hsum.out.mono ?_); rintro e w1 ⟨rfl, rfl⟩)
  go_ret
  exact ⟨rfl, ((Keeps.refl [] w).alloc _).alloc _⟩
end Go.Proofs.Ytjebldfmkpfafaa

/- Layer 10, plain: a record, what is wrong with it, its head; no program in sight. -/
namespace Go.Proofs.Ytjebldfmkpfafaa

abbrev Sp := Int × Int
def maySp (s : Sp) : Bool := decide (0 ≤ s.1) && decide (s.1 ≤ 65536) && decide (1 ≤ s.2) && decide (s.2 ≤ 65536 - s.1)
def totS : List Sp → Int
  | [] => 0
  | s :: r => s.2 + totS r

structure Rc where
  ep : Int
  nr : Int
  kd : Int
  sp : List Sp
  dt : List UInt8
  tx : List UInt8

namespace Rc
def spok (r : Rc) : Bool := decide (1 ≤ r.sp.length) && decide (r.sp.length ≤ 64) && decide (r.tx = []) && r.sp.all maySp
def written (r : Rc) : Int := if r.spok = false ∨ 512 < totS r.sp then 1 else if (r.dt.length : Int) ≠ totS r.sp * 64 then 30 else 0
def trimmed (r : Rc) : Int := if r.spok = false ∨ r.dt ≠ [] then 1 else 0
def noted (r : Rc) : Int := if 0 < r.sp.length ∨ r.dt ≠ [] ∨ 512 < r.tx.length then 1 else 0
def nums (r : Rc) : Prop := 0 ≤ r.ep ∧ r.ep < 4294967296 ∧ 0 ≤ r.nr ∧ r.nr < 1099511627776
instance (r : Rc) : Decidable r.nums := by unfold nums; infer_instance
def check (r : Rc) : Int :=
  if r.nums then (if r.kd = 1 then r.written else if r.kd = 2 then r.trimmed else if r.kd = 3 then r.noted else 14) else 31

/-- The spans, as they are written. -/
def spB (l : List Sp) : List UInt8 := l.flatMap fun s => vby s.1.toNat ++ vby s.2.toNat
def bodyB (r : Rc) (sum : Nat) : List UInt8 :=
  vby r.ep.toNat ++ vby r.nr.toNat ++ vby r.kd.toNat ++ (if r.kd = 3 then vby r.tx.length ++ r.tx else vby r.sp.length ++ spB r.sp) ++ (if r.kd = 1 then be sum 4 else [])
def secs (n : Nat) : Nat := (n + 71) / 64
def foreB (b : List UInt8) : List UInt8 := [76, 82] ++ be (secs b.length) 2 ++ b ++ List.replicate (secs b.length * 64 - 8 - b.length) 0
def headB (r : Rc) (sum : Nat) : List UInt8 := foreB (r.bodyB sum) ++ four (crcMore 0 (foreB (r.bodyB sum)))
def enc (r : Rc) : List UInt8 := r.headB (crcMore 0 r.dt) ++ r.dt
end Rc

theorem maySp_bd {s : Sp} (h : maySp s = true) : 0 ≤ s.1 ∧ s.1 ≤ 65536 ∧ 1 ≤ s.2 ∧ s.2 ≤ 65536 ∧ s.1 + s.2 ≤ 65536 := by
  unfold maySp at h
  simp only [Bool.and_eq_true, decide_eq_true_eq] at h
  omega
theorem totS_snoc : ∀ (l : List Sp) (s : Sp), totS (l ++ [s]) = totS l + s.2
  | [], s => by show s.2 + 0 = 0 + s.2; omega
  | x :: r, s => by
    show x.2 + totS (r ++ [s]) = x.2 + totS r + s.2
    rw [totS_snoc r s]; omega
theorem totS_bd : ∀ (l : List Sp), (∀ s, s ∈ l → 0 ≤ s.2 ∧ s.2 ≤ 65536) → 0 ≤ totS l ∧ totS l ≤ 65536 * l.length
  | [], _ => ⟨Int.le_refl _, by show (0 : Int) ≤ 65536 * ((0 : Nat) : Int); omega⟩
  | s :: r, h => by
    have h1 := h s (by simp)
    have h2 := totS_bd r (fun x hx => h x (List.mem_cons_of_mem _ hx))
    show 0 ≤ s.2 + totS r ∧ s.2 + totS r ≤ 65536 * ((r.length + 1 : Nat) : Int)
    omega
theorem Rc.spok_spec {r : Rc} (h : r.spok = true) : 1 ≤ r.sp.length ∧ r.sp.length ≤ 64 ∧ r.tx = [] ∧ ∀ s, s ∈ r.sp → maySp s = true := by
  unfold Rc.spok at h
  simp only [Bool.and_eq_true, decide_eq_true_eq, List.all_eq_true] at h
  exact ⟨h.1.1.1, h.1.1.2, h.1.2, h.2⟩
end Go.Proofs.Ytjebldfmkpfafaa

