/- SuperRow's short ways, and the loop's state. -/
import Derived.Test.YtcbpkplmaglpcaaSupW
import Derived.Test.YtcbpkplmaglpcaaSupRowP
import Derived.Test.YtcbpkplmaglpcaaOpenP
namespace Go.Proofs.Ytcbpkplmaglpcaa.lawSuperRow
open Go.ChangeShapes Go.WideShapes Go.ChangeAt Go.RowKit
open Go.ChangeMaps (open_string shut_string)

set_option maxRecDepth 100000 in
theorem walk_bad (s : Sup) (hg : s.good) (hc : s.check ≠ 0) (v : Value) (W : World) : Calls Try.prog 8 #[s.agg, v] W fun e w' => e = .returned (.bool true) ∧ Keeps [] W w' := by
  have C2 := Lib.hid (fun w => refCheck_any s hg w)
  have Pl := Lib.hid (fun w => plain_any s w)
  have hb : (s.check != 0) = true := by rw [bne_iff_ne]; exact hc
  clear hc hg
  generalize s.check = c at *
  obtain ⟨key, epoch, serial, size, tail, number⟩ := s
  unfold Sup.agg at *
  dsimp only at *
  go_enter Try.func8, Try.ntmps8
  go_wp2_with (first
    | (go_at_call 12; (with_reducible refine (Pl.out _).mono ?_); rintro e w1 ⟨rfl, k1⟩)
    | (go_at_call 16; (with_reducible refine (C2.out _).mono ?_); rintro e w2 ⟨rfl, k2⟩)
    | (go_at_call 9; (with_reducible refine (awake_any _).mono ?_); rintro e w5 ⟨rfl, k5⟩))
  go_ret
  exact ⟨rfl, KT ((Keeps.refl [] W).alloc _) (KT k1 (KT k2 k5))⟩

set_option maxRecDepth 100000 in
theorem walk_long (s : Sup) (hg : s.good) (hc : s.check = 0) (ad : Option Addr) (n cap : Nat) (hn : 20 < n) (W : World) : Calls Try.prog 8 #[s.agg, .slice ad n cap] W fun e w' => e = .returned (.bool true) ∧ Keeps [] W w' := by
  have C2 := Lib.hid (fun w => refCheck_any s hg w)
  have Pl := Lib.hid (fun w => plain_any s w)
  rw [hc] at C2
  have hi : (20 : Int) < (n : Int) := by omega
  clear hc hg hn
  obtain ⟨key, epoch, serial, size, tail, number⟩ := s
  unfold Sup.agg at *
  dsimp only at *
  go_enter Try.func8, Try.ntmps8
  go_wp2_with (first
    | (go_at_call 12; (with_reducible refine (Pl.out _).mono ?_); rintro e w1 ⟨rfl, k1⟩)
    | (go_at_call 16; (with_reducible refine (C2.out _).mono ?_); rintro e w2 ⟨rfl, k2⟩)
    | (go_at_call 9; (with_reducible refine (awake_any _).mono ?_); rintro e w5 ⟨rfl, k5⟩))
  go_ret
  exact ⟨rfl, KT ((Keeps.refl [] W).alloc _) (KT k1 (KT k2 k5))⟩

/-- Ahead of a round: s, and the two slots at block b. -/
structure RowSt (W wr : World) (b : Nat) (s : Sup) (A B : List UInt8) : Prop where
  sup : wr.heap[W.heap.size]? = some (.cells #[.int .u64 s.key, .int .i64 s.epoch, .int .i64 s.serial, .int .i64 s.size, .int .i64 s.tail, .int .i64 s.number] 25 (0, 0))
  slots : wr.heap[b]? = some (.cells #[.string (str A), .string (str B)] 9 (0, 0))
  lo : W.heap.size < b
  keeps : Keeps [] W wr
theorem RowSt.kept {W wr w' : World} {b : Nat} {s : Sup} {A B : List UInt8} (h : RowSt W wr b s A B) (k : Keeps [] wr w') : RowSt W w' b s A B := ⟨k.some h.sup (by simp), k.some h.slots (by simp), h.lo, KT h.keeps k⟩
theorem RowSt.set0 {W wr : World} {b : Nat} {s : Sup} {A B : List UInt8} (h : RowSt W wr b s A B) (T : List UInt8) : RowSt W (wr.setCell ⟨b, 0, none⟩ (.string (str T))) b s T B := by
  have := h.lo
  exact ⟨heap_ne h.sup (by omega), heap_setCell h.slots 0 _, h.lo, h.keeps.setK _ _ _ (by omega)⟩
theorem RowSt.set1 {W wr : World} {b : Nat} {s : Sup} {A B : List UInt8} (h : RowSt W wr b s A B) (T : List UInt8) : RowSt W (wr.setCell ⟨b, 1, none⟩ (.string (str T))) b s A T := by
  have := h.lo
  exact ⟨heap_ne h.sup (by omega), heap_setCell h.slots 1 _, h.lo, h.keeps.setK _ _ _ (by omega)⟩
theorem RowSt.setS {W wr : World} {b : Nat} {s : Sup} {A B : List UInt8} (h : RowSt W wr b s A B) (x : Sup) : RowSt W ((((((wr.setCell ⟨W.heap.size, 0, none⟩ (.int .u64 x.key)).setCell ⟨W.heap.size, 1, none⟩ (.int .i64 x.epoch)).setCell ⟨W.heap.size, 2, none⟩ (.int .i64 x.serial)).setCell ⟨W.heap.size, 3, none⟩ (.int .i64 x.size)).setCell ⟨W.heap.size, 4, none⟩ (.int .i64 x.tail)).setCell ⟨W.heap.size, 5, none⟩ (.int .i64 x.number)) b x A B := by
  have := h.lo
  exact ⟨heap_set6 h.sup _ _ _ _ _ _, heap_ne (heap_ne (heap_ne (heap_ne (heap_ne (heap_ne h.slots (by omega)) (by omega)) (by omega)) (by omega)) (by omega)) (by omega), h.lo, keeps_set6 h.keeps (by omega) _ _ _ _ _ _⟩

theorem RowSt.cellQ {W wr : World} {b : Nat} {s : Sup} {A B : List UInt8} (h : RowSt W wr b s A B) (q : Nat) (hq : q < 2) : wr.cell? ⟨b, q, none⟩ = some (.string (str (if q = 0 then A else B))) ∧ wr.frozen? ⟨b, q, none⟩ = false := by
  rcases (show q = 0 ∨ q = 1 by omega) with rfl | rfl
  · exact ⟨cell_of_heap h.slots 0, free_of_heap h.slots 0⟩
  · exact ⟨cell_of_heap h.slots 1, free_of_heap h.slots 1⟩
theorem RowSt.setQ {W wr : World} {b : Nat} {s : Sup} {A B : List UInt8} (h : RowSt W wr b s A B) (q : Nat) (hq : q < 2) (T : List UInt8) : RowSt W (wr.setCell ⟨b, q, none⟩ (.string (str T))) b s (if q = 0 then T else A) (if q = 0 then B else T) := by
  rcases (show q = 0 ∨ q = 1 by omega) with rfl | rfl
  · exact h.set0 T
  · exact h.set1 T
theorem two_new_str {w : World} {q : Nat} (hq : q < 2) {k : Nat} (hk : k = w.heap.size) : (w.alloc (.cells #[.string (str []), .string (str [])] 9)).cell? ⟨k, q, none⟩ = some (.string (str [])) ∧ (w.alloc (.cells #[.string (str []), .string (str [])] 9)).frozen? ⟨k, q, none⟩ = false := by
  rcases (show q = 0 ∨ q = 1 by omega) with rfl | rfl
  · exact ⟨cell_of_heap (heap_at hk) 0, free_of_heap (heap_at hk) 0⟩
  · exact ⟨cell_of_heap (heap_at hk) 1, free_of_heap (heap_at hk) 1⟩

theorem still_go {K Q' : Act → Prop} (hK : ∀ a, Q' a → K a) {a : Act} (h : Q' a) : K a := hK a h

theorem still_skip {P : Program} {ops : Array Oper} {w : World} {Q : Act → Prop} {a : Act} {o : Oper} {rest : List Oper} (hw : Region.wanted o (yielded ops a.tmps) = false) (h : wpStill P ops w Q rest (a.put o.dst undef)) : wpStill P ops w Q (o :: rest) a :=
  wpStill_step (fun K hK => by rw [if_neg (by rw [hw]; decide)]; exact hK _ h)

def LoopR (W wr : World) (b n : Nat) (iv : Value) : Prop :=
  ∃ (k : Nat) (s : Sup) (A B : List UInt8), k ≤ n ∧ iv = .int .i64 k ∧ s.good ∧ s.check = 0 ∧ SlotsOk s A B ∧ RowSt W wr b s A B

end Go.Proofs.Ytcbpkplmaglpcaa.lawSuperRow
