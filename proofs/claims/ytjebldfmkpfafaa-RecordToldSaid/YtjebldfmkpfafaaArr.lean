/- Rows of arrays: elements of c cells each in a block that is owned; an element is read and written whole. -/
import Derived.Test.YtjebldfmkpfafaaBase
import Derived.Deep.MidRow
namespace Go.Proofs.Ytjebldfmkpfafaa
open Go.RowKit
set_option maxRecDepth 100000

/-- Cells in an array, one behind the other. -/
def put (cs : Array Value) (o : Nat) : List Value → Array Value
  | [] => cs
  | v :: r => put (cs.setIfInBounds o v) (o + 1) r

theorem put_toList : ∀ (vs : List Value) (cs : Array Value) (o : Nat), o + vs.length ≤ cs.size → (put cs o vs).toList = cs.toList.take o ++ vs ++ cs.toList.drop (o + vs.length)
  | [], cs, o, _ => by simp [put]
  | v :: r, cs, o, h => by
    have hl : cs.toList.length = cs.size := Array.length_toList
    simp only [List.length_cons] at h
    rw [put, put_toList r _ _ (by simp; omega)]
    simp only [Array.toList_setIfInBounds, List.length_cons]
    rw [List.set_eq_take_append_cons_drop, if_pos (by omega)]
    have h1 : (cs.toList.take o ++ v :: cs.toList.drop (o + 1)).take (o + 1) = cs.toList.take o ++ [v] := by
      rw [List.take_append, List.take_of_length_le (by simp; omega), List.length_take, Nat.min_eq_left (by omega)]
      simp
    have h2 : (cs.toList.take o ++ v :: cs.toList.drop (o + 1)).drop (o + 1 + r.length) = cs.toList.drop (o + (r.length + 1)) := by
      rw [List.drop_append, List.drop_of_length_le (by simp; omega), List.length_take, Nat.min_eq_left (by omega), show o + 1 + r.length - o = r.length + 1 by omega, List.drop_succ_cons, List.drop_drop, List.nil_append]
      congr 1
      omega
    rw [h1, h2]
    simp

theorem heap_setCells {t : TypeId} {z : Nat × Nat} {b : Nat} : ∀ (vs : List Value) (o : Nat) (w : World) (cs : Array Value), w.heap[b]? = some (.cells cs t z) → (w.setCells b o vs).heap[b]? = some (.cells (put cs o vs) t z)
  | [], _, _, _, h => h
  | v :: r, o, _, _, h => heap_setCells r (o + 1) _ _ (heap_setCell h o v)

theorem keeps_setCells {b : Nat} : ∀ (vs : List Value) (o : Nat) (w : World), Keeps [b] w (w.setCells b o vs)
  | [], _, w => Keeps.refl _ w
  | v :: r, o, w => ((Keeps.refl [b] w).setCell (p := ⟨b, o, none⟩) (by simp) v).trans (keeps_setCells r (o + 1) _) (fun _ h => .inl h)

theorem put_size : ∀ (vs : List Value) (cs : Array Value) (o : Nat), (put cs o vs).size = cs.size
  | [], _, _ => rfl
  | v :: r, cs, o => by rw [put, put_size r]; simp

theorem flat_len {α β : Type} {f : α → List β} {c : Nat} : ∀ (xs : List α), (∀ x, x ∈ xs → (f x).length = c) → (xs.flatMap f).length = xs.length * c
  | [], _ => by simp
  | x :: xs, h => by
    rw [List.flatMap_cons, List.length_append, flat_len xs (fun y hy => h y (by simp [hy])), h x (by simp), List.length_cons, Nat.succ_mul]; omega

theorem flat_parts {α β : Type} {f : α → List β} {c : Nat} {xs : List α} (h : ∀ x, x ∈ xs → (f x).length = c) {i : Nat} {x : α} (hi : xs[i]? = some x) :
    xs.flatMap f = (xs.take i).flatMap f ++ f x ++ (xs.drop (i + 1)).flatMap f ∧ ((xs.take i).flatMap f).length = i * c := by
  obtain ⟨hlt, rfl⟩ := List.getElem?_eq_some_iff.1 hi
  refine ⟨?_, ?_⟩
  · have e : xs = xs.take i ++ xs[i] :: xs.drop (i + 1) := by rw [← List.drop_eq_getElem_cons hlt, List.take_append_drop]
    conv => lhs; rw [e]
    rw [List.flatMap_append, List.flatMap_cons, List.append_assoc]
  · rw [flat_len _ (fun y hy => h y (List.mem_of_mem_take hy)), List.length_take, Nat.min_eq_left (by omega)]

/-- The element i of a row of arrays: its cells, and what becomes of the row when it is written. -/
theorem own_elem {α : Type} {w : World} {e : TypeId} {c n : Nat} {v : Value} {f : α → List Value} {xs : List α} (hown : w.ownsRow 0 e c v n (xs.flatMap f)) (hc : ∀ x, x ∈ xs → (f x).length = c) (hn : xs.length = n) {i : Nat} {x : α} (hi : xs[i]? = some x) :
    ∃ g cap, v = .slice (some ⟨g, 0, none⟩) n cap ∧ w.rangeAt g (i * c) (f x) ∧ w.there g (i * c) c ∧
      ∀ y, (f y).length = c → (w.setCells g (i * c) (f y)).ownsRow 0 e c v n ((xs.set i y).flatMap f) := by
  obtain ⟨hlt, _⟩ := List.getElem?_eq_some_iff.1 hi
  obtain ⟨hp, hpl⟩ := flat_parts hc hi
  have hx := hc x (List.mem_of_getElem? hi)
  have hic : (i + 1) * c ≤ n * c := Nat.mul_le_mul_right c (by omega)
  rw [Nat.succ_mul] at hic
  rcases hown.2 with ⟨_, h0⟩ | ⟨g, cap, cur, rfl, hb, hg, h1, h2, h3, h4⟩
  · omega
  have hcur : n * c ≤ cur.size := by rw [h3]; exact Nat.mul_le_mul_right c h1
  refine ⟨g, cap, rfl, ?_, ?_, ?_⟩
  · intro j u hj
    have hjl : j < c := by rw [← hx]; exact (List.getElem?_eq_some_iff.1 hj).1
    rw [cell_of_heap hg, ← Array.getElem?_toList]
    have h5 : (cur.toList.take (n * c))[i * c + j]? = some u := by
      rw [h4, hp, List.append_assoc, List.getElem?_append_right (by omega), hpl, Nat.add_sub_cancel_left, List.getElem?_append_left (by omega), hj]
    rwa [List.getElem?_take_of_lt (by omega)] at h5
  · intro j hj
    rw [cell_of_heap hg, free_of_heap hg]
    exact ⟨by rw [Array.getElem?_eq_getElem (by omega)]; rfl, rfl⟩
  · intro y hy
    refine ⟨?_, .inr ⟨g, cap, put cur (i * c) (f y), rfl, hb, heap_setCells _ _ _ _ hg, h1, h2, by rw [put_size, h3], ?_⟩⟩
    · rw [flat_len (c := c) _ (fun z hz => ?_), List.length_set, hn]
      rcases List.mem_or_eq_of_mem_set hz with h | rfl
      · exact hc z h
      · exact hy
    · rw [put_toList _ _ _ (by rw [hy]; omega), List.set_eq_take_append_cons_drop, if_pos hlt]
      have hfl : (f x).length = c := hx
      have ht1 : cur.toList.take (i * c) = (xs.take i).flatMap f := by
        have e1 : (xs.flatMap f).take (i * c) = (xs.take i).flatMap f := by
          rw [hp, List.append_assoc, List.take_append_of_le_length (by omega), List.take_of_length_le (by omega)]
        rw [← e1, ← h4, List.take_take, Nat.min_eq_left (by omega)]
      have ht2 : (cur.toList.drop (i * c + c)).take (n * c - (i * c + c)) = (xs.drop (i + 1)).flatMap f := by
        have e1 : (xs.flatMap f).drop (i * c + c) = (xs.drop (i + 1)).flatMap f := by
          rw [hp, List.drop_left' (by rw [List.length_append]; omega)]
        rw [← e1, ← h4, List.drop_take]
      rw [hy, ht1, List.take_append, List.take_of_length_le (by rw [List.length_append, hpl, hy]; omega), List.length_append, hpl, hy, ht2]
      simp
end Go.Proofs.Ytjebldfmkpfafaa
