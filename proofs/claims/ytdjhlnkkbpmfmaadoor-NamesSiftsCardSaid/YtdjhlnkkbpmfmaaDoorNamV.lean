/- Layer 6: append(s, x...), x a piece of a slice, or nil; NamesSifts, walked. -/
import Derived.Test.YtdjhlnkkbpmfmaaDoorNamU
import Derived.Laws.AppendOwnNone
namespace Go.Proofs.YtdjhlnkkbpmfmaaDoor
open Go.RowKit

def SlSrc (w : World) (x : Value) (news : List Value) : Prop := (x = .slice none 0 0 ∧ news = []) ∨ ∃ ad c, x = .slice (some ad) news.length c ∧ ∀ j u, news[j]? = some u → w.cell? (ad.add j) = some u

theorem wpList_appSl {P : Program} {t e : TypeId} {bytes : Nat} {z : Value} (T : SlTy P t e 1 bytes z) {ops : Array Oper} {rest : List Oper} {o : Oper} {a : Act} {Q : Exit → Act → World → Prop} {w : World} (hgd : o.guard = none) (s x : Operand)
    (ho : o.op = .call { callee := .builtin .append, args := #[s, x], argTypes := #[t, t] }) (v : Value) (n : Nat) (xs : List Value) (hs : a.eval s = v) (xv : Value) (hx : a.eval x = xv) (news : List Value) (hsrc : SlSrc w xv news)
    (hown : w.ownsRow 0 e 1 v n xs) (h1 : ∀ u ∈ news, u.oneCell' = true) (hlen : (n + news.length) * bytes ≤ 140737488355328) (h63 : n + news.length ≤ maxLen)
    (h : ∀ ad' cap w', w'.ownsRow 0 e 1 (.slice ad' (n + news.length) cap) (n + news.length) (xs ++ news) → Chg v.ownBlock.toList (Value.slice ad' (n + news.length) cap).ownBlock.toList w w' → wpList P ops Q rest (a.put o.dst (.slice ad' (n + news.length) cap)) w') :
    wpList P ops Q (o :: rest) a w := by
  rcases hsrc with ⟨rfl, rfl⟩ | ⟨ad, c, rfl, hc⟩
  · obtain ⟨ad', cap, rfl⟩ := ownsRow_shape hown
    obtain ⟨hu, ⟨i, hi, hz, hsz, hby⟩, hzs, hp⟩ := T
    exact wpList_append_own_none hgd s x t ho 0 e i 1 hu hi _ n xs hs hown hx (h ad' cap w (by simpa using hown) (Chg.refl _ _))
  · exact wpList_appN T hgd s x ho v n xs hs ad news.length c news hx (by simp) hc hown h1 hlen h63 h

theorem own_cells {w : World} {g m cap : Nat} {W : List Int} (h : w.ownsRow 0 3 1 (.slice (some ⟨g, 0, none⟩) m cap) m (W.map intV)) : W.length = m ∧ ∀ j x, W[j]? = some x → w.cell? ⟨g, j, none⟩ = some (.int .i64 x) := by
  obtain ⟨h1, h2, h3, h4⟩ := own_holds h
  refine ⟨h3, fun j x hj => ?_⟩
  have hjl := (List.getElem?_eq_some_iff.1 hj).1
  have := (h1 j (by simpa using hjl)).1
  rw [Nat.zero_add] at this
  rw [this]
  have e := (List.getElem?_eq_some_iff.1 hj).2
  simp [hjl, e]
theorem src_take {w : World} {g m cap p : Nat} {W : List Int} (h : w.ownsRow 0 3 1 (.slice (some ⟨g, 0, none⟩) m cap) m (W.map intV)) (hp : p ≤ m) (c : Nat) : SlSrc w (.slice (some ⟨g, 0, none⟩) p c) ((W.take p).map intV) := by
  obtain ⟨hl, hc⟩ := own_cells h
  refine .inr ⟨⟨g, 0, none⟩, c, by rw [List.length_map, List.length_take, Nat.min_eq_left (by omega)], fun j u hj => ?_⟩
  rw [List.getElem?_map] at hj
  obtain ⟨x, hx, rfl⟩ := Option.map_eq_some_iff.1 hj
  have hjp : j < p := by
    have := (List.getElem?_eq_some_iff.1 hx).1
    rw [List.length_take] at this
    omega
  rw [List.getElem?_take_of_lt hjp] at hx
  have e : ((⟨g, 0, none⟩ : Addr).add j) = ⟨g, j, none⟩ := by unfold Addr.add; split <;> simp_all
  rw [e]
  exact hc j x hx
theorem src_drop {w : World} {g m cap p : Nat} {W : List Int} (h : w.ownsRow 0 3 1 (.slice (some ⟨g, 0, none⟩) m cap) m (W.map intV)) (_hp : p ≤ m) (c : Nat) : SlSrc w (.slice (some ⟨g, p, none⟩) (m - p) c) ((W.drop p).map intV) := by
  obtain ⟨hl, hc⟩ := own_cells h
  refine .inr ⟨⟨g, p, none⟩, c, by rw [List.length_map, List.length_drop, hl], fun j u hj => ?_⟩
  rw [List.getElem?_map] at hj
  obtain ⟨x, hx, rfl⟩ := Option.map_eq_some_iff.1 hj
  rw [List.getElem?_drop] at hx
  have e : ((⟨g, p, none⟩ : Addr).add j) = ⟨g, p + j, none⟩ := by unfold Addr.add; split <;> simp_all
  rw [e]
  exact hc (p + j) x hx
theorem one_cell_ints (L : List Int) : ∀ u ∈ L.map intV, u.oneCell' = true := by
  intro u hu
  obtain ⟨x, _, rfl⟩ := List.mem_map.1 hu
  rfl
end Go.Proofs.YtdjhlnkkbpmfmaaDoor
namespace Go.Proofs.YtdjhlnkkbpmfmaaDoor.lawNamesSifts
open Go.RowKit

set_option maxHeartbeats 4000000 in
set_option maxRecDepth 100000 in
theorem walk_big (ad : Option Addr) (n cap : Nat) (s : ByteArray) (k : Int) (h : 40 < n ∨ 100 < s.size) (W : World) (hT : TabC W) : Calls Tryd.prog 8 #[.slice ad n cap, .string s, .int .i64 k] W fun e w' => e = .returned (.bool true) ∧ Keeps [] W w' := by
  have Aw := Lib.hid (awake_any W hT)
  clear hT
  by_cases h1 : 40 < n
  · have hi : (40 : Int) < (n : Int) := by omega
    clear h h1
    go_enter Tryd.func8, Tryd.ntmps8
    go_wp2_with (go_at_call 10; (with_reducible refine Aw.out.mono ?_); rintro e w1 ⟨rfl, k1⟩)
    go_ret
    exact ⟨rfl, k1⟩
  · have hi : ¬ (40 : Int) < (n : Int) := by omega
    have hj : (100 : Int) < (s.size : Int) := by omega
    clear h h1
    go_enter Tryd.func8, Tryd.ntmps8
    go_wp2_with (go_at_call 10; (with_reducible refine Aw.out.mono ?_); rintro e w1 ⟨rfl, k1⟩)
    go_ret
    exact ⟨rfl, k1⟩

/-- What is gathered so far. -/
structure Got (l : List ByteArray) (u : List UInt8) (k : Int) (i : Nat) (V : List Int) : Prop where
  rises : Rises V
  mem : ∀ x, x ∈ V ↔ x ∈ selL (l.take i) u k
  small : ∀ s, s ∈ l.take i → s.size ≤ 100
theorem Got.start (l : List ByteArray) (u : List UInt8) (k : Int) : Got l u k 0 [] := ⟨by simp [Rises], by simp [selL], by simp⟩
theorem Got.le {l : List ByteArray} {u : List UInt8} {k : Int} {i : Nat} {V : List Int} (h : Got l u k i V) : V.length ≤ i := by
  have hn : V.Nodup := h.rises.imp (fun h => by omega)
  have h1 : V.length ≤ (selL (l.take i) u k).length := by
    have key : ∀ (xs ys : List Int), xs.Nodup → (∀ x, x ∈ xs → x ∈ ys) → xs.length ≤ ys.length := by
      intro xs
      induction xs with
      | nil => intro ys _ _; exact Nat.zero_le _
      | cons x xs ih =>
        intro ys hn hs
        have hx := hs x (by simp)
        have h2 := ih (ys.erase x) (List.nodup_cons.1 hn).2 (fun y hy => by
          rw [List.mem_erase_of_ne (fun e => (List.nodup_cons.1 hn).1 (by rw [← e]; exact hy))]
          exact hs y (by simp [hy]))
        have h3 := List.length_erase_of_mem hx
        have h4 : 0 < ys.length := List.length_pos_of_mem hx
        simp only [List.length_cons]
        omega
    exact key V _ hn (fun x hx => (h.mem x).1 hx)
  have h2 := selL_le (l.take i) u k
  rw [List.length_take] at h2
  omega
theorem Got.skip {l : List ByteArray} {u : List UInt8} {k : Int} {i : Nat} {V : List Int} {s : ByteArray} (h : Got l u k i V) (hs : l[i]? = some s) (hz : s.size ≤ 100) (hn : ofI s.data.toList u k < 0 ∨ ofI s.data.toList u k ∈ V) : Got l u k (i + 1) V := by
  have hst : l.take (i + 1) = l.take i ++ [s] := by rw [List.take_add_one, hs]; rfl
  refine ⟨h.rises, fun x => ?_, fun t ht => ?_⟩
  · rw [hst, selL_snoc, List.mem_append, ← h.mem]
    split
    · rename_i h0
      rw [List.mem_singleton]
      constructor
      · exact .inl
      · rintro (h1 | h1)
        · exact h1
        · rw [h1]; exact hn.resolve_left (by omega)
    · simp
  · rw [hst, List.mem_append, List.mem_singleton] at ht
    rcases ht with ht | rfl
    · exact h.small t ht
    · exact hz
theorem Got.put {l : List ByteArray} {u : List UInt8} {k : Int} {i p : Nat} {V : List Int} {s : ByteArray} (h : Got l u k i V) (hs : l[i]? = some s) (hz : s.size ≤ 100) (hn : 0 ≤ ofI s.data.toList u k)
    (h1 : ∀ x, x ∈ V.take p → x < ofI s.data.toList u k) (h2 : ∀ x, V[p]? = some x → ofI s.data.toList u k < x) : Got l u k (i + 1) (insertR V (ofI s.data.toList u k) p) := by
  have hst : l.take (i + 1) = l.take i ++ [s] := by rw [List.take_add_one, hs]; rfl
  obtain ⟨r1, r2⟩ := insert_rises h.rises h1 (rises_drop h.rises h2)
  refine ⟨r1, fun x => ?_, fun t ht => ?_⟩
  · rw [hst, selL_snoc, List.mem_append, ← h.mem, r2, if_pos hn, List.mem_singleton, or_comm]
  · rw [hst, List.mem_append, List.mem_singleton] at ht
    rcases ht with ht | rfl
    · exact h.small t ht
    · exact hz
theorem insertR_length (V : List Int) (n : Int) (p : Nat) : (insertR V n p).length = V.length + 1 := by
  unfold insertR
  simp only [List.length_append, List.length_take, List.length_drop, List.length_singleton]
  omega
end Go.Proofs.YtdjhlnkkbpmfmaaDoor.lawNamesSifts
