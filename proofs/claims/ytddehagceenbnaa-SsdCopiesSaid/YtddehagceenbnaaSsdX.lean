/- Layer 4, plain: what is written in parts. -/
import Derived.Test.YtddehagceenbnaaSsdP
namespace Go.Proofs.Ytddehagceenbnaa

theorem Dev.putN_now (d : Dev) (a : Nat) (l : List UInt8) : ∀ k i, a + k ≤ d.now.length → (d.putN a l k).now[i]? = if a ≤ i ∧ i < a + k then some (chunk l (i - a)) else d.now[i]?
  | 0, i, _ => by rw [if_neg (by omega)]; rfl
  | k + 1, i, h => by
    show ((d.putN a l k).now.set (a + k) (chunk l k))[i]? = _
    rw [List.getElem?_set]
    by_cases h1 : a + k = i
    · subst h1
      rw [if_pos rfl, if_pos (by rw [(d.putN_len a l k).1]; omega), if_pos ⟨by omega, by omega⟩, Nat.add_sub_cancel_left]
    · rw [if_neg h1, Dev.putN_now d a l k i (by omega)]
      by_cases h2 : a ≤ i ∧ i < a + k
      · rw [if_pos h2, if_pos ⟨h2.1, by omega⟩]
      · rw [if_neg h2, if_neg (by omega)]

theorem chunk_take {l : List UInt8} {c k : Nat} (h : k < c) : chunk (l.take (64 * c)) k = chunk l k := by
  unfold chunk
  rw [List.drop_take, List.take_take, Nat.min_eq_left (by omega)]
theorem chunk_drop (l : List UInt8) (c k : Nat) : chunk (l.drop (64 * c)) k = chunk l (c + k) := by
  unfold chunk
  rw [List.drop_drop]
  congr 2
  omega

theorem chunks_flat : ∀ (n : Nat) (l : List UInt8), l.length = 64 * n → ((List.range n).map (chunk l)).flatten = l
  | 0, l, h => by have : l = [] := List.eq_nil_of_length_eq_zero (by omega); subst this; rfl
  | n + 1, l, h => by
    have e1 := chunks_flat n (l.take (64 * n)) (by rw [List.length_take]; omega)
    rw [List.range_succ, List.map_append, List.flatten_append, List.map_singleton, List.flatten_singleton]
    have e2 : (List.range n).map (chunk l) = (List.range n).map (chunk (l.take (64 * n))) := by
      apply List.map_congr_left
      intro k hk
      rw [chunk_take (List.mem_range.1 hk)]
    rw [e2, e1]
    unfold chunk
    rw [List.take_of_length_le (l := l.drop (64 * n)) (by rw [List.length_drop]; omega), List.take_append_drop]

/-- Of a device that is not dead, writes that fit are done. -/
theorem Dev.write_fit {d : Dev} {a n : Nat} {l : List UInt8} (hd : d.dead = false) (hl : l.length = 64 * n) (hf : a + n ≤ d.now.length) : d.write a l = (d.tick.putN a l n, 0) := by
  unfold Dev.write
  have e : l.length / 64 = n := by omega
  have hin : insideE d.now.length (a : Int) (n : Int) = 0 := by
    unfold insideE
    rw [if_neg (by omega), if_neg (by omega)]
  rw [hd, e, hin]
  simp only [Bool.false_eq_true, if_false]
  rw [if_neg (by omega), if_neg (by omega), if_neg (by simp), Int.toNat_natCast]

theorem Dev.read_fit {d : Dev} {a n : Nat} (hl : d.lost = false) (hf : a + n ≤ d.now.length) : d.read a n = (((d.now.drop a).take n).flatten, 0) := by
  unfold Dev.read
  have hin : insideE d.now.length (a : Int) (n : Int) = 0 := by
    unfold insideE
    rw [if_neg (by omega), if_neg (by omega)]
  rw [hl, hin]
  simp

theorem flat_len64 : ∀ (l : List (List UInt8)), (∀ s, s ∈ l → s.length = 64) → l.flatten.length = 64 * l.length
  | [], _ => rfl
  | s :: r, h => by rw [List.flatten_cons, List.length_append, h s (by simp), flat_len64 r (fun x hx => h x (by simp [hx])), List.length_cons]; omega

theorem flat_drop : ∀ (k : Nat) (l : List (List UInt8)), (∀ s, s ∈ l → s.length = 64) → l.flatten.drop (64 * k) = (l.drop k).flatten
  | 0, l, _ => by simp
  | k + 1, [], _ => by simp
  | k + 1, s :: r, h => by
    rw [List.flatten_cons, List.drop_append, List.drop_of_length_le (by rw [h s (by simp)]; omega), List.nil_append, h s (by simp), show 64 * (k + 1) - 64 = 64 * k by omega, flat_drop k r (fun x hx => h x (by simp [hx])), List.drop_succ_cons]
theorem flat_take : ∀ (k : Nat) (l : List (List UInt8)), (∀ s, s ∈ l → s.length = 64) → l.flatten.take (64 * k) = (l.take k).flatten
  | 0, l, _ => by simp
  | k + 1, [], _ => by simp
  | k + 1, s :: r, h => by
    rw [List.flatten_cons, List.take_append, List.take_of_length_le (by rw [h s (by simp)]; omega), h s (by simp), show 64 * (k + 1) - 64 = 64 * k by omega, flat_take k r (fun x hx => h x (by simp [hx])), List.take_succ_cons, List.flatten_cons]

/-- What is written at once, and in two parts. -/
theorem Dev.putN_parts (d : Dev) (a : Nat) (l : List UInt8) (c m : Nat) (h : a + (c + m) ≤ d.now.length) :
    ((d.putN a (l.take (64 * c)) c).putN (a + c) (l.drop (64 * c)) m).now = (d.putN a l (c + m)).now := by
  apply List.ext_getElem?
  intro i
  rw [Dev.putN_now _ _ _ _ _ (by rw [(d.putN_len a _ c).1]; omega), Dev.putN_now _ _ _ _ _ (by omega), Dev.putN_now _ _ _ _ _ h]
  by_cases h1 : a + c ≤ i ∧ i < a + c + m
  · rw [if_pos h1, if_pos ⟨by omega, by omega⟩, chunk_drop]
    congr 2
    omega
  · rw [if_neg h1]
    by_cases h2 : a ≤ i ∧ i < a + c
    · rw [if_pos h2, if_pos ⟨h2.1, by omega⟩, chunk_take (by omega)]
    · rw [if_neg h2, if_neg (by omega)]

theorem Dev.putN_window (d : Dev) (a : Nat) (l : List UInt8) (n : Nat) (h : a + n ≤ d.now.length) (hl : l.length = 64 * n) : (((d.putN a l n).now.drop a).take n).flatten = l := by
  have e : ((d.putN a l n).now.drop a).take n = (List.range n).map (chunk l) := by
    apply List.ext_getElem?
    intro i
    rw [List.getElem?_take, List.getElem?_drop, Dev.putN_now _ _ _ _ _ h, List.getElem?_map]
    split
    · rw [if_pos ⟨by omega, by omega⟩, List.getElem?_range (by omega), Nat.add_sub_cancel_left]
      rfl
    · rw [List.getElem?_eq_none (by rw [List.length_range]; omega)]
      rfl
  rw [e, chunks_flat n l hl]

/-- The plain law of SsdParts. -/
theorem parts_plain (l : List UInt8) (a c n : Nat) (hl : l.length = 64 * n) (hn : n ≤ 10) (ha : a ≤ 10) (hc : c ≤ n) :
    ∃ (A B1 B2 : Dev) (X : List UInt8), (Dev.new 20).write a l = (A, 0) ∧ (Dev.new 20).write a (l.take (64 * c)) = (B1, 0) ∧ B1.write ((a + c : Nat) : Int) (l.drop (64 * c)) = (B2, 0) ∧
      A.read 0 20 = (X, 0) ∧ B2.read 0 20 = (X, 0) ∧ A.read 0 ((a + c : Nat) : Int) = (X.take (64 * (a + c)), 0) ∧ A.read ((a + c : Nat) : Int) ((20 - a - c : Nat) : Int) = (X.drop (64 * (a + c)), 0) ∧
      X.length = 1280 ∧ (X.drop (64 * a)).take (64 * n) = l ∧ A.pend.length = n ∧ B2.pend.length = n := by
  have h0 : (Dev.new 20).dead = false := rfl
  have hN : (Dev.new 20).now.length = 20 := rfl
  have ht : (Dev.new 20).tick = Dev.new 20 := rfl
  have hlt : (l.take (64 * c)).length = 64 * c := by rw [List.length_take]; omega
  have hld : (l.drop (64 * c)).length = 64 * (n - c) := by rw [List.length_drop]; omega
  have w1 := Dev.write_fit (a := a) h0 hl (by omega)
  have w2 := Dev.write_fit (a := a) h0 hlt (by omega)
  rw [ht] at w1 w2
  obtain ⟨p1, p2, p3, p4, p5, p6⟩ := (Dev.new 20).putN_len a l n
  obtain ⟨q1, q2, q3, q4, q5, q6⟩ := (Dev.new 20).putN_len a (l.take (64 * c)) c
  have hdB : ((Dev.new 20).putN a (l.take (64 * c)) c).dead = false := by unfold Dev.dead; rw [q4, q5]; rfl
  have htB : ((Dev.new 20).putN a (l.take (64 * c)) c).tick = (Dev.new 20).putN a (l.take (64 * c)) c := by unfold Dev.tick; rw [q5]; rfl
  have w3 := Dev.write_fit (d := (Dev.new 20).putN a (l.take (64 * c)) c) (a := a + c) hdB hld (by rw [q1]; omega)
  rw [htB] at w3
  obtain ⟨r1, r2, r3, r4, r5, r6⟩ := ((Dev.new 20).putN a (l.take (64 * c)) c).putN_len (a + c) (l.drop (64 * c)) (n - c)
  have hnow := Dev.putN_parts (Dev.new 20) a l c (n - c) (by omega)
  rw [show c + (n - c) = n by omega] at hnow
  have hok := Dev.ok.putN (Dev.new_ok (n := 20) (by omega) (by omega)) (a := a) (l := l) n (by omega) (by omega)
  have h64 := hok.n64
  generalize hA : (Dev.new 20).putN a l n = A at *
  have hlA : A.now.length = 20 := by rw [p1]; rfl
  have hX : (A.now.drop 0).take 20 = A.now := by rw [List.drop_zero, List.take_of_length_le (by omega)]
  refine ⟨A, _, _, A.now.flatten, w1, w2, w3, ?_, ?_, ?_, ?_, ?_, ?_, ?_, ?_⟩
  · have := Dev.read_fit (d := A) (a := 0) (n := 20) (by rw [p4]; rfl) (by omega)
    rw [hX] at this
    exact this
  · have := Dev.read_fit (d := ((Dev.new 20).putN a (l.take (64 * c)) c).putN (a + c) (l.drop (64 * c)) (n - c)) (a := 0) (n := 20) (by rw [r4, q4]; rfl) (by rw [r1, q1]; omega)
    rw [hnow, hX] at this
    exact this
  · have := Dev.read_fit (d := A) (a := 0) (n := a + c) (by rw [p4]; rfl) (by omega)
    rw [List.drop_zero] at this
    rw [flat_take _ _ h64]
    exact this
  · rw [Dev.read_fit (d := A) (a := a + c) (n := 20 - a - c) (by rw [p4]; rfl) (by omega), flat_drop _ _ h64, List.take_of_length_le (by rw [List.length_drop]; omega)]
  · rw [flat_len64 _ h64, hlA]
  · rw [flat_drop _ _ h64, flat_take _ _ (fun s hs => h64 s (List.mem_of_mem_drop hs)), ← hA]
    exact Dev.putN_window _ _ _ _ (by omega) hl
  · rw [p3]; simp [Dev.new]
  · rw [r3, q3]; simp [Dev.new]; omega
end Go.Proofs.Ytddehagceenbnaa
