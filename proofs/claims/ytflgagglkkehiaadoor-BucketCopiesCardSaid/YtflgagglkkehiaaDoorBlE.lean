/- Layer 5: two buckets, one of the document's, and a row of answers. -/
import Derived.Test.YtflgagglkkehiaaDoorBlD
namespace Go.Proofs.YtflgagglkkehiaaDoor
open Go.RowKit Go.Maps

theorem tyGots : SlTy Tryd.prog 63 45 4 56 (.agg #[.string ⟨#[]⟩, .int .i64 0, .slice none 0 0, .int .i64 0]) := SlTy.mk' Tryd.underlying63 (by kernel_rfl) rfl (by decide)
theorem sizeGot : (Tryd.prog.info? 45).map (·.size) = some 4 := by kernel_rfl

/-- A bucket and the document's answer, made behind w. -/
structure Two (w wr : World) (p r : Nat) (b b' : Bk) (F1 F2 : List Nat) : Prop where
  hb : BkAt wr p b F1
  hr : RfAt wr r b' F2
  g1 : ∀ x, x ∈ F1 → w.heap.size ≤ x
  g2 : ∀ x, x ∈ F2 → w.heap.size ≤ x
  dj : ∀ x, x ∈ F2 → x ∉ F1
  kk : Keeps [] w wr

section
variable {w wr w' : World} {p r : Nat} {b b' b2 : Bk} {F1 F2 G F' : List Nat}
theorem Two.keep (h : Two w wr p r b b' F1 F2) (k : Keeps G wr w') (h1 : ∀ x, x ∈ F1 → x ∉ G) (h2 : ∀ x, x ∈ F2 → x ∉ G) (h3 : ∀ x, x ∈ G → w.heap.size ≤ x) : Two w w' p r b b' F1 F2 :=
  ⟨h.hb.keep k h1, h.hr.keep k h2, h.g1, h.g2, h.dj, h.kk.trans k (fun x hx => .inr (h3 x hx))⟩
theorem Two.newer (h : Two w wr p r b b' F1 F2) (k : Keeps [] wr w') : Two w w' p r b b' F1 F2 := h.keep k (by simp) (by simp) (by simp)
theorem Two.does (h : Two w wr p r b b' F1 F2) (h4 : BkAt w' p b2 F') (k : Chg F1 F' wr w') : Two w w' p r b2 b' F' F2 := by
  have hs := h.kk.size
  have hl := h.hr.lt
  refine ⟨h4, h.hr.keep k.keeps h.dj, fun x hx => ?_, h.g2, fun x hx h' => ?_, h.kk.trans k.keeps (fun x hx => .inr (h.g1 x hx))⟩
  · rcases k.fresh x hx with h' | h'
    · exact h.g1 x h'
    · omega
  · rcases k.fresh x h' with h' | h'
    · exact h.dj x hx h'
    · have := hl x hx; omega
theorem Two.asks (h : Two w wr p r b b' F1 F2) (h4 : RfAt w' r b2 F') (k : Chg F2 F' wr w') : Two w w' p r b b2 F1 F' := by
  have hs := h.kk.size
  have hl := h.hb.lt
  refine ⟨h.hb.keep k.keeps (fun x hx h' => h.dj x h' hx), h4, h.g1, fun x hx => ?_, fun x hx h' => ?_, h.kk.trans k.keeps (fun x hx => .inr (h.g2 x hx))⟩
  · rcases k.fresh x hx with h' | h'
    · exact h.g2 x h'
    · omega
  · rcases k.fresh x hx with h2 | h2
    · exact h.dj x h2 h'
    · have := hl x h'; omega
end

/-- What the first k calls answered. -/
def Firsts (w : World) (b : Bk) (m : List OpR) (k : Nat) (xs : List Value) (G : List Nat) : Prop :=
  xs.length = k * 4 ∧ ∀ i o, i < k → m[i]? = some o → ∃ la ln lc Gi, xs[i * 4]? = some (.string (str ((runA b (m.take i)).doO o).1.s)) ∧ xs[i * 4 + 1]? = some (.int .i64 ((runA b (m.take i)).doO o).1.n) ∧ xs[i * 4 + 2]? = some (.slice la ln lc) ∧ xs[i * 4 + 3]? = some (.int .i64 ((runA b (m.take i)).doO o).1.e) ∧
    SlAt w (.slice la ln lc) (((runA b (m.take i)).doO o).1.l.map strV) Gi ∧ ∀ x, x ∈ Gi → x ∈ G
theorem Firsts.keep {w w' : World} {b : Bk} {m : List OpR} {k : Nat} {xs : List Value} {G F : List Nat} (h : Firsts w b m k xs G) (kk : Keeps F w w') (hd : ∀ x, x ∈ G → x ∉ F) : Firsts w' b m k xs G :=
  ⟨h.1, fun i o hi ho => by
    obtain ⟨la, ln, lc, Gi, h0, h1, h2, h3, h4, h5⟩ := h.2 i o hi ho
    exact ⟨la, ln, lc, Gi, h0, h1, h2, h3, h4.keep kk (fun x hx => hd x (h5 x hx)), h5⟩⟩
theorem Firsts.snoc {w : World} {b : Bk} {m : List OpR} {k : Nat} {xs : List Value} {G Gk : List Nat} (h : Firsts w b m k xs G) (o : OpR) (ho : m[k]? = some o) (la : Option Addr) (ln lc : Nat)
    (hs : SlAt w (.slice la ln lc) (((runA b (m.take k)).doO o).1.l.map strV) Gk) :
    Firsts w b m (k + 1) (xs ++ [.string (str ((runA b (m.take k)).doO o).1.s), .int .i64 ((runA b (m.take k)).doO o).1.n, .slice la ln lc, .int .i64 ((runA b (m.take k)).doO o).1.e]) (G ++ Gk) := by
  have hl := h.1
  refine ⟨by rw [List.length_append, hl]; show k * 4 + 4 = _; omega, fun i o' hi ho' => ?_⟩
  by_cases hik : i < k
  · obtain ⟨la', ln', lc', Gi, h0, h1, h2, h3, h4, h5⟩ := h.2 i o' hik ho'
    refine ⟨la', ln', lc', Gi, ?_, ?_, ?_, ?_, h4, fun x hx => List.mem_append.2 (.inl (h5 x hx))⟩
    · rw [List.getElem?_append_left (by omega)]; exact h0
    · rw [List.getElem?_append_left (by omega)]; exact h1
    · rw [List.getElem?_append_left (by omega)]; exact h2
    · rw [List.getElem?_append_left (by omega)]; exact h3
  · obtain rfl : i = k := by omega
    obtain rfl : o' = o := by rw [ho] at ho'; injection ho' with ho'; exact ho'.symm
    refine ⟨la, ln, lc, Gk, ?_, ?_, ?_, ?_, hs, fun x hx => List.mem_append.2 (.inr hx)⟩
    · rw [List.getElem?_append_right (by omega), hl, show i * 4 - i * 4 = 0 by omega]; rfl
    · rw [List.getElem?_append_right (by omega), hl, show i * 4 + 1 - i * 4 = 1 by omega]; rfl
    · rw [List.getElem?_append_right (by omega), hl, show i * 4 + 2 - i * 4 = 2 by omega]; rfl
    · rw [List.getElem?_append_right (by omega), hl, show i * 4 + 3 - i * 4 = 3 by omega]; rfl

/-- The copy, and what it answered, made behind w0. -/
structure Third (w0 wr : World) (c : Nat) (fv : Value) (b : Bk) (m : List OpR) (k : Nat) (xs : List Value) (Fc Gf G : List Nat) : Prop where
  hc : BkAt wr c (runA b (m.take k)) Fc
  row : RowAt wr 4 fv k xs Gf
  first : Firsts wr b m k xs G
  new : ∀ x, x ∈ Fc ++ Gf ++ G → w0.heap.size ≤ x
  lt : ∀ x, x ∈ Fc ++ Gf ++ G → x < wr.heap.size
  d1 : ∀ x, x ∈ Gf → x ∉ Fc
  d2 : ∀ x, x ∈ G → x ∉ Fc
  d3 : ∀ x, x ∈ G → x ∉ Gf

theorem Third.start {w0 w : World} {c : Nat} {b : Bk} {m : List OpR} {Fc : List Nat} (h : BkAt w c b Fc) (hF : ∀ x, x ∈ Fc → w0.heap.size ≤ x) : Third w0 w c (.slice none 0 0) b m 0 [] Fc [] [] :=
  ⟨by rw [List.take_zero]; exact h, RowAt.none', ⟨rfl, fun i o hi => absurd hi (by omega)⟩, fun x hx => hF x (by simpa using hx), fun x hx => h.lt x (by simpa using hx), (by simp), (by simp), (by simp)⟩
section
variable {w0 wr w' : World} {c : Nat} {fv : Value} {b : Bk} {m : List OpR} {k : Nat} {xs : List Value} {Fc Gf G E : List Nat}
theorem Third.keep (h : Third w0 wr c fv b m k xs Fc Gf G) (kk : Keeps E wr w') (hd : ∀ x, x ∈ Fc ++ Gf ++ G → x ∉ E) : Third w0 w' c fv b m k xs Fc Gf G :=
  ⟨h.hc.keep kk (fun x hx => hd x (by simp [hx])), h.row.keep kk (fun x hx => hd x (by simp [hx])), h.first.keep kk (fun x hx => hd x (by simp [hx])), h.new, fun x hx => Nat.lt_of_lt_of_le (h.lt x hx) kk.size, h.d1, h.d2, h.d3⟩
theorem Third.next {w4 wq : World} {o : OpR} {la : Option Addr} {ln lc : Nat} {F4 G' : List Nat} {V : Value} (h : Third w0 wr c fv b m k xs Fc Gf G) (kw : Keeps [] w0 wr) (ho : m[k]? = some o)
    (hown : w4.ownsRow 0 9 1 (.slice la ln lc) ((runA b (m.take k)).doO o).1.l.length (((runA b (m.take k)).doO o).1.l.map strV)) (hnew : ∀ x, x ∈ (Value.slice la ln lc).ownBlock.toList → wr.heap.size ≤ x ∧ x ∉ F4)
    (h4 : BkAt w4 c ((runA b (m.take k)).doO o).2 F4) (q4 : Chg Fc F4 wr w4)
    (hrow : RowAt wq 4 V (k + 1) (xs ++ [.string (str ((runA b (m.take k)).doO o).1.s), .int .i64 ((runA b (m.take k)).doO o).1.n, .slice la ln lc, .int .i64 ((runA b (m.take k)).doO o).1.e]) G') (hq : Chg Gf G' w4 wq) :
    ∃ xs' G2, Third w0 wq c V b m (k + 1) xs' F4 G' G2 ∧ Keeps [] w0 wq := by
  have hlt : ∀ x, x ∈ Fc ∨ x ∈ Gf ∨ x ∈ G → x < wr.heap.size := fun x hx => h.lt x (by simp only [List.mem_append, or_assoc]; exact hx)
  have hnw : ∀ x, x ∈ Fc ∨ x ∈ Gf ∨ x ∈ G → w0.heap.size ≤ x := fun x hx => h.new x (by simp only [List.mem_append, or_assoc]; exact hx)
  have s1 := kw.size
  have s2 := q4.keeps.size
  have s3 := hq.keeps.size
  have l4 := h4.lt
  have lb := (RowAt.own hown (by omega)).lt
  have lg := hrow.lt
  have hst : m.take (k + 1) = m.take k ++ [o] := by rw [List.take_add_one, ho]; rfl
  have f4 : ∀ x, x ∈ F4 → x ∈ Fc ∨ wr.heap.size ≤ x := q4.fresh
  have fg : ∀ x, x ∈ G' → x ∈ Gf ∨ w4.heap.size ≤ x := hq.fresh
  have c4 := h4.keep hq.keeps (fun x hx hg => by
    rcases f4 x hx with h' | h'
    · exact h.d1 x hg h'
    · have := hlt x (.inr (.inl hg)); omega)
  have sl := (SlAt.own' hown).keep hq.keeps (fun x hx hg => by have := (hnew x hx).1; have := hlt x (.inr (.inl hg)); omega)
  have fs := ((h.first.keep q4.keeps h.d2).keep hq.keeps h.d3).snoc o ho la ln lc sl
  refine ⟨_, _, ⟨by rw [hst, runA_snoc]; exact c4, hrow, fs, fun x hx => ?_, fun x hx => ?_, fun x hx h' => ?_, fun x hx h' => ?_, fun x hx h' => ?_⟩, (kw.trans q4.keeps (fun x hx => .inr (hnw x (.inl hx)))).trans hq.keeps (fun x hx => .inr (hnw x (.inr (.inl hx))))⟩
  · simp only [List.mem_append] at hx
    rcases hx with (hx | hx) | hx | hx
    · rcases f4 x hx with h' | h'
      · exact hnw x (.inl h')
      · omega
    · rcases fg x hx with h' | h'
      · exact hnw x (.inr (.inl h'))
      · omega
    · exact hnw x (.inr (.inr hx))
    · have := (hnew x hx).1; omega
  · simp only [List.mem_append] at hx
    rcases hx with (hx | hx) | hx | hx
    · have := l4 x hx; omega
    · exact lg x hx
    · have := hlt x (.inr (.inr hx)); omega
    · have := lb x hx; omega
  · have := l4 x h'
    rcases fg x hx with h2 | h2
    · rcases f4 x h' with h3 | h3
      · exact h.d1 x h2 h3
      · have := hlt x (.inr (.inl h2)); omega
    · omega
  · rcases List.mem_append.1 hx with hx | hx
    · rcases f4 x h' with h3 | h3
      · exact h.d2 x hx h3
      · have := hlt x (.inr (.inr hx)); omega
    · exact (hnew x hx).2 h'
  · rcases List.mem_append.1 hx with hx | hx
    · rcases fg x h' with h3 | h3
      · exact h.d3 x hx h3
      · have := hlt x (.inr (.inr hx)); omega
    · have := lb x hx
      rcases fg x h' with h3 | h3
      · have := (hnew x hx).1; have := hlt x (.inr (.inl h3)); omega
      · omega
end
end Go.Proofs.YtflgagglkkehiaaDoor
