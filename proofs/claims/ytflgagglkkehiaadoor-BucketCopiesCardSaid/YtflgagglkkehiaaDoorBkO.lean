/- Layer 5: a bucket: what it has, what its calls answer; the object in memory. -/
import Derived.Test.YtflgagglkkehiaaDoorBkM
import Derived.Test.YtflgagglkkehiaaDoorOpenS
import Derived.StringKeys
namespace Go.Proofs.YtflgagglkkehiaaDoor
open Go.RowKit Go.Maps

def intV (x : Int) : Value := .int .i64 x
def i64R (x : Int) : Prop := -9223372036854775808 ≤ x ∧ x ≤ 9223372036854775807

abbrev Cl := Bool × Bs × Bs
structure Bk where
  m : Ob
  q : Nat
  f : List Int
  l : List Cl

namespace Bk
def fate (b : Bk) : Int := match b.f with | [] => 0 | x :: _ => x % 4
def tick (b : Bk) : Bk := { b with f := b.f.drop 1 }
def put (b : Bk) (k v : Bs) : Int × Bk := if (getO b.m k).isSome then (16, b) else if b.q < usedO b.m + v.length then (33, b) else (0, { b with m := putO b.m k v })
def rem (b : Bk) (k : Bs) : Int × Bk := if (getO b.m k).isSome then (0, { b with m := delO b.m k }) else (15, b)
def act (b : Bk) (c : Cl) : Int × Bk := if c.1 then b.put c.2.1 c.2.2 else b.rem c.2.1
def does (b : Bk) (c : Cl) : Int × Bk :=
  if b.fate = 0 then b.tick.act c else if b.fate = 2 then (34, (b.tick.act c).2) else if b.fate = 3 then (34, { b.tick with l := b.l ++ [c] }) else (34, b.tick)
def put' (b : Bk) (k v : Bs) : Int × Bk := if nameB k && decide (v.length ≤ 65536) then b.does (true, k, v) else (1, b)
def del' (b : Bk) (k : Bs) : Int × Bk := if nameB k then b.does (false, k, []) else (1, b)
def look (b : Bk) (k : Bs) : Bs × Int := if b.fate = 0 then (match getO b.m k with | some v => (v, 0) | none => ([], 15)) else ([], 34)
def get (b : Bk) (k : Bs) (a n : Int) : Bs × Int :=
  if nameB k && decide (0 ≤ a) && decide (0 ≤ n) then
    (if (b.look k).2 = 0 then (if ((b.look k).1.length : Int) < a then ([], 31) else (((b.look k).1.drop a.toNat).take n.toNat, 0)) else ([], (b.look k).2)) else ([], 1)
def get2 (b : Bk) (k : Bs) (a n : Int) : Bk := if nameB k && decide (0 ≤ a) && decide (0 ≤ n) then b.tick else b
def size (b : Bk) (k : Bs) : Int × Int := if nameB k then (((b.look k).1.length : Int), (b.look k).2) else (0, 1)
def size2 (b : Bk) (k : Bs) : Bk := if nameB k then b.tick else b
def cut (b : Bk) (n : Int) : Nat := min n.toNat b.l.length
def drop (b : Bk) (n : Int) : Bk := { b with l := b.l.drop (b.cut n) }
def land (b : Bk) (n : Int) : Bk := (b.l.take (b.cut n)).foldl (fun b c => (b.act c).2) (b.drop n)
def fates (b : Bk) (l : List Int) : Bk := { b with f := b.f ++ l }

structure ok (b : Bk) (N : Nat) : Prop where
  srt : Srt b.m
  fits : usedO b.m ≤ b.q
  q63 : b.q ≤ 9223372036854775807
  few : b.m.length + b.l.length ≤ N
  fl : b.f.length ≤ 20 * N
  f64 : ∀ x, x ∈ b.f → i64R x
  nm : ∀ c, c ∈ b.l → c.2.1.length ≤ 64 ∧ c.2.2.length ≤ 65536
  ln : ∀ p, p ∈ b.m → p.2.length ≤ 65536
end Bk

theorem nameB_len {k : Bs} (h : nameB k = true) : k.length ≤ 64 := by
  unfold nameB at h
  simp only [Bool.and_eq_true, decide_eq_true_eq] at h
  exact h.1.2

namespace Bk.ok
variable {b : Bk} {N : Nat}
theorem mono {M : Nat} (h : b.ok N) (hM : N ≤ M) : b.ok M := ⟨h.srt, h.fits, h.q63, by have := h.few; omega, by have := h.fl; omega, h.f64, h.nm, h.ln⟩
theorem tick (h : b.ok N) : b.tick.ok N := ⟨h.srt, h.fits, h.q63, h.few, by have := h.fl; show (b.f.drop 1).length ≤ _; rw [List.length_drop]; omega, fun x hx => h.f64 x (List.mem_of_mem_drop hx), h.nm, h.ln⟩
theorem put (h : b.ok N) (k v : Bs) (hv : v.length ≤ 65536) : (b.put k v).2.ok (N + 1) := by
  unfold Bk.put
  by_cases h1 : (getO b.m k).isSome = true
  · rw [if_pos h1]; exact h.mono (by omega)
  · rw [if_neg h1]
    by_cases h2 : b.q < usedO b.m + v.length
    · rw [if_pos h2]; exact h.mono (by omega)
    · rw [if_neg h2]
      have hn : getO b.m k = none := by simpa using h1
      refine ⟨srt_put h.srt k v, ?_, h.q63, ?_, by have := h.fl; show b.f.length ≤ _; omega, h.f64, h.nm, fun p hp => ?_⟩
      · show usedO (putO b.m k v) ≤ b.q
        rw [put_used v hn]; omega
      · have := h.few
        show (putO b.m k v).length + b.l.length ≤ _
        rw [put_length v hn]; omega
      · rcases mem_insO.1 hp with rfl | hp
        · exact hv
        · exact h.ln p (mem_delO.1 hp).1
theorem rem (h : b.ok N) (k : Bs) : (b.rem k).2.ok N := by
  unfold Bk.rem
  by_cases h1 : (getO b.m k).isSome = true
  · rw [if_pos h1]
    obtain ⟨v, hv⟩ := Option.isSome_iff_exists.1 h1
    have h2 := del_used h.srt hv
    have h3 := del_length b.m k
    refine ⟨srt_del h.srt k, ?_, h.q63, ?_, h.fl, h.f64, h.nm, fun p hp => h.ln p (mem_delO.1 hp).1⟩
    · have := h.fits
      show usedO (delO b.m k) ≤ b.q
      omega
    · have := h.few
      show (delO b.m k).length + b.l.length ≤ N
      omega
  · rw [if_neg h1]; exact h
theorem act (h : b.ok N) (c : Cl) (hv : c.2.2.length ≤ 65536) : (b.act c).2.ok (N + 1) := by
  unfold Bk.act
  split
  · exact h.put _ _ hv
  · exact (h.rem _).mono (by omega)
theorem does (h : b.ok N) (c : Cl) (hk : c.2.1.length ≤ 64) (hv : c.2.2.length ≤ 65536) : (b.does c).2.ok (N + 1) := by
  unfold Bk.does
  have ht := h.tick
  split
  · exact ht.act c hv
  · split
    · exact ht.act c hv
    · split
      · refine ⟨ht.srt, ht.fits, ht.q63, ?_, by have := ht.fl; show b.tick.f.length ≤ _; omega, ht.f64, ?_, ht.ln⟩
        · have := h.few
          show b.m.length + (b.l ++ [c]).length ≤ _
          rw [List.length_append, List.length_singleton]; omega
        · intro x hx
          rcases List.mem_append.1 hx with hx | hx
          · exact h.nm x hx
          · rw [List.mem_singleton.1 hx]; exact ⟨hk, hv⟩
      · exact ht.mono (by omega)
theorem put' (h : b.ok N) (k v : Bs) : (b.put' k v).2.ok (N + 1) := by
  unfold Bk.put'
  split
  · rename_i hc
    rw [Bool.and_eq_true, decide_eq_true_eq] at hc
    exact h.does _ (nameB_len hc.1) hc.2
  · exact h.mono (by omega)
theorem del' (h : b.ok N) (k : Bs) : (b.del' k).2.ok (N + 1) := by
  unfold Bk.del'
  split
  · rename_i hc
    exact h.does _ (nameB_len hc) (by simp)
  · exact h.mono (by omega)
theorem drop (h : b.ok N) (n : Int) : (b.drop n).ok N := ⟨h.srt, h.fits, h.q63, by have := h.few; show b.m.length + (b.l.drop _).length ≤ N; rw [List.length_drop]; omega, h.fl, h.f64, fun c hc => h.nm c (List.mem_of_mem_drop hc), h.ln⟩
theorem fates (h : b.ok N) (l : List Int) (hl : l.length ≤ 20) (h64 : ∀ x, x ∈ l → i64R x) : (b.fates l).ok (N + 1) := by
  refine ⟨h.srt, h.fits, h.q63, by have := h.few; show b.m.length + b.l.length ≤ _; omega, ?_, ?_, h.nm, h.ln⟩
  · have := h.fl
    show (b.f ++ l).length ≤ _
    rw [List.length_append]; omega
  · intro x hx
    rcases List.mem_append.1 hx with hx | hx
    · exact h.f64 x hx
    · exact h64 x hx
/-- What is held stays as much while calls land: a late call less, an object more. -/
theorem actF (h : b.ok N) (c : Cl) (hv : c.2.2.length ≤ 65536) (hM : b.m.length + b.l.length + 1 ≤ N) : (b.act c).2.ok N := by
  have h1 := h.act c hv
  refine ⟨h1.srt, h1.fits, h1.q63, ?_, ?_, h1.f64, h1.nm, h1.ln⟩
  · unfold Bk.act Bk.put Bk.rem
    by_cases hc : c.1 = true
    · rw [if_pos hc]
      by_cases h2 : (getO b.m c.2.1).isSome = true
      · rw [if_pos h2]; show b.m.length + b.l.length ≤ N; omega
      · rw [if_neg h2]
        split
        · show b.m.length + b.l.length ≤ N; omega
        · have hn : getO b.m c.2.1 = none := by simpa using h2
          show (putO b.m _ _).length + b.l.length ≤ N
          rw [put_length _ hn]; omega
    · rw [if_neg hc]
      split
      · have := del_length b.m c.2.1
        show (delO b.m _).length + b.l.length ≤ N
        omega
      · show b.m.length + b.l.length ≤ N; omega
  · have : (b.act c).2.f = b.f := by
      unfold Bk.act Bk.put Bk.rem
      repeat' split
      all_goals rfl
    rw [this]; exact h.fl
end Bk.ok

/-! ## memory -/

def fnV (c : Bool) : Value := .func (.func (if c then 33 else 53)) #[] #[]
def callV (c : Cl) : List Value := [fnV c.1, .string (str c.2.1), .string (str c.2.2)]

structure BkC (w : World) (p : Nat) (b : Bk) (F : List Nat) (mb : Nat) (fv lv : Value) (Gf Gl : List Nat) : Prop where
  cells : w.heap[p]? = some (.cells #[.map (some mb), .int .i64 b.q, .int .i64 (usedO b.m), fv, lv] 69)
  own : w.ownsMap Tryd.prog 9 (plainElem Tryd.prog 9) mb b.m.length (datO b.m)
  fat : RowAt w 1 fv b.f.length (b.f.map intV) Gf
  row : RowAt w 3 lv b.l.length (b.l.flatMap callV) Gl
  foot : F = p :: mb :: (Gf ++ Gl)
  pm : p ≠ mb
  pf : p ∉ Gf
  pl : p ∉ Gl
  mf : mb ∉ Gf
  ml : mb ∉ Gl
  dj : ∀ x, x ∈ Gf → x ∉ Gl

def BkAt (w : World) (p : Nat) (b : Bk) (F : List Nat) : Prop := ∃ mb fv lv Gf Gl, BkC w p b F mb fv lv Gf Gl

theorem ownsMap_heap {H : Type} {w w' : World} {P : Program} {k : TypeId} {R : Value → Option (DataW H × List MemPlace)} {b n : Nat} {D : DataW H} (h : w.ownsMap P k R b n D) (e : w'.heap[b]? = w.heap[b]?) : w'.ownsMap P k R b n D := by
  obtain ⟨es, clock, h1, h2, h3, h4⟩ := h
  exact ⟨es, clock, by rw [e]; exact h1, h2, h3, h4⟩
theorem ownsMap_tight {H : Type} {w : World} {P : Program} {k : TypeId} {R : Value → Option (DataW H × List MemPlace)} {b n : Nat} {D : DataW H} (h : w.ownsMap P k R b n D) : w.ownsMap P k R b (Maps.size D) D := by
  obtain ⟨es, clock, h1, h2, h3, rfl⟩ := h
  exact ⟨es, clock, h1, h2, by simp [Maps.size, length_sorted], rfl⟩
theorem ownsMap_lt {H : Type} {w : World} {P : Program} {k : TypeId} {R : Value → Option (DataW H × List MemPlace)} {b n : Nat} {D : DataW H} (h : w.ownsMap P k R b n D) : b < w.heap.size := by
  obtain ⟨es, clock, h1, _⟩ := h
  exact (Array.getElem?_eq_some_iff.1 h1).1

namespace BkC
variable {w w' : World} {p mb : Nat} {b : Bk} {F Gf Gl : List Nat} {fv lv : Value}

theorem lt (h : BkC w p b F mb fv lv Gf Gl) : ∀ x, x ∈ F → x < w.heap.size := by
  intro x hx
  rw [h.foot] at hx
  simp only [List.mem_cons, List.mem_append] at hx
  rcases hx with rfl | rfl | hx | hx
  · exact (Array.getElem?_eq_some_iff.1 h.cells).1
  · exact ownsMap_lt h.own
  · exact h.fat.lt x hx
  · exact h.row.lt x hx
theorem keep {G : List Nat} (h : BkC w p b F mb fv lv Gf Gl) (k : Keeps G w w') (hd : ∀ x, x ∈ F → x ∉ G) : BkC w' p b F mb fv lv Gf Gl := by
  have hF := h.foot
  refine ⟨k.some h.cells (hd p (by rw [hF]; simp)), ownsMap_heap h.own (k.block mb (ownsMap_lt h.own) (hd mb (by rw [hF]; simp))), h.fat.keep k (fun x hx => hd x (by rw [hF]; simp [hx])), h.row.keep k (fun x hx => hd x (by rw [hF]; simp [hx])), hF, h.pm, h.pf, h.pl, h.mf, h.ml, h.dj⟩
/-- The objects have turned. -/
theorem turn (h : BkC w p b F mb fv lv Gf Gl) {m : Ob} {n : Nat} (k : Keeps [p, mb] w w') (hc : w'.heap[p]? = some (.cells #[.map (some mb), .int .i64 b.q, .int .i64 (usedO m), fv, lv] 69))
    (ho : w'.ownsMap Tryd.prog 9 (plainElem Tryd.prog 9) mb n (datO m)) : BkC w' p { b with m := m } F mb fv lv Gf Gl ∧ Chg F F w w' := by
  have ho2 := ownsMap_tight ho
  rw [dat_size] at ho2
  have hx : ∀ x, x ∈ Gf ++ Gl → x ∉ [p, mb] := by
    intro x hx hm
    simp only [List.mem_cons, List.not_mem_nil, or_false, List.mem_append] at hx hm
    rcases hm with rfl | rfl <;> rcases hx with hx | hx
    · exact h.pf hx
    · exact h.pl hx
    · exact h.mf hx
    · exact h.ml hx
  refine ⟨⟨hc, ho2, h.fat.keep k (fun x hh => hx x (by simp [hh])), h.row.keep k (fun x hh => hx x (by simp [hh])), h.foot, h.pm, h.pf, h.pl, h.mf, h.ml, h.dj⟩, ⟨k.mono ?_, fun x hh => .inl hh⟩⟩
  intro x hh
  rw [h.foot]
  simp only [List.mem_cons, List.not_mem_nil, or_false] at hh
  rcases hh with rfl | rfl <;> simp
/-- The fates have turned. -/
theorem setF (h : BkC w p b F mb fv lv Gf Gl) {fv' : Value} {f' : List Int} {Gf' : List Nat} (hf : RowAt w 1 fv' f'.length (f'.map intV) Gf') (hp : p ∉ Gf') (hm : mb ∉ Gf') (hdj : ∀ x, x ∈ Gf' → x ∉ Gl) :
    BkC (w.setCell ⟨p, 3, none⟩ fv') p { b with f := f' } (p :: mb :: (Gf' ++ Gl)) mb fv' lv Gf' Gl ∧ Keeps [p] w (w.setCell ⟨p, 3, none⟩ fv') := by
  have k : Keeps [p] w (w.setCell ⟨p, 3, none⟩ fv') := (Keeps.refl [p] w).setCell (p := ⟨p, 3, none⟩) (by simp) fv'
  refine ⟨⟨?_, ownsMap_heap h.own (k.block mb (ownsMap_lt h.own) (by simpa using fun e => h.pm e.symm)), hf.keep k (fun x hx => by rw [List.mem_singleton]; rintro rfl; exact hp hx), h.row.keep k (fun x hx => by rw [List.mem_singleton]; rintro rfl; exact h.pl hx), rfl, h.pm, hp, h.pl, hm, h.ml, hdj⟩, k⟩
  have := heap_setCell h.cells 3 fv'
  exact this
/-- The late calls have turned. -/
theorem setL (h : BkC w p b F mb fv lv Gf Gl) {lv' : Value} {l' : List Cl} {Gl' : List Nat} (hf : RowAt w 3 lv' l'.length (l'.flatMap callV) Gl') (hp : p ∉ Gl') (hm : mb ∉ Gl') (hdj : ∀ x, x ∈ Gf → x ∉ Gl') :
    BkC (w.setCell ⟨p, 4, none⟩ lv') p { b with l := l' } (p :: mb :: (Gf ++ Gl')) mb fv lv' Gf Gl' ∧ Keeps [p] w (w.setCell ⟨p, 4, none⟩ lv') := by
  have k : Keeps [p] w (w.setCell ⟨p, 4, none⟩ lv') := (Keeps.refl [p] w).setCell (p := ⟨p, 4, none⟩) (by simp) lv'
  refine ⟨⟨?_, ownsMap_heap h.own (k.block mb (ownsMap_lt h.own) (by simpa using fun e => h.pm e.symm)), h.fat.keep k (fun x hx => by rw [List.mem_singleton]; rintro rfl; exact h.pf hx), hf.keep k (fun x hx => by rw [List.mem_singleton]; rintro rfl; exact hp hx), rfl, h.pm, h.pf, hp, h.mf, hm, hdj⟩, k⟩
  have := heap_setCell h.cells 4 lv'
  exact this
/-- A late call more, by an append. -/
theorem moreL {wq : World} (h : BkC w p b F mb fv lv Gf Gl) {lv' : Value} {l' : List Cl} {Gl' : List Nat} (k : Chg Gl Gl' w wq) (hf : RowAt wq 3 lv' l'.length (l'.flatMap callV) Gl') :
    BkAt (wq.setCell ⟨p, 4, none⟩ lv') p { b with l := l' } (p :: mb :: (Gf ++ Gl')) ∧ Chg F (p :: mb :: (Gf ++ Gl')) w (wq.setCell ⟨p, 4, none⟩ lv') := by
  have hlt := h.lt
  have hF := h.foot
  have ap : ∀ x, x ∈ F → x ∉ Gl → x ∉ Gl' := fun x hx hn hm => (k.fresh x hm).elim hn (fun h2 => by have := hlt x hx; omega)
  have hpF : p ∈ F := by rw [hF]; simp
  have hmF : mb ∈ F := by rw [hF]; simp
  have hfF : ∀ x, x ∈ Gf → x ∈ F := fun x hx => by rw [hF]; simp [hx]
  have hlF : ∀ x, x ∈ Gl → x ∈ F := fun x hx => by rw [hF]; simp [hx]
  have c2 := k.keeps.some h.cells h.pl
  have own2 := ownsMap_heap h.own (k.keeps.block mb (ownsMap_lt h.own) h.ml)
  have fat2 := h.fat.keep k.keeps h.dj
  have ks : Keeps [p] wq (wq.setCell ⟨p, 4, none⟩ lv') := (Keeps.refl [p] wq).setCell (p := ⟨p, 4, none⟩) (by simp) lv'
  have hpl := ap p hpF h.pl
  have hml := ap mb hmF h.ml
  refine ⟨⟨mb, fv, lv', Gf, Gl', ⟨heap_setCell c2 4 lv', ownsMap_heap own2 (ks.block mb (ownsMap_lt own2) (by simpa using fun e => h.pm e.symm)), fat2.keep ks (fun x hx => by rw [List.mem_singleton]; rintro rfl; exact h.pf hx), hf.keep ks (fun x hx => by rw [List.mem_singleton]; rintro rfl; exact hpl hx), rfl, h.pm, h.pf, hpl, h.mf, hml, fun x hx => ap x (hfF x hx) (h.dj x hx)⟩⟩, ?_⟩
  refine ⟨(k.keeps.mono hlF).trans ks (fun x hx => .inl (by rw [List.mem_singleton] at hx; rw [hx]; exact hpF)), fun x hx => ?_⟩
  simp only [List.mem_cons, List.mem_append] at hx
  rcases hx with rfl | rfl | hx | hx
  · exact .inl hpF
  · exact .inl hmF
  · exact .inl (hfF x hx)
  · exact (k.fresh x hx).imp (hlF x) id
end BkC

theorem BkAt.keep {w w' : World} {p : Nat} {b : Bk} {F G : List Nat} (h : BkAt w p b F) (k : Keeps G w w') (hd : ∀ x, x ∈ F → x ∉ G) : BkAt w' p b F := by
  obtain ⟨mb, fv, lv, Gf, Gl, hc⟩ := h
  exact ⟨mb, fv, lv, Gf, Gl, hc.keep k hd⟩
theorem BkAt.lt {w : World} {p : Nat} {b : Bk} {F : List Nat} (h : BkAt w p b F) : ∀ x, x ∈ F → x < w.heap.size := by
  obtain ⟨mb, fv, lv, Gf, Gl, hc⟩ := h
  exact hc.lt

theorem keyStr {k : Bs} (h : k.length ≤ 64) : keyOf Tryd.prog 9 (.string (str k)) = some (.string k) := by
  have := WideMaps.keyOf_string_mk (P := Tryd.prog) Tryd.underlying9 (s := str k) (by rw [str_size]; unfold maxLen; omega)
  exact this
end Go.Proofs.YtflgagglkkehiaaDoor
