/- Layer 4, the reference: what its small calls do. -/
import Derived.Test.YtddehagceenbnaaSsdR
namespace Go.Proofs.Ytddehagceenbnaa
open Go.RowKit

def strv (s : List UInt8) : Value := .string (str s)
def rputv (p : Nat × List UInt8) : List Value := [.int .i64 p.1, .string (str p.2)]

/-- The reference of the device d lies at block b, its slices told. -/
structure RefIs (w : World) (b : Nat) (d : Dev) (vL vP : Value) : Prop where
  hb : w.heap[b]? = some (.cells #[vL, vP, .bool d.lost, .bool d.stops, .int .i64 d.left] 69 (0, 0))
  last : w.ownsRow 0 9 1 vL d.last.length (d.last.map strv)
  pend : w.ownsRow 0 75 2 vP d.pend.length (d.pend.flatMap rputv)
def refF (b : Nat) (vL vP : Value) : List Nat := b :: (vL.ownBlock.toList ++ vP.ownBlock.toList)

theorem RefIs.keep {w w' : World} {b : Nat} {d : Dev} {vL vP : Value} {G : List Nat} (h : RefIs w b d vL vP) (k : Keeps G w w') (hd : ∀ x, x ∈ refF b vL vP → x ∉ G) : RefIs w' b d vL vP :=
  ⟨k.some h.hb (hd _ (by simp [refF])), own_keep h.last k (fun x hx => hd x (by simp [refF, hx])), own_keep h.pend k (fun x hx => hd x (by simp [refF, hx]))⟩
theorem RefIs.kept {w w' : World} {b : Nat} {d : Dev} {vL vP : Value} (h : RefIs w b d vL vP) (k : Keeps [] w w') : RefIs w' b d vL vP := h.keep k (by simp)

/-- The reference of d is at b, and d is one. -/
structure Ref (w : World) (b : Nat) (d : Dev) (F : List Nat) (B : Nat) : Prop where
  is : ∃ vL vP, RefIs w b d vL vP ∧ F = refF b vL vP
  ok : d.ok
  few : d.pend.length ≤ B
theorem Ref.keep {w w' : World} {b : Nat} {d : Dev} {F G : List Nat} {B : Nat} (h : Ref w b d F B) (k : Keeps G w w') (hd : ∀ x, x ∈ F → x ∉ G) : Ref w' b d F B := by
  obtain ⟨⟨vL, vP, h1, rfl⟩, h2, h3⟩ := h
  exact ⟨⟨vL, vP, h1.keep k hd, rfl⟩, h2, h3⟩
theorem Ref.kept {w w' : World} {b : Nat} {d : Dev} {F : List Nat} {B : Nat} (h : Ref w b d F B) (k : Keeps [] w w') : Ref w' b d F B := h.keep k (by simp)
theorem Ref.apart {w w' : World} {b : Nat} {d : Dev} {F G G' : List Nat} {B : Nat} (h : Ref w b d F B) (k : Chg G G' w w') (hd : ∀ x, x ∈ F → x ∉ G) : Ref w' b d F B := h.keep k.keeps hd
theorem Ref.le {w : World} {b : Nat} {d : Dev} {F : List Nat} {B B' : Nat} (h : Ref w b d F B) (hb : B ≤ B') : Ref w b d F B' := ⟨h.is, h.ok, Nat.le_trans h.few hb⟩
theorem Ref.lt {w : World} {b : Nat} {d : Dev} {F : List Nat} {B : Nat} (h : Ref w b d F B) : ∀ k, k ∈ F → k < w.heap.size := by
  obtain ⟨⟨vL, vP, h1, rfl⟩, _, _⟩ := h
  intro k hk
  simp only [refF, List.mem_cons, List.mem_append] at hk
  rcases hk with rfl | hk | hk
  · exact (Array.getElem?_eq_some_iff.1 h1.hb).1
  · exact (h1.last.lt k (by simpa using hk)).2
  · exact (h1.pend.lt k (by simpa using hk)).2

/-- The cells of one that was put. -/
theorem RefIs.put {w : World} {b : Nat} {d : Dev} {vL vP : Value} (h : RefIs w b d vL vP) {k : Nat} {p : Nat × List UInt8} (hk : d.pend[k]? = some p) :
    ∃ g cap, vP = .slice (some ⟨g, 0, none⟩) d.pend.length cap ∧ w.cell? ⟨g, k * 2, none⟩ = some (.int .i64 p.1) ∧ w.cell? ⟨g, k * 2 + 1, none⟩ = some (.string (str p.2)) := by
  obtain ⟨g, cap, hv, hr, _, _⟩ := own_elem h.pend (c := 2) (fun _ _ => rfl) rfl hk
  exact ⟨g, cap, hv, hr 0 _ rfl, hr 1 _ rfl⟩
theorem map_flat {α : Type} (f : α → Value) : ∀ l : List α, l.map f = l.flatMap (fun s => [f s])
  | [] => rfl
  | a :: r => by rw [List.map_cons, List.flatMap_cons, map_flat f r]; rfl

theorem RefIs.sec {w : World} {b : Nat} {d : Dev} {vL vP : Value} (h : RefIs w b d vL vP) {k : Nat} {s : List UInt8} (hk : d.last[k]? = some s) :
    ∃ g cap, vL = .slice (some ⟨g, 0, none⟩) d.last.length cap ∧ w.cell? ⟨g, k, none⟩ = some (.string (str s)) ∧ w.frozen? ⟨g, k, none⟩ = false ∧
      ∀ t, (w.setCell ⟨g, k, none⟩ (.string (str t))).ownsRow 0 9 1 vL d.last.length ((d.last.set k t).map strv) := by
  have h1 := h.last
  rw [map_flat] at h1
  obtain ⟨g, cap, hv, hr, ht, hs⟩ := own_elem h1 (c := 1) (fun _ _ => rfl) rfl hk
  have h0 := hr 0 _ rfl
  have f0 := (ht 0 (by omega)).2
  rw [Nat.mul_one, Nat.add_zero] at h0 f0
  refine ⟨g, cap, hv, h0, f0, fun t => ?_⟩
  have := hs t rfl
  rw [map_flat]
  rw [Nat.mul_one] at this
  exact this

set_option maxHeartbeats 1000000 in
theorem refDead_any (b : Nat) (d : Dev) (vL vP : Value) (w : World) (h : RefIs w b d vL vP) (hok : d.ok) :
    Calls Try.prog 40 #[.pointer (some ⟨b, 0, none⟩)] w fun e w' => e = .returned (.bool d.dead) ∧ RefIs w' b (if d.dead then d else d.tick) vL vP ∧ Keeps [b] w w' := by
  have Hd := Lib.hid h
  have hst := hok.stp
  have hl1 := hok.left1
  have hnl := own_ne h.hb h.last (by decide)
  have hnp := own_ne h.hb h.pend (by decide)
  have c2 := cell_of_heap h.hb 2
  have c3 := cell_of_heap h.hb 3
  have c4 := cell_of_heap h.hb 4
  have hf := free_of_heap h.hb 4
  have hput : ∀ u : Int, RefIs (w.setCell ⟨b, 4, none⟩ (.int .i64 u)) b { d with left := u } vL vP := fun u =>
    have hk : Keeps [b] w (w.setCell ⟨b, 4, none⟩ (.int .i64 u)) := (Keeps.refl [b] w).setCell (p := ⟨b, 4, none⟩) (by simp) _
    have one : ∀ {v : Value}, b ∉ v.ownBlock.toList → ∀ x, x ∈ v.ownBlock.toList → x ∉ [b] := fun hv x hx hx' => by
      rw [List.mem_singleton] at hx'
      subst hx'
      exact hv hx
    ⟨heap_setCell h.hb 4 _, own_keep h.last hk (one hnl), own_keep h.pend hk (one hnp)⟩
  have Hput := Lib.hid hput
  clear h hok hput hnl hnp
  obtain ⟨last, now, pend, lost, stops, left⟩ := d
  unfold Dev.dead Dev.tick
  dsimp only at *
  cases lost
  · cases stops
    · go_enter Try.func40, Try.ntmps40
      go_wp2
      go_ret
      exact ⟨rfl, Hd.out, Keeps.refl _ _⟩
    · by_cases h0 : left = 0
      · subst h0
        go_enter Try.func40, Try.ntmps40
        go_wp2
        go_ret
        exact ⟨rfl, Hd.out, Keeps.refl _ _⟩
      · have e0 : (left == 0) = false := by simpa using h0
        have hl0 : 0 ≤ left := hst rfl
        have hw : IntKind.i64.wrap (left - 1) = left - 1 := IntWalk.i64_in _ ⟨by omega, by omega⟩
        have hk : Keeps [b] w (w.setCell ⟨b, 4, none⟩ (.int .i64 (left - 1))) := (Keeps.refl [b] w).setCell (p := ⟨b, 4, none⟩) (by simp) _
        have Hk := Lib.hid hk
        simp only [e0, Bool.and_false, Bool.or_false, Bool.false_eq_true, if_false]
        clear hst h0 hk
        go_enter Try.func40, Try.ntmps40
        go_wp2
        go_ret
        exact ⟨rfl, Hput.out _, Hk.out⟩
  · go_enter Try.func40, Try.ntmps40
    go_wp2
    go_ret
    exact ⟨rfl, Hd.out, Keeps.refl _ _⟩

/-- Are there not so many? -/
def beyondB (len : Nat) (a n : Int) : Bool := decide ((len : Int) < a) || decide ((len : Int) - a < n)

theorem refBeyond_any (b : Nat) (d : Dev) (vL vP : Value) (w : World) (h : RefIs w b d vL vP) (hl : d.last.length ≤ 65536) (a n : Int) (ha0 : 0 ≤ a) :
    Calls Try.prog 38 #[.pointer (some ⟨b, 0, none⟩), .int .i64 a, .int .i64 n] w fun e w' => e = .returned (.bool (beyondB d.last.length a n)) ∧ w = w' := by
  obtain ⟨aL, cL, rfl⟩ := ownsRow_shape h.last
  have c0 := cell_of_heap h.hb 0
  clear h
  unfold beyondB
  by_cases h1 : (d.last.length : Int) < a
  · have e1 : decide ((d.last.length : Int) < a) = true := by simpa using h1
    rw [e1]
    go_enter Try.func38, Try.ntmps38
    go_wp2
    go_ret
    exact ⟨rfl, rfl⟩
  · have e1 : decide ((d.last.length : Int) < a) = false := by simpa using h1
    have h2 : a ≤ (d.last.length : Int) := by omega
    have hw : IntKind.i64.wrap ((d.last.length : Int) - a) = (d.last.length : Int) - a := IntWalk.i64_in _ ⟨by omega, by omega⟩
    rw [e1]
    clear h1
    go_enter Try.func38, Try.ntmps38
    go_wp2
    go_ret
    exact ⟨rfl, rfl⟩
end Go.Proofs.Ytddehagceenbnaa
