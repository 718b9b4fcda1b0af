/- Layer 4, the device: ready, inside, Stop, Lose. -/
import Derived.Test.YtddehagceenbnaaSsdA
namespace Go.Proofs.Ytddehagceenbnaa
open Go.RowKit

theorem own_ne {w : World} {b : Nat} {cs : Array Value} {v : Value} {n size : Nat} {xs : List Value} {t e : TypeId} (hb : w.heap[b]? = some (.cells cs t (0, 0))) (hown : w.ownsRow 0 e size v n xs) (hne : e ≠ t) : b ∉ v.ownBlock.toList := by
  intro hm
  rcases hown.2 with ⟨rfl, _⟩ | ⟨g, cap, cur, rfl, _, hg, _⟩
  · simp [Value.ownBlock] at hm
  · simp only [Value.ownBlock, Option.toList, List.mem_singleton] at hm
    subst hm
    rw [hb] at hg
    simp only [Option.some.injEq, Obj.cells.injEq] at hg
    exact hne hg.2.1.symm

/-- The small cells of a device are written: what it is then. -/
theorem DevAt.put {w w' : World} {b : Nat} {d : Dev} {F : List Nat} (h : DevAt w b d F) (k : Keeps [b] w w') (lost stops : Bool) (left : Int)
    (hb' : ∀ vl vn vp, w.heap[b]? = some (.cells #[vl, vn, vp, .bool d.lost, .bool d.stops, .int .i64 d.left] 58 (0, 0)) → w'.heap[b]? = some (.cells #[vl, vn, vp, .bool lost, .bool stops, .int .i64 left] 58 (0, 0))) :
    DevAt w' b { d with lost := lost, stops := stops, left := left } F := by
  obtain ⟨vl, vn, vp, hb, rfl, hdj, h1, h2, h3⟩ := h
  have n1 := own_ne hb h1 (by decide)
  have n2 := own_ne hb h2 (by decide)
  have n3 := own_ne hb h3 (by decide)
  exact ⟨vl, vn, vp, hb' _ _ _ hb, rfl, hdj, own_keep h1 k (fun x hx hx' => by rw [List.mem_singleton] at hx'; subst hx'; exact n1 hx), own_keep h2 k (fun x hx hx' => by rw [List.mem_singleton] at hx'; subst hx'; exact n2 hx), own_keep h3 k (fun x hx hx' => by rw [List.mem_singleton] at hx'; subst hx'; exact n3 hx)⟩

def Dev.dead (d : Dev) : Bool := d.lost || (d.stops && (d.left == 0))
def Dev.tick (d : Dev) : Dev := if d.stops then { d with left := d.left - 1 } else d

theorem ready_any (b : Nat) (d : Dev) (F : List Nat) (w : World) (hd : DevAt w b d F) (hok : d.ok) :
    Calls Try.prog 27 #[.pointer (some ⟨b, 0, none⟩)] w fun e w' =>
      e = .returned (.int .i64 (if d.dead then 17 else 0)) ∧ DevAt w' b (if d.dead then d else d.tick) F ∧ Keeps [b] w w' := by
  have Hd := Lib.hid hd
  have hst := hok.stp
  have hl1 := hok.left1
  obtain ⟨vl, vn, vp, hb, hF, _⟩ := hd
  clear hF
  have c3 := cell_of_heap hb 3
  have c4 := cell_of_heap hb 4
  have c5 := cell_of_heap hb 5
  have hf := free_of_heap hb 5
  clear hok hb
  obtain ⟨last, now, pend, lost, stops, left⟩ := d
  unfold Dev.dead Dev.tick
  dsimp only at *
  cases lost
  · cases stops
    · go_enter Try.func27, Try.ntmps27
      go_wp2
      go_ret
      exact ⟨rfl, Hd.out, Keeps.refl _ _⟩
    · by_cases h0 : left = 0
      · subst h0
        go_enter Try.func27, Try.ntmps27
        go_wp2
        go_ret
        exact ⟨rfl, Hd.out, Keeps.refl _ _⟩
      · have e0 : (left == 0) = false := by simpa using h0
        have hl0 : 0 ≤ left := hst rfl
        have hw : IntKind.i64.wrap (left - 1) = left - 1 := IntWalk.i64_in _ ⟨by omega, by omega⟩
        have hk : Keeps [b] w (w.setCell ⟨b, 5, none⟩ (.int .i64 (left - 1))) := (Keeps.refl [b] w).setCell (p := ⟨b, 5, none⟩) (by simp) _
        have Hk := Lib.hid hk
        have Hd2 := Lib.hid (Hd.out.put hk false true (left - 1) (fun _ _ _ h => heap_setCell h 5 _))
        clear hst h0 hk
        go_enter Try.func27, Try.ntmps27
        go_wp2
        go_ret
        exact ⟨rfl, Hd2.out, Hk.out⟩
  · go_enter Try.func27, Try.ntmps27
    go_wp2
    go_ret
    exact ⟨rfl, Hd.out, Keeps.refl _ _⟩
end Go.Proofs.Ytddehagceenbnaa
