/- Layer 4, the device: what its small calls do. -/
import Derived.Test.YtddehagceenbnaaStep
namespace Go.Proofs.Ytddehagceenbnaa
open Go.RowKit

/-- A device. -/
structure Dev where
  last : List (List UInt8)
  now : List (List UInt8)
  pend : List (Nat × List UInt8)
  lost : Bool
  stops : Bool
  left : Int

def secv (s : List UInt8) : List Value := s.map u8v
def putv (p : Nat × List UInt8) : List Value := .int .i64 p.1 :: p.2.map u8v

structure Dev.ok (d : Dev) : Prop where
  same : d.now.length = d.last.length
  pos : 1 ≤ d.last.length
  few : d.last.length ≤ 65536
  l64 : ∀ s, s ∈ d.last → s.length = 64
  n64 : ∀ s, s ∈ d.now → s.length = 64
  p64 : ∀ p, p ∈ d.pend → p.1 < d.last.length ∧ p.2.length = 64
  stp : d.stops = true → 0 ≤ d.left
  left0 : -9223372036854775808 ≤ d.left
  left1 : d.left ≤ 9223372036854775807

/-- The device d lies at block b; F: the blocks that it has. -/
def DevAt (w : World) (b : Nat) (d : Dev) (F : List Nat) : Prop :=
  ∃ vl vn vp, w.heap[b]? = some (.cells #[vl, vn, vp, .bool d.lost, .bool d.stops, .int .i64 d.left] 58 (0, 0)) ∧
    F = b :: (vl.ownBlock.toList ++ vn.ownBlock.toList ++ vp.ownBlock.toList) ∧ (∀ x, x ∈ vl.ownBlock.toList → x ∉ vn.ownBlock.toList) ∧
    w.ownsRow 0 61 64 vl d.last.length (d.last.flatMap secv) ∧ w.ownsRow 0 61 64 vn d.now.length (d.now.flatMap secv) ∧
    w.ownsRow 0 63 65 vp d.pend.length (d.pend.flatMap putv)

theorem DevAt.keep {w w' : World} {b : Nat} {d : Dev} {F G : List Nat} (h : DevAt w b d F) (k : Keeps G w w') (hd : ∀ x, x ∈ F → x ∉ G) : DevAt w' b d F := by
  obtain ⟨vl, vn, vp, hb, rfl, hdj, h1, h2, h3⟩ := h
  exact ⟨vl, vn, vp, k.some hb (hd _ (by simp)), rfl, hdj, own_keep h1 k (fun x hx => hd x (by simp [hx])), own_keep h2 k (fun x hx => hd x (by simp [hx])), own_keep h3 k (fun x hx => hd x (by simp [hx]))⟩

theorem DevAt.lt {w : World} {b : Nat} {d : Dev} {F : List Nat} (h : DevAt w b d F) : ∀ k, k ∈ F → k < w.heap.size := by
  obtain ⟨vl, vn, vp, hb, rfl, hdj, h1, h2, h3⟩ := h
  intro k hk
  simp only [List.mem_cons, List.mem_append] at hk
  rcases hk with rfl | (hk | hk) | hk
  · exact (Array.getElem?_eq_some_iff.1 hb).1
  · exact (h1.lt k (by simpa using hk)).2
  · exact (h2.lt k (by simpa using hk)).2
  · exact (h3.lt k (by simpa using hk)).2

section
variable (b : Nat) (d : Dev) (F : List Nat) (w : World) (hd : DevAt w b d F)
include hd

theorem sectors_any : Calls Try.prog 25 #[.pointer (some ⟨b, 0, none⟩)] w fun e w' => e = .returned (.int .i64 d.now.length) ∧ w = w' := by
  obtain ⟨vl, vn, vp, hb, _, _, _, h2, _⟩ := hd
  obtain ⟨ad, cap, rfl⟩ := ownsRow_shape h2
  have hc1 := cell_of_heap hb 1
  clear hb h2
  go_enter Try.func25, Try.ntmps25
  go_wp2
  go_ret
  exact ⟨rfl, rfl⟩

theorem pending_any : Calls Try.prog 15 #[.pointer (some ⟨b, 0, none⟩)] w fun e w' => e = .returned (.int .i64 d.pend.length) ∧ w = w' := by
  obtain ⟨vl, vn, vp, hb, _, _, _, _, h2⟩ := hd
  obtain ⟨ad, cap, rfl⟩ := ownsRow_shape h2
  have hc1 := cell_of_heap hb 2
  clear hb h2
  go_enter Try.func15, Try.ntmps15
  go_wp2
  go_ret
  exact ⟨rfl, rfl⟩

theorem lost_any : Calls Try.prog 26 #[.pointer (some ⟨b, 0, none⟩)] w fun e w' => e = .returned (.bool d.lost) ∧ w = w' := by
  obtain ⟨vl, vn, vp, hb, _⟩ := hd
  have hc1 := cell_of_heap hb 3
  clear hb
  go_enter Try.func26, Try.ntmps26
  go_wp2
  go_ret
  exact ⟨rfl, rfl⟩
end
end Go.Proofs.Ytddehagceenbnaa
