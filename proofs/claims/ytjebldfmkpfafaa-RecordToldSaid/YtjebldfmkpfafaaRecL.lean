/- Layer 10: a record as a law's argument. -/
import Derived.Test.YtjebldfmkpfafaaRecK
import Derived.Test.YtjebldfmkpfafaaLaw
import Derived.Test.YtjebldfmkpfafaaOpen
namespace Go.Proofs.Ytjebldfmkpfafaa
open Go.RowKit
set_option maxRecDepth 100000

structure RcV where
  r : Rc
  sv : Value
def RcV.vals (s : RcV) : List Value := [.int .i64 s.r.ep, .int .i64 s.r.nr, .int .i64 s.r.kd, s.sv, .string (str s.r.dt), .string (str s.r.tx)]
def RcV.good (s : RcV) (W : World) : Prop := ∃ G, s.r.good W s.sv G ∧ ∀ k, k ∈ G → k < W.heap.size

theorem elem_sp {H : Type} {enc : TypeId × Value → H} {W : World} {n : Nat} {cs : List Value} {x : DataW H × List MemPlace} (h : DataW.trod enc Try.prog W 0 (fun _ => true) true n 39 cs = some x) :
    ∃ s : Sp, cs = spV s ∧ spG s := by
  obtain ⟨m, hl, hf⟩ := elem_fields Try.underlying39 (by kernel_rfl) (by kernel_rfl) h
  match cs, hl with
  | [c0, c1], _ =>
    obtain ⟨y0, h0⟩ := hf 0 _ c0 rfl rfl
    obtain ⟨y1, h1⟩ := hf 1 _ c1 rfl rfl
    obtain ⟨a, e0, a0⟩ := elem_i64 Try.underlying3 h0
    obtain ⟨b, e1, b0⟩ := elem_i64 Try.underlying3 h1
    simp only [List.cons.injEq, and_true] at e0 e1
    subst e0 e1
    exact ⟨(a, b), rfl, a0, b0⟩

theorem elem_rec {H : Type} {enc : TypeId × Value → H} {W : World} {n : Nat} {cs : List Value} {x : DataW H × List MemPlace} (h : DataW.trod enc Try.prog W 0 (fun _ => true) true n 24 cs = some x) :
    ∃ s : RcV, cs = s.vals ∧ s.good W := by
  obtain ⟨m, hl, hf⟩ := elem_fields Try.underlying24 (by kernel_rfl) (by kernel_rfl) h
  match cs, hl with
  | [c0, c1, c2, c3, c4, c5], _ =>
    obtain ⟨y0, h0⟩ := hf 0 _ c0 rfl rfl
    obtain ⟨y1, h1⟩ := hf 1 _ c1 rfl rfl
    obtain ⟨y2, h2⟩ := hf 2 _ c2 rfl rfl
    obtain ⟨y3, h3⟩ := hf 3 _ c3 rfl rfl
    obtain ⟨y4, h4⟩ := hf 4 _ c4 rfl rfl
    obtain ⟨y5, h5⟩ := hf 5 _ c5 rfl rfl
    obtain ⟨a, e0, a0⟩ := elem_i64 Try.underlying3 h0
    obtain ⟨b, e1, b0⟩ := elem_i64 Try.underlying3 h1
    obtain ⟨c, e2, k0⟩ := elem_i64 Try.underlying3 h2
    obtain ⟨xs, G, hs, hg, hG, hL⟩ := open_inner spV spG 2 (by kernel_rfl) (by decide) Try.underlying22 (fun _ _ _ h => elem_sp h) h3
    obtain ⟨s1, e4, b4⟩ := elem_string Try.underlying9 h4
    obtain ⟨s2, e5, b5⟩ := elem_string Try.underlying9 h5
    simp only [List.cons.injEq, and_true] at e0 e1 e2 e4 e5
    subst e0 e1 e2 e4 e5
    exact ⟨⟨⟨a, b, c, xs, s1.data.toList, s2.data.toList⟩, c3⟩, by unfold RcV.vals; rw [str_self, str_self], G, ⟨a0, b0, k0, hs, hg, hL, by rw [dlen]; exact b4, by rw [dlen]; exact b5⟩, hG⟩
end Go.Proofs.Ytjebldfmkpfafaa
