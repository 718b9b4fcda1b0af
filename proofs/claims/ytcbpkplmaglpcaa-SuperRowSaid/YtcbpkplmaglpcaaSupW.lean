/- Layer 11: a superblock that is handed in; what a block of one keeps saying. -/
import Derived.Test.YtcbpkplmaglpcaaSupV
import Derived.Test.YtcbpkplmaglpcaaLaw
namespace Go.Proofs.Ytcbpkplmaglpcaa
open Go.ChangeShapes Go.WideShapes Go.ChangeAt Go.RowKit Go.Deep

def Sup.vals (s : Sup) : List Value := [.int .u64 s.key, .int .i64 s.epoch, .int .i64 s.serial, .int .i64 s.size, .int .i64 s.tail, .int .i64 s.number]

theorem elem_sup {H : Type} {enc : TypeId × Value → H} {W : World} {n : Nat} {cs : List Value} {x : DataW H × List MemPlace} (h : DataW.trod enc Try.prog W 0 (fun _ => true) true n 25 cs = some x) :
    ∃ s : Sup, cs = s.vals ∧ s.good := by
  obtain ⟨m, hl, hf⟩ := elem_fields Try.underlying25 (by kernel_rfl) (by kernel_rfl) h
  match cs, hl with
  | [c0, c1, c2, c3, c4, c5], _ =>
    obtain ⟨y0, h0⟩ := hf 0 _ c0 rfl rfl
    obtain ⟨y1, h1⟩ := hf 1 _ c1 rfl rfl
    obtain ⟨y2, h2⟩ := hf 2 _ c2 rfl rfl
    obtain ⟨y3, h3⟩ := hf 3 _ c3 rfl rfl
    obtain ⟨y4, h4⟩ := hf 4 _ c4 rfl rfl
    obtain ⟨y5, h5⟩ := hf 5 _ c5 rfl rfl
    obtain ⟨k, e0, k0⟩ := elem_u64 Try.underlying23 h0
    obtain ⟨a, e1, a0, a1⟩ := elem_i64 Try.underlying3 h1
    obtain ⟨b, e2, b0, b1⟩ := elem_i64 Try.underlying3 h2
    obtain ⟨c, e3, q0, q1⟩ := elem_i64 Try.underlying3 h3
    obtain ⟨d, e4, d0, d1⟩ := elem_i64 Try.underlying3 h4
    obtain ⟨f, e5, f0, f1⟩ := elem_i64 Try.underlying3 h5
    simp only [List.cons.injEq, and_true] at e0 e1 e2 e3 e4 e5
    subst e0 e1 e2 e3 e4 e5
    exact ⟨⟨k, a, b, c, d, f⟩, rfl, ⟨k0, a0, a1, b0, b1, q0, q1, d0, d1, f0, f1⟩⟩

/-- The six cells of a superblock at block b. -/
def CellsS (w' : World) (b : Nat) (s : Sup) : Prop := w'.cell? ⟨b, 0, none⟩ = some (.int .u64 s.key) ∧ w'.cell? ⟨b, 1, none⟩ = some (.int .i64 s.epoch) ∧ w'.cell? ⟨b, 2, none⟩ = some (.int .i64 s.serial) ∧ w'.cell? ⟨b, 3, none⟩ = some (.int .i64 s.size) ∧ w'.cell? ⟨b, 4, none⟩ = some (.int .i64 s.tail) ∧ w'.cell? ⟨b, 5, none⟩ = some (.int .i64 s.number)
theorem cellsS {w0 : World} {b : Nat} {s : Sup} {t : TypeId} (h : w0.heap[b]? = some (.cells #[.int .u64 s.key, .int .i64 s.epoch, .int .i64 s.serial, .int .i64 s.size, .int .i64 s.tail, .int .i64 s.number] t (0, 0))) : ∀ w', Keeps [] w0 w' → CellsS w' b s :=
  fun w' k => (cells6 (k.some h (by simp))).1
end Go.Proofs.Ytcbpkplmaglpcaa
