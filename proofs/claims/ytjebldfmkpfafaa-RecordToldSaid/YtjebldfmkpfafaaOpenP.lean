/- Arguments that are pairs of whole numbers, and slices of them, opened. -/
import Derived.Test.YtjebldfmkpfafaaOpenS
namespace Go.Proofs.Ytjebldfmkpfafaa
open Go.ChangeShapes Go.WideShapes Go.ChangeAt Go.RowKit Go.Deep
set_option maxRecDepth 100000

/-- A pair of whole numbers: each one is an int. -/
def pairv (p : Int × Int) : List Value := [.int .i64 p.1, .int .i64 p.2]
def goodPair (p : Int × Int) : Prop := (-9223372036854775808 ≤ p.1 ∧ p.1 ≤ 9223372036854775807) ∧ (-9223372036854775808 ≤ p.2 ∧ p.2 ≤ 9223372036854775807)

theorem elem_pair {H : Type} {enc : TypeId × Value → H} {P : Program} {W : World} {t e : TypeId} {n : Nat} {cs : List Value} {y : DataW H × List MemPlace} (hc : P.cellsOf t = 2) (hc1 : P.cellsOf e = 1)
    (ht : P.underlying t = some (.array 2 e)) (he : P.underlying e = some (.int .i64)) (hn : DataW.trod enc P W 0 (fun _ => true) true n t cs = some y) : ∃ p : Int × Int, cs = pairv p ∧ goodPair p := by
  obtain ⟨xs, m, _, _, hcl, hxl, hi⟩ := DataW.trod_array ht hn
  have hcl2 : cs.length = 2 := by rw [← hc]; exact hcl
  match cs, hcl2 with
  | [c0, c1], _ =>
    have h0 := hi 0 (by omega)
    have h1 := hi 1 (by omega)
    rw [hc1] at h0 h1
    simp only [Nat.zero_mul, List.drop_zero, Nat.one_mul, List.drop_succ_cons, List.take_succ_cons, List.take_zero] at h0 h1
    rw [List.getElem?_eq_getElem (by omega)] at h0 h1
    obtain ⟨a, ea, a0, a1⟩ := elem_int he h0
    obtain ⟨b, eb, b0, b1⟩ := elem_int he h1
    simp only [List.cons.injEq, and_true] at ea eb
    subst ea eb
    exact ⟨(a, b), rfl, ⟨⟨a0, a1⟩, b0, b1⟩⟩

theorem open_pair {H : Type} {enc : TypeId × Value → H} {P : Program} {W : World} {t e : TypeId} {v : Value} {d : DataW H} {p : List MemPlace} {r : Reach} {b0 : Nat} (hc : P.cellsOf t = 2) (hc1 : P.cellsOf e = 1)
    (ht : P.underlying t = some (.array 2 e)) (he : P.underlying e = some (.int .i64)) (hok : Value.okWide P W r b0 t v) (h : DataW.Trod enc P W 0 (fun _ => true) true t v d p) :
    ∃ a b : Int, v = .agg #[.int .i64 a, .int .i64 b] ∧ (-9223372036854775808 ≤ a ∧ a ≤ 9223372036854775807) ∧ (-9223372036854775808 ≤ b ∧ b ≤ 9223372036854775807) := by
  simp only [Value.okWide, ht] at hok
  obtain ⟨cs, rfl, h2, _⟩ := hok
  obtain ⟨n, hn⟩ := h
  obtain ⟨⟨a, b⟩, e1, g⟩ := elem_pair hc hc1 ht he hn
  refine ⟨a, b, ?_, g⟩
  congr 1
  apply Array.toList_inj.1
  exact e1
end Go.Proofs.Ytjebldfmkpfafaa
