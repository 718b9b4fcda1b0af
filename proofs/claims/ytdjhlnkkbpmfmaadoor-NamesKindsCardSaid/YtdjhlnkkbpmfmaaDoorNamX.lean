/- Layer 6: what the rows' laid tables give; a name as it is read. -/
import Derived.Test.YtdjhlnkkbpmfmaaDoorNamN
import Derived.Test.YtdjhlnkkbpmfmaaDoorLaw
import Derived.Test.YtdjhlnkkbpmfmaaDoorOpenS
import Derived.LaidLaws
import Derived.LaidMore
import Derived.LaidHandle
import Derived.Lib.LaidTab
import Derived.Stop.Joined
namespace Go.Proofs.YtdjhlnkkbpmfmaaDoor
open Go.ChangeShapes Go.WideShapes Go.ChangeAt Go.RowKit

def laid3 : List (String × DataW Unit) := [("math/bits.deBruijn32tab", Rows.laid_math_bits_deBruijn32tab), ("math/bits.deBruijn64tab", Rows.laid_math_bits_deBruijn64tab), ("internal/strconv.uint64pow10", Rows.laid_internal_strconv_uint64pow10)]

theorem door_met (os : Os) (args : Array Value) : laidMetH Tryd.prog laid3 ((World.doorLaid Tryd.prog 400 os).forCall (fun _ _ => 0) ⟨#[], args, []⟩).memory :=
  laidMetH_of_parts3 (fuel := 8) (laidMet_of_run' 8 (by kernel_rfl) (by kernel_rfl)) (by kernel_rfl) (by kernel_rfl)

theorem tabC_of {W : World} (h : laidMetH Tryd.prog laid3 W) : TabC W := by
  rw [MakeChecks.laidMetH_plain _ _ _ (by kernel_rfl)] at h
  obtain ⟨ps, ⟨g0, t0, cs0, f0, p0, q0, hg0, ht0, hv0, hd0, ⟨g1, t1, cs1, f1, p1, q1, hg1, ht1, hv1, hd1, _, _⟩, _⟩, _⟩ := h
  obtain rfl := Option.some.inj ((show Tryd.prog.globalNamed "math/bits.deBruijn64tab" = some 3 by kernel_rfl).symm.trans hg1)
  obtain rfl := Option.some.inj ((show (Tryd.prog.globals[3]?).map (·.type) = some 118 by kernel_rfl).symm.trans ht1)
  have e : Rows.laid_math_bits_deBruijn64tab (H := Unit) = Lib.tabData .u8 [0, 1, 56, 2, 57, 49, 28, 3, 61, 58, 42, 50, 38, 29, 17, 4, 62, 47, 59, 36, 45, 43, 51, 22, 53, 39, 33, 30, 24, 18, 12, 5, 63, 55, 48, 27, 60, 41, 37, 16, 46, 35, 44, 21, 52, 32, 23, 11, 54, 26, 40, 15, 34, 20, 31, 10, 25, 14, 19, 9, 13, 8, 7, 6] := rfl
  rw [e] at hd1
  have hcs := Lib.cells_of_tab Tryd.underlying118 Tryd.underlying5 (by kernel_rfl) (by kernel_rfl) hd1
  have := World.var?_cell hg1 hv1 15
  unfold TabC
  rw [this]
  have h2 : cs1[15]? = cs1.toList[15]? := by simp
  rw [h2, hcs]
  rfl

structure NameR where
  v : ByteArray
  k : Int
  n : Int
def NameR.vals (s : NameR) : List Value := [.string s.v, .int .i64 s.k, .int .i64 s.n]
structure NameR.good (s : NameR) : Prop where
  v : s.v.size ≤ 9223372036854775807
  k0 : -9223372036854775808 ≤ s.k
  k1 : s.k ≤ 9223372036854775807
  n0 : -9223372036854775808 ≤ s.n
  n1 : s.n ≤ 9223372036854775807
theorem elem_name {H : Type} {enc : TypeId × Value → H} {W : World} {n : Nat} {cs : List Value} {x : DataW H × List MemPlace} (h : DataW.trod enc Tryd.prog W 0 (fun _ => true) true n 23 cs = some x) :
    ∃ s : NameR, cs = s.vals ∧ s.good := by
  obtain ⟨m, hl, hf⟩ := elem_fields Tryd.underlying23 (by kernel_rfl) (by kernel_rfl) h
  match cs, hl with
  | [c0, c1, c2], _ =>
    obtain ⟨y0, h0⟩ := hf 0 _ c0 rfl rfl
    obtain ⟨y1, h1⟩ := hf 1 _ c1 rfl rfl
    obtain ⟨y2, h2⟩ := hf 2 _ c2 rfl rfl
    obtain ⟨k, e0, k0⟩ := elem_string Tryd.underlying9 h0
    obtain ⟨a, e1, a0, a1⟩ := elem_i64 Tryd.underlying3 h1
    obtain ⟨b, e2, b0, b1⟩ := elem_i64 Tryd.underlying3 h2
    simp only [List.cons.injEq, and_true] at e0 e1 e2
    subst e0 e1 e2
    exact ⟨⟨k, a, b⟩, rfl, ⟨k0, a0, a1, b0, b1⟩⟩
end Go.Proofs.YtdjhlnkkbpmfmaaDoor
