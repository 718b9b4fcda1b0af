/-
  No cell of these rows narrows 'for every input' (looked for: loops, veiled, ifaces, maps, wideKeys, modest, calm, conditions, laid).
  DERIVED. THE GIVEN ROWS OF THIS SEAT. 6 by the template 'for every input the law returns true; each argument reads behind the call as it read before'; 0 by the template 'total and deterministic' (their statements: YtcbpkplmaglpcaaTotals.lean).
  GIVEN WITH THE SEED: the statements are not yours to turn. If you find one false, say at which input.
  Laid BY PROGRAM, IN A SANDBOX (cutbox-rows.mjs): the forced cells as the released guide's own fill.sh prints them over the translation a6baf307f44b99b4… (all of the seat's roots in one cut). By AI agents, Wed Nov 11 2026. No macro, syntax, notation, axiom, sorry.
-/
import Derived.Test.YtcbpkplmaglpcaaChecked
import GoSem.Claim
import GoSem.ClaimJoined
import GoSem.ClaimMapViews
import Derived.JoinedTies
import Derived.KernelRfl
namespace Go.Proofs.Ytcbpkplmaglpcaa
/- THE CELL 'sum', in the pinned program and in every row, IS THE sha256 OF THE DUMP (.gsa) THAT YtcbpkplmaglpcaaProg.lean LOADS. Nothing in Lean hashes anything: it is a label: what it is worth is what the hold of that sum in a sandbox is worth. -/
noncomputable def Try.pinned : Pinned := { name := "ytcbpkplmaglpcaa", sum := "a6baf307f44b99b4daac197c2886ba31880c46bd89086be662a4ed046f8bd3d3", checked := Try.checked }
namespace Rows
def none {H : Type} : Left H := { results := [], args := [] }

/-- 'lighterlaw11.SuperReads': WHATEVER THE INPUT: true; the input reads as it did. -/
def superReadsSpec : ChangeSpec := { name := "superReads", fn := fun _ => fun
  | [d1, d2] => { results := [.lit (.bool true)], args := [d1, d2] }
  | _ => none }
def superReadsRow : OpenClaim := { program := "ytcbpkplmaglpcaa", sum := "a6baf307f44b99b4daac197c2886ba31880c46bd89086be662a4ed046f8bd3d3", func := "lighter/lighterlaw11.SuperReads", spec := "superReads", inPlace := ["internal/abi.NoEscape", "internal/bytealg.MakeNoZero"], apart := false }
def SuperReadsSaid : Prop := superReadsRow.holds Try.pinned (OpenSpec.ofChange superReadsSpec)

/-- ITS FALSE NEIGHBOUR: 'it returns false'. Refute it at one input. -/
def superReadsWrong : ChangeSpec := { name := "superReads", fn := fun _ => fun
  | [d1, d2] => { results := [.lit (.bool false)], args := [d1, d2] }
  | _ => none }
def SuperReadsWrongFalsely : Prop := superReadsRow.holds Try.pinned (OpenSpec.ofChange superReadsWrong)

/-- 'lighterlaw11.SuperNext': WHATEVER THE INPUT: true; the input reads as it did. -/
def superNextSpec : ChangeSpec := { name := "superNext", fn := fun _ => fun
  | [d1, d2, d3] => { results := [.lit (.bool true)], args := [d1, d2, d3] }
  | _ => none }
def superNextRow : OpenClaim := { program := "ytcbpkplmaglpcaa", sum := "a6baf307f44b99b4daac197c2886ba31880c46bd89086be662a4ed046f8bd3d3", func := "lighter/lighterlaw11.SuperNext", spec := "superNext", inPlace := ["internal/abi.NoEscape", "internal/bytealg.MakeNoZero"], apart := false }
def SuperNextSaid : Prop := superNextRow.holds Try.pinned (OpenSpec.ofChange superNextSpec)

/-- ITS FALSE NEIGHBOUR: 'it returns false'. Refute it at one input. -/
def superNextWrong : ChangeSpec := { name := "superNext", fn := fun _ => fun
  | [d1, d2, d3] => { results := [.lit (.bool false)], args := [d1, d2, d3] }
  | _ => none }
def SuperNextWrongFalsely : Prop := superNextRow.holds Try.pinned (OpenSpec.ofChange superNextWrong)

/-- 'lighterlaw11.SuperWrites': WHATEVER THE INPUT: true; the input reads as it did. -/
def superWritesSpec : ChangeSpec := { name := "superWrites", fn := fun _ => fun
  | [d] => { results := [.lit (.bool true)], args := [d] }
  | _ => none }
def superWritesRow : OpenClaim := { program := "ytcbpkplmaglpcaa", sum := "a6baf307f44b99b4daac197c2886ba31880c46bd89086be662a4ed046f8bd3d3", func := "lighter/lighterlaw11.SuperWrites", spec := "superWrites", inPlace := ["internal/abi.NoEscape", "internal/bytealg.MakeNoZero"], apart := false }
def SuperWritesSaid : Prop := superWritesRow.holds Try.pinned (OpenSpec.ofChange superWritesSpec)

/-- ITS FALSE NEIGHBOUR: 'it returns false'. Refute it at one input. -/
def superWritesWrong : ChangeSpec := { name := "superWrites", fn := fun _ => fun
  | [d] => { results := [.lit (.bool false)], args := [d] }
  | _ => none }
def SuperWritesWrongFalsely : Prop := superWritesRow.holds Try.pinned (OpenSpec.ofChange superWritesWrong)

/-- 'lighterlaw11.SuperBack': WHATEVER THE INPUT: true; the input reads as it did. -/
def superBackSpec : ChangeSpec := { name := "superBack", fn := fun _ => fun
  | [d1, d2, d3] => { results := [.lit (.bool true)], args := [d1, d2, d3] }
  | _ => none }
def superBackRow : OpenClaim := { program := "ytcbpkplmaglpcaa", sum := "a6baf307f44b99b4daac197c2886ba31880c46bd89086be662a4ed046f8bd3d3", func := "lighter/lighterlaw11.SuperBack", spec := "superBack", inPlace := ["internal/abi.NoEscape", "internal/bytealg.MakeNoZero"], apart := false }
def SuperBackSaid : Prop := superBackRow.holds Try.pinned (OpenSpec.ofChange superBackSpec)

/-- ITS FALSE NEIGHBOUR: 'it returns false'. Refute it at one input. -/
def superBackWrong : ChangeSpec := { name := "superBack", fn := fun _ => fun
  | [d1, d2, d3] => { results := [.lit (.bool false)], args := [d1, d2, d3] }
  | _ => none }
def SuperBackWrongFalsely : Prop := superBackRow.holds Try.pinned (OpenSpec.ofChange superBackWrong)

/-- 'lighterlaw11.SuperTorn': WHATEVER THE INPUT: true; the input reads as it did. -/
def superTornSpec : ChangeSpec := { name := "superTorn", fn := fun _ => fun
  | [d1, d2, d3] => { results := [.lit (.bool true)], args := [d1, d2, d3] }
  | _ => none }
def superTornRow : OpenClaim := { program := "ytcbpkplmaglpcaa", sum := "a6baf307f44b99b4daac197c2886ba31880c46bd89086be662a4ed046f8bd3d3", func := "lighter/lighterlaw11.SuperTorn", spec := "superTorn", inPlace := ["internal/abi.NoEscape", "internal/bytealg.MakeNoZero"], apart := false }
def SuperTornSaid : Prop := superTornRow.holds Try.pinned (OpenSpec.ofChange superTornSpec)

/-- ITS FALSE NEIGHBOUR: 'it returns false'. Refute it at one input. -/
def superTornWrong : ChangeSpec := { name := "superTorn", fn := fun _ => fun
  | [d1, d2, d3] => { results := [.lit (.bool false)], args := [d1, d2, d3] }
  | _ => none }
def SuperTornWrongFalsely : Prop := superTornRow.holds Try.pinned (OpenSpec.ofChange superTornWrong)

/-- 'lighterlaw11.SuperRow': WHATEVER THE INPUT: true; the input reads as it did. -/
def superRowSpec : ChangeSpec := { name := "superRow", fn := fun _ => fun
  | [d1, d2] => { results := [.lit (.bool true)], args := [d1, d2] }
  | _ => none }
def superRowRow : OpenClaim := { program := "ytcbpkplmaglpcaa", sum := "a6baf307f44b99b4daac197c2886ba31880c46bd89086be662a4ed046f8bd3d3", func := "lighter/lighterlaw11.SuperRow", spec := "superRow", inPlace := ["internal/abi.NoEscape", "internal/bytealg.MakeNoZero"], apart := false }
def SuperRowSaid : Prop := superRowRow.holds Try.pinned (OpenSpec.ofChange superRowSpec)

/-- ITS FALSE NEIGHBOUR: 'it returns false'. Refute it at one input. -/
def superRowWrong : ChangeSpec := { name := "superRow", fn := fun _ => fun
  | [d1, d2] => { results := [.lit (.bool false)], args := [d1, d2] }
  | _ => none }
def SuperRowWrongFalsely : Prop := superRowRow.holds Try.pinned (OpenSpec.ofChange superRowWrong)

/- THE SECOND FORM. 'bulk': how many values and letters a reading holds, each counted each time it is reached (what is shared counts as often as it is met; a slice's spare places count too). A statement '..UptoSaid' is the law's where the arguments, and the package variables that the reading takes, are together of bulk at most 1048576: NARROWER than '..Said'. Prove '..Said' where nothing that the law and all that it calls make is longer than what came in: it says more and counts as full. Else prove '..UptoSaid'. A law counts once. -/
mutual
def uptoBulk {H : Type} : DataW H → Nat
  | .lit (.string bytes) => bytes.length + 1
  | .lit _ => 1
  | .nil => 1
  | .ptr d => uptoBulk d + 1
  | .slice elems spare => uptoBulkAll elems + uptoBulkAll spare + 1
  | .agg parts => uptoBulkAll parts + 1
  | .iface _ d => uptoBulk d + 1
  | .map entries => uptoBulkEntries entries + 1
  | .held _ => 1
def uptoBulkAll {H : Type} : List (DataW H) → Nat
  | [] => 0
  | d :: r => uptoBulk d + uptoBulkAll r
def uptoBulkEntries {H : Type} : List (Lit × DataW H) → Nat
  | [] => 0
  | x :: r => uptoBulkEntry x + uptoBulkEntries r
def uptoBulkEntry {H : Type} : Lit × DataW H → Nat
  | (.string bytes, d) => bytes.length + uptoBulk d + 1
  | (_, d) => uptoBulk d + 1
 end
def uptoSmall : (H : Type) → List (DataW H) → Bool := fun _ ds => decide (uptoBulkAll ds ≤ 1048576)
def OpenSpec.upto (s : _root_.Go.ChangeSpec) : _root_.Go.OpenSpec := { _root_.Go.OpenSpec.ofChange s with cond := some uptoSmall }

/-- 'lighterlaw11.SuperReads', WHERE WHAT IT READS IS OF BULK AT MOST 1048576: true; the input reads as it did. -/
def superReadsUptoRow : OpenClaim := { program := "ytcbpkplmaglpcaa", sum := "a6baf307f44b99b4daac197c2886ba31880c46bd89086be662a4ed046f8bd3d3", func := "lighter/lighterlaw11.SuperReads", spec := "superReads", inPlace := ["internal/abi.NoEscape", "internal/bytealg.MakeNoZero"], apart := false, narrowed := true }
def SuperReadsUptoSaid : Prop := superReadsUptoRow.holds Try.pinned (OpenSpec.upto superReadsSpec)

/-- 'lighterlaw11.SuperNext', WHERE WHAT IT READS IS OF BULK AT MOST 1048576: true; the input reads as it did. -/
def superNextUptoRow : OpenClaim := { program := "ytcbpkplmaglpcaa", sum := "a6baf307f44b99b4daac197c2886ba31880c46bd89086be662a4ed046f8bd3d3", func := "lighter/lighterlaw11.SuperNext", spec := "superNext", inPlace := ["internal/abi.NoEscape", "internal/bytealg.MakeNoZero"], apart := false, narrowed := true }
def SuperNextUptoSaid : Prop := superNextUptoRow.holds Try.pinned (OpenSpec.upto superNextSpec)

/-- 'lighterlaw11.SuperWrites', WHERE WHAT IT READS IS OF BULK AT MOST 1048576: true; the input reads as it did. -/
def superWritesUptoRow : OpenClaim := { program := "ytcbpkplmaglpcaa", sum := "a6baf307f44b99b4daac197c2886ba31880c46bd89086be662a4ed046f8bd3d3", func := "lighter/lighterlaw11.SuperWrites", spec := "superWrites", inPlace := ["internal/abi.NoEscape", "internal/bytealg.MakeNoZero"], apart := false, narrowed := true }
def SuperWritesUptoSaid : Prop := superWritesUptoRow.holds Try.pinned (OpenSpec.upto superWritesSpec)

/-- 'lighterlaw11.SuperBack', WHERE WHAT IT READS IS OF BULK AT MOST 1048576: true; the input reads as it did. -/
def superBackUptoRow : OpenClaim := { program := "ytcbpkplmaglpcaa", sum := "a6baf307f44b99b4daac197c2886ba31880c46bd89086be662a4ed046f8bd3d3", func := "lighter/lighterlaw11.SuperBack", spec := "superBack", inPlace := ["internal/abi.NoEscape", "internal/bytealg.MakeNoZero"], apart := false, narrowed := true }
def SuperBackUptoSaid : Prop := superBackUptoRow.holds Try.pinned (OpenSpec.upto superBackSpec)

/-- 'lighterlaw11.SuperTorn', WHERE WHAT IT READS IS OF BULK AT MOST 1048576: true; the input reads as it did. -/
def superTornUptoRow : OpenClaim := { program := "ytcbpkplmaglpcaa", sum := "a6baf307f44b99b4daac197c2886ba31880c46bd89086be662a4ed046f8bd3d3", func := "lighter/lighterlaw11.SuperTorn", spec := "superTorn", inPlace := ["internal/abi.NoEscape", "internal/bytealg.MakeNoZero"], apart := false, narrowed := true }
def SuperTornUptoSaid : Prop := superTornUptoRow.holds Try.pinned (OpenSpec.upto superTornSpec)

/-- 'lighterlaw11.SuperRow', WHERE WHAT IT READS IS OF BULK AT MOST 1048576: true; the input reads as it did. -/
def superRowUptoRow : OpenClaim := { program := "ytcbpkplmaglpcaa", sum := "a6baf307f44b99b4daac197c2886ba31880c46bd89086be662a4ed046f8bd3d3", func := "lighter/lighterlaw11.SuperRow", spec := "superRow", inPlace := ["internal/abi.NoEscape", "internal/bytealg.MakeNoZero"], apart := false, narrowed := true }
def SuperRowUptoSaid : Prop := superRowUptoRow.holds Try.pinned (OpenSpec.upto superRowSpec)

end Rows
end Go.Proofs.Ytcbpkplmaglpcaa
