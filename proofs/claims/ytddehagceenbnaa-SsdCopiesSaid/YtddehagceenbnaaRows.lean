/-
  No cell of these rows narrows 'for every input' (looked for: loops, veiled, ifaces, maps, wideKeys, modest, calm, conditions, laid).
  DERIVED. THE GIVEN ROWS OF THIS SEAT. 7 by the template 'for every input the law returns true; each argument reads behind the call as it read before'; 0 by the template 'total and deterministic' (their statements: YtddehagceenbnaaTotals.lean).
  GIVEN WITH THE SEED: the statements are not yours to turn. If you find one false, say at which input.
  Laid BY PROGRAM, IN A SANDBOX (cutbox-rows.mjs): the forced cells as the released guide's own fill.sh prints them over the translation feea6842ead3cafb… (all of the seat's roots in one cut). By AI agents, Wed Nov 11 2026. No macro, syntax, notation, axiom, sorry.
-/
import Derived.Test.YtddehagceenbnaaChecked
import GoSem.Claim
import GoSem.ClaimJoined
import GoSem.ClaimMapViews
import Derived.JoinedTies
import Derived.KernelRfl
namespace Go.Proofs.Ytddehagceenbnaa
/- THE CELL 'sum', in the pinned program and in every row, IS THE sha256 OF THE DUMP (.gsa) THAT YtddehagceenbnaaProg.lean LOADS. Nothing in Lean hashes anything: it is a label: what it is worth is what the hold of that sum in a sandbox is worth. -/
noncomputable def Try.pinned : Pinned := { name := "ytddehagceenbnaa", sum := "feea6842ead3cafb4166878380f28a6d65ffdb7742dc7663f5204096c6be6ed0", checked := Try.checked }
namespace Rows
def none {H : Type} : Left H := { results := [], args := [] }

/-- 'lighterlaw04.SsdLasts': WHATEVER THE INPUT: true; the input reads as it did. -/
def ssdLastsSpec : ChangeSpec := { name := "ssdLasts", fn := fun _ => fun
  | [d1, d2, d3] => { results := [.lit (.bool true)], args := [d1, d2, d3] }
  | _ => none }
def ssdLastsRow : OpenClaim := { program := "ytddehagceenbnaa", sum := "feea6842ead3cafb4166878380f28a6d65ffdb7742dc7663f5204096c6be6ed0", func := "lighter/lighterlaw04.SsdLasts", spec := "ssdLasts", apart := false }
def SsdLastsSaid : Prop := ssdLastsRow.holds Try.pinned (OpenSpec.ofChange ssdLastsSpec)

/-- ITS FALSE NEIGHBOUR: 'it returns false'. Refute it at one input. -/
def ssdLastsWrong : ChangeSpec := { name := "ssdLasts", fn := fun _ => fun
  | [d1, d2, d3] => { results := [.lit (.bool false)], args := [d1, d2, d3] }
  | _ => none }
def SsdLastsWrongFalsely : Prop := ssdLastsRow.holds Try.pinned (OpenSpec.ofChange ssdLastsWrong)

/-- 'lighterlaw04.SsdParts': WHATEVER THE INPUT: true; the input reads as it did. -/
def ssdPartsSpec : ChangeSpec := { name := "ssdParts", fn := fun _ => fun
  | [d1, d2, d3] => { results := [.lit (.bool true)], args := [d1, d2, d3] }
  | _ => none }
def ssdPartsRow : OpenClaim := { program := "ytddehagceenbnaa", sum := "feea6842ead3cafb4166878380f28a6d65ffdb7742dc7663f5204096c6be6ed0", func := "lighter/lighterlaw04.SsdParts", spec := "ssdParts", apart := false }
def SsdPartsSaid : Prop := ssdPartsRow.holds Try.pinned (OpenSpec.ofChange ssdPartsSpec)

/-- ITS FALSE NEIGHBOUR: 'it returns false'. Refute it at one input. -/
def ssdPartsWrong : ChangeSpec := { name := "ssdParts", fn := fun _ => fun
  | [d1, d2, d3] => { results := [.lit (.bool false)], args := [d1, d2, d3] }
  | _ => none }
def SsdPartsWrongFalsely : Prop := ssdPartsRow.holds Try.pinned (OpenSpec.ofChange ssdPartsWrong)

/-- 'lighterlaw04.SsdStops': WHATEVER THE INPUT: true; the input reads as it did. -/
def ssdStopsSpec : ChangeSpec := { name := "ssdStops", fn := fun _ => fun
  | [d1, d2] => { results := [.lit (.bool true)], args := [d1, d2] }
  | _ => none }
def ssdStopsRow : OpenClaim := { program := "ytddehagceenbnaa", sum := "feea6842ead3cafb4166878380f28a6d65ffdb7742dc7663f5204096c6be6ed0", func := "lighter/lighterlaw04.SsdStops", spec := "ssdStops", apart := false }
def SsdStopsSaid : Prop := ssdStopsRow.holds Try.pinned (OpenSpec.ofChange ssdStopsSpec)

/-- ITS FALSE NEIGHBOUR: 'it returns false'. Refute it at one input. -/
def ssdStopsWrong : ChangeSpec := { name := "ssdStops", fn := fun _ => fun
  | [d1, d2] => { results := [.lit (.bool false)], args := [d1, d2] }
  | _ => none }
def SsdStopsWrongFalsely : Prop := ssdStopsRow.holds Try.pinned (OpenSpec.ofChange ssdStopsWrong)

/-- 'lighterlaw04.SsdApart': WHATEVER THE INPUT: true; the input reads as it did. -/
def ssdApartSpec : ChangeSpec := { name := "ssdApart", fn := fun _ => fun
  | [d1, d2, d3] => { results := [.lit (.bool true)], args := [d1, d2, d3] }
  | _ => none }
def ssdApartRow : OpenClaim := { program := "ytddehagceenbnaa", sum := "feea6842ead3cafb4166878380f28a6d65ffdb7742dc7663f5204096c6be6ed0", func := "lighter/lighterlaw04.SsdApart", spec := "ssdApart", apart := false }
def SsdApartSaid : Prop := ssdApartRow.holds Try.pinned (OpenSpec.ofChange ssdApartSpec)

/-- ITS FALSE NEIGHBOUR: 'it returns false'. Refute it at one input. -/
def ssdApartWrong : ChangeSpec := { name := "ssdApart", fn := fun _ => fun
  | [d1, d2, d3] => { results := [.lit (.bool false)], args := [d1, d2, d3] }
  | _ => none }
def SsdApartWrongFalsely : Prop := ssdApartRow.holds Try.pinned (OpenSpec.ofChange ssdApartWrong)

/-- 'lighterlaw04.SsdPlays': WHATEVER THE INPUT: true; the input reads as it did. -/
def ssdPlaysSpec : ChangeSpec := { name := "ssdPlays", fn := fun _ => fun
  | [d1, d2] => { results := [.lit (.bool true)], args := [d1, d2] }
  | _ => none }
def ssdPlaysRow : OpenClaim := { program := "ytddehagceenbnaa", sum := "feea6842ead3cafb4166878380f28a6d65ffdb7742dc7663f5204096c6be6ed0", func := "lighter/lighterlaw04.SsdPlays", spec := "ssdPlays", apart := false }
def SsdPlaysSaid : Prop := ssdPlaysRow.holds Try.pinned (OpenSpec.ofChange ssdPlaysSpec)

/-- ITS FALSE NEIGHBOUR: 'it returns false'. Refute it at one input. -/
def ssdPlaysWrong : ChangeSpec := { name := "ssdPlays", fn := fun _ => fun
  | [d1, d2] => { results := [.lit (.bool false)], args := [d1, d2] }
  | _ => none }
def SsdPlaysWrongFalsely : Prop := ssdPlaysRow.holds Try.pinned (OpenSpec.ofChange ssdPlaysWrong)

/-- 'lighterlaw04.SsdCopies': WHATEVER THE INPUT: true; the input reads as it did. -/
def ssdCopiesSpec : ChangeSpec := { name := "ssdCopies", fn := fun _ => fun
  | [d1, d2] => { results := [.lit (.bool true)], args := [d1, d2] }
  | _ => none }
def ssdCopiesRow : OpenClaim := { program := "ytddehagceenbnaa", sum := "feea6842ead3cafb4166878380f28a6d65ffdb7742dc7663f5204096c6be6ed0", func := "lighter/lighterlaw04.SsdCopies", spec := "ssdCopies", apart := false }
def SsdCopiesSaid : Prop := ssdCopiesRow.holds Try.pinned (OpenSpec.ofChange ssdCopiesSpec)

/-- ITS FALSE NEIGHBOUR: 'it returns false'. Refute it at one input. -/
def ssdCopiesWrong : ChangeSpec := { name := "ssdCopies", fn := fun _ => fun
  | [d1, d2] => { results := [.lit (.bool false)], args := [d1, d2] }
  | _ => none }
def SsdCopiesWrongFalsely : Prop := ssdCopiesRow.holds Try.pinned (OpenSpec.ofChange ssdCopiesWrong)

/-- 'lighterlaw04.SsdNil': WHATEVER THE INPUT: true; the input reads as it did. -/
def ssdNilSpec : ChangeSpec := { name := "ssdNil", fn := fun _ => fun
  | [d] => { results := [.lit (.bool true)], args := [d] }
  | _ => none }
def ssdNilRow : OpenClaim := { program := "ytddehagceenbnaa", sum := "feea6842ead3cafb4166878380f28a6d65ffdb7742dc7663f5204096c6be6ed0", func := "lighter/lighterlaw04.SsdNil", spec := "ssdNil", apart := false }
def SsdNilSaid : Prop := ssdNilRow.holds Try.pinned (OpenSpec.ofChange ssdNilSpec)

/-- ITS FALSE NEIGHBOUR: 'it returns false'. Refute it at one input. -/
def ssdNilWrong : ChangeSpec := { name := "ssdNil", fn := fun _ => fun
  | [d] => { results := [.lit (.bool false)], args := [d] }
  | _ => none }
def SsdNilWrongFalsely : Prop := ssdNilRow.holds Try.pinned (OpenSpec.ofChange ssdNilWrong)

/- THE SECOND FORM. 'bulk': how many values and letters a reading holds, each counted each time it is reached (what is shared counts as often as it is met; a slice's spare places count too). A statement '..UptoSaid' is the law's where the arguments, and the package variables that the reading takes, are together of bulk at most 1048576: NARROWER than '..Said'. Prove '..Said' where nothing that the law and all that it calls make is longer than what came in: it says more and counts as full. Else prove '..UptoSaid'. A law counts once. -/
mutual
def uptoBulk {H : Type} : DataW H → Nat
  | .lit (.string bytes) => bytes.length + 1
  | .lit _ => 1
  | .nil => 1
  | .ptr d => uptoBulk d + 1
  | .slice elems spare => uptoBulkAll elems + uptoBulkAll spare + 1
  | .agg parts => uptoBulkAll parts + 1
  | .iface _ d => uptoBulk d + 1
  | .map entries => uptoBulkEntries entries + 1
  | .held _ => 1
def uptoBulkAll {H : Type} : List (DataW H) → Nat
  | [] => 0
  | d :: r => uptoBulk d + uptoBulkAll r
def uptoBulkEntries {H : Type} : List (Lit × DataW H) → Nat
  | [] => 0
  | x :: r => uptoBulkEntry x + uptoBulkEntries r
def uptoBulkEntry {H : Type} : Lit × DataW H → Nat
  | (.string bytes, d) => bytes.length + uptoBulk d + 1
  | (_, d) => uptoBulk d + 1
 end
def uptoSmall : (H : Type) → List (DataW H) → Bool := fun _ ds => decide (uptoBulkAll ds ≤ 1048576)
def OpenSpec.upto (s : _root_.Go.ChangeSpec) : _root_.Go.OpenSpec := { _root_.Go.OpenSpec.ofChange s with cond := some uptoSmall }

/-- 'lighterlaw04.SsdLasts', WHERE WHAT IT READS IS OF BULK AT MOST 1048576: true; the input reads as it did. -/
def ssdLastsUptoRow : OpenClaim := { program := "ytddehagceenbnaa", sum := "feea6842ead3cafb4166878380f28a6d65ffdb7742dc7663f5204096c6be6ed0", func := "lighter/lighterlaw04.SsdLasts", spec := "ssdLasts", apart := false, narrowed := true }
def SsdLastsUptoSaid : Prop := ssdLastsUptoRow.holds Try.pinned (OpenSpec.upto ssdLastsSpec)

/-- 'lighterlaw04.SsdParts', WHERE WHAT IT READS IS OF BULK AT MOST 1048576: true; the input reads as it did. -/
def ssdPartsUptoRow : OpenClaim := { program := "ytddehagceenbnaa", sum := "feea6842ead3cafb4166878380f28a6d65ffdb7742dc7663f5204096c6be6ed0", func := "lighter/lighterlaw04.SsdParts", spec := "ssdParts", apart := false, narrowed := true }
def SsdPartsUptoSaid : Prop := ssdPartsUptoRow.holds Try.pinned (OpenSpec.upto ssdPartsSpec)

/-- 'lighterlaw04.SsdStops', WHERE WHAT IT READS IS OF BULK AT MOST 1048576: true; the input reads as it did. -/
def ssdStopsUptoRow : OpenClaim := { program := "ytddehagceenbnaa", sum := "feea6842ead3cafb4166878380f28a6d65ffdb7742dc7663f5204096c6be6ed0", func := "lighter/lighterlaw04.SsdStops", spec := "ssdStops", apart := false, narrowed := true }
def SsdStopsUptoSaid : Prop := ssdStopsUptoRow.holds Try.pinned (OpenSpec.upto ssdStopsSpec)

/-- 'lighterlaw04.SsdApart', WHERE WHAT IT READS IS OF BULK AT MOST 1048576: true; the input reads as it did. -/
def ssdApartUptoRow : OpenClaim := { program := "ytddehagceenbnaa", sum := "feea6842ead3cafb4166878380f28a6d65ffdb7742dc7663f5204096c6be6ed0", func := "lighter/lighterlaw04.SsdApart", spec := "ssdApart", apart := false, narrowed := true }
def SsdApartUptoSaid : Prop := ssdApartUptoRow.holds Try.pinned (OpenSpec.upto ssdApartSpec)

/-- 'lighterlaw04.SsdPlays', WHERE WHAT IT READS IS OF BULK AT MOST 1048576: true; the input reads as it did. -/
def ssdPlaysUptoRow : OpenClaim := { program := "ytddehagceenbnaa", sum := "feea6842ead3cafb4166878380f28a6d65ffdb7742dc7663f5204096c6be6ed0", func := "lighter/lighterlaw04.SsdPlays", spec := "ssdPlays", apart := false, narrowed := true }
def SsdPlaysUptoSaid : Prop := ssdPlaysUptoRow.holds Try.pinned (OpenSpec.upto ssdPlaysSpec)

/-- 'lighterlaw04.SsdCopies', WHERE WHAT IT READS IS OF BULK AT MOST 1048576: true; the input reads as it did. -/
def ssdCopiesUptoRow : OpenClaim := { program := "ytddehagceenbnaa", sum := "feea6842ead3cafb4166878380f28a6d65ffdb7742dc7663f5204096c6be6ed0", func := "lighter/lighterlaw04.SsdCopies", spec := "ssdCopies", apart := false, narrowed := true }
def SsdCopiesUptoSaid : Prop := ssdCopiesUptoRow.holds Try.pinned (OpenSpec.upto ssdCopiesSpec)

/-- 'lighterlaw04.SsdNil', WHERE WHAT IT READS IS OF BULK AT MOST 1048576: true; the input reads as it did. -/
def ssdNilUptoRow : OpenClaim := { program := "ytddehagceenbnaa", sum := "feea6842ead3cafb4166878380f28a6d65ffdb7742dc7663f5204096c6be6ed0", func := "lighter/lighterlaw04.SsdNil", spec := "ssdNil", apart := false, narrowed := true }
def SsdNilUptoSaid : Prop := ssdNilUptoRow.holds Try.pinned (OpenSpec.upto ssdNilSpec)

end Rows
end Go.Proofs.Ytddehagceenbnaa
