/-
  NARROWER THAN 'FOR EVERY INPUT', by the rows' own cells (each row's printed sentence says how): BucketLates: laid · BucketParts: laid · BucketOnce: laid · BucketLists: laid · BucketRoom: laid · BucketPlays: laid · BucketCopies: laid · BucketNil: laid.
  DERIVED. THE GIVEN ROWS OF THIS SEAT. 8 by the template 'for every input the law returns true; each argument reads behind the call as it read before'; 0 by the template 'total and deterministic' (their statements: YtflgagglkkehiaaDoorTotals.lean).
  GIVEN WITH THE SEED: the statements are not yours to turn. If you find one false, say at which input.
  Laid BY PROGRAM, IN A SANDBOX (cutbox-rows.mjs): the forced cells as the released guide's own fill.sh prints them over the translation 803b320fcdbe6051… (all of the seat's roots in one cut). By AI agents, Wed Nov 11 2026. No macro, syntax, notation, axiom, sorry.
-/
import Derived.Test.YtflgagglkkehiaaDoorChecked
import GoSem.PinnedTables
import GoSem.Claim
import GoSem.ClaimJoined
import GoSem.ClaimMapViews
import Derived.JoinedTies
import Derived.KernelRfl
namespace Go.Proofs.YtflgagglkkehiaaDoor
/- THE CELL 'sum', in the pinned program and in every row, IS THE sha256 OF THE DUMP (.gsa) THAT YtflgagglkkehiaaDoorProg.lean LOADS. Nothing in Lean hashes anything: it is a label: what it is worth is what the hold of that sum in a sandbox is worth. -/
noncomputable def Tryd.pinned : Pinned := { name := "ytflgagglkkehiaadoor", sum := "803b320fcdbe60514c0a6478f5dc53edbfc2eb67a509e6f91ca1c9d7d285eebc", checked := Tryd.checked }
namespace Rows
def none {H : Type} : Left H := { results := [], args := [] }

/- WHAT THE LISTED PACKAGE-LEVEL VARIABLES READ AS WHEN THE CALL BEGINS. Each datum BY PROGRAM (the guide's laid-datum.mjs) off the statement by which the dump's own 'gosem.cut.vars' lays the variable. In a bare row this is a premise. The card (YtflgagglkkehiaaDoorCards.lean) ties it to the program's text. -/
def laid_unicode_utf8_acceptRanges {H : Type} : DataW H := .agg [.agg [.lit (.int .u8 128), .lit (.int .u8 191)], .agg [.lit (.int .u8 160), .lit (.int .u8 191)], .agg [.lit (.int .u8 128), .lit (.int .u8 159)], .agg [.lit (.int .u8 144), .lit (.int .u8 191)], .agg [.lit (.int .u8 128), .lit (.int .u8 143)], .agg [.lit (.int .u8 0), .lit (.int .u8 0)], .agg [.lit (.int .u8 0), .lit (.int .u8 0)], .agg [.lit (.int .u8 0), .lit (.int .u8 0)], .agg [.lit (.int .u8 0), .lit (.int .u8 0)], .agg [.lit (.int .u8 0), .lit (.int .u8 0)], .agg [.lit (.int .u8 0), .lit (.int .u8 0)], .agg [.lit (.int .u8 0), .lit (.int .u8 0)], .agg [.lit (.int .u8 0), .lit (.int .u8 0)], .agg [.lit (.int .u8 0), .lit (.int .u8 0)], .agg [.lit (.int .u8 0), .lit (.int .u8 0)], .agg [.lit (.int .u8 0), .lit (.int .u8 0)]]
/-- One of Go's own tables, pinned by name: the form's constant. -/
def laid_unicode_utf8_first : DataW Unit := Go.Pinned.utf8First

/-- 'lighterlaw05.BucketLates': WHATEVER THE INPUT: true; the input reads as it did. -/
def bucketLatesSpec : ChangeSpec := { name := "bucketLates", fn := fun _ => fun
  | [d1, d2, d3] => { results := [.lit (.bool true)], args := [d1, d2, d3] }
  | _ => none }
def bucketLatesRow : OpenClaim := { program := "ytflgagglkkehiaadoor", sum := "803b320fcdbe60514c0a6478f5dc53edbfc2eb67a509e6f91ca1c9d7d285eebc", func := "lighter/lighterlaw05.BucketLates", spec := "bucketLates", inPlace := ["internal/bytealg.IndexByteString", "internal/bytealg.IndexString"], unfollowed := true, recurses := true, named := ["unicode/utf8.first", "unicode/utf8.acceptRanges", "internal/bytealg.MaxLen"], apart := false, laid := [("unicode/utf8.acceptRanges", laid_unicode_utf8_acceptRanges), ("unicode/utf8.first", laid_unicode_utf8_first)] }
def BucketLatesSaid : Prop := bucketLatesRow.holds Tryd.pinned (OpenSpec.ofChange bucketLatesSpec)

/-- ITS FALSE NEIGHBOUR: 'it returns false'. Refute it at one input. -/
def bucketLatesWrong : ChangeSpec := { name := "bucketLates", fn := fun _ => fun
  | [d1, d2, d3] => { results := [.lit (.bool false)], args := [d1, d2, d3] }
  | _ => none }
def BucketLatesWrongFalsely : Prop := bucketLatesRow.holds Tryd.pinned (OpenSpec.ofChange bucketLatesWrong)

/-- 'lighterlaw05.BucketParts': WHATEVER THE INPUT: true; the input reads as it did. -/
def bucketPartsSpec : ChangeSpec := { name := "bucketParts", fn := fun _ => fun
  | [d1, d2] => { results := [.lit (.bool true)], args := [d1, d2] }
  | _ => none }
def bucketPartsRow : OpenClaim := { program := "ytflgagglkkehiaadoor", sum := "803b320fcdbe60514c0a6478f5dc53edbfc2eb67a509e6f91ca1c9d7d285eebc", func := "lighter/lighterlaw05.BucketParts", spec := "bucketParts", inPlace := ["internal/bytealg.IndexByteString", "internal/bytealg.IndexString"], unfollowed := true, recurses := true, named := ["unicode/utf8.first", "unicode/utf8.acceptRanges", "internal/bytealg.MaxLen"], apart := false, laid := [("unicode/utf8.acceptRanges", laid_unicode_utf8_acceptRanges), ("unicode/utf8.first", laid_unicode_utf8_first)] }
def BucketPartsSaid : Prop := bucketPartsRow.holds Tryd.pinned (OpenSpec.ofChange bucketPartsSpec)

/-- ITS FALSE NEIGHBOUR: 'it returns false'. Refute it at one input. -/
def bucketPartsWrong : ChangeSpec := { name := "bucketParts", fn := fun _ => fun
  | [d1, d2] => { results := [.lit (.bool false)], args := [d1, d2] }
  | _ => none }
def BucketPartsWrongFalsely : Prop := bucketPartsRow.holds Tryd.pinned (OpenSpec.ofChange bucketPartsWrong)

/-- 'lighterlaw05.BucketOnce': WHATEVER THE INPUT: true; the input reads as it did. -/
def bucketOnceSpec : ChangeSpec := { name := "bucketOnce", fn := fun _ => fun
  | [d1, d2] => { results := [.lit (.bool true)], args := [d1, d2] }
  | _ => none }
def bucketOnceRow : OpenClaim := { program := "ytflgagglkkehiaadoor", sum := "803b320fcdbe60514c0a6478f5dc53edbfc2eb67a509e6f91ca1c9d7d285eebc", func := "lighter/lighterlaw05.BucketOnce", spec := "bucketOnce", inPlace := ["internal/bytealg.IndexByteString", "internal/bytealg.IndexString"], unfollowed := true, recurses := true, named := ["unicode/utf8.first", "unicode/utf8.acceptRanges", "internal/bytealg.MaxLen"], apart := false, laid := [("unicode/utf8.acceptRanges", laid_unicode_utf8_acceptRanges), ("unicode/utf8.first", laid_unicode_utf8_first)] }
def BucketOnceSaid : Prop := bucketOnceRow.holds Tryd.pinned (OpenSpec.ofChange bucketOnceSpec)

/-- ITS FALSE NEIGHBOUR: 'it returns false'. Refute it at one input. -/
def bucketOnceWrong : ChangeSpec := { name := "bucketOnce", fn := fun _ => fun
  | [d1, d2] => { results := [.lit (.bool false)], args := [d1, d2] }
  | _ => none }
def BucketOnceWrongFalsely : Prop := bucketOnceRow.holds Tryd.pinned (OpenSpec.ofChange bucketOnceWrong)

/-- 'lighterlaw05.BucketLists': WHATEVER THE INPUT: true; the input reads as it did. -/
def bucketListsSpec : ChangeSpec := { name := "bucketLists", fn := fun _ => fun
  | [d1, d2] => { results := [.lit (.bool true)], args := [d1, d2] }
  | _ => none }
def bucketListsRow : OpenClaim := { program := "ytflgagglkkehiaadoor", sum := "803b320fcdbe60514c0a6478f5dc53edbfc2eb67a509e6f91ca1c9d7d285eebc", func := "lighter/lighterlaw05.BucketLists", spec := "bucketLists", inPlace := ["internal/bytealg.IndexByteString", "internal/bytealg.IndexString"], unfollowed := true, recurses := true, named := ["unicode/utf8.first", "unicode/utf8.acceptRanges", "internal/bytealg.MaxLen"], apart := false, laid := [("unicode/utf8.acceptRanges", laid_unicode_utf8_acceptRanges), ("unicode/utf8.first", laid_unicode_utf8_first)] }
def BucketListsSaid : Prop := bucketListsRow.holds Tryd.pinned (OpenSpec.ofChange bucketListsSpec)

/-- ITS FALSE NEIGHBOUR: 'it returns false'. Refute it at one input. -/
def bucketListsWrong : ChangeSpec := { name := "bucketLists", fn := fun _ => fun
  | [d1, d2] => { results := [.lit (.bool false)], args := [d1, d2] }
  | _ => none }
def BucketListsWrongFalsely : Prop := bucketListsRow.holds Tryd.pinned (OpenSpec.ofChange bucketListsWrong)

/-- 'lighterlaw05.BucketRoom': WHATEVER THE INPUT: true; the input reads as it did. -/
def bucketRoomSpec : ChangeSpec := { name := "bucketRoom", fn := fun _ => fun
  | [d1, d2] => { results := [.lit (.bool true)], args := [d1, d2] }
  | _ => none }
def bucketRoomRow : OpenClaim := { program := "ytflgagglkkehiaadoor", sum := "803b320fcdbe60514c0a6478f5dc53edbfc2eb67a509e6f91ca1c9d7d285eebc", func := "lighter/lighterlaw05.BucketRoom", spec := "bucketRoom", inPlace := ["internal/bytealg.IndexByteString", "internal/bytealg.IndexString"], unfollowed := true, recurses := true, named := ["unicode/utf8.first", "unicode/utf8.acceptRanges", "internal/bytealg.MaxLen"], apart := false, laid := [("unicode/utf8.acceptRanges", laid_unicode_utf8_acceptRanges), ("unicode/utf8.first", laid_unicode_utf8_first)] }
def BucketRoomSaid : Prop := bucketRoomRow.holds Tryd.pinned (OpenSpec.ofChange bucketRoomSpec)

/-- ITS FALSE NEIGHBOUR: 'it returns false'. Refute it at one input. -/
def bucketRoomWrong : ChangeSpec := { name := "bucketRoom", fn := fun _ => fun
  | [d1, d2] => { results := [.lit (.bool false)], args := [d1, d2] }
  | _ => none }
def BucketRoomWrongFalsely : Prop := bucketRoomRow.holds Tryd.pinned (OpenSpec.ofChange bucketRoomWrong)

/-- 'lighterlaw05.BucketPlays': WHATEVER THE INPUT: true; the input reads as it did. -/
def bucketPlaysSpec : ChangeSpec := { name := "bucketPlays", fn := fun _ => fun
  | [d1, d2] => { results := [.lit (.bool true)], args := [d1, d2] }
  | _ => none }
def bucketPlaysRow : OpenClaim := { program := "ytflgagglkkehiaadoor", sum := "803b320fcdbe60514c0a6478f5dc53edbfc2eb67a509e6f91ca1c9d7d285eebc", func := "lighter/lighterlaw05.BucketPlays", spec := "bucketPlays", inPlace := ["internal/bytealg.IndexByteString", "internal/bytealg.IndexString"], unfollowed := true, recurses := true, named := ["unicode/utf8.first", "unicode/utf8.acceptRanges", "internal/bytealg.MaxLen"], apart := false, laid := [("unicode/utf8.acceptRanges", laid_unicode_utf8_acceptRanges), ("unicode/utf8.first", laid_unicode_utf8_first)] }
def BucketPlaysSaid : Prop := bucketPlaysRow.holds Tryd.pinned (OpenSpec.ofChange bucketPlaysSpec)

/-- ITS FALSE NEIGHBOUR: 'it returns false'. Refute it at one input. -/
def bucketPlaysWrong : ChangeSpec := { name := "bucketPlays", fn := fun _ => fun
  | [d1, d2] => { results := [.lit (.bool false)], args := [d1, d2] }
  | _ => none }
def BucketPlaysWrongFalsely : Prop := bucketPlaysRow.holds Tryd.pinned (OpenSpec.ofChange bucketPlaysWrong)

/-- 'lighterlaw05.BucketCopies': WHATEVER THE INPUT: true; the input reads as it did. -/
def bucketCopiesSpec : ChangeSpec := { name := "bucketCopies", fn := fun _ => fun
  | [d1, d2] => { results := [.lit (.bool true)], args := [d1, d2] }
  | _ => none }
def bucketCopiesRow : OpenClaim := { program := "ytflgagglkkehiaadoor", sum := "803b320fcdbe60514c0a6478f5dc53edbfc2eb67a509e6f91ca1c9d7d285eebc", func := "lighter/lighterlaw05.BucketCopies", spec := "bucketCopies", inPlace := ["internal/bytealg.IndexByteString", "internal/bytealg.IndexString", "maps.clone"], unfollowed := true, recurses := true, named := ["unicode/utf8.first", "unicode/utf8.acceptRanges", "internal/bytealg.MaxLen"], apart := false, laid := [("unicode/utf8.acceptRanges", laid_unicode_utf8_acceptRanges), ("unicode/utf8.first", laid_unicode_utf8_first)] }
def BucketCopiesSaid : Prop := bucketCopiesRow.holds Tryd.pinned (OpenSpec.ofChange bucketCopiesSpec)

/-- ITS FALSE NEIGHBOUR: 'it returns false'. Refute it at one input. -/
def bucketCopiesWrong : ChangeSpec := { name := "bucketCopies", fn := fun _ => fun
  | [d1, d2] => { results := [.lit (.bool false)], args := [d1, d2] }
  | _ => none }
def BucketCopiesWrongFalsely : Prop := bucketCopiesRow.holds Tryd.pinned (OpenSpec.ofChange bucketCopiesWrong)

/-- 'lighterlaw05.BucketNil': WHATEVER THE INPUT: true; the input reads as it did. -/
def bucketNilSpec : ChangeSpec := { name := "bucketNil", fn := fun _ => fun
  | [d] => { results := [.lit (.bool true)], args := [d] }
  | _ => none }
def bucketNilRow : OpenClaim := { program := "ytflgagglkkehiaadoor", sum := "803b320fcdbe60514c0a6478f5dc53edbfc2eb67a509e6f91ca1c9d7d285eebc", func := "lighter/lighterlaw05.BucketNil", spec := "bucketNil", inPlace := ["internal/bytealg.IndexByteString", "internal/bytealg.IndexString", "maps.clone"], unfollowed := true, recurses := true, named := ["unicode/utf8.first", "unicode/utf8.acceptRanges", "internal/bytealg.MaxLen"], apart := false, laid := [("unicode/utf8.acceptRanges", laid_unicode_utf8_acceptRanges), ("unicode/utf8.first", laid_unicode_utf8_first)] }
def BucketNilSaid : Prop := bucketNilRow.holds Tryd.pinned (OpenSpec.ofChange bucketNilSpec)

/-- ITS FALSE NEIGHBOUR: 'it returns false'. Refute it at one input. -/
def bucketNilWrong : ChangeSpec := { name := "bucketNil", fn := fun _ => fun
  | [d] => { results := [.lit (.bool false)], args := [d] }
  | _ => none }
def BucketNilWrongFalsely : Prop := bucketNilRow.holds Tryd.pinned (OpenSpec.ofChange bucketNilWrong)

/- THE SECOND FORM. 'bulk': how many values and letters a reading holds, each counted each time it is reached (what is shared counts as often as it is met; a slice's spare places count too). A statement '..UptoSaid' is the law's where the arguments, and the package variables that the reading takes, are together of bulk at most 1048576: NARROWER than '..Said'. Prove '..Said' where nothing that the law and all that it calls make is longer than what came in: it says more and counts as full. Else prove '..UptoSaid'. A law counts once. -/
mutual
def uptoBulk {H : Type} : DataW H → Nat
  | .lit (.string bytes) => bytes.length + 1
  | .lit _ => 1
  | .nil => 1
  | .ptr d => uptoBulk d + 1
  | .slice elems spare => uptoBulkAll elems + uptoBulkAll spare + 1
  | .agg parts => uptoBulkAll parts + 1
  | .iface _ d => uptoBulk d + 1
  | .map entries => uptoBulkEntries entries + 1
  | .held _ => 1
def uptoBulkAll {H : Type} : List (DataW H) → Nat
  | [] => 0
  | d :: r => uptoBulk d + uptoBulkAll r
def uptoBulkEntries {H : Type} : List (Lit × DataW H) → Nat
  | [] => 0
  | x :: r => uptoBulkEntry x + uptoBulkEntries r
def uptoBulkEntry {H : Type} : Lit × DataW H → Nat
  | (.string bytes, d) => bytes.length + uptoBulk d + 1
  | (_, d) => uptoBulk d + 1
 end
def uptoSmall : (H : Type) → List (DataW H) → Bool := fun _ ds => decide (uptoBulkAll ds ≤ 1048576)
def OpenSpec.upto (s : _root_.Go.ChangeSpec) : _root_.Go.OpenSpec := { _root_.Go.OpenSpec.ofChange s with cond := some uptoSmall }

/-- 'lighterlaw05.BucketLates', WHERE WHAT IT READS IS OF BULK AT MOST 1048576: true; the input reads as it did. -/
def bucketLatesUptoRow : OpenClaim := { program := "ytflgagglkkehiaadoor", sum := "803b320fcdbe60514c0a6478f5dc53edbfc2eb67a509e6f91ca1c9d7d285eebc", func := "lighter/lighterlaw05.BucketLates", spec := "bucketLates", inPlace := ["internal/bytealg.IndexByteString", "internal/bytealg.IndexString"], unfollowed := true, recurses := true, named := ["unicode/utf8.first", "unicode/utf8.acceptRanges", "internal/bytealg.MaxLen"], apart := false, laid := [("unicode/utf8.acceptRanges", laid_unicode_utf8_acceptRanges), ("unicode/utf8.first", laid_unicode_utf8_first)], narrowed := true }
def BucketLatesUptoSaid : Prop := bucketLatesUptoRow.holds Tryd.pinned (OpenSpec.upto bucketLatesSpec)

/-- 'lighterlaw05.BucketParts', WHERE WHAT IT READS IS OF BULK AT MOST 1048576: true; the input reads as it did. -/
def bucketPartsUptoRow : OpenClaim := { program := "ytflgagglkkehiaadoor", sum := "803b320fcdbe60514c0a6478f5dc53edbfc2eb67a509e6f91ca1c9d7d285eebc", func := "lighter/lighterlaw05.BucketParts", spec := "bucketParts", inPlace := ["internal/bytealg.IndexByteString", "internal/bytealg.IndexString"], unfollowed := true, recurses := true, named := ["unicode/utf8.first", "unicode/utf8.acceptRanges", "internal/bytealg.MaxLen"], apart := false, laid := [("unicode/utf8.acceptRanges", laid_unicode_utf8_acceptRanges), ("unicode/utf8.first", laid_unicode_utf8_first)], narrowed := true }
def BucketPartsUptoSaid : Prop := bucketPartsUptoRow.holds Tryd.pinned (OpenSpec.upto bucketPartsSpec)

/-- 'lighterlaw05.BucketOnce', WHERE WHAT IT READS IS OF BULK AT MOST 1048576: true; the input reads as it did. -/
def bucketOnceUptoRow : OpenClaim := { program := "ytflgagglkkehiaadoor", sum := "803b320fcdbe60514c0a6478f5dc53edbfc2eb67a509e6f91ca1c9d7d285eebc", func := "lighter/lighterlaw05.BucketOnce", spec := "bucketOnce", inPlace := ["internal/bytealg.IndexByteString", "internal/bytealg.IndexString"], unfollowed := true, recurses := true, named := ["unicode/utf8.first", "unicode/utf8.acceptRanges", "internal/bytealg.MaxLen"], apart := false, laid := [("unicode/utf8.acceptRanges", laid_unicode_utf8_acceptRanges), ("unicode/utf8.first", laid_unicode_utf8_first)], narrowed := true }
def BucketOnceUptoSaid : Prop := bucketOnceUptoRow.holds Tryd.pinned (OpenSpec.upto bucketOnceSpec)

/-- 'lighterlaw05.BucketLists', WHERE WHAT IT READS IS OF BULK AT MOST 1048576: true; the input reads as it did. -/
def bucketListsUptoRow : OpenClaim := { program := "ytflgagglkkehiaadoor", sum := "803b320fcdbe60514c0a6478f5dc53edbfc2eb67a509e6f91ca1c9d7d285eebc", func := "lighter/lighterlaw05.BucketLists", spec := "bucketLists", inPlace := ["internal/bytealg.IndexByteString", "internal/bytealg.IndexString"], unfollowed := true, recurses := true, named := ["unicode/utf8.first", "unicode/utf8.acceptRanges", "internal/bytealg.MaxLen"], apart := false, laid := [("unicode/utf8.acceptRanges", laid_unicode_utf8_acceptRanges), ("unicode/utf8.first", laid_unicode_utf8_first)], narrowed := true }
def BucketListsUptoSaid : Prop := bucketListsUptoRow.holds Tryd.pinned (OpenSpec.upto bucketListsSpec)

/-- 'lighterlaw05.BucketRoom', WHERE WHAT IT READS IS OF BULK AT MOST 1048576: true; the input reads as it did. -/
def bucketRoomUptoRow : OpenClaim := { program := "ytflgagglkkehiaadoor", sum := "803b320fcdbe60514c0a6478f5dc53edbfc2eb67a509e6f91ca1c9d7d285eebc", func := "lighter/lighterlaw05.BucketRoom", spec := "bucketRoom", inPlace := ["internal/bytealg.IndexByteString", "internal/bytealg.IndexString"], unfollowed := true, recurses := true, named := ["unicode/utf8.first", "unicode/utf8.acceptRanges", "internal/bytealg.MaxLen"], apart := false, laid := [("unicode/utf8.acceptRanges", laid_unicode_utf8_acceptRanges), ("unicode/utf8.first", laid_unicode_utf8_first)], narrowed := true }
def BucketRoomUptoSaid : Prop := bucketRoomUptoRow.holds Tryd.pinned (OpenSpec.upto bucketRoomSpec)

/-- 'lighterlaw05.BucketPlays', WHERE WHAT IT READS IS OF BULK AT MOST 1048576: true; the input reads as it did. -/
def bucketPlaysUptoRow : OpenClaim := { program := "ytflgagglkkehiaadoor", sum := "803b320fcdbe60514c0a6478f5dc53edbfc2eb67a509e6f91ca1c9d7d285eebc", func := "lighter/lighterlaw05.BucketPlays", spec := "bucketPlays", inPlace := ["internal/bytealg.IndexByteString", "internal/bytealg.IndexString"], unfollowed := true, recurses := true, named := ["unicode/utf8.first", "unicode/utf8.acceptRanges", "internal/bytealg.MaxLen"], apart := false, laid := [("unicode/utf8.acceptRanges", laid_unicode_utf8_acceptRanges), ("unicode/utf8.first", laid_unicode_utf8_first)], narrowed := true }
def BucketPlaysUptoSaid : Prop := bucketPlaysUptoRow.holds Tryd.pinned (OpenSpec.upto bucketPlaysSpec)

/-- 'lighterlaw05.BucketCopies', WHERE WHAT IT READS IS OF BULK AT MOST 1048576: true; the input reads as it did. -/
def bucketCopiesUptoRow : OpenClaim := { program := "ytflgagglkkehiaadoor", sum := "803b320fcdbe60514c0a6478f5dc53edbfc2eb67a509e6f91ca1c9d7d285eebc", func := "lighter/lighterlaw05.BucketCopies", spec := "bucketCopies", inPlace := ["internal/bytealg.IndexByteString", "internal/bytealg.IndexString", "maps.clone"], unfollowed := true, recurses := true, named := ["unicode/utf8.first", "unicode/utf8.acceptRanges", "internal/bytealg.MaxLen"], apart := false, laid := [("unicode/utf8.acceptRanges", laid_unicode_utf8_acceptRanges), ("unicode/utf8.first", laid_unicode_utf8_first)], narrowed := true }
def BucketCopiesUptoSaid : Prop := bucketCopiesUptoRow.holds Tryd.pinned (OpenSpec.upto bucketCopiesSpec)

/-- 'lighterlaw05.BucketNil', WHERE WHAT IT READS IS OF BULK AT MOST 1048576: true; the input reads as it did. -/
def bucketNilUptoRow : OpenClaim := { program := "ytflgagglkkehiaadoor", sum := "803b320fcdbe60514c0a6478f5dc53edbfc2eb67a509e6f91ca1c9d7d285eebc", func := "lighter/lighterlaw05.BucketNil", spec := "bucketNil", inPlace := ["internal/bytealg.IndexByteString", "internal/bytealg.IndexString", "maps.clone"], unfollowed := true, recurses := true, named := ["unicode/utf8.first", "unicode/utf8.acceptRanges", "internal/bytealg.MaxLen"], apart := false, laid := [("unicode/utf8.acceptRanges", laid_unicode_utf8_acceptRanges), ("unicode/utf8.first", laid_unicode_utf8_first)], narrowed := true }
def BucketNilUptoSaid : Prop := bucketNilUptoRow.holds Tryd.pinned (OpenSpec.upto bucketNilSpec)

end Rows
end Go.Proofs.YtflgagglkkehiaaDoor
