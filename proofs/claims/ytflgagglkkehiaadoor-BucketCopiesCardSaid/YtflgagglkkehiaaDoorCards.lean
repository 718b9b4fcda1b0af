/-
  DERIVED. GIVEN WITH THE SEED: THE CARDS: each row of YtflgagglkkehiaaDoorRows.lean that lists a variable, with what it lists TIED to the program's text (the seventh form; the later family's looks); each row that meets fmt, with fmt's text TOLD by the authors' own Lean function (tested against real Go, not proved from fmt's source: count such statements apart). THE CARD IS WHAT COUNTS. Prove the row's statement (the work); the ties are given (YtflgagglkkehiaaDoorTie.lean); close each card by the builder's one call (the guide's Derived/Test/ToyasCard.lean, 'card_holds'). Laid BY PROGRAM, IN A SANDBOX (cutbox-door.mjs). By AI agents, Wed Nov 11 2026. No macro, syntax, notation, axiom, sorry.
-/
import Derived.Test.YtflgagglkkehiaaDoorRows
import GoSem.ClaimSeven
namespace Go.Proofs.YtflgagglkkehiaaDoor
namespace Rows

/-- THE TIED CARD OF 'lighterlaw05.BucketLates'. -/
def bucketLatesCard : Claim7 := { stood := { row := bucketLatesRow, standIns := [], harness := (true, "e4129f4e5938461e8878458e06df438afec1d99629e799e21c52c19d7c204c58"), looks := true }, kinds := [], alts := [], laidByText := true, laidKinds := [.data, .pinned], laidTests := true, laidLooks := .later }
def BucketLatesCardSaid : Prop := Claim7.holds Tryd.pinned (.plain (OpenSpec.ofChange bucketLatesSpec)) bucketLatesCard

/-- THE TIED CARD OF 'lighterlaw05.BucketParts'. -/
def bucketPartsCard : Claim7 := { stood := { row := bucketPartsRow, standIns := [], harness := (true, "e4129f4e5938461e8878458e06df438afec1d99629e799e21c52c19d7c204c58"), looks := true }, kinds := [], alts := [], laidByText := true, laidKinds := [.data, .pinned], laidTests := true, laidLooks := .later }
def BucketPartsCardSaid : Prop := Claim7.holds Tryd.pinned (.plain (OpenSpec.ofChange bucketPartsSpec)) bucketPartsCard

/-- THE TIED CARD OF 'lighterlaw05.BucketOnce'. -/
def bucketOnceCard : Claim7 := { stood := { row := bucketOnceRow, standIns := [], harness := (true, "e4129f4e5938461e8878458e06df438afec1d99629e799e21c52c19d7c204c58"), looks := true }, kinds := [], alts := [], laidByText := true, laidKinds := [.data, .pinned], laidTests := true, laidLooks := .later }
def BucketOnceCardSaid : Prop := Claim7.holds Tryd.pinned (.plain (OpenSpec.ofChange bucketOnceSpec)) bucketOnceCard

/-- THE TIED CARD OF 'lighterlaw05.BucketLists'. -/
def bucketListsCard : Claim7 := { stood := { row := bucketListsRow, standIns := [], harness := (true, "e4129f4e5938461e8878458e06df438afec1d99629e799e21c52c19d7c204c58"), looks := true }, kinds := [], alts := [], laidByText := true, laidKinds := [.data, .pinned], laidTests := true, laidLooks := .later }
def BucketListsCardSaid : Prop := Claim7.holds Tryd.pinned (.plain (OpenSpec.ofChange bucketListsSpec)) bucketListsCard

/-- THE TIED CARD OF 'lighterlaw05.BucketRoom'. -/
def bucketRoomCard : Claim7 := { stood := { row := bucketRoomRow, standIns := [], harness := (true, "e4129f4e5938461e8878458e06df438afec1d99629e799e21c52c19d7c204c58"), looks := true }, kinds := [], alts := [], laidByText := true, laidKinds := [.data, .pinned], laidTests := true, laidLooks := .later }
def BucketRoomCardSaid : Prop := Claim7.holds Tryd.pinned (.plain (OpenSpec.ofChange bucketRoomSpec)) bucketRoomCard

/-- THE TIED CARD OF 'lighterlaw05.BucketPlays'. -/
def bucketPlaysCard : Claim7 := { stood := { row := bucketPlaysRow, standIns := [], harness := (true, "e4129f4e5938461e8878458e06df438afec1d99629e799e21c52c19d7c204c58"), looks := true }, kinds := [], alts := [], laidByText := true, laidKinds := [.data, .pinned], laidTests := true, laidLooks := .later }
def BucketPlaysCardSaid : Prop := Claim7.holds Tryd.pinned (.plain (OpenSpec.ofChange bucketPlaysSpec)) bucketPlaysCard

/-- THE TIED CARD OF 'lighterlaw05.BucketCopies'. -/
def bucketCopiesCard : Claim7 := { stood := { row := bucketCopiesRow, standIns := [], harness := (true, "e4129f4e5938461e8878458e06df438afec1d99629e799e21c52c19d7c204c58"), looks := true }, kinds := [], alts := [], laidByText := true, laidKinds := [.data, .pinned], laidTests := true, laidLooks := .later }
def BucketCopiesCardSaid : Prop := Claim7.holds Tryd.pinned (.plain (OpenSpec.ofChange bucketCopiesSpec)) bucketCopiesCard

/-- THE TIED CARD OF 'lighterlaw05.BucketNil'. -/
def bucketNilCard : Claim7 := { stood := { row := bucketNilRow, standIns := [], harness := (true, "e4129f4e5938461e8878458e06df438afec1d99629e799e21c52c19d7c204c58"), looks := true }, kinds := [], alts := [], laidByText := true, laidKinds := [.data, .pinned], laidTests := true, laidLooks := .later }
def BucketNilCardSaid : Prop := Claim7.holds Tryd.pinned (.plain (OpenSpec.ofChange bucketNilSpec)) bucketNilCard

/-- THE SECOND FORM's CARD OF 'lighterlaw05.BucketLates'. -/
def bucketLatesUptoCard : Claim7 := { stood := { row := bucketLatesUptoRow, standIns := [], harness := (true, "e4129f4e5938461e8878458e06df438afec1d99629e799e21c52c19d7c204c58"), looks := true }, kinds := [], alts := [], laidByText := true, laidKinds := [.data, .pinned], laidTests := true, laidLooks := .later }
def BucketLatesUptoCardSaid : Prop := Claim7.holds Tryd.pinned (.plain (OpenSpec.upto bucketLatesSpec)) bucketLatesUptoCard

/-- THE SECOND FORM's CARD OF 'lighterlaw05.BucketParts'. -/
def bucketPartsUptoCard : Claim7 := { stood := { row := bucketPartsUptoRow, standIns := [], harness := (true, "e4129f4e5938461e8878458e06df438afec1d99629e799e21c52c19d7c204c58"), looks := true }, kinds := [], alts := [], laidByText := true, laidKinds := [.data, .pinned], laidTests := true, laidLooks := .later }
def BucketPartsUptoCardSaid : Prop := Claim7.holds Tryd.pinned (.plain (OpenSpec.upto bucketPartsSpec)) bucketPartsUptoCard

/-- THE SECOND FORM's CARD OF 'lighterlaw05.BucketOnce'. -/
def bucketOnceUptoCard : Claim7 := { stood := { row := bucketOnceUptoRow, standIns := [], harness := (true, "e4129f4e5938461e8878458e06df438afec1d99629e799e21c52c19d7c204c58"), looks := true }, kinds := [], alts := [], laidByText := true, laidKinds := [.data, .pinned], laidTests := true, laidLooks := .later }
def BucketOnceUptoCardSaid : Prop := Claim7.holds Tryd.pinned (.plain (OpenSpec.upto bucketOnceSpec)) bucketOnceUptoCard

/-- THE SECOND FORM's CARD OF 'lighterlaw05.BucketLists'. -/
def bucketListsUptoCard : Claim7 := { stood := { row := bucketListsUptoRow, standIns := [], harness := (true, "e4129f4e5938461e8878458e06df438afec1d99629e799e21c52c19d7c204c58"), looks := true }, kinds := [], alts := [], laidByText := true, laidKinds := [.data, .pinned], laidTests := true, laidLooks := .later }
def BucketListsUptoCardSaid : Prop := Claim7.holds Tryd.pinned (.plain (OpenSpec.upto bucketListsSpec)) bucketListsUptoCard

/-- THE SECOND FORM's CARD OF 'lighterlaw05.BucketRoom'. -/
def bucketRoomUptoCard : Claim7 := { stood := { row := bucketRoomUptoRow, standIns := [], harness := (true, "e4129f4e5938461e8878458e06df438afec1d99629e799e21c52c19d7c204c58"), looks := true }, kinds := [], alts := [], laidByText := true, laidKinds := [.data, .pinned], laidTests := true, laidLooks := .later }
def BucketRoomUptoCardSaid : Prop := Claim7.holds Tryd.pinned (.plain (OpenSpec.upto bucketRoomSpec)) bucketRoomUptoCard

/-- THE SECOND FORM's CARD OF 'lighterlaw05.BucketPlays'. -/
def bucketPlaysUptoCard : Claim7 := { stood := { row := bucketPlaysUptoRow, standIns := [], harness := (true, "e4129f4e5938461e8878458e06df438afec1d99629e799e21c52c19d7c204c58"), looks := true }, kinds := [], alts := [], laidByText := true, laidKinds := [.data, .pinned], laidTests := true, laidLooks := .later }
def BucketPlaysUptoCardSaid : Prop := Claim7.holds Tryd.pinned (.plain (OpenSpec.upto bucketPlaysSpec)) bucketPlaysUptoCard

/-- THE SECOND FORM's CARD OF 'lighterlaw05.BucketCopies'. -/
def bucketCopiesUptoCard : Claim7 := { stood := { row := bucketCopiesUptoRow, standIns := [], harness := (true, "e4129f4e5938461e8878458e06df438afec1d99629e799e21c52c19d7c204c58"), looks := true }, kinds := [], alts := [], laidByText := true, laidKinds := [.data, .pinned], laidTests := true, laidLooks := .later }
def BucketCopiesUptoCardSaid : Prop := Claim7.holds Tryd.pinned (.plain (OpenSpec.upto bucketCopiesSpec)) bucketCopiesUptoCard

/-- THE SECOND FORM's CARD OF 'lighterlaw05.BucketNil'. -/
def bucketNilUptoCard : Claim7 := { stood := { row := bucketNilUptoRow, standIns := [], harness := (true, "e4129f4e5938461e8878458e06df438afec1d99629e799e21c52c19d7c204c58"), looks := true }, kinds := [], alts := [], laidByText := true, laidKinds := [.data, .pinned], laidTests := true, laidLooks := .later }
def BucketNilUptoCardSaid : Prop := Claim7.holds Tryd.pinned (.plain (OpenSpec.upto bucketNilSpec)) bucketNilUptoCard
end Rows
end Go.Proofs.YtflgagglkkehiaaDoor
