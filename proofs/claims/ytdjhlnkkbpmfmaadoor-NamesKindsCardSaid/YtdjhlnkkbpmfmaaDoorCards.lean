/-
  DERIVED. GIVEN WITH THE SEED: THE CARDS: each row of YtdjhlnkkbpmfmaaDoorRows.lean that lists a variable, with what it lists TIED to the program's text (the seventh form; the later family's looks); each row that meets fmt, with fmt's text TOLD by the authors' own Lean function (tested against real Go, not proved from fmt's source: count such statements apart). THE CARD IS WHAT COUNTS. Prove the row's statement (the work); the ties are given (YtdjhlnkkbpmfmaaDoorTie.lean); close each card by the builder's one call (the guide's Derived/Test/ToyasCard.lean, 'card_holds'). Laid BY PROGRAM, IN A SANDBOX (cutbox-door.mjs). By AI agents, Wed Nov 11 2026. No macro, syntax, notation, axiom, sorry.
-/
import Derived.Test.YtdjhlnkkbpmfmaaDoorRows
import GoSem.ClaimSeven
namespace Go.Proofs.YtdjhlnkkbpmfmaaDoor
namespace Rows

/-- THE TIED CARD OF 'lighterlaw06.NamesPrints'. -/
def namesPrintsCard : Claim7 := { stood := { row := namesPrintsRow, standIns := [], harness := (true, "26b2cc9c3f49e4949bc51066b1427384f19d46f4a3ab545aeda3a152b4766243"), looks := false }, kinds := [], alts := [], laidByText := true, laidKinds := [.data, .data, .data], laidTests := true, laidLooks := .later }
def NamesPrintsCardSaid : Prop := Claim7.holds Tryd.pinned (.plain (OpenSpec.ofChange namesPrintsSpec)) namesPrintsCard

/-- THE TIED CARD OF 'lighterlaw06.NamesRuns'. -/
def namesRunsCard : Claim7 := { stood := { row := namesRunsRow, standIns := [], harness := (true, "26b2cc9c3f49e4949bc51066b1427384f19d46f4a3ab545aeda3a152b4766243"), looks := false }, kinds := [], alts := [], laidByText := true, laidKinds := [.data, .data, .data], laidTests := true, laidLooks := .later }
def NamesRunsCardSaid : Prop := Claim7.holds Tryd.pinned (.plain (OpenSpec.ofChange namesRunsSpec)) namesRunsCard

/-- THE TIED CARD OF 'lighterlaw06.NamesOrder'. -/
def namesOrderCard : Claim7 := { stood := { row := namesOrderRow, standIns := [], harness := (true, "26b2cc9c3f49e4949bc51066b1427384f19d46f4a3ab545aeda3a152b4766243"), looks := false }, kinds := [], alts := [], laidByText := true, laidKinds := [.data, .data, .data], laidTests := true, laidLooks := .later }
def NamesOrderCardSaid : Prop := Claim7.holds Tryd.pinned (.plain (OpenSpec.ofChange namesOrderSpec)) namesOrderCard

/-- THE TIED CARD OF 'lighterlaw06.NamesParses'. -/
def namesParsesCard : Claim7 := { stood := { row := namesParsesRow, standIns := [], harness := (true, "26b2cc9c3f49e4949bc51066b1427384f19d46f4a3ab545aeda3a152b4766243"), looks := false }, kinds := [], alts := [], laidByText := true, laidKinds := [.data, .data, .data], laidTests := true, laidLooks := .later }
def NamesParsesCardSaid : Prop := Claim7.holds Tryd.pinned (.plain (OpenSpec.ofChange namesParsesSpec)) namesParsesCard

/-- THE TIED CARD OF 'lighterlaw06.NamesBack'. -/
def namesBackCard : Claim7 := { stood := { row := namesBackRow, standIns := [], harness := (true, "26b2cc9c3f49e4949bc51066b1427384f19d46f4a3ab545aeda3a152b4766243"), looks := false }, kinds := [], alts := [], laidByText := true, laidKinds := [.data, .data, .data], laidTests := true, laidLooks := .later }
def NamesBackCardSaid : Prop := Claim7.holds Tryd.pinned (.plain (OpenSpec.ofChange namesBackSpec)) namesBackCard

/-- THE TIED CARD OF 'lighterlaw06.NamesSifts'. -/
def namesSiftsCard : Claim7 := { stood := { row := namesSiftsRow, standIns := [], harness := (true, "26b2cc9c3f49e4949bc51066b1427384f19d46f4a3ab545aeda3a152b4766243"), looks := false }, kinds := [], alts := [], laidByText := true, laidKinds := [.data, .data, .data], laidTests := true, laidLooks := .later }
def NamesSiftsCardSaid : Prop := Claim7.holds Tryd.pinned (.plain (OpenSpec.ofChange namesSiftsSpec)) namesSiftsCard

/-- THE TIED CARD OF 'lighterlaw06.NamesKinds'. -/
def namesKindsCard : Claim7 := { stood := { row := namesKindsRow, standIns := [], harness := (true, "26b2cc9c3f49e4949bc51066b1427384f19d46f4a3ab545aeda3a152b4766243"), looks := false }, kinds := [], alts := [], laidByText := true, laidKinds := [.data, .data, .data], laidTests := true, laidLooks := .later }
def NamesKindsCardSaid : Prop := Claim7.holds Tryd.pinned (.plain (OpenSpec.ofChange namesKindsSpec)) namesKindsCard

/-- THE SECOND FORM's CARD OF 'lighterlaw06.NamesPrints'. -/
def namesPrintsUptoCard : Claim7 := { stood := { row := namesPrintsUptoRow, standIns := [], harness := (true, "26b2cc9c3f49e4949bc51066b1427384f19d46f4a3ab545aeda3a152b4766243"), looks := false }, kinds := [], alts := [], laidByText := true, laidKinds := [.data, .data, .data], laidTests := true, laidLooks := .later }
def NamesPrintsUptoCardSaid : Prop := Claim7.holds Tryd.pinned (.plain (OpenSpec.upto namesPrintsSpec)) namesPrintsUptoCard

/-- THE SECOND FORM's CARD OF 'lighterlaw06.NamesRuns'. -/
def namesRunsUptoCard : Claim7 := { stood := { row := namesRunsUptoRow, standIns := [], harness := (true, "26b2cc9c3f49e4949bc51066b1427384f19d46f4a3ab545aeda3a152b4766243"), looks := false }, kinds := [], alts := [], laidByText := true, laidKinds := [.data, .data, .data], laidTests := true, laidLooks := .later }
def NamesRunsUptoCardSaid : Prop := Claim7.holds Tryd.pinned (.plain (OpenSpec.upto namesRunsSpec)) namesRunsUptoCard

/-- THE SECOND FORM's CARD OF 'lighterlaw06.NamesOrder'. -/
def namesOrderUptoCard : Claim7 := { stood := { row := namesOrderUptoRow, standIns := [], harness := (true, "26b2cc9c3f49e4949bc51066b1427384f19d46f4a3ab545aeda3a152b4766243"), looks := false }, kinds := [], alts := [], laidByText := true, laidKinds := [.data, .data, .data], laidTests := true, laidLooks := .later }
def NamesOrderUptoCardSaid : Prop := Claim7.holds Tryd.pinned (.plain (OpenSpec.upto namesOrderSpec)) namesOrderUptoCard

/-- THE SECOND FORM's CARD OF 'lighterlaw06.NamesParses'. -/
def namesParsesUptoCard : Claim7 := { stood := { row := namesParsesUptoRow, standIns := [], harness := (true, "26b2cc9c3f49e4949bc51066b1427384f19d46f4a3ab545aeda3a152b4766243"), looks := false }, kinds := [], alts := [], laidByText := true, laidKinds := [.data, .data, .data], laidTests := true, laidLooks := .later }
def NamesParsesUptoCardSaid : Prop := Claim7.holds Tryd.pinned (.plain (OpenSpec.upto namesParsesSpec)) namesParsesUptoCard

/-- THE SECOND FORM's CARD OF 'lighterlaw06.NamesBack'. -/
def namesBackUptoCard : Claim7 := { stood := { row := namesBackUptoRow, standIns := [], harness := (true, "26b2cc9c3f49e4949bc51066b1427384f19d46f4a3ab545aeda3a152b4766243"), looks := false }, kinds := [], alts := [], laidByText := true, laidKinds := [.data, .data, .data], laidTests := true, laidLooks := .later }
def NamesBackUptoCardSaid : Prop := Claim7.holds Tryd.pinned (.plain (OpenSpec.upto namesBackSpec)) namesBackUptoCard

/-- THE SECOND FORM's CARD OF 'lighterlaw06.NamesSifts'. -/
def namesSiftsUptoCard : Claim7 := { stood := { row := namesSiftsUptoRow, standIns := [], harness := (true, "26b2cc9c3f49e4949bc51066b1427384f19d46f4a3ab545aeda3a152b4766243"), looks := false }, kinds := [], alts := [], laidByText := true, laidKinds := [.data, .data, .data], laidTests := true, laidLooks := .later }
def NamesSiftsUptoCardSaid : Prop := Claim7.holds Tryd.pinned (.plain (OpenSpec.upto namesSiftsSpec)) namesSiftsUptoCard

/-- THE SECOND FORM's CARD OF 'lighterlaw06.NamesKinds'. -/
def namesKindsUptoCard : Claim7 := { stood := { row := namesKindsUptoRow, standIns := [], harness := (true, "26b2cc9c3f49e4949bc51066b1427384f19d46f4a3ab545aeda3a152b4766243"), looks := false }, kinds := [], alts := [], laidByText := true, laidKinds := [.data, .data, .data], laidTests := true, laidLooks := .later }
def NamesKindsUptoCardSaid : Prop := Claim7.holds Tryd.pinned (.plain (OpenSpec.upto namesKindsSpec)) namesKindsUptoCard
end Rows
end Go.Proofs.YtdjhlnkkbpmfmaaDoor
