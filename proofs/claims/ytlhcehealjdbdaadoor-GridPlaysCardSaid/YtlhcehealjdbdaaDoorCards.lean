/-
  DERIVED. GIVEN WITH THE SEED: THE CARDS: each row of YtlhcehealjdbdaaDoorRows.lean that lists a variable, with what it lists TIED to the program's text (the seventh form; the later family's looks); each row that meets fmt, with fmt's text TOLD by the authors' own Lean function (tested against real Go, not proved from fmt's source: count such statements apart). THE CARD IS WHAT COUNTS. Prove the row's statement (the work); the ties are given (YtlhcehealjdbdaaDoorTie.lean); close each card by the builder's one call (the guide's Derived/Test/ToyasCard.lean, 'card_holds'). Laid BY PROGRAM, IN A SANDBOX (cutbox-door.mjs). By AI agents, Wed Nov 11 2026. No macro, syntax, notation, axiom, sorry.
-/
import Derived.Test.YtlhcehealjdbdaaDoorRows
import GoSem.ClaimSeven
namespace Go.Proofs.YtlhcehealjdbdaaDoor
namespace Rows

/-- THE TIED CARD OF 'spyglasslaw08.CellMay'. -/
def cellMayCard : Claim7 := { stood := { row := cellMayRow, standIns := [], harness := (true, "69ccd3838a5cb51dd61d564c4f494b3912c647fc7c560c7e5efd17807a43e8cf"), looks := false }, kinds := [], alts := [], laidByText := true, laidKinds := [.data, .data], laidTests := true, laidLooks := .later }
def CellMayCardSaid : Prop := Claim7.holds Tryd.pinned (.plain (OpenSpec.ofChange cellMaySpec)) cellMayCard

/-- THE TIED CARD OF 'spyglasslaw08.CellShifts'. -/
def cellShiftsCard : Claim7 := { stood := { row := cellShiftsRow, standIns := [], harness := (true, "69ccd3838a5cb51dd61d564c4f494b3912c647fc7c560c7e5efd17807a43e8cf"), looks := false }, kinds := [], alts := [], laidByText := true, laidKinds := [.data, .data], laidTests := true, laidLooks := .later }
def CellShiftsCardSaid : Prop := Claim7.holds Tryd.pinned (.plain (OpenSpec.ofChange cellShiftsSpec)) cellShiftsCard

/-- THE TIED CARD OF 'spyglasslaw08.CellDoes'. -/
def cellDoesCard : Claim7 := { stood := { row := cellDoesRow, standIns := [], harness := (true, "69ccd3838a5cb51dd61d564c4f494b3912c647fc7c560c7e5efd17807a43e8cf"), looks := false }, kinds := [], alts := [], laidByText := true, laidKinds := [.data, .data], laidTests := true, laidLooks := .later }
def CellDoesCardSaid : Prop := Claim7.holds Tryd.pinned (.plain (OpenSpec.ofChange cellDoesSpec)) cellDoesCard

/-- THE TIED CARD OF 'spyglasslaw08.CellPlays'. -/
def cellPlaysCard : Claim7 := { stood := { row := cellPlaysRow, standIns := [], harness := (true, "69ccd3838a5cb51dd61d564c4f494b3912c647fc7c560c7e5efd17807a43e8cf"), looks := false }, kinds := [], alts := [], laidByText := true, laidKinds := [.data, .data], laidTests := true, laidLooks := .later }
def CellPlaysCardSaid : Prop := Claim7.holds Tryd.pinned (.plain (OpenSpec.ofChange cellPlaysSpec)) cellPlaysCard

/-- THE TIED CARD OF 'spyglasslaw08.CellElse'. -/
def cellElseCard : Claim7 := { stood := { row := cellElseRow, standIns := [], harness := (true, "69ccd3838a5cb51dd61d564c4f494b3912c647fc7c560c7e5efd17807a43e8cf"), looks := false }, kinds := [], alts := [], laidByText := true, laidKinds := [.data, .data], laidTests := true, laidLooks := .later }
def CellElseCardSaid : Prop := Claim7.holds Tryd.pinned (.plain (OpenSpec.ofChange cellElseSpec)) cellElseCard

/-- THE TIED CARD OF 'spyglasslaw09.GridNew'. -/
def gridNewCard : Claim7 := { stood := { row := gridNewRow, standIns := [], harness := (true, "69ccd3838a5cb51dd61d564c4f494b3912c647fc7c560c7e5efd17807a43e8cf"), looks := false }, kinds := [], alts := [], laidByText := true, laidKinds := [.data, .data], laidTests := true, laidLooks := .later }
def GridNewCardSaid : Prop := Claim7.holds Tryd.pinned (.plain (OpenSpec.ofChange gridNewSpec)) gridNewCard

/-- THE TIED CARD OF 'spyglasslaw09.GridScrolls'. -/
def gridScrollsCard : Claim7 := { stood := { row := gridScrollsRow, standIns := [], harness := (true, "69ccd3838a5cb51dd61d564c4f494b3912c647fc7c560c7e5efd17807a43e8cf"), looks := false }, kinds := [], alts := [], laidByText := true, laidKinds := [.data, .data], laidTests := true, laidLooks := .later }
def GridScrollsCardSaid : Prop := Claim7.holds Tryd.pinned (.plain (OpenSpec.ofChange gridScrollsSpec)) gridScrollsCard

/-- THE TIED CARD OF 'spyglasslaw09.GridBack'. -/
def gridBackCard : Claim7 := { stood := { row := gridBackRow, standIns := [], harness := (true, "69ccd3838a5cb51dd61d564c4f494b3912c647fc7c560c7e5efd17807a43e8cf"), looks := false }, kinds := [], alts := [], laidByText := true, laidKinds := [.data, .data], laidTests := true, laidLooks := .later }
def GridBackCardSaid : Prop := Claim7.holds Tryd.pinned (.plain (OpenSpec.ofChange gridBackSpec)) gridBackCard

/-- THE TIED CARD OF 'spyglasslaw09.GridDoes'. -/
def gridDoesCard : Claim7 := { stood := { row := gridDoesRow, standIns := [], harness := (true, "69ccd3838a5cb51dd61d564c4f494b3912c647fc7c560c7e5efd17807a43e8cf"), looks := false }, kinds := [], alts := [], laidByText := true, laidKinds := [.data, .data], laidTests := true, laidLooks := .later }
def GridDoesCardSaid : Prop := Claim7.holds Tryd.pinned (.plain (OpenSpec.ofChange gridDoesSpec)) gridDoesCard

/-- THE TIED CARD OF 'spyglasslaw09.GridPlays'. -/
def gridPlaysCard : Claim7 := { stood := { row := gridPlaysRow, standIns := [], harness := (true, "69ccd3838a5cb51dd61d564c4f494b3912c647fc7c560c7e5efd17807a43e8cf"), looks := false }, kinds := [], alts := [], laidByText := true, laidKinds := [.data, .data], laidTests := true, laidLooks := .later }
def GridPlaysCardSaid : Prop := Claim7.holds Tryd.pinned (.plain (OpenSpec.ofChange gridPlaysSpec)) gridPlaysCard

/-- THE TIED CARD OF 'spyglasslaw09.GridRows'. -/
def gridRowsCard : Claim7 := { stood := { row := gridRowsRow, standIns := [], harness := (true, "69ccd3838a5cb51dd61d564c4f494b3912c647fc7c560c7e5efd17807a43e8cf"), looks := false }, kinds := [], alts := [], laidByText := true, laidKinds := [.data, .data], laidTests := true, laidLooks := .later }
def GridRowsCardSaid : Prop := Claim7.holds Tryd.pinned (.plain (OpenSpec.ofChange gridRowsSpec)) gridRowsCard

/-- THE SECOND FORM's CARD OF 'spyglasslaw08.CellMay'. -/
def cellMayUptoCard : Claim7 := { stood := { row := cellMayUptoRow, standIns := [], harness := (true, "69ccd3838a5cb51dd61d564c4f494b3912c647fc7c560c7e5efd17807a43e8cf"), looks := false }, kinds := [], alts := [], laidByText := true, laidKinds := [.data, .data], laidTests := true, laidLooks := .later }
def CellMayUptoCardSaid : Prop := Claim7.holds Tryd.pinned (.plain (OpenSpec.upto cellMaySpec)) cellMayUptoCard

/-- THE SECOND FORM's CARD OF 'spyglasslaw08.CellShifts'. -/
def cellShiftsUptoCard : Claim7 := { stood := { row := cellShiftsUptoRow, standIns := [], harness := (true, "69ccd3838a5cb51dd61d564c4f494b3912c647fc7c560c7e5efd17807a43e8cf"), looks := false }, kinds := [], alts := [], laidByText := true, laidKinds := [.data, .data], laidTests := true, laidLooks := .later }
def CellShiftsUptoCardSaid : Prop := Claim7.holds Tryd.pinned (.plain (OpenSpec.upto cellShiftsSpec)) cellShiftsUptoCard

/-- THE SECOND FORM's CARD OF 'spyglasslaw08.CellDoes'. -/
def cellDoesUptoCard : Claim7 := { stood := { row := cellDoesUptoRow, standIns := [], harness := (true, "69ccd3838a5cb51dd61d564c4f494b3912c647fc7c560c7e5efd17807a43e8cf"), looks := false }, kinds := [], alts := [], laidByText := true, laidKinds := [.data, .data], laidTests := true, laidLooks := .later }
def CellDoesUptoCardSaid : Prop := Claim7.holds Tryd.pinned (.plain (OpenSpec.upto cellDoesSpec)) cellDoesUptoCard

/-- THE SECOND FORM's CARD OF 'spyglasslaw08.CellPlays'. -/
def cellPlaysUptoCard : Claim7 := { stood := { row := cellPlaysUptoRow, standIns := [], harness := (true, "69ccd3838a5cb51dd61d564c4f494b3912c647fc7c560c7e5efd17807a43e8cf"), looks := false }, kinds := [], alts := [], laidByText := true, laidKinds := [.data, .data], laidTests := true, laidLooks := .later }
def CellPlaysUptoCardSaid : Prop := Claim7.holds Tryd.pinned (.plain (OpenSpec.upto cellPlaysSpec)) cellPlaysUptoCard

/-- THE SECOND FORM's CARD OF 'spyglasslaw08.CellElse'. -/
def cellElseUptoCard : Claim7 := { stood := { row := cellElseUptoRow, standIns := [], harness := (true, "69ccd3838a5cb51dd61d564c4f494b3912c647fc7c560c7e5efd17807a43e8cf"), looks := false }, kinds := [], alts := [], laidByText := true, laidKinds := [.data, .data], laidTests := true, laidLooks := .later }
def CellElseUptoCardSaid : Prop := Claim7.holds Tryd.pinned (.plain (OpenSpec.upto cellElseSpec)) cellElseUptoCard

/-- THE SECOND FORM's CARD OF 'spyglasslaw09.GridNew'. -/
def gridNewUptoCard : Claim7 := { stood := { row := gridNewUptoRow, standIns := [], harness := (true, "69ccd3838a5cb51dd61d564c4f494b3912c647fc7c560c7e5efd17807a43e8cf"), looks := false }, kinds := [], alts := [], laidByText := true, laidKinds := [.data, .data], laidTests := true, laidLooks := .later }
def GridNewUptoCardSaid : Prop := Claim7.holds Tryd.pinned (.plain (OpenSpec.upto gridNewSpec)) gridNewUptoCard

/-- THE SECOND FORM's CARD OF 'spyglasslaw09.GridScrolls'. -/
def gridScrollsUptoCard : Claim7 := { stood := { row := gridScrollsUptoRow, standIns := [], harness := (true, "69ccd3838a5cb51dd61d564c4f494b3912c647fc7c560c7e5efd17807a43e8cf"), looks := false }, kinds := [], alts := [], laidByText := true, laidKinds := [.data, .data], laidTests := true, laidLooks := .later }
def GridScrollsUptoCardSaid : Prop := Claim7.holds Tryd.pinned (.plain (OpenSpec.upto gridScrollsSpec)) gridScrollsUptoCard

/-- THE SECOND FORM's CARD OF 'spyglasslaw09.GridBack'. -/
def gridBackUptoCard : Claim7 := { stood := { row := gridBackUptoRow, standIns := [], harness := (true, "69ccd3838a5cb51dd61d564c4f494b3912c647fc7c560c7e5efd17807a43e8cf"), looks := false }, kinds := [], alts := [], laidByText := true, laidKinds := [.data, .data], laidTests := true, laidLooks := .later }
def GridBackUptoCardSaid : Prop := Claim7.holds Tryd.pinned (.plain (OpenSpec.upto gridBackSpec)) gridBackUptoCard

/-- THE SECOND FORM's CARD OF 'spyglasslaw09.GridDoes'. -/
def gridDoesUptoCard : Claim7 := { stood := { row := gridDoesUptoRow, standIns := [], harness := (true, "69ccd3838a5cb51dd61d564c4f494b3912c647fc7c560c7e5efd17807a43e8cf"), looks := false }, kinds := [], alts := [], laidByText := true, laidKinds := [.data, .data], laidTests := true, laidLooks := .later }
def GridDoesUptoCardSaid : Prop := Claim7.holds Tryd.pinned (.plain (OpenSpec.upto gridDoesSpec)) gridDoesUptoCard

/-- THE SECOND FORM's CARD OF 'spyglasslaw09.GridPlays'. -/
def gridPlaysUptoCard : Claim7 := { stood := { row := gridPlaysUptoRow, standIns := [], harness := (true, "69ccd3838a5cb51dd61d564c4f494b3912c647fc7c560c7e5efd17807a43e8cf"), looks := false }, kinds := [], alts := [], laidByText := true, laidKinds := [.data, .data], laidTests := true, laidLooks := .later }
def GridPlaysUptoCardSaid : Prop := Claim7.holds Tryd.pinned (.plain (OpenSpec.upto gridPlaysSpec)) gridPlaysUptoCard

/-- THE SECOND FORM's CARD OF 'spyglasslaw09.GridRows'. -/
def gridRowsUptoCard : Claim7 := { stood := { row := gridRowsUptoRow, standIns := [], harness := (true, "69ccd3838a5cb51dd61d564c4f494b3912c647fc7c560c7e5efd17807a43e8cf"), looks := false }, kinds := [], alts := [], laidByText := true, laidKinds := [.data, .data], laidTests := true, laidLooks := .later }
def GridRowsUptoCardSaid : Prop := Claim7.holds Tryd.pinned (.plain (OpenSpec.upto gridRowsSpec)) gridRowsUptoCard
end Rows
end Go.Proofs.YtlhcehealjdbdaaDoor
