/-
  DERIVED. GIVEN WITH THE SEED: THE CARDS: each row of YtllfbhmggfldoaaGreatDoorRows.lean that lists a variable, with what it lists TIED to the program's text (the seventh form; the later family's looks); each row that meets fmt, with fmt's text TOLD by the authors' own Lean function (tested against real Go, not proved from fmt's source: count such statements apart). THE CARD IS WHAT COUNTS. Prove the row's statement (the work); the ties are given (YtllfbhmggfldoaaGreatDoorTie.lean); close each card by the builder's one call (the guide's Derived/Test/ToyasCard.lean, 'card_holds'). Laid BY PROGRAM, IN A SANDBOX (cutbox-door.mjs). By AI agents, Wed Nov 11 2026. No macro, syntax, notation, axiom, sorry.
-/
import Derived.Test.YtllfbhmggfldoaaGreatDoorRows
import GoSem.ClaimSeven
namespace Go.Proofs.YtllfbhmggfldoaaGreatDoor
namespace Rows

/-- THE TIED CARD OF 'bobbinlaw19.CoreFrees'. -/
def coreFreesCard : Claim7 := { stood := { row := coreFreesRow, standIns := [], harness := (true, "ec89e082b354e624b0f3f4b403e5ca779879cd3df17534592790a8b25381e0c0"), looks := false }, kinds := [], alts := [], laidByText := true, laidKinds := [.data], laidTests := true, laidLooks := .later }
def CoreFreesCardSaid : Prop := Claim7.holds Tryz.pinned (.plain (OpenSpec.ofChange coreFreesSpec)) coreFreesCard

/-- THE TIED CARD OF 'bobbinlaw19.CoreKeeps'. -/
def coreKeepsCard : Claim7 := { stood := { row := coreKeepsRow, standIns := [], harness := (true, "ec89e082b354e624b0f3f4b403e5ca779879cd3df17534592790a8b25381e0c0"), looks := false }, kinds := [], alts := [], laidByText := true, laidKinds := [.data], laidTests := true, laidLooks := .later }
def CoreKeepsCardSaid : Prop := Claim7.holds Tryz.pinned (.plain (OpenSpec.ofChange coreKeepsSpec)) coreKeepsCard

/-- THE TIED CARD OF 'bobbinlaw19.CoreMay'. -/
def coreMayCard : Claim7 := { stood := { row := coreMayRow, standIns := [], harness := (true, "ec89e082b354e624b0f3f4b403e5ca779879cd3df17534592790a8b25381e0c0"), looks := false }, kinds := [], alts := [], laidByText := true, laidKinds := [.data], laidTests := true, laidLooks := .later }
def CoreMayCardSaid : Prop := Claim7.holds Tryz.pinned (.plain (OpenSpec.ofChange coreMaySpec)) coreMayCard

/-- THE TIED CARD OF 'bobbinlaw19.CoreUndoes'. -/
def coreUndoesCard : Claim7 := { stood := { row := coreUndoesRow, standIns := [], harness := (true, "ec89e082b354e624b0f3f4b403e5ca779879cd3df17534592790a8b25381e0c0"), looks := false }, kinds := [], alts := [], laidByText := true, laidKinds := [.data], laidTests := true, laidLooks := .later }
def CoreUndoesCardSaid : Prop := Claim7.holds Tryz.pinned (.plain (OpenSpec.ofChange coreUndoesSpec)) coreUndoesCard

/-- THE TIED CARD OF 'bobbinlaw19.CoreTicks'. -/
def coreTicksCard : Claim7 := { stood := { row := coreTicksRow, standIns := [], harness := (true, "ec89e082b354e624b0f3f4b403e5ca779879cd3df17534592790a8b25381e0c0"), looks := false }, kinds := [], alts := [], laidByText := true, laidKinds := [.data], laidTests := true, laidLooks := .later }
def CoreTicksCardSaid : Prop := Claim7.holds Tryz.pinned (.plain (OpenSpec.ofChange coreTicksSpec)) coreTicksCard

/-- THE TIED CARD OF 'bobbinlaw19.CoreScans'. -/
def coreScansCard : Claim7 := { stood := { row := coreScansRow, standIns := [], harness := (true, "ec89e082b354e624b0f3f4b403e5ca779879cd3df17534592790a8b25381e0c0"), looks := false }, kinds := [], alts := [], laidByText := true, laidKinds := [.data], laidTests := true, laidLooks := .later }
def CoreScansCardSaid : Prop := Claim7.holds Tryz.pinned (.plain (OpenSpec.ofChange coreScansSpec)) coreScansCard

/-- THE TIED CARD OF 'bobbinlaw19.CoreShrinks'. -/
def coreShrinksCard : Claim7 := { stood := { row := coreShrinksRow, standIns := [], harness := (true, "ec89e082b354e624b0f3f4b403e5ca779879cd3df17534592790a8b25381e0c0"), looks := false }, kinds := [], alts := [], laidByText := true, laidKinds := [.data], laidTests := true, laidLooks := .later }
def CoreShrinksCardSaid : Prop := Claim7.holds Tryz.pinned (.plain (OpenSpec.ofChange coreShrinksSpec)) coreShrinksCard

/-- THE TIED CARD OF 'bobbinlaw19.CoreNone'. -/
def coreNoneCard : Claim7 := { stood := { row := coreNoneRow, standIns := [], harness := (true, "ec89e082b354e624b0f3f4b403e5ca779879cd3df17534592790a8b25381e0c0"), looks := false }, kinds := [], alts := [], laidByText := true, laidKinds := [.data], laidTests := true, laidLooks := .later }
def CoreNoneCardSaid : Prop := Claim7.holds Tryz.pinned (.plain (OpenSpec.ofChange coreNoneSpec)) coreNoneCard

/-- THE SECOND FORM's CARD OF 'bobbinlaw19.CoreFrees'. -/
def coreFreesUptoCard : Claim7 := { stood := { row := coreFreesUptoRow, standIns := [], harness := (true, "ec89e082b354e624b0f3f4b403e5ca779879cd3df17534592790a8b25381e0c0"), looks := false }, kinds := [], alts := [], laidByText := true, laidKinds := [.data], laidTests := true, laidLooks := .later }
def CoreFreesUptoCardSaid : Prop := Claim7.holds Tryz.pinned (.plain (OpenSpec.upto coreFreesSpec)) coreFreesUptoCard

/-- THE SECOND FORM's CARD OF 'bobbinlaw19.CoreKeeps'. -/
def coreKeepsUptoCard : Claim7 := { stood := { row := coreKeepsUptoRow, standIns := [], harness := (true, "ec89e082b354e624b0f3f4b403e5ca779879cd3df17534592790a8b25381e0c0"), looks := false }, kinds := [], alts := [], laidByText := true, laidKinds := [.data], laidTests := true, laidLooks := .later }
def CoreKeepsUptoCardSaid : Prop := Claim7.holds Tryz.pinned (.plain (OpenSpec.upto coreKeepsSpec)) coreKeepsUptoCard

/-- THE SECOND FORM's CARD OF 'bobbinlaw19.CoreMay'. -/
def coreMayUptoCard : Claim7 := { stood := { row := coreMayUptoRow, standIns := [], harness := (true, "ec89e082b354e624b0f3f4b403e5ca779879cd3df17534592790a8b25381e0c0"), looks := false }, kinds := [], alts := [], laidByText := true, laidKinds := [.data], laidTests := true, laidLooks := .later }
def CoreMayUptoCardSaid : Prop := Claim7.holds Tryz.pinned (.plain (OpenSpec.upto coreMaySpec)) coreMayUptoCard

/-- THE SECOND FORM's CARD OF 'bobbinlaw19.CoreUndoes'. -/
def coreUndoesUptoCard : Claim7 := { stood := { row := coreUndoesUptoRow, standIns := [], harness := (true, "ec89e082b354e624b0f3f4b403e5ca779879cd3df17534592790a8b25381e0c0"), looks := false }, kinds := [], alts := [], laidByText := true, laidKinds := [.data], laidTests := true, laidLooks := .later }
def CoreUndoesUptoCardSaid : Prop := Claim7.holds Tryz.pinned (.plain (OpenSpec.upto coreUndoesSpec)) coreUndoesUptoCard

/-- THE SECOND FORM's CARD OF 'bobbinlaw19.CoreTicks'. -/
def coreTicksUptoCard : Claim7 := { stood := { row := coreTicksUptoRow, standIns := [], harness := (true, "ec89e082b354e624b0f3f4b403e5ca779879cd3df17534592790a8b25381e0c0"), looks := false }, kinds := [], alts := [], laidByText := true, laidKinds := [.data], laidTests := true, laidLooks := .later }
def CoreTicksUptoCardSaid : Prop := Claim7.holds Tryz.pinned (.plain (OpenSpec.upto coreTicksSpec)) coreTicksUptoCard

/-- THE SECOND FORM's CARD OF 'bobbinlaw19.CoreScans'. -/
def coreScansUptoCard : Claim7 := { stood := { row := coreScansUptoRow, standIns := [], harness := (true, "ec89e082b354e624b0f3f4b403e5ca779879cd3df17534592790a8b25381e0c0"), looks := false }, kinds := [], alts := [], laidByText := true, laidKinds := [.data], laidTests := true, laidLooks := .later }
def CoreScansUptoCardSaid : Prop := Claim7.holds Tryz.pinned (.plain (OpenSpec.upto coreScansSpec)) coreScansUptoCard

/-- THE SECOND FORM's CARD OF 'bobbinlaw19.CoreShrinks'. -/
def coreShrinksUptoCard : Claim7 := { stood := { row := coreShrinksUptoRow, standIns := [], harness := (true, "ec89e082b354e624b0f3f4b403e5ca779879cd3df17534592790a8b25381e0c0"), looks := false }, kinds := [], alts := [], laidByText := true, laidKinds := [.data], laidTests := true, laidLooks := .later }
def CoreShrinksUptoCardSaid : Prop := Claim7.holds Tryz.pinned (.plain (OpenSpec.upto coreShrinksSpec)) coreShrinksUptoCard

/-- THE SECOND FORM's CARD OF 'bobbinlaw19.CoreNone'. -/
def coreNoneUptoCard : Claim7 := { stood := { row := coreNoneUptoRow, standIns := [], harness := (true, "ec89e082b354e624b0f3f4b403e5ca779879cd3df17534592790a8b25381e0c0"), looks := false }, kinds := [], alts := [], laidByText := true, laidKinds := [.data], laidTests := true, laidLooks := .later }
def CoreNoneUptoCardSaid : Prop := Claim7.holds Tryz.pinned (.plain (OpenSpec.upto coreNoneSpec)) coreNoneUptoCard
end Rows
end Go.Proofs.YtllfbhmggfldoaaGreatDoor
