/-
  DERIVED. GIVEN WITH THE SEED: THE CARDS: each row of YtldeoaddogifpaaGreatDoorRows.lean that lists a variable, with what it lists TIED to the program's text (the seventh form; the later family's looks); each row that meets fmt, with fmt's text TOLD by the authors' own Lean function (tested against real Go, not proved from fmt's source: count such statements apart). THE CARD IS WHAT COUNTS. Prove the row's statement (the work); the ties are given (YtldeoaddogifpaaGreatDoorTie.lean); close each card by the builder's one call (the guide's Derived/Test/ToyasCard.lean, 'card_holds'). Laid BY PROGRAM, IN A SANDBOX (cutbox-door.mjs). By AI agents, Wed Nov 11 2026. No macro, syntax, notation, axiom, sorry.
-/
import Derived.Test.YtldeoaddogifpaaGreatDoorRows
import GoSem.ClaimSeven
namespace Go.Proofs.YtldeoaddogifpaaGreatDoor
namespace Rows

/-- THE TIED CARD OF 'pairinglaw9.TimetableParses'. -/
def timetableParsesCard : Claim7 := { stood := { row := timetableParsesRow, standIns := [], harness := (true, "51e64a8e8331e56e532911638614594466c5ab017350f6f2ae22d23175641916"), looks := false }, kinds := [], alts := [], laidByText := true, laidKinds := [.data, .pinned], laidTests := true, laidLooks := .later }
def TimetableParsesCardSaid : Prop := Claim7.holds Tryz.pinned (.plain (OpenSpec.ofChange timetableParsesSpec)) timetableParsesCard

/-- THE TIED CARD OF 'pairinglaw9.TimetableEdited'. -/
def timetableEditedCard : Claim7 := { stood := { row := timetableEditedRow, standIns := [], harness := (true, "51e64a8e8331e56e532911638614594466c5ab017350f6f2ae22d23175641916"), looks := false }, kinds := [], alts := [], laidByText := true, laidKinds := [.data, .data, .data, .data, .pinned], laidTests := true, laidLooks := .later }
def TimetableEditedCardSaid : Prop := Claim7.holds Tryz.pinned (.plain (OpenSpec.ofChange timetableEditedSpec)) timetableEditedCard

/-- THE TIED CARD OF 'pairinglaw9.TimetableTexts'. -/
def timetableTextsCard : Claim7 := { stood := { row := timetableTextsRow, standIns := [], harness := (true, "51e64a8e8331e56e532911638614594466c5ab017350f6f2ae22d23175641916"), looks := false }, kinds := [], alts := [], laidByText := true, laidKinds := [.data, .data, .data, .data, .pinned], laidTests := true, laidLooks := .later }
def TimetableTextsCardSaid : Prop := Claim7.holds Tryz.pinned (.plain (OpenSpec.ofChange timetableTextsSpec)) timetableTextsCard

/-- THE SECOND FORM's CARD OF 'pairinglaw9.TimetableParses'. -/
def timetableParsesUptoCard : Claim7 := { stood := { row := timetableParsesUptoRow, standIns := [], harness := (true, "51e64a8e8331e56e532911638614594466c5ab017350f6f2ae22d23175641916"), looks := false }, kinds := [], alts := [], laidByText := true, laidKinds := [.data, .pinned], laidTests := true, laidLooks := .later }
def TimetableParsesUptoCardSaid : Prop := Claim7.holds Tryz.pinned (.plain (OpenSpec.upto timetableParsesSpec)) timetableParsesUptoCard

/-- THE SECOND FORM's CARD OF 'pairinglaw9.TimetableEdited'. -/
def timetableEditedUptoCard : Claim7 := { stood := { row := timetableEditedUptoRow, standIns := [], harness := (true, "51e64a8e8331e56e532911638614594466c5ab017350f6f2ae22d23175641916"), looks := false }, kinds := [], alts := [], laidByText := true, laidKinds := [.data, .data, .data, .data, .pinned], laidTests := true, laidLooks := .later }
def TimetableEditedUptoCardSaid : Prop := Claim7.holds Tryz.pinned (.plain (OpenSpec.upto timetableEditedSpec)) timetableEditedUptoCard

/-- THE SECOND FORM's CARD OF 'pairinglaw9.TimetableTexts'. -/
def timetableTextsUptoCard : Claim7 := { stood := { row := timetableTextsUptoRow, standIns := [], harness := (true, "51e64a8e8331e56e532911638614594466c5ab017350f6f2ae22d23175641916"), looks := false }, kinds := [], alts := [], laidByText := true, laidKinds := [.data, .data, .data, .data, .pinned], laidTests := true, laidLooks := .later }
def TimetableTextsUptoCardSaid : Prop := Claim7.holds Tryz.pinned (.plain (OpenSpec.upto timetableTextsSpec)) timetableTextsUptoCard
end Rows
end Go.Proofs.YtldeoaddogifpaaGreatDoor
