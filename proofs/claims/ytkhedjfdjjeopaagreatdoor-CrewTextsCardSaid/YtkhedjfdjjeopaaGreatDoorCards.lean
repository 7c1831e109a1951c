/-
  DERIVED. GIVEN WITH THE SEED: THE CARDS: each row of YtkhedjfdjjeopaaGreatDoorRows.lean that lists a variable, with what it lists TIED to the program's text (the seventh form; the later family's looks); each row that meets fmt, with fmt's text TOLD by the authors' own Lean function (tested against real Go, not proved from fmt's source: count such statements apart). THE CARD IS WHAT COUNTS. Prove the row's statement (the work); the ties are given (YtkhedjfdjjeopaaGreatDoorTie.lean); close each card by the builder's one call (the guide's Derived/Test/ToyasCard.lean, 'card_holds'). Laid BY PROGRAM, IN A SANDBOX (cutbox-door.mjs). By AI agents, Wed Nov 11 2026. No macro, syntax, notation, axiom, sorry.
-/
import Derived.Test.YtkhedjfdjjeopaaGreatDoorRows
import GoSem.ClaimSeven
namespace Go.Proofs.YtkhedjfdjjeopaaGreatDoor
namespace Rows

/-- THE TIED CARD OF 'pairinglaw10.CrewParses'. -/
def crewParsesCard : Claim7 := { stood := { row := crewParsesRow, standIns := [], harness := (true, "2590a6592840eb38d98f3a3ee1a15cb40ff10fb2a39a5bee0bfd77c84f72f9cb"), looks := false }, kinds := [], alts := [], laidByText := true, laidKinds := [.data, .pinned], laidTests := true, laidLooks := .later }
def CrewParsesCardSaid : Prop := Claim7.holds Tryz.pinned (.plain (OpenSpec.ofChange crewParsesSpec)) crewParsesCard

/-- THE TIED CARD OF 'pairinglaw10.CrewLines'. -/
def crewLinesCard : Claim7 := { stood := { row := crewLinesRow, standIns := [], harness := (true, "2590a6592840eb38d98f3a3ee1a15cb40ff10fb2a39a5bee0bfd77c84f72f9cb"), looks := false }, kinds := [], alts := [], laidByText := true, laidKinds := [.data, .pinned], laidTests := true, laidLooks := .later }
def CrewLinesCardSaid : Prop := Claim7.holds Tryz.pinned (.plain (OpenSpec.ofChange crewLinesSpec)) crewLinesCard

/-- THE TIED CARD OF 'pairinglaw10.CrewTexts'. -/
def crewTextsCard : Claim7 := { stood := { row := crewTextsRow, standIns := [], harness := (true, "2590a6592840eb38d98f3a3ee1a15cb40ff10fb2a39a5bee0bfd77c84f72f9cb"), looks := false }, kinds := [], alts := [], laidByText := true, laidKinds := [.data, .data, .data, .data, .pinned], laidTests := true, laidLooks := .later }
def CrewTextsCardSaid : Prop := Claim7.holds Tryz.pinned (.plain (OpenSpec.ofChange crewTextsSpec)) crewTextsCard

/-- THE SECOND FORM's CARD OF 'pairinglaw10.CrewParses'. -/
def crewParsesUptoCard : Claim7 := { stood := { row := crewParsesUptoRow, standIns := [], harness := (true, "2590a6592840eb38d98f3a3ee1a15cb40ff10fb2a39a5bee0bfd77c84f72f9cb"), looks := false }, kinds := [], alts := [], laidByText := true, laidKinds := [.data, .pinned], laidTests := true, laidLooks := .later }
def CrewParsesUptoCardSaid : Prop := Claim7.holds Tryz.pinned (.plain (OpenSpec.upto crewParsesSpec)) crewParsesUptoCard

/-- THE SECOND FORM's CARD OF 'pairinglaw10.CrewLines'. -/
def crewLinesUptoCard : Claim7 := { stood := { row := crewLinesUptoRow, standIns := [], harness := (true, "2590a6592840eb38d98f3a3ee1a15cb40ff10fb2a39a5bee0bfd77c84f72f9cb"), looks := false }, kinds := [], alts := [], laidByText := true, laidKinds := [.data, .pinned], laidTests := true, laidLooks := .later }
def CrewLinesUptoCardSaid : Prop := Claim7.holds Tryz.pinned (.plain (OpenSpec.upto crewLinesSpec)) crewLinesUptoCard

/-- THE SECOND FORM's CARD OF 'pairinglaw10.CrewTexts'. -/
def crewTextsUptoCard : Claim7 := { stood := { row := crewTextsUptoRow, standIns := [], harness := (true, "2590a6592840eb38d98f3a3ee1a15cb40ff10fb2a39a5bee0bfd77c84f72f9cb"), looks := false }, kinds := [], alts := [], laidByText := true, laidKinds := [.data, .data, .data, .data, .pinned], laidTests := true, laidLooks := .later }
def CrewTextsUptoCardSaid : Prop := Claim7.holds Tryz.pinned (.plain (OpenSpec.upto crewTextsSpec)) crewTextsUptoCard
end Rows
end Go.Proofs.YtkhedjfdjjeopaaGreatDoor
