/-
  DERIVED. GIVEN WITH THE SEED: THE CARDS: each row of YthldmlfpebgojaaGreatDoorRows.lean that lists a variable, with what it lists TIED to the program's text (the seventh form; the later family's looks); each row that meets fmt, with fmt's text TOLD by the authors' own Lean function (tested against real Go, not proved from fmt's source: count such statements apart). THE CARD IS WHAT COUNTS. Prove the row's statement (the work); the ties are given (YthldmlfpebgojaaGreatDoorTie.lean); close each card by the builder's one call (the guide's Derived/Test/ToyasCard.lean, 'card_holds'). Laid BY PROGRAM, IN A SANDBOX (cutbox-door.mjs). By AI agents, Wed Nov 11 2026. No macro, syntax, notation, axiom, sorry.
-/
import Derived.Test.YthldmlfpebgojaaGreatDoorRows
import GoSem.ClaimSeven
namespace Go.Proofs.YthldmlfpebgojaaGreatDoor
namespace Rows

/-- THE TIED CARD OF 'pairinglaw42.PlansRead'. -/
def plansReadCard : Claim7 := { stood := { row := plansReadRow, standIns := [], harness := (true, "9bc5c7dcb9f68bfa21964adadc3b54e55d07624e287c44f1ff1960b5bb3cde3c"), looks := false }, kinds := [], alts := [], laidByText := true, laidKinds := [.data, .data, .data, .data, .pinned], laidTests := true, laidLooks := .later }
def PlansReadCardSaid : Prop := Claim7.holds Tryz.pinned (.plain (OpenSpec.ofChange plansReadSpec)) plansReadCard

/-- THE TIED CARD OF 'pairinglaw42.PlansNumbers'. -/
def plansNumbersCard : Claim7 := { stood := { row := plansNumbersRow, standIns := [], harness := (true, "9bc5c7dcb9f68bfa21964adadc3b54e55d07624e287c44f1ff1960b5bb3cde3c"), looks := false }, kinds := [], alts := [], laidByText := true, laidKinds := [.data, .data, .data, .data, .pinned], laidTests := true, laidLooks := .later }
def PlansNumbersCardSaid : Prop := Claim7.holds Tryz.pinned (.plain (OpenSpec.ofChange plansNumbersSpec)) plansNumbersCard

/-- THE TIED CARD OF 'pairinglaw42.PlansCompare'. -/
def plansCompareCard : Claim7 := { stood := { row := plansCompareRow, standIns := [], harness := (true, "9bc5c7dcb9f68bfa21964adadc3b54e55d07624e287c44f1ff1960b5bb3cde3c"), looks := false }, kinds := [], alts := [], laidByText := true, laidKinds := [.data, .data, .data, .data, .pinned], laidTests := true, laidLooks := .later }
def PlansCompareCardSaid : Prop := Claim7.holds Tryz.pinned (.plain (OpenSpec.ofChange plansCompareSpec)) plansCompareCard

/-- THE SECOND FORM's CARD OF 'pairinglaw42.PlansRead'. -/
def plansReadUptoCard : Claim7 := { stood := { row := plansReadUptoRow, standIns := [], harness := (true, "9bc5c7dcb9f68bfa21964adadc3b54e55d07624e287c44f1ff1960b5bb3cde3c"), looks := false }, kinds := [], alts := [], laidByText := true, laidKinds := [.data, .data, .data, .data, .pinned], laidTests := true, laidLooks := .later }
def PlansReadUptoCardSaid : Prop := Claim7.holds Tryz.pinned (.plain (OpenSpec.upto plansReadSpec)) plansReadUptoCard

/-- THE SECOND FORM's CARD OF 'pairinglaw42.PlansNumbers'. -/
def plansNumbersUptoCard : Claim7 := { stood := { row := plansNumbersUptoRow, standIns := [], harness := (true, "9bc5c7dcb9f68bfa21964adadc3b54e55d07624e287c44f1ff1960b5bb3cde3c"), looks := false }, kinds := [], alts := [], laidByText := true, laidKinds := [.data, .data, .data, .data, .pinned], laidTests := true, laidLooks := .later }
def PlansNumbersUptoCardSaid : Prop := Claim7.holds Tryz.pinned (.plain (OpenSpec.upto plansNumbersSpec)) plansNumbersUptoCard

/-- THE SECOND FORM's CARD OF 'pairinglaw42.PlansCompare'. -/
def plansCompareUptoCard : Claim7 := { stood := { row := plansCompareUptoRow, standIns := [], harness := (true, "9bc5c7dcb9f68bfa21964adadc3b54e55d07624e287c44f1ff1960b5bb3cde3c"), looks := false }, kinds := [], alts := [], laidByText := true, laidKinds := [.data, .data, .data, .data, .pinned], laidTests := true, laidLooks := .later }
def PlansCompareUptoCardSaid : Prop := Claim7.holds Tryz.pinned (.plain (OpenSpec.upto plansCompareSpec)) plansCompareUptoCard
end Rows
end Go.Proofs.YthldmlfpebgojaaGreatDoor
