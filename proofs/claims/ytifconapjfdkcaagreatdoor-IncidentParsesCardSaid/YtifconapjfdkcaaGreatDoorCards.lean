/-
  DERIVED. GIVEN WITH THE SEED: THE CARDS: each row of YtifconapjfdkcaaGreatDoorRows.lean that lists a variable, with what it lists TIED to the program's text (the seventh form; the later family's looks); each row that meets fmt, with fmt's text TOLD by the authors' own Lean function (tested against real Go, not proved from fmt's source: count such statements apart). THE CARD IS WHAT COUNTS. Prove the row's statement (the work); the ties are given (YtifconapjfdkcaaGreatDoorTie.lean); close each card by the builder's one call (the guide's Derived/Test/ToyasCard.lean, 'card_holds'). Laid BY PROGRAM, IN A SANDBOX (cutbox-door.mjs). By AI agents, Wed Nov 11 2026. No macro, syntax, notation, axiom, sorry.
-/
import Derived.Test.YtifconapjfdkcaaGreatDoorRows
import GoSem.ClaimSeven
namespace Go.Proofs.YtifconapjfdkcaaGreatDoor
namespace Rows

/-- THE TIED CARD OF 'pairinglaw40.IncidentValidates'. -/
def incidentValidatesCard : Claim7 := { stood := { row := incidentValidatesRow, standIns := [], harness := (true, "1b910747c61b70ee2b253154e08547497f79f386a5b15d1839179256f7be96cd"), looks := false }, kinds := [], alts := [], laidByText := true, laidKinds := [.data, .data, .data, .data, .pinned], laidTests := true, laidLooks := .later }
def IncidentValidatesCardSaid : Prop := Claim7.holds Tryz.pinned (.plain (OpenSpec.ofChange incidentValidatesSpec)) incidentValidatesCard

/-- THE TIED CARD OF 'pairinglaw40.IncidentApplies'. -/
def incidentAppliesCard : Claim7 := { stood := { row := incidentAppliesRow, standIns := [], harness := (true, "1b910747c61b70ee2b253154e08547497f79f386a5b15d1839179256f7be96cd"), looks := false }, kinds := [], alts := [], laidByText := true, laidKinds := [.data, .data, .data, .data, .pinned], laidTests := true, laidLooks := .later }
def IncidentAppliesCardSaid : Prop := Claim7.holds Tryz.pinned (.plain (OpenSpec.ofChange incidentAppliesSpec)) incidentAppliesCard

/-- THE TIED CARD OF 'pairinglaw40.IncidentKeeps'. -/
def incidentKeepsCard : Claim7 := { stood := { row := incidentKeepsRow, standIns := [], harness := (true, "1b910747c61b70ee2b253154e08547497f79f386a5b15d1839179256f7be96cd"), looks := false }, kinds := [], alts := [], laidByText := true, laidKinds := [.data, .data, .data, .data, .pinned], laidTests := true, laidLooks := .later }
def IncidentKeepsCardSaid : Prop := Claim7.holds Tryz.pinned (.plain (OpenSpec.ofChange incidentKeepsSpec)) incidentKeepsCard

/-- THE TIED CARD OF 'pairinglaw40.IncidentSums'. -/
def incidentSumsCard : Claim7 := { stood := { row := incidentSumsRow, standIns := [], harness := (true, "1b910747c61b70ee2b253154e08547497f79f386a5b15d1839179256f7be96cd"), looks := false }, kinds := [], alts := [], laidByText := true, laidKinds := [.data, .data, .data, .data, .pinned], laidTests := true, laidLooks := .later }
def IncidentSumsCardSaid : Prop := Claim7.holds Tryz.pinned (.plain (OpenSpec.ofChange incidentSumsSpec)) incidentSumsCard

/-- THE TIED CARD OF 'pairinglaw40.IncidentCommutes'. -/
def incidentCommutesCard : Claim7 := { stood := { row := incidentCommutesRow, standIns := [], harness := (true, "1b910747c61b70ee2b253154e08547497f79f386a5b15d1839179256f7be96cd"), looks := false }, kinds := [], alts := [], laidByText := true, laidKinds := [.data, .data, .data, .data, .pinned], laidTests := true, laidLooks := .later }
def IncidentCommutesCardSaid : Prop := Claim7.holds Tryz.pinned (.plain (OpenSpec.ofChange incidentCommutesSpec)) incidentCommutesCard

/-- THE TIED CARD OF 'pairinglaw40.IncidentFormats'. -/
def incidentFormatsCard : Claim7 := { stood := { row := incidentFormatsRow, standIns := [], harness := (true, "1b910747c61b70ee2b253154e08547497f79f386a5b15d1839179256f7be96cd"), looks := false }, kinds := [], alts := [], laidByText := true, laidKinds := [.data, .data, .data, .data, .pinned], laidTests := true, laidLooks := .later }
def IncidentFormatsCardSaid : Prop := Claim7.holds Tryz.pinned (.plain (OpenSpec.ofChange incidentFormatsSpec)) incidentFormatsCard

/-- THE TIED CARD OF 'pairinglaw40.IncidentParses'. -/
def incidentParsesCard : Claim7 := { stood := { row := incidentParsesRow, standIns := [], harness := (true, "1b910747c61b70ee2b253154e08547497f79f386a5b15d1839179256f7be96cd"), looks := false }, kinds := [], alts := [], laidByText := true, laidKinds := [.data, .data, .data, .data, .pinned], laidTests := true, laidLooks := .later }
def IncidentParsesCardSaid : Prop := Claim7.holds Tryz.pinned (.plain (OpenSpec.ofChange incidentParsesSpec)) incidentParsesCard

/-- THE TIED CARD OF 'pairinglaw40.IncidentSick'. -/
def incidentSickCard : Claim7 := { stood := { row := incidentSickRow, standIns := [], harness := (true, "1b910747c61b70ee2b253154e08547497f79f386a5b15d1839179256f7be96cd"), looks := false }, kinds := [], alts := [], laidByText := true, laidKinds := [.data, .data, .data, .data, .pinned], laidTests := true, laidLooks := .later }
def IncidentSickCardSaid : Prop := Claim7.holds Tryz.pinned (.plain (OpenSpec.ofChange incidentSickSpec)) incidentSickCard

/-- THE SECOND FORM's CARD OF 'pairinglaw40.IncidentValidates'. -/
def incidentValidatesUptoCard : Claim7 := { stood := { row := incidentValidatesUptoRow, standIns := [], harness := (true, "1b910747c61b70ee2b253154e08547497f79f386a5b15d1839179256f7be96cd"), looks := false }, kinds := [], alts := [], laidByText := true, laidKinds := [.data, .data, .data, .data, .pinned], laidTests := true, laidLooks := .later }
def IncidentValidatesUptoCardSaid : Prop := Claim7.holds Tryz.pinned (.plain (OpenSpec.upto incidentValidatesSpec)) incidentValidatesUptoCard

/-- THE SECOND FORM's CARD OF 'pairinglaw40.IncidentApplies'. -/
def incidentAppliesUptoCard : Claim7 := { stood := { row := incidentAppliesUptoRow, standIns := [], harness := (true, "1b910747c61b70ee2b253154e08547497f79f386a5b15d1839179256f7be96cd"), looks := false }, kinds := [], alts := [], laidByText := true, laidKinds := [.data, .data, .data, .data, .pinned], laidTests := true, laidLooks := .later }
def IncidentAppliesUptoCardSaid : Prop := Claim7.holds Tryz.pinned (.plain (OpenSpec.upto incidentAppliesSpec)) incidentAppliesUptoCard

/-- THE SECOND FORM's CARD OF 'pairinglaw40.IncidentKeeps'. -/
def incidentKeepsUptoCard : Claim7 := { stood := { row := incidentKeepsUptoRow, standIns := [], harness := (true, "1b910747c61b70ee2b253154e08547497f79f386a5b15d1839179256f7be96cd"), looks := false }, kinds := [], alts := [], laidByText := true, laidKinds := [.data, .data, .data, .data, .pinned], laidTests := true, laidLooks := .later }
def IncidentKeepsUptoCardSaid : Prop := Claim7.holds Tryz.pinned (.plain (OpenSpec.upto incidentKeepsSpec)) incidentKeepsUptoCard

/-- THE SECOND FORM's CARD OF 'pairinglaw40.IncidentSums'. -/
def incidentSumsUptoCard : Claim7 := { stood := { row := incidentSumsUptoRow, standIns := [], harness := (true, "1b910747c61b70ee2b253154e08547497f79f386a5b15d1839179256f7be96cd"), looks := false }, kinds := [], alts := [], laidByText := true, laidKinds := [.data, .data, .data, .data, .pinned], laidTests := true, laidLooks := .later }
def IncidentSumsUptoCardSaid : Prop := Claim7.holds Tryz.pinned (.plain (OpenSpec.upto incidentSumsSpec)) incidentSumsUptoCard

/-- THE SECOND FORM's CARD OF 'pairinglaw40.IncidentCommutes'. -/
def incidentCommutesUptoCard : Claim7 := { stood := { row := incidentCommutesUptoRow, standIns := [], harness := (true, "1b910747c61b70ee2b253154e08547497f79f386a5b15d1839179256f7be96cd"), looks := false }, kinds := [], alts := [], laidByText := true, laidKinds := [.data, .data, .data, .data, .pinned], laidTests := true, laidLooks := .later }
def IncidentCommutesUptoCardSaid : Prop := Claim7.holds Tryz.pinned (.plain (OpenSpec.upto incidentCommutesSpec)) incidentCommutesUptoCard

/-- THE SECOND FORM's CARD OF 'pairinglaw40.IncidentFormats'. -/
def incidentFormatsUptoCard : Claim7 := { stood := { row := incidentFormatsUptoRow, standIns := [], harness := (true, "1b910747c61b70ee2b253154e08547497f79f386a5b15d1839179256f7be96cd"), looks := false }, kinds := [], alts := [], laidByText := true, laidKinds := [.data, .data, .data, .data, .pinned], laidTests := true, laidLooks := .later }
def IncidentFormatsUptoCardSaid : Prop := Claim7.holds Tryz.pinned (.plain (OpenSpec.upto incidentFormatsSpec)) incidentFormatsUptoCard

/-- THE SECOND FORM's CARD OF 'pairinglaw40.IncidentParses'. -/
def incidentParsesUptoCard : Claim7 := { stood := { row := incidentParsesUptoRow, standIns := [], harness := (true, "1b910747c61b70ee2b253154e08547497f79f386a5b15d1839179256f7be96cd"), looks := false }, kinds := [], alts := [], laidByText := true, laidKinds := [.data, .data, .data, .data, .pinned], laidTests := true, laidLooks := .later }
def IncidentParsesUptoCardSaid : Prop := Claim7.holds Tryz.pinned (.plain (OpenSpec.upto incidentParsesSpec)) incidentParsesUptoCard

/-- THE SECOND FORM's CARD OF 'pairinglaw40.IncidentSick'. -/
def incidentSickUptoCard : Claim7 := { stood := { row := incidentSickUptoRow, standIns := [], harness := (true, "1b910747c61b70ee2b253154e08547497f79f386a5b15d1839179256f7be96cd"), looks := false }, kinds := [], alts := [], laidByText := true, laidKinds := [.data, .data, .data, .data, .pinned], laidTests := true, laidLooks := .later }
def IncidentSickUptoCardSaid : Prop := Claim7.holds Tryz.pinned (.plain (OpenSpec.upto incidentSickSpec)) incidentSickUptoCard
end Rows
end Go.Proofs.YtifconapjfdkcaaGreatDoor
