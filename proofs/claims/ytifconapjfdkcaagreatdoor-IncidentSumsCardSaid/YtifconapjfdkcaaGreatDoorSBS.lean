/-
  Contract of the reference's flight (package pairingref9): the error of one flight of a timetable.
  Condition: the timetable's data are well formed; the index is one of a flight.
-/
import Derived.Test.YtifconapjfdkcaaGreatDoorSBF
import Derived.Test.YtifconapjfdkcaaGreatDoorSBH
import Derived.Sort.Walk0
import Derived.Deep.RegionWith
namespace Go.Proofs.YtifconapjfdkcaaGreatDoor
set_option linter.unusedSimpArgs false
set_option linter.unusedVariables false
open Go.RowKit

theorem getD_mem0 {α : Type} {l : List α} {k : Nat} (h : k < l.length) (d : α) : l.getD k d ∈ l := by
  rw [List.getD_eq_getElem?_getD, List.getElem?_eq_getElem h]
  exact List.getElem_mem h
end Go.Proofs.YtifconapjfdkcaaGreatDoor
