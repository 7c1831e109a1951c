/-
  Contract of the reference's Validate (package pairingref9): the first flaw of a timetable.
  Condition: the timetable's data are well formed.
-/
import Derived.Test.YtifconapjfdkcaaGreatDoorSBS
import Derived.Deep.QuietTactic
import Derived.BigQuiet
namespace Go.Proofs.YtifconapjfdkcaaGreatDoor
set_option linter.unusedSimpArgs false
set_option linter.unusedVariables false
open Go.RowKit

theorem quiet_left {P : Program} {f : FuncId} {args : Array Value} {w : World} {n : Nat} {v : Value}
    (h : Calls P f args (w.drewN n) fun e w' => e = .returned v ∧ w.drewN n = w') : Calls P f args (w.drewN n) fun e w'' => e = .returned v ∧ ∃ m, w'' = w.drewN m :=
  h.mono fun _ _ ⟨he, hm⟩ => ⟨he, n, hm.symm⟩
end Go.Proofs.YtifconapjfdkcaaGreatDoor
