/-
  Joined texts: FlightRef; ValidateRef. What each proves stands ahead of it, with its conditions.
-/
import Derived.Test.YtifconapjfdkcaaGreatDoorDAA
import Derived.Test.YtifconapjfdkcaaGreatDoorDAF
import Derived.Test.YtifconapjfdkcaaGreatDoorDAQ
import Derived.Sort.Walk0
import Derived.Deep.RegionWith
import Derived.Deep.QuietTactic
import Derived.BigQuiet
set_option linter.unusedSimpArgs false
set_option linter.unusedVariables false
set_option maxRecDepth 100000
set_option maxHeartbeats 12800000
namespace Go.Proofs.YtifconapjfdkcaaGreatDoor
section
open Go.RowKit
theorem getD_mem0{α : Type}{l:List α}{k:Nat}(h:k<l.length)(d : α):l.getD k d∈l:=by
 rw[qF,qG h];exact List.getElem_mem h
end
section
open Go.RowKit
theorem quiet_left{P:Program}{f:FuncId}{args:Array Value}{w:World}{n:Nat}{v:Value}
 (h:Calls P f args (w.drewN n) fun e w'=>e=.returned v∧w.drewN n=w'):Calls P f args (w.drewN n) fun e w''=>e=.returned v ∧ ∃ m,w''=w.drewN m :=
 h.mono fun _ _ ⟨he,hm⟩=>⟨he,n,hm.symm⟩
end
end Go.Proofs.YtifconapjfdkcaaGreatDoor
