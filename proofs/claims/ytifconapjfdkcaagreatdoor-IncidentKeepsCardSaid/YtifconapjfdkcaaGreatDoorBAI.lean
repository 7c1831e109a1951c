/-
  Contracts of wire.table and wire.Checksum.
  No condition.
-/
import Derived.Test.YtifconapjfdkcaaGreatDoorBAG
import Derived.Test.YtifconapjfdkcaaGreatDoorBAH
import Derived.Laws.Rows
import Derived.Laws.Tables
namespace Go.Proofs.YtifconapjfdkcaaGreatDoor
set_option linter.unusedSimpArgs false
set_option linter.unusedVariables false
open Go.RowKit
theorem block_cell {w:World} {g:Nat} {cs:Array Value} {t:TypeId} (h:w.heap[g]? = some (.cells cs t (0,0))) (j:Nat):w.cell? ⟨g,j,none⟩=cs[j]? :=by
 unfold World.cell?
 simp [h]
theorem block_free {w:World} {g:Nat} {cs:Array Value} {t:TypeId} (h:w.heap[g]? = some (.cells cs t (0,0))) (j:Nat):w.frozen? ⟨g,j,none⟩=false:=by
 unfold World.frozen?
 simp [h]
end Go.Proofs.YtifconapjfdkcaaGreatDoor
