/-
  Contracts of (*strings.Builder).copyCheck and WriteString, at a builder of the kit's word (Lib.IsBuilder).
  Condition: the builder lies in its block; the new length is no more than 2^47 bytes.
-/
import Derived.Test.YtifconapjfdkcaaGreatDoorBAZ
import Derived.Test.YtifconapjfdkcaaGreatDoorBAG
import Derived.Test.YtifconapjfdkcaaGreatDoorBAI
import Derived.Laws.Externs
import Derived.OwnWalk
namespace Go.Proofs.YtifconapjfdkcaaGreatDoor
set_option linter.unusedSimpArgs false
set_option linter.unusedVariables false
open Go.RowKit Go
theorem bld_size:(Tryz.prog.info? 107).map (·.size)=some 2:=by kernel_rfl
theorem bld_lies:liesAt Tryz.prog Tryz.prog.depth 107 (2/Tryz.prog.cellsOf 107) 0 107 1=true:=by kernel_rfl
end Go.Proofs.YtifconapjfdkcaaGreatDoor
