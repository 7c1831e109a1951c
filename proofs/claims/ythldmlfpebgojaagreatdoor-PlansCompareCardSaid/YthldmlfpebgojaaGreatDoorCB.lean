/-
  The law's last call.
  No condition.
-/
import Derived.Test.YthldmlfpebgojaaGreatDoorQN
import Derived.Test.YthldmlfpebgojaaGreatDoorProg
namespace Go.Proofs.YthldmlfpebgojaaGreatDoor
set_option linter.unusedSimpArgs false
set_option linter.unusedVariables false
set_option maxRecDepth 100000
open Go.RowKit Go

noncomputable def cl_kn : Cl := ⟨10, [], [], 0, (.bool true), [], 15⟩
theorem cl_kn_fine : cl_kn.Fine := Cl.fineB_ok (by kernel_rfl)
theorem cl_kn_ok : cl_kn.Ok Tryz.prog := Cl.ok_of cl_kn_fine 100000 200 (by kernel_rfl)
end Go.Proofs.YthldmlfpebgojaaGreatDoor
