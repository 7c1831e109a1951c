/-
  The plain checksum: its table, its step, the bits of unsigned numbers.
  No condition.
-/
import Derived.Test.YtifconapjfdkcaaGreatDoorBAE
namespace Go.Proofs.YtifconapjfdkcaaGreatDoor
set_option linter.unusedSimpArgs false
set_option linter.unusedVariables false
open Go
def ix (s:BitVec 32) (c:Int):Nat:=(s.setWidth 8 ^^^ BitVec.ofInt 8 c).toNat
end Go.Proofs.YtifconapjfdkcaaGreatDoor
