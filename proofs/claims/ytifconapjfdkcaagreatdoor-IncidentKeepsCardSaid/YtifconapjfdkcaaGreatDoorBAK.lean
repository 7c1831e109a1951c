/-
  Contracts of pairingbase.At and pairingbase.Codes.
  Condition: a position is small.
-/
import Derived.Test.YtifconapjfdkcaaGreatDoorBAJ
import Derived.BigQuiet
import Derived.Deep.QuietTactic
namespace Go.Proofs.YtifconapjfdkcaaGreatDoor
set_option linter.unusedSimpArgs false
set_option linter.unusedVariables false
open Go.RowKit
theorem and_ffff (n:Int):bits .and .i64 n 65535=n%65536:=by
 show IntKind.i64.wrap ((BitVec.ofInt 64 n &&& BitVec.ofInt 64 65535).toNat:Int)=_
 have e1:(BitVec.ofInt 64 65535).toNat=2^16-1:=by decide
 rw [BitVec.toNat_and,e1,Nat.and_two_pow_sub_one_eq_mod,BitVec.toNat_ofInt,IntKind.wrap_i64]
 omega
def atL (l:List Int) (i:Nat):Int:=if l.length=0 then (i:Int)%65536 else l.getD (i%l.length) 0%65536+((i/l.length:Nat):Int)
theorem atL_range (l:List Int) (i:Nat):0≤atL l i∧atL l i≤65535+i:=by
 unfold atL
 split
 ·omega
 ·have:i/l.length≤i:=Nat.div_le_self _ _
  generalize i/l.length=d at *
  omega
def IntPost (x:Int) (w:World) (e:Ending) (w':World):Prop:=e = .returned (.int .i64 x)∧Below w.heap.size w w'
end Go.Proofs.YtifconapjfdkcaaGreatDoor
