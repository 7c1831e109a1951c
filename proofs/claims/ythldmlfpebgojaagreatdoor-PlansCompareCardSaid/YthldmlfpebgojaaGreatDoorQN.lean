/-
  Expressions, rules and costs as data.
  No condition.
-/
import Derived.Test.YthldmlfpebgojaaGreatDoorQW
namespace Go.Proofs.YthldmlfpebgojaaGreatDoor
open Go.RowKit Go

inductive Tm where
  | mk (op num : Int) (name : ByteArray) (args : List Tm)
def Tm.op : Tm → Int
  | .mk o _ _ _ => o
def Tm.num : Tm → Int
  | .mk _ n _ _ => n
def Tm.name : Tm → ByteArray
  | .mk _ _ s _ => s
def Tm.args : Tm → List Tm
  | .mk _ _ _ l => l
structure RuleD where
  scope : Int
  name : ByteArray
  expr : Tm
structure CostD where
  scope : Int
  expr : Tm
end Go.Proofs.YthldmlfpebgojaaGreatDoor
