/-
  Joined texts: Base; BaseAt. What each proves stands ahead of it, with its conditions.
-/
import Derived.Test.YtifconapjfdkcaaGreatDoorDAA
import Derived.Test.YtifconapjfdkcaaGreatDoorDAC
import Derived.Test.YtifconapjfdkcaaGreatDoorDAI
import Derived.Deep.RegionWith
import Derived.BigQuiet
import Derived.Deep.QuietTactic
set_option linter.unusedSimpArgs false
set_option linter.unusedVariables false
set_option maxRecDepth 100000
set_option maxHeartbeats 12800000
namespace Go.Proofs.YtifconapjfdkcaaGreatDoor
section
open Go.RowKit
theorem Sl.block{α : Type}{t:Ty α}{w:World}{S:Nat→Prop}{b:Nat}{cs:Array Value}{T:TypeId}{xs:List α}(h:w.heap[b]? = some (.cells cs T (0,0)))(hS:S b)(hl:xs.length≤maxLen)
 (hx : ∀ i x,xs[i]? = some x→t.rep w S ((cs.toList.drop (i*t.size)).take t.size) x):Sl t w S (some ⟨b,0,none⟩) xs.length xs.length xs:=by
 refine⟨rfl,qD _,hl,fun _=>⟨b,0,rfl,hS,fun i x hi=>⟨_,hx i x hi,fun j u hu =>?_⟩⟩⟩;rw[block_cell h];rw[List.getElem?_take]at hu;split at hu
 ·rw[List.getElem?_drop]at hu;rw[Nat.zero_add];simpa using hu
 ·cases hu
end
section
open Go.RowKit
theorem and_ffff(n:Int):bits .and .i64 n 65535=n%65536:=by
 show IntKind.i64.wrap ((BitVec.ofInt 64 n &&& BitVec.ofInt 64 65535).toNat:Int)=_;have e1:(BitVec.ofInt 64 65535).toNat=2^16-1:=by decide
 rw[BitVec.toNat_and,e1,Nat.and_two_pow_sub_one_eq_mod,BitVec.toNat_ofInt,IntKind.wrap_i64];omega
def atL(l:List Int)(i:Nat):Int:=if l.length=0 then (i:Int)%65536 else l.getD (i%l.length) 0%65536+((i/l.length:Nat):Int)
theorem atL_range(l:List Int)(i:Nat):0≤atL l i∧atL l i≤65535+i:=by
 unfold atL;split
 ·omega
 ·have:i/l.length≤i:=Nat.div_le_self _ _;generalize i/l.length=d at*;omega
def IntPost(x:Int)(w:World)(e:Ending)(w':World):Prop:=e=.returned (.int .i64 x)∧Below w.heap.size w w'
end
end Go.Proofs.YtifconapjfdkcaaGreatDoor
