/-
  Joined texts: Encode; CrcPlain; Crc. What each proves stands ahead of it, with its conditions.
-/
import Derived.Test.YtifconapjfdkcaaGreatDoorDAA
import Derived.Test.YtifconapjfdkcaaGreatDoorDAH
import Derived.Lib.AppendStr
import Derived.Test.YtifconapjfdkcaaGreatDoorDAB
import Derived.Laws.Rows
import Derived.Laws.Tables
set_option linter.unusedSimpArgs false
set_option linter.unusedVariables false
set_option maxRecDepth 100000
set_option maxHeartbeats 12800000
namespace Go.Proofs.YtifconapjfdkcaaGreatDoor
section
open Go.RowKit
theorem wpList_push_int{P:Program}{κ : IntKind}{bytes:Nat}{ops:Array Oper}{rest:List Oper}{o:Oper}{a:Act}{Q:Exit→Act→World→Prop}{w W:World}{B base:Nat}{v:Value}{xs:List Int}{T e:TypeId}
 (hgd:o.guard=none) (s x:Operand) (ho:o.op=.call { callee:=.builtin .append,args := #[s,x],argTypes := #[T,T] }) (he:Elem P T e 1 bytes) (hpos:0<bytes) (h8:bytes≤8) (hs:a.eval s=v) (hown:Own (Ty.int κ) e w base v xs)
 (g:Nat) (y:Int) (hx:a.eval x=.slice (some ⟨g,0,none⟩) 1 1) (hy:w.cell? ⟨g,0,none⟩=some (.int κ y)) (hlen:xs.length<1099511627776) (hbase:base≤w.heap.size) (hB:B≤base) (hbel:Below B W w)
 (h : ∀ v' w',Own (Ty.int κ) e w' base v' (xs++[y])→Below B W w'→wpList P ops Q rest (a.put o.dst v') w'):wpList P ops Q (o::rest) a w:=by
 refine wpList_push hgd s x T ho bytes he hs hown g y (fun _=>False) hx ⟨[.int κ y],rfl,fun j u hu =>?_⟩ (fun _ h=>h.elim) ?_ hpos hbase fun v' w' ho' hg=>h v' w' ho' ?_
 ·rcases j with _|j
  ·simp at hu;subst hu;exact hy
  ·simp at hu
 ·have:(xs.length+1)*bytes≤1099511627776*8:=Nat.mul_le_mul (by omega) h8;omega
 ·exact hbel.grown hg (by omega) fun k hk=>Nat.le_trans hB (hown.lt k hk).1
theorem byte_info : ∃ i,Tryz.prog.info? 5=some i∧i.zero=some (.int .u8 0)∧i.size=1∧i.bytes=1:=by
 have h:(Tryz.prog.info? 5).map (fun i=>(i.zero,i.size,i.bytes))=some (some (.int .u8 0),1,1):=by kernel_rfl
 rw[Option.map_eq_some_iff]at h;obtain⟨i,hi,h3⟩:=h;simp only[Prod.mk.injEq]at h3;exact⟨i,hi,h3.1,h3.2.1,h3.2.2⟩
end
section
open Go
def ix(s:BitVec 32)(c:Int):Nat:=(s.setWidth 8 ^^^ BitVec.ofInt 8 c).toNat
end
section
open Go.RowKit
theorem block_cell{w:World}{g:Nat}{cs:Array Value}{t:TypeId}(h:w.heap[g]? = some (.cells cs t (0,0)))(j:Nat):w.cell? ⟨g,j,none⟩=cs[j]? :=by
 unfold World.cell?;simp[h]
theorem block_free{w:World}{g:Nat}{cs:Array Value}{t:TypeId}(h:w.heap[g]? = some (.cells cs t (0,0)))(j:Nat):w.frozen? ⟨g,j,none⟩=false:=by
 unfold World.frozen?;simp[h]
end
end Go.Proofs.YtifconapjfdkcaaGreatDoor
