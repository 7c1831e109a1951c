/-
  Joined texts: SpoilMem; SpoilRow; SpoilP. What each proves stands ahead of it, with its conditions.
-/
import Derived.Test.YtifconapjfdkcaaGreatDoorProg
import Derived.WalkKit
import Derived.WalkLawsBesides
import Derived.WalkSpells
import Derived.Lib.Hide
import Derived.Maps.AppendAt
import Derived.ProofKit
import Derived.Deep.Slices
import Derived.Lib.SplitLaws
import Derived.Lib.IndexMore
import Derived.Lib.Strings
import Derived.Lib.AppendStr
import Derived.Laws.Rows
import Derived.Laws.Tables
import Derived.Deep.RegionWith
import Derived.BigQuiet
import Derived.Deep.QuietTactic
import Derived.Test.YtifconapjfdkcaaGreatDoorWAA
import Derived.StillTail
import Derived.RegionTactic
import Derived.Deep.DeepCutAuto
import Derived.IntWalk
import Derived.Maps.OwnOps
import Derived.Maps.Views
import Derived.StillTailTactics
import Derived.Sort.LotA
import Derived.Sort.Walk0
import Derived.Shelf.Strings.Builder1
import Derived.Shelf.Strings.Builder2
import Derived.Shelf.Small.Strs
import Derived.Shelf.Strings.BuilderF
import Derived.Shelf.Strconv.Itoa0
import Derived.Shelf.Strconv.Itoa1
import Derived.Shelf.LaysM
import Derived.Shelf.Strconv.Itoa2
import Derived.Shelf.Strconv.Itoa3
import Derived.Shelf.Strings.Search1
import Derived.Shelf.Strings.Search2
import Derived.Shelf.Strings.Search3
import Derived.Shelf.Strings.Cut
import Derived.Shelf.Strings.Count
import Derived.Shelf.Strings.Shaped
import Derived.Shelf.Strings.Prefix
import Derived.Shelf.Strings.Split
import Derived.Shelf.Strings.SplitShaped
import Derived.Shelf.Bits.Mul64
import Derived.Shelf.Strings.Repeat
import Derived.Shelf.Unicode.DecodeSlow
import Derived.Ground.SlsfProg
import Derived.Shelf.SlSortCmp.Insertion
import Derived.Shelf.SlSortCmp.Insertion1
import Derived.Test.YtifconapjfdkcaaGreatDoorWAB
import Derived.Lib.Bytealg
import Derived.Sort.OwnSortedInts
import Derived.Sort.WalkA
import Derived.Deep.OwnRows
import Derived.Laws.Strings
import Derived.Scope
import Derived.Laws.Sem
import Derived.Deep.CutBlock
import Derived.Test.YtifconapjfdkcaaGreatDoorDAA
import Derived.Test.YtifconapjfdkcaaGreatDoorDAB
import Derived.Test.YtifconapjfdkcaaGreatDoorDAC
import Derived.Test.YtifconapjfdkcaaGreatDoorDAD
import Derived.Test.YtifconapjfdkcaaGreatDoorDAE
import Derived.Test.YtifconapjfdkcaaGreatDoorDAF
import Derived.Test.YtifconapjfdkcaaGreatDoorDAG
import Derived.Test.YtifconapjfdkcaaGreatDoorDAH
import Derived.Test.YtifconapjfdkcaaGreatDoorDAI
import Derived.Test.YtifconapjfdkcaaGreatDoorDAJ
import Derived.Test.YtifconapjfdkcaaGreatDoorDAK
import Derived.Test.YtifconapjfdkcaaGreatDoorDAL
import Derived.Test.YtifconapjfdkcaaGreatDoorDAM
import Derived.Test.YtifconapjfdkcaaGreatDoorDAN
import Derived.Test.YtifconapjfdkcaaGreatDoorDAO
import Derived.Test.YtifconapjfdkcaaGreatDoorDAP
import Derived.Test.YtifconapjfdkcaaGreatDoorDAQ
import Derived.Test.YtifconapjfdkcaaGreatDoorDAR
import Derived.Test.YtifconapjfdkcaaGreatDoorDAS
import Derived.Test.YtifconapjfdkcaaGreatDoorDAT
import Derived.Test.YtifconapjfdkcaaGreatDoorDAU
import Derived.Test.YtifconapjfdkcaaGreatDoorDAV
import Derived.Test.YtifconapjfdkcaaGreatDoorDAW
import Derived.Test.YtifconapjfdkcaaGreatDoorDAX
import Derived.Test.YtifconapjfdkcaaGreatDoorDAY
import Derived.Test.YtifconapjfdkcaaGreatDoorDAZ
import Derived.Test.YtifconapjfdkcaaGreatDoorDBA
import Derived.Test.YtifconapjfdkcaaGreatDoorDBB
import Derived.Test.YtifconapjfdkcaaGreatDoorDBC
import Derived.Test.YtifconapjfdkcaaGreatDoorDBD
import Derived.Test.YtifconapjfdkcaaGreatDoorDBE
import Derived.Test.YtifconapjfdkcaaGreatDoorDBF
import Derived.Test.YtifconapjfdkcaaGreatDoorDBG
import Derived.Test.YtifconapjfdkcaaGreatDoorDBH
import Derived.Test.YtifconapjfdkcaaGreatDoorDBI
import Derived.Test.YtifconapjfdkcaaGreatDoorDBJ
set_option linter.unusedSimpArgs false
set_option linter.unusedVariables false
set_option maxRecDepth 100000
set_option maxHeartbeats 12800000
namespace Go.Proofs.YtifconapjfdkcaaGreatDoor
section
open Go.RowKit Go
theorem oper_concat{α : Type}{t:Ty α}{w:World}{S:Nat→Prop}{n:Nat}{xs:List α}{P:Program}{o:Oper}{a:Act}{K:Act→World→Prop}{Q:Exit→Act→World→Prop}{T e:TypeId}{v:Value}{base:Nat}{ys:List α}(ht:t.Flat)(s x:Operand)
 (ho:o.op=.call { callee:=.builtin .append,args := #[s,x],argTypes := #[T,T] }) (bytes:Nat) (he:Elem P T e t.size bytes) (hs:a.eval s=v) (hown:Own t e w base v xs)
 (ad:Addr) (m c:Nat) (hx:a.eval x=.slice (some ad) m c) (hy:Sl t w S (some ad) m c ys)
 (hlen:(xs.length+m)*bytes≤140737488355328) (hpos:0<bytes) (hbase:base≤w.heap.size)
 (h : ∀ v' w',Own t e w' base v' (xs++ys)→w.grownBy w' v.ownBlock→K (a.put o.dst v') w'):Oper.wp P o a w K Q:=by
 obtain⟨i,z,hi,hz,h1,h2,h3⟩:=he.parts;obtain⟨cs,hown1,hown2⟩:=hown;have hm:=hy.len;obtain⟨c1,hr,hat,hone⟩:=hy.cells;have h63:xs.length+m≤maxLen:=by
  have:=Nat.le_mul_of_pos_right (xs.length+m) hpos;unfold maxLen;omega
 obtain⟨v',w',hrun,ho',hgr,_,hv'⟩:=run_append_own_at (P:=P) w base T o.type e i z t.size bytes he.1 hi hz h1 h2 h3 t.pos v xs.length cs hown1 ad m c c1 (by rw[hr.1,hm]) hat hone h63 hlen hbase;unfold Oper.wp execOp;simp only[ho,resolve,invoke,builtin,Sem.run_bind,Sem.run_pure,Result.andThen_ok,List.map_toArray,List.map_cons,List.map_nil,hs,hx,hrun];refine h v' w' ⟨cs++c1,by rw[List.length_append, ←hm];exact ho', ?_⟩ hgr;have hb:=hgr.block;have hsz:=hgr.size;have hcat : ∀ (zs:List α) (dz:List Value),RepAll t w S dz zs→RepAll t w' (fun b=>base≤b∧b<w'.heap.size∧some b≠v'.ownBlock) dz zs:=fun zs dz hz=>hz.flat ht
 refine⟨by rw[List.length_append,List.length_append,hown2.1,hr.1,Nat.add_mul],fun i x hi =>?_⟩;rcases Nat.lt_or_ge i xs.length with hlt|hge
 ·have e1:xs[i]? = some x:=by rwa [List.getElem?_append_left hlt]at hi
  have h9:i*t.size+t.size≤cs.length:=by
   rw[hown2.1, ←Nat.succ_mul];exact Nat.mul_le_mul_right _ hlt
  rw[List.drop_append_of_le_length (by omega),List.take_append_of_le_length (by rw[List.length_drop];omega)];exact ht (hown2.2 i x e1)
 ·rw[List.getElem?_append_right hge]at hi;have e2:i*t.size=cs.length+(i-xs.length)*t.size:=by
   rw[hown2.1, ←Nat.add_mul]
   congr 1
   omega
  rw[e2,List.drop_append];have e3:cs.drop (cs.length+(i-xs.length)*t.size)=[]:=List.drop_eq_nil_of_le (by omega);rw[e3,List.nil_append,Nat.add_sub_cancel_left];exact ht (hr.2 _ x hi)
def BoxIs(B:Nat)(v cs:List Value)(h p:Int)(bs:List ByteArray)(os:List Int)(x:World):Prop :=
 ∃ A1 n1 c1 A2 n2 c2,x.heap[B]? = some (.cells (PRow v cs (.slice A1 n1 c1) (.slice A2 n2 c2) h p) 38 (0,0))∧Sl Ty.str x (fun b=>b<x.heap.size∧b≠B) A1 n1 c1 bs∧Sl (Ty.int .i64) x (fun b=>b<x.heap.size∧b≠B) A2 n2 c2 os
def BoxB(B:Nat)(v cs:List Value)(h p:Int)(bs:List ByteArray)(x:World):Prop :=
 ∃ u o,x.heap[B]? = some (.cells (PRow v cs u o h p) 38 (0,0))∧Own Ty.str 9 x (B+2) u bs
def BoxO(B:Nat)(v cs:List Value)(h p:Int)(os:List Int)(x:World):Prop :=
 ∃ u o,x.heap[B]? = some (.cells (PRow v cs u o h p) 38 (0,0))∧Own (Ty.int .i64) 3 x (B+2) o os
structure RS(B:Nat)(v cs:List Value)(h p:Int)(bs:List ByteArray)(os:List Int)(x y:World):Prop where
 oss:y.os=x.os
 tape:y.tape=x.tape
 output:y.output=x.output
 size:x.heap.size≤y.heap.size
 block : ∀ q,q<x.heap.size→q≠B→y.heap[q]? = x.heap[q]?
 box:BoxIs B v cs h p bs os x→BoxIs B v cs h p bs os y
 b:BoxB B v cs h p bs x→BoxB B v cs h p bs y
 o:BoxO B v cs h p os x→BoxO B v cs h p os y
section
variable {B:Nat} {v cs:List Value} {h p:Int} {bs:List ByteArray} {os:List Int} {x y z:World}
theorem RS.trans(a:RS B v cs h p bs os x y)(b:RS B v cs h p bs os y z):RS B v cs h p bs os x z :=
 ⟨b.oss.trans a.oss,b.tape.trans a.tape,b.output.trans a.output,Nat.le_trans a.size b.size,fun q hq hn=>(b.block q (Nat.lt_of_lt_of_le hq a.size) hn).trans (a.block q hq hn),fun h=>b.box (a.box h),fun h=>b.b (a.b h),fun h=>b.o (a.o h)⟩
theorem RS.below(hb:Below x.heap.size x y)(hB:B<x.heap.size):RS B v cs h p bs os x y:=by
 refine⟨hb.os,hb.tape,hb.output,hb.size,fun q hq _=>hb.block q hq, ?_, ?_, ?_⟩
 ·rintro⟨A1,n1,c1,A2,n2,c2,h1,h2,h3⟩;have:=hb.size;exact⟨A1,n1,c1,A2,n2,c2,(hb.block _ hB).trans h1,(h2.keep fun b hb'=>hb.block b hb'.1).more fun b hb'=>⟨by omega,hb'.2⟩,(h3.keep fun b hb'=>hb.block b hb'.1).more fun b hb'=>⟨by omega,hb'.2⟩⟩
 ·rintro⟨u,o,h1,h2⟩;exact⟨u,o,(hb.block _ hB).trans h1,h2.next hb⟩
 ·rintro⟨u,o,h1,h2⟩;exact⟨u,o,(hb.block _ hB).trans h1,h2.next hb⟩
theorem RS.refl(hB:B<x.heap.size):RS B v cs h p bs os x x:=RS.below (qC _ _) hB
theorem own_off{α : Type}{t:Ty α}{e:TypeId}{w:World}{u:Value}{xs:List α}(ht:t.Flat)(ho:Own t e w (B+2) u xs)(j:Nat)(y:Value):Own t e (w.setCell ⟨B,j,none⟩ y) (B+2) u xs :=
 ho.flatC ht fun q hq=>qO _ _ _ _ (by have:=(ho.lt q hq).1;show q≠B;omega)
theorem Own.slB{α : Type}{t:Ty α}{e:TypeId}{w:World}{u:Value}{xs:List α}(ho:Own t e w (B+2) u xs) : ∃ A c,u=.slice A xs.length c∧Sl t w (fun b=>b<w.heap.size∧b≠B) A xs.length c xs:=by
 obtain⟨A,c,e,hs⟩:=ho.sl;exact⟨A,c,e,hs.more fun b hb=>⟨hb.2,by omega⟩⟩
theorem RS.setB(hv:v.length=3)(hc:cs.length=14)(hx:BoxIs B v cs h p bs os x){u:Value}(ho:Own Ty.str 9 x (B+2) u bs) :
 RS B v cs h p bs os x (x.setCell ⟨B,17,none⟩ u)∧BoxB B v cs h p bs (x.setCell ⟨B,17,none⟩ u):=by
 have hk : ∀ q,q≠B→(x.setCell ⟨B,17,none⟩ u).heap[q]? = x.heap[q]? :=fun q hq=>qO _ _ _ _ hq
 have hB' : ∀ u' o,x.heap[B]? = some (.cells (PRow v cs u' o h p) 38 (0,0))→(x.setCell ⟨B,17,none⟩ u).heap[B]? = some (.cells (PRow v cs u o h p) 38 (0,0)):=fun u' o h1=>by
  rw[←PRow_set17 hv hc (b:=u')];exact qS _ _ _ _ _ _ h1
 have hB2:BoxB B v cs h p bs (x.setCell ⟨B,17,none⟩ u):=by
  obtain⟨A1,n1,c1,A2,n2,c2,h1,h2,h3⟩:=hx;exact⟨u,_,hB' _ _ h1,own_off flat_str ho 17 u⟩
 refine⟨⟨rfl,rfl,rfl,by simp,fun q _ hq=>hk q hq, ?_,fun _=>hB2, ?_⟩,hB2⟩
 ·rintro⟨A1,n1,c1,A2,n2,c2,h1,h2,h3⟩;obtain⟨A,c,rfl,hs⟩:=Own.slB ho;exact⟨A,_,c,A2,n2,c2,hB' _ _ h1,(hs.keep fun b hb'=>hk b hb'.2).more fun b hb'=>⟨by simpa using hb'.1,hb'.2⟩,(h3.keep fun b hb'=>hk b hb'.2).more fun b hb'=>⟨by simpa using hb'.1,hb'.2⟩⟩
 ·rintro⟨u',o,h1,h2⟩;exact⟨u,o,hB' _ _ h1,own_off (flat_int _) h2 17 u⟩
theorem RS.setO(hv:v.length=3)(hc:cs.length=14)(hx:BoxIs B v cs h p bs os x){u:Value}(ho:Own (Ty.int .i64) 3 x (B+2) u os) :
 RS B v cs h p bs os x (x.setCell ⟨B,18,none⟩ u)∧BoxO B v cs h p os (x.setCell ⟨B,18,none⟩ u):=by
 have hk : ∀ q,q≠B→(x.setCell ⟨B,18,none⟩ u).heap[q]? = x.heap[q]? :=fun q hq=>qO _ _ _ _ hq
 have hB' : ∀ u' o,x.heap[B]? = some (.cells (PRow v cs u' o h p) 38 (0,0))→(x.setCell ⟨B,18,none⟩ u).heap[B]? = some (.cells (PRow v cs u' u h p) 38 (0,0)):=fun u' o h1=>by
  rw[←PRow_set18 hv hc (o:=o)];exact qS _ _ _ _ _ _ h1
 have hB2:BoxO B v cs h p os (x.setCell ⟨B,18,none⟩ u):=by
  obtain⟨A1,n1,c1,A2,n2,c2,h1,h2,h3⟩:=hx;exact⟨_,u,hB' _ _ h1,own_off (flat_int _) ho 18 u⟩
 refine⟨⟨rfl,rfl,rfl,by simp,fun q _ hq=>hk q hq, ?_, ?_,fun _=>hB2⟩,hB2⟩
 ·rintro⟨A1,n1,c1,A2,n2,c2,h1,h2,h3⟩;obtain⟨A,c,rfl,hs⟩:=Own.slB ho;exact⟨A1,n1,c1,A,_,c,hB' _ _ h1,(h2.keep fun b hb'=>hk b hb'.2).more fun b hb'=>⟨by simpa using hb'.1,hb'.2⟩,(hs.keep fun b hb'=>hk b hb'.2).more fun b hb'=>⟨by simpa using hb'.1,hb'.2⟩⟩
 ·rintro⟨u',o,h1,h2⟩;exact⟨u',u,hB' _ _ h1,own_off flat_str h2 18 u⟩
end
def SpoilBox(w V:World):Prop := ∃ (cs v rest:List Value) (t:GTT),cs=v++rest∧v.length=3∧rest.length=18∧(∀ u∈cs,u.oneCell'=true)∧V.heap[w.heap.size]? = some (.cells cs.toArray 38 (0,0))∧V.heap[w.heap.size+1]? = some (.cells zProb 38 (0,0))∧t.ok ∧
 TTIs V (fun b=>b<V.heap.size∧b≠w.heap.size∧b≠w.heap.size+1) v t∧Below w.heap.size w V
theorem SpoilBox.set{w V:World}(h:SpoilBox w V){j:Nat}(hj:3≤j){u:Value}(hu:u.oneCell'=true):SpoilBox w (V.setCell ⟨w.heap.size,j,none⟩ u):=by
 obtain⟨cs,v,rest,t,rfl,hv,hr,hone,hb,hz,hok,htt,hbl⟩:=h;have hk : ∀ q,q≠w.heap.size→(V.setCell ⟨w.heap.size,j,none⟩ u).heap[q]? = V.heap[q]? :=fun q hq=>qO _ _ _ _ hq
 refine⟨v++rest.set (j-3) u,v,rest.set (j-3) u,t,rfl,hv,by rw[List.length_set];exact hr,fun x hx =>?_, ?_,(hk _ (by omega)).trans hz,hok,(htt.keep fun b hb'=>hk b hb'.2.1).more fun b hb'=>⟨by simpa using hb'.1,hb'.2⟩,hbl.setCell (qD w.heap.size) _⟩
 ·rcases List.mem_append.1 hx with h|h
  ·exact hone _ (List.mem_append_left _ h)
  ·rcases List.mem_or_eq_of_mem_set h with h|rfl
   ·exact hone _ (List.mem_append_right _ h)
   ·exact hu
 ·rw[qS _ _ _ _ _ _ hb];have:(v++rest).set j u=v++rest.set (j-3) u:=by
   rw[List.set_append_right _ _ (by omega),hv]
  rw[←this];simp
theorem SpoilBox.next{w V V':World}(h:SpoilBox w V)(hb:Below V.heap.size V V'):SpoilBox w V':=by
 obtain⟨cs,v,rest,t,e,hv,hr,hone,h1,hz,hok,htt,hbl⟩:=h;have:=hb.size;exact⟨cs,v,rest,t,e,hv,hr,hone,(hb.block _ (Array.getElem?_eq_some_iff.1 h1).1).trans h1,(hb.block _ (Array.getElem?_eq_some_iff.1 hz).1).trans hz,hok,(htt.keep fun b hb'=>hb.block b hb'.1).more fun b hb'=>⟨by omega,hb'.2⟩,hbl.trans (hb.mono hbl.size)⟩
end
section
open Go.RowKit Go
structure PB9(w V:World)(v cs:List Value)(b o:Value)(t:GTT):Prop where
 box : ∃ h p,V.heap[w.heap.size]? = some (.cells (PRow v cs b o h p) 38 (0,0))
 res:V.heap[w.heap.size+1]? = some (.cells zProb 38 (0,0))
 one:b.oneCell'=true∧o.oneCell'=true
 con:ConCells cs
 tt:TTIs V (fun b=>b<w.heap.size) v t
 ok:t.ok
 bel:Below w.heap.size w V
 sz:w.heap.size+2≤V.heap.size
section
variable {w V V':World} {v cs:List Value} {b o:Value} {t:GTT}
theorem tt_three{w:World}{S:Nat→Prop}{v:List Value}{t:GTT}(h:TTIs w S v t):v.length=3 ∧ ∀ u∈v,u.oneCell'=true:=by
 obtain⟨_,_,_,_,_,_,_,_,_,rfl, -, -, -⟩:=h;exact⟨rfl,fun u hu=>by simp at hu;rcases hu with rfl|rfl|rfl <;> rfl⟩
theorem PB9.spoil(h:PB9 w V v cs b o t):SpoilBox w V:=by
 obtain⟨hh,pp,hb⟩:=h.box;obtain⟨h3,h1⟩:=tt_three h.tt;have hs:=h.sz;refine⟨_,v,cs++[b,o,.int .i64 hh,.int .i64 pp],t,rfl,h3,by rw[List.length_append,h.con.1];rfl,fun u hu =>?_,hb,h.res,h.ok,h.tt.more fun q hq=>⟨by omega,by omega,by omega⟩,h.bel⟩;rcases List.mem_append.1 hu with hu|hu
 ·exact h1 u hu
 rcases List.mem_append.1 hu with hu|hu
 ·exact h.con.2 u hu
 simp at hu;rcases hu with rfl|rfl|rfl|rfl
 ·exact h.one.1
 ·exact h.one.2
 ·rfl
 ·rfl
theorem PB9.keep(h:PB9 w V v cs b o t)(hk : ∀ q,q<w.heap.size+2→V'.heap[q]? = V.heap[q]?)(hb:Below w.heap.size w V')(hs:w.heap.size+2≤V'.heap.size):PB9 w V' v cs b o t:=by
 obtain⟨hh,pp,hx⟩:=h.box;exact⟨⟨hh,pp,(hk _ (by omega)).trans hx⟩,(hk _ (by omega)).trans h.res,h.one,h.con,h.tt.keep fun q hq=>hk q (by omega),h.ok,hb,hs⟩
theorem PB9.next(h:PB9 w V v cs b o t)(hb:Below V.heap.size V V'):PB9 w V' v cs b o t :=
 h.keep (fun q hq=>hb.block q (Nat.lt_of_lt_of_le hq h.sz)) (h.bel.trans (hb.mono h.bel.size)) (Nat.le_trans h.sz hb.size)
theorem PB9.grown(h:PB9 w V v cs b o t){j:Option Nat}(hg:V.grownBy V' j)(hj : ∀ k,j=some k→w.heap.size+2≤k):PB9 w V' v cs b o t :=
 h.keep (fun q hq=>hg.block q (Nat.lt_of_lt_of_le hq h.sz) fun e=>by have:=hj q e.symm;omega) (h.bel.grown hg h.bel.size fun k hk=>by have:=hj k hk;omega) (Nat.le_trans h.sz hg.size)
theorem PB9.other(h:PB9 w V v cs b o t){g:Nat}(hg:w.heap.size+2≤g)(j:Nat)(u:Value):PB9 w (V.setCell ⟨g,j,none⟩ u) v cs b o t :=
 h.keep (fun q hq=>qO _ _ _ _ (by show q≠g;omega)) (h.bel.setCell (show w.heap.size≤g by omega) _) (by have:=h.sz;simpa using this)
theorem PB9.set17(h:PB9 w V v cs b o t){u:Value}(hu:u.oneCell'=true):PB9 w (V.setCell ⟨w.heap.size,17,none⟩ u) v cs u o t:=by
 obtain⟨hh,pp,hx⟩:=h.box;have hk : ∀ q,q≠w.heap.size→(V.setCell ⟨w.heap.size,17,none⟩ u).heap[q]? = V.heap[q]? :=fun q hq=>qO _ _ _ _ hq
 refine⟨⟨hh,pp, ?_⟩,(hk _ (by omega)).trans h.res,⟨hu,h.one.2⟩,h.con,h.tt.keep fun q hq=>hk q (by omega),h.ok,h.bel.setCell (qD _) _,by have:=h.sz;simpa using this⟩;rw[←PRow_set17 (tt_three h.tt).1 h.con.1 (b:=b)];exact qS _ _ _ _ _ _ hx
theorem PB9.set18(h:PB9 w V v cs b o t){u:Value}(hu:u.oneCell'=true):PB9 w (V.setCell ⟨w.heap.size,18,none⟩ u) v cs b u t:=by
 obtain⟨hh,pp,hx⟩:=h.box;have hk : ∀ q,q≠w.heap.size→(V.setCell ⟨w.heap.size,18,none⟩ u).heap[q]? = V.heap[q]? :=fun q hq=>qO _ _ _ _ hq
 refine⟨⟨hh,pp, ?_⟩,(hk _ (by omega)).trans h.res,⟨h.one.1,hu⟩,h.con,h.tt.keep fun q hq=>hk q (by omega),h.ok,h.bel.setCell (qD _) _,by have:=h.sz;simpa using this⟩;rw[←PRow_set18 (tt_three h.tt).1 h.con.1 (o:=o)];exact qS _ _ _ _ _ _ hx
end
structure PF9(w V:World)(A1:Option Addr)(n1 d1:Nat)(A2:Option Addr)(n2 d2:Nat)(u:Value)(rest:List Value)(zs:List GZone)(aps:List GAirport)(fl:List GFlight):Prop where
 box:V.heap[w.heap.size]? = some (.cells ([.slice A1 n1 d1,.slice A2 n2 d2,u]++rest).toArray 38 (0,0))
 res:V.heap[w.heap.size+1]? = some (.cells zProb 38 (0,0))
 one:rest.length=18 ∧ ∀ x∈rest,x.oneCell'=true
 z:Sl Ty.zone V (fun b=>b<w.heap.size) A1 n1 d1 zs
 a:Sl Ty.airport V (fun b=>b<w.heap.size) A2 n2 d2 aps
 f:OwnS Ty.flight 62 V (fun _=>False) (w.heap.size+2) u fl
 bel:Below w.heap.size w V
 sz:w.heap.size+2≤V.heap.size
section
variable {w V:World} {A1:Option Addr} {n1 d1:Nat} {A2:Option Addr} {n2 d2:Nat} {u:Value} {rest:List Value} {zs:List GZone} {aps:List GAirport} {fl:List GFlight}
theorem PF9.spoil(h:PF9 w V A1 n1 d1 A2 n2 d2 u rest zs aps fl)(hok:GTT.ok ⟨zs,aps,fl⟩):SpoilBox w V:=by
 have hs:=h.sz;have hlt:=h.f.lt;obtain⟨A,c,rfl,hsl⟩:=h.f.sl;refine⟨_,[.slice A1 n1 d1,.slice A2 n2 d2,.slice A fl.length c],rest,⟨zs,aps,fl⟩,rfl,rfl,h.one.1,fun x hx =>?_,h.box,h.res,hok,⟨_,_,_,_,_,_,_,_,_,rfl,h.z.more fun q hq=>⟨by omega,by omega,by omega⟩,h.a.more fun q hq=>⟨by omega,by omega,by omega⟩,hsl.more fun q hq =>?_⟩,h.bel⟩
 ·rcases List.mem_append.1 hx with hx|hx
  ·simp at hx;rcases hx with rfl|rfl|rfl <;> rfl
  ·exact h.one.2 x hx
 ·rcases hq with hq|hq
  ·exact hq.elim
  ·have:=hlt q hq;exact⟨by omega,by omega,by omega⟩
theorem PF9.set{g n c:Nat}(h:PF9 w V A1 n1 d1 A2 n2 d2 (.slice (some ⟨g,0,none⟩) n c) rest zs aps fl){k j:Nat}(hk:k<fl.length)(hj:j<9){x:Value}{y:GFlight}(hy:(flightCells (fl.getD k noFlight)).set j x=flightCells y) :
 PF9 w (V.setCell ⟨g,k*9+j,none⟩ x) A1 n1 d1 A2 n2 d2 (.slice (some ⟨g,0,none⟩) n c) rest zs aps (fl.set k y):=by
 have hg:=(h.f.lt g rfl).1;have hk2 : ∀ q,q≠g→(V.setCell ⟨g,k*9+j,none⟩ x).heap[q]? = V.heap[q]? :=fun q hq=>qO _ _ _ _ hq
 refine⟨(hk2 _ (by omega)).trans h.box,(hk2 _ (by omega)).trans h.res,h.one,h.z.keep fun q hq=>hk2 q (by omega),h.a.keep fun q hq=>hk2 q (by omega), ?_,h.bel.setCell (show w.heap.size≤g by omega) _,by have:=h.sz;simpa using this⟩;exact h.f.setAt (t:=Ty.flight) hk hj (fun h=>h) fun cs hr=>by
  rw[getD_any hk y noFlight]at hr;have hr':cs=flightCells (fl.getD k noFlight):=hr;subst hr';exact hy
end
theorem PB9.flights{w V V':World}{A1:Option Addr}{n1 d1:Nat}{A2:Option Addr}{n2 d2:Nat}{A3:Option Addr}{n3 d3:Nat}{cs:List Value}{b o:Value}{t:GTT}(h:PB9 w V [.slice A1 n1 d1,.slice A2 n2 d2,.slice A3 n3 d3] cs b o t)(hg:V.grownBy V' none){u:Value}{fl:List GFlight}(ho:Own Ty.flight 62 V' (w.heap.size+2) u fl) :
 ∃ hh pp:Int,PF9 w (V'.setCell ⟨w.heap.size,2,none⟩ u) A1 n1 d1 A2 n2 d2 u (cs++[b,o,.int .i64 hh,.int .i64 pp]) t.zones t.airports fl:=by
 have h2:=h.grown hg fun _ h=>by cases h
 obtain⟨hh,pp,hx⟩:=h2.box;obtain⟨k1,k2, -⟩:=h2.tt.fl;have hk : ∀ q,q≠w.heap.size→(V'.setCell ⟨w.heap.size,2,none⟩ u).heap[q]? = V'.heap[q]? :=fun q hq=>qO _ _ _ _ hq
 refine⟨hh,pp, ?_,(hk _ (by omega)).trans h2.res,⟨by rw[List.length_append,h.con.1];rfl,fun x hx =>?_⟩,k1.keep fun q hq=>hk q (by omega),k2.keep fun q hq=>hk q (by omega), ?_,h2.bel.setCell (qD _) _,by have:=h2.sz;simpa using this⟩
 ·have:=qS V' w.heap.size 2 _ _ u hx;rw[this];unfold PRow;simp
 ·rcases List.mem_append.1 hx with hx|hx
  ·exact h.con.2 x hx
  ·simp at hx;rcases hx with rfl|rfl|rfl|rfl
   ·exact h.one.1
   ·exact h.one.2
   ·rfl
   ·rfl
 ·exact(Own.toS flat_flight ho).keep (by simp) (fun q hq=>hk q (by have:=(ho.lt q hq).1;omega)) fun _ h=>h.elim
end
section
open Go.RowKit
def SpoilPost(w:World)(e:Ending)(w':World):Prop :=
 ∃ (cells v rest:List Value) (t:GTT),e=.returned (.agg cells.toArray)∧cells=v++rest∧rest.length=18∧(∀ u∈cells,u.oneCell'=true)∧t.ok∧TTIs w' (all_ w') v t∧Below w.heap.size w w'
theorem dataSpoil_any(t:GTT)(bs:List ByteArray)(os m:List Int)(A1 A2 A3 Ab Ao Am:Option Addr)(n1 d1 n2 d2 n3 d3 nb cb no co nm cm:Nat)(k0 k1 k2 k3 k4 k5 k6 k7 k8 k9 k10 k11 k12 k13:Value)(hh pp:Int)(w:World)
 (ht:t.ok) (hcs:ConCells [k0,k1,k2,k3,k4,k5,k6,k7,k8,k9,k10,k11,k12,k13]) (hs1:Sl Ty.zone w (all_ w) A1 n1 d1 t.zones) (hs2:Sl Ty.airport w (all_ w) A2 n2 d2 t.airports) (hs3:Sl Ty.flight w (all_ w) A3 n3 d3 t.flights) (hbs:Sl Ty.str w (all_ w) Ab nb cb bs) (hos:Sl (Ty.int .i64) w (all_ w) Ao no co os) (hm:Sl (Ty.int .i64) w (all_ w) Am nm cm m)
 (h0:0<os.length∧os.length≤5) (hb2:bs.length≤2) (hf:0<t.flights.length∧t.flights.length≤9) :
 Calls Tryz.prog 15 #[.agg #[.slice A1 n1 d1,.slice A2 n2 d2,.slice A3 n3 d3,k0,k1,k2,k3,k4,k5,k6,k7,k8,k9,k10,k11,k12,k13,.slice Ab nb cb,.slice Ao no co,.int .i64 hh,.int .i64 pp],.slice Am nm cm] w (SpoilPost w):=by
 have HSM:Hid (∀ V,Below w.heap.size w V→Sl (Ty.int .i64) V (all_ V) Am nm cm m):=fun V hV=>hm.next hV
 have HTT:Hid (Sl Ty.zone w (all_ w) A1 n1 d1 t.zones∧Sl Ty.airport w (all_ w) A2 n2 d2 t.airports∧Sl Ty.flight w (all_ w) A3 n3 d3 t.flights):=⟨hs1,hs2,hs3⟩
 have HBO:Hid (Sl Ty.str w (all_ w) Ab nb cb bs∧Sl (Ty.int .i64) w (all_ w) Ao no co os):=⟨hbs,hos⟩
 have HCS:=qH hcs;have HOK:=qH ht;have HL:=qH (And.intro h0 (And.intro hb2 hf));have HRG:Hid (∀ i,0≤atL m i∧atL m i≤65535+i):=fun i=>atL_range m i
 clear hs1 hs2 hs3 hbs hos hm hcs ht h0 hb2 hf
 go_enter Tryz.func15,Tryz.ntmps15
 go_upto_region 1 with (fail)
 have hba:=((qC w.heap.size w).alloc (qD _) (.cells #[.slice A1 n1 d1,.slice A2 n2 d2,.slice A3 n3 d3,k0,k1,k2,k3,k4,k5,k6,k7,k8,k9,k10,k11,k12,k13,.slice Ab nb cb,.slice Ao no co,.int .i64 hh,.int .i64 pp] 38)).alloc (by simp) (.cells zProb 38);have HX0:Hid (((w.alloc (.cells #[.slice A1 n1 d1,.slice A2 n2 d2,.slice A3 n3 d3,k0,k1,k2,k3,k4,k5,k6,k7,k8,k9,k10,k11,k12,k13,.slice Ab nb cb,.slice Ao no co,.int .i64 hh,.int .i64 pp] 38)).alloc (.cells zProb 38)).heap[w.heap.size]? = some (.cells #[.slice A1 n1 d1,.slice A2 n2 d2,.slice A3 n3 d3,k0,k1,k2,k3,k4,k5,k6,k7,k8,k9,k10,k11,k12,k13,.slice Ab nb cb,.slice Ao no co,.int .i64 hh,.int .i64 pp] 38 (0,0))):=(Below.heap_alloc _ _ _ (by simp)).trans (qK _ _);have HR0:Hid (((w.alloc (.cells #[.slice A1 n1 d1,.slice A2 n2 d2,.slice A3 n3 d3,k0,k1,k2,k3,k4,k5,k6,k7,k8,k9,k10,k11,k12,k13,.slice Ab nb cb,.slice Ao no co,.int .i64 hh,.int .i64 pp] 38)).alloc (.cells zProb 38)).heap[w.heap.size+1]? = some (.cells zProb 38 (0,0))):=by
  have:=qK (w.alloc (.cells #[.slice A1 n1 d1,.slice A2 n2 d2,.slice A3 n3 d3,k0,k1,k2,k3,k4,k5,k6,k7,k8,k9,k10,k11,k12,k13,.slice Ab nb cb,.slice Ao no co,.int .i64 hh,.int .i64 pp] 38)) (.cells zProb 38);show _=_;simpa using this
 have hz0:((w.alloc (.cells #[.slice A1 n1 d1,.slice A2 n2 d2,.slice A3 n3 d3,k0,k1,k2,k3,k4,k5,k6,k7,k8,k9,k10,k11,k12,k13,.slice Ab nb cb,.slice Ao no co,.int .i64 hh,.int .i64 pp] 38)).alloc (.cells zProb 38)).heap.size=w.heap.size+2:=by simp
 have HBA:=qH hba;change Code.wp _ _ _ _ ((w.alloc (.cells #[.slice A1 n1 d1,.slice A2 n2 d2,.slice A3 n3 d3,k0,k1,k2,k3,k4,k5,k6,k7,k8,k9,k10,k11,k12,k13,.slice Ab nb cb,.slice Ao no co,.int .i64 hh,.int .i64 pp] 38)).alloc (.cells zProb 38));generalize (w.alloc (.cells #[.slice A1 n1 d1,.slice A2 n2 d2,.slice A3 n3 d3,k0,k1,k2,k3,k4,k5,k6,k7,k8,k9,k10,k11,k12,k13,.slice Ab nb cb,.slice Ao no co,.int .i64 hh,.int .i64 pp] 38)).alloc (.cells zProb 38)=W0 at*;have HA1:=qH (dataAt_any m Am nm cm 1 W0 (HSM.out W0 HBA.out) (by decide));clear hba;have hk0:=(HRG.out 1).1;have hk1:=(HRG.out 1).2;generalize atL m 1=kk at*;go_upto_region 2 with (go_at_call 32;refine HA1.out.mono ?_;rintro e w2 ⟨rfl,hb2⟩)
 have HB2:Hid (Below w.heap.size w w2):=HBA.out.trans (hb2.mono HBA.out.size);have HX2:Hid (w2.heap[w.heap.size]? = some (.cells #[.slice A1 n1 d1,.slice A2 n2 d2,.slice A3 n3 d3,k0,k1,k2,k3,k4,k5,k6,k7,k8,k9,k10,k11,k12,k13,.slice Ab nb cb,.slice Ao no co,.int .i64 hh,.int .i64 pp] 38 (0,0))):=(hb2.block _ (by omega)).trans HX0.out;have HR2:Hid (w2.heap[w.heap.size+1]? = some (.cells zProb 38 (0,0))):=(hb2.block _ (by omega)).trans HR0.out;have hz2:w.heap.size+2≤w2.heap.size:=by have:=hb2.size;omega
 have HBI:Hid (BoxIs w.heap.size [.slice A1 n1 d1,.slice A2 n2 d2,.slice A3 n3 d3] [k0,k1,k2,k3,k4,k5,k6,k7,k8,k9,k10,k11,k12,k13] hh pp bs os w2):=⟨Ab,nb,cb,Ao,no,co,HX2.out,(HBO.out.1.keep fun b hb=>HB2.out.block b hb).more fun b hb=>⟨by have:b<w.heap.size:=hb;omega,by have:b<w.heap.size:=hb;omega⟩,(HBO.out.2.keep fun b hb=>HB2.out.block b hb).more fun b hb=>⟨by have:b<w.heap.size:=hb;omega,by have:b<w.heap.size:=hb;omega⟩⟩
 clear hb2 HA1 HX0 HR0 hz0 HBA;refine wp_region_factsD (RS w.heap.size [.slice A1 n1 d1,.slice A2 n2 d2,.slice A3 n3 d3] [k0,k1,k2,k3,k4,k5,k6,k7,k8,k9,k10,k11,k12,k13] hh pp bs os) RS.trans 10 [some 8,some 9,some 10,some 11,some 12,some 13,some 14,none,some 15,none] (fun i v x=>(([(fun v x=>v=.pointer (some ⟨w.heap.size,17,none⟩)),(fun v x => ∃ A n c,v=.slice A n c∧Sl Ty.str x (fun b=>b<x.heap.size∧b≠w.heap.size) A n c bs),(fun v x=>Own Ty.str 9 x (w.heap.size+2) v bs),(fun v x=>v=.pointer (some ⟨w.heap.size,18,none⟩)),(fun v x => ∃ A n c,v=.slice A n c∧Sl (Ty.int .i64) x (fun b=>b<x.heap.size∧b≠w.heap.size) A n c os),(fun v x=>Own (Ty.int .i64) 3 x (w.heap.size+2) v os),(fun v x=>v=.pointer (some ⟨w.heap.size,17,none⟩)),(fun v x=>BoxB w.heap.size [.slice A1 n1 d1,.slice A2 n2 d2,.slice A3 n3 d3] [k0,k1,k2,k3,k4,k5,k6,k7,k8,k9,k10,k11,k12,k13] hh pp bs x),(fun v x=>v=.pointer (some ⟨w.heap.size,18,none⟩)),(fun v x=>BoxO w.heap.size [.slice A1 n1 d1,.slice A2 n2 d2,.slice A3 n3 d3] [k0,k1,k2,k3,k4,k5,k6,k7,k8,k9,k10,k11,k12,k13] hh pp os x)]:List (Value→World→Prop)).getD i (fun _ _=>True)) v x) (RS.below ⟨rfl,rfl,rfl,qD _,fun _ _=>rfl⟩ (by omega)) (by kernel_rfl) (by kernel_rfl) (by kernel_rfl) (by kernel_rfl) ?_ ?_ ?_
 ·intro i v x x' h hx;rcases Nat.lt_or_ge i 10 with hi|hi
  ·have hi':i=0∨i=1∨i=2∨i=3∨i=4∨i=5∨i=6∨i=7∨i=8∨i=9:=by omega
   rcases hi' with rfl|rfl|rfl|rfl|rfl|rfl|rfl|rfl|rfl|rfl
   ·exact h
   ·exact(by obtain⟨A,n,c,e,hs⟩:=h;exact⟨A,n,c,e,(hs.keep fun b hb=>hx.block b hb.1 hb.2).more fun b hb=>⟨Nat.lt_of_lt_of_le hb.1 hx.size,hb.2⟩⟩)
   ·exact(Own.flatC flat_str h fun q hq=>hx.block q (h.lt q hq).2 (by have:=(h.lt q hq).1;omega))
   ·exact h
   ·exact(by obtain⟨A,n,c,e,hs⟩:=h;exact⟨A,n,c,e,(hs.keep fun b hb=>hx.block b hb.1 hb.2).more fun b hb=>⟨Nat.lt_of_lt_of_le hb.1 hx.size,hb.2⟩⟩)
   ·exact(Own.flatC (flat_int _) h fun q hq=>hx.block q (h.lt q hq).2 (by have:=(h.lt q hq).1;omega))
   ·exact h
   ·exact(hx.b h)
   ·exact h
   ·exact(hx.o h)
  ·rw[qF,List.getElem?_eq_none (by simpa using hi)];trivial
 ·intro q o' hq ho a' w' hR hout hpre K hK;have hsz':w.heap.size<w'.heap.size:=by have:=hR.size;omega
  have hsz2:w.heap.size+2≤w'.heap.size:=by have:=hR.size;omega
  have hq':q=0∨q=1∨q=2∨q=3∨q=4∨q=5∨q=6∨q=7∨q=8∨q=9:=by omega
  rcases hq' with rfl|rfl|rfl|rfl|rfl|rfl|rfl|rfl|rfl|rfl
  ·obtain rfl:=qB ho;have e2:a'.tmps[2]? = some (.pointer (some ⟨w.heap.size,0,none⟩)):=hout 2 (by decide);go_simp
   exact hK (.pointer (some ⟨w.heap.size,17,none⟩)) w' rfl (RS.refl hsz')
  ·obtain rfl:=qB ho;have p0:a'.tmps.getD 8 undef=.pointer (some ⟨w.heap.size,17,none⟩):=hpre ⟨0,.data⟩ (by simp) (by decide) 8 rfl;simp only[qA]at p0;obtain⟨X1,x1,y1,X2,x2,y2,hbx,hsb,hso⟩:=hR.box HBI.out;have hc:w'.cell? ⟨w.heap.size,17,none⟩=some (.slice X1 x1 y1):=block_cell hbx 17;go_simp
   exact hK _ w' ⟨X1,x1,y1,rfl,hsb⟩ (RS.refl hsz')
  ·obtain rfl:=qB ho;have p1:=hpre ⟨1,.data⟩ (by simp) (by decide) 9 rfl;obtain⟨A9,n9,c9,e9,hs9⟩:=p1;have hn9:=hs9.len
   cases A9 with
   | none =>
    have hx0:bs=[]:=by
     rcases Nat.eq_zero_or_pos n9 with h9|h9
     ·exact List.eq_nil_of_length_eq_zero (by omega)
     ·obtain⟨b9,o9,_,e,_⟩:=hs9.at_ (k:=0) (by omega)
      cases e
    have hn0:n9=0:=by rw[hn9,hx0];rfl
    subst hn0;have HX:=qH hx0;clear hx0 hn9 hs9;simp only[qA]at e9;go_simp
    try simp only[Sem.run_pure,Result.andThen_ok]
    exact hK (.slice none 0 0) w' (by rw[HX.out];exact Own.nil) (RS.refl hsz')
   | some ad =>
    refine oper_concat (n:=0) (t:=Ty.str) (xs:=[]) (ys:=bs) (base:=w.heap.size+2) flat_str _ _ rfl 16 elem_strs rfl Own.nil ad n9 c9 e9 hs9 ?_ (by decide) (by omega) fun v' w'' ho hg =>?_
    ·have:=HL.out;simp;omega
    ·exact hK v' w'' ho (RS.below ((qC _ _).grown hg (qD _) fun j hj=>by cases hj) hsz')
  ·obtain rfl:=qB ho;have e2:a'.tmps[2]? = some (.pointer (some ⟨w.heap.size,0,none⟩)):=hout 2 (by decide);go_simp
   exact hK (.pointer (some ⟨w.heap.size,18,none⟩)) w' rfl (RS.refl hsz')
  ·obtain rfl:=qB ho;have p3:a'.tmps.getD 11 undef=.pointer (some ⟨w.heap.size,18,none⟩):=hpre ⟨3,.data⟩ (by simp) (by decide) 11 rfl;simp only[qA]at p3;obtain⟨X1,x1,y1,X2,x2,y2,hbx,hsb,hso⟩:=hR.box HBI.out;have hc:w'.cell? ⟨w.heap.size,18,none⟩=some (.slice X2 x2 y2):=block_cell hbx 18;go_simp
   exact hK _ w' ⟨X2,x2,y2,rfl,hso⟩ (RS.refl hsz')
  ·obtain rfl:=qB ho;have p4:=hpre ⟨4,.data⟩ (by simp) (by decide) 12 rfl;obtain⟨A9,n9,c9,e9,hs9⟩:=p4;have hn9:=hs9.len
   cases A9 with
   | none =>
    have hx0:os=[]:=by
     rcases Nat.eq_zero_or_pos n9 with h9|h9
     ·exact List.eq_nil_of_length_eq_zero (by omega)
     ·obtain⟨b9,o9,_,e,_⟩:=hs9.at_ (k:=0) (by omega)
      cases e
    have hn0:n9=0:=by rw[hn9,hx0];rfl
    subst hn0;have HX:=qH hx0;clear hx0 hn9 hs9;simp only[qA]at e9;go_simp
    try simp only[Sem.run_pure,Result.andThen_ok]
    exact hK (.slice none 0 0) w' (by rw[HX.out];exact Own.nil) (RS.refl hsz')
   | some ad =>
    refine oper_concat (n:=0) (t:=Ty.int .i64) (xs:=[]) (ys:=os) (base:=w.heap.size+2) (flat_int _) _ _ rfl 8 elem_ints rfl Own.nil ad n9 c9 e9 hs9 ?_ (by decide) (by omega) fun v' w'' ho hg =>?_
    ·have:=HL.out;simp;omega
    ·exact hK v' w'' ho (RS.below ((qC _ _).grown hg (qD _) fun j hj=>by cases hj) hsz')
  ·obtain rfl:=qB ho;have e2:a'.tmps[2]? = some (.pointer (some ⟨w.heap.size,0,none⟩)):=hout 2 (by decide);go_simp
   exact hK (.pointer (some ⟨w.heap.size,17,none⟩)) w' rfl (RS.refl hsz')
  ·obtain rfl:=qB ho;have p6:a'.tmps.getD 14 undef=.pointer (some ⟨w.heap.size,17,none⟩):=hpre ⟨6,.data⟩ (by simp) (by decide) 14 rfl;simp only[qA]at p6;have p2:=hpre ⟨2,.data⟩ (by simp) (by decide) 10 rfl;obtain⟨u,hu⟩ : ∃ u,a'.tmps.getD 10 undef=u:=⟨_,rfl⟩
   rw[hu]at p2;have HS:=qH (RS.setB (B:=w.heap.size) (v:=[.slice A1 n1 d1,.slice A2 n2 d2,.slice A3 n3 d3]) (cs:=[k0,k1,k2,k3,k4,k5,k6,k7,k8,k9,k10,k11,k12,k13]) rfl rfl (hR.box HBI.out) p2);obtain⟨A9,c9,rfl, -⟩:=Own.slB p2;obtain⟨X1,x1,y1,X2,x2,y2,hbx,hsb,hso⟩:=hR.box HBI.out;have hc:=block_cell hbx 17;have hf:=block_free hbx 17;have hc':w'.cell? ⟨w.heap.size,17,none⟩=some (.slice X1 x1 y1):=hc;clear hc;simp only[qA]at hu;go_simp
   exact hK undef _ HS.out.2 HS.out.1
  ·obtain rfl:=qB ho;have e2:a'.tmps[2]? = some (.pointer (some ⟨w.heap.size,0,none⟩)):=hout 2 (by decide);go_simp
   exact hK (.pointer (some ⟨w.heap.size,18,none⟩)) w' rfl (RS.refl hsz')
  ·obtain rfl:=qB ho;have p8:a'.tmps.getD 15 undef=.pointer (some ⟨w.heap.size,18,none⟩):=hpre ⟨8,.data⟩ (by simp) (by decide) 15 rfl;simp only[qA]at p8;have p5:=hpre ⟨5,.data⟩ (by simp) (by decide) 13 rfl;obtain⟨u,hu⟩ : ∃ u,a'.tmps.getD 13 undef=u:=⟨_,rfl⟩
   rw[hu]at p5;have HS:=qH (RS.setO (B:=w.heap.size) (v:=[.slice A1 n1 d1,.slice A2 n2 d2,.slice A3 n3 d3]) (cs:=[k0,k1,k2,k3,k4,k5,k6,k7,k8,k9,k10,k11,k12,k13]) rfl rfl (hR.box HBI.out) p5);obtain⟨A9,c9,rfl, -⟩:=Own.slB p5;obtain⟨X1,x1,y1,X2,x2,y2,hbx,hsb,hso⟩:=hR.box HBI.out;have hc:=block_cell hbx 18;have hf:=block_free hbx 18;have hc':w'.cell? ⟨w.heap.size,18,none⟩=some (.slice X2 x2 y2):=hc;clear hc;simp only[qA]at hu;go_simp
   exact hK undef _ HS.out.2 HS.out.1
 ·intro us w' hR hfacts;have h7:=hfacts 7 (by decide);have h9:=hfacts 9 (by decide);clear hfacts;obtain⟨ub,o1,hx1,hob⟩:BoxB w.heap.size [.slice A1 n1 d1,.slice A2 n2 d2,.slice A3 n3 d3] [k0,k1,k2,k3,k4,k5,k6,k7,k8,k9,k10,k11,k12,k13] hh pp bs w':=h7;obtain⟨u1,uo,hx2,hoo⟩:BoxO w.heap.size [.slice A1 n1 d1,.slice A2 n2 d2,.slice A3 n3 d3] [k0,k1,k2,k3,k4,k5,k6,k7,k8,k9,k10,k11,k12,k13] hh pp os w':=h9;have e9:=hx1.symm.trans hx2;injection e9 with e9
  injection e9 with e9
  simp only[PRow,List.cons_append,List.nil_append,List.append_assoc,Array.mk.injEq,List.cons.injEq,and_true,true_and]at e9;obtain⟨rfl,rfl⟩:=e9;have oneb:ub.oneCell'=true:=by obtain⟨A,c,e, -⟩:=hob.sl;rw[e];rfl
  have oneo:o1.oneCell'=true:=by obtain⟨A,c,e, -⟩:=hoo.sl;rw[e];rfl
  have HBX:Hid (w'.heap[w.heap.size]? = some (.cells #[.slice A1 n1 d1,.slice A2 n2 d2,.slice A3 n3 d3,k0,k1,k2,k3,k4,k5,k6,k7,k8,k9,k10,k11,k12,k13,ub,o1,.int .i64 hh,.int .i64 pp] 38 (0,0))):=hx2;have HZV:Hid (w'.heap[w.heap.size+1]? = some (.cells zProb 38 (0,0))):=(hR.block _ (by omega) (by omega)).trans HR2.out;have hkk : ∀ q,q<w.heap.size→w'.heap[q]? = w.heap[q]? :=fun q hq=>(hR.block q (by omega) (by omega)).trans (HB2.out.block q hq)
  have HBL:Hid (Below w.heap.size w w'):=⟨hR.oss.trans HB2.out.os,hR.tape.trans HB2.out.tape,hR.output.trans HB2.out.output,Nat.le_trans HB2.out.size hR.size,hkk⟩
  have HTV:Hid (Sl Ty.zone w' (fun b=>b<w.heap.size) A1 n1 d1 t.zones∧Sl Ty.airport w' (fun b=>b<w.heap.size) A2 n2 d2 t.airports∧Sl Ty.flight w' (fun b=>b<w.heap.size) A3 n3 d3 t.flights):=⟨HTT.out.1.keep fun b hb=>hkk b hb,HTT.out.2.1.keep fun b hb=>hkk b hb,HTT.out.2.2.keep fun b hb=>hkk b hb⟩
  have HOB:=qH hob;have HOO:=qH hoo;have hzv:w.heap.size+2≤w'.heap.size:=by have:=hR.size;omega
  clear hx1 hx2 hob hoo hR hkk HX2 HR2 HBI HBO HB2 hz2;simp only[putLo,Act.put,List.setIfInBounds_toArray,List.set_cons_zero,List.set_cons_succ,Nat.zero_add,Nat.reduceAdd];generalize w'=V at*;have HA0:=qH (dataAt_any m Am nm cm 0 V (HSM.out V HBL.out) (by decide));have hz0:=(HRG.out 0).1;have g1:(atL m 0).tmod 16=atL m 0%16:=qQ hz0;have g2:IntKind.i64.wrap (atL m 0%16)=atL m 0%16:=qM _ (by omega);have HP0:Hid (PB9 w V [.slice A1 n1 d1,.slice A2 n2 d2,.slice A3 n3 d3] [k0,k1,k2,k3,k4,k5,k6,k7,k8,k9,k10,k11,k12,k13] ub o1 t):=⟨⟨hh,pp,HBX.out⟩,HZV.out,⟨oneb,oneo⟩,HCS.out,⟨_,_,_,_,_,_,_,_,_,rfl,HTV.out.1,HTV.out.2.1,HTV.out.2.2⟩,HOK.out,HBL.out,hzv⟩
  go_upto_block 0 with (go_at_call 32;refine HA0.out.mono ?_;rintro e V2 ⟨rfl,hb3⟩)
  have HP:=qH (HP0.out.next hb3);have HBX2:Hid (V2.heap[w.heap.size]? = _):=(hb3.block _ (by omega)).trans HBX.out;have HOB2:=qH (HOB.out.next hb3);have HOO2:=qH (HOO.out.next hb3);have HF2:=qH (HTV.out.2.2.keep fun b hb=>hb3.block b (by omega));have hz2:w.heap.size+2≤V2.heap.size:=Nat.le_trans hzv hb3.size;clear hb3 HP0 HBX HOB HOO HTV HA0 HZV hzv HBL HSM HTT;have hs0:0≤atL m 0%16∧atL m 0%16<16:=by omega
  clear hz0 g1 g2;generalize atL m 0%16=se at*;have hnb:bs.length≤2:=HL.out.2.1;have hno:os.length≤5:=HL.out.1.2;have hno0:0<os.length:=HL.out.1.1;obtain⟨nbs,HNBE⟩ : ∃ x:Nat,Hid (bs.length=x):=⟨_,rfl⟩
  obtain⟨nos,HNOE⟩ : ∃ x:Nat,Hid (os.length=x):=⟨_,rfl⟩
  rw[HNBE.out]at hnb;rw[HNOE.out]at hno hno0;go_cut [] (fun wx=>SpoilBox w wx)
  case first =>
   have hcs:se=0∨se=1∨se=2∨se=3∨se=4∨se=5∨se=6∨se=7∨se=8∨se=9∨se=10∨se=11∨se=12∨se=13∨14≤se:=by omega
   rcases hcs with rfl|rfl|rfl|rfl|rfl|rfl|rfl|rfl|rfl|rfl|rfl|rfl|rfl|rfl|h14
   ·have q1:kk.tmod 9=kk%9:=qQ hk0;have q2:IntKind.i64.wrap (kk%9)=kk%9:=qM _ (by omega);have q3:IntKind.i64.wrap (kk%9-2)=kk%9-2:=qM _ (by omega);have y19:=block_cell HBX2.out 19;have f19:=block_free HBX2.out 19;go_wp2_with fail
    go_meet
    exact HP.out.spoil.set (j:=19) (by decide) rfl
   ·have y20:=block_cell HBX2.out 20;have f20:=block_free HBX2.out 20;go_wp2_with fail
    go_meet
    exact HP.out.spoil.set (j:=20) (by decide) rfl
   ·have q1:kk.tmod 2=kk%2:=qQ hk0;have q2:IntKind.i64.wrap (kk%2)=kk%2:=qM _ (by omega);have q3:IntKind.i64.wrap (4294967296+kk%2)=4294967296+kk%2:=qM _ (by omega);have y20:=block_cell HBX2.out 20;have f20:=block_free HBX2.out 20;go_wp2_with fail
    go_meet
    exact HP.out.spoil.set (j:=20) (by decide) rfl
   ·have y17:=block_cell HBX2.out 17;have f17:=block_free HBX2.out 17;go_wp2_with fail
    go_meet
    exact HP.out.spoil.set (j:=17) (by decide) rfl
   ·have y17:=block_cell HBX2.out 17;have f17:=block_free HBX2.out 17;have HAL:Hid (Below V2.heap.size V2 (V2.alloc (.cells #[.string ⟨#[67,67,67]⟩,.string ⟨#[67,67,67]⟩] 9))):=(qC _ _).alloc (qD _) _;have HSL:Hid (Sl Ty.str (V2.alloc (.cells #[.string ⟨#[67,67,67]⟩,.string ⟨#[67,67,67]⟩] 9)) (all_ (V2.alloc (.cells #[.string ⟨#[67,67,67]⟩,.string ⟨#[67,67,67]⟩] 9))) (some ⟨V2.heap.size,0,none⟩) 2 2 [dCode 2,dCode 2]):=Sl.block (xs:=[dCode 2,dCode 2]) (qK _ _) (show _<_ by simp) (show 2≤maxLen by decide) fun i x hi=>by
     have:i=0∨i=1:=by
      have:=(List.getElem?_eq_some_iff.1 hi).1;simp at this;omega
     rcases this with rfl|rfl <;> (injection hi with hi;subst hi;rfl)
    have hbase:w.heap.size+2≤(V2.alloc (.cells #[.string ⟨#[67,67,67]⟩,.string ⟨#[67,67,67]⟩] 9)).heap.size:=by have:=HAL.out.size;omega
    have hnl:=HNBE.out;go_wp2_with (at_builtin;refine wpList_concat (t:=Ty.str) (S:=all_ (V2.alloc (.cells #[.string ⟨#[67,67,67]⟩,.string ⟨#[67,67,67]⟩] 9))) (ys:=[dCode 2,dCode 2]) (base:=w.heap.size+2) flat_str rfl _ _ rfl 16 elem_strs rfl (HOB2.out.next HAL.out) ⟨V2.heap.size,0,none⟩ 2 2 rfl HSL.out ?c1 (by decide) hbase ?_)
    try (case c1=>first|omega|(simp;omega))
    intro v9 w9 hown9 hgr9;have HP9:=qH ((HP.out.next HAL.out).grown hgr9 fun k hk=>((HOB2.out.next HAL.out).lt k hk).1);obtain⟨A9,c9,rfl, -⟩:=hown9.sl;obtain⟨h9,p9,hbx9⟩:=HP9.out.box;clear y17 f17;have y17:=block_cell hbx9 17;have f17:=block_free hbx9 17;change w9.cell? ⟨w.heap.size,17,none⟩=some _ at y17;clear hbx9 hown9 hgr9;go_wp2_with fail
    go_meet
    exact(HP9.out.set17 rfl).spoil
   ·have y17:=block_cell HBX2.out 17;have f17:=block_free HBX2.out 17;have HAL:Hid (Below V2.heap.size V2 (V2.alloc (.cells #[.string ⟨#[88,88,88]⟩] 9))):=(qC _ _).alloc (qD _) _;have HSL:Hid (Sl Ty.str (V2.alloc (.cells #[.string ⟨#[88,88,88]⟩] 9)) (all_ (V2.alloc (.cells #[.string ⟨#[88,88,88]⟩] 9))) (some ⟨V2.heap.size,0,none⟩) 1 1 [(⟨#[88,88,88]⟩:ByteArray)]):=Sl.block (xs:=[(⟨#[88,88,88]⟩:ByteArray)]) (qK _ _) (show _<_ by simp) (show 1≤maxLen by decide) fun i x hi=>by
     have:i=0:=by
      have:=(List.getElem?_eq_some_iff.1 hi).1;simp at this;omega
     rcases this with rfl <;> (injection hi with hi;subst hi;rfl)
    have hbase:w.heap.size+2≤(V2.alloc (.cells #[.string ⟨#[88,88,88]⟩] 9)).heap.size:=by have:=HAL.out.size;omega
    have hnl:=HNBE.out;go_wp2_with (at_builtin;refine wpList_concat (t:=Ty.str) (S:=all_ (V2.alloc (.cells #[.string ⟨#[88,88,88]⟩] 9))) (ys:=[(⟨#[88,88,88]⟩:ByteArray)]) (base:=w.heap.size+2) flat_str rfl _ _ rfl 16 elem_strs rfl (HOB2.out.next HAL.out) ⟨V2.heap.size,0,none⟩ 1 1 rfl HSL.out ?c1 (by decide) hbase ?_)
    try (case c1=>first|omega|(simp;omega))
    intro v9 w9 hown9 hgr9;have HP9:=qH ((HP.out.next HAL.out).grown hgr9 fun k hk=>((HOB2.out.next HAL.out).lt k hk).1);obtain⟨A9,c9,rfl, -⟩:=hown9.sl;obtain⟨h9,p9,hbx9⟩:=HP9.out.box;clear y17 f17;have y17:=block_cell hbx9 17;have f17:=block_free hbx9 17;change w9.cell? ⟨w.heap.size,17,none⟩=some _ at y17;clear hbx9 hown9 hgr9;go_wp2_with fail
    go_meet
    exact(HP9.out.set17 rfl).spoil
   ·have y17:=block_cell HBX2.out 17;have f17:=block_free HBX2.out 17;have hBV:w.heap.size<V2.heap.size:=by omega
    go_wp2_with fail
    go_meet
    exact(HP.out.spoil.set (j:=17) (by decide) rfl).next ((qC _ _).alloc (qD _) _)
   ·have y18:=block_cell HBX2.out 18;have f18:=block_free HBX2.out 18;go_wp2_with fail
    go_meet
    exact HP.out.spoil.set (j:=18) (by decide) rfl
   ·have q1:kk.tmod 9=kk%9:=qQ hk0;have q2:IntKind.i64.wrap (kk%9)=kk%9:=qM _ (by omega);have y18:=block_cell HBX2.out 18;have f18:=block_free HBX2.out 18;have HAL:Hid (Below V2.heap.size V2 (V2.alloc (.cells #[.int .i64 (kk%9)] 3))):=(qC _ _).alloc (qD _) _;have HSL:Hid (Sl (Ty.int .i64) (V2.alloc (.cells #[.int .i64 (kk%9)] 3)) (all_ (V2.alloc (.cells #[.int .i64 (kk%9)] 3))) (some ⟨V2.heap.size,0,none⟩) 1 1 [kk%9]):=Sl.block (xs:=[kk%9]) (qK _ _) (show _<_ by simp) (show 1≤maxLen by decide) fun i x hi=>by
     have:i=0:=by
      have:=(List.getElem?_eq_some_iff.1 hi).1;simp at this;omega
     rcases this with rfl <;> (injection hi with hi;subst hi;rfl)
    have hbase:w.heap.size+2≤(V2.alloc (.cells #[.int .i64 (kk%9)] 3)).heap.size:=by have:=HAL.out.size;omega
    have hnl:=HNOE.out;go_wp2_with (at_builtin;refine wpList_concat (t:=(Ty.int .i64)) (S:=all_ (V2.alloc (.cells #[.int .i64 (kk%9)] 3))) (ys:=[kk%9]) (base:=w.heap.size+2) (flat_int _) rfl _ _ rfl 8 elem_ints rfl (HOO2.out.next HAL.out) ⟨V2.heap.size,0,none⟩ 1 1 rfl HSL.out ?c1 (by decide) hbase ?_)
    try (case c1=>first|omega|(simp;omega))
    intro v9 w9 hown9 hgr9;have HP9:=qH ((HP.out.next HAL.out).grown hgr9 fun k hk=>((HOO2.out.next HAL.out).lt k hk).1);obtain⟨A9,c9,rfl, -⟩:=hown9.sl;obtain⟨h9,p9,hbx9⟩:=HP9.out.box;clear y18 f18;have y18:=block_cell hbx9 18;have f18:=block_free hbx9 18;change w9.cell? ⟨w.heap.size,18,none⟩=some _ at y18;clear hbx9 hown9 hgr9;go_wp2_with fail
    go_meet
    exact(HP9.out.set18 rfl).spoil
   ·obtain⟨g8,cp8,cur8,e8,hg8,hl8,hb8⟩:=OwnS.ownAt (Own.toS (flat_int _) HOO2.out) (by rw[HNOE.out];exact hno0);rw[HNOE.out]at e8;subst e8;have y18:=block_cell HBX2.out 18;have f18:=block_free HBX2.out 18;have y8:=(Own.toS (flat_int _) HOO2.out).int_cell (k:=0) (by rw[HNOE.out];exact hno0);have f8:=block_free hb8 0;have hni:(0:Int)<(nos:Int):=by omega
    have HGG:=qH hg8;clear hb8 hl8 hg8;go_wp2_with fail
    go_meet
    exact(HP.out.other HGG.out 0 _).spoil
   ·have y2:=block_cell HBX2.out 2;have f2:=block_free HBX2.out 2;have hn3:=HF2.out.len;obtain⟨b3,o3,rfl,hb3, -⟩:=HF2.out.flight_at (k:=0) HL.out.2.2.1;have h3c:t.flights.length≤9:=HL.out.2.2.2;have h3p:0<t.flights.length:=HL.out.2.2.1;have HN3:=qH hn3;have HPN:=qH h3p;clear hn3 hb3;go_wp2_with (at_builtin;refine wpList_concat (t:=Ty.flight) (S:=fun b=>b<w.heap.size) (xs:=[]) (ys:=t.flights) (base:=w.heap.size+2) flat_flight rfl _ _ rfl 104 elem_flight rfl Own.nil ⟨b3,o3,none⟩ n3 d3 rfl HF2.out ?c1 (by decide) hz2 ?_)
    case c1=>have:=HN3.out;simp;omega
    intro v9 w9 hown9 hgr9;have HGR:Hid (V2.grownBy w9 none):=hgr9;have HOW:Hid (Own Ty.flight 62 w9 (w.heap.size+2) v9 t.flights):=hown9;obtain⟨A9,c9,rfl, -⟩:=HOW.out.sl;have hbx9:=(HGR.out.block w.heap.size (by omega) (by simp)).trans HBX2.out;clear y2 f2;have y2:=block_cell hbx9 2;have f2:=block_free hbx9 2;change w9.cell? ⟨w.heap.size,2,none⟩=some (.slice _ _ _) at y2;clear hbx9 hown9 hgr9;go_upto_region 26 with (fail)
    clear y2 f2;obtain⟨h9,p9,hpf⟩:=HP.out.flights HGR.out HOW.out;generalize w9.setCell ⟨w.heap.size,2,none⟩ (.slice A9 t.flights.length c9)=wf at*;obtain⟨g9,cp9,cur9,e9,hg9,hl9,hb9⟩:=OwnS.ownAt hpf.f HPN.out;injection e9 with e1 e2 e3
    subst e1 e3;have y2:wf.cell? ⟨w.heap.size,2,none⟩=some (.slice (some ⟨g9,0,none⟩) t.flights.length c9):=block_cell hpf.box 2;have hat:=hpf.f.flight_cells (k:=0) HPN.out;have HPF:=qH hpf;have hnf:(0:Int)<(t.flights.length:Int):=by omega
    generalize hf0:t.flights.getD 0 noFlight=f0 at*;have HF0:=qH hf0;have HO0:Hid (f0.ok):=hf0▸HOK.out.2.2 _ (getD_in HPN.out noFlight);have z6:=hat 6 _ rfl;have z7:=hat 7 _ rfl;have z8:=hat 8 _ rfl;simp only[Nat.zero_mul,Nat.zero_add]at z6 z7 z8;have f6:=block_free hb9 6;have f7:=block_free hb9 7;have f8:=block_free hb9 8;clear hat hb9 hpf e2 hg9 hl9 HGR HOW;go_wp2_with fail
    go_meet
    have h6:PF9 w (wf.setCell ⟨g9,6,none⟩ (.int .i64 0)) _ _ _ _ _ _ _ _ _ _ _:=HPF.out.set (k:=0) (j:=6) (x:=.int .i64 0) (y:=⟨f0.number,f0.src,f0.dst,f0.dep,f0.arr,f0.kind,0,f0.n1,f0.n2⟩) HPN.out (by decide) (by rw[HF0.out];rfl);have h7:PF9 w ((wf.setCell ⟨g9,6,none⟩ (.int .i64 0)).setCell ⟨g9,7,none⟩ (.int .i64 0)) _ _ _ _ _ _ _ _ _ _ _:=h6.set (k:=0) (j:=7) (x:=.int .i64 0) (y:=⟨f0.number,f0.src,f0.dst,f0.dep,f0.arr,f0.kind,0,0,f0.n2⟩) (by rw[List.length_set];exact HPN.out) (by decide) (by rw[getD_set_self HPN.out];rfl);have h8:PF9 w (((wf.setCell ⟨g9,6,none⟩ (.int .i64 0)).setCell ⟨g9,7,none⟩ (.int .i64 0)).setCell ⟨g9,8,none⟩ (.int .i64 0)) _ _ _ _ _ _ _ _ _ _ _:=h7.set (k:=0) (j:=8) (x:=.int .i64 0) (y:=⟨f0.number,f0.src,f0.dst,f0.dep,f0.arr,f0.kind,0,0,0⟩) (by rw[List.length_set,List.length_set];exact HPN.out) (by decide) (by rw[getD_set_self (by rw[List.length_set];exact HPN.out)];rfl);rw[List.set_set,List.set_set]at h8;refine h8.spoil ⟨HOK.out.1,HOK.out.2.1,fun f hf =>?_⟩;rcases List.mem_or_eq_of_mem_set hf with hf|rfl
    ·exact HOK.out.2.2 f hf
    ·obtain⟨h1,h2,h3,h4,h5,h6,h7,h8,h9⟩:=HO0.out;exact⟨h1,h2,h3,h4,h5,h6,(by show(-9223372036854775808:Int)≤0∧(0:Int)≤9223372036854775807;decide),(by show(-9223372036854775808:Int)≤0∧(0:Int)≤9223372036854775807;decide),(by show(-9223372036854775808:Int)≤0∧(0:Int)≤9223372036854775807;decide)⟩
   ·have y2:=block_cell HBX2.out 2;have f2:=block_free HBX2.out 2;have hn3:=HF2.out.len;obtain⟨b3,o3,rfl,hb3, -⟩:=HF2.out.flight_at (k:=0) HL.out.2.2.1;have h3c:t.flights.length≤9:=HL.out.2.2.2;have h3p:0<t.flights.length:=HL.out.2.2.1;have HN3:=qH hn3;have HPN:=qH h3p;clear hn3 hb3;go_wp2_with (at_builtin;refine wpList_concat (t:=Ty.flight) (S:=fun b=>b<w.heap.size) (xs:=[]) (ys:=t.flights) (base:=w.heap.size+2) flat_flight rfl _ _ rfl 104 elem_flight rfl Own.nil ⟨b3,o3,none⟩ n3 d3 rfl HF2.out ?c1 (by decide) hz2 ?_)
    case c1=>have:=HN3.out;simp;omega
    intro v9 w9 hown9 hgr9;have HGR:Hid (V2.grownBy w9 none):=hgr9;have HOW:Hid (Own Ty.flight 62 w9 (w.heap.size+2) v9 t.flights):=hown9;obtain⟨A9,c9,rfl, -⟩:=HOW.out.sl;have hbx9:=(HGR.out.block w.heap.size (by omega) (by simp)).trans HBX2.out;clear y2 f2;have y2:=block_cell hbx9 2;have f2:=block_free hbx9 2;change w9.cell? ⟨w.heap.size,2,none⟩=some (.slice _ _ _) at y2;clear hbx9 hown9 hgr9;go_upto_region 29 with (fail)
    clear y2 f2;obtain⟨h9,p9,hpf⟩:=HP.out.flights HGR.out HOW.out;generalize w9.setCell ⟨w.heap.size,2,none⟩ (.slice A9 t.flights.length c9)=wf at*;obtain⟨g9,cp9,cur9,e9,hg9,hl9,hb9⟩:=OwnS.ownAt hpf.f HPN.out;injection e9 with e1 e2 e3
    subst e1 e3;have y2:wf.cell? ⟨w.heap.size,2,none⟩=some (.slice (some ⟨g9,0,none⟩) t.flights.length c9):=block_cell hpf.box 2;have hat:=hpf.f.flight_cells (k:=0) HPN.out;have HPF:=qH hpf;have hnf:(0:Int)<(t.flights.length:Int):=by omega
    generalize hf0:t.flights.getD 0 noFlight=f0 at*;have HF0:=qH hf0;have HO0:Hid (f0.ok):=hf0▸HOK.out.2.2 _ (getD_in HPN.out noFlight);have z4:=hat 4 _ rfl;simp only[Nat.zero_mul,Nat.zero_add]at z4;have f4:=block_free hb9 4;clear hat hb9 hpf e2 hg9 hl9 HGR HOW;go_wp2_with fail
    go_meet
    have h9:=HPF.out.set (k:=0) (j:=4) (x:=.int .i64 0) (y:=⟨f0.number,f0.src,f0.dst,f0.dep,0,f0.kind,f0.n0,f0.n1,f0.n2⟩) HPN.out (by decide) (by rw[HF0.out];rfl);refine h9.spoil ⟨HOK.out.1,HOK.out.2.1,fun f hf =>?_⟩;rcases List.mem_or_eq_of_mem_set hf with hf|rfl
    ·exact HOK.out.2.2 f hf
    ·obtain⟨h1,h2,h3,h4,h5,h6,h7,h8,h9⟩:=HO0.out;exact⟨h1,h2,h3,h4,h5,(by show(-9223372036854775808:Int)≤0∧(0:Int)≤9223372036854775807;decide),h7,h8,h9⟩
   ·have y6:=block_cell HBX2.out 6;have f6:=block_free HBX2.out 6;go_wp2_with fail
    go_meet
    exact HP.out.spoil.set (j:=6) (by decide) rfl
   ·have y17:=block_cell HBX2.out 17;have f17:=block_free HBX2.out 17;have hBV:w.heap.size<V2.heap.size:=by omega
    go_wp2_with fail
    go_meet
    exact(HP.out.spoil.set (j:=17) (by decide) rfl).next ((qC _ _).alloc (qD _) _)
   ·have hb0:(se==0)=false:=by simp;omega
    have hb1:(se==1)=false:=by simp;omega
    have hb2:(se==2)=false:=by simp;omega
    have hb3:(se==3)=false:=by simp;omega
    have hb4:(se==4)=false:=by simp;omega
    have hb5:(se==5)=false:=by simp;omega
    have hb6:(se==6)=false:=by simp;omega
    have hb7:(se==7)=false:=by simp;omega
    have hb8:(se==8)=false:=by simp;omega
    have hb9:(se==9)=false:=by simp;omega
    have hb10:(se==10)=false:=by simp;omega
    have hb11:(se==11)=false:=by simp;omega
    have hb12:(se==12)=false:=by simp;omega
    have hb13:(se==13)=false:=by simp;omega
    clear h14 hs0;go_wp2_with fail
    go_meet
    exact HP.out.spoil
  case rest =>
   obtain⟨cells,v,rest,t',rfl,hv,hr,hone,hx,hz,hok,htt,hbl⟩:=hcut;have HX:=qH hx;have HZ:=qH hz;have HONE:=qH hone
   match v,hv,rest,hr with
   | [v0,v1,v2],_,[r0,r1,r2,r3,r4,r5,r6,r7,r8,r9,r10,r11,r12,r13,r14,r15,r16,r17],_ =>
   have HTP:Hid (TTIs (wc.setRow (w.heap.size+1) #[v0,v1,v2,r0,r1,r2,r3,r4,r5,r6,r7,r8,r9,r10,r11,r12,r13,r14,r15,r16,r17]) (all_ (wc.setRow (w.heap.size+1) #[v0,v1,v2,r0,r1,r2,r3,r4,r5,r6,r7,r8,r9,r10,r11,r12,r13,r14,r15,r16,r17])) [v0,v1,v2] t') :=
    (htt.keep fun b hb=>setRow_other _ _ _ _ (by omega)).more fun b hb=>by show b<_;simp;omega
   have HBL:Hid (Below w.heap.size w (wc.setRow (w.heap.size+1) #[v0,v1,v2,r0,r1,r2,r3,r4,r5,r6,r7,r8,r9,r10,r11,r12,r13,r14,r15,r16,r17])):=below_setRowD hbl (by omega);have HOK2:=qH hok;have hone2:(#[v0,v1,v2,r0,r1,r2,r3,r4,r5,r6,r7,r8,r9,r10,r11,r12,r13,r14,r15,r16,r17]:Array Value).all (·.oneCell')=true:=by
    rw[Array.all_eq_true];intro i hi;exact HONE.out _ (by
     have:(#[v0,v1,v2,r0,r1,r2,r3,r4,r5,r6,r7,r8,r9,r10,r11,r12,r13,r14,r15,r16,r17]:Array Value)[i]∈(#[v0,v1,v2,r0,r1,r2,r3,r4,r5,r6,r7,r8,r9,r10,r11,r12,r13,r14,r15,r16,r17]:Array Value).toList:=by simp
     exact this)
   clear hx hz hone hok htt hbl HP HBX2 HOB2 HOO2 HF2;go_upto_region 34 with (fail)
   refine wp_region_lit ?_;refine wpList_load_row rfl _ _ rfl w.heap.size (by simp[Act.eval]) _ _ _ _ HX.out Tryz.underlying38 rfl (by kernel_rfl) ?_;refine wpList_store_row rfl _ _ _ rfl (w.heap.size+1) #[v0,v1,v2,r0,r1,r2,r3,r4,r5,r6,r7,r8,r9,r10,r11,r12,r13,r14,r15,r16,r17] (by simp[Act.eval,Act.put]) (by simp[Act.eval,Act.put]) _ _ HZ.out (by kernel_rfl) rfl hone2 ?_;have HX5:Hid ((wc.setRow (w.heap.size+1) #[v0,v1,v2,r0,r1,r2,r3,r4,r5,r6,r7,r8,r9,r10,r11,r12,r13,r14,r15,r16,r17]).heap[w.heap.size+1]? = _):=setRow_heap _ _ _ _ _ _ HZ.out;generalize wc.setRow (w.heap.size+1) #[v0,v1,v2,r0,r1,r2,r3,r4,r5,r6,r7,r8,r9,r10,r11,r12,r13,r14,r15,r16,r17]=wz at*;clear hone2 HX HZ;go_wp2_with fail
   refine bodyPost_ret (v:=.agg #[v0,v1,v2,r0,r1,r2,r3,r4,r5,r6,r7,r8,r9,r10,r11,r12,r13,r14,r15,r16,r17]) (results_cell_row Tryz.results15 _ _ (w.heap.size+1) _ _ _ _ (by simp[Act.put]) HX5.out Tryz.underlying38 rfl (by kernel_rfl)) rfl ?_;exact⟨_,[v0,v1,v2],[r0,r1,r2,r3,r4,r5,r6,r7,r8,r9,r10,r11,r12,r13,r14,r15,r16,r17],t',rfl,rfl,rfl,HONE.out,HOK2.out,HTP.out,HBL.out⟩
end
end Go.Proofs.YtifconapjfdkcaaGreatDoor
