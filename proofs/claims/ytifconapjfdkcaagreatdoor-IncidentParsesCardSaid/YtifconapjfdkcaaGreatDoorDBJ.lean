/-
  How an argument's reading gives the data of timetables.
  No condition.
-/
import Derived.Test.YtifconapjfdkcaaGreatDoorDAA
import Derived.Test.YtifconapjfdkcaaGreatDoorDAC
import Derived.OpenShut
set_option linter.unusedSimpArgs false
set_option linter.unusedVariables false
set_option maxRecDepth 100000
set_option maxHeartbeats 12800000
namespace Go.Proofs.YtifconapjfdkcaaGreatDoor
open Go.ChangeShapes Go.WideShapes Go.ChangeAt Go.RowKit Go.Deep
theorem struct_field{P:Program}{t:TypeId}{fs:Array Field}(ht:P.underlying t=some (.struct fs)){H:Type}{enc:TypeId×Value→H}{w:World}{spare:Nat→Bool}{held:Bool}{fuel:Nat}{cs:List Value}{x:DataW H×List MemPlace}
 (h:DataW.trod enc P w 0 spare held fuel t cs=some x) (hlt : ∀ p∈x.2,p.block<w.heap.size) :
 cs.length=P.cellsOf t ∧ ∀ (i:Nat) (f:Field),fs[i]? = some f → ∀ {α : Type} {T:Ty α},Fits P f.type T → ∃ d,T.rep w (all_ w) ((cs.drop f.offset).take T.size) d∧T.ok d:=by
 obtain⟨xs,n,_,rfl,hl,hlen,hf⟩:=DataW.trod_struct ht h;refine⟨hl,fun i f hi α T hT =>?_⟩;have h1:=hf i f hi;have hil:i<xs.length:=by rw[hlen];exact(Array.getElem?_eq_some_iff.1 hi).1
 rw[qG hil]at h1;rw[hT.1]at h1;exact hT.2 enc w spare held n _ _ h1 fun p hp=>hlt p (List.mem_flatMap.2 ⟨_,List.getElem_mem hil,hp⟩)
theorem i64_ok{x:Int}(h:(Ty.int .i64).ok x) : -9223372036854775808≤x∧x≤9223372036854775807:=by
 have h':IntKind.i64.min≤x∧x≤IntKind.i64.max:=h;have e1:IntKind.i64.min = -9223372036854775808:=by decide
 have e2:IntKind.i64.max=9223372036854775807:=by decide
 omega
theorem fits_i64:Fits Tryz.prog 3 (Ty.int .i64):=fits_int Tryz.underlying3 (by kernel_rfl)
theorem fits_string:Fits Tryz.prog 9 Ty.str:=fits_str Tryz.underlying9 (by kernel_rfl)
theorem list2{α : Type}{l:List α}(h:l.length=2) : ∃ a b,l=[a,b]:=by
 match l,h with
 | [a,b],_=>exact⟨a,b,rfl⟩
theorem list3{α : Type}{l:List α}(h:l.length=3) : ∃ a b c,l=[a,b,c]:=by
 match l,h with
 | [a,b,c],_=>exact⟨a,b,c,rfl⟩
theorem list9{α : Type}{l:List α}(h:l.length=9) : ∃ a b c d e f g i j,l=[a,b,c,d,e,f,g,i,j]:=by
 match l,h with
 | [a,b,c,d,e,f,g,i,j],_=>exact⟨a,b,c,d,e,f,g,i,j,rfl⟩
theorem fits_shift:Fits Tryz.prog 122 Ty.shift:=by
 refine⟨by kernel_rfl,fun enc w spare held fuel cs x h hlt =>?_⟩;obtain⟨hl,hf⟩:=struct_field Tryz.underlying122 h hlt;obtain⟨d0,r0,o0⟩:=hf 0 _ rfl fits_i64;obtain⟨d1,r1,o1⟩:=hf 1 _ rfl fits_i64;obtain⟨a,b,rfl⟩:=list2 (hl.trans (show Tryz.prog.cellsOf 122=2 by kernel_rfl));have e0:[a]=[Value.int .i64 d0]:=r0;have e1:[b]=[Value.int .i64 d1]:=r1;simp only[List.cons.injEq,and_true]at e0 e1;subst e0 e1;exact⟨⟨d0,d1⟩,rfl,⟨i64_ok o0,i64_ok o1⟩⟩
theorem fits_zone:Fits Tryz.prog 98 Ty.zone:=by
 refine⟨by kernel_rfl,fun enc w spare held fuel cs x h hlt =>?_⟩;obtain⟨hl,hf⟩:=struct_field Tryz.underlying98 h hlt;obtain⟨d0,r0,o0⟩:=hf 0 _ rfl fits_string;obtain⟨d1,r1,o1⟩:=hf 1 _ rfl fits_i64;obtain⟨d2,r2,o2⟩:=hf 2 _ rfl (fits_slice Tryz.underlying96 (by kernel_rfl) fits_shift);obtain⟨a,b,c,rfl⟩:=list3 (hl.trans (show Tryz.prog.cellsOf 98=3 by kernel_rfl));have e0:[a]=[Value.string d0]:=r0;have e1:[b]=[Value.int .i64 d1]:=r1;obtain⟨A,n,cc,e2,hs⟩:=r2;have e2':[c]=[Value.slice A n cc]:=e2;simp only[List.cons.injEq,and_true]at e0 e1 e2';subst e0 e1 e2';exact⟨⟨d0,d1,d2⟩,⟨A,n,cc,rfl,hs⟩,⟨o0,i64_ok o1,o2⟩⟩
theorem fits_airport:Fits Tryz.prog 101 Ty.airport:=by
 refine⟨by kernel_rfl,fun enc w spare held fuel cs x h hlt =>?_⟩;obtain⟨hl,hf⟩:=struct_field Tryz.underlying101 h hlt;obtain⟨d0,r0,o0⟩:=hf 0 _ rfl fits_string;obtain⟨d1,r1,o1⟩:=hf 1 _ rfl fits_string;obtain⟨a,b,rfl⟩:=list2 (hl.trans (show Tryz.prog.cellsOf 101=2 by kernel_rfl));have e0:[a]=[Value.string d0]:=r0;have e1:[b]=[Value.string d1]:=r1;simp only[List.cons.injEq,and_true]at e0 e1;subst e0 e1;exact⟨⟨d0,d1⟩,rfl,⟨o0,o1⟩⟩
def Ty.int3:Ty (Int×Int×Int):={
 size:=3
 rep:=fun _ _ cs x=>cs=[.int .i64 x.1,.int .i64 x.2.1,.int .i64 x.2.2]
 ok:=fun x=>(Ty.int .i64).ok x.1∧(Ty.int .i64).ok x.2.1∧(Ty.int .i64).ok x.2.2
 pos:=by decide
 len:=fun h=>by rw[h];rfl
 keep:=fun h _=>h
 more:=fun h _=>h
 one:=fun h u hu=>by rw[h]at hu;simp at hu;rcases hu with rfl|rfl|rfl <;> rfl }
theorem fits_int3:Fits Tryz.prog 60 Ty.int3:=by
 refine⟨by kernel_rfl,fun enc w spare held fuel cs x h hlt =>?_⟩;obtain⟨xs,m,_,rfl,hl,hlen,hf⟩:=DataW.trod_array Tryz.underlying60 h;obtain⟨a,b,c,rfl⟩:=list3 (hl.trans (show Tryz.prog.cellsOf 60=3 by kernel_rfl));have hc1:Tryz.prog.cellsOf 3=1:=by kernel_rfl
 have key : ∀ i,i<3 → ∃ d,(([a,b,c].drop i).take 1)=[Value.int .i64 d]∧(Ty.int .i64).ok d:=fun i hi=>by
  have h1:=hf i hi;rw[qG (by omega),hc1,Nat.mul_one]at h1;exact fits_i64.2 enc w spare held m _ _ h1 fun p hp=>hlt p (List.mem_flatMap.2 ⟨_,List.getElem_mem (by omega),hp⟩)
 obtain⟨d0,e0,o0⟩:=key 0 (by decide);obtain⟨d1,e1,o1⟩:=key 1 (by decide);obtain⟨d2,e2,o2⟩:=key 2 (by decide);simp at e0 e1 e2;subst e0 e1 e2;exact⟨(d0,d1,d2),rfl,o0,o1,o2⟩
theorem fits_flight:Fits Tryz.prog 62 Ty.flight:=by
 refine⟨by kernel_rfl,fun enc w spare held fuel cs x h hlt =>?_⟩;obtain⟨hl,hf⟩:=struct_field Tryz.underlying62 h hlt;obtain⟨d0,r0,o0⟩:=hf 0 _ rfl fits_string;obtain⟨d1,r1,o1⟩:=hf 1 _ rfl fits_string;obtain⟨d2,r2,o2⟩:=hf 2 _ rfl fits_string;obtain⟨d3,r3,o3⟩:=hf 3 _ rfl fits_i64;obtain⟨d4,r4,o4⟩:=hf 4 _ rfl fits_i64;obtain⟨d5,r5,o5⟩:=hf 5 _ rfl fits_string;obtain⟨d6,r6,o6⟩:=hf 6 _ rfl fits_int3;obtain⟨c0,c1,c2,c3,c4,c5,c6,c7,c8,rfl⟩:=list9 (hl.trans (show Tryz.prog.cellsOf 62=9 by kernel_rfl));have e0:[c0]=[Value.string d0]:=r0;have e1:[c1]=[Value.string d1]:=r1;have e2:[c2]=[Value.string d2]:=r2;have e3:[c3]=[Value.int .i64 d3]:=r3;have e4:[c4]=[Value.int .i64 d4]:=r4;have e5:[c5]=[Value.string d5]:=r5;have e6:[c6,c7,c8]=[Value.int .i64 d6.1,.int .i64 d6.2.1,.int .i64 d6.2.2]:=r6;simp only[List.cons.injEq,and_true]at e0 e1 e2 e3 e4 e5 e6;obtain⟨e6,e7,e8⟩:=e6;subst e0 e1 e2 e3 e4 e5 e6 e7 e8;exact⟨⟨d0,d1,d2,d3,d4,d5,d6.1,d6.2.1,d6.2.2⟩,rfl,⟨o0,o1,o2,o5,i64_ok o3,i64_ok o4,i64_ok o6.1,i64_ok o6.2.1,i64_ok o6.2.2⟩⟩
theorem fits_tt:Fits Tryz.prog 27 Ty.tt:=by
 refine⟨by kernel_rfl,fun enc w spare held fuel cs x h hlt =>?_⟩;obtain⟨hl,hf⟩:=struct_field Tryz.underlying27 h hlt;obtain⟨d0,r0,o0⟩:=hf 0 _ rfl (fits_slice Tryz.underlying23 (by kernel_rfl) fits_zone);obtain⟨d1,r1,o1⟩:=hf 1 _ rfl (fits_slice Tryz.underlying24 (by kernel_rfl) fits_airport);obtain⟨d2,r2,o2⟩:=hf 2 _ rfl (fits_slice Tryz.underlying25 (by kernel_rfl) fits_flight);obtain⟨a,b,c,rfl⟩:=list3 (hl.trans (show Tryz.prog.cellsOf 27=3 by kernel_rfl));obtain⟨A0,n0,q0,e0,s0⟩:=r0;obtain⟨A1,n1,q1,e1,s1⟩:=r1;obtain⟨A2,n2,q2,e2,s2⟩:=r2;have e0':[a]=[Value.slice A0 n0 q0]:=e0;have e1':[b]=[Value.slice A1 n1 q1]:=e1;have e2':[c]=[Value.slice A2 n2 q2]:=e2;simp only[List.cons.injEq,and_true]at e0' e1' e2';subst e0' e1' e2';exact⟨⟨d0,d1,d2⟩,⟨A0,n0,q0,A1,n1,q1,A2,n2,q2,rfl,s0,s1,s2⟩,⟨o0,o1,o2⟩⟩
theorem open_tt{H:Type}{enc:TypeId×Value→H}{w:World}{base:Nat}{spare:Nat→Bool}{held:Bool}{v:Value}{d:DataW H}{p:List MemPlace}(hv:Value.okWide Tryz.prog w .any base 27 v)
 (h:DataW.Trod enc Tryz.prog w 0 spare held 27 v d p) (hlt : ∀ x∈p,x.block<w.heap.size) :
 ∃ A1 n1 c1 A2 n2 c2 A3 n3 c3 t,v=.agg #[.slice A1 n1 c1,.slice A2 n2 c2,.slice A3 n3 c3]∧Sl Ty.zone w (all_ w) A1 n1 c1 t.zones∧Sl Ty.airport w (all_ w) A2 n2 c2 t.airports∧Sl Ty.flight w (all_ w) A3 n3 c3 t.flights∧GTT.ok t:=by
 obtain⟨cs,rfl, -⟩:=okWide_struct Tryz.underlying27 hv;clear hv;obtain⟨t,⟨A1,n1,c1,A2,n2,c2,A3,n3,c3,e,s1,s2,s3⟩,hok⟩:=open_fits fits_tt h hlt;have e':cs.toList=[.slice A1 n1 c1,.slice A2 n2 c2,.slice A3 n3 c3]:=e;refine⟨A1,n1,c1,A2,n2,c2,A3,n3,c3,t, ?_,s1,s2,s3,hok⟩;exact congrArg Value.agg (Array.ext' e')
end Go.Proofs.YtifconapjfdkcaaGreatDoor
