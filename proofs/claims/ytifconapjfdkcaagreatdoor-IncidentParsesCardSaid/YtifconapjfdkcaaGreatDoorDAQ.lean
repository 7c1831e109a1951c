/-
  Joined texts: Flight; Validate. What each proves stands ahead of it, with its conditions.
-/
import Derived.Test.YtifconapjfdkcaaGreatDoorDAA
import Derived.Test.YtifconapjfdkcaaGreatDoorDAF
import Derived.Test.YtifconapjfdkcaaGreatDoorDAG
import Derived.Maps.OwnOps
import Derived.StillTailTactics
import Derived.Deep.RegionWith
set_option linter.unusedSimpArgs false
set_option linter.unusedVariables false
set_option maxRecDepth 100000
set_option maxHeartbeats 12800000
namespace Go.Proofs.YtifconapjfdkcaaGreatDoor
section
open Go.RowKit
theorem zeroBool(w:World):(zeroValue 4).run Tryz.prog w=.ok (.bool false) w:=by kernel_rfl
def flightVal(f:GFlight):Value:=.agg #[.string f.number,.string f.src,.string f.dst,.int .i64 f.dep,.int .i64 f.arr,.string f.kind,.int .i64 f.n0,.int .i64 f.n1,.int .i64 f.n2]
theorem bset_get{w:World}{b:Nat}{keys:List ByteArray}(h:BSet Tryz.prog 9 4 w b keys)(key:ByteArray)(hs:key.size≤maxLen) :
 (Instr.lookup 95 (.map (some b)) (.string key) false).run Tryz.prog w=.ok (.bool (hasB keys key)) w :=
 h.lookup Tryz.underlying9 Tryz.underlying95 Tryz.underlying4 (zeroBool w) key hs
theorem before_any(f g:GFlight)(w:World):Calls Tryz.prog 52 #[flightVal f,flightVal g] w fun e w'=>e=.returned (.bool (beforeB f g))∧Below w.heap.size w w':=by
 unfold flightVal;have hbw : ∀ o1 o2,Below w.heap.size w ((w.alloc o1).alloc o2):=fun o1 o2=>((qC _ _).alloc (qD _) _).alloc (by simp) _
 by_cases h:f.dep=g.dep
 ·have hb:(f.dep != g.dep)=false:=by simpa using h
  have HE:Hid (beforeB f g=Op.bytesLess f.number.toList g.number.toList):=by show _=_;unfold beforeB;rw[qR h]
  clear h
  go_enter Tryz.func52,Tryz.ntmps52
  go_wp2_with fail
  go_ret
  exact⟨ret_bool HE.out.symm,hbw _ _⟩
 ·have hb:(f.dep != g.dep)=true:=by simpa using h
  have HE:Hid (beforeB f g=decide (f.dep<g.dep)):=by show _=_;unfold beforeB;rw[qN h]
  clear h
  go_enter Tryz.func52,Tryz.ntmps52
  go_wp2_with fail
  go_ret
  exact⟨ret_bool HE.out.symm,hbw _ _⟩
theorem validateFlight_any(f:GFlight)(b:Nat)(codes:List ByteArray)(w:World)(hf:f.ok)(hset:BSet Tryz.prog 9 4 w b codes) :
 Calls Tryz.prog 51 #[flightVal f,.map (some b)] w (ErrPost (flightE codes f) w):=by
 unfold flightVal;obtain⟨q1,q2,q3,q4,⟨d1,d2⟩,⟨a1,a2⟩,x0,x1,x2⟩:=hf;have hbw : ∀ o1,Below w.heap.size w (w.alloc o1):=fun o1=>(qC _ _).alloc (qD _) _
 have hset1 : ∀ o1,BSet Tryz.prog 9 4 (w.alloc o1) b codes:=fun o1=>hset.keep ((hbw o1).block b hset.lt)
 have l1:=fun o1=>bset_get (hset1 o1) f.src q2
 have l2:=fun o1=>bset_get (hset1 o1) f.dst q3
 have HB:=qH hbw;clear hbw hset1;have Q1:=qH q1;have Q4:=qH q4;clear q1 q2 q3 q4 x0 x1 x2 hset
 by_cases h1:isCodeB f.number=true
 case neg =>
  have h1':isCodeB f.number=false:=by simpa using h1
  have HR:Hid (flightE codes f=1):=by show _=_;unfold flightE;rw[qR (.inl h1')]
  clear h1
  go_enter Tryz.func51,Tryz.ntmps51
  go_wp2_with (go_at_call 87;refine(isCode_any f.number _ Q1.out).mono ?_;rintro e w' ⟨rfl,rfl⟩;rw[h1'])
  go_ret
  exact⟨by rw[HR.out];rfl,HB.out _⟩
 by_cases h2:isNameB f.kind=true
 case neg =>
  have h2':isNameB f.kind=false:=by simpa using h2
  have HR:Hid (flightE codes f=1):=by show _=_;unfold flightE;rw[qR (.inr h2')]
  clear h2
  go_enter Tryz.func51,Tryz.ntmps51
  go_wp2_with (first
   | (go_at_call 87;refine(isCode_any f.number _ Q1.out).mono ?_;rintro e w' ⟨rfl,rfl⟩;rw[h1])
   | (go_at_call 67;refine(isName_any f.kind _ Q4.out).mono ?_;rintro e w' ⟨rfl,rfl⟩;rw[h2']))
  go_ret
  exact⟨by rw[HR.out];rfl,HB.out _⟩
 by_cases h3:hasB codes f.src=true
 case neg =>
  have h3':hasB codes f.src=false:=by simpa using h3
  have HR:Hid (flightE codes f=6):=by show _=_;unfold flightE;rw[qN (by rw[h1,h2];simp),qR (.inl h3')]
  clear h3
  go_enter Tryz.func51,Tryz.ntmps51
  go_wp2_with (first
   | (go_at_call 87;refine(isCode_any f.number _ Q1.out).mono ?_;rintro e w' ⟨rfl,rfl⟩;rw[h1])
   | (go_at_call 67;refine(isName_any f.kind _ Q4.out).mono ?_;rintro e w' ⟨rfl,rfl⟩;rw[h2]))
  go_ret
  exact⟨by rw[HR.out];rfl,HB.out _⟩
 by_cases h4:hasB codes f.dst=true
 case neg =>
  have h4':hasB codes f.dst=false:=by simpa using h4
  have HR:Hid (flightE codes f=6):=by show _=_;unfold flightE;rw[qN (by rw[h1,h2];simp),qR (.inr h4')]
  clear h4
  go_enter Tryz.func51,Tryz.ntmps51
  go_wp2_with (first
   | (go_at_call 87;refine(isCode_any f.number _ Q1.out).mono ?_;rintro e w' ⟨rfl,rfl⟩;rw[h1])
   | (go_at_call 67;refine(isName_any f.kind _ Q4.out).mono ?_;rintro e w' ⟨rfl,rfl⟩;rw[h2]))
  go_ret
  exact⟨by rw[HR.out];rfl,HB.out _⟩
 by_cases h5:f.src=f.dst
 case pos =>
  have HR:Hid (flightE codes f=14):=by show _=_;unfold flightE;rw[qN (by rw[h1,h2];simp),qN (by rw[h3,h4];simp),qR h5]
  have e5:(f.src.toList==f.dst.toList)=true:=by rw[str_beq,decide_eq_true h5]
  clear h5
  go_enter Tryz.func51,Tryz.ntmps51
  go_wp2_with (first
   | (go_at_call 87;refine(isCode_any f.number _ Q1.out).mono ?_;rintro e w' ⟨rfl,rfl⟩;rw[h1])
   | (go_at_call 67;refine(isName_any f.kind _ Q4.out).mono ?_;rintro e w' ⟨rfl,rfl⟩;rw[h2]))
  go_ret
  exact⟨by rw[HR.out];rfl,HB.out _⟩
 have e5:(f.src.toList==f.dst.toList)=false:=by rw[str_beq,decide_eq_false h5]
 by_cases h6:f.dep<2880∨52593120<f.arr∨f.arr≤f.dep∨1440<f.arr-f.dep
 case pos =>
  have HR:Hid (flightE codes f=5):=by show _=_;unfold flightE;rw[qN (by rw[h1,h2];simp),qN (by rw[h3,h4];simp),qN h5,qR h6]
  have h6':f.dep<2880∨(¬f.dep<2880∧52593120<f.arr)∨(¬f.dep<2880 ∧ ¬52593120<f.arr∧f.arr≤f.dep)∨(¬f.dep<2880 ∧ ¬52593120<f.arr ∧ ¬f.arr≤f.dep∧1440<f.arr-f.dep):=by omega
  clear h5 h6;rcases h6' with h|⟨h,h'⟩|⟨h,h',h''⟩|⟨h,h',h'',h3'⟩
  all_goals
   go_enter Tryz.func51,Tryz.ntmps51
   go_wp2_with (first
    | (go_at_call 87;refine(isCode_any f.number _ Q1.out).mono ?_;rintro e w' ⟨rfl,rfl⟩;rw[h1])
    | (go_at_call 67;refine(isName_any f.kind _ Q4.out).mono ?_;rintro e w' ⟨rfl,rfl⟩;rw[h2]))
   go_ret
   exact⟨by rw[HR.out];rfl,HB.out _⟩
 have r1:2880≤f.dep:=by omega
 have r2:f.arr≤52593120:=by omega
 have r3:f.dep<f.arr:=by omega
 have r4:f.arr-f.dep≤1440:=by omega
 have HR:Hid (flightE codes f=if needOk f.n0=false∨needOk f.n1=false∨needOk f.n2=false then 5 else 0):=by show _=_;unfold flightE;rw[qN (by rw[h1,h2];simp),qN (by rw[h3,h4];simp),qN h5,qN h6]
 clear h5 h6;have i0 : ∀ w,(Instr.index 60 (.agg #[.int .i64 f.n0,.int .i64 f.n1,.int .i64 f.n2]) (.int .i64 0)).run Tryz.prog w=.ok (.int .i64 f.n0) w:=fun _=>by kernel_rfl
 have i1 : ∀ w,(Instr.index 60 (.agg #[.int .i64 f.n0,.int .i64 f.n1,.int .i64 f.n2]) (.int .i64 1)).run Tryz.prog w=.ok (.int .i64 f.n1) w:=fun _=>by kernel_rfl
 have i2 : ∀ w,(Instr.index 60 (.agg #[.int .i64 f.n0,.int .i64 f.n1,.int .i64 f.n2]) (.int .i64 2)).run Tryz.prog w=.ok (.int .i64 f.n2) w:=fun _=>by kernel_rfl
 go_enter Tryz.func51,Tryz.ntmps51
 go_wp2_with (first
  | (go_at_call 87;refine(isCode_any f.number _ Q1.out).mono ?_;rintro e w' ⟨rfl,rfl⟩;rw[h1])
  | (go_at_call 67;refine(isName_any f.kind _ Q4.out).mono ?_;rintro e w' ⟨rfl,rfl⟩;rw[h2]))
 go_loop [4,6,63] (fun _ _ i => ∃ k:Nat,k≤3∧i=.int .i64 k∧Hid ((1≤k→needOk f.n0=true)∧(2≤k→needOk f.n1=true)∧(3≤k→needOk f.n2=true))) (fun _ _ i=>3-(intOf i).toNat)
 case atStart=>exact⟨0,by omega,rfl,fun h=>absurd h (by omega),fun h=>absurd h (by omega),fun h=>absurd h (by omega)⟩
 case round =>
  obtain⟨k,hk,rfl,HK⟩:=hrel;have hk':k=0∨k=1∨k=2∨k=3:=by omega
  rcases hk' with rfl|rfl|rfl|rfl
  ·by_cases hn:needOk f.n0=true
   ·have hn':=hn;unfold needOk at hn';simp only[qI,qL]at hn';have HN:=qH hn;clear hn;obtain⟨s1,s2⟩:=hn';go_wp2_with fail
    go_round
    case rel=>exact⟨0+1,by omega,rfl,fun _=>HN.out,fun h=>absurd h (by omega),fun h=>absurd h (by omega)⟩
    case measure=>simp[intOf]
   ·have hn':needOk f.n0=false:=by simpa using hn
    have HR2:Hid (flightE codes f=5):=by rw[HR.out,qR (.inl hn')];rfl
    unfold needOk at hn';simp only[Bool.and_eq_false_iff,qU]at hn';clear hn;have hn2:f.n0<0∨(¬f.n0<0∧8<f.n0):=by omega
    clear hn';rcases hn2 with h|⟨h,h'⟩
    all_goals
     go_wp2_with fail
     go_ret
     exact⟨by rw[HR2.out];rfl,HB.out _⟩
  ·by_cases hn:needOk f.n1=true
   ·have hn':=hn;unfold needOk at hn';simp only[qI,qL]at hn';have HN:=qH hn;clear hn;obtain⟨s1,s2⟩:=hn';go_wp2_with fail
    go_round
    case rel=>exact⟨1+1,by omega,rfl,fun _=>HK.out.1 (by omega),fun _=>HN.out,fun h=>absurd h (by omega)⟩
    case measure=>simp[intOf]
   ·have hn':needOk f.n1=false:=by simpa using hn
    have HR2:Hid (flightE codes f=5):=by rw[HR.out,qR (.inr (.inl hn'))];rfl
    unfold needOk at hn';simp only[Bool.and_eq_false_iff,qU]at hn';clear hn;have hn2:f.n1<0∨(¬f.n1<0∧8<f.n1):=by omega
    clear hn';rcases hn2 with h|⟨h,h'⟩
    all_goals
     go_wp2_with fail
     go_ret
     exact⟨by rw[HR2.out];rfl,HB.out _⟩
  ·by_cases hn:needOk f.n2=true
   ·have hn':=hn;unfold needOk at hn';simp only[qI,qL]at hn';have HN:=qH hn;clear hn;obtain⟨s1,s2⟩:=hn';go_wp2_with fail
    go_round
    case rel=>exact⟨2+1,by omega,rfl,fun _=>HK.out.1 (by omega),fun _=>HK.out.2.1 (by omega),fun _=>HN.out⟩
    case measure=>simp[intOf]
   ·have hn':needOk f.n2=false:=by simpa using hn
    have HR2:Hid (flightE codes f=5):=by rw[HR.out,qR (.inr (.inr hn'))];rfl
    unfold needOk at hn';simp only[Bool.and_eq_false_iff,qU]at hn';clear hn;have hn2:f.n2<0∨(¬f.n2<0∧8<f.n2):=by omega
    clear hn';rcases hn2 with h|⟨h,h'⟩
    all_goals
     go_wp2_with fail
     go_ret
     exact⟨by rw[HR2.out];rfl,HB.out _⟩
  ·have HR2:Hid (flightE codes f=0):=by
    obtain⟨g1,g2,g3⟩:=HK.out;rw[HR.out,qN (by rw[g1 (by omega),g2 (by omega),g3 (by omega)];simp)];rfl
   go_wp2_with fail
   go_ret
   exact⟨by rw[HR2.out];rfl,HB.out _⟩
end
section
open Go.RowKit
theorem getD_mem{α : Type}{l:List α}{k:Nat}(h:k<l.length)(d : α):l.getD k d∈l:=by
 rw[qF,qG h];exact List.getElem_mem h
theorem take_getD{α : Type}{l:List α}{k:Nat}(h:k<l.length)(d : α):l.take (k+1)=l.take k++[l.getD k d]:=by
 rw[List.take_succ_eq_append_getElem h,qF,qG h];rfl
theorem validate_any(t:GTT)(A1 A2 A3:Option Addr)(n1 n2 n3 c1 c2 c3:Nat)(w:World)(ht:t.ok)(hs1:Sl Ty.zone w (all_ w) A1 n1 c1 t.zones)(hs2:Sl Ty.airport w (all_ w) A2 n2 c2 t.airports)(hs3:Sl Ty.flight w (all_ w) A3 n3 c3 t.flights) :
 Calls Tryz.prog 23 #[.agg #[.slice A1 n1 c1,.slice A2 n2 c2,.slice A3 n3 c3]] w (ErrPost (ttE t) w):=by
 obtain⟨ok1,ok2,ok3⟩:=ht;have e1:=hs1.len;have e2:=hs2.len;have e3:=hs3.len;have m1:=hs1.le;have m2:=hs2.le;have m3:=hs3.le;unfold maxLen at m1 m2 m3;have hmm := @run_makeMap Tryz.prog;have HB1:Hid (∀ o1,Below w.heap.size w (w.alloc o1)):=fun o1=>(qC _ _).alloc (qD _) _
 by_cases hbig:16<n1∨64<n2∨200<n3
 case pos =>
  have HR:Hid (ttE t=10):=by show _=_;unfold ttE;rw[qR (by omega)]
  have hb':16<n1∨(¬16<n1∧64<n2)∨(¬16<n1 ∧ ¬64<n2∧200<n3):=by omega
  clear hbig e1 e2 e3 hs1 hs2 hs3 ok1 ok2 ok3;rcases hb' with h|⟨h,h'⟩|⟨h,h',h''⟩
  all_goals
   go_enter Tryz.func23,Tryz.ntmps23
   go_wp2_with fail
   go_ret
   exact⟨by rw[HR.out];rfl,HB1.out _⟩
 have b1:n1≤16:=by omega
 have b2:n2≤64:=by omega
 have b3:n3≤200:=by omega
 have HR:Hid (ttE t=if firstErr (zErr t.zones) t.zones.length≠0 then firstErr (zErr t.zones) t.zones.length else
  if firstErr (aErr t.zones t.airports) t.airports.length≠0 then firstErr (aErr t.zones t.airports) t.airports.length else firstErr (fErr (aCodes t.airports) t.flights) t.flights.length):=by show _=_;unfold ttE;rw[qN (by omega)]
 have l1:n1≤t.zones.length:=by omega
 have l1':t.zones.length≤n1:=by omega
 have l2:n2≤t.airports.length:=by omega
 have l2':t.airports.length≤n2:=by omega
 have l3:n3≤t.flights.length:=by omega
 have l3':t.flights.length≤n3:=by omega
 clear hbig e1 e2 e3;have OK1:=qH ok1;have OK2:=qH ok2;have OK3:=qH ok3;clear ok1 ok2 ok3
 go_enter Tryz.func23,Tryz.ntmps23
 go_wp2_with fail
 have hb0:Below w.heap.size w ((w.alloc (.cells #[.slice A1 n1 c1,.slice A2 n2 c2,.slice A3 n3 c3] 27)).alloc (.map #[] 0)):=((qC _ _).alloc (qD _) _).alloc (by simp) _;have hset0:BSet Tryz.prog 9 4 ((w.alloc (.cells #[.slice A1 n1 c1,.slice A2 n2 c2,.slice A3 n3 c3] 27)).alloc (.map #[] 0)) (w.heap.size+1) []:=by
  have:=BSet.made (P:=Tryz.prog) (k:=9) (e:=4) (w.alloc (.cells #[.slice A1 n1 c1,.slice A2 n2 c2,.slice A3 n3 c3] 27));simpa using this
 have hx0 : ∀ j,j<3→((w.alloc (.cells #[.slice A1 n1 c1,.slice A2 n2 c2,.slice A3 n3 c3] 27)).alloc (.map #[] 0)).cell? ⟨w.heap.size,j,none⟩=(#[Value.slice A1 n1 c1,.slice A2 n2 c2,.slice A3 n3 c3])[j]? :=fun j _=>by
  rw[World.cell?_alloc_past _ _ _ (by simp),World.cell?_alloc_at _ _ _ _ rfl]
 have hsw:((w.alloc (.cells #[.slice A1 n1 c1,.slice A2 n2 c2,.slice A3 n3 c3] 27)).alloc (.map #[] 0)).heap.size=w.heap.size+2:=by simp
 generalize hW:(w.alloc (.cells #[.slice A1 n1 c1,.slice A2 n2 c2,.slice A3 n3 c3] 27)).alloc (.map #[] 0)=W at*;have x1:=hx0 1 (by decide);have x2:=hx0 2 (by decide);have HX1:Hid (W.cell? ⟨w.heap.size,1,none⟩=some (.slice A2 n2 c2)):=x1;have HX2:Hid (W.cell? ⟨w.heap.size,2,none⟩=some (.slice A3 n3 c3)):=x2;have HS1:=qH (hs1.keep (all_keep hb0));have HS2:=qH (hs2.keep (all_keep hb0));have HS3:=qH (hs3.keep (all_keep hb0));have HW:=qH hsw;have HB0:=qH hb0;clear hs1 hs2 hs3 hW hx0 x1 x2 hsw hb0;go_loopw [2,5,6,33] (fun _ _ _ i wr => ∃ k:Nat,k≤n1∧i=.int .i64 k∧Below (w.heap.size+1) W wr∧BSet Tryz.prog 9 4 wr (w.heap.size+1) (zNames (t.zones.take k))∧Hid (zeroTo (zErr t.zones) k)) (fun _ _ _ i _=>n1-(intOf i).toNat)
 case atStart=>exact⟨0,qV _,rfl,qC _ _,hset0,zeroTo_zero _⟩
 case round =>
  obtain⟨k,hk,rfl,hbr,hset,HK⟩:=hrel;clear hset0;have hsz:w.heap.size+2≤wr.heap.size:=by have:=hbr.size;have:=HW.out;omega
  by_cases hlt:k<n1
  ·obtain⟨b,o,A',n',c',rfl,hbS,hc0,hc1,hc2,hsh⟩:=(HS1.out.keep (w':=wr) fun b hb=>hbr.block b (by unfold all_ at hb;omega)).zone_at (k:=k) (by omega);have hzok:=OK1.out _ (getD_mem (show k<t.zones.length by omega) noZone);have HERR:Hid (zErr t.zones k=if zoneE (t.zones.getD k noZone)≠0 then zoneE (t.zones.getD k noZone) else if hasB (zNames (t.zones.take k)) (t.zones.getD k noZone).name=true then 7 else 0):=rfl;have HTK:Hid (zNames (t.zones.take (k+1))=zNames (t.zones.take k)++[(t.zones.getD k noZone).name]):=by show _=_;rw[take_getD (by omega) noZone];unfold zNames;rw[List.map_append];rfl
   have hbl:b<wr.heap.size:=by unfold all_ at hbS;omega
   have hbne:b≠wr.heap.size:=by omega
   generalize hz:t.zones.getD k noZone=z at*;clear hz;have hws:(wr.alloc (.cells #[.string z.name,.int .i64 z.off,.slice A' n' c'] 98)).heap.size=wr.heap.size+1:=by simp
   have hba:Below wr.heap.size wr (wr.alloc (.cells #[.string z.name,.int .i64 z.off,.slice A' n' c'] 98)):=(qC _ _).alloc (qD _) _;have hcz:(wr.alloc (.cells #[.string z.name,.int .i64 z.off,.slice A' n' c'] 98)).cell? ⟨wr.heap.size,0,none⟩=some (.string z.name):=by rw[World.cell?_alloc_at _ _ _ _ rfl];rfl
   have HZC:=qH (zoneValidate_any z A' n' c' _ hzok ((hsh.more fun b hb=>(show all_ wr b by unfold all_ at hb ⊢;omega)).next hba));have HNM:=qH hzok.1;clear hsh hzok;go_wp2_with fail
   refine HZC.out.mono ?_;generalize hW1:wr.alloc (.cells #[.string z.name,.int .i64 z.off,.slice A' n' c'] 98)=W1 at*;clear hW1 HZC;rintro e w2 ⟨rfl,hb2⟩;have hb3:Below wr.heap.size wr w2:=hba.trans (hb2.mono (by omega));have hset2:BSet Tryz.prog 9 4 w2 (w.heap.size+1) (zNames (t.zones.take k)):=hset.keep (hb3.block _ (by omega));have hcz2:w2.cell? ⟨wr.heap.size,0,none⟩=some (.string z.name):=(hb2.cell (by simp;omega)).trans hcz;have hbW:Below (w.heap.size+1) W w2:=hbr.trans (hb3.mono (by omega));clear hcz hc0 hc1 hc2 hset
   by_cases hz0:zoneE z=0
   ·rw[hz0];have hlk:=bset_get hset2 z.name HNM.out
    by_cases hdup:hasB (zNames (t.zones.take k)) z.name=true
    ·have HF:Hid (ttE t=7):=by
      have h9:zErr t.zones k=7:=by rw[HERR.out,qN (by simp[hz0]),qR hdup]
      have h8:firstErr (zErr t.zones) t.zones.length=7:=by rw[firstErr_hit HK.out (by rw[h9];decide) (by omega),h9]
      rw[HR.out,h8,qR (by decide)];rfl
     rw[hdup]at hlk;go_wp2_with fail
     go_ret
     exact⟨by rw[HF.out];rfl,HB0.out.trans (hbW.mono (by omega))⟩
    ·have hdup':hasB (zNames (t.zones.take k)) z.name=false:=by simpa using hdup
     rw[hdup']at hlk;have HZ:Hid (zeroTo (zErr t.zones) (k+1)):=zeroTo_succ HK.out (by rw[HERR.out,qN (by simp[hz0]),qN hdup]);have hkl:(zNames (t.zones.take k)).length<4611686018427387904:=by unfold zNames;rw[List.length_map,List.length_take];omega
     clear hdup hdup';go_wp2_with (at_mapUpdate;refine wpList_bset_store rfl _ _ _ rfl Tryz.underlying9 Tryz.underlying95 Tryz.underlying4 rfl hset2 hkl z.name HNM.out rfl rfl ?_;intro w3 hset3 hg3)
     rw[←HTK.out]at hset3;have hb4:Below (w.heap.size+1) W w3:=hbW.grown hg3 (by have:=hb3.size;omega) (fun q hq=>by injection hq with hq;omega);clear hg3 hset2 hlk;go_wp2_with fail
     go_roundw
     case rel=>exact⟨k+1,by omega,by go_num,hb4,hset3,HZ⟩
     case measure=>simp[intOf];omega
   ·have hne:(zoneE z != 0)=true:=by simpa using hz0
    have HF:Hid (ttE t=zoneE z):=by
     have h9:zErr t.zones k=zoneE z:=by rw[HERR.out,qR hz0]
     have h8:firstErr (zErr t.zones) t.zones.length=zoneE z:=by rw[firstErr_hit HK.out (by rw[h9];exact hz0) (by omega),h9]
     rw[HR.out,h8,qR hz0];rfl
    clear hz0;go_wp2_with fail
    go_ret
    exact⟨by rw[HF.out];rfl,HB0.out.trans (hbW.mono (by omega))⟩
  ·have HZ0:Hid (firstErr (zErr t.zones) t.zones.length=0):=firstErr_none (by rw[show t.zones.length=k by omega];exact HK.out);have hset1:BSet Tryz.prog 9 4 wr (w.heap.size+1) (zNames t.zones):=by rw[show t.zones=t.zones.take k by rw[List.take_of_length_le (by omega)]];exact hset
   have hx1:wr.cell? ⟨w.heap.size,1,none⟩=some (.slice A2 n2 c2):=(hbr.cell (by simp)).trans HX1.out;have hb5:Below wr.heap.size wr (wr.alloc (.map #[] 0)):=(qC _ _).alloc (qD _) _;have hx1':(wr.alloc (.map #[] 0)).cell? ⟨w.heap.size,1,none⟩=some (.slice A2 n2 c2):=(hb5.cell (by simp;omega)).trans hx1;have hset5:BSet Tryz.prog 9 4 (wr.alloc (.map #[] 0)) (w.heap.size+1) (zNames t.zones):=hset1.keep (hb5.block _ (by omega));have hset6:BSet Tryz.prog 9 4 (wr.alloc (.map #[] 0)) wr.heap.size []:=BSet.made wr;have hbW:Below (w.heap.size+1) W (wr.alloc (.map #[] 0)):=hbr.trans (hb5.mono (by omega));have hV:(wr.alloc (.map #[] 0)).heap.size=wr.heap.size+1:=by simp
   clear hset HK hx1 hset1;go_wp2_with fail
   generalize hWV:wr.alloc (.map #[] 0)=V at*;clear hWV hx1';have HBV:Hid (Below (w.heap.size+2) V V):=qC _ _;generalize hM:wr.heap.size=M at*;have HV:=qH hV;have HM:Hid (w.heap.size+2≤M):=hsz;clear hM hV hbr hb5 HBV;go_loopw [2,9,54] (fun _ _ i wr => ∃ k:Nat,k≤n2∧i=.int .i64 k∧Below (w.heap.size+2) V wr∧V.heap.size≤wr.heap.size∧BSet Tryz.prog 9 4 wr M (aCodes (t.airports.take k))∧Hid (zeroTo (aErr t.zones t.airports) k)) (fun _ _ i _=>n2-(intOf i).toNat)
   case atStart=>exact⟨0,qV _,rfl,qC _ _,qD _,hset6,zeroTo_zero _⟩
   case round =>
    obtain⟨q,hq,rfl,hbr,hsz2,hset,HK⟩:=hrel;clear hset6;have hbWr:Below (w.heap.size+1) W wr:=hbW.trans (hbr.mono (by omega));have hszr:w.heap.size+3≤wr.heap.size:=by have:=HV.out;have:=HM.out;omega
    have hML:M<wr.heap.size:=hset.lt
    by_cases hlt2:q<n2
    ·obtain⟨b,o,rfl,hbS,hc0,hc1⟩:=(HS2.out.keep (w':=wr) fun b hb=>hbWr.block b (by unfold all_ at hb;omega)).airport_at (k:=q) (by omega);have haok:=OK2.out _ (getD_mem (show q<t.airports.length by omega) noAirport);have HERR:Hid (aErr t.zones t.airports q=if isAirportB (t.airports.getD q noAirport).code=false then 1 else if hasB (aCodes (t.airports.take q)) (t.airports.getD q noAirport).code=true then 7 else if hasB (zNames t.zones) (t.airports.getD q noAirport).zone=false then 6 else 0):=rfl;have HTK:Hid (aCodes (t.airports.take (q+1))=aCodes (t.airports.take q)++[(t.airports.getD q noAirport).code]):=by show _=_;rw[take_getD (by omega) noAirport];unfold aCodes;rw[List.map_append];rfl
     have hbl:b<wr.heap.size:=by unfold all_ at hbS;omega
     have hbne:b≠wr.heap.size:=by omega
     generalize hz:t.airports.getD q noAirport=a at*;have hba:Below wr.heap.size wr (wr.alloc (.cells #[.string a.code,.string a.zone] 101)):=(qC _ _).alloc (qD _) _;have hsetA:BSet Tryz.prog 9 4 (wr.alloc (.cells #[.string a.code,.string a.zone] 101)) M (aCodes (t.airports.take q)):=hset.keep (hba.block _ hML);have hsetZ:BSet Tryz.prog 9 4 (wr.alloc (.cells #[.string a.code,.string a.zone] 101)) (w.heap.size+1) (zNames t.zones):=(hset5.keep (hbr.block _ (by omega))).keep (hba.block _ (by omega));have hbWA:Below (w.heap.size+1) W (wr.alloc (.cells #[.string a.code,.string a.zone] 101)):=hbWr.trans (hba.mono (by omega));have hk1:=bset_get hsetA a.code haok.1;have hk2:=bset_get hsetZ a.zone haok.2;have HNM:=qH haok.1;clear hz haok hset hsetZ
     by_cases ha1:isAirportB a.code=true
     case neg =>
      have ha1':isAirportB a.code=false:=by simpa using ha1
      have HF:Hid (ttE t=1):=by
       have h9:aErr t.zones t.airports q=1:=by rw[HERR.out,qR ha1']
       have h8:firstErr (aErr t.zones t.airports) t.airports.length=1:=by rw[firstErr_hit HK.out (by rw[h9];decide) (by omega),h9]
       rw[HR.out,HZ0.out,h8];rfl
      clear ha1 hk1 hk2;go_wp2_with (go_at_call 50;refine(isAirport_any a.code _ HNM.out).mono ?_;rintro e w' ⟨rfl,rfl⟩;rw[ha1'])
      go_ret
      exact⟨by rw[HF.out];rfl,HB0.out.trans (hbWA.mono (by omega))⟩
     by_cases ha2:hasB (aCodes (t.airports.take q)) a.code=true
     case pos =>
      have HF:Hid (ttE t=7):=by
       have h9:aErr t.zones t.airports q=7:=by rw[HERR.out,qN (by rw[ha1];decide),qR ha2]
       have h8:firstErr (aErr t.zones t.airports) t.airports.length=7:=by rw[firstErr_hit HK.out (by rw[h9];decide) (by omega),h9]
       rw[HR.out,HZ0.out,h8];rfl
      rw[ha2]at hk1;clear hk2 ha2;go_wp2_with (go_at_call 50;refine(isAirport_any a.code _ HNM.out).mono ?_;rintro e w' ⟨rfl,rfl⟩;rw[ha1])
      go_ret
      exact⟨by rw[HF.out];rfl,HB0.out.trans (hbWA.mono (by omega))⟩
     have ha2':hasB (aCodes (t.airports.take q)) a.code=false:=by simpa using ha2
     rw[ha2']at hk1
     by_cases ha3:hasB (zNames t.zones) a.zone=true
     case neg =>
      have ha3':hasB (zNames t.zones) a.zone=false:=by simpa using ha3
      have HF:Hid (ttE t=6):=by
       have h9:aErr t.zones t.airports q=6:=by rw[HERR.out,qN (by rw[ha1];decide),qN ha2,qR ha3']
       have h8:firstErr (aErr t.zones t.airports) t.airports.length=6:=by rw[firstErr_hit HK.out (by rw[h9];decide) (by omega),h9]
       rw[HR.out,HZ0.out,h8];rfl
      rw[ha3']at hk2;clear ha2 ha2' ha3 ha3';go_wp2_with (go_at_call 50;refine(isAirport_any a.code _ HNM.out).mono ?_;rintro e w' ⟨rfl,rfl⟩;rw[ha1])
      go_ret
      exact⟨by rw[HF.out];rfl,HB0.out.trans (hbWA.mono (by omega))⟩
     rw[ha3]at hk2;have HZ:Hid (zeroTo (aErr t.zones t.airports) (q+1)):=zeroTo_succ HK.out (by rw[HERR.out,qN (by rw[ha1];decide),qN ha2,qN (by rw[ha3];decide)]);have hkl:(aCodes (t.airports.take q)).length<4611686018427387904:=by unfold aCodes;rw[List.length_map,List.length_take];omega
     clear ha2 ha2' ha3;go_wp2_with (first
      | (go_at_call 50;refine(isAirport_any a.code _ HNM.out).mono ?_;rintro e w' ⟨rfl,rfl⟩;rw[ha1])
      | (at_mapUpdate;refine wpList_bset_store rfl _ _ _ rfl Tryz.underlying9 Tryz.underlying95 Tryz.underlying4 rfl hsetA hkl a.code HNM.out rfl rfl ?_;intro w3 hset3 hg3))
     rw[←HTK.out]at hset3;have hg3s:=hg3.size;have hsx:=hba.size;have hb4:Below (w.heap.size+2) V w3:=((hbr.trans (hba.mono (by omega)))).grown hg3 (by omega) (fun x hx=>by injection hx with hx;have:=HM.out;omega);have hsz3:V.heap.size≤w3.heap.size:=by omega
     clear hg3 hk1 hk2 hsetA;go_wp2_with fail
     go_roundw
     case rel=>exact⟨q+1,by omega,by go_num,hb4,hsz3,hset3,HZ⟩
     case measure=>simp[intOf];omega
    ·have HA0:Hid (firstErr (aErr t.zones t.airports) t.airports.length=0):=firstErr_none (by rw[show t.airports.length=q by omega];exact HK.out);have hset7:BSet Tryz.prog 9 4 wr M (aCodes t.airports):=by rw[show t.airports=t.airports.take q by rw[List.take_of_length_le (by omega)]];exact hset
     have hx2:wr.cell? ⟨w.heap.size,2,none⟩=some (.slice A3 n3 c3):=(hbWr.cell (by simp)).trans HX2.out;have hsU:=hbWr.size;clear hset HK hset5;go_wp2_with fail
     generalize hU:wr=U at*;have HBU:=qH hbWr;have HML:=qH hML;have HSET:=qH hset7;have HMW:=qH hszr;clear hx2 hU hbr hbW hsz2 hset7 hML hbWr;go_loopw [2,10,11,12,81] (fun _ _ _ _ i wr => ∃ k:Nat,k≤n3∧i=.int .i64 k∧Below U.heap.size U wr∧Hid (zeroTo (fErr (aCodes t.airports) t.flights) k)) (fun _ _ _ _ i _=>n3-(intOf i).toNat)
     case atStart=>exact⟨0,qV _,rfl,qC _ _,zeroTo_zero _⟩
     case round =>
      obtain⟨r,hr,rfl,hbr,HK⟩:=hrel;have hbW:Below (w.heap.size+1) W wr:=HBU.out.trans (hbr.mono (by have:=HMW.out;omega));have hsz3:w.heap.size+3≤wr.heap.size:=by have:=hbr.size;omega
      by_cases hlt3:r<n3
      ·have hfs:=HS3.out.keep (w':=wr) fun b hb=>hbW.block b (by unfold all_ at hb;omega)
       obtain⟨b,o,rfl,hbS,hat⟩:=hfs.flight_at (k:=r) (by omega);have hfok:=OK3.out _ (getD_mem (show r<t.flights.length by omega) noFlight);have HERR:Hid (fErr (aCodes t.airports) t.flights r=if flightE (aCodes t.airports) (t.flights.getD r noFlight)≠0 then flightE (aCodes t.airports) (t.flights.getD r noFlight) else if 0<r∧beforeB (t.flights.getD (r-1) noFlight) (t.flights.getD r noFlight)=false then 8 else 0):=rfl;have hbl:b<wr.heap.size:=by unfold all_ at hbS;omega
       have hbne:b≠wr.heap.size:=by omega
       generalize hz:t.flights.getD r noFlight=f at*;have y0:wr.cell? ⟨b,o+r*9,none⟩=some (.string f.number):=hat 0 _ rfl;have y1:=hat 1 _ rfl;have y2:=hat 2 _ rfl;have y3:=hat 3 _ rfl;have y4:=hat 4 _ rfl;have y5:=hat 5 _ rfl;have y6:=hat 6 _ rfl;have y7:=hat 7 _ rfl;have y8:=hat 8 _ rfl;have hx2:wr.cell? ⟨w.heap.size,2,none⟩=some (.slice (some ⟨b,o,none⟩) n3 c3):=(hbW.cell (by simp)).trans HX2.out;have hba : ∀ ob,Below wr.heap.size wr (wr.alloc ob):=fun ob=>(qC _ _).alloc (qD _) _
       have hvf:=fun ob=>validateFlight_any f M (aCodes t.airports) (wr.alloc ob) hfok (HSET.out.keep ((hba ob).block _ (by have:=HML.out;have:=hbr.size;omega) |>.trans (hbr.block _ HML.out)))
       unfold flightVal at hvf;have HVF:=qH hvf;have HBA:=qH hba;clear hz hvf hba hat hfok;have hzc : ∀ j,(wr.alloc (.cells #[.string f.number,.string f.src,.string f.dst,.int .i64 f.dep,.int .i64 f.arr,.string f.kind,.int .i64 f.n0,.int .i64 f.n1,.int .i64 f.n2] 62)).cell? ⟨wr.heap.size,j,none⟩=(#[.string f.number,.string f.src,.string f.dst,.int .i64 f.dep,.int .i64 f.arr,.string f.kind,.int .i64 f.n0,.int .i64 f.n1,.int .i64 f.n2]:Array Value)[j]? :=fun j=>by rw[World.cell?_alloc_at _ _ _ _ rfl]
       have hws:(wr.alloc (.cells #[.string f.number,.string f.src,.string f.dst,.int .i64 f.dep,.int .i64 f.arr,.string f.kind,.int .i64 f.n0,.int .i64 f.n1,.int .i64 f.n2] 62)).heap.size=wr.heap.size+1:=by simp
       go_wp2_with fail
       refine(HVF.out _).mono ?_;have hba:=HBA.out (.cells #[.string f.number,.string f.src,.string f.dst,.int .i64 f.dep,.int .i64 f.arr,.string f.kind,.int .i64 f.n0,.int .i64 f.n1,.int .i64 f.n2] 62);generalize hW1:wr.alloc (.cells #[.string f.number,.string f.src,.string f.dst,.int .i64 f.dep,.int .i64 f.arr,.string f.kind,.int .i64 f.n0,.int .i64 f.n1,.int .i64 f.n2] 62)=W1 at*;clear hW1 HVF HBA;rintro e w2 ⟨rfl,hb2⟩;have hb3:Below wr.heap.size wr w2:=hba.trans (hb2.mono (by omega));have hbx : ∀ j,w2.cell? ⟨wr.heap.size,j,none⟩=(#[.string f.number,.string f.src,.string f.dst,.int .i64 f.dep,.int .i64 f.arr,.string f.kind,.int .i64 f.n0,.int .i64 f.n1,.int .i64 f.n2]:Array Value)[j]? :=fun j=>(hb2.cell (by simp;omega)).trans (hzc j)
       have hbW2:Below (w.heap.size+1) W w2:=hbW.trans (hb3.mono (by omega));have hbU2:Below U.heap.size U w2:=hbr.trans (hb3.mono hbr.size);clear y0 y1 y2 y3 y4 y5 y6 y7 y8 hzc
       by_cases hf0:flightE (aCodes t.airports) f=0
       case neg =>
        have hne:(flightE (aCodes t.airports) f != 0)=true:=by simpa using hf0
        have HF:Hid (ttE t=flightE (aCodes t.airports) f):=by
         have h9:fErr (aCodes t.airports) t.flights r=flightE (aCodes t.airports) f:=by rw[HERR.out,qR hf0]
         have h8:firstErr (fErr (aCodes t.airports) t.flights) t.flights.length=flightE (aCodes t.airports) f:=by rw[firstErr_hit HK.out (by rw[h9];exact hf0) (by omega),h9]
         rw[HR.out,HZ0.out,HA0.out,h8];rfl
        clear hf0 hbx hx2;go_wp2_with fail
        go_ret
        exact⟨by rw[HF.out];rfl,HB0.out.trans (hbW2.mono (by omega))⟩
       rw[hf0];rcases Nat.eq_zero_or_pos r with rfl|hr0
       ·have HZ:Hid (zeroTo (fErr (aCodes t.airports) t.flights) (0+1)):=zeroTo_succ HK.out (by rw[HERR.out,qN (by simp[hf0]),qN (fun h=>absurd h.1 (by omega))]);clear hbx hx2 hf0;go_wp2_with fail
        go_quiet (fail)
        go_wp2_with fail
        go_roundw
        case rel=>exact⟨0+1,by omega,rfl,below_drewN hbU2 _,HZ⟩
        case measure=>simp[intOf];omega
       ·obtain⟨b',o',e',_,hat⟩:=(HS3.out.keep (w':=w2) fun b hb=>hbW2.block b (by unfold all_ at hb;omega)).flight_at (k:=r-1) (by omega);simp only[Option.some.injEq,Addr.mk.injEq,and_true]at e';obtain⟨rfl,rfl⟩:=e';generalize hp:t.flights.getD (r-1) noFlight=p at*;have y0:w2.cell? ⟨b,o+(r-1)*9,none⟩=some (.string p.number):=hat 0 _ rfl;have y1:=hat 1 _ rfl;have y2:=hat 2 _ rfl;have y3:=hat 3 _ rfl;have y4:=hat 4 _ rfl;have y5:=hat 5 _ rfl;have y6:=hat 6 _ rfl;have y7:=hat 7 _ rfl;have y8:=hat 8 _ rfl;have z0:=hbx 0;have z1:=hbx 1;have z2:=hbx 2;have z3:=hbx 3;have z4:=hbx 4;have z5:=hbx 5;have z6:=hbx 6;have z7:=hbx 7;have z8:=hbx 8;have hx3:w2.cell? ⟨w.heap.size,2,none⟩=some (.slice (some ⟨b,o,none⟩) n3 c3):=(hbW2.cell (by simp)).trans HX2.out;have hbf:=fun X=>before_any p f X
        unfold flightVal at hbf;have HBF:=qH hbf;have wr1:IntKind.i64.wrap ((r:Int)-1)=(r:Int)-1:=qM _ (by omega);have wr2:0≤(r:Int)-1:=by omega
        have wr3:(r:Int)-1<(n3:Int):=by omega
        have wr4:((r:Int)-1).toNat=r-1:=by omega
        clear hp hat hbx hx2 hbf;have hD : ∀ m,Below U.heap.size U (w2.drewN m):=fun m=>below_drewN hbU2 m
        have HD:Hid (∀ m w',Below (w2.drewN m).heap.size (w2.drewN m) w'→Below U.heap.size U w'):=fun m w' h=>(hD m).trans (h.mono (hD m).size)
        have HDW:Hid (∀ m w',Below (w2.drewN m).heap.size (w2.drewN m) w'→Below w.heap.size w w'):=fun m w' h=>HB0.out.trans ((hbW2.mono (by omega)).trans ((below_drewN (qC _ _) m).trans (h.mono (by have:=hbW2.size;have:=HW.out;simp;omega))))
        clear hD
        by_cases hbe:beforeB p f=true
        ·have HZ:Hid (zeroTo (fErr (aCodes t.airports) t.flights) (r+1)):=zeroTo_succ HK.out (by rw[HERR.out,qN (by simp[hf0]),qN (by rw[hbe];simp)]);clear hf0;go_wp2_with fail
         go_region_with (go_at_call 52;refine(HBF.out _).mono ?_;rintro e w' ⟨rfl,hb'⟩;rw[hbe])
         all_goals
          go_wp2_with fail
          go_roundw
          case rel=>exact⟨r+1,by omega,by go_num,HD.out _ _ hb',HZ⟩
          case measure=>simp[intOf];omega
        ·have hbe':beforeB p f=false:=by simpa using hbe
         have HF:Hid (ttE t=8):=by
          have h9:fErr (aCodes t.airports) t.flights r=8:=by rw[HERR.out,qN (by simp[hf0]),qR ⟨hr0,hbe'⟩]
          have h8:firstErr (fErr (aCodes t.airports) t.flights) t.flights.length=8:=by rw[firstErr_hit HK.out (by rw[h9];decide) (by omega),h9]
          rw[HR.out,HZ0.out,HA0.out,h8];rfl
         clear hf0 hbe;go_wp2_with fail
         go_region_with (go_at_call 52;refine(HBF.out _).mono ?_;rintro e w' ⟨rfl,hb'⟩;rw[hbe'])
         all_goals
          go_wp2_with fail
          go_ret
          exact⟨by rw[HF.out];rfl,HDW.out _ _ hb'⟩
      ·have HF0:Hid (ttE t=0):=by
        have h8:firstErr (fErr (aCodes t.airports) t.flights) t.flights.length=0:=firstErr_none (by rw[show t.flights.length=r by omega];exact HK.out);rw[HR.out,HZ0.out,HA0.out,h8];rfl
       go_wp2_with fail
       go_ret
       exact⟨by rw[HF0.out];rfl,HB0.out.trans (hbW.mono (by omega))⟩
end
end Go.Proofs.YtifconapjfdkcaaGreatDoor
