/-
  Joined texts: Same40; DataOk; Known. What each proves stands ahead of it, with its conditions.
-/
import Derived.Test.YtifconapjfdkcaaGreatDoorDAA
import Derived.Test.YtifconapjfdkcaaGreatDoorDAS
import Derived.Test.YtifconapjfdkcaaGreatDoorDAQ
import Derived.Deep.QuietTactic
import Derived.BigQuiet
import Derived.ChangeKeysEq
import Derived.Test.YtifconapjfdkcaaGreatDoorDAK
import Derived.Test.YtifconapjfdkcaaGreatDoorDBE
import Derived.Test.YtifconapjfdkcaaGreatDoorDBF
import Derived.Test.YtifconapjfdkcaaGreatDoorDBC
import Derived.Test.YtifconapjfdkcaaGreatDoorDBG
import Derived.Test.YtifconapjfdkcaaGreatDoorDBB
import Derived.Test.YtifconapjfdkcaaGreatDoorDAT
set_option linter.unusedSimpArgs false
set_option linter.unusedVariables false
set_option maxRecDepth 100000
set_option maxHeartbeats 12800000
namespace Go.Proofs.YtifconapjfdkcaaGreatDoor
section
open Go.RowKit
def TruePost(w:World)(e:Ending)(w':World):Prop:=e=.returned (.bool true)∧Below w.heap.size w w'
theorem sameIncs_any(xs:List GInc)(A B:Option Addr)(n m c d:Nat)(w:World)(ha:Sl Ty.inc w (all_ w) A n c xs)(hb:Sl Ty.inc w (all_ w) B m d xs) :
 Calls Tryz.prog 27 #[.slice A n c,.slice B m d] w (TruePost w):=by
 have hn1:n=xs.length:=ha.len;have hm1:m=xs.length:=hb.len;subst hn1 hm1;have hle:=ha.le;unfold maxLen at hle;have hnn:(((xs.length:Nat):Int) != ((xs.length:Nat):Int))=false:=by simp
 have HA:Hid (∀ V,Below w.heap.size w V→Sl Ty.inc V (all_ w) A xs.length c xs∧Sl Ty.inc V (all_ w) B xs.length d xs):=fun V hV=>⟨ha.keep (all_keep hV),hb.keep (all_keep hV)⟩
 clear ha hb
 go_enter Tryz.func27,Tryz.ntmps27
 go_wp2_with fail
 go_loopw [5] (fun s wr => ∃ k:Nat,k≤xs.length∧s=.int .i64 k∧Below w.heap.size w wr) (fun s _=>xs.length-(intOf s).toNat)
 case atStart=>exact⟨0,qV _,rfl,qC _ _⟩
 case round =>
  obtain⟨k,hk,rfl,hbr⟩:=hrel
  by_cases hlt:k<xs.length
  ·obtain⟨ha,hb⟩:=HA.out wr hbr;obtain⟨b1,o1,rfl, -,hat1⟩:=ha.inc_at hlt;obtain⟨b2,o2,rfl, -,hat2⟩:=hb.inc_at hlt;generalize xs.getD k noInc=x at*;have hlt':(k:Int)<(xs.length:Int):=by omega
   obtain⟨kd,fl,mi,ai,pe,⟨s1,s2⟩⟩:=x;have y0:=hat1 0 _ rfl;rw[Nat.add_zero]at y0;have y1:=hat1 1 _ rfl;have y2:=hat1 2 _ rfl;have y3:=hat1 3 _ rfl;have y4:=hat1 4 _ rfl;have y5:=hat1 5 _ rfl;have y6:=hat1 6 _ rfl;have z0:=hat2 0 _ rfl;rw[Nat.add_zero]at z0;have z1:=hat2 1 _ rfl;have z2:=hat2 2 _ rfl;have z3:=hat2 3 _ rfl;have z4:=hat2 4 _ rfl;have z5:=hat2 5 _ rfl;have z6:=hat2 6 _ rfl;simp only at y0 y1 y2 y3 y4 y5 y6 z0 z1 z2 z3 z4 z5 z6;clear ha hb hat1 hat2;go_wp2_with fail
   go_quiet (fail)
   go_wp2_with fail
   go_roundw
   case rel=>exact⟨k+1,by omega,by go_num,below_drewN hbr _⟩
   case measure=>simp[intOf];omega
  ·have hge : ¬(k:Int)<(xs.length:Int):=by omega
   go_wp2_with fail
   go_ret
   exact⟨rfl,hbr⟩
end
section
open Go Go.RowKit
theorem dCode_size(k:Nat):(dCode k).size≤100:=by
 unfold dCode dCodes;have:k=0∨k=1∨k=2∨3≤k:=by omega
 rcases this with rfl|rfl|rfl|h
 ·decide
 ·decide
 ·decide
 ·rw[qF,List.getElem?_eq_none (by simpa using h)];decide
theorem le_max{n:Nat}(h:n≤100):n≤maxLen:=by unfold maxLen;omega
theorem dFlight_ok(n clock:Int)(i:Nat)(h1:0≤clock)(h2:clock≤100000000):(dFlight n clock i).ok:=by
 unfold dFlight GFlight.ok;refine⟨le_max (by show 2≤100;decide),le_max (dCode_size _),le_max (dCode_size _), ?_,⟨by simp only;omega,by simp only;omega⟩,⟨by simp only;omega,by simp only;omega⟩,⟨by simp only;omega,by simp only;omega⟩, ?_,⟨by simp only;omega,by simp only;omega⟩⟩
 ·simp only;split <;> decide
 ·simp only;split <;> decide
theorem dTT_mem(l:List Int)(n:Nat){f:GFlight}(h:f∈(dTT l n).flights) : ∃ i,i<n∧f=dFlight (atL l i) (dSt l i).1 i:=by
 obtain⟨i,hi,rfl⟩:=List.getElem_of_mem h;have hl:(dTT l n).flights.length=n:=(dSt_range l n).2.2;have hin:i<n:=by omega
 refine⟨i,hin, ?_⟩;have:=dSt_get l n i hin;rw[←this];show(dTT l n).flights[i]=(dTT l n).flights.getD i noFlight;rw[qF,qG hi];rfl
theorem dTT_ok(l:List Int)(n:Nat)(hn:n≤9):(dTT l n).ok:=by
 refine⟨fun z hz =>?_,fun a ha =>?_,fun f hf =>?_⟩
 ·have hz':z∈dZones:=hz;unfold dZones at hz';simp only[List.mem_cons,List.not_mem_nil,or_false]at hz';rcases hz' with rfl|rfl
  ·exact⟨le_max (by decide),by decide,fun s hs=>by cases hs⟩
  ·refine⟨le_max (by decide),by decide,fun s hs =>?_⟩;simp only[List.mem_cons,List.not_mem_nil,or_false]at hs;subst hs;exact⟨by decide,by decide⟩
 ·have ha':a∈dAirports:=ha;unfold dAirports at ha';simp only[List.mem_cons,List.not_mem_nil,or_false]at ha';rcases ha' with rfl|rfl|rfl <;> exact⟨le_max (by decide),le_max (by decide)⟩
 ·obtain⟨i,hi,rfl⟩:=dTT_mem l n hf;have:=dSt_range l i;exact dFlight_ok _ _ _ (by omega) (by omega)
theorem probTT_ok(l:List Int):(probTT l).ok:=dTT_ok _ _ (by have:=dCount_range l;omega)
theorem probTT_shifts(l:List Int) : ∀ z∈(probTT l).zones,z.shifts.length≤1000:=by
 have : ∀ z∈dZones,z.shifts.length≤1000:=by
  intro z hz;unfold dZones at hz;simp only[List.mem_cons,List.not_mem_nil,or_false]at hz;rcases hz with rfl|rfl <;> decide
 exact this
theorem dPerson_ok(k:Int)(i:Nat)(sen:Int)(hi:i<4)(h1:0≤sen)(h2:sen≤100)(hk:0≤k):(dPerson k i sen).ok:=by
 unfold dPerson GPerson.ok;simp only;refine⟨⟨by omega,by omega⟩, ?_, ?_,⟨by omega,by omega⟩,⟨by omega,by omega⟩, ?_, ?_⟩
 ·have:i=0∨i=1∨i=2∨i=3:=by omega
  rcases this with rfl|rfl|rfl|rfl <;> exact le_max (by decide)
 ·split <;> exact le_max (dCode_size _)
 ·unfold dTypes;intro x hx;split at hx
  ·cases hx
  ·split at hx
   ·simp only[List.mem_cons,List.not_mem_nil,or_false]at hx;rcases hx with rfl|rfl <;> exact le_max (by decide)
   ·simp only[List.mem_cons,List.not_mem_nil,or_false]at hx;subst hx;exact le_max (by decide)
 ·unfold dVacs;intro x hx;split at hx
  ·simp only[List.mem_cons,List.not_mem_nil,or_false]at hx;subst hx;exact⟨⟨by simp only;omega,by simp only;omega⟩,⟨by simp only;omega,by simp only;omega⟩⟩
  ·cases hx
theorem people_ok(l:List Int) : ∀ p∈dPeople l,p.ok:=fun p hp=>by
 have hc:=pCount_range l;unfold dPeople dPeopleN at hp;rw[List.mem_map]at hp;obtain⟨i,hi,rfl⟩:=hp;rw[List.mem_range]at hi;have hs:=dSens_get l hi;have h0:=dSen0_range (atL l (1+i)) i;exact dPerson_ok _ _ _ (by omega) (by rw[hs];split <;> omega) (by rw[hs];split <;> omega) (atL_range l (1+i)).1
end
section
open Go.RowKit
def kT:GTT:=probTT [0,512,512,0]
def kP:List GPerson:=dPeople [0,0]
def kL:List GInc:=[delayI 0 30]
theorem kT_ok:kT.ok:=probTT_ok _
theorem kP_ok : ∀ p∈kP,p.ok:=people_ok _
theorem kT_len:kT.flights.length=2:=by kernel_rfl
theorem kInc:incE kT kP kL=0:=by kernel_rfl
def kA:GTT×List Int×Int:=(⟨kT.zones,kT.airports,refFl (appAll kT kL).1 (appAll kT kL).2⟩,(List.range kT.flights.length).map (indexI (appAll kT kL).1 (appAll kT kL).2),0)
theorem kApply:applyP kT kL=kA:=by
 unfold applyP kA;rw[←ref_eq];rw[qN (by decide +kernel),qN (by decide +kernel),qN (by decide +kernel)]
theorem kA_flights : ∃ f g,kA.1.flights=[f,g]∧f.dep=(kT.flights.getD 0 noFlight).dep+30:=⟨kA.1.flights.getD 0 noFlight,kA.1.flights.getD 1 noFlight,by kernel_rfl,by kernel_rfl⟩
theorem kA_index:kA.2.1=[0,1]:=by kernel_rfl
theorem kFmt:fmtI kT kP kL=(incS kT kL,0):=fmtI_zero kInc
theorem kParse:parseI kT kP (incS kT kL)=(kL,0,0):=inc_back kInc (by have:=incS_size kInc;omega)
theorem kL_sl(w:World):Sl Ty.inc (w.alloc (.cells #[.int .i64 1,.int .i64 0,.int .i64 30,.string ⟨#[]⟩,.int .i64 0,.int .i64 0,.int .i64 0] 59)) (fun b=>b=w.heap.size) (some ⟨w.heap.size,0,none⟩) 1 1 kL:=by
 refine Sl.block (xs:=kL) (qK _ _) rfl (by decide) fun i x hi =>?_
 have:i=0:=by
  have:=(List.getElem?_eq_some_iff.1 hi).1;have:i<1:=this;omega
 subst this;injection hi with hi
 subst hi;rfl
theorem known_any(w:World)(hpw:Pow10 w)(hg:Glo w):Calls Tryz.prog 18 #[] w (TruePost w):=by
 have HPW:Hid (∀ V,Below w.heap.size w V→Pow10 V):=fun V hV=>hpw.next hV
 have HGL:Hid (∀ V,Below w.heap.size w V→Glo V):=fun V hV=>hg.next hV
 clear hpw hg
 go_enter Tryz.func18,Tryz.ntmps18
 go_upto_region 1 with (fail)
 refine wp_region_lit ?_;refine qP rfl fun K9 hK9 =>?_
 go_simp
 refine hK9 _ _ ?_;clear hK9;refine qP rfl fun K9 hK9 =>?_
 go_simp
 go_at_call 11
 refine(problem_any [0,512,512,0] (some ⟨w.heap.size,0,none⟩) 4 4 (w.alloc (.cells #[.int .i64 0,.int .i64 512,.int .i64 512,.int .i64 0] 3)) (Sl.block (t:=Ty.int .i64) (S:=all_ (w.alloc (.cells #[.int .i64 0,.int .i64 512,.int .i64 512,.int .i64 0] 3))) (xs:=[0,512,512,0]) (qK w (.cells #[.int .i64 0,.int .i64 512,.int .i64 512,.int .i64 0] 3)) (show w.heap.size<_ by simp) (by decide) fun i x hi=>by have:i=0∨i=1∨i=2∨i=3:=(by have:=(List.getElem?_eq_some_iff.1 hi).1;have:i<4:=this;omega);rcases this with rfl|rfl|rfl|rfl <;> (injection hi with hi;subst hi;rfl))).mono ?_;rintro e w1 ⟨cells,rfl,hpi,hb1⟩;obtain⟨v,cs,Ab,nb,cb,Ao,no,co,bs,os,hh,pp,rfl,htt,hcs,hbs,hos,ho0,ho5,hb2⟩:=hpi;have htt':=htt;obtain⟨A1,n1,d1,A2,n2,d2,A3,n3,d3,rfl, -, -, -⟩:=htt';obtain⟨k0,k1,k2,k3,k4,k5,k6,k7,k8,k9,k10,k11,k12,k13,rfl⟩:=list14 hcs.1;have HCS:=qH hcs;have HTT1:=qH htt.fl;have HB1:=qH hb1;have HBS:=qH hbs;have HOS:=qH hos;clear htt hcs hb1 hbs hos;refine hK9 _ _ ?_;clear hK9;refine qP rfl fun K9 hK9 =>?_
 go_simp
 refine hK9 _ _ ?_;clear hK9;have HXP:=qH (qK w1 (.cells zProb 38));have HK1:Hid (∀ q,q<w1.heap.size→(w1.alloc (.cells zProb 38)).heap[q]? = w1.heap[q]?):=fun q hq=>Below.heap_alloc _ _ _ hq
 have HB7:Hid (Below (w.alloc (.cells #[.int .i64 0,.int .i64 512,.int .i64 512,.int .i64 0] 3)).heap.size (w.alloc (.cells #[.int .i64 0,.int .i64 512,.int .i64 512,.int .i64 0] 3)) (w1.alloc (.cells zProb 38))):=HB1.out.alloc HB1.out.size _;have hz7:(w1.alloc (.cells zProb 38)).heap.size=w1.heap.size+1:=by simp
 have hone:((#[.slice A1 n1 d1,.slice A2 n2 d2,.slice A3 n3 d3,k0,k1,k2,k3,k4,k5,k6,k7,k8,k9,k10,k11,k12,k13,.slice Ab nb cb,.slice Ao no co,.int .i64 hh,.int .i64 pp]:Array Value)).all (·.oneCell')=true:=by
  have h14:=HCS.out.2;rw[Array.all_eq_true];intro i hi;have hmem:((#[.slice A1 n1 d1,.slice A2 n2 d2,.slice A3 n3 d3,k0,k1,k2,k3,k4,k5,k6,k7,k8,k9,k10,k11,k12,k13,.slice Ab nb cb,.slice Ao no co,.int .i64 hh,.int .i64 pp]:Array Value))[i]∈(#[.slice A1 n1 d1,.slice A2 n2 d2,.slice A3 n3 d3,k0,k1,k2,k3,k4,k5,k6,k7,k8,k9,k10,k11,k12,k13,.slice Ab nb cb,.slice Ao no co,.int .i64 hh,.int .i64 pp]:Array Value).toList:=by simp
  have hcs2 : ∀ u∈([.slice A1 n1 d1,.slice A2 n2 d2,.slice A3 n3 d3]++([k0,k1,k2,k3,k4,k5,k6,k7,k8,k9,k10,k11,k12,k13]++[.slice Ab nb cb,.slice Ao no co,.int .i64 hh,.int .i64 pp]):List Value),u.oneCell'=true:=fun u hu=>by
   rcases List.mem_append.1 hu with h|h
   ·simp at h;rcases h with rfl|rfl|rfl <;> rfl
   ·rcases List.mem_append.1 h with h|h
    ·exact h14 u h
    ·simp at h;rcases h with rfl|rfl|rfl|rfl <;> rfl
  exact hcs2 _ hmem
 change wpList _ _ _ _ _ (w1.alloc (.cells zProb 38));generalize w1.alloc (.cells zProb 38)=w7 at*;refine wpList_store_row rfl _ _ _ rfl w1.heap.size #[.slice A1 n1 d1,.slice A2 n2 d2,.slice A3 n3 d3,k0,k1,k2,k3,k4,k5,k6,k7,k8,k9,k10,k11,k12,k13,.slice Ab nb cb,.slice Ao no co,.int .i64 hh,.int .i64 pp] (by simp[Act.eval,Act.put]) (by simp[Act.eval,Act.put]) _ _ HXP.out (by kernel_rfl) rfl hone ?_;clear hone;have HBX:Hid ((w7.setRow w1.heap.size #[.slice A1 n1 d1,.slice A2 n2 d2,.slice A3 n3 d3,k0,k1,k2,k3,k4,k5,k6,k7,k8,k9,k10,k11,k12,k13,.slice Ab nb cb,.slice Ao no co,.int .i64 hh,.int .i64 pp]).heap[w1.heap.size]? = some (.cells #[.slice A1 n1 d1,.slice A2 n2 d2,.slice A3 n3 d3,k0,k1,k2,k3,k4,k5,k6,k7,k8,k9,k10,k11,k12,k13,.slice Ab nb cb,.slice Ao no co,.int .i64 hh,.int .i64 pp] 38 (0,0))):=setRow_heap _ _ _ _ _ _ HXP.out;have hk : ∀ q,q<w1.heap.size→(w7.setRow w1.heap.size #[.slice A1 n1 d1,.slice A2 n2 d2,.slice A3 n3 d3,k0,k1,k2,k3,k4,k5,k6,k7,k8,k9,k10,k11,k12,k13,.slice Ab nb cb,.slice Ao no co,.int .i64 hh,.int .i64 pp]).heap[q]? = w1.heap[q]? :=fun q hq=>(setRow_other _ _ _ _ (by omega)).trans (HK1.out q hq)
 have hzz:(w7.setRow w1.heap.size #[.slice A1 n1 d1,.slice A2 n2 d2,.slice A3 n3 d3,k0,k1,k2,k3,k4,k5,k6,k7,k8,k9,k10,k11,k12,k13,.slice Ab nb cb,.slice Ao no co,.int .i64 hh,.int .i64 pp]).heap.size=w7.heap.size:=by simp
 have HT:Hid (Sl Ty.zone (w7.setRow w1.heap.size #[.slice A1 n1 d1,.slice A2 n2 d2,.slice A3 n3 d3,k0,k1,k2,k3,k4,k5,k6,k7,k8,k9,k10,k11,k12,k13,.slice Ab nb cb,.slice Ao no co,.int .i64 hh,.int .i64 pp]) (all_ (w7.setRow w1.heap.size #[.slice A1 n1 d1,.slice A2 n2 d2,.slice A3 n3 d3,k0,k1,k2,k3,k4,k5,k6,k7,k8,k9,k10,k11,k12,k13,.slice Ab nb cb,.slice Ao no co,.int .i64 hh,.int .i64 pp])) A1 n1 d1 kT.zones∧Sl Ty.airport (w7.setRow w1.heap.size #[.slice A1 n1 d1,.slice A2 n2 d2,.slice A3 n3 d3,k0,k1,k2,k3,k4,k5,k6,k7,k8,k9,k10,k11,k12,k13,.slice Ab nb cb,.slice Ao no co,.int .i64 hh,.int .i64 pp]) (all_ (w7.setRow w1.heap.size #[.slice A1 n1 d1,.slice A2 n2 d2,.slice A3 n3 d3,k0,k1,k2,k3,k4,k5,k6,k7,k8,k9,k10,k11,k12,k13,.slice Ab nb cb,.slice Ao no co,.int .i64 hh,.int .i64 pp])) A2 n2 d2 kT.airports∧Sl Ty.flight (w7.setRow w1.heap.size #[.slice A1 n1 d1,.slice A2 n2 d2,.slice A3 n3 d3,k0,k1,k2,k3,k4,k5,k6,k7,k8,k9,k10,k11,k12,k13,.slice Ab nb cb,.slice Ao no co,.int .i64 hh,.int .i64 pp]) (all_ (w7.setRow w1.heap.size #[.slice A1 n1 d1,.slice A2 n2 d2,.slice A3 n3 d3,k0,k1,k2,k3,k4,k5,k6,k7,k8,k9,k10,k11,k12,k13,.slice Ab nb cb,.slice Ao no co,.int .i64 hh,.int .i64 pp])) A3 n3 d3 kT.flights) :=
  ⟨(HTT1.out.1.keep fun b hb=>hk b hb).more fun b hb=>(by show b<_;have:b<w1.heap.size:=hb;omega),(HTT1.out.2.1.keep fun b hb=>hk b hb).more fun b hb=>(by show b<_;have:b<w1.heap.size:=hb;omega),(HTT1.out.2.2.keep fun b hb=>hk b hb).more fun b hb=>(by show b<_;have:b<w1.heap.size:=hb;omega)⟩
 have HB2:Hid (Below (w.alloc (.cells #[.int .i64 0,.int .i64 512,.int .i64 512,.int .i64 0] 3)).heap.size (w.alloc (.cells #[.int .i64 0,.int .i64 512,.int .i64 512,.int .i64 0] 3)) (w7.setRow w1.heap.size #[.slice A1 n1 d1,.slice A2 n2 d2,.slice A3 n3 d3,k0,k1,k2,k3,k4,k5,k6,k7,k8,k9,k10,k11,k12,k13,.slice Ab nb cb,.slice Ao no co,.int .i64 hh,.int .i64 pp])):=below_setRowD HB7.out HB1.out.size;generalize w7.setRow w1.heap.size #[.slice A1 n1 d1,.slice A2 n2 d2,.slice A3 n3 d3,k0,k1,k2,k3,k4,k5,k6,k7,k8,k9,k10,k11,k12,k13,.slice Ab nb cb,.slice Ao no co,.int .i64 hh,.int .i64 pp]=w2 at*;generalize w1.heap.size=P at*;clear HXP HK1 HB7 hz7 hk hzz HTT1 HB1;have HBW:Hid (Below w.heap.size w w2):=((qC w.heap.size w).alloc (qD _) _).trans (HB2.out.mono (by simp));clear HB2 HCS HBS HOS;go_upto_region 2 with (fail)
 have hsp:Sl (Ty.int .i64) (w2.alloc (.cells #[.int .i64 0,.int .i64 0] 3)) (all_ (w2.alloc (.cells #[.int .i64 0,.int .i64 0] 3))) (some ⟨w2.heap.size,0,none⟩) 2 2 [0,0]:=Sl.block (t:=Ty.int .i64) (xs:=[0,0]) (qK w2 (.cells #[.int .i64 0,.int .i64 0] 3)) (show w2.heap.size<_ by simp) (by decide) fun i x hi=>by
  have:i=0∨i=1:=by
   have:=(List.getElem?_eq_some_iff.1 hi).1;have:i<2:=this;omega
  rcases this with rfl|rfl <;> (injection hi with hi;subst hi;rfl)
 have HPE:=qH (people_any [0,0] _ 2 2 _ hsp);have hb2a:=(qC w2.heap.size w2).alloc (qD _) (.cells #[.int .i64 0,.int .i64 0] 3);have HB2a:=qH hb2a;clear hsp hb2a;go_upto_region 3 with (go_at_call 12;refine HPE.out.mono ?_;rintro e w3 ⟨A4,n4,c4,rfl,hs4,hb3⟩)
 have HB23:Hid (Below w2.heap.size w2 w3):=HB2a.out.trans (hb3.mono HB2a.out.size);have HS4:=qH hs4;clear HPE HB2a hs4 hb3;go_upto_region 4 with (fail)
 have hlb:=kL_sl w3;have hb34:=(qC w3.heap.size w3).alloc (qD _) (.cells #[.int .i64 1,.int .i64 0,.int .i64 30,.string ⟨#[]⟩,.int .i64 0,.int .i64 0,.int .i64 0] 59);have HS4':=qH (HS4.out.next hb34);have HB24:=qH (HB23.out.trans (hb34.mono HB23.out.size));have hle:w3.heap.size<(w3.alloc (.cells #[.int .i64 1,.int .i64 0,.int .i64 30,.string ⟨#[]⟩,.int .i64 0,.int .i64 0,.int .i64 0] 59)).heap.size:=by simp
 have HLS:Hid (Sl Ty.inc (w3.alloc (.cells #[.int .i64 1,.int .i64 0,.int .i64 30,.string ⟨#[]⟩,.int .i64 0,.int .i64 0,.int .i64 0] 59)) (all_ (w3.alloc (.cells #[.int .i64 1,.int .i64 0,.int .i64 30,.string ⟨#[]⟩,.int .i64 0,.int .i64 0,.int .i64 0] 59))) (some ⟨w3.heap.size,0,none⟩) 1 1 kL):=hlb.more fun b hb=>by show b<_;omega
 clear hlb hb34 HS4 HB23 hle;generalize w3.alloc (.cells #[.int .i64 1,.int .i64 0,.int .i64 30,.string ⟨#[]⟩,.int .i64 0,.int .i64 0,.int .i64 0] 59)=w4 at*;generalize w3.heap.size=lb at*;have HBX4:Hid (w4.heap[P]? = _):=(HB24.out.block _ (Array.getElem?_eq_some_iff.1 HBX.out).1).trans HBX.out;have HT4:Hid (Sl Ty.zone w4 (all_ w4) A1 n1 d1 kT.zones∧Sl Ty.airport w4 (all_ w4) A2 n2 d2 kT.airports∧Sl Ty.flight w4 (all_ w4) A3 n3 d3 kT.flights):=⟨HT.out.1.next HB24.out,HT.out.2.1.next HB24.out,HT.out.2.2.next HB24.out⟩
 have HBW4:Hid (Below w.heap.size w w4):=HBW.out.trans (HB24.out.mono HBW.out.size);clear HBX HT HB24 HBW;have y0:=block_cell HBX4.out 0;have y1:=block_cell HBX4.out 1;have y2:=block_cell HBX4.out 2;have HAP:=qH (apply_any kT kL A1 A2 A3 (some ⟨lb,0,none⟩) n1 n2 n3 1 d1 d2 d3 1 w4 kT_ok HT4.out.1 HT4.out.2.1 HT4.out.2.2 HLS.out (by rw[kT_len];decide) (by rw[kT_len];decide) (by decide) (show 2≤1000 by decide) (show 3≤1000 by decide) (probTT_shifts _));rw[kApply]at HAP;go_upto_region 5 with (go_at_call 19;refine HAP.out.mono ?_;rintro e w5 ⟨B1,m1,e1,B2,m2,e2,B3,m3,e3,B4,m4,e4,rfl,t1,t2,t3,t4,hb5⟩)
 have hb56:=(qC w5.heap.size w5).alloc (qD _) (.cells #[.slice B1 m1 e1,.slice B2 m2 e2,.slice B3 m3 e3] 27);have HTB:Hid ((w5.alloc (.cells #[.slice B1 m1 e1,.slice B2 m2 e2,.slice B3 m3 e3] 27)).heap[w5.heap.size]? = _):=qK _ _;have HT3:=qH (t3.next hb56);have HT4i:=qH (t4.next hb56);have HB46:=qH (hb5.trans (hb56.mono hb5.size));have hke:kA.2.2=0:=rfl;rw[hke];clear t1 t2 t3 t4 hb5 hb56 HAP y0 y1 y2 hke;generalize w5.alloc (.cells #[.slice B1 m1 e1,.slice B2 m2 e2,.slice B3 m3 e3] 27)=w6 at*;generalize w5.heap.size=tb at*;have HBX6:Hid (w6.heap[P]? = _):=(HB46.out.block _ (Array.getElem?_eq_some_iff.1 HBX4.out).1).trans HBX4.out;have HS6:=qH (HS4'.out.next HB46.out);have HL6:=qH (HLS.out.next HB46.out);have HT6:Hid (Sl Ty.zone w6 (all_ w6) A1 n1 d1 kT.zones∧Sl Ty.airport w6 (all_ w6) A2 n2 d2 kT.airports∧Sl Ty.flight w6 (all_ w6) A3 n3 d3 kT.flights):=⟨HT4.out.1.next HB46.out,HT4.out.2.1.next HB46.out,HT4.out.2.2.next HB46.out⟩
 have HBW6:Hid (Below w.heap.size w w6):=HBW4.out.trans (HB46.out.mono HBW4.out.size);clear HBX4 HS4' HLS HT4 HBW4 HB46;have y0:=block_cell HBX6.out 0;have y1:=block_cell HBX6.out 1;have y2:=block_cell HBX6.out 2;have HFO:=qH (incFormat_any kT kP kL A1 A2 A3 A4 (some ⟨lb,0,none⟩) n1 n2 n3 n4 1 d1 d2 d3 c4 1 w6 kT_ok kP_ok HT6.out.1 HT6.out.2.1 HT6.out.2.2 HS6.out HL6.out (HPW.out w6 HBW6.out));rw[kFmt]at HFO;go_upto_region 6 with (go_at_call 24;refine HFO.out.mono ?_;rintro e w8 ⟨rfl,hb8⟩)
 try simp only
 clear HFO y0 y1 y2;have HBX8:Hid (w8.heap[P]? = _):=(hb8.block _ (Array.getElem?_eq_some_iff.1 HBX6.out).1).trans HBX6.out;have HTB8:Hid (w8.heap[tb]? = _):=(hb8.block _ (Array.getElem?_eq_some_iff.1 HTB.out).1).trans HTB.out;have HS8:=qH (HS6.out.next hb8);have HL8:=qH (HL6.out.next hb8);have HT8:Hid (Sl Ty.zone w8 (all_ w8) A1 n1 d1 kT.zones∧Sl Ty.airport w8 (all_ w8) A2 n2 d2 kT.airports∧Sl Ty.flight w8 (all_ w8) A3 n3 d3 kT.flights):=⟨HT6.out.1.next hb8,HT6.out.2.1.next hb8,HT6.out.2.2.next hb8⟩
 have HBW8:Hid (Below w.heap.size w w8):=HBW6.out.trans (hb8.mono HBW6.out.size);have HN8:=qH (HT3.out.next hb8);have HI8:=qH (HT4i.out.next hb8);clear HBX6 HTB HS6 HL6 HT6 HBW6 HT3 HT4i hb8;have y0:=block_cell HBX8.out 0;have y1:=block_cell HBX8.out 1;have y2:=block_cell HBX8.out 2;have HPA:=qH (incParse_any kT kP (incS kT kL) A1 A2 A3 A4 n1 n2 n3 n4 d1 d2 d3 c4 w8 kT_ok kP_ok HT8.out.1 HT8.out.2.1 HT8.out.2.2 HS8.out (by have:=incS_size kInc;unfold maxLen;omega) (HGL.out w8 HBW8.out));rw[kParse]at HPA;generalize incS kT kL=txt at*;go_upto_region 7 with (go_at_call 26;refine HPA.out.mono ?_;rintro e w9 ⟨Ax,nx,cx,rfl,hsx,hb9⟩)
 try simp only
 clear HPA y0 y1 y2;have HBX9:Hid (w9.heap[P]? = _):=(hb9.block _ (Array.getElem?_eq_some_iff.1 HBX8.out).1).trans HBX8.out;have HTB9:Hid (w9.heap[tb]? = _):=(hb9.block _ (Array.getElem?_eq_some_iff.1 HTB8.out).1).trans HTB8.out;have HL9:=qH (HL8.out.next hb9);have HF9:=qH (HT8.out.2.2.next hb9);have HB6:Hid (Below w.heap.size w w9):=HBW8.out.trans (hb9.mono HBW8.out.size);have HN9:=HN8.out.next hb9;have HI9:=HI8.out.next hb9;have HX9:=qH hsx;clear HBX8 HTB8 HS8 HL8 HT8 HBW8 HN8 HI8 hb9 HPW HGL;have hnx:nx=1:=hsx.len;subst hnx;have HSI:Hid (∀ V,Below w9.heap.size w9 V→Calls Tryz.prog 27 #[.slice Ax 1 cx,.slice (some ⟨lb,0,none⟩) 1 1] V (TruePost V)):=fun V hV=>sameIncs_any kL Ax (some ⟨lb,0,none⟩) 1 1 cx 1 V (HX9.out.next hV) (HL9.out.next hV)
 obtain⟨ff,gg,hfg,hdep⟩:=kA_flights;rw[hfg]at HN9;rw[kA_index]at HI9;have hm3:m3=2:=HN9.len;have hm4:m4=2:=HI9.len;have hn3:n3=2:=by have:=HF9.out.len;rw[kT_len]at this;exact this
 subst hm3 hm4 hn3;obtain⟨ib,io,rfl, -,hyi⟩:=HI9.int_at (k:=0) (by decide);obtain⟨nb2,no2,rfl, -,hyn⟩:=HN9.flight_at (k:=0) (show 0<2 by decide);obtain⟨fb,fo,rfl, -,hyf⟩:=HF9.out.flight_at (k:=0) (by rw[kT_len];decide);have HYI:Hid (w9.cell? ⟨ib,io,none⟩=some (.int .i64 0)):=hyi;obtain⟨d0,hd0⟩ : ∃ d,(kT.flights.getD 0 noFlight).dep=d:=⟨_,rfl⟩
 have hd1:d0=12960360:=by rw[←hd0];rfl
 have HYN:Hid (w9.cell? ⟨nb2,no2+3,none⟩=some (.int .i64 (d0+30))):=by
  have h9:=hyn 3 _ rfl;have e9:([ff,gg].getD 0 noFlight).dep=d0+30:=by rw[←hd0, ←hdep];rfl
  rw[e9,Nat.zero_mul,Nat.add_zero]at h9;exact h9
 have HYF:Hid (w9.cell? ⟨fb,fo+3,none⟩=some (.int .i64 d0)):=by
  have h9:=hyf 3 _ rfl;rw[hd0,Nat.zero_mul,Nat.add_zero]at h9;exact h9
 have HYT:Hid (w9.cell? ⟨tb,2,none⟩=some (.slice (some ⟨nb2,no2,none⟩) 2 e3)):=block_cell HTB9.out 2;have HYP:Hid (w9.cell? ⟨P,2,none⟩=some (.slice (some ⟨fb,fo,none⟩) 2 d3)):=block_cell HBX9.out 2;have HQ:Hid (IntKind.i64.wrap (d0+30)=d0+30):=qM _ (by omega);clear hyi hyn hyf hfg hdep hd0 hd1 HN9 HI9 HF9 HBX9 HTB9 HX9 HL9 hsx;refine wp_region_factsG 47 [43,44,45,46,47,48,49,50,51,52,53,54,55,56,57,58,59,60,61,62,63,64,65,66,67,68,69,70,71,72,73,74,75,76,77,78,79,80,81,82,83,84,85,86,87,88,89] (fun i v x=>(([(fun v x=>v=.int .i64 0),(fun v x=>v=.bool true),(fun v x=>v=.bool true),(fun v x=>v=.int .i64 0),(fun v x=>v=.bool true),(fun v x=>v=.bool true),(fun v x=>v=.bool true),(fun v x=>v=.int .i64 0),(fun v x=>v=.bool true),(fun v x=>v=.bool true),(fun v x=>v=.bool true),(fun v x=>v=.slice (some ⟨ib,io,none⟩) 2 e4),(fun v x=>v=.int .i64 2),(fun v x=>v=.bool true),(fun v x=>v=.bool true),(fun v x=>v=.bool true),(fun v x=>v=.slice (some ⟨ib,io,none⟩) 2 e4),(fun v x=>v=.pointer (some ⟨ib,io,none⟩)),(fun v x=>v=.int .i64 0),(fun v x=>v=.bool true),(fun v x=>v=.bool true),(fun v x=>v=.bool true),(fun v x=>v=.pointer (some ⟨tb,2,none⟩)),(fun v x=>v=.slice (some ⟨nb2,no2,none⟩) 2 e3),(fun v x=>v=.int .i64 2),(fun v x=>v=.bool true),(fun v x=>v=.bool true),(fun v x=>v=.bool true),(fun v x=>v=.pointer (some ⟨tb,2,none⟩)),(fun v x=>v=.slice (some ⟨nb2,no2,none⟩) 2 e3),(fun v x=>v=.pointer (some ⟨nb2,no2,none⟩)),(fun v x=>v=.pointer (some ⟨nb2,no2+3,none⟩)),(fun v x=>v=.int .i64 (d0+30)),(fun v x=>v=.pointer (some ⟨P,0,none⟩)),(fun v x=>v=.pointer (some ⟨P,2,none⟩)),(fun v x=>v=.slice (some ⟨fb,fo,none⟩) 2 d3),(fun v x=>v=.pointer (some ⟨fb,fo,none⟩)),(fun v x=>v=.pointer (some ⟨fb,fo+3,none⟩)),(fun v x=>v=.int .i64 d0),(fun v x=>v=.int .i64 (d0+30)),(fun v x=>v=.bool true),(fun v x=>v=.bool true),(fun v x=>v=.bool true),(fun v x=>v=.slice Ax 1 cx),(fun v x=>v=.slice (some ⟨lb,0,none⟩) 1 1),(fun v x=>v=.bool true),(fun v x=>v=.bool true)]:List (Value→World→Prop)).getD i (fun _ _=>True)) v x) (by kernel_rfl) (by kernel_rfl) (by kernel_rfl) (by kernel_rfl) (by kernel_rfl) ?_ ?_ ?_ ?_
 ·intro i o' j b hi ho hg v x hf;have hi':i=0∨i=1∨i=2∨i=3∨i=4∨i=5∨i=6∨i=7∨i=8∨i=9∨i=10∨i=11∨i=12∨i=13∨i=14∨i=15∨i=16∨i=17∨i=18∨i=19∨i=20∨i=21∨i=22∨i=23∨i=24∨i=25∨i=26∨i=27∨i=28∨i=29∨i=30∨i=31∨i=32∨i=33∨i=34∨i=35∨i=36∨i=37∨i=38∨i=39∨i=40∨i=41∨i=42∨i=43∨i=44∨i=45∨i=46:=by omega
  rcases hi' with rfl|rfl|rfl|rfl|rfl|rfl|rfl|rfl|rfl|rfl|rfl|rfl|rfl|rfl|rfl|rfl|rfl|rfl|rfl|rfl|rfl|rfl|rfl|rfl|rfl|rfl|rfl|rfl|rfl|rfl|rfl|rfl|rfl|rfl|rfl|rfl|rfl|rfl|rfl|rfl|rfl|rfl|rfl|rfl|rfl|rfl|rfl
  all_goals
   obtain rfl:=qB ho
   first
   | (cases hg;done)
   | (injection hg with hg;injection hg with e1 e2;subst e1 e2;exact hf)
 ·intro i v x x' h hx;rcases Nat.lt_or_ge i 47 with hi|hi
  ·have hi':i=0∨i=1∨i=2∨i=3∨i=4∨i=5∨i=6∨i=7∨i=8∨i=9∨i=10∨i=11∨i=12∨i=13∨i=14∨i=15∨i=16∨i=17∨i=18∨i=19∨i=20∨i=21∨i=22∨i=23∨i=24∨i=25∨i=26∨i=27∨i=28∨i=29∨i=30∨i=31∨i=32∨i=33∨i=34∨i=35∨i=36∨i=37∨i=38∨i=39∨i=40∨i=41∨i=42∨i=43∨i=44∨i=45∨i=46:=by omega
   rcases hi' with rfl|rfl|rfl|rfl|rfl|rfl|rfl|rfl|rfl|rfl|rfl|rfl|rfl|rfl|rfl|rfl|rfl|rfl|rfl|rfl|rfl|rfl|rfl|rfl|rfl|rfl|rfl|rfl|rfl|rfl|rfl|rfl|rfl|rfl|rfl|rfl|rfl|rfl|rfl|rfl|rfl|rfl|rfl|rfl|rfl|rfl|rfl <;> exact h
  ·rw[qF,List.getElem?_eq_none (by simpa using hi)];trivial
 ·intro q o' hq ho a' w' hb' hout hpre K hK;have hq':q=0∨q=1∨q=2∨q=3∨q=4∨q=5∨q=6∨q=7∨q=8∨q=9∨q=10∨q=11∨q=12∨q=13∨q=14∨q=15∨q=16∨q=17∨q=18∨q=19∨q=20∨q=21∨q=22∨q=23∨q=24∨q=25∨q=26∨q=27∨q=28∨q=29∨q=30∨q=31∨q=32∨q=33∨q=34∨q=35∨q=36∨q=37∨q=38∨q=39∨q=40∨q=41∨q=42∨q=43∨q=44∨q=45∨q=46:=by omega
  rcases hq' with rfl|rfl|rfl|rfl|rfl|rfl|rfl|rfl|rfl|rfl|rfl|rfl|rfl|rfl|rfl|rfl|rfl|rfl|rfl|rfl|rfl|rfl|rfl|rfl|rfl|rfl|rfl|rfl|rfl|rfl|rfl|rfl|rfl|rfl|rfl|rfl|rfl|rfl|rfl|rfl|rfl|rfl|rfl|rfl|rfl|rfl|rfl
  ·obtain rfl:=qB ho;have e6:a'.tmps[6]? = some (.int .i64 0):=hout 6 (by decide);go_simp
   exact hK (.int .i64 0) w' rfl (qC _ _)
  ·obtain rfl:=qB ho;have p0:a'.tmps.getD 43 undef=.int .i64 0:=hpre ⟨0,.data⟩ (by simp) 43 rfl;simp only[qA]at p0;go_simp
   exact hK (.bool true) w' rfl (qC _ _)
  ·obtain rfl:=qB ho;have p1:a'.tmps.getD 44 undef=.bool true:=hpre ⟨1,.data⟩ (by simp) 44 rfl;simp only[qA]at p1;go_simp
   exact hK (.bool true) w' rfl (qC _ _)
  ·obtain rfl:=qB ho;have e8:a'.tmps[8]? = some (.int .i64 0):=hout 8 (by decide);go_simp
   exact hK (.int .i64 0) w' rfl (qC _ _)
  ·obtain rfl:=qB ho;have p3:a'.tmps.getD 46 undef=.int .i64 0:=hpre ⟨3,.data⟩ (by simp) 46 rfl;simp only[qA]at p3;go_simp
   exact hK (.bool true) w' rfl (qC _ _)
  ·obtain rfl:=qB ho;have p2:a'.tmps.getD 45 undef=.bool true:=hpre ⟨2,.data⟩ (by simp) 45 rfl;simp only[qA]at p2;have p4:a'.tmps.getD 47 undef=.bool true:=hpre ⟨4,.data⟩ (by simp) 47 rfl;simp only[qA]at p4;go_simp
   exact hK (.bool true) w' rfl (qC _ _)
  ·obtain rfl:=qB ho;have p5:a'.tmps.getD 48 undef=.bool true:=hpre ⟨5,.data⟩ (by simp) 48 rfl;simp only[qA]at p5;go_simp
   exact hK (.bool true) w' rfl (qC _ _)
  ·obtain rfl:=qB ho;have e11:a'.tmps[11]? = some (.int .i64 0):=hout 11 (by decide);go_simp
   exact hK (.int .i64 0) w' rfl (qC _ _)
  ·obtain rfl:=qB ho;have p7:a'.tmps.getD 50 undef=.int .i64 0:=hpre ⟨7,.data⟩ (by simp) 50 rfl;simp only[qA]at p7;go_simp
   exact hK (.bool true) w' rfl (qC _ _)
  ·obtain rfl:=qB ho;have p6:a'.tmps.getD 49 undef=.bool true:=hpre ⟨6,.data⟩ (by simp) 49 rfl;simp only[qA]at p6;have p8:a'.tmps.getD 51 undef=.bool true:=hpre ⟨8,.data⟩ (by simp) 51 rfl;simp only[qA]at p8;go_simp
   exact hK (.bool true) w' rfl (qC _ _)
  ·obtain rfl:=qB ho;have p9:a'.tmps.getD 52 undef=.bool true:=hpre ⟨9,.data⟩ (by simp) 52 rfl;simp only[qA]at p9;go_simp
   exact hK (.bool true) w' rfl (qC _ _)
  ·obtain rfl:=qB ho;have e5:a'.tmps[5]? = some (.slice (some ⟨ib,io,none⟩) 2 e4):=hout 5 (by decide);go_simp
   exact hK (.slice (some ⟨ib,io,none⟩) 2 e4) w' rfl (qC _ _)
  ·obtain rfl:=qB ho;have p11:a'.tmps.getD 54 undef=.slice (some ⟨ib,io,none⟩) 2 e4:=hpre ⟨11,.data⟩ (by simp) 54 rfl;simp only[qA]at p11;go_simp
   exact hK (.int .i64 2) w' rfl (qC _ _)
  ·obtain rfl:=qB ho;have p12:a'.tmps.getD 55 undef=.int .i64 2:=hpre ⟨12,.data⟩ (by simp) 55 rfl;simp only[qA]at p12;go_simp
   exact hK (.bool true) w' rfl (qC _ _)
  ·obtain rfl:=qB ho;have p10:a'.tmps.getD 53 undef=.bool true:=hpre ⟨10,.data⟩ (by simp) 53 rfl;simp only[qA]at p10;have p13:a'.tmps.getD 56 undef=.bool true:=hpre ⟨13,.data⟩ (by simp) 56 rfl;simp only[qA]at p13;go_simp
   exact hK (.bool true) w' rfl (qC _ _)
  ·obtain rfl:=qB ho;have p14:a'.tmps.getD 57 undef=.bool true:=hpre ⟨14,.data⟩ (by simp) 57 rfl;simp only[qA]at p14;go_simp
   exact hK (.bool true) w' rfl (qC _ _)
  ·obtain rfl:=qB ho;have e5:a'.tmps[5]? = some (.slice (some ⟨ib,io,none⟩) 2 e4):=hout 5 (by decide);go_simp
   exact hK (.slice (some ⟨ib,io,none⟩) 2 e4) w' rfl (qC _ _)
  ·obtain rfl:=qB ho;have p16:a'.tmps.getD 59 undef=.slice (some ⟨ib,io,none⟩) 2 e4:=hpre ⟨16,.data⟩ (by simp) 59 rfl;simp only[qA]at p16;go_simp
   exact hK (.pointer (some ⟨ib,io,none⟩)) w' rfl (qC _ _)
  ·obtain rfl:=qB ho;have p17:a'.tmps.getD 60 undef=.pointer (some ⟨ib,io,none⟩):=hpre ⟨17,.data⟩ (by simp) 60 rfl;simp only[qA]at p17;have hc:=cell_kept HYI.out hb';go_simp
   exact hK (.int .i64 0) w' rfl (qC _ _)
  ·obtain rfl:=qB ho;have p18:a'.tmps.getD 61 undef=.int .i64 0:=hpre ⟨18,.data⟩ (by simp) 61 rfl;simp only[qA]at p18;go_simp
   exact hK (.bool true) w' rfl (qC _ _)
  ·obtain rfl:=qB ho;have p15:a'.tmps.getD 58 undef=.bool true:=hpre ⟨15,.data⟩ (by simp) 58 rfl;simp only[qA]at p15;have p19:a'.tmps.getD 62 undef=.bool true:=hpre ⟨19,.data⟩ (by simp) 62 rfl;simp only[qA]at p19;go_simp
   exact hK (.bool true) w' rfl (qC _ _)
  ·obtain rfl:=qB ho;have p20:a'.tmps.getD 63 undef=.bool true:=hpre ⟨20,.data⟩ (by simp) 63 rfl;simp only[qA]at p20;go_simp
   exact hK (.bool true) w' rfl (qC _ _)
  ·obtain rfl:=qB ho;have e4:a'.tmps[4]? = some (.pointer (some ⟨tb,0,none⟩)):=hout 4 (by decide);go_simp
   exact hK (.pointer (some ⟨tb,2,none⟩)) w' rfl (qC _ _)
  ·obtain rfl:=qB ho;have p22:a'.tmps.getD 65 undef=.pointer (some ⟨tb,2,none⟩):=hpre ⟨22,.data⟩ (by simp) 65 rfl;simp only[qA]at p22;have hc:=cell_kept HYT.out hb';go_simp
   exact hK (.slice (some ⟨nb2,no2,none⟩) 2 e3) w' rfl (qC _ _)
  ·obtain rfl:=qB ho;have p23:a'.tmps.getD 66 undef=.slice (some ⟨nb2,no2,none⟩) 2 e3:=hpre ⟨23,.data⟩ (by simp) 66 rfl;simp only[qA]at p23;go_simp
   exact hK (.int .i64 2) w' rfl (qC _ _)
  ·obtain rfl:=qB ho;have p24:a'.tmps.getD 67 undef=.int .i64 2:=hpre ⟨24,.data⟩ (by simp) 67 rfl;simp only[qA]at p24;go_simp
   exact hK (.bool true) w' rfl (qC _ _)
  ·obtain rfl:=qB ho;have p21:a'.tmps.getD 64 undef=.bool true:=hpre ⟨21,.data⟩ (by simp) 64 rfl;simp only[qA]at p21;have p25:a'.tmps.getD 68 undef=.bool true:=hpre ⟨25,.data⟩ (by simp) 68 rfl;simp only[qA]at p25;go_simp
   exact hK (.bool true) w' rfl (qC _ _)
  ·obtain rfl:=qB ho;have p26:a'.tmps.getD 69 undef=.bool true:=hpre ⟨26,.data⟩ (by simp) 69 rfl;simp only[qA]at p26;go_simp
   exact hK (.bool true) w' rfl (qC _ _)
  ·obtain rfl:=qB ho;have e4:a'.tmps[4]? = some (.pointer (some ⟨tb,0,none⟩)):=hout 4 (by decide);go_simp
   exact hK (.pointer (some ⟨tb,2,none⟩)) w' rfl (qC _ _)
  ·obtain rfl:=qB ho;have p28:a'.tmps.getD 71 undef=.pointer (some ⟨tb,2,none⟩):=hpre ⟨28,.data⟩ (by simp) 71 rfl;simp only[qA]at p28;have hc:=cell_kept HYT.out hb';go_simp
   exact hK (.slice (some ⟨nb2,no2,none⟩) 2 e3) w' rfl (qC _ _)
  ·obtain rfl:=qB ho;have p29:a'.tmps.getD 72 undef=.slice (some ⟨nb2,no2,none⟩) 2 e3:=hpre ⟨29,.data⟩ (by simp) 72 rfl;simp only[qA]at p29;go_simp
   exact hK (.pointer (some ⟨nb2,no2,none⟩)) w' rfl (qC _ _)
  ·obtain rfl:=qB ho;have p30:a'.tmps.getD 73 undef=.pointer (some ⟨nb2,no2,none⟩):=hpre ⟨30,.data⟩ (by simp) 73 rfl;simp only[qA]at p30;go_simp
   exact hK (.pointer (some ⟨nb2,no2+3,none⟩)) w' rfl (qC _ _)
  ·obtain rfl:=qB ho;have p31:a'.tmps.getD 74 undef=.pointer (some ⟨nb2,no2+3,none⟩):=hpre ⟨31,.data⟩ (by simp) 74 rfl;simp only[qA]at p31;have hc:=cell_kept HYN.out hb';go_simp
   exact hK (.int .i64 (d0+30)) w' rfl (qC _ _)
  ·obtain rfl:=qB ho;have e1:a'.tmps[1]? = some (.pointer (some ⟨P,0,none⟩)):=hout 1 (by decide);go_simp
   exact hK (.pointer (some ⟨P,0,none⟩)) w' rfl (qC _ _)
  ·obtain rfl:=qB ho;have p33:a'.tmps.getD 76 undef=.pointer (some ⟨P,0,none⟩):=hpre ⟨33,.data⟩ (by simp) 76 rfl;simp only[qA]at p33;go_simp
   exact hK (.pointer (some ⟨P,2,none⟩)) w' rfl (qC _ _)
  ·obtain rfl:=qB ho;have p34:a'.tmps.getD 77 undef=.pointer (some ⟨P,2,none⟩):=hpre ⟨34,.data⟩ (by simp) 77 rfl;simp only[qA]at p34;have hc:=cell_kept HYP.out hb';go_simp
   exact hK (.slice (some ⟨fb,fo,none⟩) 2 d3) w' rfl (qC _ _)
  ·obtain rfl:=qB ho;have p35:a'.tmps.getD 78 undef=.slice (some ⟨fb,fo,none⟩) 2 d3:=hpre ⟨35,.data⟩ (by simp) 78 rfl;simp only[qA]at p35;go_simp
   exact hK (.pointer (some ⟨fb,fo,none⟩)) w' rfl (qC _ _)
  ·obtain rfl:=qB ho;have p36:a'.tmps.getD 79 undef=.pointer (some ⟨fb,fo,none⟩):=hpre ⟨36,.data⟩ (by simp) 79 rfl;simp only[qA]at p36;go_simp
   exact hK (.pointer (some ⟨fb,fo+3,none⟩)) w' rfl (qC _ _)
  ·obtain rfl:=qB ho;have p37:a'.tmps.getD 80 undef=.pointer (some ⟨fb,fo+3,none⟩):=hpre ⟨37,.data⟩ (by simp) 80 rfl;simp only[qA]at p37;have hc:=cell_kept HYF.out hb';go_simp
   exact hK (.int .i64 d0) w' rfl (qC _ _)
  ·obtain rfl:=qB ho;have p38:a'.tmps.getD 81 undef=.int .i64 d0:=hpre ⟨38,.data⟩ (by simp) 81 rfl;simp only[qA]at p38;have hq:=HQ.out;go_simp
   exact hK (.int .i64 (d0+30)) w' rfl (qC _ _)
  ·obtain rfl:=qB ho;have p32:a'.tmps.getD 75 undef=.int .i64 (d0+30):=hpre ⟨32,.data⟩ (by simp) 75 rfl;simp only[qA]at p32;have p39:a'.tmps.getD 82 undef=.int .i64 (d0+30):=hpre ⟨39,.data⟩ (by simp) 82 rfl;simp only[qA]at p39;go_simp
   exact hK (.bool true) w' rfl (qC _ _)
  ·obtain rfl:=qB ho;have p27:a'.tmps.getD 70 undef=.bool true:=hpre ⟨27,.data⟩ (by simp) 70 rfl;simp only[qA]at p27;have p40:a'.tmps.getD 83 undef=.bool true:=hpre ⟨40,.data⟩ (by simp) 83 rfl;simp only[qA]at p40;go_simp
   exact hK (.bool true) w' rfl (qC _ _)
  ·obtain rfl:=qB ho;have p41:a'.tmps.getD 84 undef=.bool true:=hpre ⟨41,.data⟩ (by simp) 84 rfl;simp only[qA]at p41;go_simp
   exact hK (.bool true) w' rfl (qC _ _)
  ·obtain rfl:=qB ho;have e9:a'.tmps[9]? = some (.slice Ax 1 cx):=hout 9 (by decide);go_simp
   exact hK (.slice Ax 1 cx) w' rfl (qC _ _)
  ·obtain rfl:=qB ho;have e3:a'.tmps[3]? = some (.slice (some ⟨lb,0,none⟩) 1 1):=hout 3 (by decide);go_simp
   exact hK (.slice (some ⟨lb,0,none⟩) 1 1) w' rfl (qC _ _)
  ·obtain rfl:=qB ho;have p43:a'.tmps.getD 86 undef=.slice Ax 1 cx:=hpre ⟨43,.data⟩ (by simp) 86 rfl;simp only[qA]at p43;have p44:a'.tmps.getD 87 undef=.slice (some ⟨lb,0,none⟩) 1 1:=hpre ⟨44,.data⟩ (by simp) 87 rfl;simp only[qA]at p44;go_simp
   go_at_call 27
   refine(HSI.out w' hb').mono ?_;rintro e w'' ⟨rfl,hb''⟩;exact hK _ _ rfl hb''
  ·obtain rfl:=qB ho;have p42:a'.tmps.getD 85 undef=.bool true:=hpre ⟨42,.data⟩ (by simp) 85 rfl;simp only[qA]at p42;have p45:a'.tmps.getD 88 undef=.bool true:=hpre ⟨45,.data⟩ (by simp) 88 rfl;simp only[qA]at p45;go_simp
   exact hK (.bool true) w' rfl (qC _ _)
 ·intro us w' hb' hfacts;have h46:us 46=.bool true:=hfacts 46 (by decide);clear hfacts;simp only[putL,Act.put,List.setIfInBounds_toArray,List.set_cons_zero,List.set_cons_succ,Nat.zero_add,Nat.reduceAdd];generalize us 46=x46 at*;subst h46;simp only[List.drop_succ_cons,List.drop_zero];have HF:Hid (Below w.heap.size w w'):=HB6.out.trans (hb'.mono HB6.out.size);clear hb';go_wp2_with fail
  go_ret
  exact⟨rfl,HF.out⟩
end
end Go.Proofs.YtifconapjfdkcaaGreatDoor
