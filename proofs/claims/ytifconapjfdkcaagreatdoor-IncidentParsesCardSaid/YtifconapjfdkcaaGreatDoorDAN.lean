/-
  Joined texts: InsText; IncText. What each proves stands ahead of it, with its conditions.
-/
import Derived.Test.YtifconapjfdkcaaGreatDoorDAA
import Derived.Test.YtifconapjfdkcaaGreatDoorDAM
import Derived.Test.YtifconapjfdkcaaGreatDoorDAB
import Derived.Test.YtifconapjfdkcaaGreatDoorDAL
set_option linter.unusedSimpArgs false
set_option linter.unusedVariables false
set_option maxRecDepth 100000
set_option maxHeartbeats 12800000
namespace Go.Proofs.YtifconapjfdkcaaGreatDoor
section
open Go.RowKit
theorem sum_find{f:Nat→Int}{x:Int} : ∀ {n:Nat},0≤x→x<sumTo f n → ∃ k,k<n∧sumTo f k≤x∧x<sumTo f (k+1):=by
 intro n
 induction n with
 | zero=>intro h0 h1;simp[sumTo]at h1;omega
 | succ n ih =>
  intro h0 h1
  by_cases h:x<sumTo f n
  ·obtain⟨k,hk,a,b⟩:=ih h0 h;exact⟨k,by omega,a,b⟩
  ·exact⟨n,by omega,by omega,h1⟩
theorem yearSum_all:yearSum 102=37255:=by decide +kernel
theorem day_ex{day:Int}(h0:0≤day)(h1:day≤36889) : ∃ y m d,validB y m d=true∧dayB y m d=day:=by
 obtain⟨k,hk,a,b⟩:=sum_find (f:=fun i=>yDays (1999+i)) (x:=day+365) (n:=102) (by omega) (by have:=yearSum_all;unfold yearSum at this;omega);have b':day+365<sumTo (fun i=>yDays (1999+i)) k+yDays (1999+k):=b;have e:=monSum_year (1999+k);obtain⟨j,hj,c,d⟩:=sum_find (f:=fun i=>mDays (1999+k) (1+i)) (x:=day+365-sumTo (fun i=>yDays (1999+i)) k) (n:=12) (by omega) (by unfold monSum at e;omega);have d':day+365-sumTo (fun i=>yDays (1999+i)) k<sumTo (fun i=>mDays (1999+k) (1+i)) j+mDays (1999+k) (1+j):=d;refine⟨1999+k,1+j,day+365-sumTo (fun i=>yDays (1999+i)) k-sumTo (fun i=>mDays (1999+k) (1+i)) j+1,validB_iff.2 ⟨by omega,by omega,by omega,by omega⟩, ?_⟩;unfold dayB yearSum monSum;have e1:(1999+(k:Int)-1999).toNat=k:=by omega
 have e2:(1+(j:Int)-1).toNat=j:=by omega
 rw[e1,e2];omega
noncomputable def insD(t:Int):ByteArray:=open Classical in if h : ∃ x:Int×Int×Int,validB x.1 x.2.1 x.2.2=true∧dayB x.1 x.2.1 x.2.2=t/1440 then fmtDate h.choose.1 h.choose.2.1 h.choose.2.2 else (⟨#[]⟩:ByteArray)
noncomputable def insC(t:Int):ByteArray:=fmtClock (t%1440)
theorem ins_is{t:Int}(h0:0≤t)(h1:t<52596000):IsIns t (insD t++blankS++insC t):=by
 obtain⟨y,m,d,a,b⟩:=day_ex (day:=t/1440) (by omega) (by omega);have h : ∃ x:Int×Int×Int,validB x.1 x.2.1 x.2.2=true∧dayB x.1 x.2.1 x.2.2=t/1440:=⟨(y,m,d),a,b⟩
 refine⟨h.choose.1,h.choose.2.1,h.choose.2.2,h.choose_spec.1,h.choose_spec.2, ?_⟩;unfold insD insC;rw[dif_pos h]
theorem IsIns.eqT{t:Int}{s:ByteArray}(h:IsIns t s)(h0:0≤t)(h1:t<52596000):s=insD t++blankS++insC t:=h.eq (ins_is h0 h1)
theorem dgt_fld{n:Nat}(h:n<10):33≤(dgt n).toNat∧(dgt n).toNat≤126∧dgt n≠35:=by
 have:=dgt_nat h;refine⟨by omega,by omega,fun e =>?_⟩;rw[e]at this;have h35:(35:UInt8).toNat=35:=rfl;omega
theorem fld_of{l:List UInt8}(hne:l≠[])(h : ∀ b∈l,33≤b.toNat∧b.toNat≤126∧b≠35):fldOk (bs l):=⟨hne,h⟩
theorem insD_fld{t:Int}(h0:0≤t)(h1:t<52596000):fldOk (insD t)∧(insD t).size=10:=by
 obtain⟨y,m,d,a,b,e⟩:=ins_is h0 h1;have e':insD t=fmtDate y m d:=by
  have h : ∃ x:Int×Int×Int,validB x.1 x.2.1 x.2.2=true∧dayB x.1 x.2.1 x.2.2=t/1440:=⟨(y,m,d),a,b⟩
  unfold insD;rw[dif_pos h];obtain⟨q1,q2,q3⟩:=dayB_inj h.choose_spec.1 a (h.choose_spec.2.trans b.symm);rw[q1,q2,q3]
 obtain⟨v1,v2,v3,v4⟩:=validB_iff.1 a;have v5:=mDays_bd y m;have p1:=pad4 (n:=y.toNat) (by omega) (by omega);have p2:=pad2 (n:=m.toNat) (by omega);have p3:=pad2 (n:=d.toNat) (by omega);rw[show((y.toNat:Nat):Int)=y by omega]at p1;rw[show((m.toNat:Nat):Int)=m by omega]at p2;rw[show((d.toNat:Nat):Int)=d by omega]at p3;have e2:insD t=bs ([dgt (y.toNat/1000),dgt (y.toNat/100%10),dgt (y.toNat/10%10),dgt (y.toNat%10),45,dgt (m.toNat/10),dgt (m.toNat%10),45,dgt (d.toNat/10),dgt (d.toNat%10)]):=by
  rw[e'];unfold fmtDate;rw[p1,p2,p3];show bs _++bs [45]++bs _++bs [45]++bs _=_;simp only[bs_app];rfl
 rw[e2];refine⟨fld_of (by simp) fun c hc =>?_,by rw[bs_size];rfl⟩;simp only[List.mem_cons,List.not_mem_nil,or_false]at hc;rcases hc with rfl|rfl|rfl|rfl|rfl|rfl|rfl|rfl|rfl|rfl
 all_goals first|exact dgt_fld (by omega)|decide
theorem insC_fld{t:Int}:fldOk (insC t)∧(insC t).size=5:=by
 unfold insC fmtClock;have p2:=pad2 (n:=(t%1440/60).toNat) (by omega);have p3:=pad2 (n:=(t%1440%60).toNat) (by omega);rw[show(((t%1440/60).toNat:Nat):Int)=t%1440/60 by omega]at p2;rw[show(((t%1440%60).toNat:Nat):Int)=t%1440%60 by omega]at p3;rw[p2,p3];have e:bs [dgt ((t%1440/60).toNat/10),dgt ((t%1440/60).toNat%10)]++colS++bs [dgt ((t%1440%60).toNat/10),dgt ((t%1440%60).toNat%10)]=bs [dgt ((t%1440/60).toNat/10),dgt ((t%1440/60).toNat%10),58,dgt ((t%1440%60).toNat/10),dgt ((t%1440%60).toNat%10)]:=by
  show bs _++bs [58]++bs _=_;simp only[bs_app];rfl
 rw[e];refine⟨fld_of (by simp) fun c hc =>?_,by rw[bs_size];rfl⟩;simp only[List.mem_cons,List.not_mem_nil,or_false]at hc;rcases hc with rfl|rfl|rfl|rfl|rfl
 all_goals first|exact dgt_fld (by omega)|decide
theorem ins_read{t:Int}(h0:0≤t)(h1:t<52596000):insB (insD t++spS++insC t)=(t,0):=(ins_is h0 h1).back h0 h1
theorem numS_fld{n:Int}(h0:0≤n):fldOk (numS n):=by
 unfold numS;rw[Lib.itoa,qN (by omega)];obtain⟨h1,_,_⟩:=dec_facts n.toNat;refine fld_of (fun e=>by have:=dec_pos n.toNat;rw[e]at this;simp at this) fun b hb =>?_
 obtain⟨i,hi,rfl⟩:=List.getElem_of_mem hb;have:=h1 i hi;unfold digAt numberI byteAt at this;rw[bs_data,qF,qG hi]at this;simp only[Option.getD_some,qI,qL]at this;refine⟨by omega,by omega,fun e =>?_⟩;rw[e]at this;have h35:(35:UInt8).toNat=35:=rfl;omega
theorem bytes_fld{s:ByteArray}(h1:1≤s.size)(h : ∀ i,i<s.size→36≤byteAt s i∧byteAt s i≤126):fldOk s:=by
 refine⟨fun e=>by rw[Lib.size_eq,e]at h1;simp at h1,fun b hb =>?_⟩;obtain⟨i,hi,rfl⟩:=List.getElem_of_mem hb;have:=h i (by rw[Lib.size_eq];exact hi);unfold byteAt at this;rw[qF,qG hi]at this;simp only[Option.getD_some]at this;refine⟨by omega,by omega,fun e =>?_⟩;rw[e]at this;have h35:(35:UInt8).toNat=35:=rfl;omega
theorem name_fld{s:ByteArray}(h:isNameB s=true):fldOk s:=by
 unfold isNameB at h;simp only[qI,qL]at h;obtain⟨⟨h1,h2⟩,h3⟩:=h;refine bytes_fld h1 fun i hi =>?_
 have:=allTo_iff.1 h3 i hi;unfold nmAt lowerI numberI at this;simp only[Bool.or_eq_true,qI,qL,beq_iff_eq]at this;omega
theorem airport_fld{s:ByteArray}(h:isAirportB s=true):fldOk s:=by
 unfold isAirportB at h;simp only[qI,beq_iff_eq]at h;refine bytes_fld (by omega) fun i hi =>?_
 have:=allTo_iff.1 h.2 i hi;unfold upAt upperI at this;simp only[qI,qL]at this;omega
end
section
open Go Go.RowKit
def delayS:ByteArray:=⟨#[100,101,108,97,121]⟩
def cancelS:ByteArray:=⟨#[99,97,110,99,101,108]⟩
def divertS:ByteArray:=⟨#[100,105,118,101,114,116]⟩
def sickS:ByteArray:=⟨#[115,105,99,107]⟩
def flAt:List GFlight→ByteArray→Int→Option Nat
 | [],_,_=>none
 | f::l,n,d=>if f.number=n∧f.dep=d then some 0 else (flAt l n d).map (· + 1)
theorem flAt_first : ∀ {l:List GFlight} {k:Nat} (hk:k<l.length) (h : ∀ j,j<k → ¬((l.getD j noFlight).number=(l.getD k noFlight).number∧(l.getD j noFlight).dep=(l.getD k noFlight).dep)),
 flAt l (l.getD k noFlight).number (l.getD k noFlight).dep=some k
 | f::l,0,_,_=>by simp[flAt]
 | f::l,k+1,hk,h=>by
  have h0:=h 0 (by omega);have ih:=flAt_first (l:=l) (k:=k) (by simpa using hk) fun j hj=>by
   have:=h (j+1) (by omega);simpa using this
  simp only[List.getD_cons_succ,List.getD_cons_zero]at h0 ⊢;rw[flAt,qN h0,ih];rfl
def insI(f:List ByteArray)(i:Nat):Int×Int:=insB (f.getD i noStr++spS++f.getD (i+1) noStr)
def onFl(t:GTT)(f:List ByteArray)(x:Nat→GInc):GInc×Int:=match flAt t.flights (f.getD 1 noStr) (insI f 2).1 with
 | some i=>(x i,0)
 | none=>(noInc,6)
def lineI(t:GTT)(f:List ByteArray):GInc×Int :=
 if f.getD 0 noStr=delayS then
  (if f.length≠5∨(insI f 2).2≠0∨(parseB (f.getD 4 noStr)).2≠0 then (noInc,1) else onFl t f fun i=>⟨1,i,(parseB (f.getD 4 noStr)).1,noStr,0,noShift⟩)
 else if f.getD 0 noStr=cancelS then
  (if f.length≠4∨(insI f 2).2≠0 then (noInc,1) else onFl t f fun i=>⟨2,i,0,noStr,0,noShift⟩)
 else if f.getD 0 noStr=divertS then
  (if f.length≠6∨(insI f 2).2≠0∨(parseB (f.getD 5 noStr)).2≠0 then (noInc,1) else onFl t f fun i=>⟨3,i,(parseB (f.getD 5 noStr)).1,f.getD 4 noStr,0,noShift⟩)
 else if f.getD 0 noStr=sickS then
  (if f.length≠6∨(parseB (f.getD 1 noStr)).2≠0∨(insI f 2).2≠0∨(insI f 4).2≠0 then (noInc,1) else (⟨4,0,0,noStr,(parseB (f.getD 1 noStr)).1,⟨(insI f 2).1,(insI f 4).1+1⟩⟩,0))
 else (noInc,1)
def stepI(t:GTT)(s:ByteArray)(l:List GInc):List GInc×Int :=
 if fieldsB s=[] then (l,0) else if (lineI t (fieldsB s)).2≠0 then (l,(lineI t (fieldsB s)).2) else (l++[(lineI t (fieldsB s)).1],0)
def incAt(t:GTT)(ls:List ByteArray):Nat→List GInc
 | 0=>[]
 | k+1=>(stepI t (ls.getD k noStr) (incAt t ls k)).1
def incErr(t:GTT)(ls:List ByteArray)(k:Nat):Int:=(stepI t (ls.getD k noStr) (incAt t ls k)).2
def parseI(t:GTT)(ps:List GPerson)(s:ByteArray):List GInc×Int×Int :=
 if crewE t ps≠0 then ([],0,crewE t ps) else
  if (linesB s).2≠0 then ([],0,(linesB s).2) else
   match (List.range (linesB s).1.length).find? (fun k=>decide (incErr t (linesB s).1 k≠0)) with
   | some k=>([],(k:Int)+1,incErr t (linesB s).1 k)
   | none=>if incE t ps (incAt t (linesB s).1 (linesB s).1.length)≠0 then ([],0,incE t ps (incAt t (linesB s).1 (linesB s).1.length)) else (incAt t (linesB s).1 (linesB s).1.length,0,0)
theorem parseI_err{t:GTT}{ps:List GPerson}{s:ByteArray}{k:Nat}(h1:crewE t ps=0)(h2:(linesB s).2=0)(hk:k<(linesB s).1.length)(he:incErr t (linesB s).1 k≠0)(hn : ∀ j,j<k→incErr t (linesB s).1 j=0) :
 parseI t ps s=([],(k:Int)+1,incErr t (linesB s).1 k):=by
 unfold parseI;rw[qN (by simp[h1]),qN (by simp[h2]),find_first hk (by simpa using he) (fun j hj=>by simp[hn j hj])]
theorem parseI_all{t:GTT}{ps:List GPerson}{s:ByteArray}(h1:crewE t ps=0)(h2:(linesB s).2=0)(hn : ∀ j,j<(linesB s).1.length→incErr t (linesB s).1 j=0) :
 parseI t ps s=if incE t ps (incAt t (linesB s).1 (linesB s).1.length)≠0 then ([],0,incE t ps (incAt t (linesB s).1 (linesB s).1.length)) else (incAt t (linesB s).1 (linesB s).1.length,0,0):=by
 unfold parseI;rw[qN (by simp[h1]),qN (by simp[h2]),find_no (fun j hj=>by simp[hn j hj])]
noncomputable def incF(t:GTT)(x:GInc):List ByteArray :=
 if x.kind=4 then [sickS,numS x.person,insD x.span.at_,insC x.span.at_,insD (x.span.off-1),insC (x.span.off-1)]
 else if x.kind=1 then [delayS,(t.flights.getD x.flight.toNat noFlight).number,insD (t.flights.getD x.flight.toNat noFlight).dep,insC (t.flights.getD x.flight.toNat noFlight).dep,numS x.minutes]
 else if x.kind=2 then [cancelS,(t.flights.getD x.flight.toNat noFlight).number,insD (t.flights.getD x.flight.toNat noFlight).dep,insC (t.flights.getD x.flight.toNat noFlight).dep]
 else [divertS,(t.flights.getD x.flight.toNat noFlight).number,insD (t.flights.getD x.flight.toNat noFlight).dep,insC (t.flights.getD x.flight.toNat noFlight).dep,x.airport,numS x.minutes]
noncomputable def incS(t:GTT)(l:List GInc):ByteArray:=bs (textT (l.map (incF t)))
noncomputable def fmtI(t:GTT)(ps:List GPerson)(l:List GInc):ByteArray×Int:=if incE t ps l≠0 then (noStr,incE t ps l) else if 20000<(incS t l).size then (noStr,10) else (incS t l,0)
theorem valid_before{t:GTT}(h:t.valid) : ∀ {j i:Nat},i<j→j<t.flights.length→beforeB (t.flights.getD i noFlight) (t.flights.getD j noFlight)=true:=by
 intro j
 induction j with
 | zero=>intro i hi;omega
 | succ j ih =>
  intro i hij hj;have h1:=(fErr_zero (h.f (j+1) hj)).2 (by omega);rw[Nat.add_sub_cancel]at h1;rcases Nat.lt_or_eq_of_le (Nat.le_of_lt_succ hij) with h2|rfl
  ·exact before_trans (ih h2 (by omega)) h1
  ·exact h1
theorem flAt_self{t:GTT}(h:t.valid){k:Nat}(hk:k<t.flights.length):flAt t.flights (t.flights.getD k noFlight).number (t.flights.getD k noFlight).dep=some k :=
 flAt_first hk fun j hj ⟨e1,e2⟩=>by
  have hb:=valid_before h hj hk;unfold beforeB at hb;rw[qR e2,e1]at hb;have:=bl_irrefl (t.flights.getD k noFlight).number.toList;unfold bl at this;rw[this]at hb
  cases hb
theorem num_read{n:Int}(h0:0≤n)(h1:n≤999999):parseB (numS n)=(n,0):=by
 have:=parse_format n;rw[qR (by omega)]at this;exact this
theorem words_ne:cancelS≠delayS∧divertS≠delayS∧divertS≠cancelS∧sickS≠delayS∧sickS≠cancelS∧sickS≠divertS:=by decide
theorem word_fld:fldOk delayS∧fldOk cancelS∧fldOk divertS∧fldOk sickS:=⟨⟨by decide,by decide⟩,⟨by decide,by decide⟩,⟨by decide,by decide⟩,⟨by decide,by decide⟩⟩
theorem ids_pos{t:GTT}{ps:List GPerson}(h:crewE t ps=0) : ∀ p∈ps,1≤p.id∧p.id≤999999:=fun p hp=>by
 unfold crewE at h;split at h
 ·rename_i h1;exact absurd h h1
 split at h
 ·cases h
 obtain⟨i,hi,rfl⟩:=List.getElem_of_mem hp;have h2:=firstErr_zero h i hi;unfold pErr at h2;have e:ps.getD i noPerson=ps[i]:=by rw[qF,qG hi];rfl
 rw[e]at h2;split at h2
 ·cases h2
 ·rename_i h3;unfold idOk at h3;simp only[Bool.and_eq_false_iff,qU]at h3;omega
theorem fl_good{t:GTT}(h:t.valid){k:Nat}(hk:k<t.flights.length):fldOk (t.flights.getD k noFlight).number∧0≤(t.flights.getD k noFlight).dep∧(t.flights.getD k noFlight).dep<52596000:=by
 have h1:=(fErr_zero (h.f k hk)).1;have a:=h1.dep;have b:=h1.arr;have c:=h1.lt;refine⟨?_,by omega,by omega⟩;have hn:=h1.number;unfold isCodeB at hn;simp only[qI,qL]at hn;obtain⟨⟨g1,g2⟩,g3⟩:=hn;refine bytes_fld g1 fun i hi =>?_
 have:=allTo_iff.1 g3 i hi;unfold cdAt upperI numberI at this;simp only[Bool.or_eq_true,qI,qL]at this;omega
theorem air_good{t:GTT}(h:t.valid){c:ByteArray}(hc:hasB (aCodes t.airports) c=true):fldOk c:=by
 rw[hasB_iff,aCodes,List.mem_map]at hc;obtain⟨a,ha,rfl⟩:=hc;obtain⟨i,hi,rfl⟩:=mem_getD ha noAirport;exact airport_fld (aErr_zero (h.a i hi)).1
theorem insI_at{f:List ByteArray}{i:Nat}{t:Int}(h0:0≤t)(h1:t<52596000)(a:f.getD i noStr=insD t)(b:f.getD (i+1) noStr=insC t):insI f i=(t,0):=by
 unfold insI;rw[a,b];exact ins_read h0 h1
theorem onFl_at{t:GTT}{f:List ByteArray}{x:Nat→GInc}{k:Nat}(h:flAt t.flights (f.getD 1 noStr) (insI f 2).1=some k):onFl t f x=(x k,0):=by unfold onFl;rw[h]
theorem lineI_back{t:GTT}{ps:List GPerson}{x:GInc}(ht:t.valid)(hid : ∀ p∈ps,1≤p.id∧p.id≤999999)(h:incE1 t ps x=0):lineI t (incF t x)=(x,0)∧(∀ y∈incF t x,fldOk y)∧incF t x≠[]:=by
 obtain⟨kind,flight,minutes,airport,person,⟨a,b⟩⟩:=x;obtain⟨w1,w2,w3,w4,w5,w6⟩:=words_ne;obtain⟨v1,v2,v3,v4⟩:=word_fld;unfold incE1 at h
 dsimp only at h
 split at h
 ·cases h
 rename_i hk;split at h
 ·rename_i hk4;subst hk4;split at h
  ·cases h
  rename_i hm;split at h
  ·cases h
  rename_i hv;split at h
  ·cases h
  rename_i hs;have hs:shapedI ⟨4,flight,minutes,airport,person,⟨a,b⟩⟩=true:=by simpa using hs
  unfold shapedI at hs;simp only[show ¬((4:Int)=1) by decide,show ¬((4:Int)=2) by decide,show ¬((4:Int)=3) by decide,if_false,qI,qL]at hs;obtain⟨⟨rfl,rfl⟩,rfl⟩:=hs;have hv:vacOk ⟨a,b⟩=true:=by simpa using hv
  unfold vacOk at hv;simp only[qI,qL]at hv;have hp:1≤person∧person≤999999:=by
   have hm:hasI (pIds ps) person=true:=by simpa using hm
   unfold hasI pIds at hm;rw[List.any_eq_true]at hm;obtain⟨y,hy,e⟩:=hm;rw[List.mem_map]at hy;obtain⟨p,hp,rfl⟩:=hy;have e:=of_decide_eq_true e;rw[e];exact hid p hp
  have hF:incF t ⟨4,0,0,noStr,person,⟨a,b⟩⟩=[sickS,numS person,insD a,insC a,insD (b-1),insC (b-1)]:=rfl;have i2:insI [sickS,numS person,insD a,insC a,insD (b-1),insC (b-1)] 2=(a,0):=insI_at (by omega) (by omega) rfl rfl;have i4:insI [sickS,numS person,insD a,insC a,insD (b-1),insC (b-1)] 4=(b-1,0):=insI_at (by omega) (by omega) rfl rfl;have i1:parseB ([sickS,numS person,insD a,insC a,insD (b-1),insC (b-1)].getD 1 noStr)=(person,0):=num_read (by omega) (by omega);rw[hF];refine⟨?_,fun y hy =>?_,by simp⟩
  ·unfold lineI;rw[i1,i2,i4];show(if sickS=delayS then _ else if sickS=cancelS then _ else if sickS=divertS then _ else if sickS=sickS then _ else _)=_;rw[qN w4,qN w5,qN w6,qR rfl,qN (by simp)];simp only[Int.sub_add_cancel,noShift]
  ·simp only[List.mem_cons,List.not_mem_nil,or_false]at hy;rcases hy with rfl|rfl|rfl|rfl|rfl|rfl
   ·exact v4
   ·exact numS_fld (by omega)
   ·exact(insD_fld (by omega) (by omega)).1
   ·exact insC_fld.1
   ·exact(insD_fld (by omega) (by omega)).1
   ·exact insC_fld.1
 ·rename_i hk4;split at h
  ·rename_i hz;exact absurd h hz
  rename_i hz;have hz:=Classical.not_not.1 hz;split at h
  ·cases h
  rename_i hs;have hs:shapedI ⟨kind,flight,minutes,airport,person,⟨a,b⟩⟩=true:=by simpa using hs
  unfold flightIncE at hz
  dsimp only at hz
  split at hz
  ·cases hz
  rename_i hfl;obtain⟨k,rfl⟩:=Int.eq_ofNat_of_zero_le (show 0≤flight by omega);have hkl:k<t.flights.length:=by omega
  obtain⟨g1,g2,g3⟩:=fl_good ht hkl;have hfa:=flAt_self ht hkl;simp only[Int.toNat_natCast]at hz;unfold shapedI at hs
  dsimp only at hs
  have hk3:kind=1∨kind=2∨kind=3:=by omega
  rcases hk3 with rfl|rfl|rfl
  ·rw[qR rfl]at hz hs;split at hz
   ·cases hz
   rename_i hmn;simp only[qI,qL]at hs;obtain⟨⟨⟨rfl,rfl⟩,rfl⟩,rfl⟩:=hs;have hF:incF t ⟨1,k,minutes,noStr,0,⟨0,0⟩⟩=[delayS,(t.flights.getD k noFlight).number,insD (t.flights.getD k noFlight).dep,insC (t.flights.getD k noFlight).dep,numS minutes]:=rfl;rw[hF];clear hF hz;generalize t.flights.getD k noFlight=f at*;have i2:insI [delayS,f.number,insD f.dep,insC f.dep,numS minutes] 2=(f.dep,0):=insI_at g2 g3 rfl rfl;have i4:parseB ([delayS,f.number,insD f.dep,insC f.dep,numS minutes].getD 4 noStr)=(minutes,0):=num_read (by omega) (by omega);refine⟨?_,fun y hy =>?_,by simp⟩
   ·have ho : ∀ x:Nat→GInc,onFl t [delayS,f.number,insD f.dep,insC f.dep,numS minutes] x=(x k,0):=fun x=>onFl_at (by rw[i2];exact hfa)
    unfold lineI;rw[i2,i4,ho,ho,ho];show(if delayS=delayS then _ else _)=_;rw[qR rfl,qN (by simp)];rfl
   ·simp only[List.mem_cons,List.not_mem_nil,or_false]at hy;rcases hy with rfl|rfl|rfl|rfl|rfl
    ·exact v1
    ·exact g1
    ·exact(insD_fld g2 g3).1
    ·exact insC_fld.1
    ·exact numS_fld (by omega)
  ·rw[qN (by decide)]at hs;rw[qR rfl]at hs;simp only[qI,qL]at hs;obtain⟨⟨⟨⟨rfl,rfl⟩,rfl⟩,rfl⟩,rfl⟩:=hs;have hF:incF t ⟨2,k,0,noStr,0,⟨0,0⟩⟩=[cancelS,(t.flights.getD k noFlight).number,insD (t.flights.getD k noFlight).dep,insC (t.flights.getD k noFlight).dep]:=rfl;rw[hF];clear hF hz;generalize t.flights.getD k noFlight=f at*;have i2:insI [cancelS,f.number,insD f.dep,insC f.dep] 2=(f.dep,0):=insI_at g2 g3 rfl rfl;refine⟨?_,fun y hy =>?_,by simp⟩
   ·have ho : ∀ x:Nat→GInc,onFl t [cancelS,f.number,insD f.dep,insC f.dep] x=(x k,0):=fun x=>onFl_at (by rw[i2];exact hfa)
    unfold lineI;rw[i2,ho,ho,ho];show(if cancelS=delayS then _ else if cancelS=cancelS then _ else _)=_;rw[qN w1,qR rfl,qN (by simp)];rfl
   ·simp only[List.mem_cons,List.not_mem_nil,or_false]at hy;rcases hy with rfl|rfl|rfl|rfl
    ·exact v2
    ·exact g1
    ·exact(insD_fld g2 g3).1
    ·exact insC_fld.1
  ·rw[qN (by decide),qN (by decide),qR rfl]at hs;rw[qN (by decide),qR rfl]at hz;split at hz
   ·cases hz
   rename_i hha;split at hz
   ·cases hz
   split at hz
   ·cases hz
   rename_i hmn;simp only[qI,qL]at hs;obtain⟨⟨rfl,rfl⟩,rfl⟩:=hs;have hga:=air_good ht (c:=airport) (by simpa using hha);have hF:incF t ⟨3,k,minutes,airport,0,⟨0,0⟩⟩=[divertS,(t.flights.getD k noFlight).number,insD (t.flights.getD k noFlight).dep,insC (t.flights.getD k noFlight).dep,airport,numS minutes]:=rfl;rw[hF];clear hF hz;generalize t.flights.getD k noFlight=f at*;have i2:insI [divertS,f.number,insD f.dep,insC f.dep,airport,numS minutes] 2=(f.dep,0):=insI_at g2 g3 rfl rfl;have i5:parseB ([divertS,f.number,insD f.dep,insC f.dep,airport,numS minutes].getD 5 noStr)=(minutes,0):=num_read (by omega) (by omega);refine⟨?_,fun y hy =>?_,by simp⟩
   ·have ho : ∀ x:Nat→GInc,onFl t [divertS,f.number,insD f.dep,insC f.dep,airport,numS minutes] x=(x k,0):=fun x=>onFl_at (by rw[i2];exact hfa)
    unfold lineI;rw[i2,i5,ho,ho,ho];show(if divertS=delayS then _ else if divertS=cancelS then _ else if divertS=divertS then _ else _)=_;rw[qN w2,qN w3,qR rfl,qN (by simp)];rfl
   ·simp only[List.mem_cons,List.not_mem_nil,or_false]at hy;rcases hy with rfl|rfl|rfl|rfl|rfl|rfl
    ·exact v3
    ·exact g1
    ·exact(insD_fld g2 g3).1
    ·exact insC_fld.1
    ·exact hga
    ·exact numS_fld (by omega)
theorem inc_at{t:GTT}{fs:List (List ByteArray)}{l:List GInc}(hl:fs.length=l.length)(hne : ∀ f∈fs,f≠[])(hok : ∀ f∈fs, ∀ x∈f,fldOk x)(h : ∀ (k:Nat) (hk:k<fs.length),lineI t fs[k]=(l.getD k noInc,0)) :
 ∀ k,k≤fs.length→incAt t (fs.map fun f=>bs (lineT f)) k=l.take k ∧ ∀ j,j<k→incErr t (fs.map fun f=>bs (lineT f)) j=0
 | 0,_=>⟨by simp[incAt],fun j hj=>by omega⟩
 | k+1,hk=>by
  obtain⟨h1,h2⟩:=inc_at hl hne hok h k (by omega);have hkl:k<fs.length:=hk;have hm:fs[k]∈fs:=List.getElem_mem hkl;have hg:(fs.map fun f=>bs (lineT f)).getD k noStr=bs (lineT fs[k]):=by
   rw[qF,List.getElem?_map,qG hkl];rfl
  have hs:stepI t ((fs.map fun f=>bs (lineT f)).getD k noStr) (incAt t (fs.map fun f=>bs (lineT f)) k)=(l.take (k+1),0):=by
   rw[hg,h1];unfold stepI;rw[fields_lineT (hok _ hm),qN (hne _ hm),h k hkl,qN (by simp)];rw[List.take_add_one,qG (by omega),qF,qG (by omega)];rfl
  refine⟨?_,fun j hj =>?_⟩
  ·show(stepI t _ _).1=_;rw[hs]
  ·rcases Nat.lt_or_eq_of_le (Nat.le_of_lt_succ hj) with h3|rfl
   ·exact h2 j h3
   ·show(stepI t _ _).2=_;rw[hs]
theorem inc_back{t:GTT}{ps:List GPerson}{l:List GInc}(h:incE t ps l=0)(hz:(incS t l).size≤20000):parseI t ps (incS t l)=(l,0,0):=by
 have h0:=h;unfold incE at h0;split at h0
 ·rename_i h1;exact absurd h0 h1
 rename_i hc;have hc:=Classical.not_not.1 hc;split at h0
 ·cases h0
 rename_i hlen;have htt:t.valid:=by
  unfold crewE at hc;split at hc
  ·rename_i h1;exact absurd hc h1
  ·rename_i h1;exact ttE_zero.1 (Classical.not_not.1 h1)
 have hid:=ids_pos hc;have hx : ∀ x∈l,lineI t (incF t x)=(x,0)∧(∀ y∈incF t x,fldOk y)∧incF t x≠[]:=fun x hx=>by
  obtain⟨i,hi,rfl⟩:=List.getElem_of_mem hx;have:=firstErr_zero h0 i hi;have e:l.getD i noInc=l[i]:=by rw[qF,qG hi];rfl
  rw[e]at this;exact lineI_back htt hid this
 have hne : ∀ f∈l.map (incF t),f≠[]:=fun f hf=>by
  obtain⟨x,hm,rfl⟩:=List.mem_map.1 hf;exact(hx x hm).2.2
 have hok : ∀ f∈l.map (incF t), ∀ x∈f,fldOk x:=fun f hf=>by
  obtain⟨x,hm,rfl⟩:=List.mem_map.1 hf;exact(hx x hm).2.1
 unfold incS at hz ⊢;rw[bs_size]at hz;have hL:=linesB_textT hok hz (by rw[List.length_map];omega);obtain⟨e1,e2⟩:=inc_at (t:=t) (fs:=l.map (incF t)) (l:=l) (by simp) hne hok (fun k hk=>by
  have hk':k<l.length:=by simpa using hk
  rw[List.getElem_map,qF,qG hk'];exact(hx _ (List.getElem_mem hk')).1) (l.map (incF t)).length (qD _)
 have q1:(linesB (bs (textT (l.map (incF t))))).1=(l.map (incF t)).map fun f=>bs (lineT f):=by rw[hL]
 have q2:(linesB (bs (textT (l.map (incF t))))).2=0:=by rw[hL]
 rw[parseI_all hc q2 (by rw[q1,List.length_map];exact e2),q1,List.length_map,e1,List.length_map,List.take_length,qN (by rw[h];simp)]
end
end Go.Proofs.YtifconapjfdkcaaGreatDoor
