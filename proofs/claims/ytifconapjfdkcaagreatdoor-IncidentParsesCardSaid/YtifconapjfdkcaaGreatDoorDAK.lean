/-
  Joined texts: CrewPlain; TTBody; DataPlain; PeoplePlain; IncPlain. What each proves stands ahead of it, with its conditions.
-/
import Derived.Test.YtifconapjfdkcaaGreatDoorDAA
import Derived.Test.YtifconapjfdkcaaGreatDoorDAC
import Derived.Test.YtifconapjfdkcaaGreatDoorDAH
import Derived.Test.YtifconapjfdkcaaGreatDoorDAJ
set_option linter.unusedSimpArgs false
set_option linter.unusedVariables false
set_option maxRecDepth 100000
set_option maxHeartbeats 12800000
namespace Go.Proofs.YtifconapjfdkcaaGreatDoor
section
open Go.ChangeShapes Go.WideShapes Go.ChangeAt Go.RowKit Go.Deep
structure GPerson where
 id:Int
 name:ByteArray
 base:ByteArray
 rank:Int
 sen:Int
 types:List ByteArray
 vacs:List GShift
def GPerson.ok(p:GPerson):Prop:=(-9223372036854775808≤p.id∧p.id≤9223372036854775807)∧p.name.size≤maxLen∧p.base.size≤maxLen∧(-9223372036854775808≤p.rank∧p.rank≤9223372036854775807) ∧
 (-9223372036854775808≤p.sen∧p.sen≤9223372036854775807)∧(∀ s∈p.types,s.size≤maxLen) ∧ ∀ v∈p.vacs,v.ok
def noPerson:GPerson:=⟨0,⟨#[]⟩,⟨#[]⟩,0,0,[],[]⟩
def noStr:ByteArray:=⟨#[]⟩
def leB(a b:ByteArray):Bool:=Op.bytesLess a.toList b.toList||a.toList==b.toList
def typeErr(l:List ByteArray)(i:Nat):Int :=
 if isNameB (l.getD i noStr)=false then 1 else if 0<i∧leB (l.getD i noStr) (l.getD (i-1) noStr)=true then 8 else 0
def vacOk(v:GShift):Bool:=decide (0≤v.at_)&&decide (v.at_<v.off)&&decide (v.off≤52596000)
def vacErr(l:List GShift)(i:Nat):Int :=
 if vacOk (l.getD i noShift)=false then 5 else if 0<i∧(l.getD i noShift).at_<(l.getD (i-1) noShift).off then 8 else 0
def listsE(p:GPerson):Int :=
 if firstErr (typeErr p.types) p.types.length≠0 then firstErr (typeErr p.types) p.types.length else firstErr (vacErr p.vacs) p.vacs.length
def idOk(n:Int):Bool:=decide (1≤n)&&decide (n≤999999)
def rankOk(n:Int):Bool:=decide (0≤n)&&decide (n<3)
def hasI(l:List Int)(a:Int):Bool:=l.any fun b=>decide (a=b)
theorem hasI_snoc(b:Int)(l:List Int)(a:Int):hasI (l++[b]) a=(hasI l a||decide (a=b)):=by simp[hasI]
def sens(l:List GPerson):List Int:=l.map (·.sen)
def pErr(codes:List ByteArray)(l:List GPerson)(i:Nat):Int :=
 if idOk (l.getD i noPerson).id=false then 5 else
  if 0<i∧(l.getD i noPerson).id≤(l.getD (i-1) noPerson).id then 8 else
   if isNameB (l.getD i noPerson).name=false then 1 else
    if hasB codes (l.getD i noPerson).base=false then 6 else
     if rankOk (l.getD i noPerson).rank=false∨idOk (l.getD i noPerson).sen=false then 5 else
      if hasI (sens (l.take i)) (l.getD i noPerson).sen=true then 7 else
       if 8<(l.getD i noPerson).types.length∨8<(l.getD i noPerson).vacs.length then 10 else listsE (l.getD i noPerson)
def crewE(t:GTT)(l:List GPerson):Int :=
 if ttE t≠0 then ttE t else if 64<l.length then 10 else firstErr (pErr (aCodes t.airports) l) l.length
def PIs(w:World)(S:Nat→Prop)(cs:List Value)(p:GPerson):Prop :=
 ∃ A1 n1 c1 A2 n2 c2,cs=[.int .i64 p.id,.string p.name,.string p.base,.int .i64 p.rank,.int .i64 p.sen,.slice A1 n1 c1,.slice A2 n2 c2]∧Sl Ty.str w S A1 n1 c1 p.types∧Sl Ty.shift w S A2 n2 c2 p.vacs
def Ty.person:Ty GPerson:={
 size:=7
 rep:=PIs
 ok:=GPerson.ok
 pos:=by decide
 len:=by rintro _ _ _ _ ⟨_,_,_,_,_,_,rfl,_⟩;rfl
 keep:=by rintro _ _ _ _ _ ⟨A1,n1,c1,A2,n2,c2,rfl,h1,h2⟩ hk;exact⟨A1,n1,c1,A2,n2,c2,rfl,h1.keep hk,h2.keep hk⟩
 more:=by rintro _ _ _ _ _ ⟨A1,n1,c1,A2,n2,c2,rfl,h1,h2⟩ hk;exact⟨A1,n1,c1,A2,n2,c2,rfl,h1.more hk,h2.more hk⟩
 one:=by rintro _ _ _ _ ⟨_,_,_,_,_,_,rfl,_⟩ u hu;simp at hu;rcases hu with rfl|rfl|rfl|rfl|rfl|rfl|rfl <;> rfl }
section
variable {w:World} {S:Nat→Prop} {A:Option Addr} {n c:Nat}
theorem Sl.name_at{xs:List ByteArray}(h:Sl Ty.str w S A n c xs){k:Nat}(hk:k<xs.length) : ∃ b o,A=some ⟨b,o,none⟩∧S b∧w.cell? ⟨b,o+k,none⟩=some (.string (xs.getD k noStr)):=by
 obtain⟨b,o,cs,e,hs,hr,ha⟩:=h.at_ hk;have hr':cs=[.string xs[k]]:=hr;subst hr';have e1:xs.getD k noStr=xs[k]:=by rw[qF,qG hk];rfl
 rw[e1];exact⟨b,o,e,hs,by simpa[Ty.str] using ha 0 _ rfl⟩
theorem Sl.person_at{xs:List GPerson}(h:Sl Ty.person w S A n c xs){k:Nat}(hk:k<xs.length) : ∃ b o A1 n1 c1 A2 n2 c2,A=some ⟨b,o,none⟩∧S b ∧
 At w b (o+k*7) [.int .i64 (xs.getD k noPerson).id,.string (xs.getD k noPerson).name,.string (xs.getD k noPerson).base,.int .i64 (xs.getD k noPerson).rank,.int .i64 (xs.getD k noPerson).sen,.slice A1 n1 c1,.slice A2 n2 c2] ∧
 Sl Ty.str w S A1 n1 c1 (xs.getD k noPerson).types∧Sl Ty.shift w S A2 n2 c2 (xs.getD k noPerson).vacs:=by
 obtain⟨b,o,cs,e,hs,hr,ha⟩:=h.at_ hk;obtain⟨A1,n1,c1,A2,n2,c2,rfl,h1,h2⟩:=hr;have e1:xs.getD k noPerson=xs[k]:=by rw[qF,qG hk];rfl
 rw[e1];exact⟨b,o,A1,n1,c1,A2,n2,c2,e,hs,ha,h1,h2⟩
end
theorem getD_in{α : Type}{l:List α}{k:Nat}(h:k<l.length)(d : α):l.getD k d∈l:=by
 rw[qF,qG h];exact List.getElem_mem h
theorem leB_true{a b:ByteArray}(h:leB a b=true):Op.bytesLess a.toList b.toList=true∨(Op.bytesLess a.toList b.toList=false∧(a.toList==b.toList)=true):=by
 unfold leB at h
 cases h1:Op.bytesLess a.toList b.toList
 ·rw[h1,Bool.false_or]at h;exact .inr ⟨rfl,h⟩
 ·exact .inl rfl
theorem leB_false{a b:ByteArray}(h:leB a b=false):Op.bytesLess a.toList b.toList=false∧(a.toList==b.toList)=false:=by
 unfold leB at h;exact Bool.or_eq_false_iff.1 h
end
section
open Go
theorem firstErr_zero{f:Nat→Int} : ∀ {n:Nat},firstErr f n=0→zeroTo f n
 | 0,_=>zeroTo_zero f
 | n+1,h=>by
  rw[firstErr]at h;split at h
  ·rename_i h1;exact zeroTo_succ (firstErr_zero h1) h
  ·rename_i h1;exact absurd h h1
theorem mem_getD{α : Type}{l:List α}{x : α}(h:x∈l)(d : α) : ∃ i,i<l.length∧l.getD i d=x:=by
 obtain⟨i,hi,e⟩:=List.getElem_of_mem h;exact⟨i,hi,by rw[qF,qG hi];exact e⟩
theorem not_false_true{b:Bool}(h : ¬b=false):b=true:=by cases b <;> simp_all
theorem aErr_zero{zs:List GZone}{l:List GAirport}{i:Nat}(h:aErr zs l i=0):isAirportB (l.getD i noAirport).code=true∧hasB (aCodes (l.take i)) (l.getD i noAirport).code=false∧hasB (zNames zs) (l.getD i noAirport).zone=true:=by
 unfold aErr at h;split at h
 ·exact absurd h (by decide)
 rename_i h1;split at h
 ·exact absurd h (by decide)
 rename_i h2;split at h
 ·exact absurd h (by decide)
 rename_i h3;exact⟨not_false_true h1,by simpa using h2,not_false_true h3⟩
structure FlightOk(codes:List ByteArray)(f:GFlight):Prop where
 number:isCodeB f.number=true
 kind:isNameB f.kind=true
 src:hasB codes f.src=true
 dst:hasB codes f.dst=true
 ne:f.src≠f.dst
 dep:2880≤f.dep
 arr:f.arr≤52593120
 lt:f.dep<f.arr
 len:f.arr-f.dep≤1440
 n0:needOk f.n0=true
 n1:needOk f.n1=true
 n2:needOk f.n2=true
theorem flightE_zero{codes:List ByteArray}{f:GFlight}(h:flightE codes f=0):FlightOk codes f:=by
 unfold flightE at h;split at h
 ·exact absurd h (by decide)
 rename_i h1;split at h
 ·exact absurd h (by decide)
 rename_i h2;split at h
 ·exact absurd h (by decide)
 rename_i h3;split at h
 ·exact absurd h (by decide)
 rename_i h4;split at h
 ·exact absurd h (by decide)
 rename_i h5;exact⟨not_false_true fun e=>h1 (.inl e),not_false_true fun e=>h1 (.inr e),not_false_true fun e=>h2 (.inl e),not_false_true fun e=>h2 (.inr e),h3,by omega,by omega,by omega,by omega,
  not_false_true fun e=>h5 (.inl e),not_false_true fun e=>h5 (.inr (.inl e)),not_false_true fun e=>h5 (.inr (.inr e))⟩
structure GTT.valid(t:GTT):Prop where
 l1:t.zones.length≤16
 l2:t.airports.length≤64
 l3:t.flights.length≤200
 z:zeroTo (zErr t.zones) t.zones.length
 a:zeroTo (aErr t.zones t.airports) t.airports.length
 f:zeroTo (fErr (aCodes t.airports) t.flights) t.flights.length
theorem ttE_zero{t:GTT}:ttE t=0↔t.valid:=by
 unfold ttE;constructor
 ·intro h;split at h
  ·exact absurd h (by decide)
  rename_i h1;split at h
  ·rename_i h2;exact absurd h h2
  rename_i h2;split at h
  ·rename_i h3;exact absurd h h3
  rename_i h3;exact⟨by omega,by omega,by omega,firstErr_zero (Classical.not_not.1 h2),firstErr_zero (Classical.not_not.1 h3),firstErr_zero h⟩
 ·intro h;rw[qN (by have:=h.l1;have:=h.l2;have:=h.l3;omega),firstErr_none h.z,firstErr_none h.a,firstErr_none h.f];rfl
theorem fErr_zero{codes:List ByteArray}{l:List GFlight}{i:Nat}(h:fErr codes l i=0):FlightOk codes (l.getD i noFlight)∧(0<i→beforeB (l.getD (i-1) noFlight) (l.getD i noFlight)=true):=by
 unfold fErr at h;split at h
 ·rename_i h1;exact absurd h h1
 ·rename_i h1;split at h
  ·exact absurd h (by decide)
  ·rename_i h2;exact⟨flightE_zero (Classical.not_not.1 h1),fun h0=>not_false_true fun e=>h2 ⟨h0,e⟩⟩
end
section
open Go
def dGaps:List Int:=[75,100,130,240,60,700,95,110]
def dCodes:List ByteArray:=[⟨#[65,65,65]⟩,⟨#[66,66,66]⟩,⟨#[67,67,67]⟩]
def dCode(k:Nat):ByteArray:=dCodes.getD k noStr
def utcS:ByteArray:=⟨#[117,116,99]⟩
def eastS:ByteArray:=⟨#[101,97,115,116]⟩
def b737S:ByteArray:=⟨#[98,55,51,55]⟩
def a320S:ByteArray:=⟨#[97,51,50,48]⟩
def dZones:List GZone:=[⟨utcS,0,[]⟩,⟨eastS,120,[⟨12961060,60⟩]⟩]
def dAirports:List GAirport:=[⟨dCode 0,utcS⟩,⟨dCode 1,utcS⟩,⟨dCode 2,eastS⟩]
def dRoute(n:Int)(i:Nat):Nat:=if n%8=5 then 2+i%2 else if n%8=6 then 3-i%2 else if n%8=7 then (n/8%6).toNat else i%2
def dFrom(r:Nat):Nat:=[0,1,0,2,1,2].getD r 0
def dTo(r:Nat):Nat:=[1,0,2,0,2,1].getD r 0
def dNum(i:Nat):ByteArray:=⟨#[70,UInt8.ofNat (48+i)]⟩
def dFlight(n clock:Int)(i:Nat):GFlight:=⟨dNum i,dCode (dFrom (dRoute n i)),dCode (dTo (dRoute n i)),clock,clock+60+30*(n/64%2),if n/128%8=7 then a320S else b737S,1,if n/1024%16=15 then 0 else 1,0⟩
def dClock(n clock:Int):Int:=clock+dGaps.getD (n/256%8).toNat 0
def dSt(l:List Int):Nat→Int×List GFlight
 | 0=>(12960360,[])
 | i+1=>(dClock (atL l i) (dSt l i).1,(dSt l i).2++[dFlight (atL l i) (dSt l i).1 i])
def dTT(l:List Int)(n:Nat):GTT:=⟨dZones,dAirports,(dSt l n).2⟩
def dCount(l:List Int):Nat:=(2+atL l 0%4).toNat
def probTT(l:List Int):GTT:=dTT (l.drop 1) (dCount l)
theorem dCount_range(l:List Int):2≤dCount l∧dCount l≤5:=by unfold dCount;omega
theorem dGaps_range(k:Nat)(h:k<8):60≤dGaps.getD k 0∧dGaps.getD k 0≤700:=by
 have : ∀ k:Nat,k<8→60≤dGaps.getD k 0∧dGaps.getD k 0≤700:=by decide
 exact this k h
theorem dClock_range(n clock:Int):clock+60≤dClock n clock∧dClock n clock≤clock+700:=by
 unfold dClock;have:=dGaps_range (n/256%8).toNat (by omega);omega
theorem dSt_range(l:List Int) : ∀ i,12960360≤(dSt l i).1∧(dSt l i).1≤12960360+700*i∧(dSt l i).2.length=i
 | 0=>by simp[dSt]
 | i+1=>by
  have h:=dSt_range l i;have h2:=dClock_range (atL l i) (dSt l i).1;simp only[dSt];refine⟨by omega,by omega, ?_⟩;rw[List.length_append,h.2.2];rfl
theorem dSt_get(l:List Int) : ∀ (n i:Nat),i<n→(dSt l n).2.getD i noFlight=dFlight (atL l i) (dSt l i).1 i
 | 0,i,h=>absurd h (by omega)
 | n+1,i,h=>by
  have hlen:=(dSt_range l n).2.2;have e:(dSt l (n+1)).2=(dSt l n).2++[dFlight (atL l n) (dSt l n).1 n]:=rfl;rw[e,qF];rcases Nat.lt_or_eq_of_le (Nat.le_of_lt_succ h) with h1|rfl
  ·rw[List.getElem?_append_left (by omega), ←qF];exact dSt_get l n i h1
  ·rw[List.getElem?_append_right (by omega),hlen];simp
theorem dRoute_lt(n:Int)(i:Nat):dRoute n i<6:=by unfold dRoute;split <;> (try split) <;> (try split) <;> omega
theorem probTT_len(l:List Int):(probTT l).flights.length=dCount l:=(dSt_range _ _).2.2
end
section
open Go
def dNames:List ByteArray:=[⟨#[97,110,110,97]⟩,⟨#[98,111]⟩,⟨#[99,108,101,111]⟩,⟨#[100,97,110]⟩]
def dName(i:Nat):ByteArray:=dNames.getD i noStr
def dSen0(k:Int)(i:Nat):Int:=[4,2,9,1].getD ((i+(k/2%4).toNat)%4) 0
def dSens(l:List Int):Nat→List Int
 | 0=>[]
 | i+1=>dSens l i++[if hasI (dSens l i) (dSen0 (atL l (1+i)) i)=true then 20+(i:Int) else dSen0 (atL l (1+i)) i]
def dTypes(k:Int):List ByteArray:=if k/256%8=7 then [] else if k/64%4=3 then [a320S,b737S] else [b737S]
def dVacs(k:Int):List GShift:=if k/2048%4=3 then [⟨12960360+60*(k%16),12960360+60*(k%16)+300⟩] else []
def dPerson(k:Int)(i:Nat)(sen:Int):GPerson:=⟨1+3*i+k%2,dName i,if k/8%8=7 then dCode 1 else dCode 0,(i:Int)%2,sen,dTypes k,dVacs k⟩
def pCount(l:List Int):Nat:=(2+atL l 0%3).toNat
def dPeopleN(l:List Int)(n:Nat):List GPerson:=(List.range n).map fun i=>dPerson (atL l (1+i)) i ((dSens l n).getD i 0)
def dPeople(l:List Int):List GPerson:=dPeopleN l (pCount l)
theorem pCount_range(l:List Int):2≤pCount l∧pCount l≤4:=by unfold pCount;omega
theorem dPeopleN_len(l:List Int)(n:Nat):(dPeopleN l n).length=n:=by unfold dPeopleN;simp
theorem dSens_len(l:List Int) : ∀ n,(dSens l n).length=n
 | 0=>rfl
 | n+1=>by simp[dSens,dSens_len l n]
theorem dSens_take(l:List Int) : ∀ {n i:Nat},i≤n→(dSens l n).take i=dSens l i
 | 0,i,h=>by
  obtain rfl:i=0:=by omega
  rfl
 | n+1,i,h=>by
  rcases Nat.lt_or_eq_of_le h with h1|rfl
  ·have e:dSens l (n+1)=dSens l n++[if hasI (dSens l n) (dSen0 (atL l (1+n)) n)=true then 20+(n:Int) else dSen0 (atL l (1+n)) n]:=rfl;rw[e,List.take_append_of_le_length (by rw[dSens_len];omega)];exact dSens_take l (by omega)
  ·rw[List.take_of_length_le (by rw[dSens_len];omega)]
theorem dSens_get(l:List Int){n i:Nat}(h:i<n):(dSens l n).getD i 0=if hasI (dSens l i) (dSen0 (atL l (1+i)) i)=true then 20+(i:Int) else dSen0 (atL l (1+i)) i:=by
 have h1:((dSens l n).take (i+1)).getD i 0=(dSens l n).getD i 0:=by
  rw[qF,List.getElem?_take,qR (by omega), ←qF]
 rw[←h1,dSens_take l (by omega)];have e:dSens l (i+1)=dSens l i++[if hasI (dSens l i) (dSen0 (atL l (1+i)) i)=true then 20+(i:Int) else dSen0 (atL l (1+i)) i]:=rfl;rw[e,qF,List.getElem?_append_right (by rw[dSens_len];omega),dSens_len];simp
theorem dSen0_range(k:Int)(i:Nat):1≤dSen0 k i∧dSen0 k i≤9:=by
 unfold dSen0;have h:(i+(k/2%4).toNat)%4<4:=Nat.mod_lt _ (by decide);generalize (i+(k/2%4).toNat)%4=j at*;have:j=0∨j=1∨j=2∨j=3:=by omega
 rcases this with rfl|rfl|rfl|rfl <;> decide
end
section
open Go Go.RowKit
structure GInc where
 kind:Int
 flight:Int
 minutes:Int
 airport:ByteArray
 person:Int
 span:GShift
def noInc:GInc:=⟨0,0,0,noStr,0,noShift⟩
def incCells(x:GInc):List Value:=[.int .i64 x.kind,.int .i64 x.flight,.int .i64 x.minutes,.string x.airport,.int .i64 x.person,.int .i64 x.span.at_,.int .i64 x.span.off]
def flightIncE(t:GTT)(x:GInc):Int :=
 if x.flight<0∨(t.flights.length:Int)≤x.flight then 6
 else if x.kind=1 then (if x.minutes<1∨1440<x.minutes then 5 else 0)
 else if x.kind=3 then (if hasB (aCodes t.airports) x.airport=false then 6 else if x.airport=(t.flights.getD x.flight.toNat noFlight).src then 14 else if x.minutes<0∨720<x.minutes then 5 else 0)
 else 0
def pIds(l:List GPerson):List Int:=l.map (·.id)
def shapedI(x:GInc):Bool :=
 if x.kind=1 then decide (x.airport=noStr)&&decide (x.person=0)&&decide (x.span.at_=0)&&decide (x.span.off=0)
 else if x.kind=2 then decide (x.minutes=0)&&decide (x.airport=noStr)&&decide (x.person=0)&&decide (x.span.at_=0)&&decide (x.span.off=0)
 else if x.kind=3 then decide (x.person=0)&&decide (x.span.at_=0)&&decide (x.span.off=0)
 else decide (x.flight=0)&&decide (x.minutes=0)&&decide (x.airport=noStr)
def incE1(t:GTT)(ps:List GPerson)(x:GInc):Int :=
 if x.kind<1∨4<x.kind then 5
 else if x.kind=4 then
  (if hasI (pIds ps) x.person=false then 6 else if vacOk x.span=false then 5 else if shapedI x=false then 12 else 0)
 else if flightIncE t x≠0 then flightIncE t x else if shapedI x=false then 12 else 0
def incE(t:GTT)(ps:List GPerson)(l:List GInc):Int :=
 if crewE t ps≠0 then crewE t ps else if 32<l.length then 10 else firstErr (fun i=>incE1 t ps (l.getD i noInc)) l.length
def dAir(k:Int)(src:ByteArray):ByteArray :=
 let a:=if dCode (k/32%3).toNat=src then dCode 2 else dCode (k/32%3).toNat
 if a=src then dCode 0 else a
def dInc(t:GTT)(ps:List GPerson)(k:Int):GInc :=
 if k%4=0 then ⟨1,k/4%t.flights.length,1+k/32%128,noStr,0,noShift⟩
 else if k%4=1 then ⟨2,k/4%t.flights.length,0,noStr,0,noShift⟩
 else if k%4=2 then ⟨3,k/4%t.flights.length,k/128%64,dAir k (t.flights.getD (k/4%t.flights.length).toNat noFlight).src,0,noShift⟩
 else ⟨4,0,0,noStr,(ps.getD (k/4%ps.length).toNat noPerson).id,⟨12960360+30*(k/32%16),12960360+30*(k/32%16)+400⟩⟩
def iCount(l:List Int):Nat:=(atL l 0%4).toNat
def dIncs(t:GTT)(ps:List GPerson)(l:List Int):List GInc:=(List.range (iCount l)).map fun i=>dInc t ps (atL l (1+i))
theorem iCount_range(l:List Int):iCount l≤3:=by unfold iCount;omega
end
end Go.Proofs.YtifconapjfdkcaaGreatDoor
