/-
  Plain data of incidents, how they lie in memory, the plain function of their validation, and the incidents of pairingdata.
  No condition.
-/
import Derived.Test.YtifconapjfdkcaaGreatDoorBAO
namespace Go.Proofs.YtifconapjfdkcaaGreatDoor
set_option linter.unusedSimpArgs false
set_option linter.unusedVariables false
open Go Go.RowKit
structure GInc where
 kind:Int
 flight:Int
 minutes:Int
 airport:ByteArray
 person:Int
 span:GShift
def noInc:GInc:=⟨0,0,0,noStr,0,noShift⟩
def incCells (x:GInc):List Value:=[.int .i64 x.kind, .int .i64 x.flight, .int .i64 x.minutes, .string x.airport, .int .i64 x.person, .int .i64 x.span.at_, .int .i64 x.span.off]
def flightIncE (t:GTT) (x:GInc):Int :=
 if x.flight<0∨(t.flights.length:Int)≤x.flight then 6
 else if x.kind=1 then (if x.minutes<1∨1440<x.minutes then 5 else 0)
 else if x.kind=3 then (if hasB (aCodes t.airports) x.airport=false then 6 else if x.airport=(t.flights.getD x.flight.toNat noFlight).src then 14 else if x.minutes<0∨720<x.minutes then 5 else 0)
 else 0
def pIds (l:List GPerson):List Int:=l.map (·.id)
def shapedI (x:GInc):Bool :=
 if x.kind=1 then decide (x.airport=noStr)&&decide (x.person=0)&&decide (x.span.at_=0)&&decide (x.span.off=0)
 else if x.kind=2 then decide (x.minutes=0)&&decide (x.airport=noStr)&&decide (x.person=0)&&decide (x.span.at_=0)&&decide (x.span.off=0)
 else if x.kind=3 then decide (x.person=0)&&decide (x.span.at_=0)&&decide (x.span.off=0)
 else decide (x.flight=0)&&decide (x.minutes=0)&&decide (x.airport=noStr)
def incE1 (t:GTT) (ps:List GPerson) (x:GInc):Int :=
 if x.kind<1∨4<x.kind then 5
 else if x.kind=4 then
  (if hasI (pIds ps) x.person=false then 6 else if vacOk x.span=false then 5 else if shapedI x=false then 12 else 0)
 else if flightIncE t x≠0 then flightIncE t x else if shapedI x=false then 12 else 0
def incE (t:GTT) (ps:List GPerson) (l:List GInc):Int :=
 if crewE t ps≠0 then crewE t ps else if 32<l.length then 10 else firstErr (fun i=>incE1 t ps (l.getD i noInc)) l.length
def dAir (k:Int) (src:ByteArray):ByteArray :=
 let a:=if dCode (k/32%3).toNat=src then dCode 2 else dCode (k/32%3).toNat
 if a=src then dCode 0 else a
def dInc (t:GTT) (ps:List GPerson) (k:Int):GInc :=
 if k%4=0 then ⟨1,k/4%t.flights.length,1+k/32%128,noStr,0,noShift⟩
 else if k%4=1 then ⟨2,k/4%t.flights.length,0,noStr,0,noShift⟩
 else if k%4=2 then ⟨3,k/4%t.flights.length,k/128%64,dAir k (t.flights.getD (k/4%t.flights.length).toNat noFlight).src,0,noShift⟩
 else ⟨4,0,0,noStr,(ps.getD (k/4%ps.length).toNat noPerson).id,⟨12960360+30*(k/32%16),12960360+30*(k/32%16)+400⟩⟩
def iCount (l:List Int):Nat:=(atL l 0%4).toNat
def dIncs (t:GTT) (ps:List GPerson) (l:List Int):List GInc:=(List.range (iCount l)).map fun i=>dInc t ps (atL l (1+i))
theorem iCount_range (l:List Int):iCount l≤3:=by unfold iCount;omega
end Go.Proofs.YtifconapjfdkcaaGreatDoor
