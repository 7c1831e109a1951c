/-
  The plain functions of pairingdata.Timetable, People and Incidents.
  No condition.
-/
import Derived.Test.YtifconapjfdkcaaGreatDoorBAK
import Derived.Test.YtifconapjfdkcaaGreatDoorBAL
import Derived.Test.YtifconapjfdkcaaGreatDoorBAM
namespace Go.Proofs.YtifconapjfdkcaaGreatDoor
set_option linter.unusedSimpArgs false
set_option linter.unusedVariables false
open Go
def dGaps:List Int:=[75,100,130,240,60,700,95,110]
def dCodes:List ByteArray:=[⟨#[65,65,65]⟩,⟨#[66,66,66]⟩,⟨#[67,67,67]⟩]
def dCode (k:Nat):ByteArray:=dCodes.getD k noStr
def utcS:ByteArray:=⟨#[117,116,99]⟩
def eastS:ByteArray:=⟨#[101,97,115,116]⟩
def b737S:ByteArray:=⟨#[98,55,51,55]⟩
def a320S:ByteArray:=⟨#[97,51,50,48]⟩
def dZones:List GZone:=[⟨utcS,0,[]⟩,⟨eastS,120,[⟨12961060,60⟩]⟩]
def dAirports:List GAirport:=[⟨dCode 0,utcS⟩,⟨dCode 1,utcS⟩,⟨dCode 2,eastS⟩]
def dRoute (n:Int) (i:Nat):Nat:=if n%8=5 then 2+i%2 else if n%8=6 then 3-i%2 else if n%8=7 then (n/8%6).toNat else i%2
def dFrom (r:Nat):Nat:=[0,1,0,2,1,2].getD r 0
def dTo (r:Nat):Nat:=[1,0,2,0,2,1].getD r 0
def dNum (i:Nat):ByteArray:=⟨#[70,UInt8.ofNat (48+i)]⟩
def dFlight (n clock:Int) (i:Nat):GFlight:=⟨dNum i,dCode (dFrom (dRoute n i)),dCode (dTo (dRoute n i)),clock,clock+60+30*(n/64%2),if n/128%8=7 then a320S else b737S,1,if n/1024%16=15 then 0 else 1,0⟩
def dClock (n clock:Int):Int:=clock+dGaps.getD (n/256%8).toNat 0
def dSt (l:List Int):Nat→Int×List GFlight
 | 0=>(12960360,[])
 | i+1=>(dClock (atL l i) (dSt l i).1,(dSt l i).2++[dFlight (atL l i) (dSt l i).1 i])
def dTT (l:List Int) (n:Nat):GTT:=⟨dZones,dAirports,(dSt l n).2⟩
def dCount (l:List Int):Nat:=(2+atL l 0%4).toNat
def probTT (l:List Int):GTT:=dTT (l.drop 1) (dCount l)
theorem dCount_range (l:List Int):2≤dCount l∧dCount l≤5:=by unfold dCount;omega
theorem dGaps_range (k:Nat) (h:k<8):60≤dGaps.getD k 0∧dGaps.getD k 0≤700:=by
 have : ∀ k:Nat,k<8→60≤dGaps.getD k 0∧dGaps.getD k 0≤700:=by decide
 exact this k h
theorem dClock_range (n clock:Int):clock+60≤dClock n clock∧dClock n clock≤clock+700:=by
 unfold dClock
 have:=dGaps_range (n/256%8).toNat (by omega)
 omega
theorem dSt_range (l:List Int) : ∀ i,12960360≤(dSt l i).1∧(dSt l i).1≤12960360+700*i∧(dSt l i).2.length=i
 | 0=>by simp [dSt]
 | i+1=>by
  have h:=dSt_range l i
  have h2:=dClock_range (atL l i) (dSt l i).1
  simp only [dSt]
  refine ⟨by omega,by omega, ?_⟩
  rw [List.length_append,h.2.2]
  rfl
theorem dSt_get (l:List Int) : ∀ (n i:Nat),i<n→(dSt l n).2.getD i noFlight=dFlight (atL l i) (dSt l i).1 i
 | 0,i,h=>absurd h (by omega)
 | n+1,i,h=>by
  have hlen:=(dSt_range l n).2.2
  have e:(dSt l (n+1)).2=(dSt l n).2++[dFlight (atL l n) (dSt l n).1 n]:=rfl
  rw [e,List.getD_eq_getElem?_getD]
  rcases Nat.lt_or_eq_of_le (Nat.le_of_lt_succ h) with h1 | rfl
  ·rw [List.getElem?_append_left (by omega), ←List.getD_eq_getElem?_getD]
   exact dSt_get l n i h1
  ·rw [List.getElem?_append_right (by omega),hlen]
   simp
theorem dRoute_lt (n:Int) (i:Nat):dRoute n i<6:=by unfold dRoute;split <;> (try split) <;> (try split) <;> omega
theorem probTT_len (l:List Int):(probTT l).flights.length=dCount l:=(dSt_range _ _).2.2
end Go.Proofs.YtifconapjfdkcaaGreatDoor
