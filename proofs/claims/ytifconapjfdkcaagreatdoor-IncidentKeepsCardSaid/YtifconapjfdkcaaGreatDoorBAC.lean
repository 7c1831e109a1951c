/-
  Plain data of timetables and the plain function of their validation: the first error of a list of checks.
  No condition.
-/
import Derived.Test.YtifconapjfdkcaaGreatDoorBAB
namespace Go.Proofs.YtifconapjfdkcaaGreatDoor
set_option linter.unusedSimpArgs false
set_option linter.unusedVariables false
open Go
structure GShift where
 at_:Int
 off:Int
structure GZone where
 name:ByteArray
 off:Int
 shifts:List GShift
structure GAirport where
 code:ByteArray
 zone:ByteArray
structure GFlight where
 number:ByteArray
 src:ByteArray
 dst:ByteArray
 dep:Int
 arr:Int
 kind:ByteArray
 n0:Int
 n1:Int
 n2:Int
structure GTT where
 zones:List GZone
 airports:List GAirport
 flights:List GFlight
def GShift.ok (s:GShift):Prop:=(-9223372036854775808≤s.at_∧s.at_≤9223372036854775807)∧(-9223372036854775808≤s.off∧s.off≤9223372036854775807)
def GZone.ok (z:GZone):Prop:=z.name.size≤maxLen∧(-9223372036854775808≤z.off∧z.off≤9223372036854775807) ∧ ∀ s∈z.shifts,s.ok
def GAirport.ok (a:GAirport):Prop:=a.code.size≤maxLen∧a.zone.size≤maxLen
def GFlight.ok (f:GFlight):Prop:=f.number.size≤maxLen∧f.src.size≤maxLen∧f.dst.size≤maxLen∧f.kind.size≤maxLen∧(-9223372036854775808≤f.dep∧f.dep≤9223372036854775807)∧(-9223372036854775808≤f.arr∧f.arr≤9223372036854775807) ∧
 (-9223372036854775808≤f.n0∧f.n0≤9223372036854775807)∧(-9223372036854775808≤f.n1∧f.n1≤9223372036854775807)∧(-9223372036854775808≤f.n2∧f.n2≤9223372036854775807)
def GTT.ok (t:GTT):Prop:=(∀ z∈t.zones,z.ok)∧(∀ a∈t.airports,a.ok) ∧ ∀ f∈t.flights,f.ok
def firstErr (f:Nat→Int):Nat→Int
 | 0=>0
 | n+1=>if firstErr f n=0 then f n else firstErr f n
def zeroTo (f:Nat→Int) (k:Nat):Prop := ∀ j,j<k→f j=0
theorem zeroTo_zero (f:Nat→Int):zeroTo f 0:=fun j h=>absurd h (by omega)
theorem zeroTo_succ {f:Nat→Int} {k:Nat} (h:zeroTo f k) (h0:f k=0):zeroTo f (k+1):=fun j hj=>by
 rcases Nat.lt_or_eq_of_le (Nat.le_of_lt_succ hj) with h1 | rfl
 ·exact h j h1
 ·exact h0
theorem firstErr_none {f:Nat→Int} : ∀ {n:Nat},zeroTo f n→firstErr f n=0
 | 0,_=>rfl
 | n+1,h=>by
  rw [firstErr,firstErr_none (fun j hj=>h j (by omega)),if_pos rfl]
  exact h n (by omega)
theorem firstErr_hit {f:Nat→Int} {k:Nat} (h:zeroTo f k) (hf:f k≠0) : ∀ {n:Nat},k<n→firstErr f n=f k
 | 0,hk=>absurd hk (by omega)
 | n+1,hk=>by
  rw [firstErr]
  rcases Nat.lt_or_eq_of_le (Nat.le_of_lt_succ hk) with h1 | rfl
  ·rw [firstErr_hit h hf h1,if_neg hf]
  ·rw [firstErr_none h,if_pos rfl]
def hasB (l:List ByteArray) (a:ByteArray):Bool:=l.any fun b=>decide (a=b)
theorem hasB_snoc (b:ByteArray) (l:List ByteArray) (a:ByteArray):hasB (l++[b]) a=(hasB l a||decide (a=b)):=by simp [hasB]
theorem hasB_iff (l:List ByteArray) (a:ByteArray):hasB l a=true↔a∈l:=by
 unfold hasB
 rw [List.any_eq_true]
 refine ⟨fun ⟨x,hx,h⟩ =>?_,fun h=>⟨a,h,by simp⟩⟩
 have:=of_decide_eq_true h
 subst this
 exact hx
def offOk (n:Int):Bool:=decide (-840≤n)&&decide (n≤840)
def insOk (n:Int):Bool:=decide (0≤n)&&decide (n<52596000)
def noShift:GShift:=⟨0,0⟩
def shiftErr (l:List GShift) (i:Nat):Int :=
 if insOk (l.getD i noShift).at_=false∨offOk (l.getD i noShift).off=false then 5 else
  if 0<i∧(l.getD i noShift).at_≤(l.getD (i-1) noShift).at_ then 8 else 0
def zoneE (z:GZone):Int :=
 if isNameB z.name=false then 1 else if offOk z.off=false then 5 else if 16<z.shifts.length then 10 else firstErr (shiftErr z.shifts) z.shifts.length
def noZone:GZone:=⟨⟨#[]⟩,0,[]⟩
def noAirport:GAirport:=⟨⟨#[]⟩,⟨#[]⟩⟩
def noFlight:GFlight:=⟨⟨#[]⟩,⟨#[]⟩,⟨#[]⟩,0,0,⟨#[]⟩,0,0,0⟩
def zNames (zs:List GZone):List ByteArray:=zs.map (·.name)
def aCodes (l:List GAirport):List ByteArray:=l.map (·.code)
def zErr (zs:List GZone) (i:Nat):Int :=
 if zoneE (zs.getD i noZone)≠0 then zoneE (zs.getD i noZone) else if hasB (zNames (zs.take i)) (zs.getD i noZone).name=true then 7 else 0
def aErr (zs:List GZone) (l:List GAirport) (i:Nat):Int :=
 if isAirportB (l.getD i noAirport).code=false then 1 else if hasB (aCodes (l.take i)) (l.getD i noAirport).code=true then 7 else
  if hasB (zNames zs) (l.getD i noAirport).zone=false then 6 else 0
def needOk (n:Int):Bool:=decide (0≤n)&&decide (n≤8)
def flightE (codes:List ByteArray) (f:GFlight):Int :=
 if isCodeB f.number=false∨isNameB f.kind=false then 1 else if hasB codes f.src=false∨hasB codes f.dst=false then 6 else if f.src=f.dst then 14 else
  if f.dep<2880∨52593120<f.arr∨f.arr≤f.dep∨1440<f.arr-f.dep then 5 else
   if needOk f.n0=false∨needOk f.n1=false∨needOk f.n2=false then 5 else 0
def beforeB (f g:GFlight):Bool:=if f.dep=g.dep then Op.bytesLess f.number.toList g.number.toList else decide (f.dep<g.dep)
def fErr (codes:List ByteArray) (l:List GFlight) (i:Nat):Int :=
 if flightE codes (l.getD i noFlight)≠0 then flightE codes (l.getD i noFlight) else
  if 0<i∧beforeB (l.getD (i-1) noFlight) (l.getD i noFlight)=false then 8 else 0
def ttE (t:GTT):Int :=
 if 16<t.zones.length∨64<t.airports.length∨200<t.flights.length then 10 else
  if firstErr (zErr t.zones) t.zones.length≠0 then firstErr (zErr t.zones) t.zones.length else
   if firstErr (aErr t.zones t.airports) t.airports.length≠0 then firstErr (aErr t.zones t.airports) t.airports.length else
    firstErr (fErr (aCodes t.airports) t.flights) t.flights.length
end Go.Proofs.YtifconapjfdkcaaGreatDoor
