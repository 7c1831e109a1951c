/-
  The plain body of a timetable's encoding, and that a valid timetable's data are within their limits.
  No condition.
-/
import Derived.Test.YtifconapjfdkcaaGreatDoorBAC
import Derived.Test.YtifconapjfdkcaaGreatDoorBAE
namespace Go.Proofs.YtifconapjfdkcaaGreatDoor
set_option linter.unusedSimpArgs false
set_option linter.unusedVariables false
open Go
theorem firstErr_zero {f:Nat→Int} : ∀ {n:Nat},firstErr f n=0→zeroTo f n
 | 0,_=>zeroTo_zero f
 | n+1,h=>by
  rw [firstErr] at h
  split at h
  ·rename_i h1
   exact zeroTo_succ (firstErr_zero h1) h
  ·rename_i h1
   exact absurd h h1
theorem mem_getD {α : Type} {l:List α} {x : α} (h:x∈l) (d : α) : ∃ i,i<l.length∧l.getD i d=x:=by
 obtain ⟨i,hi,e⟩:=List.getElem_of_mem h
 exact ⟨i,hi,by rw [List.getD_eq_getElem?_getD,List.getElem?_eq_getElem hi];exact e⟩
theorem not_false_true {b:Bool} (h : ¬b=false):b=true:=by cases b <;> simp_all
theorem aErr_zero {zs:List GZone} {l:List GAirport} {i:Nat} (h:aErr zs l i=0):isAirportB (l.getD i noAirport).code=true∧hasB (aCodes (l.take i)) (l.getD i noAirport).code=false∧hasB (zNames zs) (l.getD i noAirport).zone=true:=by
 unfold aErr at h
 split at h
 ·exact absurd h (by decide)
 rename_i h1
 split at h
 ·exact absurd h (by decide)
 rename_i h2
 split at h
 ·exact absurd h (by decide)
 rename_i h3
 exact ⟨not_false_true h1,by simpa using h2,not_false_true h3⟩
structure FlightOk (codes:List ByteArray) (f:GFlight):Prop where
 number:isCodeB f.number=true
 kind:isNameB f.kind=true
 src:hasB codes f.src=true
 dst:hasB codes f.dst=true
 ne:f.src≠f.dst
 dep:2880≤f.dep
 arr:f.arr≤52593120
 lt:f.dep<f.arr
 len:f.arr-f.dep≤1440
 n0:needOk f.n0=true
 n1:needOk f.n1=true
 n2:needOk f.n2=true
theorem flightE_zero {codes:List ByteArray} {f:GFlight} (h:flightE codes f=0):FlightOk codes f:=by
 unfold flightE at h
 split at h
 ·exact absurd h (by decide)
 rename_i h1
 split at h
 ·exact absurd h (by decide)
 rename_i h2
 split at h
 ·exact absurd h (by decide)
 rename_i h3
 split at h
 ·exact absurd h (by decide)
 rename_i h4
 split at h
 ·exact absurd h (by decide)
 rename_i h5
 exact ⟨not_false_true fun e=>h1 (.inl e),not_false_true fun e=>h1 (.inr e),not_false_true fun e=>h2 (.inl e),not_false_true fun e=>h2 (.inr e),h3,by omega,by omega,by omega,by omega,
  not_false_true fun e=>h5 (.inl e),not_false_true fun e=>h5 (.inr (.inl e)),not_false_true fun e=>h5 (.inr (.inr e))⟩
structure GTT.valid (t:GTT):Prop where
 l1:t.zones.length≤16
 l2:t.airports.length≤64
 l3:t.flights.length≤200
 z:zeroTo (zErr t.zones) t.zones.length
 a:zeroTo (aErr t.zones t.airports) t.airports.length
 f:zeroTo (fErr (aCodes t.airports) t.flights) t.flights.length
theorem ttE_zero {t:GTT}:ttE t=0↔t.valid:=by
 unfold ttE
 constructor
 ·intro h
  split at h
  ·exact absurd h (by decide)
  rename_i h1
  split at h
  ·rename_i h2;exact absurd h h2
  rename_i h2
  split at h
  ·rename_i h3;exact absurd h h3
  rename_i h3
  exact ⟨by omega,by omega,by omega,firstErr_zero (Classical.not_not.1 h2),firstErr_zero (Classical.not_not.1 h3),firstErr_zero h⟩
 ·intro h
  rw [if_neg (by have:=h.l1;have:=h.l2;have:=h.l3;omega),firstErr_none h.z,firstErr_none h.a,firstErr_none h.f]
  rfl
theorem fErr_zero {codes:List ByteArray} {l:List GFlight} {i:Nat} (h:fErr codes l i=0):FlightOk codes (l.getD i noFlight)∧(0<i→beforeB (l.getD (i-1) noFlight) (l.getD i noFlight)=true):=by
 unfold fErr at h
 split at h
 ·rename_i h1;exact absurd h h1
 ·rename_i h1
  split at h
  ·exact absurd h (by decide)
  ·rename_i h2
   exact ⟨flightE_zero (Classical.not_not.1 h1),fun h0=>not_false_true fun e=>h2 ⟨h0,e⟩⟩
end Go.Proofs.YtifconapjfdkcaaGreatDoor
