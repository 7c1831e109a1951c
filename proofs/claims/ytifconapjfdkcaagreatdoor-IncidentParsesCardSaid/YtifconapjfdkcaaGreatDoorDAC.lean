/-
  How the data of timetables lie in memory.
  No condition.
-/
import Derived.Test.YtifconapjfdkcaaGreatDoorDAA
import Derived.Test.YtifconapjfdkcaaGreatDoorDAH
set_option linter.unusedSimpArgs false
set_option linter.unusedVariables false
set_option maxRecDepth 100000
set_option maxHeartbeats 12800000
namespace Go.Proofs.YtifconapjfdkcaaGreatDoor
open Go.ChangeShapes Go.WideShapes Go.ChangeAt Go.RowKit Go.Deep
def Ty.shift:Ty GShift:={
 size:=2
 rep:=fun _ _ cs x=>cs=[.int .i64 x.at_,.int .i64 x.off]
 ok:=GShift.ok
 pos:=by decide
 len:=fun h=>by rw[h];rfl
 keep:=fun h _=>h
 more:=fun h _=>h
 one:=fun h u hu=>by rw[h]at hu;simp at hu;rcases hu with rfl|rfl <;> rfl }
def Ty.zone:Ty GZone:={
 size:=3
 rep:=fun w S cs x => ∃ A n c,cs=[.string x.name,.int .i64 x.off,.slice A n c]∧Sl Ty.shift w S A n c x.shifts
 ok:=GZone.ok
 pos:=by decide
 len:=by rintro _ _ _ _ ⟨_,_,_,rfl,_⟩;rfl
 keep:=by rintro _ _ _ _ _ ⟨A,n,c,rfl,h⟩ hk;exact⟨A,n,c,rfl,h.keep hk⟩
 more:=by rintro _ _ _ _ _ ⟨A,n,c,rfl,h⟩ hk;exact⟨A,n,c,rfl,h.more hk⟩
 one:=by rintro _ _ _ _ ⟨_,_,_,rfl,_⟩ u hu;simp at hu;rcases hu with rfl|rfl|rfl <;> rfl }
def Ty.airport:Ty GAirport:={
 size:=2
 rep:=fun _ _ cs x=>cs=[.string x.code,.string x.zone]
 ok:=GAirport.ok
 pos:=by decide
 len:=fun h=>by rw[h];rfl
 keep:=fun h _=>h
 more:=fun h _=>h
 one:=fun h u hu=>by rw[h]at hu;simp at hu;rcases hu with rfl|rfl <;> rfl }
def flightCells(x:GFlight):List Value:=[.string x.number,.string x.src,.string x.dst,.int .i64 x.dep,.int .i64 x.arr,.string x.kind,.int .i64 x.n0,.int .i64 x.n1,.int .i64 x.n2]
def Ty.flight:Ty GFlight:={
 size:=9
 rep:=fun _ _ cs x=>cs=flightCells x
 ok:=GFlight.ok
 pos:=by decide
 len:=fun h=>by rw[h];rfl
 keep:=fun h _=>h
 more:=fun h _=>h
 one:=fun h u hu=>by rw[h]at hu;simp[flightCells]at hu;rcases hu with rfl|rfl|rfl|rfl|rfl|rfl|rfl|rfl|rfl <;> rfl }
def TTIs(w:World)(S:Nat→Prop)(cs:List Value)(t:GTT):Prop :=
 ∃ A1 n1 c1 A2 n2 c2 A3 n3 c3,cs=[.slice A1 n1 c1,.slice A2 n2 c2,.slice A3 n3 c3]∧Sl Ty.zone w S A1 n1 c1 t.zones∧Sl Ty.airport w S A2 n2 c2 t.airports∧Sl Ty.flight w S A3 n3 c3 t.flights
theorem TTIs.keep{w w':World}{S:Nat→Prop}{cs:List Value}{t:GTT}(h:TTIs w S cs t)(hk : ∀ b,S b→w'.heap[b]? = w.heap[b]?):TTIs w' S cs t:=by
 obtain⟨A1,n1,c1,A2,n2,c2,A3,n3,c3,rfl,h1,h2,h3⟩:=h;exact⟨A1,n1,c1,A2,n2,c2,A3,n3,c3,rfl,h1.keep hk,h2.keep hk,h3.keep hk⟩
theorem TTIs.more{w:World}{S S':Nat→Prop}{cs:List Value}{t:GTT}(h:TTIs w S cs t)(hk : ∀ b,S b→S' b):TTIs w S' cs t:=by
 obtain⟨A1,n1,c1,A2,n2,c2,A3,n3,c3,rfl,h1,h2,h3⟩:=h;exact⟨A1,n1,c1,A2,n2,c2,A3,n3,c3,rfl,h1.more hk,h2.more hk,h3.more hk⟩
def Ty.tt:Ty GTT:={
 size:=3
 rep:=TTIs
 ok:=GTT.ok
 pos:=by decide
 len:=by rintro _ _ _ _ ⟨_,_,_,_,_,_,_,_,_,rfl,_⟩;rfl
 keep:=fun h hk=>h.keep hk
 more:=fun h hk=>h.more hk
 one:=by rintro _ _ _ _ ⟨_,_,_,_,_,_,_,_,_,rfl,_⟩ u hu;simp at hu;rcases hu with rfl|rfl|rfl <;> rfl }
section
variable {w:World} {S:Nat→Prop} {A:Option Addr} {n c:Nat}
theorem Sl.shift_at{xs:List GShift}(h:Sl Ty.shift w S A n c xs){k:Nat}(hk:k<xs.length) : ∃ b o,A=some ⟨b,o,none⟩∧S b∧w.cell? ⟨b,o+k*2,none⟩=some (.int .i64 (xs.getD k noShift).at_)∧w.cell? ⟨b,o+k*2+1,none⟩=some (.int .i64 (xs.getD k noShift).off):=by
 obtain⟨b,o,cs,e,hs,hr,ha⟩:=h.at_ hk;have hr':cs=[.int .i64 xs[k].at_,.int .i64 xs[k].off]:=hr;subst hr';have e1:xs.getD k noShift=xs[k]:=by rw[qF,qG hk];rfl
 rw[e1];exact⟨b,o,e,hs,ha 0 _ rfl,ha 1 _ rfl⟩
theorem Sl.zone_at{xs:List GZone}(h:Sl Ty.zone w S A n c xs){k:Nat}(hk:k<xs.length) : ∃ b o A' n' c',A=some ⟨b,o,none⟩∧S b∧w.cell? ⟨b,o+k*3,none⟩=some (.string (xs.getD k noZone).name)∧w.cell? ⟨b,o+k*3+1,none⟩=some (.int .i64 (xs.getD k noZone).off) ∧
 w.cell? ⟨b,o+k*3+2,none⟩=some (.slice A' n' c')∧Sl Ty.shift w S A' n' c' (xs.getD k noZone).shifts:=by
 obtain⟨b,o,cs,e,hs,hr,ha⟩:=h.at_ hk;obtain⟨A',n',c',rfl,h2⟩:=hr;have e1:xs.getD k noZone=xs[k]:=by rw[qF,qG hk];rfl
 rw[e1];exact⟨b,o,A',n',c',e,hs,ha 0 _ rfl,ha 1 _ rfl,ha 2 _ rfl,h2⟩
theorem Sl.airport_at{xs:List GAirport}(h:Sl Ty.airport w S A n c xs){k:Nat}(hk:k<xs.length) : ∃ b o,A=some ⟨b,o,none⟩∧S b∧w.cell? ⟨b,o+k*2,none⟩=some (.string (xs.getD k noAirport).code)∧w.cell? ⟨b,o+k*2+1,none⟩=some (.string (xs.getD k noAirport).zone):=by
 obtain⟨b,o,cs,e,hs,hr,ha⟩:=h.at_ hk;have hr':cs=[.string xs[k].code,.string xs[k].zone]:=hr;subst hr';have e1:xs.getD k noAirport=xs[k]:=by rw[qF,qG hk];rfl
 rw[e1];exact⟨b,o,e,hs,ha 0 _ rfl,ha 1 _ rfl⟩
theorem Sl.flight_at{xs:List GFlight}(h:Sl Ty.flight w S A n c xs){k:Nat}(hk:k<xs.length) : ∃ b o,A=some ⟨b,o,none⟩∧S b∧At w b (o+k*9) (flightCells (xs.getD k noFlight)):=by
 obtain⟨b,o,cs,e,hs,hr,ha⟩:=h.at_ hk;have hr':cs=flightCells xs[k]:=hr;subst hr';have e1:xs.getD k noFlight=xs[k]:=by rw[qF,qG hk];rfl
 rw[e1];exact⟨b,o,e,hs,ha⟩
end
end Go.Proofs.YtifconapjfdkcaaGreatDoor
