/-
  Contract of incident.Apply.
  Condition: one to nineteen flights, few incidents.
-/
import Derived.Test.YtifconapjfdkcaaGreatDoorDBB
import Derived.Test.YtifconapjfdkcaaGreatDoorDAN
import Derived.Test.YtifconapjfdkcaaGreatDoorDAT
import Derived.Test.YtifconapjfdkcaaGreatDoorDAA
import Derived.Deep.AppendLies
import Derived.Deep.RegionLaw
set_option linter.unusedSimpArgs false
set_option linter.unusedVariables false
set_option maxRecDepth 100000
set_option maxHeartbeats 12800000
namespace Go.Proofs.YtifconapjfdkcaaGreatDoor
open Go.RowKit
def smallF(k:Nat)(l:List GFlight):Prop := ∀ f∈l,(0≤f.dep∧f.dep≤60000000+1440*(k:Int))∧(0≤f.arr∧f.arr≤60000000+1440*(k:Int))
theorem smallF_start{t:GTT}(h:t.valid):smallF 0 t.flights:=fun f hf=>by
 obtain⟨k,hk,rfl⟩:=List.getElem_of_mem hf;have h1:=(fErr_zero (h.f k hk)).1;rw[show t.flights.getD k noFlight=t.flights[k] by rw[qF,qG hk];rfl]at h1;have a:=h1.dep;have b:=h1.arr;have c:=h1.lt;omega
theorem smallF_set{k:Nat}{l:List GFlight}(h:smallF k l){i:Nat}{g:GFlight}(hg:(0≤g.dep∧g.dep≤60000000+1440*((k+1:Nat):Int))∧(0≤g.arr∧g.arr≤60000000+1440*((k+1:Nat):Int))):smallF (k+1) (l.set i g):=fun f hf=>by
 rcases List.mem_or_eq_of_mem_set hf with hm|rfl
 ·have:=h f hm;omega
 ·exact hg
theorem incE2_flight{t:GTT}{x:GInc}(h:incE2 t x=0):1≤x.kind∧x.kind≤4∧(x.kind≠4→flightIncE t x=0):=by
 unfold incE2 at h;split at h
 ·exact absurd h (by decide)
 split at h
 ·exact⟨by omega,by omega,fun h4=>absurd (by assumption) h4⟩
 ·exact⟨by omega,by omega,fun _=>h⟩
theorem flightIncE_zero{t:GTT}{x:GInc}(h:flightIncE t x=0):0≤x.flight∧x.flight<t.flights.length∧(x.kind=1→1≤x.minutes∧x.minutes≤1440)∧(x.kind=3→0≤x.minutes∧x.minutes≤720):=by
 unfold flightIncE at h;split at h
 ·exact absurd h (by decide)
 rename_i hf;refine⟨by omega,by omega,fun h1 =>?_,fun h3 =>?_⟩
 ·rw[qR h1]at h;split at h
  ·exact absurd h (by decide)
  ·omega
 ·rw[qN (by omega),qR h3]at h;split at h
  ·exact absurd h (by decide)
  split at h
  ·exact absurd h (by decide)
  split at h
  ·exact absurd h (by decide)
  ·omega
theorem appSt_small{t:GTT}{x:GInc}{k:Nat}{s:List GFlight×List Bool}(h:incE2 t x=0)(hs:smallF k s.1)(hl:s.1.length=t.flights.length):smallF (k+1) (appSt s x).1:=by
 obtain⟨h1,h2,h3⟩:=incE2_flight h;have hmono:smallF (k+1) s.1:=fun f hf=>by have:=hs f hf;omega
 unfold appSt;split
 ·exact hmono
 rename_i hn;have hz:=flightIncE_zero (h3 (by omega));have hm:s.1.getD x.flight.toNat noFlight∈s.1:=getD_mem0 (by omega) noFlight;have hf:=hs _ hm;split
 ·rename_i hk;have:=hz.2.2.1 hk;refine smallF_set hs ?_;unfold delayF;simp only;omega
 split
 ·exact hmono
 ·have:=hz.2.2.2 (by omega);refine smallF_set hs ?_;unfold divertF;simp only;omega
theorem appTo_small{t:GTT}{l:List GInc}(hv:t.valid)(hz : ∀ i,i<l.length→incE2 t (l.getD i noInc)=0) : ∀ k,k≤l.length→smallF k (appTo t l k).1
 | 0,_=>by rw[appTo_zero];exact smallF_start hv
 | k+1,hk=>by
  rw[appTo_succ t l (by omega)];exact appSt_small (hz k (by omega)) (appTo_small hv hz k (by omega)) (appTo_len t l k (by omega)).1
theorem OwnS.bool_cell{el:TypeId}{w:World}{S:Nat→Prop}{base g n c:Nat}{xs:List Bool}(h:OwnS Ty.bool el w S base (.slice (some ⟨g,0,none⟩) n c) xs){k:Nat}(hk:k<xs.length):w.cell? ⟨g,k,none⟩=some (.bool (xs.getD k false)):=by
 obtain⟨A,c',e,hs⟩:=h.sl;injection e with e1 _ _
 subst e1;obtain⟨b,o,e2, -,hc⟩:=hs.bool_at hk
 cases e2;rw[Nat.zero_add]at hc;exact hc
theorem OwnS.int_cell{el:TypeId}{w:World}{S:Nat→Prop}{base g n c:Nat}{xs:List Int}(h:OwnS (Ty.int .i64) el w S base (.slice (some ⟨g,0,none⟩) n c) xs){k:Nat}(hk:k<xs.length):w.cell? ⟨g,k,none⟩=some (.int .i64 (xs.getD k 0)):=by
 obtain⟨A,c',e,hs⟩:=h.sl;injection e with e1 _ _
 subst e1;obtain⟨b,o,e2, -,hc⟩:=hs.int_at hk
 cases e2;rw[Nat.zero_add]at hc;rw[hc,qF,qG hk];rfl
theorem OwnS.flight_cells{el:TypeId}{w:World}{S:Nat→Prop}{base g n c:Nat}{xs:List GFlight}(h:OwnS Ty.flight el w S base (.slice (some ⟨g,0,none⟩) n c) xs){k:Nat}(hk:k<xs.length):At w g (k*9) (flightCells (xs.getD k noFlight)):=by
 obtain⟨A,c',e,hs⟩:=h.sl;injection e with e1 _ _
 subst e1;obtain⟨b,o,e2, -,hc⟩:=hs.flight_at hk
 cases e2;rw[Nat.zero_add]at hc;exact hc
theorem OwnS.free{α : Type}{t:Ty α}{el:TypeId}{w:World}{S:Nat→Prop}{base g n c:Nat}{xs:List α}(h:OwnS t el w S base (.slice (some ⟨g,0,none⟩) n c) xs)(j:Nat):w.frozen? ⟨g,j,none⟩=false:=by
 obtain⟨cur,hb⟩:=h.block (k:=g) rfl;exact block_free hb j
theorem getD_any{α : Type}{l:List α}{k:Nat}(hk:k<l.length)(d d' : α):l.getD k d=l.getD k d':=by
 rw[qF,qF,qG hk];rfl
theorem appSt_skip{s:List GFlight×List Bool}{x:GInc}{fi:Nat}(hx:x.flight=(fi:Int))(h:s.2.getD fi false=true):appSt s x=s:=by
 unfold appSt;rw[hx,Int.toNat_natCast];exact qR (.inr h)
theorem appSt_delay{s:List GFlight×List Bool}{mi pe s1 s2:Int}{ai:ByteArray}{fi:Nat}(h:s.2.getD fi false=false):appSt s ⟨1,(fi:Int),mi,ai,pe,⟨s1,s2⟩⟩=(s.1.set fi (delayF (s.1.getD fi noFlight) mi),s.2):=by
 unfold appSt
 dsimp only
 rw[Int.toNat_natCast,qN (by rw[h];decide),qR rfl]
theorem appSt_cancel{s:List GFlight×List Bool}{mi pe s1 s2:Int}{ai:ByteArray}{fi:Nat}(h:s.2.getD fi false=false):appSt s ⟨2,(fi:Int),mi,ai,pe,⟨s1,s2⟩⟩=(s.1,s.2.set fi true):=by
 unfold appSt
 dsimp only
 rw[Int.toNat_natCast,qN (by rw[h];decide),qN (by decide),qR rfl]
theorem appSt_divert{s:List GFlight×List Bool}{mi pe s1 s2:Int}{ai:ByteArray}{fi:Nat}(h:s.2.getD fi false=false):appSt s ⟨3,(fi:Int),mi,ai,pe,⟨s1,s2⟩⟩=(s.1.set fi (divertF (s.1.getD fi noFlight) ai mi),s.2):=by
 unfold appSt
 dsimp only
 rw[Int.toNat_natCast,qN (by rw[h];decide),qN (by decide),qN (by decide)]
theorem AP.setF2{w:World}{tc:Array Value}{base:Nat}{wr:World}{vC:Value}{s:List GFlight×List Bool}{g n c:Nat}(h:AP w tc base wr (.slice (some ⟨g,0,none⟩) n c) vC s){k j:Nat}(hk:k<s.1.length)(hj:j<9){u:Value}{y:GFlight}(hy:(flightCells (s.1.getD k noFlight)).set j u=flightCells y) :
 AP w tc base (wr.setCell ⟨g,k*9+j,none⟩ u) (.slice (some ⟨g,0,none⟩) n c) vC (s.1.set k y,s.2):=h.setF hk hj (by rw[getD_any hk y noFlight];exact hy)
theorem AP.drew{w:World}{tc:Array Value}{base:Nat}{wr:World}{vF vC:Value}{s:List GFlight×List Bool}(h:AP w tc base wr vF vC s):AP w tc base wr.drew vF vC s:=h.next (below_drewN (qC _ _) 1)
structure AZ(t:GTT)(w W V:World)(ib B3 n:Nat)(A B:Option Addr)(c d:Nat)(v3:Value)(ix:List Int)(nf:List GFlight):Prop where
 k:Kx (fun q=>q=w.heap.size+1∨q=ib) B3 W V
 res:V.heap[w.heap.size+1]? = some (.cells #[.slice A t.zones.length c,.slice B t.airports.length d,v3] 27 (0,0))
 I:OwnS (Ty.int .i64) 3 V (fun _=>False) ib (.slice (some ⟨ib,0,none⟩) n n) ix
 N:Own Ty.flight 62 V B3 v3 nf
 l:w.heap.size+1<ib∧ib<B3∧B3≤V.heap.size
def azF(rb fb i lo:Nat)(v3 sl:Value)(f:GFlight):Nat→Value→World→Prop
 | 0,v,_=>v=.pointer (some ⟨rb,2,none⟩)
 | 1,v,_=>v=v3
 | 2,v,_=>v=sl
 | 3,v,_=>v=.int .i64 i
 | 4,v,_=>v=.pointer (some ⟨fb,i*9,none⟩)
 | 5,v,_=>v=.agg (flightCells f).toArray
 | 6,v,w => ∃ g,v=.slice (some ⟨g,0,none⟩) 1 1∧lo≤g∧w.heap[g]? = some (.cells (flightCells f).toArray 62 (0,0))
 | _,_,_=>True
theorem azF_keep{rb fb i lo:Nat}{v3 sl:Value}{f:GFlight} : ∀ (k:Nat) (v:Value) (w w':World),azF rb fb i lo v3 sl f k v w→Below w.heap.size w w'→azF rb fb i lo v3 sl f k v w':=by
 intro k v w w' h hb;unfold azF at h ⊢;split at h <;> try exact h
 obtain⟨g,e,h1,h2⟩:=h;exact⟨g,e,h1,(hb.block g (Array.getElem?_eq_some_iff.1 h2).1).trans h2⟩
theorem At.of_block{w:World}{g:Nat}{cs:List Value}{T:TypeId}(h:w.heap[g]? = some (.cells cs.toArray T (0,0))):At w g 0 cs:=fun j u hu=>by
 rw[block_cell h,Nat.zero_add];simpa using hu
section
variable {t:GTT} {w W wr w7 w8 V:World} {ib B3 n:Nat} {A B:Option Addr} {c d:Nat} {v3 v':Value} {ix:List Int} {nf nf':List GFlight}
theorem AZ.box8(h:AZ t w W wr ib B3 n A B c d v3 ix nf)(hb:Below wr.heap.size wr w7)(hg:w7.grownBy w8 v3.ownBlock):w8.heap[w.heap.size+1]? = some (.cells #[.slice A t.zones.length c,.slice B t.airports.length d,v3] 27 (0,0)):=by
 have h1:=(Array.getElem?_eq_some_iff.1 h.res).1;have h2:=hb.size;have h3:=h.l;exact(hg.block _ (by omega) (fun e=>by have:=(h.N.lt _ e.symm).1;omega)).trans ((hb.block _ h1).trans h.res)
theorem AZ.push(h:AZ t w W wr ib B3 n A B c d v3 ix nf)(hb:Below wr.heap.size wr w7)(hg:w7.grownBy w8 v3.ownBlock)(hown:Own Ty.flight 62 w8 B3 v' nf'):AZ t w W (w8.setCell ⟨w.heap.size+1,2,none⟩ v') ib B3 n A B c d v' ix nf':=by
 have h2:=hb.size;have h3:=h.l;have h4:=hg.size;have hk : ∀ q,q≠w.heap.size+1→(w8.setCell ⟨w.heap.size+1,2,none⟩ v').heap[q]? = w8.heap[q]? :=fun q hq=>qO _ _ _ _ hq
 refine⟨((h.k.trans (Kx.of_below hb h.l.2.2)).grown hg (fun k hk => .inl (h.N.lt k hk).1) (by omega)).set (.inr (.inl rfl)) _ _, ?_, ?_,hown.flatC flat_flight fun q hq=>hk q (by have:=(hown.lt q hq).1;omega),h3.1,h3.2.1,by simp;omega⟩
 ·have:=qS w8 (w.heap.size+1) 2 _ _ v' (h.box8 hb hg);rw[this];rfl
 ·have hI7:=h.I.next hb fun _ h=>h.elim
  refine hI7.keep (by simp;omega) (fun q hq =>?_) fun _ h=>h.elim
  have hq':q=ib:=by
   injection hq with hq
   exact hq.symm
  subst hq';have:=(hI7.lt q hq).2;exact(hk q (by omega)).trans (hg.block q this fun e=>by have:=(h.N.lt q e.symm).1;omega)
theorem AZ.setI(h:AZ t w W V ib B3 n A B c d v3 ix nf){i:Nat}(hi:i<ix.length)(x:Int):AZ t w W (V.setCell ⟨ib,i,none⟩ (.int .i64 x)) ib B3 n A B c d v3 (ix.set i x) nf:=by
 have h3:=h.l;have hk : ∀ q,q≠ib→(V.setCell ⟨ib,i,none⟩ (.int .i64 x)).heap[q]? = V.heap[q]? :=fun q hq=>qO _ _ _ _ hq
 refine⟨h.k.set (.inr (.inr rfl)) _ _,(hk _ (by omega)).trans h.res, ?_,h.N.flatC flat_flight fun q hq=>hk q (by have:=(h.N.lt q hq).1;omega),h3.1,h3.2.1,by simp;omega⟩;have:=h.I.setAt (t:=Ty.int .i64) (j:=0) (u:=.int .i64 x) (y:=x) hi (show 0<1 by decide) (fun h=>h) fun cs hr=>by
  have hr':cs=[.int .i64 (ix.getD i x)]:=hr;subst hr';rfl
 have e:i*(Ty.int .i64).size+0=i:=by show i*1+0=i;omega
 rw[e]at this;exact this
end
def szF(f:GFlight):Prop:=f.number.size≤maxLen∧f.src.size≤maxLen∧f.dst.size≤maxLen∧f.kind.size≤maxLen∧(-9223372036854775808≤f.n0∧f.n0≤9223372036854775807)∧(-9223372036854775808≤f.n1∧f.n1≤9223372036854775807)∧(-9223372036854775808≤f.n2∧f.n2≤9223372036854775807)
theorem szF_ok{f:GFlight}{k:Nat}(h:szF f)(hk:k≤1000000)(h2:(0≤f.dep∧f.dep≤60000000+1440*(k:Int))∧(0≤f.arr∧f.arr≤60000000+1440*(k:Int))):f.ok:=by
 obtain⟨a,b,c,d,e,g,i⟩:=h;exact⟨a,b,c,d,by omega,by omega,e,g,i⟩
theorem flightIncE_air{t:GTT}{x:GInc}(h:flightIncE t x=0)(h3:x.kind=3):hasB (aCodes t.airports) x.airport=true:=by
 unfold flightIncE at h;split at h
 ·exact absurd h (by decide)
 rw[qN (show ¬x.kind=1 by omega)]at h
 try rw[qR h3]at h
 split at h
 ·exact absurd h (by decide)
 ·rename_i h9;simpa using h9
theorem appSt_sz{t:GTT}{x:GInc}{s:List GFlight×List Bool}(ht:t.ok)(h:incE2 t x=0)(hs : ∀ f∈s.1,szF f)(hl:s.1.length=t.flights.length) : ∀ f∈(appSt s x).1,szF f:=by
 obtain⟨h1,h2,h3⟩:=incE2_flight h;unfold appSt;split
 ·exact hs
 rename_i hn;have h4:x.kind≠4:=fun e=>hn (.inl e)
 have hz:=flightIncE_zero (h3 h4);have hm:s.1.getD x.flight.toNat noFlight∈s.1:=getD_mem0 (by omega) noFlight;have hf:=hs _ hm;split
 ·intro f hf';rcases List.mem_or_eq_of_mem_set hf' with h9|rfl
  ·exact hs f h9
  ·exact hf
 split
 ·exact hs
 ·have ha:=flightIncE_air (h3 h4) (by omega);intro f hf';rcases List.mem_or_eq_of_mem_set hf' with h9|rfl
  ·exact hs f h9
  ·obtain⟨a,b,c,d,e⟩:=hf;refine⟨a,b, ?_,d,e⟩;show x.airport.size≤maxLen;rw[hasB_iff,aCodes,List.mem_map]at ha;obtain⟨p,hp,e9⟩:=ha;rw[←e9];exact(ht.2.1 p hp).1
theorem appTo_sz{t:GTT}{l:List GInc}(ht:t.ok)(hz : ∀ i,i<l.length→incE2 t (l.getD i noInc)=0) : ∀ k,k≤l.length → ∀ f∈(appTo t l k).1,szF f
 | 0,_=>by
  rw[appTo_zero];intro f hf;obtain⟨a,b,c,d,e,g,i⟩:=ht.2.2 f hf;exact⟨a,b,c,d,i⟩
 | k+1,hk=>by
  rw[appTo_succ t l (by omega)];exact appSt_sz ht (hz k (by omega)) (appTo_sz ht hz k (by omega)) (appTo_len t l k (by omega)).1
theorem newFl_mem{fl:List GFlight}{gone:List Bool}(he:gone.length=fl.length){f:GFlight}(h:f∈newFl fl gone):f∈fl:=by
 unfold newFl at h;obtain⟨y,hy,rfl⟩:=List.mem_map.1 h;obtain⟨i,rfl,hi,_⟩:=leftI_mem.1 ((orderI_perm fl gone).mem_iff.1 hy);exact getD_mem0 (by rw[Int.toNat_natCast];omega) noFlight
theorem newTT_ok{t:GTT}{fl:List GFlight}{gone:List Bool}{k:Nat}(ht:t.ok)(he:gone.length=fl.length)(h1:smallF k fl)(h2 : ∀ f∈fl,szF f)(hk:k≤1000000):GTT.ok ⟨t.zones,t.airports,newFl fl gone⟩ :=
 ⟨ht.1,ht.2.1,fun f hf=>szF_ok (h2 f (newFl_mem he hf)) hk (h1 f (newFl_mem he hf))⟩
def ApplyPost(r:GTT×List Int×Int)(w:World)(e:Ending)(w':World):Prop :=
 ∃ A1 n1 c1 A2 n2 c2 A3 n3 c3 A4 n4 c4,e=.returned (.tuple #[.agg #[.slice A1 n1 c1,.slice A2 n2 c2,.slice A3 n3 c3],.slice A4 n4 c4,.int .i64 r.2.2]) ∧
  Sl Ty.zone w' (all_ w') A1 n1 c1 r.1.zones∧Sl Ty.airport w' (all_ w') A2 n2 c2 r.1.airports∧Sl Ty.flight w' (all_ w') A3 n3 c3 r.1.flights∧Sl (Ty.int .i64) w' (all_ w') A4 n4 c4 r.2.1∧Below w.heap.size w w'
theorem apply_nil{w w':World}{x:Int}(hb:Below w.heap.size w w'):ApplyPost (⟨[],[],[]⟩,[],x) w (.returned (.tuple #[.agg #[.slice none 0 0,.slice none 0 0,.slice none 0 0],.slice none 0 0,.int .i64 x])) w' :=
 ⟨.none,0,0,.none,0,0,.none,0,0,.none,0,0,rfl,Sl.nil0,Sl.nil0,Sl.nil0,Sl.nil0,hb⟩
theorem apply_any(t:GTT)(l:List GInc)(A1 A2 A3 A5:Option Addr)(n1 n2 n3 n5 c1 c2 c3 c5:Nat)(w:World)(ht:t.ok)(hs1:Sl Ty.zone w (all_ w) A1 n1 c1 t.zones)(hs2:Sl Ty.airport w (all_ w) A2 n2 c2 t.airports)(hs3:Sl Ty.flight w (all_ w) A3 n3 c3 t.flights)(hs5:Sl Ty.inc w (all_ w) A5 n5 c5 l)
 (hf0:0<t.flights.length) (hf1:t.flights.length≤19) (hl:l.length≤1000000) (hz1:t.zones.length≤1000) (ha1:t.airports.length≤1000) (hsh : ∀ z∈t.zones,z.shifts.length≤1000) :
 Calls Tryz.prog 19 #[.agg #[.slice A1 n1 c1,.slice A2 n2 c2,.slice A3 n3 c3],.slice A5 n5 c5] w (ApplyPost (applyP t l) w):=by
 have hn1:n5≤l.length:=Nat.le_of_eq hs5.len;have hn2:l.length≤n5:=Nat.le_of_eq hs5.len.symm;have hm1:n3≤t.flights.length:=Nat.le_of_eq hs3.len;have hm2:t.flights.length≤n3:=Nat.le_of_eq hs3.len.symm;have hb0:=((qC w.heap.size w).alloc (qD _) (.cells #[.slice A1 n1 c1,.slice A2 n2 c2,.slice A3 n3 c3] 27)).alloc (by simp) (.cells #[.slice none 0 0,.slice none 0 0,.slice none 0 0] 27);have hr0:=heap_alloc2_old w (.cells #[.slice A1 n1 c1,.slice A2 n2 c2,.slice A3 n3 c3] 27) (.cells #[.slice none 0 0,.slice none 0 0,.slice none 0 0] 27);have hr1:=heap_alloc2_new w (.cells #[.slice A1 n1 c1,.slice A2 n2 c2,.slice A3 n3 c3] 27) (.cells #[.slice none 0 0,.slice none 0 0,.slice none 0 0] 27);have hz0:((w.alloc (.cells #[.slice A1 n1 c1,.slice A2 n2 c2,.slice A3 n3 c3] 27)).alloc (.cells #[.slice none 0 0,.slice none 0 0,.slice none 0 0] 27)).heap.size=w.heap.size+2:=by simp
 have HS1:Hid (∀ V,Below w.heap.size w V→Sl Ty.zone V (all_ V) A1 n1 c1 t.zones):=fun V hV=>hs1.next hV
 have HS2:Hid (∀ V,Below w.heap.size w V→Sl Ty.airport V (all_ V) A2 n2 c2 t.airports):=fun V hV=>hs2.next hV
 have HS3:Hid (∀ V,Below w.heap.size w V→Sl Ty.flight V (all_ V) A3 n3 c3 t.flights):=fun V hV=>hs3.next hV
 have HS5:Hid (∀ V,Below w.heap.size w V→Sl Ty.inc V (all_ w) A5 n5 c5 l):=fun V hV=>hs5.keep (all_keep hV)
 have HV:=qH (validate_any t A1 A2 A3 n1 n2 n3 c1 c2 c3 _ ht (hs1.next hb0) (hs2.next hb0) (hs3.next hb0));have HT:=qH ht;have HF0:=qH hf0;have HF1:=qH hf1;have HZ1:=qH hz1;have HA1:=qH ha1;have HSH:=qH hsh;have HB0:=qH hb0;have HR0:=qH hr0;have HR1:=qH hr1;have HZ0:=qH hz0;have HP:=qH (applyP_eq t l);clear hs1 hs2 hs3 hs5 hb0 hr0 hr1 hz0 ht hf0 hf1 hz1 ha1 hsh;generalize applyP t l=res at*;generalize hte:ttE t=te at*
 go_enter Tryz.func19,Tryz.ntmps19
 go_wp2_with fail
 generalize (w.alloc (.cells #[.slice A1 n1 c1,.slice A2 n2 c2,.slice A3 n3 c3] 27)).alloc (.cells #[.slice none 0 0,.slice none 0 0,.slice none 0 0] 27)=W at*;refine HV.out.mono ?_;clear HV;rintro e w1 ⟨rfl,hb1⟩;have hw1:Below w.heap.size w w1:=HB0.out.trans (hb1.mono (by have:=HZ0.out;omega));have HT0:Hid (w1.heap[w.heap.size]? = _):=(hb1.block _ (by have:=HZ0.out;omega)).trans HR0.out;have HT1:Hid (w1.heap[w.heap.size+1]? = _):=(hb1.block _ (by have:=HZ0.out;omega)).trans HR1.out;have hsz1:w.heap.size+2≤w1.heap.size:=by have:=HZ0.out;have:=hb1.size;omega
 have HW1:=qH hw1;clear hb1 HB0 HR0 HR1 HZ0 hw1;have RET:Hid (∀ V:World,Below w.heap.size w V→V.heap[w.heap.size+1]? = some (.cells #[.slice none 0 0,.slice none 0 0,.slice none 0 0] 27 (0,0)) →
  ∀ a b c,Below w.heap.size w (((V.setCell ⟨w.heap.size+1,0,none⟩ a).setCell ⟨w.heap.size+1,1,none⟩ b).setCell ⟨w.heap.size+1,2,none⟩ c)):=fun V hV _ a b c =>
  ((hV.setCell (show w.heap.size≤w.heap.size+1 by omega) _).setCell (show w.heap.size≤w.heap.size+1 by omega) _).setCell (show w.heap.size≤w.heap.size+1 by omega) _
 by_cases hc:te=0
 case neg =>
  have hc':(te != 0)=true:=by simpa using hc
  have HF:Hid (res=(⟨[],[],[]⟩,[],te)):=by show _=_;rw[HP.out,qR hc]
  have f0:=block_free HT1.out 0;have f1:=block_free HT1.out 1;have f2:=block_free HT1.out 2;have z0:=block_cell HT1.out 0;have z1:=block_cell HT1.out 1;have z2:=block_cell HT1.out 2;clear hc;go_wp2_with fail
  refine bodyPost_ret (v:=.tuple #[.agg #[.slice none 0 0,.slice none 0 0,.slice none 0 0],.slice none 0 0,.int .i64 te]) (by simp[results,Tryz.results19,go_sem,z0,z1,z2]) rfl ?_;rw[HF.out];exact apply_nil (RET.out _ HW1.out HT1.out _ _ _)
 have hc':(te != 0)=false:=by simpa using hc
 rw[qN (by simpa using hc)]at HP;have hval:t.valid:=ttE_zero.1 (hte.trans hc);have HVAL:=qH hval;subst hc;clear hval hte;go_wp2_with fail
 have hle5:n5≤1000000:=by omega
 go_loopw [28] (fun s wr => ∃ k:Nat,k≤n5∧s=.int .i64 k∧Below w.heap.size w wr∧w.heap.size+2≤wr.heap.size∧Hid (wr.heap[w.heap.size]? = some (.cells #[.slice A1 n1 c1,.slice A2 n2 c2,.slice A3 n3 c3] 27 (0,0))) ∧
  Hid (wr.heap[w.heap.size+1]? = some (.cells #[.slice none 0 0,.slice none 0 0,.slice none 0 0] 27 (0,0)))∧Hid (zeroTo (fun i=>incE2 t (l.getD i noInc)) k)) (fun s _=>n5-(intOf s).toNat)
 case atStart=>exact⟨0,qV _,rfl,HW1.out,hsz1,HT0,HT1,zeroTo_zero _⟩
 case round =>
  obtain⟨k,hk,rfl,hbr,hsz,HTA,HTB,HK⟩:=hrel;clear HW1 HT0 HT1 hsz1
  by_cases hlt:k<n5
  ·have hks:k<l.length:=by omega
   obtain⟨b,o,rfl,hbS,hat⟩:=(HS5.out wr hbr).inc_at hks;have HE:Hid (∀ v:Int,incE2 t (l.getD k noInc)=v→v≠0→res=(⟨[],[],[]⟩,[],v)):=fun v h1 h2=>by
    have hh:=firstErr_hit (f:=fun i=>incE2 t (l.getD i noInc)) (k:=k) HK.out (by show incE2 t (l.getD k noInc)≠0;rw[h1];exact h2) hks;rw[HP.out,qR (by rw[hh];show incE2 t (l.getD k noInc)≠0;rw[h1];exact h2),hh];show(_,_,incE2 t (l.getD k noInc))=_;rw[h1]
   have HM:Hid (incE2 t (l.getD k noInc)=0→zeroTo (fun i=>incE2 t (l.getD i noInc)) (k+1)):=fun h=>zeroTo_succ HK.out h
   have z0:=hat 0 _ rfl;rw[Nat.add_zero]at z0;have z1:=hat 1 _ rfl;have z2:=hat 2 _ rfl;have z3:=hat 3 _ rfl;have z4:=hat 4 _ rfl;have z5:=hat 5 _ rfl;have z6:=hat 6 _ rfl;clear hat HK;generalize l.getD k noInc=x at*;obtain⟨kind,fl,mi,ai,pe,⟨s1,s2⟩⟩:=x;simp only at z0 z1 z2 z3 z4 z5 z6;have hbx:=(qC wr.heap.size wr).alloc (qD _) (.cells #[.int .i64 kind,.int .i64 fl,.int .i64 mi,.string ai,.int .i64 pe,.int .i64 s1,.int .i64 s2] 59);have hrx:=qK wr (.cells #[.int .i64 kind,.int .i64 fl,.int .i64 mi,.string ai,.int .i64 pe,.int .i64 s1,.int .i64 s2] 59);have hzx:(wr.alloc (.cells #[.int .i64 kind,.int .i64 fl,.int .i64 mi,.string ai,.int .i64 pe,.int .i64 s1,.int .i64 s2] 59)).heap.size=wr.heap.size+1:=by simp
   have HBX:=qH hbx;have HRX:=qH hrx;have HZX:=qH hzx;have hwx:Below w.heap.size w (wr.alloc (.cells #[.int .i64 kind,.int .i64 fl,.int .i64 mi,.string ai,.int .i64 pe,.int .i64 s1,.int .i64 s2] 59)):=hbr.trans (hbx.mono hbr.size);have HWX:=qH hwx;clear hbx hrx hzx hwx;go_wp2_with fail
   generalize wr.alloc (.cells #[.int .i64 kind,.int .i64 fl,.int .i64 mi,.string ai,.int .i64 pe,.int .i64 s1,.int .i64 s2] 59)=X at*;have HXA:Hid (X.heap[w.heap.size]? = _):=(HBX.out.block _ (by omega)).trans HTA.out;have HXB:Hid (X.heap[w.heap.size+1]? = _):=(HBX.out.block _ (by omega)).trans HTB.out;clear z0 z1 z2 z3 z4 z5 z6;have y0:=block_cell HRX.out 0;have y1:=block_cell HRX.out 1;have y2:=block_cell HRX.out 2;have y3:=block_cell HRX.out 3;have y4:=block_cell HRX.out 4;have y5:=block_cell HRX.out 5;have y6:=block_cell HRX.out 6;refine(incKnown_any kind X).mono ?_;rintro e w9 ⟨rfl,hX⟩;rw[hX];clear hX w9
   by_cases hkk:1≤kind∧kind≤4
   case neg =>
    have HF:Hid (res=(⟨[],[],[]⟩,[],5)):=HE.out 5 (by unfold incE2;exact qR (by show kind<1∨4<kind;omega)) (by decide);rw[decide_eq_false hkk];have f0:=block_free HXB.out 0;have f1:=block_free HXB.out 1;have f2:=block_free HXB.out 2;have z0:=block_cell HXB.out 0;have z1:=block_cell HXB.out 1;have z2:=block_cell HXB.out 2;clear hkk;go_wp2_with fail
    refine bodyPost_ret (v:=.tuple #[.agg #[.slice none 0 0,.slice none 0 0,.slice none 0 0],.slice none 0 0,.int .i64 5]) (by simp[results,Tryz.results19,go_sem,z0,z1,z2]) rfl ?_;rw[HF.out];exact apply_nil (RET.out _ HWX.out HXB.out _ _ _)
   rw[decide_eq_true hkk]
   by_cases hk4:kind=4
   case pos =>
    subst hk4;have HM2:=qH (HM.out (by unfold incE2;rw[qN (show ¬((4:Int)<1∨4<(4:Int)) by decide),qR rfl]));have hzx:w.heap.size+2≤X.heap.size:=by have:=HZX.out;omega
    clear hkk;go_wp2_with fail
    go_roundw
    case rel=>exact⟨k+1,by omega,by go_num,HWX.out,hzx,HXA,HXB,HM2⟩
    case measure=>simp[intOf];omega
   case neg =>
    have hk3:1≤kind∧kind≤3:=by omega
    have HI:Hid (incE2 t ⟨kind,fl,mi,ai,pe,⟨s1,s2⟩⟩=flightIncE t ⟨kind,fl,mi,ai,pe,⟨s1,s2⟩⟩):=by
     show _=_;unfold incE2;rw[qN (show ¬(kind<1∨4<kind) by omega),qN hk4]
    have hk4':(kind==4)=false:=by simpa using hk4
    have HC:=qH (incFlight_any t ⟨kind,fl,mi,ai,pe,⟨s1,s2⟩⟩ A1 A2 A3 n1 n2 n3 c1 c2 c3 X (HS2.out X HWX.out) (HS3.out X HWX.out) hk3);have x0:=block_cell HXA.out 0;have x1:=block_cell HXA.out 1;have x2:=block_cell HXA.out 2;generalize flightIncE t ⟨kind,fl,mi,ai,pe,⟨s1,s2⟩⟩=fe at*;clear hk4;go_wp2_with fail
    refine HC.out.mono ?_;rintro e w2 ⟨rfl,hb2⟩;have HE2:Hid (Below w.heap.size w w2):=HWX.out.trans (hb2.mono HWX.out.size);have HYA:Hid (w2.heap[w.heap.size]? = _):=(hb2.block _ (by have:=HZX.out;omega)).trans HXA.out;have HYB:Hid (w2.heap[w.heap.size+1]? = _):=(hb2.block _ (by have:=HZX.out;omega)).trans HXB.out
    by_cases hfe:fe=0
    case neg =>
     have hfe':(fe != 0)=true:=by simpa using hfe
     have HF:Hid (res=(⟨[],[],[]⟩,[],fe)):=HE.out fe HI.out hfe;have f0:=block_free HYB.out 0;have f1:=block_free HYB.out 1;have f2:=block_free HYB.out 2;have z0:=block_cell HYB.out 0;have z1:=block_cell HYB.out 1;have z2:=block_cell HYB.out 2;clear hfe hb2 HC;go_wp2_with fail
     refine bodyPost_ret (v:=.tuple #[.agg #[.slice none 0 0,.slice none 0 0,.slice none 0 0],.slice none 0 0,.int .i64 fe]) (by simp[results,Tryz.results19,go_sem,z0,z1,z2]) rfl ?_;rw[HF.out];exact apply_nil (RET.out _ HE2.out HYB.out _ _ _)
    have hfe':(fe != 0)=false:=by simpa using hfe
    have HM2:=qH (HM.out (HI.out.trans hfe));have hzx:w.heap.size+2≤w2.heap.size:=by have:=HZX.out;have:=hb2.size;omega
    subst hfe;clear hkk hk3 hb2 HC y0 y1 y2 y3 y4 y5 y6 x0 x1 x2;go_wp2_with fail
    go_roundw
    case rel=>exact⟨k+1,by omega,by go_num,HE2.out,hzx,HYA,HYB,HM2⟩
    case measure=>simp[intOf];omega
  ·have HZ:Hid (∀ i,i<l.length→incE2 t (l.getD i noInc)=0):=fun i hi=>HK.out i (by omega)
   have HP2:Hid (res=if ttE (newTT t l)≠0 then (⟨[],[],[]⟩,[],ttE (newTT t l)) else (newTT t l,indexL t l,0)):=by
    show _=_;rw[HP.out,qN (by rw[firstErr_none (f:=fun i=>incE2 t (l.getD i noInc)) HZ.out];simp)]
   clear HP HK;have x0:=block_cell HTA.out 0;have x1:=block_cell HTA.out 1;have x2:=block_cell HTA.out 2;have HCL:=qH (cloneFlight_any A3 n3 c3 t.flights wr (HS3.out wr hbr) (by have:=HF1.out;omega));go_wp2_with fail
   refine HCL.out.mono ?_;rintro e w2 ⟨vF,rfl,hoF,hb2⟩;obtain⟨Af,cf,rfl, -⟩:=hoF.sl;clear HCL x0 x1 x2;have hsz2:wr.heap.size≤w2.heap.size:=hb2.size;have HW2:Hid (Below w.heap.size w w2):=hbr.trans (hb2.mono hbr.size);have HTA2:Hid (w2.heap[w.heap.size]? = _):=(hb2.block _ (by omega)).trans HTA.out;have HTB2:Hid (w2.heap[w.heap.size+1]? = _):=(hb2.block _ (by omega)).trans HTB.out;have hlen1:t.flights.length≤19:=HF1.out;have HOF:=qH hoF;have HLF:=qH hoF.lt;clear hb2 HTA HTB hbr hoF;have HAP:Hid (AP w #[.slice A1 n1 c1,.slice A2 n2 c2,.slice A3 n3 c3] wr.heap.size (w2.alloc (.cells (madeCells #[.bool false] t.flights.length) 4)) (.slice Af t.flights.length cf) (.slice (some ⟨w2.heap.size,0,none⟩) t.flights.length t.flights.length) (appTo t l 0)):=by
    have hba:=(qC w2.heap.size w2).alloc (qD _) (.cells (madeCells #[.bool false] t.flights.length) 4);refine⟨(hba.block _ (by omega)).trans HTA2.out,(hba.block _ (by omega)).trans HTB2.out, ?_,OwnS.made (t:=Ty.bool) rfl (fun _ _=>rfl) (by omega) (by unfold maxLen;omega),HW2.out.trans (hba.mono HW2.out.size),by omega⟩;obtain⟨cs,g1,g2⟩:=HOF.out;exact OwnS.next (show OwnS Ty.flight 62 w2 (fun _=>False) wr.heap.size (.slice Af t.flights.length cf) t.flights from ⟨cs,g1,g2.flat flat_flight⟩) hba fun _ h=>h.elim
   clear HOF HTA2 HTB2 HW2;have hmk:=fun w=>run_make_row' (P:=Tryz.prog) 55 4 (.bool false) 1 Tryz.underlying55 (by kernel_rfl) rfl .i64 .i64 t.flights.length (by omega) (by omega) w
   go_wp2_with fail
   clear hmk;obtain⟨fb,cf',curF,eF,hfb0,hfb1, -⟩:=HAP.out.F.ownAt (by rw[(appTo_len t l 0 (qV _)).1];exact HF0.out)
   cases eF;have HFB:Hid (wr.heap.size≤fb∧fb<w2.heap.size):=HLF.out fb rfl;clear HLF hfb1 curF;generalize hB0:wr.heap.size=B0 at*;generalize hCB:w2.heap.size=cb at*;go_loopw [56] (fun s wr => ∃ k:Nat,k≤n5∧s=.int .i64 k∧AP w #[.slice A1 n1 c1,.slice A2 n2 c2,.slice A3 n3 c3] B0 wr (.slice (some ⟨fb,0,none⟩) t.flights.length cf) (.slice (some ⟨cb,0,none⟩) t.flights.length t.flights.length) (appTo t l k)) (fun s _=>n5-(intOf s).toNat)
   case atStart=>exact⟨0,qV _,rfl,HAP.out⟩
   case round =>
    obtain⟨q,hq,rfl,hap⟩:=hrel;clear HAP
    by_cases hlt2:q<n5
    ·have hqs:q<l.length:=by omega
     have HNX:=qH (appTo_succ t l hqs);have HLE:=qH (appTo_len t l q (by omega));have HSM:=qH (appTo_small HVAL.out HZ.out q (by omega));have HZQ:=qH (HZ.out q hqs);obtain⟨b5,o5,rfl,hbS5,hat5⟩:=(HS5.out wr hap.bel).inc_at hqs;have z0:=hat5 0 _ rfl;rw[Nat.add_zero]at z0;have z1:=hat5 1 _ rfl;have z2:=hat5 2 _ rfl;have z3:=hat5 3 _ rfl;have z4:=hat5 4 _ rfl;have z5:=hat5 5 _ rfl;have z6:=hat5 6 _ rfl;clear hat5;generalize l.getD q noInc=x at*;generalize hS:appTo t l q=S at*;generalize hS2:appTo t l (q+1)=S2 at*;obtain⟨kind,fl,mi,ai,pe,⟨s1,s2⟩⟩:=x;simp only at z0 z1 z2 z3 z4 z5 z6;have HBX:=qH ((qC wr.heap.size wr).alloc (qD _) (.cells #[.int .i64 kind,.int .i64 fl,.int .i64 mi,.string ai,.int .i64 pe,.int .i64 s1,.int .i64 s2] 59));have HRX:=qH (qK wr (.cells #[.int .i64 kind,.int .i64 fl,.int .i64 mi,.string ai,.int .i64 pe,.int .i64 s1,.int .i64 s2] 59));have HAX:=qH (hap.next HBX.out);have HAW:Hid (cb<wr.heap.size):=(hap.C.lt cb rfl).2;have HSA:Hid (∀ V,AP w #[.slice A1 n1 c1,.slice A2 n2 c2,.slice A3 n3 c3] B0 V (.slice (some ⟨fb,0,none⟩) t.flights.length cf) (.slice (some ⟨cb,0,none⟩) t.flights.length t.flights.length) S→appSt S ⟨kind,fl,mi,ai,pe,⟨s1,s2⟩⟩=S→AP w #[.slice A1 n1 c1,.slice A2 n2 c2,.slice A3 n3 c3] B0 V (.slice (some ⟨fb,0,none⟩) t.flights.length cf) (.slice (some ⟨cb,0,none⟩) t.flights.length t.flights.length) S2):=fun V hV e=>by rw[HNX.out,e];exact hV
     by_cases hk4:kind=4
     ·subst hk4;have HEQ:Hid (appSt S ⟨4,fl,mi,ai,pe,⟨s1,s2⟩⟩=S):=by show _=_;unfold appSt;exact qR (.inl rfl)
      clear hap;go_wp2_with fail
      go_roundw
      case rel=>exact⟨q+1,by omega,by go_num,by rw[hS2];exact HSA.out _ HAX.out HEQ.out⟩
      case measure=>simp[intOf];omega
     obtain⟨hI1,hI2,hI3⟩:=incE2_flight HZQ.out;have hz:=flightIncE_zero (hI3 hk4);simp only at hI1 hI2 hI3 hz;obtain⟨hz1,hz2,hz3,hz4⟩:=hz;obtain⟨fi,rfl⟩:=Int.eq_ofNat_of_zero_le hz1;have hfi:fi<t.flights.length:=by omega
     have HL1:Hid (fi<S.1.length):=by show _<_;rw[HLE.out.1];exact hfi
     have HL2:Hid (fi<S.2.length):=by show _<_;rw[HLE.out.2];exact hfi
     have zc:=HAX.out.C.bool_cell HL2.out;have hk4':(kind==4)=false:=by simpa using hk4
     cases hg:S.2.getD fi false with
     | true =>
      rw[hg]at zc;have HEQ:Hid (appSt S ⟨kind,(fi:Int),mi,ai,pe,⟨s1,s2⟩⟩=S):=appSt_skip (fi:=fi) rfl hg;clear hap hg hI3 hz3 hz4;go_wp2_with fail
      go_roundw
      case rel=>exact⟨q+1,by omega,by go_num,by rw[hS2];exact HSA.out _ HAX.out HEQ.out⟩
      case measure=>simp[intOf];omega
     | false =>
      rw[hg]at zc;have HG:=qH hg;have HFM:Hid ((0≤(S.1.getD fi noFlight).dep∧(S.1.getD fi noFlight).dep≤60000000+1440*(q:Int))∧(0≤(S.1.getD fi noFlight).arr∧(S.1.getD fi noFlight).arr≤60000000+1440*(q:Int))):=HSM.out _ (getD_mem0 HL1.out noFlight);have hqb:q≤1000000:=by omega
      clear hap hg;have hk3:kind=1∨kind=2∨kind=3:=by omega
      rcases hk3 with rfl|rfl|rfl
      ·have hmi:=hz3 rfl;have HEQ:=qH (HNX.out.trans (appSt_delay HG.out));clear hI3 hz3 hz4 hI1 hI2;go_upto_region 23 with (fail)
       generalize wr.alloc (.cells #[.int .i64 1,.int .i64 (fi:Int),.int .i64 mi,.string ai,.int .i64 pe,.int .i64 s1,.int .i64 s2] 59)=X at*;clear zc z0 z1 z2 z3 z4 z5 z6;have HCF:=qH (HAX.out.F.flight_cells HL1.out);generalize hf:S.1.getD fi noFlight=f at*;have d3:X.cell? ⟨fb,fi*9+3,none⟩=some (.int .i64 f.dep):=HCF.out 3 _ rfl;have y2:X.cell? ⟨wr.heap.size,2,none⟩=some (.int .i64 mi):=block_cell HRX.out 2;have fr3:X.frozen? ⟨fb,fi*9+3,none⟩=false:=HAX.out.F.free _;have HY:Hid (AP w #[.slice A1 n1 c1,.slice A2 n2 c2,.slice A3 n3 c3] B0 (X.setCell ⟨fb,fi*9+3,none⟩ (.int .i64 (wrap64 (f.dep+mi)))).drew (.slice (some ⟨fb,0,none⟩) t.flights.length cf) (.slice (some ⟨cb,0,none⟩) t.flights.length t.flights.length) (S.1.set fi { f with dep:=f.dep+mi },S.2)):=by
        have hfm:=HFM.out;show AP _ _ _ _ _ _ _;rw[IntWalk.wrap64_in (f.dep+mi) ⟨by omega,by omega⟩];exact(HAX.out.setF2 HL1.out (show 3<9 by decide) (by rw[hf];rfl)).drew
       have HYX:Hid ((X.setCell ⟨fb,fi*9+3,none⟩ (.int .i64 (wrap64 (f.dep+mi)))).drew.heap[wr.heap.size]? = X.heap[wr.heap.size]?):=qO _ _ _ _ (by show wr.heap.size≠fb;have:=HFB.out;have:=HAW.out;omega);refine wp_region_still_tail 9 (by kernel_rfl) (by kernel_rfl) ?_;simp only[List.take_succ_cons,List.take_zero,List.drop_succ_cons,List.drop_zero];change wpStill _ _ X.drew (fun a'=>wpList _ _ _ _ a' X.drew) _ _
       repeat still_step
       refine wpStill_nil ?_;go_upto_region 24 with (fail)
       generalize (X.setCell ⟨fb,fi*9+3,none⟩ (.int .i64 (wrap64 (f.dep+mi)))).drew=Y at*;clear d3 y2 fr3;have hcf2:=HY.out.F.flight_cells (k:=fi) (by rw[List.length_set];exact HL1.out);rw[getD_set_self HL1.out]at hcf2;have d4:Y.cell? ⟨fb,fi*9+4,none⟩=some (.int .i64 f.arr):=hcf2 4 _ rfl;have y2:Y.cell? ⟨wr.heap.size,2,none⟩=some (.int .i64 mi):=block_cell (HYX.out.trans HRX.out) 2;have fr4:Y.frozen? ⟨fb,fi*9+4,none⟩=false:=HY.out.F.free _;have HV:Hid (AP w #[.slice A1 n1 c1,.slice A2 n2 c2,.slice A3 n3 c3] B0 (Y.setCell ⟨fb,fi*9+4,none⟩ (.int .i64 (wrap64 (f.arr+mi)))).drew (.slice (some ⟨fb,0,none⟩) t.flights.length cf) (.slice (some ⟨cb,0,none⟩) t.flights.length t.flights.length) S2):=by
        have hfm:=HFM.out;show AP _ _ _ _ _ _ _;rw[IntWalk.wrap64_in (f.arr+mi) ⟨by omega,by omega⟩,HEQ.out];have:=(HY.out.setF2 (k:=fi) (y:=delayF f mi) (u:=.int .i64 (f.arr+mi)) (by rw[List.length_set];exact HL1.out) (show 4<9 by decide) (by rw[getD_set_self HL1.out];rfl)).drew;rw[List.set_set]at this;exact this
       clear hcf2 HCF;refine wp_region_still_tail 9 (by kernel_rfl) (by kernel_rfl) ?_;simp only[List.take_succ_cons,List.take_zero,List.drop_succ_cons,List.drop_zero];change wpStill _ _ Y.drew (fun a'=>wpList _ _ _ _ a' Y.drew) _ _
       repeat still_step
       refine wpStill_nil ?_;go_wp2_with fail
       go_roundw
       case rel=>exact⟨q+1,by omega,by go_num,by rw[hS2];exact HV.out⟩
       case measure=>simp[intOf];omega
      ·have HEQ:=qH (HNX.out.trans (appSt_cancel HG.out));have frc:=HAX.out.C.free fi;have HV:Hid (AP w #[.slice A1 n1 c1,.slice A2 n2 c2,.slice A3 n3 c3] B0 ((wr.alloc (.cells #[.int .i64 2,.int .i64 (fi:Int),.int .i64 mi,.string ai,.int .i64 pe,.int .i64 s1,.int .i64 s2] 59)).setCell ⟨cb,fi,none⟩ (.bool true)) (.slice (some ⟨fb,0,none⟩) t.flights.length cf) (.slice (some ⟨cb,0,none⟩) t.flights.length t.flights.length) S2):=by
        show AP _ _ _ _ _ _ _;rw[HEQ.out];exact HAX.out.setC HL2.out
       clear hI3 hz3 hz4 hI1 hI2;go_wp2_with fail
       go_roundw
       case rel=>exact⟨q+1,by omega,by go_num,by rw[hS2];exact HV.out⟩
       case measure=>simp[intOf];omega
      ·have hmi:=hz4 rfl;have HEQ:=qH (HNX.out.trans (appSt_divert HG.out));clear hI3 hz3 hz4 hI1 hI2;have HCF0:=qH (HAX.out.F.flight_cells HL1.out);have d2:=HCF0.out 2 _ rfl;have fr2:=HAX.out.F.free (fi*9+2);go_upto_region 27 with (fail)
       clear d2 fr2 HCF0;have HY:Hid (AP w #[.slice A1 n1 c1,.slice A2 n2 c2,.slice A3 n3 c3] B0 ((wr.alloc (.cells #[.int .i64 3,.int .i64 (fi:Int),.int .i64 mi,.string ai,.int .i64 pe,.int .i64 s1,.int .i64 s2] 59)).setCell ⟨fb,fi*9+2,none⟩ (.string ai)) (.slice (some ⟨fb,0,none⟩) t.flights.length cf) (.slice (some ⟨cb,0,none⟩) t.flights.length t.flights.length) (S.1.set fi { (S.1.getD fi noFlight) with dst:=ai },S.2)) :=
        HAX.out.setF2 HL1.out (show 2<9 by decide) rfl
       have HYX:Hid (((wr.alloc (.cells #[.int .i64 3,.int .i64 (fi:Int),.int .i64 mi,.string ai,.int .i64 pe,.int .i64 s1,.int .i64 s2] 59)).setCell ⟨fb,fi*9+2,none⟩ (.string ai)).heap[wr.heap.size]? = (wr.alloc (.cells #[.int .i64 3,.int .i64 (fi:Int),.int .i64 mi,.string ai,.int .i64 pe,.int .i64 s1,.int .i64 s2] 59)).heap[wr.heap.size]?):=qO _ _ _ _ (by show wr.heap.size≠fb;have:=HFB.out;have:=HAW.out;omega);have HYR:=qH (HYX.out.trans HRX.out);clear HYX HRX HAX zc z0 z1 z2 z3 z4 z5 z6 HBX;generalize (wr.alloc (.cells #[.int .i64 3,.int .i64 (fi:Int),.int .i64 mi,.string ai,.int .i64 pe,.int .i64 s1,.int .i64 s2] 59)).setCell ⟨fb,fi*9+2,none⟩ (.string ai)=Y at*;generalize hf:S.1.getD fi noFlight=f at*;have hcf2:=HY.out.F.flight_cells (k:=fi) (by rw[List.length_set];exact HL1.out);rw[getD_set_self HL1.out]at hcf2;have d4:Y.cell? ⟨fb,fi*9+4,none⟩=some (.int .i64 f.arr):=hcf2 4 _ rfl;have y2:Y.cell? ⟨wr.heap.size,2,none⟩=some (.int .i64 mi):=block_cell HYR.out 2;have fr4:Y.frozen? ⟨fb,fi*9+4,none⟩=false:=HY.out.F.free _;have HV:Hid (AP w #[.slice A1 n1 c1,.slice A2 n2 c2,.slice A3 n3 c3] B0 (Y.setCell ⟨fb,fi*9+4,none⟩ (.int .i64 (wrap64 (f.arr+mi)))).drew (.slice (some ⟨fb,0,none⟩) t.flights.length cf) (.slice (some ⟨cb,0,none⟩) t.flights.length t.flights.length) S2):=by
        have hfm:=HFM.out;show AP _ _ _ _ _ _ _;rw[IntWalk.wrap64_in (f.arr+mi) ⟨by omega,by omega⟩,HEQ.out];have:=(HY.out.setF2 (k:=fi) (y:=divertF f ai mi) (u:=.int .i64 (f.arr+mi)) (by rw[List.length_set];exact HL1.out) (show 4<9 by decide) (by rw[getD_set_self HL1.out];rfl)).drew;rw[List.set_set]at this;exact this
       clear hcf2;refine wp_region_still_tail 9 (by kernel_rfl) (by kernel_rfl) ?_;simp only[List.take_succ_cons,List.take_zero,List.drop_succ_cons,List.drop_zero];change wpStill _ _ Y.drew (fun a'=>wpList _ _ _ _ a' Y.drew) _ _
       repeat still_step
       refine wpStill_nil ?_;go_wp2_with fail
       go_roundw
       case rel=>exact⟨q+1,by omega,by go_num,by rw[hS2];exact HV.out⟩
       case measure=>simp[intOf];omega
    ·obtain rfl:q=l.length:=by omega
     have HLE:=qH (appTo_len t l l.length (qD _));have HSM:=qH (appTo_small HVAL.out HZ.out l.length (qD _));have HSZ:=qH (appTo_sz HT.out HZ.out l.length (qD _));rw[appTo_all]at HLE HSM hap HSZ;have HFL0:Hid (newTT t l=⟨t.zones,t.airports,newFl (appAll t l).1 (appAll t l).2⟩∧indexL t l=(List.range t.flights.length).map (indexI (appAll t l).1 (appAll t l).2)):=⟨rfl,rfl⟩
     generalize newTT t l=NT at*;generalize indexL t l=NI at*;generalize appAll t l=S at*;obtain⟨fl,gone⟩:=S;simp only at HLE HSM HFL0 HSZ;have x0:=block_cell hap.t 0;have x1:=block_cell hap.t 1;have x2:=block_cell hap.t 2;have HCP:=qH (copyPlaces_any t A1 A2 A3 n1 n2 n3 c1 c2 c3 wr (HS1.out wr hap.bel) (HS2.out wr hap.bel) HZ1.out HA1.out HSH.out);have HAP:=qH hap;have hrb:=(Array.getElem?_eq_some_iff.1 hap.res).1;clear hap;go_wp2_with fail
     refine HCP.out.mono ?_;rintro e w3 ⟨A,c,B,d,rfl,hsz3,hsa3,hb3⟩;clear HCP x0 x1 x2;have HA3:=qH (HAP.out.next hb3);have HX3:=qH (SlBox.three (HAP.out.next hb3).res);have HZ3:=qH (hsz3.zone_off HX3.out);have HP3:=qH (hsa3.airport_off HX3.out);clear hsz3 hsa3 HAP;have hrb3:w.heap.size+1<w3.heap.size:=Nat.lt_of_lt_of_le hrb hb3.size;have HW4:Hid (∀ V:World,(∀ b,b≠w.heap.size+1→V.heap[b]? = w3.heap[b]?)→V.heap.size=w3.heap.size→Below w.heap.size w V →
      Sl Ty.zone V (fun b=>b<w3.heap.size∧b≠w.heap.size+1) A t.zones.length c t.zones∧Sl Ty.airport V (fun b=>b<w3.heap.size∧b≠w.heap.size+1) B t.airports.length d t.airports ∧
      OwnS Ty.flight 62 V (fun _=>False) B0 (.slice (some ⟨fb,0,none⟩) t.flights.length cf) fl∧OwnS Ty.bool 4 V (fun _=>False) B0 (.slice (some ⟨cb,0,none⟩) t.flights.length t.flights.length) gone):=fun V hk hs hb=>by
      refine⟨HZ3.out.keep fun b hb=>hk b hb.2,HP3.out.keep fun b hb=>hk b hb.2,HA3.out.F.keep (by omega) (fun q hq=>hk q ?_) (fun _ h=>h.elim),HA3.out.C.keep (by omega) (fun q hq=>hk q ?_) (fun _ h=>h.elim)⟩
      ·have:=(HA3.out.F.lt q hq).1;have:=HA3.out.l;omega
      ·have:=(HA3.out.C.lt q hq).1;have:=HA3.out.l;omega
     have HB4:Hid (∀ a b g,Below w.heap.size w (((w3.setCell ⟨w.heap.size+1,0,none⟩ a).setCell ⟨w.heap.size+1,1,none⟩ b).setCell ⟨w.heap.size+1,2,none⟩ g)):=fun a b g=>((HA3.out.bel.setCell (show w.heap.size≤w.heap.size+1 by omega) _).setCell (show w.heap.size≤w.heap.size+1 by omega) _).setCell (show w.heap.size≤w.heap.size+1 by omega) _
     have HR4:Hid ((((w3.setCell ⟨w.heap.size+1,0,none⟩ (.slice A t.zones.length c)).setCell ⟨w.heap.size+1,1,none⟩ (.slice B t.airports.length d)).setCell ⟨w.heap.size+1,2,none⟩ (.slice none 0 0)).heap[w.heap.size+1]? = some (.cells #[.slice A t.zones.length c,.slice B t.airports.length d,.slice none 0 0] 27 (0,0))):=by
      have:=qS _ (w.heap.size+1) 2 _ _ (.slice none 0 0) (qS _ (w.heap.size+1) 1 _ _ (.slice B t.airports.length d) (qS w3 (w.heap.size+1) 0 _ _ (.slice A t.zones.length c) HA3.out.res));show _=_;simpa using this
     have y0:=block_cell HA3.out.res 0;have y1:=block_cell HA3.out.res 1;have y2:=block_cell HA3.out.res 2;have f0:=block_free HA3.out.res 0;have f1:=block_free HA3.out.res 1;have f2:=block_free HA3.out.res 2;have hmi:=fun w=>run_make_row' (P:=Tryz.prog) 22 3 (.int .i64 0) 8 Tryz.underlying22 (by kernel_rfl) rfl .i64 .i64 t.flights.length (by omega) (by omega) w
     clear hb3;go_upto_region 33 with (fail)
     have hb4:=HB4.out (.slice A t.zones.length c) (.slice B t.airports.length d) (.slice none 0 0);have hr4:=HR4.out;have hw4:=HW4.out (((w3.setCell ⟨w.heap.size+1,0,none⟩ (.slice A t.zones.length c)).setCell ⟨w.heap.size+1,1,none⟩ (.slice B t.airports.length d)).setCell ⟨w.heap.size+1,2,none⟩ (.slice none 0 0)) (fun b hb=>by
      rw[qO _ _ _ _ hb,qO _ _ _ _ hb,qO _ _ _ _ hb]) (by simp) hb4
     have hs4:(((w3.setCell ⟨w.heap.size+1,0,none⟩ (.slice A t.zones.length c)).setCell ⟨w.heap.size+1,1,none⟩ (.slice B t.airports.length d)).setCell ⟨w.heap.size+1,2,none⟩ (.slice none 0 0)).heap.size=w3.heap.size:=by simp
     clear HB4 HR4 HW4 y0 y1 y2 f0 f1 f2 HA3 HX3 HZ3 HP3;generalize ((w3.setCell ⟨w.heap.size+1,0,none⟩ (.slice A t.zones.length c)).setCell ⟨w.heap.size+1,1,none⟩ (.slice B t.airports.length d)).setCell ⟨w.heap.size+1,2,none⟩ (.slice none 0 0)=w4 at*;rw[←hs4]at hw4 hrb3 ⊢;clear hs4 hmi w3;obtain⟨hz4,ha4,hF4,hC4⟩:=hw4;have hb5:=(qC w4.heap.size w4).alloc (qD _) (.cells (madeCells #[.int .i64 0] t.flights.length) 3);have hI5:=OwnS.made (t:=Ty.int .i64) (e:=3) (w:=w4) (S:=fun _=>False) (base:=w4.heap.size) (n:=t.flights.length) (z:=.int .i64 0) (x:=0) rfl (fun _ _=>rfl) (qD _) (by unfold maxLen;omega);have hs5:(w4.alloc (.cells (madeCells #[.int .i64 0] t.flights.length) 3)).heap.size=w4.heap.size+1:=by simp
     generalize w4.alloc (.cells (madeCells #[.int .i64 0] t.flights.length) 3)=w5 at*;have hb05:Below w.heap.size w w5:=hb4.trans (hb5.mono hb4.size);have hr5:=(hb5.block _ hrb3).trans hr4;have hz5:=hz4.keep fun b hb=>hb5.block b hb.1
     have ha5:=ha4.keep fun b hb=>hb5.block b hb.1
     have hF5:=hF4.next hb5 fun _ h=>h.elim
     have hC5:=hC4.next hb5 fun _ h=>h.elim
     have hfl4:=(hF4.lt fb rfl).2;have hcl4:=(hC4.lt cb rfl).2;clear hb4 hr4 hz4 ha4 hF4 hC4;generalize w4.heap.size=ib at*;have hle1:fl.length=t.flights.length:=HLE.out.1;have hle2:gone.length=t.flights.length:=HLE.out.2;obtain⟨Af,cf5,ef,hslF⟩:=hF5.sl;obtain⟨Ac,cc5,ec,hslC⟩:=hC5.sl;have hFlt:=hF5.lt fb rfl;have hClt:=hC5.lt cb rfl;have HC:=qH (order_any fl gone (some ⟨fb,0,none⟩) (some ⟨cb,0,none⟩) t.flights.length cf t.flights.length t.flights.length w5 (by
      injection ef with e1 e2 e3
      subst e1 e3;rw[hle1]at hslF;exact hslF.more fun b hb=>by
       rcases hb with h|h
       ·exact h.elim
       ·injection h with h;subst h;exact hFlt.2) (by
      injection ec with e1 e2 e3
      subst e1 e3;rw[hle2]at hslC;exact hslC.more fun b hb=>by
       rcases hb with h|h
       ·exact h.elim
       ·injection h with h;subst h;exact hClt.2) (by omega) (by rw[hle1];exact HF0.out) (by omega) (fun f hf=>by have:=HSM.out f hf;omega))
     clear hslF hslC ef ec;have HF5:=qH hF5;have HC5:=qH hC5;have HZ5:=qH hz5;have HA5:=qH ha5;have HR5:=qH hr5;have HI5:=qH hI5;have HB05:=qH hb05;have HS5b:=qH hs5;clear hF5 hC5 hz5 ha5 hr5 hI5 hb05 hb5;go_wp2_with fail
     refine HC.out.mono ?_;rintro e w6 ⟨vo,rfl,hoO,hb6⟩;obtain⟨Ao,co,rfl,hslO⟩:=hoO.sl;have hiw:ib<w5.heap.size:=by omega
     have HAZ:Hid (AZ t w w6 w6 ib w6.heap.size t.flights.length A B c d (.slice none 0 0) (ixTo fl gone 0) ((newFl fl gone).take 0)):=by
      refine⟨Kx.refl _ _ _,(hb6.block _ (by omega)).trans HR5.out, ?_,Own.nil,by omega,by have:=hb6.size;omega,qD _⟩;rw[ixTo_zero,hle2];exact HI5.out.next hb6 fun _ h=>h.elim
     have HF6:=qH (HF5.out.next hb6 fun _ h=>h.elim);have HC6:=qH (HC5.out.next hb6 fun _ h=>h.elim);have HZ6:=qH (HZ5.out.keep fun b hb=>hb6.block b (by omega));have HA6:=qH (HA5.out.keep fun b hb=>hb6.block b (by omega));have HB06:=qH (HB05.out.trans (hb6.mono HB05.out.size));have HO6:=qH hslO;have HLT:Hid (fb<ib∧cb<ib∧w.heap.size+2≤B0∧ib<w5.heap.size∧w5.heap.size≤w6.heap.size):=by
      exact⟨hfl4,hcl4,hsz,hiw,hb6.size⟩
     have hol:(orderI fl gone).length≤t.flights.length:=by rw[order_len, ←hle2];exact leftI_le gone
     clear HC hb6 hoO hslO HF5 HC5 HZ5 HA5 HR5 HI5 HB05 HS5b hs5;go_wp2_with fail
     generalize hNO:(orderI fl gone).length=NO at*;go_loopw [128] (fun s wr => ∃ (k:Nat) (v3:Value),k≤NO∧s=.int .i64 k∧AZ t w w6 wr ib w6.heap.size t.flights.length A B c d v3 (ixTo fl gone k) ((newFl fl gone).take k)) (fun s _=>NO-(intOf s).toNat)
     case atStart=>exact⟨0,_,qV _,rfl,HAZ.out⟩
     case round =>
      obtain⟨p,v3,hp,rfl,haz⟩:=hrel;clear HAZ;have hlt6:=HLT.out
      by_cases hlt3:p<NO
      ·obtain⟨i,hoi,hig,hix⟩:=ixTo_set fl gone (k:=p) (by omega);have HIX:=qH hix;have HNF:=qH (newFl_take fl gone (by omega) hoi);have hsO:=HO6.out.keep (w':=wr) fun b hb=>haz.k.block b hb.2 (by rintro (h|h) <;> omega)
       obtain⟨bo,oo,rfl,hSo,zo⟩:=hsO.int_at (k:=p) (by omega);rw[hoi]at zo;have hif:i<t.flights.length:=by omega
       have HFC:=qH (HF6.out.flight_cells (k:=i) (by omega));generalize fl.getD i noFlight=f at*;have hfbr:fb<w6.heap.size:=by omega
       have HFR:Hid (wr.heap[fb]? = w6.heap[fb]?):=haz.k.block fb hfbr (by rintro (h|h) <;> omega);have HAZ:=qH haz;have hrl:w6.heap.size≤wr.heap.size:=haz.l.2.2;have hp19:p≤19:=by omega
       clear hsO haz hix hoi;go_upto_region 36 with (fail)
       clear zo;refine wp_region_factsB 7 [133,134,135,136,137,138,139] (azF (w.heap.size+1) fb i wr.heap.size v3 (.slice (some ⟨fb,0,none⟩) t.flights.length cf) f) (by kernel_rfl) (by kernel_rfl) (by kernel_rfl) (by kernel_rfl) (by kernel_rfl) azF_keep ?_ ?_
       ·intro q o hq ho a' w7 hb7 hout hpre K hK;have hq':q=0∨q=1∨q=2∨q=3∨q=4∨q=5∨q=6:=by omega
        have hrz:=(Array.getElem?_eq_some_iff.1 HAZ.out.res).1;rcases hq' with rfl|rfl|rfl|rfl|rfl|rfl|rfl
        ·obtain rfl:=qB ho;have e1:a'.tmps[4]? = some (.pointer (some ⟨w.heap.size+1,0,none⟩)):=hout 4 (by decide);go_simp
         exact hK _ w7 rfl (qC _ _)
        ·obtain rfl:=qB ho;have p0:a'.tmps.getD 133 undef=.pointer (some ⟨w.heap.size+1,2,none⟩):=hpre ⟨0,.data⟩ (by simp) 133 rfl;simp only[qA]at p0;have y0:w7.cell? ⟨w.heap.size+1,2,none⟩=some v3:=(cell_of_same (a:=⟨w.heap.size+1,2,none⟩) (hb7.block _ hrz)).trans (block_cell HAZ.out.res 2);go_simp
         exact hK _ w7 rfl (qC _ _)
        ·obtain rfl:=qB ho;have e1:a'.tmps[11]? = some (.slice (some ⟨fb,0,none⟩) t.flights.length cf):=hout 11 (by decide);go_simp
         exact hK _ w7 rfl (qC _ _)
        ·obtain rfl:=qB ho;have e1:a'.tmps[17]? = some (.int .i64 i):=hout 17 (by decide);go_simp
         exact hK _ w7 rfl (qC _ _)
        ·obtain rfl:=qB ho;have p0:a'.tmps.getD 135 undef=.slice (some ⟨fb,0,none⟩) t.flights.length cf:=hpre ⟨2,.data⟩ (by simp) 135 rfl;have p1:a'.tmps.getD 136 undef=.int .i64 i:=hpre ⟨3,.data⟩ (by simp) 136 rfl;simp only[qA]at p0 p1;have hi0:(0:Int)≤(i:Int):=by omega
         have hi1:(i:Int)<(t.flights.length:Int):=by omega
         go_simp
         exact hK _ w7 rfl (qC _ _)
        ·obtain rfl:=qB ho;have p0:a'.tmps.getD 137 undef=.pointer (some ⟨fb,i*9,none⟩):=hpre ⟨4,.data⟩ (by simp) 137 rfl;simp only[qA]at p0;have hc : ∀ j u,(flightCells f)[j]? = some u→w7.cell? ⟨fb,i*9+j,none⟩=some u:=fun j u hu=>(cell_of_same (a:=⟨fb,i*9+j,none⟩) ((hb7.block _ (show fb<wr.heap.size by omega)).trans HFR.out)).trans (HFC.out j u hu)
         have k0:=hc 0 _ rfl;rw[Nat.add_zero]at k0;have k1:=hc 1 _ rfl;have k2:=hc 2 _ rfl;have k3:=hc 3 _ rfl;have k4:=hc 4 _ rfl;have k5:=hc 5 _ rfl;have k6:=hc 6 _ rfl;have k7:=hc 7 _ rfl;have k8:=hc 8 _ rfl;clear hc;go_simp
         exact hK _ w7 rfl (qC _ _)
        ·obtain rfl:=qB ho;have p0:a'.tmps.getD 138 undef=.agg (flightCells f).toArray:=hpre ⟨5,.data⟩ (by simp) 138 rfl;simp only[qA]at p0;unfold flightCells at p0;go_simp
         exact hK _ _ ⟨w7.heap.size,rfl,hb7.size,qK _ _⟩ ((qC _ _).alloc (qD _) _)
       ·intro us w7 hb7 hfacts;obtain⟨g,h6,hg6,hc6⟩:=hfacts 6 (by decide);have h1:us 1=v3:=hfacts 1 (by decide);clear hfacts;simp only[putL,Act.put,List.setIfInBounds_toArray,List.set_cons_zero,List.set_cons_succ,Nat.zero_add,Nat.reduceAdd];generalize us 6=x6 at*;generalize us 1=x1 at*;subst x1;subst x6;simp only[List.drop_succ_cons,List.drop_zero];have HB7:=qH hb7;have HN7:=qH (HAZ.out.N.next hb7);have HAT:=qH (At.of_block hc6);have hz7:w6.heap.size≤w7.heap.size:=by have:=hb7.size;omega
        have htk:((newFl fl gone).take p).length≤19:=by rw[List.length_take];omega
        clear hb7 hc6;go_wp2_with (at_builtin;refine wpList_push (t:=Ty.flight) rfl _ _ _ rfl 104 elem_flight rfl HN7.out g f (fun _=>False) rfl ⟨flightCells f,rfl,HAT.out⟩ (fun _ h=>h.elim) ?c1 (by decide) hz7 ?_)
        case c1=>omega
        intro v' w8 hown8 hgr8;rw[←HNF.out]at hown8;obtain⟨A9,c9,rfl, -⟩:=hown8.sl;have HY8:=qH (HAZ.out.box8 HB7.out hgr8);have HZ8:=qH (HAZ.out.push HB7.out hgr8 hown8);have y2:=block_cell HY8.out 2;have f2:=block_free HY8.out 2;generalize ((newFl fl gone).take (p+1)).length=m9 at*;clear hown8 hgr8 HN7 HAT HFR;go_upto_region 37 with (fail)
        have HY9:Hid (∀ x,AZ t w w6 ((w8.setCell ⟨w.heap.size+1,2,none⟩ (.slice A9 m9 c9)).setCell ⟨ib,i,none⟩ (.int .i64 x)) ib w6.heap.size t.flights.length A B c d (.slice A9 m9 c9) ((ixTo fl gone p).set i x) ((newFl fl gone).take (p+1))):=fun x=>HZ8.out.setI (by rw[ixTo_len];omega) x
        have y3:=HZ8.out.I.int_cell (k:=i) (by rw[ixTo_len];omega);have f3:=HZ8.out.I.free i;have hi0:(0:Int)≤(i:Int):=by omega
        have hi1:(i:Int)<(t.flights.length:Int):=by omega
        clear y2 f2 HY8;generalize w8.setCell ⟨w.heap.size+1,2,none⟩ (.slice A9 m9 c9)=w9 at*;go_wp2_with fail
        go_roundw
        case rel=>exact⟨p+1,_,by omega,by go_num,by rw[←HIX.out];exact HY9.out _⟩
        case measure=>simp[intOf];omega
      ·obtain rfl:p=NO:=by omega
       rw[List.take_of_length_le (by rw[newFl_len];omega)]at haz;have hix:ixTo fl gone p=ixTo2 fl gone 0:=by rw[←ixTo_all,hNO]
       rw[hix]at haz;have HAZ:=qH haz;have hgl:gone.length=t.flights.length:=hle2;clear haz hix;go_wp2_with fail
       go_loopw [149] (fun s wr => ∃ k:Nat,k≤t.flights.length∧s=.int .i64 k∧AZ t w w6 wr ib w6.heap.size t.flights.length A B c d v3 (ixTo2 fl gone k) (newFl fl gone)) (fun s _=>t.flights.length-(intOf s).toNat)
       case atStart=>exact⟨0,qV _,rfl,HAZ.out⟩
       case round =>
        obtain⟨j,hj,rfl,haz⟩:=hrel;clear HAZ;have HAZ:=qH haz
        by_cases hltj:j<t.flights.length
        ·have zc:wr.cell? ⟨cb,j,none⟩=some (.bool (gone.getD j false)):=(cell_of_same (a:=⟨cb,j,none⟩) (haz.k.block cb (by omega) (by rintro (h|h) <;> omega))).trans (HC6.out.bool_cell (k:=j) (by omega));have y3:=haz.I.int_cell (k:=j) (by rw[ixTo2_len];omega);have f3:=haz.I.free j;clear haz
         cases hg:gone.getD j false with
         | true =>
          rw[hg]at zc;have HV:Hid (AZ t w w6 (wr.setCell ⟨ib,j,none⟩ (.int .i64 (-1))) ib w6.heap.size t.flights.length A B c d v3 (ixTo2 fl gone (j+1)) (newFl fl gone)):=by
           show AZ _ _ _ _ _ _ _ _ _ _ _ _ _ _;rw[←ixTo2_gone fl gone hg];exact HAZ.out.setI (by rw[ixTo2_len];omega) _
          clear hg;go_wp2_with fail
          go_roundw
          case rel=>exact⟨j+1,by omega,by go_num,HV.out⟩
          case measure=>simp[intOf];omega
         | false =>
          rw[hg]at zc;have HV:Hid (AZ t w w6 wr ib w6.heap.size t.flights.length A B c d v3 (ixTo2 fl gone (j+1)) (newFl fl gone)):=by
           show AZ _ _ _ _ _ _ _ _ _ _ _ _ _ _;rw[←ixTo2_left fl gone hg];exact HAZ.out
          clear hg y3 f3;go_wp2_with fail
          go_roundw
          case rel=>exact⟨j+1,by omega,by go_num,HV.out⟩
          case measure=>simp[intOf];omega
        ·obtain rfl:j=t.flights.length:=by omega
         have HNI:Hid (NI=ixTo2 fl gone t.flights.length):=by
          show _=_;rw[HFL0.out.2, ←hgl,ixTo2_all]
         have HNT:Hid (NT=⟨t.zones,t.airports,newFl fl gone⟩):=HFL0.out.1;have hbw:Below w.heap.size w wr:=HB06.out.trans (haz.k.below (by omega) (by rintro q (h|h) <;> omega));have hok:GTT.ok ⟨t.zones,t.airports,newFl fl gone⟩:=newTT_ok HT.out (by omega) HSM.out HSZ.out (by omega);have hbx : ∀ b,b<w6.heap.size→b≠w.heap.size+1→b≠ib→wr.heap[b]? = w6.heap[b]? :=fun b h1 h2 h3=>haz.k.block b h1 (by rintro (h|h) <;> omega)
         have hw6:=haz.l.2.2;have hszV:=(HZ6.out.keep (w':=wr) fun b hb=>hbx b (by omega) hb.2 (by omega)).more (S':=fun b=>b<w6.heap.size∧b≠w.heap.size+1) fun b hb=>⟨by omega,hb.2⟩
         have hsaV:=(HA6.out.keep (w':=wr) fun b hb=>hbx b (by omega) hb.2 (by omega)).more (S':=fun b=>b<w6.heap.size∧b≠w.heap.size+1) fun b hb=>⟨by omega,hb.2⟩
         obtain⟨Ax,cx,ex,hsxV⟩:=haz.I.sl;rw[ixTo2_len,hgl]at ex hsxV;injection ex with ex1 ex2 ex3
         subst ex1 ex3;have hnl:=haz.N.lt;have hil:=haz.I.lt ib rfl;obtain⟨A9,c9,e9,hsfV⟩:=haz.N.sl;subst e9;have hrl:=(Array.getElem?_eq_some_iff.1 haz.res).1;have HC:=qH (validate_any ⟨t.zones,t.airports,newFl fl gone⟩ A B A9 _ _ _ c d c9 wr hok (hszV.more fun b hb=>Nat.lt_of_lt_of_le hb.1 hw6) (hsaV.more fun b hb=>Nat.lt_of_lt_of_le hb.1 hw6) (hsfV.more fun b hb=>hb.2));rw[←HNT.out]at HC;have x0:=block_cell haz.res 0;have x1:=block_cell haz.res 1;have x2:=block_cell haz.res 2;have HX:=qH haz.res;have HBW:=qH hbw;have HSZV:=qH hszV;have HSAV:=qH hsaV;have HSFV:=qH hsfV;have HSXV:=qH hsxV;have HNL:=qH hnl;generalize hz9:t.zones.length=nz at*;generalize ha9:t.airports.length=na at*;generalize hf9:(newFl fl gone).length=nf at*;generalize hte:ttE NT=te at*;clear haz hbw hok hbx hszV hsaV hsfV hsxV hnl hol HAZ;go_wp2_with fail
         refine HC.out.mono ?_;rintro e w10 ⟨rfl,hb10⟩;clear HC x0 x1 x2;have HX10:Hid (w10.heap[w.heap.size+1]? = _):=(hb10.block _ hrl).trans HX.out;have HBW10:Hid (Below w.heap.size w w10):=HBW.out.trans (hb10.mono HBW.out.size);have HB10:=qH hb10;have z0:=block_cell HX10.out 0;have z1:=block_cell HX10.out 1;have z2:=block_cell HX10.out 2;have f0:=block_free HX10.out 0;have f1:=block_free HX10.out 1;have f2:=block_free HX10.out 2;clear hb10
         by_cases hc:te=0
         case neg =>
          have hc':(te != 0)=true:=by simpa using hc
          have HF:Hid (res=(⟨[],[],[]⟩,[],te)):=by show _=_;rw[HP2.out,qR hc]
          have HFIN:Hid (∀ a b c,Below w.heap.size w (((w10.setCell ⟨w.heap.size+1,0,none⟩ a).setCell ⟨w.heap.size+1,1,none⟩ b).setCell ⟨w.heap.size+1,2,none⟩ c)):=fun a b c=>((HBW10.out.setCell (show w.heap.size≤w.heap.size+1 by omega) _).setCell (show w.heap.size≤w.heap.size+1 by omega) _).setCell (show w.heap.size≤w.heap.size+1 by omega) _
          clear hc;go_wp2_with fail
          refine bodyPost_ret (v:=.tuple #[.agg #[.slice none 0 0,.slice none 0 0,.slice none 0 0],.slice none 0 0,.int .i64 te]) (by simp[results,Tryz.results19,go_sem,z0,z1,z2]) rfl ?_;rw[HF.out];exact apply_nil (HFIN.out _ _ _)
         case pos =>
          have HF:Hid (res=(NT,NI,0)):=by show _=_;rw[HP2.out,qN (by simpa using hc)]
          subst hc;have HFIN:Hid (ApplyPost res w (.returned (.tuple #[.agg #[.slice A nz c,.slice B na d,.slice A9 nf c9],.slice (some ⟨ib,0,none⟩) t.flights.length t.flights.length,.int .i64 0]))
           (((w10.setCell ⟨w.heap.size+1,0,none⟩ (.slice A nz c)).setCell ⟨w.heap.size+1,1,none⟩ (.slice B na d)).setCell ⟨w.heap.size+1,2,none⟩ (.slice A9 nf c9))):=by
           have hk2 : ∀ q,q≠w.heap.size+1→(((w10.setCell ⟨w.heap.size+1,0,none⟩ (.slice A nz c)).setCell ⟨w.heap.size+1,1,none⟩ (.slice B na d)).setCell ⟨w.heap.size+1,2,none⟩ (.slice A9 nf c9)).heap[q]? = w10.heap[q]? :=fun q hq=>by
            rw[qO _ _ _ _ hq,qO _ _ _ _ hq,qO _ _ _ _ hq]
           have hs2:(((w10.setCell ⟨w.heap.size+1,0,none⟩ (.slice A nz c)).setCell ⟨w.heap.size+1,1,none⟩ (.slice B na d)).setCell ⟨w.heap.size+1,2,none⟩ (.slice A9 nf c9)).heap.size=w10.heap.size:=by simp
           have hbb:=HB10.out;have hsz:=hbb.size;have hw6':=hw6;show ApplyPost _ _ _ _;rw[HF.out,HNT.out,HNI.out];refine⟨A,nz,c,B,na,d,A9,nf,c9,some ⟨ib,0,none⟩,t.flights.length,t.flights.length,rfl,(HSZV.out.keep fun b hb=>(hk2 b hb.2).trans (hbb.block b (by omega))).more fun b hb =>?_,(HSAV.out.keep fun b hb=>(hk2 b hb.2).trans (hbb.block b (by omega))).more fun b hb =>?_,(HSFV.out.keep fun b hb=>(hk2 b (by omega)).trans (hbb.block b hb.2)).more fun b hb =>?_,(HSXV.out.keep fun b hb =>?_).more fun b hb =>?_, ?_⟩
           ·show b<_;rw[hs2];omega
           ·show b<_;rw[hs2];omega
           ·show b<_;rw[hs2];omega
           ·rcases hb with h|h
            ·exact h.elim
            ·injection h with h
             subst h;exact(hk2 ib (by omega)).trans (hbb.block ib hil.2)
           ·rcases hb with h|h
            ·exact h.elim
            ·injection h with h
             subst h;show ib<_;rw[hs2];omega
           ·exact((HBW10.out.setCell (show w.heap.size≤w.heap.size+1 by omega) _).setCell (show w.heap.size≤w.heap.size+1 by omega) _).setCell (show w.heap.size≤w.heap.size+1 by omega) _
          have hc9:((0:Int) != 0)=false:=rfl;go_wp2_with fail
          refine bodyPost_ret (v:=.tuple #[.agg #[.slice A nz c,.slice B na d,.slice A9 nf c9],.slice (some ⟨ib,0,none⟩) t.flights.length t.flights.length,.int .i64 0]) (by simp[results,Tryz.results19,go_sem,z0,z1,z2]) rfl ?_;exact HFIN.out
end Go.Proofs.YtifconapjfdkcaaGreatDoor
