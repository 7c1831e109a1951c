/-
  Plain facts about the text of valid incidents: the lines' parts and their lengths; the builder while it is written.
  Condition: the incidents are valid, where a length is bounded.
-/
import Derived.Test.YtifconapjfdkcaaGreatDoorDAA
import Derived.Test.YtifconapjfdkcaaGreatDoorDAN
import Derived.Test.YtifconapjfdkcaaGreatDoorDAP
set_option linter.unusedSimpArgs false
set_option linter.unusedVariables false
set_option maxRecDepth 100000
set_option maxHeartbeats 12800000
namespace Go.Proofs.YtifconapjfdkcaaGreatDoor
open Go.RowKit
def FmtPost(r:ByteArray×Int)(w:World)(e:Ending)(w':World):Prop:=e=.returned (.tuple #[.string r.1,.int .i64 r.2])∧Below w.heap.size w w'
theorem dataApp(a b:ByteArray):(a++b).data.toList=a.data.toList++b.data.toList:=by rw[ByteArray.data_append,Array.toList_append]
theorem blank_data:blankS.data.toList=[32]:=rfl
theorem nl_eq:(⟨#[10]⟩:ByteArray).data.toList=[10]:=rfl
theorem sz1(a:UInt8):(⟨#[a]⟩:ByteArray).size=1:=rfl
theorem szSick:(⟨#[115,105,99,107,32]⟩:ByteArray).size=5:=rfl
theorem szDelay:(⟨#[100,101,108,97,121,32]⟩:ByteArray).size=6:=rfl
theorem szCancel:(⟨#[99,97,110,99,101,108,32]⟩:ByteArray).size=7:=rfl
theorem szDivert:(⟨#[100,105,118,101,114,116,32]⟩:ByteArray).size=7:=rfl
theorem textT_snoc(a:List (List ByteArray))(f:List ByteArray):textT (a++[f])=textT a++(lineT f++[10]):=by
 rw[textT_app];rfl
theorem map_take_snoc{α β : Type}(f : α → β){l:List α}{j:Nat}(h:j<l.length)(d : α):(l.take (j+1)).map f=(l.take j).map f++[f (l.getD j d)]:=by
 rw[List.take_add_one,qG h,qF,qG h,List.map_append];rfl
theorem sick_eq(i a b c d:ByteArray):((⟨#[115,105,99,107,32]⟩:ByteArray)++i++(⟨#[32]⟩:ByteArray)++(a++blankS++b)++(⟨#[32]⟩:ByteArray)++(c++blankS++d)++(⟨#[10]⟩:ByteArray)).data.toList=lineT [sickS,i,a,b,c,d]++[10]:=by
 have e:sickS.data.toList=[115,105,99,107]:=rfl;simp only[dataApp,lineT,restT,List.append_assoc,e,blank_data,List.cons_append,List.nil_append,List.append_nil]
theorem delay_eq(n a b m:ByteArray):((⟨#[100,101,108,97,121,32]⟩:ByteArray)++(n++(⟨#[32]⟩:ByteArray)++(a++blankS++b))++(⟨#[32]⟩:ByteArray)++m).data.toList=lineT [delayS,n,a,b,m]:=by
 have e:delayS.data.toList=[100,101,108,97,121]:=rfl;simp only[dataApp,lineT,restT,List.append_assoc,e,blank_data,List.cons_append,List.nil_append,List.append_nil]
theorem cancel_eq(n a b:ByteArray):((⟨#[99,97,110,99,101,108,32]⟩:ByteArray)++(n++(⟨#[32]⟩:ByteArray)++(a++blankS++b))).data.toList=lineT [cancelS,n,a,b]:=by
 have e:cancelS.data.toList=[99,97,110,99,101,108]:=rfl;simp only[dataApp,lineT,restT,List.append_assoc,e,blank_data,List.cons_append,List.nil_append,List.append_nil]
theorem divert_eq(n a b p m:ByteArray):((⟨#[100,105,118,101,114,116,32]⟩:ByteArray)++(n++(⟨#[32]⟩:ByteArray)++(a++blankS++b))++(⟨#[32]⟩:ByteArray)++p++(⟨#[32]⟩:ByteArray)++m).data.toList=lineT [divertS,n,a,b,p,m]:=by
 have e:divertS.data.toList=[100,105,118,101,114,116]:=rfl;simp only[dataApp,lineT,restT,List.append_assoc,e,blank_data,List.cons_append,List.nil_append,List.append_nil]
theorem num_le{n:Int}(h:0≤n∧n≤999999):(numS n).size≤10:=by
 unfold numS;rw[bs_size,Lib.itoa,qN (by omega),Lib.decDigits_length];exact(nDigits_ten n.toNat).2 (by omega)
theorem ins_le{t:Int}(h:0≤t∧t<52596000):(insD t++blankS++insC t).size≤16:=by
 rw[qJ,qJ,(insD_fld h.1 h.2).2,insC_fld.2];decide
structure IGood(t:GTT)(x:GInc):Prop where
 kind:x.kind=1∨x.kind=2∨x.kind=3∨x.kind=4
 sick:x.kind=4→(1≤x.person∧x.person≤999999)∧0≤x.span.at_∧x.span.at_<x.span.off∧x.span.off≤52596000
 fl:x.kind≠4→(0≤x.flight∧x.flight.toNat<t.flights.length)∧(t.flights.getD x.flight.toNat noFlight).number.size≤16∧0≤(t.flights.getD x.flight.toNat noFlight).dep∧(t.flights.getD x.flight.toNat noFlight).dep<52596000
 min:0≤x.minutes∧x.minutes≤1440
 air:x.airport.size≤3
theorem fl_good2{t:GTT}(h:t.valid){k:Nat}(hk:k<t.flights.length):(t.flights.getD k noFlight).number.size≤16∧0≤(t.flights.getD k noFlight).dep∧(t.flights.getD k noFlight).dep<52596000:=by
 have h1:=(fErr_zero (h.f k hk)).1;have a:=h1.dep;have b:=h1.arr;have c:=h1.lt;have hn:=h1.number;unfold isCodeB at hn;simp only[qI,qL]at hn;omega
theorem air_le{t:GTT}(h:t.valid){c:ByteArray}(hc:hasB (aCodes t.airports) c=true):c.size≤3:=by
 rw[hasB_iff,aCodes,List.mem_map]at hc;obtain⟨a,ha,rfl⟩:=hc;obtain⟨i,hi,rfl⟩:=mem_getD ha noAirport;have:=(aErr_zero (h.a i hi)).1;unfold isAirportB at this;simp only[qI,beq_iff_eq]at this;omega
theorem noStr_size:noStr.size=0:=rfl
theorem igood{t:GTT}{ps:List GPerson}{x:GInc}(ht:t.valid)(hid : ∀ p∈ps,1≤p.id∧p.id≤999999)(h:incE1 t ps x=0):IGood t x:=by
 obtain⟨kind,flight,minutes,airport,person,⟨a,b⟩⟩:=x;unfold incE1 at h
 dsimp only at h
 split at h
 ·cases h
 rename_i hk;split at h
 ·rename_i hk4;subst hk4;split at h
  ·cases h
  rename_i hm;split at h
  ·cases h
  rename_i hv;split at h
  ·cases h
  rename_i hs;have hs:shapedI ⟨4,flight,minutes,airport,person,⟨a,b⟩⟩=true:=by simpa using hs
  unfold shapedI at hs;simp only[show ¬((4:Int)=1) by decide,show ¬((4:Int)=2) by decide,show ¬((4:Int)=3) by decide,if_false,qI,qL]at hs;obtain⟨⟨rfl,rfl⟩,rfl⟩:=hs;have hv:vacOk ⟨a,b⟩=true:=by simpa using hv
  unfold vacOk at hv;simp only[qI,qL]at hv;have hp:1≤person∧person≤999999:=by
   have hm:hasI (pIds ps) person=true:=by simpa using hm
   unfold hasI pIds at hm;rw[List.any_eq_true]at hm;obtain⟨y,hy,e⟩:=hm;rw[List.mem_map]at hy;obtain⟨p,hp,rfl⟩:=hy;have e:=of_decide_eq_true e;rw[e];exact hid p hp
  exact⟨.inr (.inr (.inr rfl)),fun _=>⟨hp,by simp only;omega⟩,fun h=>absurd rfl h,by simp only;omega,by rw[noStr_size];omega⟩
 ·rename_i hk4;split at h
  ·rename_i hz;exact absurd h hz
  rename_i hz;have hz:=Classical.not_not.1 hz;split at h
  ·cases h
  rename_i hs;have hs:shapedI ⟨kind,flight,minutes,airport,person,⟨a,b⟩⟩=true:=by simpa using hs
  unfold flightIncE at hz
  dsimp only at hz
  split at hz
  ·cases hz
  rename_i hfl;have hf1:0≤flight∧flight.toNat<t.flights.length:=by omega
  have hg:=fl_good2 ht hf1.2;unfold shapedI at hs
  dsimp only at hs
  have hk3:kind=1∨kind=2∨kind=3:=by omega
  rcases hk3 with rfl|rfl|rfl
  ·rw[qR rfl]at hz hs;split at hz
   ·cases hz
   rename_i hmn;simp only[qI,qL]at hs;obtain⟨⟨⟨rfl,rfl⟩,rfl⟩,rfl⟩:=hs;exact⟨.inl rfl,fun h=>absurd h (show ¬(1:Int)=4 by decide),fun _=>⟨hf1,hg⟩,by simp only;omega,by rw[noStr_size];omega⟩
  ·rw[qN (by decide)]at hs;rw[qR rfl]at hs;simp only[qI,qL]at hs;obtain⟨⟨⟨⟨rfl,rfl⟩,rfl⟩,rfl⟩,rfl⟩:=hs;exact⟨.inr (.inl rfl),fun h=>absurd h (show ¬(2:Int)=4 by decide),fun _=>⟨hf1,hg⟩,by simp only;omega,by rw[noStr_size];omega⟩
  ·rw[qN (by decide),qN (by decide),qR rfl]at hs;rw[qN (by decide),qR rfl]at hz;split at hz
   ·cases hz
   rename_i hha;split at hz
   ·cases hz
   split at hz
   ·cases hz
   rename_i hmn;exact⟨.inr (.inr (.inl rfl)),fun h=>absurd h (show ¬(3:Int)=4 by decide),fun _=>⟨hf1,hg⟩,by simp only;omega,air_le ht (by simpa using hha)⟩
theorem incE_good{t:GTT}{ps:List GPerson}{l:List GInc}(h:incE t ps l=0):l.length≤32 ∧ ∀ x∈l,IGood t x:=by
 have h0:=h;unfold incE at h0;split at h0
 ·rename_i h1;exact absurd h0 h1
 rename_i hc;have hc:=Classical.not_not.1 hc;split at h0
 ·cases h0
 rename_i hlen;have htt:t.valid:=by
  unfold crewE at hc;split at hc
  ·rename_i h1;exact absurd hc h1
  ·rename_i h1;exact ttE_zero.1 (Classical.not_not.1 h1)
 have hid:=ids_pos hc;refine⟨by omega,fun x hx =>?_⟩;obtain⟨i,hi,rfl⟩:=List.getElem_of_mem hx;have:=firstErr_zero h0 i hi;have e:l.getD i noInc=l[i]:=by rw[qF,qG hi];rfl
 rw[e]at this;exact igood htt hid this
theorem incF_up{t:GTT}{x:GInc}(h:IGood t x):(lineT (incF t x)++[10]).length≤80:=by
 rw[List.length_append,List.length_singleton];have hm:=num_le (n:=x.minutes) ⟨h.min.1,by have:=h.min;omega⟩;have ha:=h.air;have e1:sickS.data.toList.length=4:=rfl;have e2:delayS.data.toList.length=5:=rfl;have e3:cancelS.data.toList.length=6:=rfl;have e4:divertS.data.toList.length=6:=rfl;unfold incF
 by_cases h4:x.kind=4
 ·obtain⟨hp,hs⟩:=h.sick h4;have hq:=num_le (n:=x.person) ⟨by omega,hp.2⟩;have a:=(insD_fld (t:=x.span.at_) (by omega) (by omega)).2;have b:=(insC_fld (t:=x.span.at_)).2;have c:=(insD_fld (t:=x.span.off-1) (by omega) (by omega)).2;have d:=(insC_fld (t:=x.span.off-1)).2;rw[Lib.size_eq]at a b c d hq;rw[qR h4];simp only[lineT,restT,List.length_append,List.length_cons,List.length_nil,a,b,c,d,e1];omega
 ·obtain⟨-,hn,h0,h1⟩:=h.fl h4;generalize t.flights.getD x.flight.toNat noFlight=f at*;have a:=(insD_fld (t:=f.dep) h0 h1).2;have b:=(insC_fld (t:=f.dep)).2;rw[Lib.size_eq]at a b hn hm ha;rw[qN h4];split
  ·simp only[lineT,restT,List.length_append,List.length_cons,List.length_nil,a,b,e2];omega
  ·split
   ·simp only[lineT,restT,List.length_append,List.length_cons,List.length_nil,a,b,e3];omega
   ·simp only[lineT,restT,List.length_append,List.length_cons,List.length_nil,a,b,e4];omega
theorem incs_up{t:GTT} : ∀ {l:List GInc},(∀ x∈l,IGood t x)→(textT (l.map (incF t))).length≤80*l.length
 | [],_=>by simp[textT]
 | x::l,h=>by
  have h1:=incs_up (l:=l) fun y hy=>h y (.tail _ hy)
  have h2:=incF_up (h x (.head _));have e:textT ((x::l).map (incF t))=(lineT (incF t x)++[10])++textT (l.map (incF t)):=by
   simp[textT]
  rw[e,List.length_append,List.length_cons];omega
theorem incS_size{t:GTT}{ps:List GPerson}{l:List GInc}(h:incE t ps l=0):(incS t l).size≤2560:=by
 obtain⟨h1,h2⟩:=incE_good h;have:=incs_up h2;unfold incS;rw[bs_size];omega
theorem fmtI_zero{t:GTT}{ps:List GPerson}{l:List GInc}(h:incE t ps l=0):fmtI t ps l=(incS t l,0):=by
 have:=incS_size h;unfold fmtI;rw[qN (by rw[h];simp),qN (by omega)]
def FS(w1 wr:World)(v:Value)(L:List UInt8):Prop:=Bld w1.heap.size v L wr∧Below w1.heap.size w1 wr
theorem FS.next{w1 wr w':World}{v:Value}{L:List UInt8}(h:FS w1 wr v L)(hb:Below wr.heap.size wr w'):FS w1 w' v L:=⟨h.1.keep hb,h.2.trans (hb.mono h.2.size)⟩
theorem FS.write{w1 wr:World}{v:Value}{L:List UInt8}(h:FS w1 wr v L)(s:ByteArray)(hl:L.length+s.size≤1000000):Calls Tryz.prog 54 #[.pointer (some ⟨w1.heap.size,0,none⟩),.string s] wr fun e w' =>
 e=.returned (.tuple #[.int .i64 s.size,.nilIface])∧(∃ v',FS w1 w' v' (L++s.data.toList)) ∧ ∀ x cs T z,T≠5→x≠w1.heap.size→wr.heap[x]? = some (.cells cs T z)→w'.heap[x]? = some (.cells cs T z):=by
 refine(writeStr_any w1.heap.size v L s wr h.1 hl).mono ?_;rintro e w' ⟨v',rfl,hb,hbel,hbx⟩;exact⟨rfl,⟨v',hb,h.2.trans hbel⟩,hbx⟩
end Go.Proofs.YtifconapjfdkcaaGreatDoor
