/-
  Joined texts: TTPlain; Open; TextPlain. What each proves stands ahead of it, with its conditions.
-/
import Derived.Test.YtifconapjfdkcaaGreatDoorDAB
import Derived.Test.YtifconapjfdkcaaGreatDoorDAA
import Derived.ProofKit
import Derived.Deep.Slices
import Derived.Lib.SplitLaws
import Derived.Lib.IndexMore
import Derived.Lib.Strings
set_option linter.unusedSimpArgs false
set_option linter.unusedVariables false
set_option maxRecDepth 100000
set_option maxHeartbeats 12800000
namespace Go.Proofs.YtifconapjfdkcaaGreatDoor
section
open Go
structure GShift where
 at_:Int
 off:Int
structure GZone where
 name:ByteArray
 off:Int
 shifts:List GShift
structure GAirport where
 code:ByteArray
 zone:ByteArray
structure GFlight where
 number:ByteArray
 src:ByteArray
 dst:ByteArray
 dep:Int
 arr:Int
 kind:ByteArray
 n0:Int
 n1:Int
 n2:Int
structure GTT where
 zones:List GZone
 airports:List GAirport
 flights:List GFlight
def GShift.ok(s:GShift):Prop:=(-9223372036854775808≤s.at_∧s.at_≤9223372036854775807)∧(-9223372036854775808≤s.off∧s.off≤9223372036854775807)
def GZone.ok(z:GZone):Prop:=z.name.size≤maxLen∧(-9223372036854775808≤z.off∧z.off≤9223372036854775807) ∧ ∀ s∈z.shifts,s.ok
def GAirport.ok(a:GAirport):Prop:=a.code.size≤maxLen∧a.zone.size≤maxLen
def GFlight.ok(f:GFlight):Prop:=f.number.size≤maxLen∧f.src.size≤maxLen∧f.dst.size≤maxLen∧f.kind.size≤maxLen∧(-9223372036854775808≤f.dep∧f.dep≤9223372036854775807)∧(-9223372036854775808≤f.arr∧f.arr≤9223372036854775807) ∧
 (-9223372036854775808≤f.n0∧f.n0≤9223372036854775807)∧(-9223372036854775808≤f.n1∧f.n1≤9223372036854775807)∧(-9223372036854775808≤f.n2∧f.n2≤9223372036854775807)
def GTT.ok(t:GTT):Prop:=(∀ z∈t.zones,z.ok)∧(∀ a∈t.airports,a.ok) ∧ ∀ f∈t.flights,f.ok
def firstErr(f:Nat→Int):Nat→Int
 | 0=>0
 | n+1=>if firstErr f n=0 then f n else firstErr f n
def zeroTo(f:Nat→Int)(k:Nat):Prop := ∀ j,j<k→f j=0
theorem zeroTo_zero(f:Nat→Int):zeroTo f 0:=fun j h=>absurd h (by omega)
theorem zeroTo_succ{f:Nat→Int}{k:Nat}(h:zeroTo f k)(h0:f k=0):zeroTo f (k+1):=fun j hj=>by
 rcases Nat.lt_or_eq_of_le (Nat.le_of_lt_succ hj) with h1|rfl
 ·exact h j h1
 ·exact h0
theorem firstErr_none{f:Nat→Int} : ∀ {n:Nat},zeroTo f n→firstErr f n=0
 | 0,_=>rfl
 | n+1,h=>by
  rw[firstErr,firstErr_none (fun j hj=>h j (by omega)),qR rfl];exact h n (by omega)
theorem firstErr_hit{f:Nat→Int}{k:Nat}(h:zeroTo f k)(hf:f k≠0) : ∀ {n:Nat},k<n→firstErr f n=f k
 | 0,hk=>absurd hk (by omega)
 | n+1,hk=>by
  rw[firstErr];rcases Nat.lt_or_eq_of_le (Nat.le_of_lt_succ hk) with h1|rfl
  ·rw[firstErr_hit h hf h1,qN hf]
  ·rw[firstErr_none h,qR rfl]
def hasB(l:List ByteArray)(a:ByteArray):Bool:=l.any fun b=>decide (a=b)
theorem hasB_snoc(b:ByteArray)(l:List ByteArray)(a:ByteArray):hasB (l++[b]) a=(hasB l a||decide (a=b)):=by simp[hasB]
theorem hasB_iff(l:List ByteArray)(a:ByteArray):hasB l a=true↔a∈l:=by
 unfold hasB;rw[List.any_eq_true];refine⟨fun⟨x,hx,h⟩ =>?_,fun h=>⟨a,h,by simp⟩⟩;have:=of_decide_eq_true h;subst this;exact hx
def offOk(n:Int):Bool:=decide (-840≤n)&&decide (n≤840)
def insOk(n:Int):Bool:=decide (0≤n)&&decide (n<52596000)
def noShift:GShift:=⟨0,0⟩
def shiftErr(l:List GShift)(i:Nat):Int :=
 if insOk (l.getD i noShift).at_=false∨offOk (l.getD i noShift).off=false then 5 else
  if 0<i∧(l.getD i noShift).at_≤(l.getD (i-1) noShift).at_ then 8 else 0
def zoneE(z:GZone):Int :=
 if isNameB z.name=false then 1 else if offOk z.off=false then 5 else if 16<z.shifts.length then 10 else firstErr (shiftErr z.shifts) z.shifts.length
def noZone:GZone:=⟨⟨#[]⟩,0,[]⟩
def noAirport:GAirport:=⟨⟨#[]⟩,⟨#[]⟩⟩
def noFlight:GFlight:=⟨⟨#[]⟩,⟨#[]⟩,⟨#[]⟩,0,0,⟨#[]⟩,0,0,0⟩
def zNames(zs:List GZone):List ByteArray:=zs.map (·.name)
def aCodes(l:List GAirport):List ByteArray:=l.map (·.code)
def zErr(zs:List GZone)(i:Nat):Int :=
 if zoneE (zs.getD i noZone)≠0 then zoneE (zs.getD i noZone) else if hasB (zNames (zs.take i)) (zs.getD i noZone).name=true then 7 else 0
def aErr(zs:List GZone)(l:List GAirport)(i:Nat):Int :=
 if isAirportB (l.getD i noAirport).code=false then 1 else if hasB (aCodes (l.take i)) (l.getD i noAirport).code=true then 7 else
  if hasB (zNames zs) (l.getD i noAirport).zone=false then 6 else 0
def needOk(n:Int):Bool:=decide (0≤n)&&decide (n≤8)
def flightE(codes:List ByteArray)(f:GFlight):Int :=
 if isCodeB f.number=false∨isNameB f.kind=false then 1 else if hasB codes f.src=false∨hasB codes f.dst=false then 6 else if f.src=f.dst then 14 else
  if f.dep<2880∨52593120<f.arr∨f.arr≤f.dep∨1440<f.arr-f.dep then 5 else
   if needOk f.n0=false∨needOk f.n1=false∨needOk f.n2=false then 5 else 0
def beforeB(f g:GFlight):Bool:=if f.dep=g.dep then Op.bytesLess f.number.toList g.number.toList else decide (f.dep<g.dep)
def fErr(codes:List ByteArray)(l:List GFlight)(i:Nat):Int :=
 if flightE codes (l.getD i noFlight)≠0 then flightE codes (l.getD i noFlight) else
  if 0<i∧beforeB (l.getD (i-1) noFlight) (l.getD i noFlight)=false then 8 else 0
def ttE(t:GTT):Int :=
 if 16<t.zones.length∨64<t.airports.length∨200<t.flights.length then 10 else
  if firstErr (zErr t.zones) t.zones.length≠0 then firstErr (zErr t.zones) t.zones.length else
   if firstErr (aErr t.zones t.airports) t.airports.length≠0 then firstErr (aErr t.zones t.airports) t.airports.length else
    firstErr (fErr (aCodes t.airports) t.flights) t.flights.length
end
section
open Go.ChangeShapes Go.WideShapes Go.ChangeAt Go.RowKit Go.Deep
def Fits{α : Type}(P:Program)(t:TypeId)(T:Ty α):Prop :=
 P.cellsOf t=T.size ∧ ∀ {H:Type} (enc:TypeId×Value→H) (w:World) (spare:Nat→Bool) (held:Bool) (fuel:Nat) (cs:List Value) (x:DataW H×List MemPlace),
  DataW.trod enc P w 0 spare held fuel t cs=some x→(∀ p∈x.2,p.block<w.heap.size) → ∃ d : α,T.rep w (all_ w) cs d∧T.ok d
theorem fits_int{P:Program}{t:TypeId}{k:IntKind}(ht:P.underlying t=some (.int k))(hc:P.cellsOf t=1):Fits P t (Ty.int k):=by
 refine⟨hc,fun enc w spare held fuel cs x h _ =>?_⟩;obtain⟨n,rfl,_,hw⟩:=DataW.trod_int ht h;simp only[Lit.wf,qI,qL]at hw;exact⟨n,rfl,hw⟩
theorem fits_str{P:Program}{t:TypeId}(ht:P.underlying t=some .string)(hc:P.cellsOf t=1):Fits P t Ty.str:=by
 refine⟨hc,fun enc w spare held fuel cs x h _ =>?_⟩;obtain⟨s,rfl,_,hs⟩:=DataW.trod_string ht h;exact⟨s,rfl,hs⟩
theorem choose_list{α : Type}(R:Nat → α → Prop) : ∀ n,(∀ i,i<n → ∃ x,R i x) → ∃ l:List α,l.length=n ∧ ∀ i x,l[i]? = some x→R i x
 | 0,_=>⟨[],rfl,fun i x h=>by simp at h⟩
 | n+1,h=>by
  obtain⟨l,hl,hr⟩:=choose_list R n fun i hi=>h i (by omega)
  obtain⟨x,hx⟩:=h n (by omega);refine⟨l++[x],by simp[hl],fun i y hi =>?_⟩;rcases Nat.lt_trichotomy i n with h1|h1|h1
  ·rw[List.getElem?_append_left (by omega)]at hi;exact hr i y hi
  ·subst h1;rw[List.getElem?_append_right (by omega),hl]at hi;simp at hi;subst hi;exact hx
  ·rw[List.getElem?_append_right (by omega),hl]at hi;have:i-n≠0:=by omega
   rw[List.getElem?_eq_none (by simp;omega)]at hi
   cases hi
theorem fits_slice{α : Type}{P:Program}{t e:TypeId}{T:Ty α}(ht:P.underlying t=some (.slice e))(hc:P.cellsOf t=1)(he:Fits P e T):Fits P t (Ty.slice T):=by
 refine⟨hc,fun enc w spare held fuel cs x h hlt =>?_⟩;rcases open_slice ht h with ⟨rfl,_⟩|⟨a,len,cap,m,n,D,Pl,rfl,_,hl,hm,hmm,rfl,hi⟩
 ·exact⟨[],⟨none,0,0,rfl,Sl.nil0⟩,fun x hx=>by cases hx⟩
 ·have hml:len≤m:=by rw[hmm];split <;> omega
  have key : ∀ i,i<len → ∃ d : α,(∃ cs',T.rep w (all_ w) cs' d ∧ ∀ j u,cs'[j]? = some u→w.cell? (a.add (i*T.size+j))=some u)∧T.ok d:=by
   intro i hil;obtain⟨cs',h1,h2⟩:=hi i (by omega);obtain⟨d,hd,ho⟩:=he.2 enc w spare held n cs' _ h2 fun p hp=>hlt p (by
    rw[List.mem_append];exact .inr (List.mem_flatMap.2 ⟨i,List.mem_range.2 (by omega),hp⟩))
   refine⟨d,⟨cs',hd,fun j u hu =>?_⟩,ho⟩;obtain⟨_,hcl,hat⟩:=World.cells?_some h1;have hj:j<cs'.length:=(List.getElem?_eq_some_iff.1 hu).1;rw[←Go.Deep.add_add, ←he.1,hat j (by omega),hu]
  obtain⟨l,hll,hlr⟩:=choose_list _ len key;refine⟨l,⟨some a,len,cap,rfl,hll.symm,hl,hm,fun hpos =>?_⟩,fun y hy =>?_⟩
  ·have h0:=hlr 0 l[0] (qG (by omega));obtain⟨⟨cs0,hr0,hc0⟩,_⟩:=h0;have hl0:=T.len hr0;have hp:=T.pos;obtain⟨b,off,spot⟩:=a;have hspot:spot=none:=by
    have:=hc0 0 cs0[0] (qG (by omega));simpa[Addr.add] using World.cell?_spot this
   subst hspot;have hrow:(0:Nat)<m*P.cellsOf e:=Nat.mul_pos (by omega) (by rw[he.1];exact hp);have hb:b<w.heap.size:=by
    have hcell:=hc0 0 cs0[0] (qG (by omega));have:=World.block_lt_of_cell? w _ hcell;rw[addr_add]at this;exact this
   refine⟨b,off,rfl,hb,fun i x hx =>?_⟩;obtain⟨⟨cs',hr,hcc⟩,_⟩:=hlr i x hx;refine⟨cs',hr,fun j u hu =>?_⟩;have:=hcc j u hu;rw[addr_add]at this;rw[Nat.add_assoc];exact this
  ·obtain⟨i,hi',rfl⟩:=List.getElem_of_mem hy;exact(hlr i _ (qG hi')).2
theorem open_fits{α : Type}{P:Program}{t:TypeId}{T:Ty α}(hf:Fits P t T){H:Type}{enc:TypeId×Value→H}{w:World}{spare:Nat→Bool}{held:Bool}{v:Value}{d:DataW H}{p:List MemPlace}
 (h:DataW.Trod enc P w 0 spare held t v d p) (hlt : ∀ x∈p,x.block<w.heap.size) : ∃ y : α,T.rep w (all_ w) v.cells.toList y∧T.ok y:=by
 obtain⟨fuel,hfu⟩:=h;exact hf.2 enc w spare held fuel _ _ hfu hlt
theorem open_fits_slice{α : Type}{P:Program}{t e:TypeId}{T:Ty α}(ht:P.underlying t=some (.slice e))(hc:P.cellsOf t=1)(hf:Fits P e T){H:Type}{enc:TypeId×Value→H}{w:World}{base:Nat}{spare:Nat→Bool}{held:Bool}{v:Value}{d:DataW H}{p:List MemPlace}
 (hv:Value.okWide P w .any base t v) (h:DataW.Trod enc P w 0 spare held t v d p) (hlt : ∀ x∈p,x.block<w.heap.size) : ∃ A n c l,v=.slice A n c∧Sl T w (all_ w) A n c l ∧ ∀ x∈l,T.ok x:=by
 obtain⟨a0,len,cap,rfl⟩:=okWide_slice ht hv;obtain⟨l,⟨A,n,c,e1,hs⟩,ho⟩:=open_fits (fits_slice ht hc hf) h hlt;simp only[Value.cells,List.cons.injEq,Value.slice.injEq,and_true]at e1;obtain⟨rfl,rfl,rfl⟩:=e1;exact⟨_,_,_,l,rfl,hs,ho⟩
end
section
open Go
def bs(l:List UInt8):ByteArray:=⟨l.toArray⟩
theorem bs_data(l:List UInt8):(bs l).data.toList=l:=rfl
theorem bs_of(s:ByteArray):bs s.data.toList=s:=rfl
theorem bs_size(l:List UInt8):(bs l).size=l.length:=by rw[Lib.size_eq];rfl
theorem map_bs(l:List ByteArray):(l.map (·.data.toList)).map bs=l:=by
 rw[List.map_map];exact List.map_id' l
def splitL(c:UInt8):List UInt8→List (List UInt8)
 | []=>[[]]
 | b::l=>if b=c then []::splitL c l else (b::(splitL c l).headD [])::(splitL c l).tail
theorem splitL_ne(c:UInt8)(l:List UInt8):splitL c l≠[]:=by
 cases l with
 | nil=>simp[splitL]
 | cons b l=>unfold splitL;split <;> simp
theorem splitL_eq(c:UInt8)(l:List UInt8):splitL c l=(splitL c l).headD []::(splitL c l).tail:=by
 have h:=splitL_ne c l
 revert h
 cases splitL c l with
 | nil=>intro h;exact absurd rfl h
 | cons a r=>intro _;rfl
theorem index_one_cons(b c:UInt8)(l:List UInt8):Lib.index (b::l) [c]=if b=c then 0 else if Lib.index l [c] == -1 then -1 else Lib.index l [c]+1:=by
 rw[Lib.index];have:List.isPrefixOf [c] (b::l)=decide (b=c):=by
  simp only[List.isPrefixOf,Bool.and_true]
  by_cases h:b=c
  ·subst h;simp
  ·simp[h];exact fun e=>h e.symm
 rw[this]
 by_cases h:b=c <;> simp[h]
theorem splitK_one(c:UInt8) : ∀ (l:List UInt8) (k:Nat),l.count c≤k→Lib.splitK [c] 0 k l=splitL c l:=by
 intro l
 induction l with
 | nil=>intro k _;cases k <;> simp[Lib.splitK,splitL,Lib.index]
 | cons b l ih =>
  intro k hk
  by_cases hb:b=c
  ·subst hb;obtain⟨k,rfl⟩ : ∃ j,k=j+1:=⟨k-1,by simp at hk;omega⟩
   simp only[List.count_cons_self]at hk;rw[Lib.splitK,index_one_cons];simp[splitL,ih k (by omega)]
  ·have hk':l.count c≤k:=by rwa [List.count_cons_of_ne hb]at hk
   have h1:=ih k hk';have hs:splitL c (b::l)=(b::(splitL c l).headD [])::(splitL c l).tail:=by rw[splitL,qN hb]
   rw[hs, ←h1]
   cases k with
   | zero=>simp[Lib.splitK]
   | succ k =>
    rw[Lib.splitK,Lib.splitK,index_one_cons,qN hb]
    by_cases hi:Lib.index l [c] = -1
    ·simp[hi]
    ·have hge:=Lib.index_ge l [c];have h2:(Lib.index l [c] == -1)=false:=by simp[hi]
     have h3:(Lib.index l [c]+1 == -1)=false:=by simp;omega
     rw[h2];simp only[Bool.false_eq_true,if_false];rw[h3];simp only[Bool.false_eq_true,if_false,List.headD_cons,List.tail_cons,Nat.add_zero];have h4:(Lib.index l [c]+1).toNat=(Lib.index l [c]).toNat+1:=by omega
     rw[h4];simp[Nat.add_right_comm]
theorem splitB_one(c:UInt8)(s:ByteArray):Lib.splitB ⟨#[c]⟩ 0 (Lib.countB s ⟨#[c]⟩) s=(splitL c s.data.toList).map bs:=by
 rw[←map_bs (Lib.splitB _ _ _ _),Lib.splitB_data]
 congr 1
 refine splitK_one c _ _ ?_;show _≤Lib.count s.data.toList [c];rw[Lib.count_one];exact qD _
theorem splitL_length(c:UInt8)(l:List UInt8):(splitL c l).length=l.count c+1:=by
 induction l with
 | nil=>rfl
 | cons b l ih =>
  by_cases hb:b=c
  ·subst hb;simp[splitL,ih]
  ·rw[splitL,qN hb,List.count_cons_of_ne hb, ←ih,List.length_cons,List.length_tail];have:=List.length_pos_iff.2 (splitL_ne c l);omega
def fieldsL(l:List UInt8):List (List UInt8):=(splitL 32 (l.takeWhile (fun b=>b != 35))).filter (fun f => !f.isEmpty)
def fieldsB(s:ByteArray):List ByteArray:=(fieldsL s.data.toList).map bs
theorem splitL_snoc{c b:UInt8}{p:List UInt8}{ps:List (List UInt8)}{cur:List UInt8}(h:splitL c p=ps++[cur]) :
 splitL c (p++[b])=if b=c then ps++[cur]++[[]] else ps++[cur++[b]]:=by
 induction p generalizing ps cur with
 | nil =>
  have h':ps=[]∧cur=[]:=by
   cases ps with
   | nil=>simp[splitL]at h;exact⟨rfl,h⟩
   | cons q ps=>simp[splitL]at h
  obtain⟨rfl,rfl⟩:=h'
  by_cases hb:b=c <;> simp[splitL,hb]
 | cons a p ih =>
  by_cases ha:a=c
  ·subst ha;rw[splitL,qR rfl]at h
   cases ps with
   | nil=>simp at h;exact absurd h.2 (splitL_ne a p)
   | cons q ps =>
    simp only[List.cons_append,List.cons.injEq]at h;obtain⟨rfl,h⟩:=h;rw[List.cons_append,splitL,qR rfl,ih h];split <;> rfl
  ·rw[splitL,qN ha]at h;have he:=splitL_eq c p
   cases ps with
   | nil =>
    simp only[List.nil_append,List.cons.injEq]at h;obtain⟨h1,h2⟩:=h;rw[h2]at he;rw[List.cons_append,splitL,qN ha,ih (ps:=[]) he];subst h1
    by_cases hb:b=c <;> simp[hb]
   | cons q ps =>
    simp only[List.cons_append,List.cons.injEq]at h;obtain⟨h1,h2⟩:=h;rw[h2]at he;rw[List.cons_append,splitL,qN ha,ih (ps:=(splitL c p).headD []::ps) (by rw[List.cons_append];exact he)];subst h1
    by_cases hb:b=c <;> simp[hb]
theorem splitL_last(c:UInt8)(l:List UInt8) : ∃ ps cur,splitL c l=ps++[cur] :=
 ⟨(splitL c l).dropLast,(splitL c l).getLast (splitL_ne c l),(List.dropLast_concat_getLast (splitL_ne c l)).symm⟩
def linesL(l:List UInt8):List (List UInt8):=if (splitL 10 l).getLast (splitL_ne 10 l)=[] then (splitL 10 l).dropLast else splitL 10 l
theorem linesL_of{l:List UInt8}{ps:List (List UInt8)}{cur:List UInt8}(h:splitL 10 l=ps++[cur]):linesL l=if cur=[] then ps else ps++[cur]:=by
 have e1:(splitL 10 l).getLast (splitL_ne 10 l)=cur:=by
  simp only[h,List.getLast_append,List.getLast_singleton];simp
 unfold linesL;rw[e1,h,List.dropLast_concat]
theorem linesL_trim(l:List UInt8)(hne:l≠[]):splitL 10 (Lib.trimSuffix l [10])=linesL l:=by
 obtain⟨p,b,rfl⟩ : ∃ p b,l=p++[b]:=⟨l.dropLast,l.getLast hne,(List.dropLast_concat_getLast hne).symm⟩
 obtain⟨ps,cur,h⟩:=splitL_last 10 p;have h2:=splitL_snoc (b:=b) h;unfold Lib.trimSuffix Lib.hasSuffix
 by_cases hb:b=10
 ·subst hb;rw[qR rfl]at h2;have h3:List.isSuffixOf [10] (p++[(10:UInt8)])=true:=by rw[List.isSuffixOf_iff_suffix];exact List.suffix_append _ _
  rw[h3,qR rfl,linesL_of h2,qR rfl];simpa using h
 ·rw[qN hb]at h2;have h3:List.isSuffixOf [10] (p++[b])=false:=by
   rw[Bool.eq_false_iff];intro e;rw[List.isSuffixOf_iff_suffix]at e;obtain⟨t,ht⟩:=e;have:=congrArg List.getLast? ht;simp at this;exact hb this.symm
  rw[h3,linesL_of h2,qN (by simp)];simpa using h2
def okByte(s:ByteArray)(i:Nat):Bool:=(byteAt s i==10)||(decide (32≤byteAt s i)&&decide (byteAt s i≤126))
def linesB(s:ByteArray):List ByteArray×Int :=
 if 20000<s.size then ([],10) else if allTo (okByte s) s.size=false then ([],1) else
  if 1000<(linesL s.data.toList).length then ([],10) else ((linesL s.data.toList).map bs,0)
theorem extract_take(s:ByteArray)(f k:Nat):s.extract f k=bs ((s.data.toList.take k).drop f):=by
 obtain⟨⟨l⟩⟩:=s;rw[ByteArray.extract_mk];unfold bs
 congr 1
 simp[List.drop_take]
end
end Go.Proofs.YtifconapjfdkcaaGreatDoor
