/-
  Joined texts: Stable; ApplyPlain. What each proves stands ahead of it, with its conditions.
-/
import Derived.Sort.LotA
import Derived.Test.YtifconapjfdkcaaGreatDoorDAA
import Derived.Test.YtifconapjfdkcaaGreatDoorDAK
import Derived.Sort.Walk0
set_option linter.unusedSimpArgs false
set_option linter.unusedVariables false
set_option maxRecDepth 100000
set_option maxHeartbeats 12800000
namespace Go.Proofs.YtifconapjfdkcaaGreatDoor
section
open Go
section
variable {α : Type} {lt : α → α → Bool}
theorem place_count(hi : ∀ x,lt x x=false)(ha : ∀ x y,lt x y=true→lt y x=false)(ht : ∀ x y,x≠y→lt x y=true∨lt y x=true) :
 ∀ {o:List α},o.Nodup→(∀ (i j:Nat) (hij:i<j) (hj:j<o.length),lt o[j] (o[i]'(by omega))=false) → ∀ (p:Nat) (hp:p<o.length),o.countP (fun y=>lt y o[p])=p
 | [],_,_,p,hp=>by simp at hp
 | a::o,hn,hs,p,hp=>by
  have hna:a ∉ o:=(List.nodup_cons.1 hn).1;have hno:o.Nodup:=(List.nodup_cons.1 hn).2;have hs' : ∀ (i j:Nat) (hij:i<j) (hj:j<o.length),lt o[j] (o[i]'(by omega))=false:=fun i j hij hj=>by
   have:=hs (i+1) (j+1) (by omega) (by simpa using hj);simpa using this
  have hfirst : ∀ y∈o,lt y a=false:=fun y hy=>by
   obtain⟨j,hj,rfl⟩:=List.getElem_of_mem hy;have:=hs 0 (j+1) (by omega) (by simpa using hj);simpa using this
  rcases p with _|p
  ·show(a::o).countP (fun y=>lt y a)=0;rw[List.countP_cons,hi a,List.countP_eq_zero.2 fun y hy=>by rw[hfirst y hy];simp];simp
  ·have hp':p<o.length:=by simpa using hp
   have hm:o[p]∈o:=List.getElem_mem hp';have hlt:lt a o[p]=true:=by
    rcases ht a o[p] (fun e=>hna (e▸hm)) with h|h
    ·exact h
    ·rw[hfirst _ hm]at h;cases h
   show(a::o).countP (fun y=>lt y o[p])=p+1;rw[List.countP_cons,place_count hi ha ht hno hs' p hp',hlt];simp
end
def tieB(lt:Int→Int→Bool)(x y:Int):Bool:=lt x y||(!lt y x&&decide (x<y))
theorem tie_of{lt:Int→Int→Bool}{x y:Int}(h:y<x):tieB lt x y=lt x y:=by
 unfold tieB;rw[decide_eq_false (by omega),Bool.and_false,Bool.or_false]
theorem swp_size{α : Type}[Inhabited α](d:Array α)(i j:Nat):(Sort.swp d i j).size=d.size:=by unfold Sort.swp;simp
theorem swp_get{α : Type}[Inhabited α](d:Array α){i j:Nat}(hi:i<d.size)(hj:j<d.size)(p:Nat):(Sort.swp d i j)[p]! = if p=j then d[i]! else if p=i then d[j]! else d[p]! :=by
 unfold Sort.swp;rw[Array.getElem!_eq_getD,Array.getElem!_eq_getD,Array.getElem!_eq_getD,Array.getElem!_eq_getD,qA,qA,qA,qA,Array.getElem?_setIfInBounds,Array.getElem?_setIfInBounds]
 by_cases h1:j=p
 ·subst h1;rw[qR rfl,qR rfl,qR (by rw[Array.size_setIfInBounds];exact hj)];simp[hi]
 ·rw[qN h1,qN (show ¬p=j from fun e=>h1 e.symm)]
  by_cases h2:i=p
  ·subst h2;rw[qR rfl,qR rfl,qR hi];simp[hj]
  ·rw[qN h2,qN (show ¬p=i from fun e=>h2 e.symm)]
theorem outer_step(lt:Int→Int→Bool){b i:Nat}(d:Array Int)(h:i<b):Sort.insOuter lt 0 b i d=Sort.insOuter lt 0 b (i+1) (Sort.insInner lt 0 i d):=by rw[Sort.insOuter,qR h]
theorem outer_end(lt:Int→Int→Bool){b i:Nat}(d:Array Int)(h : ¬i<b):Sort.insOuter lt 0 b i d=d:=by rw[Sort.insOuter,qN h]
section
variable (lt:Int→Int→Bool)
theorem inner_size : ∀ (j:Nat) (d:Array Int),(Sort.insInner lt 0 j d).size=d.size
 | 0,d=>rfl
 | j+1,d=>by
  rw[Sort.insInner];split
  ·rw[inner_size j,swp_size]
  ·rfl
theorem inner_eq : ∀ (j:Nat) (d:Array Int),j<d.size→(∀ p,p<j→d[p]! < d[j]!)→Sort.insInner lt 0 j d=Sort.insInner (tieB lt) 0 j d
 | 0,d,_,_=>rfl
 | j+1,d,hj,h=>by
  rw[Sort.insInner,Sort.insInner,tie_of (h j (by omega))];split
  ·refine inner_eq j _ (by rw[swp_size];omega) fun p hp =>?_
   rw[swp_get d hj (by omega),swp_get d hj (by omega),qN (by omega),qN (by omega),qR rfl];exact h p (by omega)
  ·rfl
theorem inner_far : ∀ (j:Nat) (d:Array Int),j<d.size → ∀ p,j<p→(Sort.insInner lt 0 j d)[p]! = d[p]!
 | 0,d,_,_,_=>rfl
 | j+1,d,hj,p,hp=>by
  rw[Sort.insInner];split
  ·rw[inner_far j _ (by rw[swp_size];omega) p (by omega),swp_get d hj (by omega),qN (by omega),qN (by omega)]
  ·rfl
theorem inner_le : ∀ (j:Nat) (d:Array Int) (z:Int),j<d.size→(∀ p,p≤j→d[p]! < z) → ∀ p,p≤j→(Sort.insInner lt 0 j d)[p]! < z
 | 0,d,z,_,h,p,hp=>h p hp
 | j+1,d,z,hj,h,p,hp=>by
  rw[Sort.insInner];split
  ·rcases Nat.lt_or_eq_of_le hp with h1|rfl
   ·refine inner_le j _ z (by rw[swp_size];omega) (fun q hq =>?_) p (by omega);rw[swp_get d hj (by omega)];split
    ·exact h _ (qD _)
    ·split
     ·exact h _ (by omega)
     ·exact h _ (by omega)
   ·rw[inner_far lt j _ (by rw[swp_size];omega) _ (by omega),swp_get d hj (by omega),qN (by omega),qR rfl];exact h _ (by omega)
  ·exact h p hp
theorem outer_eq : ∀ (m i:Nat) (d:Array Int),d.size-i=m→1≤i→(∀ p q,p<i→i≤q→q<d.size→d[p]! < d[q]!)→(∀ p q,i≤p→p<q→q<d.size→d[p]! < d[q]!)→Sort.insOuter lt 0 d.size i d=Sort.insOuter (tieB lt) 0 d.size i d
 | 0,i,d,hm,h1,hA,hB=>by
  rw[outer_end lt d (by omega),outer_end (tieB lt) d (by omega)]
 | m+1,i,d,hm,h1,hA,hB=>by
  have hi:i<d.size:=by omega
  rw[outer_step lt d hi,outer_step (tieB lt) d hi];rw[←inner_eq lt i d hi fun p hp=>hA p i hp (qD _) hi];have hz:=inner_size lt i d;have key:=outer_eq m (i+1) (Sort.insInner lt 0 i d) (by omega) (by omega) (fun p q hp hq hqs =>?_) (fun p q hp hq hqs =>?_)
  ·rwa [hz]at key
  ·rw[inner_far lt i d hi q (by omega)];refine inner_le lt i d _ hi (fun r hr =>?_) p (by omega);rcases Nat.lt_or_eq_of_le hr with h2|rfl
   ·exact hA r q h2 (by omega) (by omega)
   ·exact hB r q (qD _) (by omega) (by omega)
  ·rw[inner_far lt i d hi p (by omega),inner_far lt i d hi q (by omega)];exact hB p q (by omega) hq (by omega)
theorem sort_tie(d:Array Int)(h : ∀ p q,p<q→q<d.size→d[p]! < d[q]!):Sort.insertionSort lt d 0 d.size=Sort.insertionSort (tieB lt) d 0 d.size:=by
 unfold Sort.insertionSort;exact outer_eq lt _ 1 d rfl (qD _) (fun p q hp hq hqs=>h p q (by omega) hqs) (fun p q hp hq hqs=>h p q hq hqs)
end
theorem tie_swo{lt:Int→Int→Bool}(hS:Sort.SWO lt):Sort.SWO (tieB lt):=by
 have asym : ∀ x y,lt x y=true→lt y x=false:=fun x y h=>by
  cases h':lt y x with
  | false=>rfl
  | true=>have:=hS.trans x y x h h';rw[hS.irrefl]at this;cases this
 refine⟨fun x =>?_,fun x y z h1 h2 =>?_,fun x y z h1 h2 =>?_⟩
 ·unfold tieB;rw[hS.irrefl];simp
 ·unfold tieB at*;simp only[Bool.or_eq_true,qI,Bool.not_eq_true',qL]at *;rcases h1 with h1|⟨h1,h1'⟩ <;> rcases h2 with h2|⟨h2,h2'⟩
  ·exact .inl (hS.trans x y z h1 h2)
  ·left
   cases h3:lt x z with
   | true=>rfl
   | false=>have:=hS.ntrans x z y h3 h2;rw[h1]at this;cases this
  ·left
   cases h3:lt x z with
   | true=>rfl
   | false=>have:=hS.ntrans y x z h1 h3;rw[h2]at this;cases this
  ·exact .inr ⟨hS.ntrans z y x h2 h1,by omega⟩
 ·unfold tieB at*;simp only[Bool.or_eq_false_iff,Bool.and_eq_false_iff,Bool.not_eq_false',qU]at *;obtain⟨a1,a2⟩:=h1;obtain⟨b1,b2⟩:=h2;refine⟨hS.ntrans x y z a1 b1, ?_⟩;rcases a2 with a2|a2
  ·left
   cases h3:lt z x with
   | true=>rfl
   | false=>have:=hS.ntrans y z x b1 h3;rw[a2]at this;cases this
  ·rcases b2 with b2|b2
   ·left
    cases h3:lt z x with
    | true=>rfl
    | false=>have:=hS.ntrans z x y h3 a1;rw[b2]at this;cases this
   ·exact .inr (by omega)
theorem tie_total{lt:Int→Int→Bool}{x y:Int}(h:x≠y):tieB lt x y=true∨tieB lt y x=true:=by
 unfold tieB
 cases h1:lt x y <;> cases h2:lt y x <;> simp
 omega
theorem nodup_of_inc(d:Array Int)(h : ∀ p q,p<q→q<d.size→d[p]! < d[q]!):d.toList.Nodup:=by
 rw[List.nodup_iff_pairwise_ne,List.pairwise_iff_getElem];intro i j hi hj hij e;have hj':j<d.size:=by simpa using hj
 have hi':i<d.size:=by omega
 have:=h i j hij hj';rw[getElem!_pos d i hi',getElem!_pos d j hj']at this;simp at e;omega
theorem sort_rank{lt:Int→Int→Bool}(hS:Sort.SWO lt)(d:Array Int)(h : ∀ p q,p<q→q<d.size→d[p]! < d[q]!) :
 (Sort.insertionSort lt d 0 d.size).size=d.size∧(Sort.insertionSort lt d 0 d.size).toList.Perm d.toList ∧
 ∀ p,p<d.size→d.toList.countP (fun y=>tieB lt y (Sort.insertionSort lt d 0 d.size)[p]!)=p:=by
 have hT:=tie_swo hS;obtain⟨⟨hz, -,hp⟩,hs⟩:=Sort.insertionSort_holds (lt:=tieB lt) hT d 0 d.size (qV _) (qD _);rw[sort_tie lt d h];generalize Sort.insertionSort (tieB lt) d 0 d.size=o at*;have hp':o.toList.Perm d.toList:=by
  rw[show d.extract 0 d.size=d by simp,show o.extract 0 d.size=o by rw[←hz];simp]at hp;exact hp
 refine⟨hz,hp',fun p hpl =>?_⟩;have hpo:p<o.toList.length:=by simpa[hz] using hpl
 have hn:o.toList.Nodup:=hp'.nodup_iff.2 (nodup_of_inc d h);have hasym : ∀ x y,tieB lt x y=true→tieB lt y x=false:=fun x y h=>by
  cases h':tieB lt y x with
  | false=>rfl
  | true=>have:=hT.trans x y x h h';rw[hT.irrefl]at this;cases this
 have key:=place_count hT.irrefl hasym (fun x y=>tie_total) hn (fun i j hij hj=>by
  have hj':j<o.size:=by simpa using hj
  have:=hs i j (qV _) hij (by omega);rw[getElem!_pos o i (by omega),getElem!_pos o j hj']at this;simpa using this) p hpo
 have e:o[p]! = o.toList[p]:=by
  rw[getElem!_pos o p (by omega)];simp
 rw[e, ←hp'.countP_eq];exact key
end
section
open Go Go.RowKit
def bl(x y:List UInt8):Bool:=Op.bytesLess x y
theorem bl_irrefl : ∀ x,bl x x=false
 | []=>rfl
 | a::x=>by
  unfold bl;rw[Op.bytesLess];have:=bl_irrefl x;unfold bl at this;simp[this]
theorem bl_cons(a b:UInt8)(x y:List UInt8):bl (a::x) (b::y)=(decide (a<b)||(decide (a=b)&&bl x y)):=by
 unfold bl;rw[Op.bytesLess]
 by_cases h1:a<b <;> by_cases h2:a=b <;> simp[h1,h2]
theorem bl_trans : ∀ x y z,bl x y=true→bl y z=true→bl x z=true
 | _,_,[],_,h2=>by rename_i y _;cases y <;> simp[bl,Op.bytesLess]at h2
 | _,[],_::_,h1,_=>by rename_i x _ _;cases x <;> simp[bl,Op.bytesLess]at h1
 | [],_::_,_::_,_,_=>rfl
 | a::x,b::y,c::z,h1,h2=>by
  rw[bl_cons]at *;simp only[Bool.or_eq_true,qI,qL]at *;rcases h1 with h1|⟨rfl,h1⟩ <;> rcases h2 with h2|⟨rfl,h2⟩
  ·exact .inl (UInt8.lt_trans h1 h2)
  ·exact .inl h1
  ·exact .inl h2
  ·exact .inr ⟨rfl,bl_trans x y z h1 h2⟩
theorem bl_total : ∀ x y,bl x y=false→bl y x=false→x=y
 | [],[],_,_=>rfl
 | [],_::_,h,_=>by simp[bl,Op.bytesLess]at h
 | _::_,[],_,h=>by simp[bl,Op.bytesLess]at h
 | a::x,b::y,h1,h2=>by
  rw[bl_cons]at *;simp only[Bool.or_eq_false_iff,Bool.and_eq_false_iff,qU]at *;have hab:a=b:=by
   apply UInt8.toNat_inj.1;have e1:=h1.1;have e2:=h2.1;rw[UInt8.lt_iff_toNat_lt]at e1 e2;omega
  subst hab;rw[bl_total x y (by simpa using h1.2) (by simpa using h2.2)]
theorem bl_ntrans(x y z:List UInt8)(h1:bl x y=false)(h2:bl y z=false):bl x z=false:=by
 cases h3:bl x z with
 | false=>rfl
 | true =>
  exfalso
  cases h4:bl y x with
  | true=>have:=bl_trans y x z h4 h3;rw[h2]at this;cases this
  | false =>
   have e:=bl_total x y h1 h4;subst e;rw[h2]at h3
   cases h3
theorem before_irrefl(f:GFlight):beforeB f f=false:=by unfold beforeB;rw[qR rfl];exact bl_irrefl _
theorem before_trans{f g h:GFlight}(h1:beforeB f g=true)(h2:beforeB g h=true):beforeB f h=true:=by
 unfold beforeB at*;split at h1 <;> split at h2
 ·rw[qR (by omega)];exact bl_trans _ _ _ h1 h2
 ·simp only[qL]at h2;rw[qN (by omega)];simp;omega
 ·simp only[qL]at h1;rw[qN (by omega)];simp;omega
 ·simp only[qL]at h1 h2;rw[qN (by omega)];simp;omega
theorem before_ntrans{f g h:GFlight}(h1:beforeB f g=false)(h2:beforeB g h=false):beforeB f h=false:=by
 unfold beforeB at*;split at h1 <;> split at h2
 ·rw[qR (by omega)];exact bl_ntrans _ _ _ h1 h2
 ·simp only[qU]at h2;rw[qN (by omega)];simp;omega
 ·simp only[qU]at h1;rw[qN (by omega)];simp;omega
 ·simp only[qU]at h1 h2;rw[qN (by omega)];simp;omega
def ltF(fl:List GFlight)(x y:Int):Bool:=beforeB (fl.getD x.toNat noFlight) (fl.getD y.toNat noFlight)
theorem ltF_swo(fl:List GFlight):Sort.SWO (ltF fl):=⟨fun x=>before_irrefl _,fun x y z=>before_trans,fun x y z=>before_ntrans⟩
def delayF(f:GFlight)(m:Int):GFlight:=⟨f.number,f.src,f.dst,f.dep+m,f.arr+m,f.kind,f.n0,f.n1,f.n2⟩
def divertF(f:GFlight)(a:ByteArray)(m:Int):GFlight:=⟨f.number,f.src,a,f.dep,f.arr+m,f.kind,f.n0,f.n1,f.n2⟩
def appSt(s:List GFlight×List Bool)(x:GInc):List GFlight×List Bool :=
 if x.kind=4∨s.2.getD x.flight.toNat false=true then s
 else if x.kind=1 then (s.1.set x.flight.toNat (delayF (s.1.getD x.flight.toNat noFlight) x.minutes),s.2)
 else if x.kind=2 then (s.1,s.2.set x.flight.toNat true)
 else (s.1.set x.flight.toNat (divertF (s.1.getD x.flight.toNat noFlight) x.airport x.minutes),s.2)
def appAll(t:GTT)(l:List GInc):List GFlight×List Bool:=l.foldl appSt (t.flights,List.replicate t.flights.length false)
def leftI(gone:List Bool):List Int:=((List.range gone.length).filter fun i => !gone.getD i false).map fun (i:Nat)=>(i:Int)
def rankI(fl:List GFlight)(gone:List Bool)(i:Nat):Nat:=(leftI gone).countP fun y=>tieB (ltF fl) y i
def indexI(fl:List GFlight)(gone:List Bool)(i:Nat):Int:=if gone.getD i false=true then -1 else rankI fl gone i
theorem leftI_inc(gone:List Bool) : ∀ p q,p<q→q<(leftI gone).toArray.size→(leftI gone).toArray[p]! < (leftI gone).toArray[q]! :=by
 intro p q hpq hq;have hq':q<(leftI gone).length:=by simpa using hq
 have hP:(leftI gone).Pairwise (· < ·):=by
  unfold leftI;rw[List.pairwise_map];exact(List.pairwise_lt_range.filter _).imp fun h=>by omega
 have:=List.pairwise_iff_getElem.1 hP p q (by omega) hq' hpq;rw[getElem!_pos _ p (by simpa using (by omega:p<(leftI gone).length)),getElem!_pos _ q hq];simpa using this
def orderI(fl:List GFlight)(gone:List Bool):List Int:=(Sort.insertionSort (ltF fl) (leftI gone).toArray 0 (leftI gone).toArray.size).toList
theorem orderI_perm(fl:List GFlight)(gone:List Bool):(orderI fl gone).Perm (leftI gone):=by
 have h:=(sort_rank (ltF_swo fl) (leftI gone).toArray (leftI_inc gone)).2.1;exact h
theorem orderI_rank(fl:List GFlight)(gone:List Bool)(p:Nat)(hp:p<(orderI fl gone).length):(leftI gone).countP (fun y=>tieB (ltF fl) y ((orderI fl gone)[p]))=p:=by
 obtain⟨h1,h2,h3⟩:=sort_rank (ltF_swo fl) (leftI gone).toArray (leftI_inc gone);unfold orderI at hp ⊢;generalize Sort.insertionSort (ltF fl) (leftI gone).toArray 0 (leftI gone).toArray.size=o at*;have hpo:p<o.size:=by simpa using hp
 have:=h3 p (by omega);rw[getElem!_pos o p hpo]at this;simpa using this
theorem leftI_mem{gone:List Bool}{y:Int}:y∈leftI gone ↔ ∃ i:Nat,y=i∧i<gone.length∧gone.getD i false=false:=by
 unfold leftI;simp only[List.mem_map,List.mem_filter,List.mem_range,Bool.not_eq_true'];exact⟨fun⟨i,⟨h1,h2⟩,h3⟩=>⟨i,h3.symm,h1,h2⟩,fun⟨i,h1,h2,h3⟩=>⟨i,⟨h2,h3⟩,h1.symm⟩⟩
theorem leftI_le(gone:List Bool):(leftI gone).length≤gone.length:=by
 unfold leftI;rw[List.length_map];have:=List.length_filter_le (fun i => !gone.getD i false) (List.range gone.length)
 rwa [List.length_range]at this
theorem order_len(fl:List GFlight)(gone:List Bool):(orderI fl gone).length=(leftI gone).length:=(orderI_perm fl gone).length_eq
theorem order_at{fl:List GFlight}{gone:List Bool}{i:Nat}(hi:i<gone.length)(hg:gone.getD i false=false) : ∃ h:rankI fl gone i<(orderI fl gone).length,(orderI fl gone)[rankI fl gone i]=i:=by
 have hm:(i:Int)∈orderI fl gone:=(orderI_perm fl gone).mem_iff.2 (leftI_mem.2 ⟨i,rfl,hi,hg⟩);obtain⟨p,hp,he⟩:=List.getElem_of_mem hm;have hr:=orderI_rank fl gone p hp;rw[he]at hr;have hr':rankI fl gone i=p:=hr;subst hr';exact⟨hp,he⟩
theorem order_rank{fl:List GFlight}{gone:List Bool}{p:Nat}(hp:p<(orderI fl gone).length) : ∃ i:Nat,(orderI fl gone)[p]=i∧i<gone.length∧gone.getD i false=false∧rankI fl gone i=p:=by
 have hm:=(orderI_perm fl gone).mem_iff.1 (List.getElem_mem hp);obtain⟨i,he,hi,hg⟩:=leftI_mem.1 hm;refine⟨i,he,hi,hg, ?_⟩;have:=orderI_rank fl gone p hp;rw[he]at this;exact this
def newFl(fl:List GFlight)(gone:List Bool):List GFlight:=(orderI fl gone).map fun y=>fl.getD y.toNat noFlight
def refFl(fl:List GFlight)(gone:List Bool):List GFlight:=(List.range gone.length).flatMap fun (n:Nat)=>((List.range gone.length).filter fun i=>decide (indexI fl gone i=(n:Int))).map fun i=>fl.getD i noFlight
theorem single_of{l:List Nat}{a:Nat}(hn:l.Nodup)(hm:a∈l)(h : ∀ x∈l,x=a):l=[a]:=by
 cases l with
 | nil=>cases hm
 | cons b l =>
  have hb:=h b (.head _);subst hb
  cases l with
  | nil=>rfl
  | cons c l =>
   have hc:=h c (.tail _ (.head _));subst hc;simp at hn
theorem ref_round(fl:List GFlight)(gone:List Bool)(n:Nat):((List.range gone.length).filter fun i=>decide (indexI fl gone i=(n:Int)))=if h:n<(orderI fl gone).length then [((orderI fl gone)[n]).toNat] else []:=by
 split
 ·rename_i h;obtain⟨i,he,hi,hg,hr⟩:=order_rank h;rw[he,Int.toNat_natCast];refine single_of (List.nodup_range.filter _) ?_ fun x hx =>?_
  ·rw[List.mem_filter,List.mem_range];refine⟨hi, ?_⟩;unfold indexI;rw[hg];simp[hr]
  ·rw[List.mem_filter,List.mem_range,qL]at hx;obtain⟨hx1,hx2⟩:=hx;unfold indexI at hx2;split at hx2
   ·omega
   ·rename_i hgx;obtain⟨h',e'⟩:=order_at (fl:=fl) hx1 (by simpa using hgx);have:rankI fl gone x=n:=by omega
    simp only[this]at e';rw[he]at e';omega
 ·rename_i h;rw[List.filter_eq_nil_iff];intro x hx;rw[List.mem_range]at hx;rw[qL];unfold indexI;split
  ·omega
  ·rename_i hgx;obtain⟨h', -⟩:=order_at (fl:=fl) hx (by simpa using hgx);omega
theorem flat_take{α : Type} : ∀ (o:List α) (n k:Nat),o.length≤n→(List.range' k n).flatMap (fun p=>if h:p-k<o.length then [o[p-k]] else [])=o
 | [],n,k,_=>by
  rw[List.flatMap_eq_nil_iff];intro p _;simp
 | a::o,0,k,h=>by simp at h
 | a::o,n+1,k,h=>by
  rw[List.range'_succ,List.flatMap_cons];have h0:(if h:k-k<(a::o).length then [(a::o)[k-k]] else [])=[a]:=by simp
  rw[h0];have ih:=flat_take o n (k+1) (by simpa using h);have hc:(List.range' (k+1) n).flatMap (fun p=>if h:p-k<(a::o).length then [(a::o)[p-k]] else [])=(List.range' (k+1) n).flatMap (fun p=>if h:p-(k+1)<o.length then [o[p-(k+1)]] else []):=by
   rw[List.flatMap_def,List.flatMap_def]
   congr 1
   refine List.map_congr_left fun p hp =>?_
   rw[List.mem_range'_1]at hp;obtain⟨q,rfl⟩ : ∃ q,p=k+1+q:=⟨p-(k+1),by omega⟩
   have e1:k+1+q-k=q+1:=by omega
   have e2:k+1+q-(k+1)=q:=by omega
   simp only[e1,e2,List.length_cons,Nat.add_lt_add_iff_right,List.getElem_cons_succ]
  rw[hc,ih];rfl
theorem ref_eq(fl:List GFlight)(gone:List Bool):refFl fl gone=newFl fl gone:=by
 unfold refFl;have h1 : ∀ n:Nat,(((List.range gone.length).filter fun i=>decide (indexI fl gone i=(n:Int))).map fun i=>fl.getD i noFlight)=if h:n-0<(newFl fl gone).length then [(newFl fl gone)[n-0]] else []:=fun n=>by
  rw[ref_round];unfold newFl;simp only[List.length_map,Nat.sub_zero];split
  ·rename_i h;simp
  ·rfl
 have h2:=flat_take (newFl fl gone) gone.length 0 (by unfold newFl;rw[List.length_map,order_len];exact leftI_le gone);rw[←List.range_eq_range']at h2;rw[←h2]
 congr 1
 funext n
 exact h1 n
noncomputable def applyP(t:GTT)(l:List GInc):GTT×List Int×Int :=
 if ttE t≠0 then (⟨[],[],[]⟩,[],ttE t)
 else if firstErr (fun i=>if (l.getD i noInc).kind<1∨4<(l.getD i noInc).kind then 5 else if (l.getD i noInc).kind=4 then 0 else flightIncE t (l.getD i noInc)) l.length≠0 then
  (⟨[],[],[]⟩,[],firstErr (fun i=>if (l.getD i noInc).kind<1∨4<(l.getD i noInc).kind then 5 else if (l.getD i noInc).kind=4 then 0 else flightIncE t (l.getD i noInc)) l.length)
 else if ttE ⟨t.zones,t.airports,newFl (appAll t l).1 (appAll t l).2⟩≠0 then (⟨[],[],[]⟩,[],ttE ⟨t.zones,t.airports,newFl (appAll t l).1 (appAll t l).2⟩)
 else (⟨t.zones,t.airports,newFl (appAll t l).1 (appAll t l).2⟩,(List.range t.flights.length).map (indexI (appAll t l).1 (appAll t l).2),0)
end
end Go.Proofs.YtifconapjfdkcaaGreatDoor
