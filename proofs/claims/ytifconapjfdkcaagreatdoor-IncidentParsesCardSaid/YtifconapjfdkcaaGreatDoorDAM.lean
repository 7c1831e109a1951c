/-
  Joined texts: TextOut; TextSize; NumPlain; CalPlain; FmtPlain. What each proves stands ahead of it, with its conditions.
-/
import Derived.Test.YtifconapjfdkcaaGreatDoorDAA
import Derived.Test.YtifconapjfdkcaaGreatDoorDAH
import Derived.Test.YtifconapjfdkcaaGreatDoorDAB
import Derived.Lib.ItoaNum
set_option linter.unusedSimpArgs false
set_option linter.unusedVariables false
set_option maxRecDepth 100000
set_option maxHeartbeats 12800000
namespace Go.Proofs.YtifconapjfdkcaaGreatDoor
section
open Go
def fldOk(x:ByteArray):Prop:=x.data.toList≠[] ∧ ∀ b∈x.data.toList,33≤b.toNat∧b.toNat≤126∧b≠35
def restT:List ByteArray→List UInt8
 | []=>[]
 | f::r=>32::(f.data.toList++restT r)
def lineT:List ByteArray→List UInt8
 | []=>[]
 | f::r=>f.data.toList++restT r
def textT:List (List ByteArray)→List UInt8
 | []=>[]
 | f::r=>lineT f++10::textT r
theorem textT_app(a b:List (List ByteArray)):textT (a++b)=textT a++textT b:=by
 induction a with
 | nil=>rfl
 | cons f r ih=>simp[textT,ih]
theorem fldOk.no{x:ByteArray}(h:fldOk x){c:UInt8}(hc:c.toNat≤32∨c=35):c ∉ x.data.toList:=fun hm=>by
 have:=h.2 c hm;rcases hc with h1|h1
 ·omega
 ·exact this.2.2 h1
theorem splitT_app(c:UInt8)(x y:List UInt8)(h:c ∉ x):splitL c (x++y)=(x++(splitL c y).headD [])::(splitL c y).tail:=by
 induction x with
 | nil=>exact splitL_eq c y
 | cons a x ih =>
  have h1:a≠c:=fun e=>h (by simp[e])
  have h2:c ∉ x:=fun e=>h (by simp[e])
  rw[List.cons_append,splitL,qN h1,ih h2];rfl
theorem splitT_cut(c:UInt8)(x y:List UInt8)(h:c ∉ x):splitL c (x++c::y)=x::splitL c y:=by
 rw[splitT_app c x _ h,splitL,qR rfl];simp
theorem split_restT{fs:List ByteArray}(h : ∀ x∈fs,fldOk x):splitL 32 (restT fs)=[]::fs.map (·.data.toList):=by
 induction fs with
 | nil=>rfl
 | cons f r ih =>
  rw[restT,splitL,qR rfl,splitT_app 32 _ _ ((h f (.head _)).no (.inl (by decide))),ih (fun y hy=>h y (.tail _ hy))];simp
theorem restT_mem{fs:List ByteArray}(h : ∀ x∈fs,fldOk x) : ∀ b∈restT fs,32≤b.toNat∧b.toNat≤126∧b≠35:=by
 induction fs with
 | nil=>intro b hb;simp[restT]at hb
 | cons f r ih =>
  intro b hb;simp only[restT,List.mem_cons,List.mem_append]at hb;rcases hb with rfl|hb|hb
  ·decide
  ·obtain⟨h1,h2,h3⟩:=(h f (.head _)).2 b hb;exact⟨by omega,h2,h3⟩
  ·exact ih (fun y hy=>h y (.tail _ hy)) b hb
theorem lineT_mem{fs:List ByteArray}(h : ∀ x∈fs,fldOk x) : ∀ b∈lineT fs,32≤b.toNat∧b.toNat≤126∧b≠35:=by
 cases fs with
 | nil=>intro b hb;simp[lineT]at hb
 | cons f r =>
  intro b hb;simp only[lineT,List.mem_append]at hb;rcases hb with hb|hb
  ·obtain⟨h1,h2,h3⟩:=(h f (.head _)).2 b hb;exact⟨by omega,h2,h3⟩
  ·exact restT_mem (fun y hy=>h y (.tail _ hy)) b hb
theorem takeT_all{l:List UInt8}(h : ∀ b∈l,b≠35):l.takeWhile (fun b=>b != 35)=l:=by
 induction l with
 | nil=>rfl
 | cons a l ih =>
  rw[List.takeWhile_cons,qR (by simp[h a (.head _)]),ih (fun b hb=>h b (.tail _ hb))]
theorem fields_lineT{fs:List ByteArray}(h : ∀ x∈fs,fldOk x):fieldsB (bs (lineT fs))=fs:=by
 have hl:=lineT_mem h;unfold fieldsB fieldsL;rw[bs_data,takeT_all fun b hb=>(hl b hb).2.2];have hs:(splitL 32 (lineT fs)).filter (fun f => !f.isEmpty)=fs.map (·.data.toList):=by
  cases fs with
  | nil=>rfl
  | cons f r =>
   rw[lineT,splitT_app 32 _ _ ((h f (.head _)).no (.inl (by decide))),split_restT (fun y hy=>h y (.tail _ hy))];simp only[List.headD_cons,List.tail_cons,List.append_nil];refine List.filter_eq_self.2 fun x hx =>?_
   have hx':x∈(f::r).map (·.data.toList):=hx;obtain⟨g,hg,rfl⟩:=List.mem_map.1 hx';have:=(h g hg).1
   cases e:g.data.toList with
   | nil=>exact absurd e this
   | cons _ _=>rfl
 rw[hs,map_bs]
theorem split_textT{ls:List (List ByteArray)}(h : ∀ f∈ls, ∀ x∈f,fldOk x):splitL 10 (textT ls)=ls.map lineT++[[]]:=by
 induction ls with
 | nil=>rfl
 | cons f r ih =>
  rw[textT,splitT_cut 10 _ _ (fun hm=>by have:=(lineT_mem (h f (.head _))) 10 hm;exact absurd this.1 (by decide)),ih (fun g hg=>h g (.tail _ hg))];rfl
theorem lines_textT{ls:List (List ByteArray)}(h : ∀ f∈ls, ∀ x∈f,fldOk x):linesL (textT ls)=ls.map lineT:=by
 rw[linesL_of (split_textT h),qR rfl]
theorem textT_mem{ls:List (List ByteArray)}(h : ∀ f∈ls, ∀ x∈f,fldOk x) : ∀ b∈textT ls,b=10∨(32≤b.toNat∧b.toNat≤126):=by
 induction ls with
 | nil=>intro b hb;simp[textT]at hb
 | cons f r ih =>
  intro b hb;simp only[textT,List.mem_append,List.mem_cons]at hb;rcases hb with hb|rfl|hb
  ·obtain⟨h1,h2,_⟩:=lineT_mem (h f (.head _)) b hb;exact .inr ⟨h1,h2⟩
  ·exact .inl rfl
  ·exact ih (fun g hg=>h g (.tail _ hg)) b hb
theorem linesB_textT{ls:List (List ByteArray)}(h : ∀ f∈ls, ∀ x∈f,fldOk x)(hz:(textT ls).length≤20000)(hl:ls.length≤1000):linesB (bs (textT ls))=(ls.map (fun f=>bs (lineT f)),0):=by
 unfold linesB;have hs:(bs (textT ls)).size=(textT ls).length:=bs_size _;rw[qN (by omega)];have ha:allTo (okByte (bs (textT ls))) (bs (textT ls)).size=true:=by
  rw[allTo_iff];intro k hk;rw[hs]at hk;unfold okByte byteAt;rw[bs_data,qF,qG hk];simp only[Option.getD_some];rcases textT_mem h _ (List.getElem_mem hk) with e|⟨e1,e2⟩
  ·rw[e];rfl
  ·have a1:(32:Int)≤((textT ls)[k].toNat:Int):=by omega
   have a2:((textT ls)[k].toNat:Int)≤126:=by omega
   simp[a1,a2]
 rw[ha,bs_data,lines_textT h,qN (by simp),qN (by simpa using hl),List.map_map];rfl
end
section
open Go.RowKit
theorem splitL_mem{c:UInt8} : ∀ {l x:List UInt8},x∈splitL c l→x.length≤l.length:=by
 intro l
 induction l with
 | nil=>intro x hx;simp[splitL]at hx;subst hx;simp
 | cons b l ih =>
  intro x hx;have he:=splitL_eq c l;unfold splitL at hx;split at hx
  ·rcases List.mem_cons.1 hx with rfl|h
   ·simp
   ·have:=ih h;simp;omega
  ·rcases List.mem_cons.1 hx with rfl|h
   ·have:(splitL c l).headD []∈splitL c l:=by rw[he];simp
    have:=ih this;rw[List.length_cons,List.length_cons];omega
   ·have:x∈splitL c l:=by rw[he];exact List.mem_cons_of_mem _ h
    have:=ih this;simp;omega
theorem takeWhile_len(p:UInt8→Bool)(l:List UInt8):(l.takeWhile p).length≤l.length:=(List.takeWhile_prefix p).length_le
theorem fieldsB_mem{s f:ByteArray}(h:f∈fieldsB s):f.size≤s.size:=by
 unfold fieldsB fieldsL at h;obtain⟨x,hx,rfl⟩:=List.mem_map.1 h;have h1:=splitL_mem (List.mem_filter.1 hx).1;have h2:=takeWhile_len (fun b=>b != 35) s.data.toList;rw[bs_size,Lib.size_eq];simp only[Array.length_toList]at *;omega
theorem linesB_mem{s f:ByteArray}(h:f∈(linesB s).1):f.size≤s.size∧s.size≤20000:=by
 unfold linesB at h;split at h
 ·simp at h
 ·rename_i h0;split at h
  ·simp at h
  ·split at h
   ·simp at h
   ·obtain⟨x,hx,rfl⟩:=List.mem_map.1 h;refine⟨?_,by omega⟩;obtain⟨ps,cur,e⟩:=splitL_last 10 s.data.toList;rw[linesL_of e]at hx;have hm:x∈splitL 10 s.data.toList:=by
     rw[e];split at hx
     ·exact List.mem_append_left _ hx
     ·exact hx
    have:=splitL_mem hm;rw[bs_size,Lib.size_eq];simpa using this
theorem linesB_len(s:ByteArray):(linesB s).1.length≤1000:=by
 unfold linesB;split
 ·simp
 ·split
  ·simp
  ·split
   ·simp
   ·rename_i h;simp only[List.length_map];omega
def spS:ByteArray:=⟨#[32]⟩
theorem find_first{p:Nat→Bool}{n k:Nat}(hk:k<n)(hp:p k=true)(hn : ∀ j,j<k→p j=false):(List.range n).find? p=some k:=by
 rw[List.find?_range_eq_some];exact⟨hp,by simpa using hk,fun j hj=>by rw[hn j hj];rfl⟩
theorem find_no{p:Nat→Bool}{n:Nat}(hn : ∀ j,j<n→p j=false):(List.range n).find? p=none:=by
 rw[List.find?_eq_none];intro x hx;rw[hn x (List.mem_range.1 hx)];decide
end
section
open Go
def digAt(s:ByteArray)(i:Nat):Bool:=numberI (byteAt s i)
def numTo(s:ByteArray):Nat→Int
 | 0=>0
 | k+1=>10*numTo s k+(byteAt s k-48)
def bnd:Nat→Int
 | 0=>0
 | k+1=>10*bnd k+9
theorem numTo_bd(s:ByteArray) : ∀ k,allTo (digAt s) k=true→0≤numTo s k∧numTo s k≤bnd k
 | 0,_=>⟨Int.le_refl _,Int.le_refl _⟩
 | k+1,h=>by
  rw[allTo_succ,qI]at h;have ih:=numTo_bd s k h.1;have h2:=h.2;unfold digAt numberI at h2;simp only[qI,qL]at h2;simp only[numTo,bnd];omega
theorem bnd_mono{j k:Nat}(h:j≤k):bnd j≤bnd k:=by
 induction k with
 | zero=>have:j=0:=by omega
         subst this;exact Int.le_refl _
 | succ k ih =>
  have hp : ∀ i,0≤bnd i:=fun i=>by induction i with
   | zero=>exact Int.le_refl _
   | succ i ih=>simp only[bnd];omega
  rcases Nat.lt_or_eq_of_le h with h1|rfl
  ·have:=ih (by omega);have:=hp k;simp only[bnd];omega
  ·exact Int.le_refl _
def stripB(s:ByteArray):ByteArray:=bs (Lib.trimPrefix s.data.toList [45])
theorem stripB_eq(s:ByteArray):stripB s=if 0<s.size∧byteAt s 0=45 then s.extract 1 s.size else s:=by
 unfold stripB Lib.trimPrefix Lib.hasPrefix;obtain⟨⟨l⟩⟩:=s
 cases l with
 | nil=>rfl
 | cons a l =>
  have e1:(⟨⟨a::l⟩⟩:ByteArray).size=l.length+1:=rfl;have e2:byteAt ⟨⟨a::l⟩⟩ 0=(a.toNat:Int):=rfl;have e3:List.isPrefixOf [45] (a::l)=decide (a=45):=by
   simp only[List.isPrefixOf,Bool.and_true]
   by_cases h:a=45
   ·subst h;rfl
   ·rw[decide_eq_false h];simp;exact fun e=>h e.symm
  simp only[e1,e2,e3]
  by_cases h:a=45
  ·subst h;rw[qR (decide_eq_true rfl),qR ⟨by omega,rfl⟩,extract_take]
   congr 1
   simp
  ·rw[qN (by simpa using h),qN (by
    rintro⟨_,h2⟩;exact h (UInt8.toNat.inj (by have:(45:UInt8).toNat=45:=rfl;omega)))]
   rfl
theorem stripB_size(s:ByteArray):(stripB s).size=if 0<s.size∧byteAt s 0=45 then s.size-1 else s.size:=by
 rw[stripB_eq];split
 ·rw[ByteArray.size_extract];omega
 ·rfl
def parseB(s:ByteArray):Int×Int :=
 if (stripB s).size<1∨10<(stripB s).size then (0,1) else
  if byteAt (stripB s) 0=48∧(1<(stripB s).size∨(stripB s).size<s.size) then (0,1) else
   if allTo (digAt (stripB s)) (stripB s).size=false then (0,1) else
    (if (stripB s).size<s.size then-numTo (stripB s) (stripB s).size else numTo (stripB s) (stripB s).size,0)
theorem numTo_bs(l:List UInt8)(k:Nat)(h:k<l.length):numTo (bs l) (k+1)=10*numTo (bs l) k+((l[k].toNat:Int)-48):=by
 simp only[numTo,byteAt,bs_data];rw[qF,qG h];rfl
theorem numTo_app(a b:List UInt8) : ∀ k,k≤a.length→numTo (bs (a++b)) k=numTo (bs a) k
 | 0,_=>rfl
 | k+1,h=>by
  have ih:=numTo_app a b k (by omega);rw[numTo_bs _ _ (by simp;omega),numTo_bs _ _ (by omega),ih,List.getElem_append_left (by omega)]
theorem dec_facts(u:Nat):(∀ i,i<(Lib.decDigits u).length→digAt (bs (Lib.decDigits u)) i=true)∧numTo (bs (Lib.decDigits u)) (Lib.decDigits u).length=u∧(byteAt (bs (Lib.decDigits u)) 0=48→u=0):=by
 induction u using Nat.strongRecOn with
 | _ u ih =>
  by_cases h:u<10
  ·rw[Lib.decDigits_one h];have hn:(UInt8.ofNat (48+u)).toNat=48+u:=by
    rw[UInt8.toNat_ofNat'];omega
   have hb:byteAt (bs [UInt8.ofNat (48+u)]) 0=48+u:=by
    show(((UInt8.ofNat (48+u)).toNat:Nat):Int)=_;rw[hn];omega
   refine⟨fun i hi =>?_, ?_,fun he =>?_⟩
   ·have:i=0:=by simpa using hi
    subst this;unfold digAt numberI;rw[hb];simp;omega
   ·show 10*0+(byteAt _ 0-48)=_;rw[hb];omega
   ·rw[hb]at he;omega
  ·have e:Lib.decDigits u=Lib.decDigits (u/10)++[UInt8.ofNat (48+u%10)]:=by rw[Lib.decDigits,dif_neg h]
   obtain⟨i1,i2,i3⟩:=ih (u/10) (by omega);have hn:(UInt8.ofNat (48+u%10)).toNat=48+u%10:=by
    rw[UInt8.toNat_ofNat'];omega
   have hpos:1≤(Lib.decDigits (u/10)).length:=by rw[Lib.decDigits_length];exact Lib.nDigits_pos _
   rw[e];have hbo : ∀ i,i<(Lib.decDigits (u/10)).length→byteAt (bs (Lib.decDigits (u/10)++[UInt8.ofNat (48+u%10)])) i=byteAt (bs (Lib.decDigits (u/10))) i:=by
    intro i hi;unfold byteAt;rw[bs_data,bs_data,qF,qF,List.getElem?_append_left hi]
   refine⟨fun i hi =>?_, ?_,fun he =>?_⟩
   ·rw[List.length_append,List.length_singleton]at hi
    by_cases hlt:i<(Lib.decDigits (u/10)).length
    ·unfold digAt;rw[hbo i hlt];exact i1 i hlt
    ·have:i=(Lib.decDigits (u/10)).length:=by omega
     subst this;unfold digAt byteAt;rw[bs_data,qF,List.getElem?_append_right (qD _),Nat.sub_self];show numberI (((UInt8.ofNat (48+u%10)).toNat:Nat):Int)=true;rw[hn];unfold numberI;simp;omega
   ·rw[List.length_append,List.length_singleton,numTo_bs _ _ (by simp),numTo_app _ _ _ (qD _),i2,List.getElem_append_right (qD _)];simp only[Nat.sub_self,List.getElem_singleton];rw[hn];omega
   ·rw[hbo 0 (by omega)]at he;have:=i3 he;omega
theorem nDigits_ten(u:Nat):Lib.nDigits u≤10↔u≤9999999999:=by
 refine⟨fun h =>?_,fun h =>?_⟩
 ·have h1:=Lib.lt_pow_nDigits u;have h2:10^Lib.nDigits u≤10^10:=Nat.pow_le_pow_right (by decide) h;omega
 ·by_cases h1:u<10
  ·rw[Lib.nDigits_small h1];decide
  ·rcases Nat.lt_or_ge 10 (Lib.nDigits u) with h2|h2
   ·exfalso;have hk : ∀ k v,k<Lib.nDigits v→10^k≤v∨k=0:=by
     intro k
     induction k with
     | zero=>intro v _;exact .inr rfl
     | succ k ih =>
      intro v hv;left
      by_cases hv1:v<10
      ·rw[Lib.nDigits_small hv1]at hv;omega
      ·rw[Lib.nDigits_big hv1]at hv;rcases ih (v/10) (by omega) with h5|h5
       ·rw[Nat.pow_succ];omega
       ·subst h5;omega
    rcases hk 10 u h2 with h3|h3
    ·have:(10:Nat)^10=10000000000:=by decide
     omega
    ·cases h3
   ·exact h2
theorem dec_pos(u:Nat):1≤(Lib.decDigits u).length:=by rw[Lib.decDigits_length];exact Lib.nDigits_pos u
theorem dec_head(u:Nat):byteAt (bs (Lib.decDigits u)) 0≠45:=by
 have h:=(dec_facts u).1 0 (dec_pos u);unfold digAt numberI at h;simp only[qI,qL]at h;omega
theorem parse_format(n:Int):parseB (bs (Lib.itoa n))=if -9999999999≤n∧n≤9999999999 then (n,0) else (0,1):=by
 have key : ∀ u:Nat, ∀ s:ByteArray,stripB s=bs (Lib.decDigits u)→(s.size=(stripB s).size∨(s.size=(stripB s).size+1∧u≠0)) →
  parseB s=if u≤9999999999 then (if (stripB s).size<s.size then -(u:Int) else u,0) else (0,1):=by
  intro u s hs hsz;obtain⟨h1,h2,h3⟩:=dec_facts u;have hl:=dec_pos u;have hlen:=Lib.decDigits_length u;have h10:=nDigits_ten u;unfold parseB;rw[hs,bs_size];rw[hs,bs_size]at hsz
  by_cases hu:u≤9999999999
  ·rw[qN (by omega),qR hu,qN,qN,h2]
   ·have:allTo (digAt (bs (Lib.decDigits u))) (Lib.decDigits u).length=true:=allTo_iff.2 h1;rw[this];decide
   ·rintro⟨h4,h5⟩;have h6:=h3 h4;subst h6;rcases h5 with h5|h5
    ·have:(Lib.decDigits 0).length=1:=by rw[Lib.decDigits_one (by decide)];rfl
     omega
    ·rcases hsz with h7|⟨_,h7⟩
     ·omega
     ·exact h7 rfl
  ·rw[qN hu,qR (by omega)]
 unfold Lib.itoa
 by_cases hn:n<0
 ·rw[qR hn];have e1:stripB (bs (45::Lib.decDigits n.natAbs))=bs (Lib.decDigits n.natAbs):=by
   rw[stripB_eq,qR ⟨by rw[bs_size];simp,rfl⟩,extract_take,bs_size,bs_data,List.take_length];rfl
  have e2:=key n.natAbs _ e1 (.inr ⟨by rw[e1,bs_size,bs_size,List.length_cons],by omega⟩);rw[e2,e1,bs_size,bs_size,List.length_cons]
  by_cases h:n.natAbs≤9999999999
  ·rw[qR h,qR (Nat.lt_succ_self _),qR (by omega)]
   congr 1
   omega
  ·rw[qN h,qN (by omega)]
 ·rw[qN hn];have e1:stripB (bs (Lib.decDigits n.toNat))=bs (Lib.decDigits n.toNat):=by
   rw[stripB_eq,qN];rintro⟨_,h⟩;exact dec_head _ h
  have e2:=key n.toNat _ e1 (.inl (by rw[e1]));rw[e2,e1,qN (Nat.lt_irrefl _)]
  by_cases h:n.toNat≤9999999999
  ·rw[qR h,qR (by omega)]
   congr 1
   omega
  ·rw[qN h,qN (by omega)]
end
section
open Go
def leapB(y:Int):Bool:=decide (y%4=0)&&(decide (y%100≠0)||decide (y%400=0))
def mTab:List Int:=[31,28,31,30,31,30,31,31,30,31,30,31]
def mDays(y m:Int):Int:=if m=2∧leapB y=true then 29 else mTab.getD (m-1).toNat 0
def yDays(y:Int):Int:=if leapB y=true then 366 else 365
def validB(y m d:Int):Bool:=decide (1999≤y)&&decide (y≤2100)&&decide (1≤m)&&decide (m≤12)&&decide (1≤d)&&decide (d≤mDays y m)
def sumTo(f:Nat→Int):Nat→Int
 | 0=>0
 | k+1=>sumTo f k+f k
theorem sumTo_bd{f:Nat→Int}{lo hi:Int}(h : ∀ i,lo≤f i∧f i≤hi) : ∀ n:Nat,lo*n≤sumTo f n∧sumTo f n≤hi*n
 | 0=>⟨by simp[sumTo],by simp[sumTo]⟩
 | n+1=>by
  have h1:=sumTo_bd h n;have h2:=h n;simp only[sumTo,Int.natCast_add,Int.natCast_one,Int.mul_add,Int.mul_one];omega
theorem mTab_bd(n:Nat):0≤mTab.getD n 0∧mTab.getD n 0≤31:=by
 unfold mTab;rcases n with _|_|_|_|_|_|_|_|_|_|_|_|n <;> simp
theorem mDays_bd(y m:Int):0≤mDays y m∧mDays y m≤31:=by
 unfold mDays;split
 ·omega
 ·exact mTab_bd _
theorem yDays_bd(y:Int):0≤yDays y∧yDays y≤366:=by
 unfold yDays;split <;> omega
theorem validB_iff{y m d:Int}:validB y m d=true↔(1999≤y∧y≤2100)∧(1≤m∧m≤12)∧1≤d∧d≤mDays y m:=by
 unfold validB;simp only[qI,qL];constructor
 ·rintro⟨⟨⟨⟨⟨a,b⟩,c⟩,d⟩,e⟩,f⟩;exact⟨⟨a,b⟩,⟨c,d⟩,e,f⟩
 ·rintro⟨⟨a,b⟩,⟨c,d⟩,e,f⟩;exact⟨⟨⟨⟨⟨a,b⟩,c⟩,d⟩,e⟩,f⟩
def yearSum(k:Nat):Int:=sumTo (fun i=>yDays (1999+i)) k
def monSum(y:Int)(k:Nat):Int:=sumTo (fun i=>mDays y (1+i)) k
theorem yearSum_bd(k:Nat):0≤yearSum k∧yearSum k≤366*k:=by
 have:=sumTo_bd (f:=fun i=>yDays (1999+i)) (fun i=>yDays_bd _) k;unfold yearSum;omega
theorem monSum_bd(y:Int)(k:Nat):0≤monSum y k∧monSum y k≤31*k:=by
 have:=sumTo_bd (f:=fun i=>mDays y (1+i)) (fun i=>mDays_bd _ _) k;unfold monSum;omega
def dayB(y m d:Int):Int := -365+yearSum (y-1999).toNat+monSum y (m-1).toNat+d-1
theorem dayB_bd{y m d:Int}(h:validB y m d=true) : -365≤dayB y m d∧dayB y m d≤40000:=by
 obtain⟨h1,h2,h3,h4⟩:=validB_iff.1 h;have a:=yearSum_bd (y-1999).toNat;have b:=monSum_bd y (m-1).toNat;have c:=mDays_bd y m;unfold dayB;omega
def mAt(s p:ByteArray)(i:Nat):Bool:=if byteAt p i=48 then digAt s i else decide (byteAt s i=byteAt p i)
def matchB(s p:ByteArray):Bool:=decide (s.size=p.size)&&allTo (mAt s p) s.size
def patD:ByteArray:=⟨#[48,48,48,48,45,48,48,45,48,48]⟩
def patC:ByteArray:=⟨#[48,48,58,48,48]⟩
def patI:ByteArray:=⟨#[48,48,48,48,45,48,48,45,48,48,32,48,48,58,48,48]⟩
def subN(s:ByteArray)(a b:Nat):Int:=numTo (s.extract a b) (s.extract a b).size
def dateB(s:ByteArray):(Int×Int×Int)×Int :=
 if matchB s patD=false then ((0,0,0),1) else
  if validB (subN s 0 4) (subN s 5 7) (subN s 8 s.size)=false then ((0,0,0),5) else ((subN s 0 4,subN s 5 7,subN s 8 s.size),0)
def clockB(s:ByteArray):Int×Int :=
 if matchB s patC=false then (0,1) else if 23<subN s 0 2∨59<subN s 3 s.size then (0,5) else (subN s 0 2*60+subN s 3 s.size,0)
def insB(s:ByteArray):Int×Int :=
 if matchB s patI=false then (0,1) else
  if (dateB (s.extract 0 10)).2≠0 then (0,(dateB (s.extract 0 10)).2) else
   if (clockB (s.extract 11 s.size)).2≠0 then (0,(clockB (s.extract 11 s.size)).2) else
    if dayB (dateB (s.extract 0 10)).1.1 (dateB (s.extract 0 10)).1.2.1 (dateB (s.extract 0 10)).1.2.2*1440+(clockB (s.extract 11 s.size)).1<0∨52596000≤dayB (dateB (s.extract 0 10)).1.1 (dateB (s.extract 0 10)).1.2.1 (dateB (s.extract 0 10)).1.2.2*1440+(clockB (s.extract 11 s.size)).1 then (0,5) else
     (dayB (dateB (s.extract 0 10)).1.1 (dateB (s.extract 0 10)).1.2.1 (dateB (s.extract 0 10)).1.2.2*1440+(clockB (s.extract 11 s.size)).1,0)
theorem insB_bd(s:ByteArray):0≤(insB s).1∧(insB s).1<52596000:=by
 unfold insB
 repeat' split
 all_goals first|decide|(dsimp only;omega)
theorem byteAt_extract(s:ByteArray)(a b i:Nat)(h:a+i<b):byteAt (s.extract a b) i=byteAt s (a+i):=by
 unfold byteAt;rw[extract_take,bs_data]
 congr 2
 rw[qF,qF,List.getElem?_drop,List.getElem?_take,qR h]
theorem digAt_extract(s:ByteArray)(a b i:Nat)(h:a+i<b):digAt (s.extract a b) i=digAt s (a+i):=by
 unfold digAt;rw[byteAt_extract _ _ _ _ h]
theorem size_sub{s:ByteArray}{a b:Nat}(h:b≤s.size):(s.extract a b).size=b-a:=by
 rw[ByteArray.size_extract];omega
theorem allTo_ext{p q:Nat→Bool}{n:Nat}(h : ∀ i,i<n→p i=q i):allTo p n=allTo q n:=by
 rw[Bool.eq_iff_iff,allTo_iff,allTo_iff];exact⟨fun g i hi=>(h i hi)▸g i hi,fun g i hi=>(h i hi).symm▸g i hi⟩
def digOn(s:ByteArray)(a n:Nat):Bool:=allTo (fun i=>digAt s (a+i)) n
theorem dig_sub{s:ByteArray}{a b:Nat}(h:b≤s.size):allTo (digAt (s.extract a b)) (s.extract a b).size=digOn s a (b-a):=by
 rw[size_sub h];exact allTo_ext fun i hi=>digAt_extract s a b i (by omega)
theorem matchD_iff(s:ByteArray):matchB s patD=(decide (s.size=10)&&(digOn s 0 4&&decide (byteAt s 4=45)&&digOn s 5 2&&decide (byteAt s 7=45)&&digOn s 8 2)):=by
 unfold matchB;have hp:patD.size=10:=rfl;rw[hp]
 by_cases h:s.size=10
 ·rw[h];simp only[allTo,digOn,List.range_succ,List.range_zero,List.nil_append,List.all_append,List.all_cons,List.all_nil,Bool.and_true,mAt];have e : ∀ i,byteAt patD i=(([48,48,48,48,45,48,48,45,48,48]:List UInt8).getD i 0).toNat:=fun i=>rfl
  simp[e,Bool.and_assoc]
 ·rw[decide_eq_false h];rfl
theorem matchC_iff(s:ByteArray):matchB s patC=(decide (s.size=5)&&(digOn s 0 2&&decide (byteAt s 2=58)&&digOn s 3 2)):=by
 unfold matchB;have hp:patC.size=5:=rfl;rw[hp]
 by_cases h:s.size=5
 ·rw[h];simp only[allTo,digOn,List.range_succ,List.range_zero,List.nil_append,List.all_append,List.all_cons,List.all_nil,Bool.and_true,mAt];have e : ∀ i,byteAt patC i=(([48,48,58,48,48]:List UInt8).getD i 0).toNat:=fun i=>rfl
  simp[e,Bool.and_assoc]
 ·rw[decide_eq_false h];rfl
theorem matchI_iff(s:ByteArray):matchB s patI=(decide (s.size=16)&&(decide (byteAt s 10=32)&&matchB (s.extract 0 10) patD&&matchB (s.extract 11 s.size) patC)):=by
 rw[matchD_iff,matchC_iff];unfold matchB;have hp:patI.size=16:=rfl;rw[hp]
 by_cases h:s.size=16
 ·have z1:(s.extract 0 10).size=10:=size_sub (by omega);have z2:(s.extract 11 s.size).size=5:=by rw[size_sub (qD _)];omega
  rw[z1,z2,h];simp only[allTo,digOn,List.range_succ,List.range_zero,List.nil_append,List.all_append,List.all_cons,List.all_nil,Bool.and_true,mAt];have e : ∀ i,byteAt patI i=(([48,48,48,48,45,48,48,45,48,48,32,48,48,58,48,48]:List UInt8).getD i 0).toNat:=fun i=>rfl
  rw[←h];rw[digAt_extract s 0 10 _ (by omega),digAt_extract s 0 10 _ (by omega),digAt_extract s 0 10 _ (by omega),digAt_extract s 0 10 _ (by omega),digAt_extract s 0 10 _ (by omega),digAt_extract s 0 10 _ (by omega),digAt_extract s 0 10 _ (by omega),digAt_extract s 0 10 _ (by omega),
   digAt_extract s 11 _ _ (by omega),digAt_extract s 11 _ _ (by omega),digAt_extract s 11 _ _ (by omega),digAt_extract s 11 _ _ (by omega),byteAt_extract s 0 10 _ (by omega),byteAt_extract s 0 10 _ (by omega),byteAt_extract s 11 _ _ (by omega)]
  simp[e]
  grind
 ·rw[decide_eq_false h];rfl
theorem dateB_valid{s:ByteArray}(h:(dateB s).2=0):validB (dateB s).1.1 (dateB s).1.2.1 (dateB s).1.2.2=true:=by
 unfold dateB at h ⊢;split at h
 ·simp at h
 ·rename_i h1;rw[qN h1];split at h
  ·simp at h
  ·rename_i h2;rw[qN h2];simpa using h2
theorem clockB_bd(s:ByteArray):0≤(clockB s).1∧(clockB s).1≤1439:=by
 unfold clockB;split
 ·decide
 ·rename_i h;split
  ·decide
  ·rename_i h2;have hm:matchB s patC=true:=by simpa using h
   rw[matchC_iff]at hm;simp only[qI,qL]at hm;obtain⟨hs,⟨h3, -⟩,h4⟩:=hm;have d1:=numTo_bd (s.extract 0 2) (s.extract 0 2).size (by rw[dig_sub (by omega)];exact h3);have d2:=numTo_bd (s.extract 3 s.size) (s.extract 3 s.size).size (by rw[dig_sub (qD _),hs];exact h4);unfold subN at h2 ⊢
   dsimp only
   omega
end
section
open Go
def zS:ByteArray:=⟨#[48]⟩
def dashS:ByteArray:=⟨#[45]⟩
def colS:ByteArray:=⟨#[58]⟩
def blankS:ByteArray:=⟨#[32]⟩
def numS(n:Int):ByteArray:=bs (Lib.itoa n)
def padB(n:Int)(d:Nat):ByteArray:=if (numS n).size<d then zS++numS n else numS n
def fmtDate(y m d:Int):ByteArray:=padB y 4++dashS++padB m 2++dashS++padB d 2
def fmtClock(c:Int):ByteArray:=padB (c/60) 2++colS++padB (c%60) 2
def dgt(n:Nat):UInt8:=UInt8.ofNat (48+n)
theorem bs_app(a b:List UInt8):bs a++bs b=bs (a++b):=by
 have:(bs a++bs b).data.toList=(bs (a++b)).data.toList:=by
  rw[ByteArray.data_append,Array.toList_append];rfl
 rw[←bs_of (bs a++bs b),this];rfl
theorem numS_one{n:Nat}(h:n<10):numS n=bs [dgt n]:=by
 unfold numS;rw[Lib.itoa,qN (by omega),Int.toNat_natCast,Lib.decDigits_one h];rfl
theorem numS_two{n:Nat}(h1 : ¬n<10)(h2:n<100):numS n=bs [dgt (n/10),dgt (n%10)]:=by
 unfold numS;rw[Lib.itoa,qN (by omega),Int.toNat_natCast,Lib.decDigits_two h1 h2];rfl
theorem numS_four{n:Nat}(h1:1000≤n)(h2:n<10000):numS n=bs [dgt (n/1000),dgt (n/100%10),dgt (n/10%10),dgt (n%10)]:=by
 unfold numS;have e1:Lib.decDigits n=Lib.decDigits (n/10)++[UInt8.ofNat (48+n%10)]:=by rw[Lib.decDigits,dif_neg (by omega)]
 have e2:Lib.decDigits (n/10)=Lib.decDigits (n/10/10)++[UInt8.ofNat (48+n/10%10)]:=by rw[Lib.decDigits,dif_neg (by omega)]
 rw[Lib.itoa,qN (by omega),Int.toNat_natCast,e1,e2,Lib.decDigits_two (by omega) (by omega)];have a1:n/10/10/10=n/1000:=by omega
 have a2:n/10/10%10=n/100%10:=by omega
 rw[a1,a2];rfl
theorem pad2{n:Nat}(h:n<100):padB n 2=bs [dgt (n/10),dgt (n%10)]:=by
 unfold padB
 by_cases h1:n<10
 ·rw[numS_one h1,qR (by rw[bs_size];simp)];have e1:n/10=0:=by omega
  have e2:n%10=n:=by omega
  rw[e1,e2];exact bs_app [48] [dgt n]
 ·rw[numS_two h1 h,qN (by rw[bs_size];simp)]
theorem pad4{n:Nat}(h1:1000≤n)(h2:n<10000):padB n 4=bs [dgt (n/1000),dgt (n/100%10),dgt (n/10%10),dgt (n%10)]:=by
 unfold padB;rw[numS_four h1 h2,qN (by rw[bs_size];simp)]
theorem dgt_nat{n:Nat}(h:n<10):(dgt n).toNat=48+n:=by
 unfold dgt;rw[UInt8.toNat_ofNat'];omega
def insL(y m d h i:Nat):List UInt8:=[dgt (y/1000),dgt (y/100%10),dgt (y/10%10),dgt (y%10),45,dgt (m/10),dgt (m%10),45,dgt (d/10),dgt (d%10),32,dgt (h/10),dgt (h%10),58,dgt (i/10),dgt (i%10)]
theorem fmt_bytes{y m d h i:Nat}(hy:1000≤y)(hy2:y<10000)(hm:m<100)(hd:d<100)(hh:h<100)(hi:i<60):fmtDate y m d++blankS++fmtClock (60*h+i)=bs (insL y m d h i):=by
 unfold fmtDate fmtClock;have e1:(60*(h:Int)+i)/60=(h:Nat):=by omega
 have e2:(60*(h:Int)+i)%60=(i:Nat):=by omega
 rw[e1,e2,pad4 hy hy2,pad2 hm,pad2 hd,pad2 hh,pad2 (by omega)];show bs _++bs [45]++bs _++bs [45]++bs _++bs [32]++(bs _++bs [58]++bs _)=_;simp only[bs_app];rfl
section
variable {y m d h i:Nat}
theorem byteAt_dgt{s:ByteArray}{k n:Nat}(e:s.data.toList.getD k 0=dgt n)(hn:n<10):byteAt s k=48+n:=by
 unfold byteAt;rw[e,dgt_nat hn];omega
theorem digAt_dgt{s:ByteArray}{k n:Nat}(e:s.data.toList.getD k 0=dgt n)(hn:n<10):digAt s k=true:=by
 unfold digAt numberI;rw[byteAt_dgt e hn];simp;omega
theorem sub_two{s:ByteArray}{a b n:Nat}(hb:b=a+2)(hs:b≤s.size)(e0:byteAt s a=48+(n/10:Nat))(e1:byteAt s (a+1)=48+(n%10:Nat)):subN s a b=n:=by
 subst hb;unfold subN;rw[size_sub hs];have:a+2-a=2:=by omega
 rw[this];show 10*(10*0+(byteAt (s.extract a (a+2)) 0-48))+(byteAt (s.extract a (a+2)) 1-48)=_;rw[byteAt_extract _ _ _ _ (by omega),byteAt_extract _ _ _ _ (by omega),Nat.add_zero,e0,e1];omega
theorem sub_four{s:ByteArray}{n:Nat}(hs:4≤s.size)(e0:byteAt s 0=48+(n/1000:Nat))(e1:byteAt s 1=48+(n/100%10:Nat))(e2:byteAt s 2=48+(n/10%10:Nat))(e3:byteAt s 3=48+(n%10:Nat)):subN s 0 4=n:=by
 unfold subN;rw[size_sub hs];show 10*(10*(10*(10*0+(byteAt (s.extract 0 4) 0-48))+(byteAt (s.extract 0 4) 1-48))+(byteAt (s.extract 0 4) 2-48))+(byteAt (s.extract 0 4) 3-48)=_;rw[byteAt_extract _ _ _ _ (by omega),byteAt_extract _ _ _ _ (by omega),byteAt_extract _ _ _ _ (by omega),byteAt_extract _ _ _ _ (by omega)];simp only[Nat.zero_add];rw[e0,e1,e2,e3];omega
theorem ins_match(hy2:y<10000)(hm:m<100)(hd:d<100)(hh:h<100)(hi:i<100):matchB (bs (insL y m d h i)) patI=true:=by
 unfold matchB;have hz:(bs (insL y m d h i)).size=16:=bs_size _;rw[hz];rw[qI];refine⟨by decide, ?_⟩;rw[allTo_iff];intro k hk;have hk':k=0∨k=1∨k=2∨k=3∨k=4∨k=5∨k=6∨k=7∨k=8∨k=9∨k=10∨k=11∨k=12∨k=13∨k=14∨k=15:=by omega
 unfold mAt;rcases hk' with rfl|rfl|rfl|rfl|rfl|rfl|rfl|rfl|rfl|rfl|rfl|rfl|rfl|rfl|rfl|rfl
 all_goals first
  | (rw[qN (by decide)];rfl)
  | (rw[qR (by decide)];exact digAt_dgt (n:=_) rfl (by omega))
theorem ins_parts(s:ByteArray)(hs:s=bs (insL y m d h i))(hy2:y<10000)(hm:m<100)(hd:d<100)(hh:h<100)(hi:i<100) :
 s.size=16∧matchB s patI=true∧matchB (s.extract 0 10) patD=true∧matchB (s.extract 11 s.size) patC=true ∧
 subN (s.extract 0 10) 0 4=y∧subN (s.extract 0 10) 5 7=m∧subN (s.extract 0 10) 8 (s.extract 0 10).size=d∧subN (s.extract 11 s.size) 0 2=h∧subN (s.extract 11 s.size) 3 (s.extract 11 s.size).size=i:=by
 have hz:s.size=16:=by rw[hs];exact bs_size _
 have hM:matchB s patI=true:=by rw[hs];exact ins_match hy2 hm hd hh hi
 have hM2:=hM;rw[matchI_iff]at hM2;simp only[qI,qL]at hM2;obtain⟨-,⟨-,hD⟩,hC⟩:=hM2;have z1:(s.extract 0 10).size=10:=size_sub (by omega);have z2:(s.extract 11 s.size).size=5:=by rw[size_sub (qD _)];omega
 have bd : ∀ k n,s.data.toList.getD k 0=dgt n→n<10→k<10→byteAt (s.extract 0 10) k=48+n:=fun k n e hn hk=>by
  rw[byteAt_extract _ _ _ _ (by omega),Nat.zero_add];exact byteAt_dgt e hn
 have bc : ∀ k n,s.data.toList.getD (11+k) 0=dgt n→n<10→11+k<16→byteAt (s.extract 11 s.size) k=48+n:=fun k n e hn hk=>by
  rw[byteAt_extract _ _ _ _ (by omega)];exact byteAt_dgt e hn
 refine⟨hz,hM,hD,hC, ?_, ?_, ?_, ?_, ?_⟩
 ·exact sub_four (by omega) (bd 0 _ (by rw[hs];rfl) (by omega) (by omega)) (bd 1 _ (by rw[hs];rfl) (by omega) (by omega)) (bd 2 _ (by rw[hs];rfl) (by omega) (by omega)) (bd 3 _ (by rw[hs];rfl) (by omega) (by omega))
 ·exact sub_two (by omega) (by omega) (bd 5 _ (by rw[hs];rfl) (by omega) (by omega)) (bd 6 _ (by rw[hs];rfl) (by omega) (by omega))
 ·exact sub_two (by omega) (by omega) (bd 8 _ (by rw[hs];rfl) (by omega) (by omega)) (bd 9 _ (by rw[hs];rfl) (by omega) (by omega))
 ·exact sub_two (by omega) (by omega) (bc 0 _ (by rw[hs];rfl) (by omega) (by omega)) (bc 1 _ (by rw[hs];rfl) (by omega) (by omega))
 ·exact sub_two (by omega) (by omega) (bc 3 _ (by rw[hs];rfl) (by omega) (by omega)) (bc 4 _ (by rw[hs];rfl) (by omega) (by omega))
theorem ins_back(hv:validB y m d=true)(hh:h<24)(hi:i<60)(h0:0≤dayB y m d*1440+(h*60+i))(h1:dayB y m d*1440+(h*60+i)<52596000):insB (bs (insL y m d h i))=(dayB y m d*1440+(h*60+i),0):=by
 obtain⟨v1,v2,v3,v4⟩:=validB_iff.1 hv;have v5:=mDays_bd y m;obtain⟨hz,p1,p2,p3,p4,p5,p6,p7,p8⟩:=ins_parts (y:=y) (m:=m) (d:=d) (h:=h) (i:=i) _ rfl (by omega) (by omega) (by omega) (by omega) (by omega);generalize bs (insL y m d h i)=s at*;have eD:dateB (s.extract 0 10)=(((y:Int),(m:Int),(d:Int)),(0:Int)):=by
  unfold dateB;rw[p2,p4,p5,p6,hv];rfl
 have eC:clockB (s.extract 11 s.size)=((h:Int)*60+(i:Int),(0:Int)):=by
  unfold clockB;rw[p3,p7,p8,qN (by simp),qN (by omega)]
 unfold insB;rw[p1,eD,eC,qN (by simp),qN (by simp),qN (by simp)]
 dsimp only
 rw[qN (by omega)]
end
theorem monSum_year(y:Int):monSum y 12=yDays y:=by
 have e:monSum y 12=337+mDays y 2:=by
  show sumTo _ 12=_;simp only[sumTo];have f : ∀ k:Nat,k≠1→mDays y (1+(k:Int))=mTab.getD k 0:=fun k hk=>by
   unfold mDays;rw[qN (by omega)]
   congr 1
   omega
  have g:mDays y (1+((1:Nat):Int))=mDays y 2:=rfl;rw[f 0 (by decide),g,f 2 (by decide),f 3 (by decide),f 4 (by decide),f 5 (by decide),f 6 (by decide),f 7 (by decide),f 8 (by decide),f 9 (by decide),f 10 (by decide),f 11 (by decide)];simp only[mTab,List.getD_cons_succ,List.getD_cons_zero];omega
 rw[e];unfold mDays yDays
 by_cases hl:leapB y=true
 ·rw[qR ⟨rfl,hl⟩,qR hl];rfl
 ·rw[qN (by rintro⟨-,h⟩;exact hl h),qN hl];rfl
theorem sumTo_le{f:Nat→Int}(h : ∀ i,0≤f i) : ∀ {a b:Nat},a≤b→sumTo f a≤sumTo f b:=by
 intro a b hab
 induction b with
 | zero =>
  have:a=0:=by omega
  rw[this];exact Int.le_refl _
 | succ b ih =>
  rcases Nat.lt_or_eq_of_le hab with h1|h1
  ·have:=ih (by omega);have:=h b;simp only[sumTo];omega
  ·rw[h1];exact Int.le_refl _
theorem mon_lt{y m d m' d':Int}(h1:1≤m)(hm:m<m')(hd:d≤mDays y m)(hd':1≤d'):monSum y (m-1).toNat+d<monSum y (m'-1).toNat+d':=by
 have e:monSum y ((m-1).toNat+1)=monSum y (m-1).toNat+mDays y m:=by
  show monSum y (m-1).toNat+mDays y (1+((m-1).toNat:Int))=_
  congr 2
  omega
 have:=sumTo_le (f:=fun i=>mDays y (1+i)) (fun i=>(mDays_bd _ _).1) (a:=(m-1).toNat+1) (b:=(m'-1).toNat) (by omega);have:monSum y ((m-1).toNat+1)≤monSum y (m'-1).toNat:=this;omega
theorem mon_le{y m d:Int}(h1:1≤m)(h2:m≤12)(hd:d≤mDays y m):monSum y (m-1).toNat+d≤yDays y:=by
 have e:monSum y ((m-1).toNat+1)=monSum y (m-1).toNat+mDays y m:=by
  show monSum y (m-1).toNat+mDays y (1+((m-1).toNat:Int))=_
  congr 2
  omega
 have:monSum y ((m-1).toNat+1)≤monSum y 12:=sumTo_le (f:=fun i=>mDays y (1+i)) (fun i=>(mDays_bd _ _).1) (by omega);rw[monSum_year]at this;omega
theorem year_lt{y m d y' m' d':Int}(hv:validB y m d=true)(hv':validB y' m' d'=true)(h:y<y'):dayB y m d<dayB y' m' d':=by
 obtain⟨a1,a2,a3,a4⟩:=validB_iff.1 hv;obtain⟨b1,b2,b3,b4⟩:=validB_iff.1 hv';have c:=mon_le a2.1 a2.2 a4;have e:yearSum ((y-1999).toNat+1)=yearSum (y-1999).toNat+yDays y:=by
  show yearSum (y-1999).toNat+yDays (1999+((y-1999).toNat:Int))=_
  congr 2
  omega
 have f:yearSum ((y-1999).toNat+1)≤yearSum (y'-1999).toNat:=sumTo_le (f:=fun i=>yDays (1999+i)) (fun i=>(yDays_bd _).1) (by omega);have g:=monSum_bd y' (m'-1).toNat;unfold dayB;omega
theorem dayB_inj{y m d y' m' d':Int}(hv:validB y m d=true)(hv':validB y' m' d'=true)(h:dayB y m d=dayB y' m' d'):y=y'∧m=m'∧d=d':=by
 have e1:y=y':=by
  rcases Int.lt_trichotomy y y' with h1|h1|h1
  ·have:=year_lt hv hv' h1;omega
  ·exact h1
  ·have:=year_lt hv' hv h1;omega
 subst e1;obtain⟨a1,a2,a3,a4⟩:=validB_iff.1 hv;obtain⟨b1,b2,b3,b4⟩:=validB_iff.1 hv';unfold dayB at h;have e2:m=m':=by
  rcases Int.lt_trichotomy m m' with h1|h1|h1
  ·have:=mon_lt a2.1 h1 a4 b3;omega
  ·exact h1
  ·have:=mon_lt b2.1 h1 b4 a3;omega
 subst e2;exact⟨rfl,rfl,by omega⟩
def IsIns(t:Int)(s:ByteArray):Prop := ∃ y m d,validB y m d=true∧dayB y m d=t/1440∧s=fmtDate y m d++blankS++fmtClock (t%1440)
theorem IsIns.eq{t:Int}{s s':ByteArray}(h:IsIns t s)(h':IsIns t s'):s=s':=by
 obtain⟨y,m,d,a1,a2,rfl⟩:=h;obtain⟨y',m',d',b1,b2,rfl⟩:=h';obtain⟨rfl,rfl,rfl⟩:=dayB_inj a1 b1 (a2.trans b2.symm);rfl
theorem IsIns.bytes{t:Int}{s:ByteArray}(h:IsIns t s) : ∃ y m d hh i:Nat,(1999≤y∧y≤2100)∧(1≤m∧m≤12)∧(1≤d∧d≤31)∧hh<24∧i<60∧s=bs (insL y m d hh i)∧validB y m d=true∧dayB y m d*1440+(hh*60+i)=t:=by
 obtain⟨y,m,d,hv,hd,rfl⟩:=h;obtain⟨a1,a2,a3,a4⟩:=validB_iff.1 hv;have a5:=mDays_bd y m;refine⟨y.toNat,m.toNat,d.toNat,(t%1440/60).toNat,(t%1440%60).toNat,by omega,by omega,by omega,by omega,by omega, ?_, ?_, ?_⟩
 ·have e:=fmt_bytes (y:=y.toNat) (m:=m.toNat) (d:=d.toNat) (h:=(t%1440/60).toNat) (i:=(t%1440%60).toNat) (by omega) (by omega) (by omega) (by omega) (by omega) (by omega);rw[←e];have c1:((y.toNat:Nat):Int)=y:=by omega
  have c2:((m.toNat:Nat):Int)=m:=by omega
  have c3:((d.toNat:Nat):Int)=d:=by omega
  have c4:60*(((t%1440/60).toNat:Nat):Int)+(((t%1440%60).toNat:Nat):Int)=t%1440:=by omega
  rw[c1,c2,c3,c4]
 ·have c1:((y.toNat:Nat):Int)=y:=by omega
  have c2:((m.toNat:Nat):Int)=m:=by omega
  have c3:((d.toNat:Nat):Int)=d:=by omega
  rw[c1,c2,c3];exact hv
 ·have c1:((y.toNat:Nat):Int)=y:=by omega
  have c2:((m.toNat:Nat):Int)=m:=by omega
  have c3:((d.toNat:Nat):Int)=d:=by omega
  rw[c1,c2,c3,hd];omega
theorem IsIns.back{t:Int}{s:ByteArray}(h:IsIns t s)(h0:0≤t)(h1:t<52596000):insB s=(t,0):=by
 obtain⟨y,m,d,hh,i, -, -, -,b1,b2,rfl,hv,e⟩:=h.bytes;rw[ins_back hv b1 b2 (by omega) (by omega),e]
end
end Go.Proofs.YtifconapjfdkcaaGreatDoor
