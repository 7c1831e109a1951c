/-
  Joined texts: PeopleMem; People; Fmt; Fmt2; IncFormat. What each proves stands ahead of it, with its conditions.
-/
import Derived.Test.YtifconapjfdkcaaGreatDoorDAA
import Derived.Test.YtifconapjfdkcaaGreatDoorDBD
import Derived.Test.YtifconapjfdkcaaGreatDoorDAK
import Derived.Test.YtifconapjfdkcaaGreatDoorDBB
import Derived.Deep.DeepCutAuto
import Derived.Deep.QuietTactic
import Derived.Laws.Tables
import Derived.Test.YtifconapjfdkcaaGreatDoorDAM
import Derived.Test.YtifconapjfdkcaaGreatDoorDAU
import Derived.Test.YtifconapjfdkcaaGreatDoorDAS
import Derived.Test.YtifconapjfdkcaaGreatDoorDAT
import Derived.Test.YtifconapjfdkcaaGreatDoorDAE
set_option linter.unusedSimpArgs false
set_option linter.unusedVariables false
set_option maxRecDepth 100000
set_option maxHeartbeats 12800000
namespace Go.Proofs.YtifconapjfdkcaaGreatDoor
section
open Go.RowKit Go
def PX(W:World)(g:Nat)(p:GPerson)(wx:World):Prop :=
 ∃ cs,wx.heap[g]? = some (.cells cs.toArray 75 (0,0))∧PIs wx (fun b=>W.heap.size≤b∧b<wx.heap.size∧b≠g) cs p∧W.heap.size≤g∧Below W.heap.size W wx
section
variable {W wx w':World} {g:Nat} {p:GPerson}
theorem PX.next(h:PX W g p wx)(hb:Below wx.heap.size wx w'):PX W g p w':=by
 obtain⟨cs,h1,h2,h3,h4⟩:=h;have hl:=(Array.getElem?_eq_some_iff.1 h1).1;have hs:=hb.size;obtain⟨A1,n1,c1,A2,n2,c2,rfl,hs1,hs2⟩:=h2;exact⟨_,(hb.block _ hl).trans h1,⟨A1,n1,c1,A2,n2,c2,rfl,(hs1.keep fun b hb'=>hb.block b hb'.2.1).more fun b hb'=>by omega,(hs2.keep fun b hb'=>hb.block b hb'.2.1).more fun b hb'=>by omega⟩,h3,h4.trans (hb.mono h4.size)⟩
theorem PX.setBase(h:PX W g p wx)(b:ByteArray):PX W g ⟨p.id,p.name,b,p.rank,p.sen,p.types,p.vacs⟩ (wx.setCell ⟨g,2,none⟩ (.string b)):=by
 obtain⟨cs,h1,h2,h3,h4⟩:=h;obtain⟨A1,n1,c1,A2,n2,c2,rfl,hs1,hs2⟩:=h2;have hk : ∀ q,q≠g→(wx.setCell ⟨g,2,none⟩ (.string b)).heap[q]? = wx.heap[q]? :=fun q hq=>qO _ _ _ _ hq
 exact⟨_,qS _ _ _ _ _ _ h1,⟨A1,n1,c1,A2,n2,c2,rfl,(hs1.keep fun b hb'=>hk b hb'.2.2).more fun b hb'=>by simp;omega,(hs2.keep fun b hb'=>hk b hb'.2.2).more fun b hb'=>by simp;omega⟩,h3,h4.setCell (show W.heap.size≤g from h3) _⟩
theorem PX.setTypes(h:PX W g p wx){A:Option Addr}{n c:Nat}{l:List ByteArray}(hs:Sl Ty.str wx (fun b=>W.heap.size≤b∧b<wx.heap.size∧b≠g) A n c l):PX W g ⟨p.id,p.name,p.base,p.rank,p.sen,l,p.vacs⟩ (wx.setCell ⟨g,5,none⟩ (.slice A n c)):=by
 obtain⟨cs,h1,h2,h3,h4⟩:=h;obtain⟨A1,n1,c1,A2,n2,c2,rfl,hs1,hs2⟩:=h2;have hk : ∀ q,q≠g→(wx.setCell ⟨g,5,none⟩ (.slice A n c)).heap[q]? = wx.heap[q]? :=fun q hq=>qO _ _ _ _ hq
 exact⟨_,qS _ _ _ _ _ _ h1,⟨A,n,c,A2,n2,c2,rfl,(hs.keep fun b hb'=>hk b hb'.2.2).more fun b hb'=>by simp;omega,(hs2.keep fun b hb'=>hk b hb'.2.2).more fun b hb'=>by simp;omega⟩,h3,h4.setCell (show W.heap.size≤g from h3) _⟩
theorem PX.setVacs(h:PX W g p wx){A:Option Addr}{n c:Nat}{l:List GShift}(hs:Sl Ty.shift wx (fun b=>W.heap.size≤b∧b<wx.heap.size∧b≠g) A n c l):PX W g ⟨p.id,p.name,p.base,p.rank,p.sen,p.types,l⟩ (wx.setCell ⟨g,6,none⟩ (.slice A n c)):=by
 obtain⟨cs,h1,h2,h3,h4⟩:=h;obtain⟨A1,n1,c1,A2,n2,c2,rfl,hs1,hs2⟩:=h2;have hk : ∀ q,q≠g→(wx.setCell ⟨g,6,none⟩ (.slice A n c)).heap[q]? = wx.heap[q]? :=fun q hq=>qO _ _ _ _ hq
 exact⟨_,qS _ _ _ _ _ _ h1,⟨A1,n1,c1,A,n,c,rfl,(hs1.keep fun b hb'=>hk b hb'.2.2).more fun b hb'=>by simp;omega,(hs.keep fun b hb'=>hk b hb'.2.2).more fun b hb'=>by simp;omega⟩,h3,h4.setCell (show W.heap.size≤g from h3) _⟩
end
def pers(l:List Int)(m:Nat)(sv:Nat→Int):List GPerson:=(List.range m).map fun j=>dPerson (atL l (1+j)) j (sv j)
theorem pers_len(l:List Int)(m:Nat)(sv:Nat→Int):(pers l m sv).length=m:=by simp[pers]
theorem pers_get(l:List Int){m j:Nat}(sv:Nat→Int)(h:j<m):(pers l m sv).getD j noPerson=dPerson (atL l (1+j)) j (sv j):=by
 unfold pers;rw[qF,List.getElem?_map,List.getElem?_range h];rfl
def sen0(l:List Int)(j:Nat):Int:=dSen0 (atL l (1+j)) j
theorem pers_succ(l:List Int)(m:Nat)(sv:Nat→Int):pers l (m+1) sv=pers l m sv++[dPerson (atL l (1+m)) m (sv m)]:=by
 unfold pers;rw[List.range_succ,List.map_append];rfl
theorem range_setG{α : Type}(n i:Nat)(g h:Nat → α)(x : α)(hx:h i=x)(hh : ∀ j,j<n→j≠i→h j=g j):((List.range n).map g).set i x=(List.range n).map h:=by
 apply List.ext_getElem?;intro j;rw[List.getElem?_set,List.getElem?_map,List.getElem?_map]
 by_cases hj:j<n
 ·rw[List.getElem?_range hj]
  by_cases hij:i=j
  ·subst hij;rw[qR rfl,qR (by simpa using hj)];simp[hx]
  ·rw[qN hij];simp[hh j hj (fun e=>hij e.symm)]
 ·rw[List.getElem?_eq_none (l:=List.range n) (by simpa using hj)]
  by_cases hij:i=j
  ·subst hij;rw[qR rfl,qN (by simpa using hj)];rfl
  ·rw[qN hij];rfl
theorem pers_set(l:List Int)(m i:Nat)(sv sv':Nat→Int)(s:Int)(hi:sv' i=s)(h : ∀ j,j<m→j≠i→sv' j=sv j):(pers l m sv).set i (dPerson (atL l (1+i)) i s)=pers l m sv':=by
 unfold pers;exact range_setG m i (fun j=>dPerson (atL l (1+j)) j (sv j)) (fun j=>dPerson (atL l (1+j)) j (sv' j)) _ (by rw[hi]) (fun j hj hji=>by rw[h j hj hji])
def svO(l:List Int)(m i:Nat)(j:Nat):Int:=if j<i then (dSens l m).getD j 0 else sen0 l j
def cur(l:List Int)(m i k:Nat):Int:=if hasI ((dSens l m).take k) (sen0 l i)=true then 20+(i:Int) else sen0 l i
def svI(l:List Int)(m i k:Nat)(j:Nat):Int:=if j<i then (dSens l m).getD j 0 else if j=i then cur l m i k else sen0 l j
theorem svI_zero(l:List Int)(m i:Nat):svI l m i 0=svO l m i:=by
 funext j
 unfold svI svO cur;simp only[List.take_zero]
 by_cases h:j<i
 ·rw[qR h,qR h]
 ·rw[qN h,qN h]
  by_cases e:j=i
  ·rw[qR e,e];rfl
  ·rw[qN e]
theorem svI_all(l:List Int){m i:Nat}(hi:i<m):svI l m i i=svO l m (i+1):=by
 have e1:cur l m i i=(dSens l m).getD i 0:=by
  unfold cur;rw[dSens_take l (by omega),dSens_get l hi];rfl
 funext j
 unfold svI svO
 by_cases h:j<i
 ·rw[qR h,qR (by omega)]
 ·rw[qN h]
  by_cases e:j=i
  ·subst e;rw[qR rfl,qR (by omega),e1]
  ·rw[qN e,qN (by omega)]
theorem svO_zero(l:List Int)(m:Nat):svO l m 0=sen0 l:=by
 funext j
 unfold svO;rw[qN (by omega)]
theorem pers_all(l:List Int)(m:Nat):pers l m (svO l m m)=dPeopleN l m:=by
 unfold pers dPeopleN;refine List.map_congr_left fun j hj =>?_
 rw[List.mem_range]at hj;unfold svO;rw[qR hj]
theorem cur_hit(l:List Int){m i k:Nat}(hi:i<m)(hk:k<i)(h:(dSens l m).getD k 0=cur l m i k):cur l m i (k+1)=20+(i:Int):=by
 have hkl:k<(dSens l m).length:=by rw[dSens_len];omega
 have hr:=dSen0_range (atL l (1+i)) i;unfold cur at h ⊢;rw[List.take_succ_eq_append_getElem hkl,hasI_snoc];have e:(dSens l m)[k]=(dSens l m).getD k 0:=by rw[qF,qG hkl];rfl
 rw[e]
 by_cases hh:hasI ((dSens l m).take k) (sen0 l i)=true
 ·rw[hh];rfl
 ·rw[qN hh]at h;rw[←h];simp
theorem cur_miss(l:List Int){m i k:Nat}(hi:i<m)(hk:k<i)(h:(dSens l m).getD k 0≠cur l m i k):cur l m i (k+1)=cur l m i k:=by
 have hkl:k<(dSens l m).length:=by rw[dSens_len];omega
 unfold cur at h ⊢;rw[List.take_succ_eq_append_getElem hkl,hasI_snoc];have e:(dSens l m)[k]=(dSens l m).getD k 0:=by rw[qF,qG hkl];rfl
 rw[e]
 by_cases hh:hasI ((dSens l m).take k) (sen0 l i)=true
 ·rw[hh];rfl
 ·rw[qN hh]at h;have hne:decide (sen0 l i=(dSens l m).getD k 0)=false:=decide_eq_false fun e=>h e.symm
  rw[hne,Bool.or_false]
theorem svI_set(l:List Int)(m i k:Nat)(x:Int)(h:cur l m i (k+1)=x):(pers l m (svI l m i k)).set i (dPerson (atL l (1+i)) i x)=pers l m (svI l m i (k+1)):=by
 refine pers_set l m i _ _ x ?_ fun j hj hji =>?_
 ·unfold svI;rw[qN (by omega),qR rfl,h]
 ·unfold svI;rw[qN hji,qN hji]
theorem svI_same(l:List Int)(m i k:Nat)(h:cur l m i (k+1)=cur l m i k):svI l m i (k+1)=svI l m i k:=by
 funext j
 unfold svI;rw[h]
theorem svI_at(l:List Int)(m i k:Nat):svI l m i k i=cur l m i k:=by unfold svI;rw[qN (by omega),qR rfl]
theorem svI_low(l:List Int)(m:Nat){i k j:Nat}(h:j<i):svI l m i k j=(dSens l m).getD j 0:=by unfold svI;rw[qR h]
def pA(a:Int)(k:Nat)(s:Int):GPerson:=⟨1+3*k+a%2,dName k,dCode 0,(k:Int)%2,s,[b737S],[]⟩
def pB(a:Int)(k:Nat)(s:Int):GPerson:=⟨1+3*k+a%2,dName k,if a/8%8=7 then dCode 1 else dCode 0,(k:Int)%2,s,[b737S],[]⟩
def pC(a:Int)(k:Nat)(s:Int):GPerson:=⟨1+3*k+a%2,dName k,if a/8%8=7 then dCode 1 else dCode 0,(k:Int)%2,s,if a/64%4=3 then [a320S,b737S] else [b737S],[]⟩
def pD(a:Int)(k:Nat)(s:Int):GPerson:=⟨1+3*k+a%2,dName k,if a/8%8=7 then dCode 1 else dCode 0,(k:Int)%2,s,dTypes a,[]⟩
end
section
open Go.RowKit
theorem below_setRowP{n:Nat}{w w':World}{b:Nat}{cs:Array Value}(h:Below n w w')(hb:n≤b):Below n w (w'.setRow b cs) :=
 ⟨h.os,h.tape,h.output,by simpa using h.size,fun q hq=>(setRow_other _ _ _ _ (by omega)).trans (h.block q hq)⟩
theorem dName_cell(k:Nat)(hk:k<4)(V:World)(g:Nat)(h:V.heap[g]? = some (.cells #[.string ⟨#[97,110,110,97]⟩,.string ⟨#[98,111]⟩,.string ⟨#[99,108,101,111]⟩,.string ⟨#[100,97,110]⟩] 9 (0,0))):V.cell? ⟨g,k,none⟩=some (.string (dName k)):=by
 have:k=0∨k=1∨k=2∨k=3:=by omega
 rcases this with rfl|rfl|rfl|rfl
 all_goals exact block_cell h _
theorem dSen_cell(r:Nat)(hr:r<4)(V:World)(g:Nat)(h:V.heap[g]? = some (.cells #[.int .i64 4,.int .i64 2,.int .i64 9,.int .i64 1] 3 (0,0))):V.cell? ⟨g,r,none⟩=some (.int .i64 ([4,2,9,1].getD r 0)):=by
 have:r=0∨r=1∨r=2∨r=3:=by omega
 rcases this with rfl|rfl|rfl|rfl
 all_goals exact block_cell h _
theorem OwnS.freeP{α : Type}{t:Ty α}{el:TypeId}{w:World}{S:Nat→Prop}{base g n c:Nat}{xs:List α}(h:OwnS t el w S base (.slice (some ⟨g,0,none⟩) n c) xs)(j:Nat):w.frozen? ⟨g,j,none⟩=false:=by
 obtain⟨cur,hb⟩:=h.block (k:=g) rfl;exact block_free hb j
theorem OwnS.sen_at{el:TypeId}{w:World}{S:Nat→Prop}{base g n c:Nat}{xs:List GPerson}(h:OwnS Ty.person el w S base (.slice (some ⟨g,0,none⟩) n c) xs){k:Nat}(hk:k<xs.length):w.cell? ⟨g,k*7+4,none⟩=some (.int .i64 (xs.getD k noPerson).sen):=by
 obtain⟨A,c',e,hs⟩:=h.sl;injection e with e1 _ _
 subst e1;obtain⟨b,o,A1,n1,c1,A2,n2,c2,e, -,hat, -, -⟩:=hs.person_at hk;injection e with e
 injection e with e1 e2
 subst e1 e2;have:=hat 4 _ rfl;rw[Nat.zero_add]at this;exact this
theorem people_any(l:List Int)(A:Option Addr)(n c:Nat)(w:World)(h:Sl (Ty.int .i64) w (all_ w) A n c l) :
 Calls Tryz.prog 12 #[.slice A n c] w (fun e w' => ∃ A' n' c',e=.returned (.slice A' n' c')∧Sl Ty.person w' (all_ w') A' n' c' (dPeople l)∧Below w.heap.size w w'):=by
 have HS:Hid (∀ V,Below w.heap.size w V→Sl (Ty.int .i64) V (all_ V) A n c l):=fun V hV=>h.next hV
 have HCN:Hid (((pCount l:Nat):Int)=2+atL l 0%3):=by show _=_;unfold pCount;have:=(atL_range l 0).1;omega
 have HPC:=qH (pCount_range l);have hz0:=(atL_range l 0).1;have g1:(atL l 0).tmod 3=atL l 0%3:=qQ hz0;have g2:IntKind.i64.wrap (atL l 0%3)=atL l 0%3:=qM _ (by omega);have g3:IntKind.i64.wrap (2+atL l 0%3)=2+atL l 0%3:=qM _ (by omega);obtain⟨m,hm⟩ : ∃ m,pCount l=m:=⟨_,rfl⟩
 have HM:=qH hm;rw[hm]at HCN HPC;have hm4:=HPC.out.2;clear h hz0 hm;have hcn:=HCN.out.symm;rw[hcn]at g3
 go_enter Tryz.func12,Tryz.ntmps12
 go_wp2_with fail
 go_loopw [3,4] (fun s3 s4 wr => ∃ (k:Nat),k≤m∧s4=.int .i64 k∧Own Ty.person 75 wr w.heap.size s3 (pers l k (sen0 l))∧Below w.heap.size w wr) (fun _ s4 _=>m-(intOf s4).toNat)
 case atStart=>exact⟨0,qV _,rfl,Own.nil,qC _ _⟩
 case round =>
  obtain⟨k,hk,rfl,hown,hbr⟩:=hrel;have HA0:=qH (dataAt_any l A n c 0 wr (HS.out wr hbr) (by decide));have HOW:=qH hown;have HBR:=qH hbr;clear hown hbr
  by_cases hlt:k<m
  ·have hlt':(k:Int)<(m:Int):=by omega
   go_upto_region 5 with (go_at_call 32;refine HA0.out.mono ?_;rintro e w1 ⟨rfl,hb1⟩)
   have HB1:Hid (Below w.heap.size w w1):=HBR.out.trans (hb1.mono HBR.out.size);have HO1:=qH (HOW.out.next hb1);have HA1:Hid (Calls Tryz.prog 32 #[.slice A n c,.int .i64 (1+(k:Int))] w1 (IntPost (atL l (1+k)) w1)):=dataAt_any l A n c (1+k) w1 (HS.out w1 HB1.out) (by omega);have HPS:Hid (pers l (k+1) (sen0 l)=pers l k (sen0 l)++[dPerson (atL l (1+k)) k (sen0 l k)]):=pers_succ l k (sen0 l);have HSN0:Hid (sen0 l k=dSen0 (atL l (1+k)) k):=rfl;have hat:=atL_range l (1+k);have hg1:IntKind.i64.wrap (1+(k:Int))=1+(k:Int):=qM _ (by omega);clear hb1 HA0 HBR HOW;generalize atL l (1+k)=a at*;go_upto_region 6 with (go_at_call 32;refine HA1.out.mono ?_;rintro e W ⟨rfl,hb2⟩)
   have HBW:Hid (Below w.heap.size w W):=HB1.out.trans (hb2.mono HB1.out.size);have HOW:=qH (HO1.out.next hb2);clear hb2 HB1 HO1 HA1 hg1;obtain⟨r,hr⟩ : ∃ r:Nat,r=(k+(a/2%4).toNat)%4:=⟨_,rfl⟩
   have hr4:r<4:=by omega
   have HQ18:Hid (((k:Int)+a/2%4).tmod 4=(r:Int)):=by
    show _=_;rw[qQ (by omega)];omega
   have HQ18':Hid (IntKind.i64.wrap (r:Int)=(r:Int)):=qM _ (by omega);have HSNE:Hid (sen0 l k=[4,2,9,1].getD r 0):=by
    show _=_;rw[HSN0.out,hr];rfl
   have HSN:Hid (∀ (V:World) (g:Nat),V.heap[g]? = some (.cells #[.int .i64 4,.int .i64 2,.int .i64 9,.int .i64 1] 3 (0,0))→V.cell? ⟨g,r,none⟩=some (.int .i64 ([4,2,9,1].getD r 0))):=fun V g h=>dSen_cell r hr4 V g h
   rw[←HSNE.out]at HSN;clear hr HSNE HSN0;generalize sen0 l k=sn at*;have HNM:Hid (∀ (V:World) (g:Nat),V.heap[g]? = some (.cells #[.string ⟨#[97,110,110,97]⟩,.string ⟨#[98,111]⟩,.string ⟨#[99,108,101,111]⟩,.string ⟨#[100,97,110]⟩] 9 (0,0))→V.cell? ⟨g,k,none⟩=some (.string (dName k))):=fun V g h=>dName_cell k (by omega) V g h
   have HQ1:Hid (IntKind.i64.wrap (3*(k:Int))=3*k):=qM _ (by omega);have HQ2:Hid (IntKind.i64.wrap (1+3*(k:Int))=1+3*k):=qM _ (by omega);have HQ4:=qH (and1 a);have HQ5:Hid (IntKind.i64.wrap (1+3*(k:Int)+a%2)=1+3*k+a%2):=qM _ (by omega);have HQ11:=qH (and1 (k:Int));have HQ16:=qH (and_3 (a/2));have HQ17:Hid (IntKind.i64.wrap ((k:Int)+a/2%4)=k+a/2%4):=qM _ (by omega);refine wp_region_factsB 24 [21,22,23,24,25,26,27,28,29,30,31,32,33,34,35,36,37,38,39,40,41,42,43,6] (fun i v x=>(([(fun v x=>v=.int .i64 k),(fun v x=>v=.int .i64 (3*k)),(fun v x=>v=.int .i64 (1+3*k)),(fun v x=>v=.int .i64 a),(fun v x=>v=.int .i64 (a%2)),(fun v x=>v=.int .i64 (1+3*k+a%2)),(fun v x => ∃ g,v=.slice (some ⟨g,0,none⟩) 4 4∧x.heap[g]? = some (.cells #[.string ⟨#[97,110,110,97]⟩,.string ⟨#[98,111]⟩,.string ⟨#[99,108,101,111]⟩,.string ⟨#[100,97,110]⟩] 9 (0,0))),(fun v x=>v=.int .i64 k),(fun v x => ∃ g,v=.pointer (some ⟨g,k,none⟩)∧x.cell? ⟨g,k,none⟩=some (.string (dName k))),(fun v x=>v=.string (dName k)),(fun v x=>v=.int .i64 k),(fun v x=>v=.int .i64 ((k:Int)%2)),(fun v x => ∃ g,v=.slice (some ⟨g,0,none⟩) 4 4∧x.heap[g]? = some (.cells #[.int .i64 4,.int .i64 2,.int .i64 9,.int .i64 1] 3 (0,0))),(fun v x=>v=.int .i64 k),(fun v x=>v=.int .i64 a),(fun v x=>v=.int .i64 (a/2)),(fun v x=>v=.int .i64 (a/2%4)),(fun v x=>v=.int .i64 (k+a/2%4)),(fun v x=>v=.int .i64 (r:Int)),(fun v x => ∃ g,v=.pointer (some ⟨g,r,none⟩)∧x.cell? ⟨g,r,none⟩=some (.int .i64 sn)),(fun v x=>v=.int .i64 sn),(fun v x => ∃ g,v=.slice (some ⟨g,0,none⟩) 1 1∧W.heap.size≤g∧x.heap[g]? = some (.cells #[.string ⟨#[98,55,51,55]⟩] 9 (0,0))),(fun v x => ∃ tb,v=.agg #[.int .i64 (1+3*k+a%2),.string (dName k),.string ⟨#[65,65,65]⟩,.int .i64 ((k:Int)%2),.int .i64 sn,.slice (some ⟨tb,0,none⟩) 1 1,.slice none 0 0]∧W.heap.size≤tb∧x.heap[tb]? = some (.cells #[.string ⟨#[98,55,51,55]⟩] 9 (0,0))),(fun v x => ∃ g,v=.pointer (some ⟨g,0,none⟩)∧W.heap.size≤g∧x.heap[g]? = some (.cells #[.int .i64 0,.string ⟨#[]⟩,.string ⟨#[]⟩,.int .i64 0,.int .i64 0,.slice none 0 0,.slice none 0 0] 75 (0,0)))]:List (Value→World→Prop)).getD i (fun _ _=>True)) v x) (by kernel_rfl) (by kernel_rfl) (by kernel_rfl) (by kernel_rfl) (by kernel_rfl) ?_ ?_ ?_
   ·intro i v x x' h hx;rcases Nat.lt_or_ge i 24 with hi|hi
    ·have hi':i=0∨i=1∨i=2∨i=3∨i=4∨i=5∨i=6∨i=7∨i=8∨i=9∨i=10∨i=11∨i=12∨i=13∨i=14∨i=15∨i=16∨i=17∨i=18∨i=19∨i=20∨i=21∨i=22∨i=23:=by omega
     rcases hi' with rfl|rfl|rfl|rfl|rfl|rfl|rfl|rfl|rfl|rfl|rfl|rfl|rfl|rfl|rfl|rfl|rfl|rfl|rfl|rfl|rfl|rfl|rfl|rfl
     ·exact h
     ·exact h
     ·exact h
     ·exact h
     ·exact h
     ·exact h
     ·exact(by obtain⟨g,e,h1⟩:=h;exact⟨g,e,(hx.block g (Array.getElem?_eq_some_iff.1 h1).1).trans h1⟩)
     ·exact h
     ·exact(by obtain⟨g,e,h1⟩:=h;exact⟨g,e,cell_kept h1 hx⟩)
     ·exact h
     ·exact h
     ·exact h
     ·exact(by obtain⟨g,e,h1⟩:=h;exact⟨g,e,(hx.block g (Array.getElem?_eq_some_iff.1 h1).1).trans h1⟩)
     ·exact h
     ·exact h
     ·exact h
     ·exact h
     ·exact h
     ·exact h
     ·exact(by obtain⟨g,e,h1⟩:=h;exact⟨g,e,cell_kept h1 hx⟩)
     ·exact h
     ·exact(by obtain⟨g,e,h1,h2⟩:=h;exact⟨g,e,h1,(hx.block g (Array.getElem?_eq_some_iff.1 h2).1).trans h2⟩)
     ·exact(by obtain⟨g,e,h1,h2⟩:=h;exact⟨g,e,h1,(hx.block g (Array.getElem?_eq_some_iff.1 h2).1).trans h2⟩)
     ·exact(by obtain⟨g,e,h1,h2⟩:=h;exact⟨g,e,h1,(hx.block g (Array.getElem?_eq_some_iff.1 h2).1).trans h2⟩)
    ·rw[qF,List.getElem?_eq_none (by simpa using hi)];trivial
   ·intro q o' hq ho a' w' hb' hout hpre K hK;have hq':q=0∨q=1∨q=2∨q=3∨q=4∨q=5∨q=6∨q=7∨q=8∨q=9∨q=10∨q=11∨q=12∨q=13∨q=14∨q=15∨q=16∨q=17∨q=18∨q=19∨q=20∨q=21∨q=22∨q=23:=by omega
    rcases hq' with rfl|rfl|rfl|rfl|rfl|rfl|rfl|rfl|rfl|rfl|rfl|rfl|rfl|rfl|rfl|rfl|rfl|rfl|rfl|rfl|rfl|rfl|rfl|rfl
    ·obtain rfl:=qB ho;have e4:a'.tmps[4]? = some (.int .i64 k):=hout 4 (by decide);go_simp
     exact hK (.int .i64 k) w' rfl (qC _ _)
    ·obtain rfl:=qB ho;have p0:a'.tmps.getD 21 undef=.int .i64 k:=hpre ⟨0,.data⟩ (by simp) 21 rfl;simp only[qA]at p0;have q1:=HQ1.out;go_simp
     exact hK (.int .i64 (3*k)) w' rfl (qC _ _)
    ·obtain rfl:=qB ho;have p1:a'.tmps.getD 22 undef=.int .i64 (3*k):=hpre ⟨1,.data⟩ (by simp) 22 rfl;simp only[qA]at p1;have q1:=HQ2.out;go_simp
     exact hK (.int .i64 (1+3*k)) w' rfl (qC _ _)
    ·obtain rfl:=qB ho;have e5:a'.tmps[5]? = some (.int .i64 a):=hout 5 (by decide);go_simp
     exact hK (.int .i64 a) w' rfl (qC _ _)
    ·obtain rfl:=qB ho;have p3:a'.tmps.getD 24 undef=.int .i64 a:=hpre ⟨3,.data⟩ (by simp) 24 rfl;simp only[qA]at p3;have q1:=HQ4.out;go_simp
     exact hK (.int .i64 (a%2)) w' rfl (qC _ _)
    ·obtain rfl:=qB ho;have p2:a'.tmps.getD 23 undef=.int .i64 (1+3*k):=hpre ⟨2,.data⟩ (by simp) 23 rfl;simp only[qA]at p2;have p4:a'.tmps.getD 25 undef=.int .i64 (a%2):=hpre ⟨4,.data⟩ (by simp) 25 rfl;simp only[qA]at p4;have q1:=HQ5.out;go_simp
     exact hK (.int .i64 (1+3*k+a%2)) w' rfl (qC _ _)
    ·obtain rfl:=qB ho;go_simp
     exact hK _ _ ⟨w'.heap.size,rfl,qK _ _⟩ ((qC _ _).alloc (qD _) _)
    ·obtain rfl:=qB ho;have e4:a'.tmps[4]? = some (.int .i64 k):=hout 4 (by decide);go_simp
     exact hK (.int .i64 k) w' rfl (qC _ _)
    ·obtain rfl:=qB ho;have p6:=hpre ⟨6,.data⟩ (by simp) 27 rfl;simp only[qA]at p6;have p7:a'.tmps.getD 28 undef=.int .i64 k:=hpre ⟨7,.data⟩ (by simp) 28 rfl;simp only[qA]at p7;obtain⟨g,p6,hg⟩:=p6;have q3:(0:Int)≤(k:Int):=by omega
     have q4:(k:Int)<4:=by omega
     have hc:=HNM.out w' g hg;go_simp
     exact hK _ _ ⟨g,rfl,hc⟩ (qC _ _)
    ·obtain rfl:=qB ho;have p8:=hpre ⟨8,.data⟩ (by simp) 29 rfl;simp only[qA]at p8;obtain⟨g,p8,hc⟩:=p8;go_simp
     exact hK (.string (dName k)) w' rfl (qC _ _)
    ·obtain rfl:=qB ho;have e4:a'.tmps[4]? = some (.int .i64 k):=hout 4 (by decide);go_simp
     exact hK (.int .i64 k) w' rfl (qC _ _)
    ·obtain rfl:=qB ho;have p10:a'.tmps.getD 31 undef=.int .i64 k:=hpre ⟨10,.data⟩ (by simp) 31 rfl;simp only[qA]at p10;have q1:=HQ11.out;go_simp
     exact hK (.int .i64 ((k:Int)%2)) w' rfl (qC _ _)
    ·obtain rfl:=qB ho;go_simp
     exact hK _ _ ⟨w'.heap.size,rfl,qK _ _⟩ ((qC _ _).alloc (qD _) _)
    ·obtain rfl:=qB ho;have e4:a'.tmps[4]? = some (.int .i64 k):=hout 4 (by decide);go_simp
     exact hK (.int .i64 k) w' rfl (qC _ _)
    ·obtain rfl:=qB ho;have e5:a'.tmps[5]? = some (.int .i64 a):=hout 5 (by decide);go_simp
     exact hK (.int .i64 a) w' rfl (qC _ _)
    ·obtain rfl:=qB ho;have p14:a'.tmps.getD 35 undef=.int .i64 a:=hpre ⟨14,.data⟩ (by simp) 35 rfl;simp only[qA]at p14;go_simp
     exact hK _ _ rfl (qC _ _)
    ·obtain rfl:=qB ho;have p15:a'.tmps.getD 36 undef=.int .i64 (a/2):=hpre ⟨15,.data⟩ (by simp) 36 rfl;simp only[qA]at p15;have q1:=HQ16.out;go_simp
     exact hK (.int .i64 (a/2%4)) w' rfl (qC _ _)
    ·obtain rfl:=qB ho;have p13:a'.tmps.getD 34 undef=.int .i64 k:=hpre ⟨13,.data⟩ (by simp) 34 rfl;simp only[qA]at p13;have p16:a'.tmps.getD 37 undef=.int .i64 (a/2%4):=hpre ⟨16,.data⟩ (by simp) 37 rfl;simp only[qA]at p16;have q1:=HQ17.out;go_simp
     exact hK (.int .i64 (k+a/2%4)) w' rfl (qC _ _)
    ·obtain rfl:=qB ho;have p17:a'.tmps.getD 38 undef=.int .i64 (k+a/2%4):=hpre ⟨17,.data⟩ (by simp) 38 rfl;simp only[qA]at p17;have q1:=HQ18.out;have q2:=HQ18'.out;go_simp
     exact hK (.int .i64 (r:Int)) w' rfl (qC _ _)
    ·obtain rfl:=qB ho;have p12:=hpre ⟨12,.data⟩ (by simp) 33 rfl;simp only[qA]at p12;have p18:a'.tmps.getD 39 undef=.int .i64 (r:Int):=hpre ⟨18,.data⟩ (by simp) 39 rfl;simp only[qA]at p18;obtain⟨g,p12,hg⟩:=p12;have q3:(0:Int)≤(r:Int):=by omega
     have q4:(r:Int)<4:=by omega
     have hc:=HSN.out w' g hg;go_simp
     exact hK _ _ ⟨g,rfl,hc⟩ (qC _ _)
    ·obtain rfl:=qB ho;have p19:=hpre ⟨19,.data⟩ (by simp) 40 rfl;simp only[qA]at p19;obtain⟨g,p19,hc⟩:=p19;go_simp
     exact hK (.int .i64 sn) w' rfl (qC _ _)
    ·obtain rfl:=qB ho;go_simp
     exact hK _ _ ⟨w'.heap.size,rfl,hb'.size,qK _ _⟩ ((qC _ _).alloc (qD _) _)
    ·obtain rfl:=qB ho;have p5:a'.tmps.getD 26 undef=.int .i64 (1+3*k+a%2):=hpre ⟨5,.data⟩ (by simp) 26 rfl;simp only[qA]at p5;have p9:a'.tmps.getD 30 undef=.string (dName k):=hpre ⟨9,.data⟩ (by simp) 30 rfl;simp only[qA]at p9;have p11:a'.tmps.getD 32 undef=.int .i64 ((k:Int)%2):=hpre ⟨11,.data⟩ (by simp) 32 rfl;simp only[qA]at p11;have p20:a'.tmps.getD 41 undef=.int .i64 sn:=hpre ⟨20,.data⟩ (by simp) 41 rfl;simp only[qA]at p20;have p21:=hpre ⟨21,.data⟩ (by simp) 42 rfl;simp only[qA]at p21;obtain⟨tb,p21,ht1,ht2⟩:=p21;go_simp
     exact hK _ _ ⟨tb,rfl,ht1,ht2⟩ (qC _ _)
    ·obtain rfl:=qB ho;go_simp
     exact hK _ _ ⟨w'.heap.size,rfl,hb'.size,qK _ _⟩ ((qC _ _).alloc (qD _) _)
   ·intro us w7 hb' hfacts;obtain⟨g,h23,hg,hgc⟩:=hfacts 23 (by decide);obtain⟨tb,h22,htb,htc⟩:=hfacts 22 (by decide);clear hfacts;simp only[putL,Act.put,List.setIfInBounds_toArray,List.set_cons_zero,List.set_cons_succ,Nat.zero_add,Nat.reduceAdd];generalize us 23=x23 at*;generalize us 22=x22 at*;subst h23;subst h22;simp only[List.drop_succ_cons,List.drop_zero];refine wpList_store_row rfl _ _ _ rfl g #[.int .i64 (1+3*k+a%2),.string (dName k),.string ⟨#[65,65,65]⟩,.int .i64 ((k:Int)%2),.int .i64 sn,.slice (some ⟨tb,0,none⟩) 1 1,.slice none 0 0] (by simp[Act.eval,Act.put]) (by simp[Act.eval,Act.put]) _ _ hgc (by kernel_rfl) rfl (by simp[Value.oneCell']) ?_;have hne:tb≠g:=fun e=>by rw[e,hgc]at htc;cases htc
    have HPX:Hid (PX W g (pA a k sn) (w7.setRow g #[.int .i64 (1+3*k+a%2),.string (dName k),.string ⟨#[65,65,65]⟩,.int .i64 ((k:Int)%2),.int .i64 sn,.slice (some ⟨tb,0,none⟩) 1 1,.slice none 0 0])):=by
     refine⟨[.int .i64 (1+3*k+a%2),.string (dName k),.string ⟨#[65,65,65]⟩,.int .i64 ((k:Int)%2),.int .i64 sn,.slice (some ⟨tb,0,none⟩) 1 1,.slice none 0 0],setRow_heap _ _ _ _ _ _ hgc,⟨_,_,_,_,_,_,rfl, ?_,Sl.nil0⟩,hg,below_setRowP hb' hg⟩;refine Sl.block (xs:=[b737S]) ((setRow_other _ _ _ _ hne).trans htc) ⟨htb, ?_,hne⟩ (by decide) fun i x hi =>?_
     ·have:=(Array.getElem?_eq_some_iff.1 htc).1;simpa using this
     ·have:i=0:=by
       have:=(List.getElem?_eq_some_iff.1 hi).1;have:i<1:=this;omega
      subst this;injection hi with hi
      subst hi;rfl
    generalize w7.setRow g #[.int .i64 (1+3*k+a%2),.string (dName k),.string ⟨#[65,65,65]⟩,.int .i64 ((k:Int)%2),.int .i64 sn,.slice (some ⟨tb,0,none⟩) 1 1,.slice none 0 0]=w8 at*;clear hb' hgc htc htb hne;have g8:bits .and .i64 (a/8) 7=a/8%8:=and_7 _;go_upto_if 47 with (fail)
    go_cut [] (fun wx=>PX W g (pB a k sn) wx)
    case first =>
     by_cases hc:a/8%8=7
     ·obtain⟨cs,h1,h2, -, -⟩:=HPX.out;obtain⟨A1,n1,c1,A2,n2,c2,rfl, -, -⟩:=h2;have y2:=block_cell h1 2;have f2:=block_free h1 2;have HZ:=qH (HPX.out.setBase ⟨#[66,66,66]⟩);have HE:Hid (pB a k sn=⟨(pA a k sn).id,(pA a k sn).name,⟨#[66,66,66]⟩,(pA a k sn).rank,(pA a k sn).sen,(pA a k sn).types,(pA a k sn).vacs⟩):=by show _=_;unfold pB;rw[qR hc];rfl
      clear h1;go_wp2_with fail
      go_meet
      rw[HE.out];exact HZ.out
     ·have hc':(a/8%8==7)=false:=by simpa using hc
      have e:pB a k sn=pA a k sn:=by unfold pB pA;rw[qN hc]
      rw[←e]at HPX;clear hc e;go_wp2_with fail
      go_meet
      exact HPX.out
    case rest =>
    have HPX:=qH hcut;clear hcut;have g8:bits .and .i64 (a/64) 3=a/64%4:=and_3 _;go_upto_if 52 with (fail)
    go_cut [] (fun wx=>PX W g (pC a k sn) wx)
    case first =>
     by_cases hc:a/64%4=3
     ·have hpx:=HPX.out.next ((qC wc.heap.size wc).alloc (qD _) (.cells #[.string ⟨#[97,51,50,48]⟩,.string ⟨#[98,55,51,55]⟩] 9));have hgw:g<wc.heap.size:=by
       obtain⟨cs,h1, -⟩:=HPX.out;exact(Array.getElem?_eq_some_iff.1 h1).1
      have hWw:W.heap.size≤wc.heap.size:=by
       obtain⟨cs,h1,h2,h3,h4⟩:=HPX.out;exact h4.size
      have hz1:(wc.alloc (.cells #[.string ⟨#[97,51,50,48]⟩,.string ⟨#[98,55,51,55]⟩] 9)).heap.size=wc.heap.size+1:=by simp
      have hbl:=Sl.block (t:=Ty.str) (S:=fun b=>W.heap.size≤b∧b<(wc.alloc (.cells #[.string ⟨#[97,51,50,48]⟩,.string ⟨#[98,55,51,55]⟩] 9)).heap.size∧b≠g) (xs:=[a320S,b737S]) (qK wc (.cells #[.string ⟨#[97,51,50,48]⟩,.string ⟨#[98,55,51,55]⟩] 9)) ⟨hWw,by omega,by omega⟩ (by decide) fun i x hi=>by
       have:i=0∨i=1:=by
        have:=(List.getElem?_eq_some_iff.1 hi).1;have:i<2:=this;omega
       rcases this with rfl|rfl
       all_goals
        injection hi with hi
        subst hi;rfl
      have hz9:PX W g ⟨(pB a k sn).id,(pB a k sn).name,(pB a k sn).base,(pB a k sn).rank,(pB a k sn).sen,[a320S,b737S],(pB a k sn).vacs⟩ ((wc.alloc (.cells #[.string ⟨#[97,51,50,48]⟩,.string ⟨#[98,55,51,55]⟩] 9)).setCell ⟨g,5,none⟩ (.slice (some ⟨wc.heap.size,0,none⟩) 2 2)):=hpx.setTypes hbl;rw[World.setCell_alloc_past _ g 5 _ hgw]at hz9;obtain⟨cs,h1,h2, -, -⟩:=hpx;obtain⟨A1,n1,c1,A2,n2,c2,rfl, -, -⟩:=h2;have y5:(wc.alloc (.cells #[.string ⟨#[97,51,50,48]⟩,.string ⟨#[98,55,51,55]⟩] 9)).cell? ⟨g,5,none⟩=some (.slice A1 n1 c1):=block_cell h1 5;have f5:=block_free h1 5;have HZ:=qH hz9;have HE:Hid (pC a k sn=⟨(pB a k sn).id,(pB a k sn).name,(pB a k sn).base,(pB a k sn).rank,(pB a k sn).sen,[a320S,b737S],(pB a k sn).vacs⟩):=by show _=_;unfold pC;rw[qR hc];rfl
      clear h1 hbl hz9 hWw hz1;go_wp2_with fail
      go_meet
      rw[HE.out];exact HZ.out
     ·have hc':(a/64%4==3)=false:=by simpa using hc
      have e:pC a k sn=pB a k sn:=by unfold pC pB;rw[qN hc]
      rw[←e]at HPX;clear hc e;go_wp2_with fail
      go_meet
      exact HPX.out
    case rest =>
    have HPX:=qH hcut;clear hcut;have g8:bits .and .i64 (a/256) 7=a/256%8:=and_7 _;go_upto_if 58 with (fail)
    go_cut [] (fun wx=>PX W g (pD a k sn) wx)
    case first =>
     by_cases hc:a/256%8=7
     ·have hz9:PX W g ⟨(pC a k sn).id,(pC a k sn).name,(pC a k sn).base,(pC a k sn).rank,(pC a k sn).sen,[],(pC a k sn).vacs⟩ (wc.setCell ⟨g,5,none⟩ (.slice none 0 0)):=HPX.out.setTypes Sl.nil0;obtain⟨cs,h1,h2, -, -⟩:=HPX.out;obtain⟨A1,n1,c1,A2,n2,c2,rfl, -, -⟩:=h2;have y5:=block_cell h1 5;have f5:=block_free h1 5;have HZ:=qH hz9;have HE:Hid (pD a k sn=⟨(pC a k sn).id,(pC a k sn).name,(pC a k sn).base,(pC a k sn).rank,(pC a k sn).sen,[],(pC a k sn).vacs⟩):=by show _=_;unfold pD dTypes;rw[qR hc];rfl
      clear h1 hz9;go_wp2_with fail
      go_meet
      rw[HE.out];exact HZ.out
     ·have hc':(a/256%8==7)=false:=by simpa using hc
      have e:pD a k sn=pC a k sn:=by unfold pD pC dTypes;rw[qN hc]
      rw[←e]at HPX;clear hc e;go_wp2_with fail
      go_meet
      exact HPX.out
    case rest =>
    have HPX:=qH hcut;clear hcut;have g8:bits .and .i64 (a/2048) 3=a/2048%4:=and_3 _;go_upto_if 63 with (fail)
    go_cut [] (fun wx=>PX W g (dPerson a k sn) wx)
    case first =>
     by_cases hc:a/2048%4=3
     ·have hpx:=HPX.out.next ((qC wc.heap.size wc).alloc (qD _) (.cells #[.int .i64 (12960360+60*(a%16)),.int .i64 (12960360+60*(a%16)+300)] 57));have hgw:g<wc.heap.size:=by
       obtain⟨cs,h1, -⟩:=HPX.out;exact(Array.getElem?_eq_some_iff.1 h1).1
      have hWw:W.heap.size≤wc.heap.size:=by
       obtain⟨cs,h1,h2,h3,h4⟩:=HPX.out;exact h4.size
      have hz1:(wc.alloc (.cells #[.int .i64 (12960360+60*(a%16)),.int .i64 (12960360+60*(a%16)+300)] 57)).heap.size=wc.heap.size+1:=by simp
      have hbl:=Sl.block (t:=Ty.shift) (S:=fun b=>W.heap.size≤b∧b<(wc.alloc (.cells #[.int .i64 (12960360+60*(a%16)),.int .i64 (12960360+60*(a%16)+300)] 57)).heap.size∧b≠g) (xs:=[(⟨12960360+60*(a%16),12960360+60*(a%16)+300⟩:GShift)]) (qK wc (.cells #[.int .i64 (12960360+60*(a%16)),.int .i64 (12960360+60*(a%16)+300)] 57)) ⟨hWw,by omega,by omega⟩ (show 1≤maxLen by decide) fun i x hi=>by
       have:i=0:=by
        have:=(List.getElem?_eq_some_iff.1 hi).1;have:i<1:=this;omega
       subst this;injection hi with hi
       subst hi;rfl
      have hz9:PX W g ⟨(pD a k sn).id,(pD a k sn).name,(pD a k sn).base,(pD a k sn).rank,(pD a k sn).sen,(pD a k sn).types,[⟨12960360+60*(a%16),12960360+60*(a%16)+300⟩]⟩ ((wc.alloc (.cells #[.int .i64 (12960360+60*(a%16)),.int .i64 (12960360+60*(a%16)+300)] 57)).setCell ⟨g,6,none⟩ (.slice (some ⟨wc.heap.size,0,none⟩) 1 1)):=hpx.setVacs hbl;rw[World.setCell_alloc_past _ g 6 _ hgw]at hz9;obtain⟨cs,h1,h2, -, -⟩:=hpx;obtain⟨A1,n1,c1,A2,n2,c2,rfl, -, -⟩:=h2;have y6:(wc.alloc (.cells #[.int .i64 (12960360+60*(a%16)),.int .i64 (12960360+60*(a%16)+300)] 57)).cell? ⟨g,6,none⟩=some (.slice A2 n2 c2):=block_cell h1 6;have f6:=block_free h1 6;have HZ:=qH hz9;have HE:Hid (dPerson a k sn=⟨(pD a k sn).id,(pD a k sn).name,(pD a k sn).base,(pD a k sn).rank,(pD a k sn).sen,(pD a k sn).types,[⟨12960360+60*(a%16),12960360+60*(a%16)+300⟩]⟩):=by show _=_;unfold dPerson dVacs;rw[qR hc];rfl
      have v0:=and_15 a;have v1:IntKind.i64.wrap (60*(a%16))=60*(a%16):=qM _ (by omega);have v2:IntKind.i64.wrap (12960360+60*(a%16))=12960360+60*(a%16):=qM _ (by omega);have v3:IntKind.i64.wrap (12960360+60*(a%16)+300)=12960360+60*(a%16)+300:=qM _ (by omega);clear h1 hbl hz9 hWw hz1;go_wp2_with fail
      go_meet
      rw[HE.out];exact HZ.out
     ·have hc':(a/2048%4==3)=false:=by simpa using hc
      have e:dPerson a k sn=pD a k sn:=by unfold dPerson pD dVacs;rw[qN hc]
      rw[←e]at HPX;clear hc e;go_wp2_with fail
      go_meet
      exact HPX.out
    case rest =>
    have HPX:=qH hcut;clear hcut;obtain⟨cs,h1,⟨A1,n1,c1,A2,n2,c2,rfl,hs1,hs2⟩,h3,h4⟩:=HPX.out;have hgl:=(Array.getElem?_eq_some_iff.1 h1).1;have y0:=block_cell h1 0;have y1:=block_cell h1 1;have y2:=block_cell h1 2;have y3:=block_cell h1 3;have y4:=block_cell h1 4;have y5:=block_cell h1 5;have y6:=block_cell h1 6;have HO9:=qH (HOW.out.next h4);have hbw9:=HBW.out.trans (h4.mono HBW.out.size);have HB9:=qH hbw9;have hsz9:=hbw9.size;have HLE:Hid ((pers l k (sen0 l)).length=k):=pers_len l k _;have HWS:Hid (∀ q,u3.ownBlock=some q→q<W.heap.size):=fun q hq=>(HOW.out.lt q hq).2
    have HSL:Hid (Sl Ty.str wc (fun b=>W.heap.size≤b∧b<wc.heap.size∧b≠g) A1 n1 c1 (dPerson a k sn).types∧Sl Ty.shift wc (fun b=>W.heap.size≤b∧b<wc.heap.size∧b≠g) A2 n2 c2 (dPerson a k sn).vacs):=⟨hs1,hs2⟩
    have hWl:=h4.size;have hwW:=HBW.out.size;generalize dPerson a k sn=pp at*;have HREP:Hid (Ty.person.rep (wc.alloc (.cells #[.int .i64 pp.id,.string pp.name,.string pp.base,.int .i64 pp.rank,.int .i64 pp.sen,.slice A1 n1 c1,.slice A2 n2 c2] 75)) (fun b=>W.heap.size≤b∧b<wc.heap.size∧b≠g) [.int .i64 pp.id,.string pp.name,.string pp.base,.int .i64 pp.rank,.int .i64 pp.sen,.slice A1 n1 c1,.slice A2 n2 c2] pp∧At (wc.alloc (.cells #[.int .i64 pp.id,.string pp.name,.string pp.base,.int .i64 pp.rank,.int .i64 pp.sen,.slice A1 n1 c1,.slice A2 n2 c2] 75)) wc.heap.size 0 [.int .i64 pp.id,.string pp.name,.string pp.base,.int .i64 pp.rank,.int .i64 pp.sen,.slice A1 n1 c1,.slice A2 n2 c2]) :=
     ⟨⟨A1,n1,c1,A2,n2,c2,rfl,HSL.out.1.keep fun b hb=>Below.heap_alloc _ _ _ hb.2.1,HSL.out.2.keep fun b hb=>Below.heap_alloc _ _ _ hb.2.1⟩,at_ofBlock (qK _ _)⟩
    have HSEP:Hid (∀ b,(W.heap.size≤b∧b<wc.heap.size∧b≠g)→w.heap.size≤b∧b<(wc.alloc (.cells #[.int .i64 pp.id,.string pp.name,.string pp.base,.int .i64 pp.rank,.int .i64 pp.sen,.slice A1 n1 c1,.slice A2 n2 c2] 75)).heap.size∧some b≠u3.ownBlock):=fun b hb=>by
     refine⟨by omega,by simp;omega,fun e =>?_⟩;have:=HWS.out b e.symm;omega
    have HOA:Hid (Own Ty.person 75 (wc.alloc (.cells #[.int .i64 pp.id,.string pp.name,.string pp.base,.int .i64 pp.rank,.int .i64 pp.sen,.slice A1 n1 c1,.slice A2 n2 c2] 75)) w.heap.size u3 (pers l k (sen0 l))):=HO9.out.alloc _;clear h1 hs1 hs2 h3 h4 HPX hbw9 HOW hgl;go_wp2_with (at_builtin;refine wpList_push (t:=Ty.person) rfl _ _ _ rfl 104 elem_person rfl HOA.out wc.heap.size pp _ rfl ⟨_,HREP.out⟩ HSEP.out ?c1 (by decide) ?c2 ?_)
    case c1=>rw[HLE.out];omega
    case c2=>simp;omega
    intro v' w9 hown9 hgr9;rw[←HPS.out]at hown9;have HON:=qH hown9;have HBN:Hid (Below w.heap.size w w9):=(HB9.out.alloc hsz9 _).grown hgr9 (by simp;omega) fun j hj=>(HO9.out.lt j hj).1
    clear hown9 hgr9 y0 y1 y2 y3 y4 y5 y6 HO9 HB9 HLE HWS HSL HREP HSEP HOA;go_wp2_with fail
    go_roundw
    case rel=>exact⟨k+1,by omega,by go_num,HON.out,HBN.out⟩
    case measure=>simp[intOf];omega
  ·have hkm:k=m:=by omega
   subst hkm;have hge : ¬(k:Int)<(k:Int):=by omega
   go_wp2_with (go_at_call 32;refine HA0.out.mono ?_;rintro e w1 ⟨rfl,hb1⟩)
   have hown:=HOW.out.next hb1;have HBW:Hid (Below w.heap.size w w1):=HBR.out.trans (hb1.mono HBR.out.size);obtain⟨g,cp,cur9,e9,hg9,hl9, -⟩:=OwnS.ownAt (S:=fun b=>w.heap.size≤b∧b<w1.heap.size∧some b≠u3.ownBlock) hown (by rw[pers_len];have:=HPC.out;omega);rw[pers_len]at e9;subst e9;have HOS:Hid (OwnS Ty.person 75 w1 (fun b=>w.heap.size≤b∧b<w1.heap.size∧b≠g) w.heap.size (.slice (some ⟨g,0,none⟩) k cp) (pers l k (svO l k 0))):=by
    show OwnS _ _ _ _ _ _ _;rw[svO_zero];exact OwnS.more (S:=fun b=>w.heap.size≤b∧b<w1.heap.size∧some b≠(Value.slice (some ⟨g,0,none⟩) k cp).ownBlock) hown fun b hb=>⟨hb.1,hb.2.1,fun e=>hb.2.2 (by rw[e];rfl)⟩
   clear hown hb1 hg9 HA0 HOW HBR hlt hge hk g1 g2 g3 hcn HCN;go_loopw [7] (fun s7 wr => ∃ i:Nat,i≤k∧s7=.int .i64 i∧OwnS Ty.person 75 wr (fun b=>w.heap.size≤b∧b<w1.heap.size∧b≠g) w.heap.size (.slice (some ⟨g,0,none⟩) k cp) (pers l k (svO l k i))∧Below w.heap.size w wr∧w1.heap.size≤wr.heap.size) (fun s7 _=>k-(intOf s7).toNat)
   case atStart=>exact⟨0,qV _,rfl,HOS.out,HBW.out,qD _⟩
   case round =>
    obtain⟨i,hi,rfl,hos,hbr,hsz⟩:=hrel;clear HOS HBW
    by_cases hlti:i<k
    ·have hlti':(i:Int)<(k:Int):=by omega
     have HOI:Hid (OwnS Ty.person 75 wr (fun b=>w.heap.size≤b∧b<w1.heap.size∧b≠g) w.heap.size (.slice (some ⟨g,0,none⟩) k cp) (pers l k (svI l k i 0))):=by
      show OwnS _ _ _ _ _ _ _;rw[svI_zero];exact hos
     have HBI:=qH hbr;clear hos hbr;go_wp2_with fail
     go_loopw [8] (fun s8 wx => ∃ j:Nat,j≤i∧s8=.int .i64 j∧OwnS Ty.person 75 wx (fun b=>w.heap.size≤b∧b<w1.heap.size∧b≠g) w.heap.size (.slice (some ⟨g,0,none⟩) k cp) (pers l k (svI l k i j))∧Below w.heap.size w wx∧w1.heap.size≤wx.heap.size) (fun s8 _=>i-(intOf s8).toNat)
     case atStart=>exact⟨0,qV _,rfl,HOI.out,HBI.out,hsz⟩
     case round =>
      obtain⟨j,hj,rfl,hos,hbx,hsx⟩:=hrel;clear HOI HBI
      by_cases hltj:j<i
      ·have hltj':(j:Int)<(i:Int):=by omega
       have y0:=hos.sen_at (k:=j) (by rw[pers_len];omega);have y1:=hos.sen_at (k:=i) (by rw[pers_len];omega);rw[pers_get l _ (by omega)]at y0 y1;have e0:(dPerson (atL l (1+j)) j (svI l k i j j)).sen=(dSens l k).getD j 0:=svI_low l k hltj;have e1:(dPerson (atL l (1+i)) i (svI l k i j i)).sen=cur l k i j:=svI_at l k i j;rw[e0]at y0;rw[e1]at y1;have HOX:=qH hos;have HBX:=qH hbx;have hjk:(j:Int)<(k:Int):=by omega
       by_cases heq:(dSens l k).getD j 0=cur l k i j
       ·have HS9:Hid ((pers l k (svI l k i j)).set i (dPerson (atL l (1+i)) i (20+(i:Int)))=pers l k (svI l k i (j+1))):=svI_set l k i j _ (cur_hit l hlti hltj heq);have HGE:Hid ((pers l k (svI l k i j)).getD i (dPerson (atL l (1+i)) i (20+(i:Int)))=dPerson (atL l (1+i)) i (svI l k i j i)):=by
         have hil:i<(pers l k (svI l k i j)).length:=by rw[pers_len];exact hlti
         have:=pers_get l (svI l k i j) hlti;rw[qF,qG hil]at this ⊢;exact this
        rw[heq]at y0;clear e0 e1 heq hos hbx;generalize cur l k i j=cu at*;have hq:IntKind.i64.wrap (20+(i:Int))=20+(i:Int):=qM _ (by omega);go_upto_region 22 with (fail)
        go_quiet (fail)
        go_upto_region 23 with (fail)
        have hbd:=below_drewN (qC wr.heap.size wr) nq;have HOD:=qH (HOX.out.next hbd fun b hb=>by omega);have hzd:(wr.drewN nq).heap.size=wr.heap.size:=rfl;have HBD:Hid (Below w.heap.size w (wr.drewN nq)):=HBX.out.trans (hbd.mono HBX.out.size);have y1:(wr.drewN nq).cell? ⟨g,i*7+4,none⟩=some (.int .i64 cu):=y1;have f1:=HOD.out.freeP (i*7+4);clear y0;generalize wr.drewN nq=wy at*;have hgw:=(HOD.out.lt g rfl).1;have HON:Hid (OwnS Ty.person 75 (wy.setCell ⟨g,i*7+4,none⟩ (.int .i64 (20+(i:Int)))) (fun b=>w.heap.size≤b∧b<w1.heap.size∧b≠g) w.heap.size (.slice (some ⟨g,0,none⟩) k cp) (pers l k (svI l k i (j+1)))):=by
         show OwnS _ _ _ _ _ _ _;rw[←HS9.out];refine HOD.out.setAt (t:=Ty.person) (k:=i) (j:=4) (by rw[pers_len];omega) (show 4<7 by decide) (fun h=>h.2.2 rfl) fun cs hr =>?_
         rw[HGE.out]at hr;obtain⟨A1,n1,c1,A2,n2,c2,rfl,h1,h2⟩:=hr;exact⟨A1,n1,c1,A2,n2,c2,rfl,h1,h2⟩
        have HBN:Hid (Below w.heap.size w (wy.setCell ⟨g,i*7+4,none⟩ (.int .i64 (20+(i:Int))))):=HBD.out.setCell (show w.heap.size≤g from hgw) _;go_wp2_with fail
        go_roundw
        case rel=>exact⟨j+1,by omega,by go_num,HON.out,HBN.out,by simp;omega⟩
        case measure=>simp[intOf];omega
       ·have HS9:Hid (svI l k i (j+1)=svI l k i j):=svI_same l k i j (cur_miss l hlti hltj heq);have heq':((dSens l k).getD j 0==cur l k i j)=false:=by simpa using heq
        clear e0 e1 heq hos hbx;generalize cur l k i j=cu at*;generalize (dSens l k).getD j 0=du at*;go_upto_region 22 with (fail)
        go_quiet (fail)
        go_wp2_with fail
        go_roundw
        case rel=>exact⟨j+1,by omega,by go_num,by rw[HS9.out];exact HOX.out.next (below_drewN (qC wr.heap.size wr) _) fun b hb=>by omega,HBX.out.trans ((below_drewN (qC wr.heap.size wr) _).mono HBX.out.size),hsx⟩
        case measure=>simp[intOf];omega
      ·have hji:i=j:=by omega
       subst hji;have HON:Hid (OwnS Ty.person 75 wr (fun b=>w.heap.size≤b∧b<w1.heap.size∧b≠g) w.heap.size (.slice (some ⟨g,0,none⟩) k cp) (pers l k (svO l k (i+1)))):=by
        show OwnS _ _ _ _ _ _ _;rw[←svI_all l hlti];exact hos
       have HBX:=qH hbx;have hge : ¬(i:Int)<(i:Int):=by omega
       clear hos hbx;go_wp2_with fail
       go_roundw
       case rel=>exact⟨i+1,by omega,by go_num,HON.out,HBX.out,hsx⟩
       case measure=>simp[intOf];omega
    ·have hik:k=i:=by omega
     subst hik;rw[pers_all, ←HM.out]at hos;obtain⟨A9,c9,e9,hsl⟩:=hos.sl;have hlen:(dPeopleN l (pCount l)).length=k:=by rw[dPeopleN_len,HM.out]
     rw[hlen]at e9 hsl;injection e9 with e1 e2 e3
     subst e1 e3;have hgl:=hos.lt g rfl;have HSL:Hid (Sl Ty.person wr (all_ wr) (some ⟨g,0,none⟩) k cp (dPeople l)):=hsl.more fun b hb=>by
      show b<_;rcases hb with hb|hb
      ·omega
      ·have hb9:some g=some b:=hb;injection hb9 with hb9
       omega
     have HBX:=qH hbr;have hge : ¬(k:Int)<(k:Int):=by omega
     clear hos hsl hlen hbr;go_wp2_with fail
     go_ret
     exact⟨_,_,_,rfl,HSL.out,HBX.out⟩
end
section
open Go.RowKit
def StrB(s:ByteArray)(w:World)(e:Ending)(w':World):Prop:=e=.returned (.string s)∧Below w.heap.size w w'
theorem numS_size{n:Int}(h0:0≤n)(h1:n≤9999):1≤(numS n).size∧(numS n).size≤21:=by
 unfold numS;rw[bs_size];rw[Lib.itoa,qN (by omega)];refine⟨dec_pos _, ?_⟩;have:=(nDigits_ten n.toNat).2 (by omega);rw[Lib.decDigits_length];omega
theorem padded_any(n d:Int)(w:World)(h0:0≤n)(h1:n≤9999)(hd:d≤((numS n).size:Int)+1)(hd0:0≤d)(hp:Pow10 w) :
 Calls Tryz.prog 120 #[.int .i64 n,.int .i64 d] w (StrB (padB n d.toNat) w):=by
 have HF:Hid (Calls Tryz.prog 55 #[.int .i64 n] w fun e w'=>e=.returned (.string (numS n))∧Below w.heap.size w w'):=formatInt_any n w (by omega) (by omega) hp;have hz:=numS_size h0 h1;have HP:Hid (padB n d.toNat=if (numS n).size<d.toNat then zS++numS n else numS n):=rfl;generalize numS n=s at*
 go_enter Tryz.func120,Tryz.ntmps120
 go_wp2_with fail
 refine HF.out.mono ?_;rintro e w1 ⟨rfl,hb1⟩
 by_cases hlt:(s.size:Int)<d
 ·have HR:Hid (padB n d.toNat=zS++s):=by show _=_;rw[HP.out,qR (by omega)]
  have q1:d-(s.size:Int)=1:=by omega
  have q2:IntKind.i64.wrap (d-(s.size:Int))=1:=by rw[q1];decide
  have q3 : ¬9223372036854775807<1+s.size:=by omega
  have HRO:Hid (Calls Tryz.prog 160 #[.string ⟨#[48]⟩,.int .i64 1] w1 fun e w'=>e=.returned (.string ⟨#[48]⟩)∧w'=w1):=Tryz.strings_Repeat_one ⟨#[48]⟩ w1;clear q1;go_wp2_with fail
  refine HRO.out.mono ?_;rintro e w' ⟨rfl,rfl⟩;go_wp2_with fail
  go_ret
  exact⟨by rw[HR.out];rfl,hb1⟩
 ·have HR:Hid (padB n d.toNat=s):=by show _=_;rw[HP.out,qN (by omega)]
  go_wp2_with fail
  go_ret
  exact⟨by rw[HR.out];rfl,hb1⟩
theorem splitMinute_any(t:Int)(w:World)(h0:0≤t)(h1:t<52596000):Calls Tryz.prog 88 #[.int .i64 t] w fun e w'=>e=.returned (.tuple #[.int .i64 (t/1440),.int .i64 (t%1440)])∧w=w':=by
 have q1:t.tdiv 1440=t/1440:=Int.tdiv_eq_ediv_of_nonneg h0;have q2:t.tmod 1440=t%1440:=qQ h0;have q3:IntKind.i64.wrap (t/1440)=t/1440:=qM _ (by omega);have q4:IntKind.i64.wrap (t%1440)=t%1440:=qM _ (by omega);have q5 : ¬t%1440<0:=by omega
 go_enter Tryz.func88,Tryz.ntmps88
 go_wp2_with fail
 go_ret2
 exact⟨rfl,rfl⟩
theorem yearSum_last:yearSum 102=37255:=by decide +kernel
def DayPost(day:Int)(w:World)(e:Ending)(w':World):Prop := ∃ y m d:Int,e=.returned (.tuple #[.agg #[.int .i64 y,.int .i64 m,.int .i64 d],.int .i64 0])∧validB y m d=true∧dayB y m d=day∧Below w.heap.size w w'
theorem dateOf_any(day:Int)(w:World)(h0:0≤day)(h1:day≤36889):Calls Tryz.prog 89 #[.int .i64 day] w (DayPost day w):=by
 have hb0:=(qC w.heap.size w).alloc (qD _) (.cells #[.int .i64 0,.int .i64 0,.int .i64 0] 145);have hr0:=qK w (.cells #[.int .i64 0,.int .i64 0,.int .i64 0] 145);have hz0:w.heap.size<(w.alloc (.cells #[.int .i64 0,.int .i64 0,.int .i64 0] 145)).heap.size:=by simp
 have HB0:=qH hb0;have HR0:=qH hr0;have HZ0:=qH hz0;clear hb0 hr0 hz0;have c1 : ¬day < -365:=by omega
 have c2 : ¬(36889:Int)<day:=by omega
 have c3:IntKind.i64.wrap (day - -365)=day+365:=by rw[Int.sub_neg];exact qM _ (by omega)
 go_enter Tryz.func89,Tryz.ntmps89
 go_wp2_with fail
 generalize w.alloc (.cells #[.int .i64 0,.int .i64 0,.int .i64 0] 145)=W at*
 go_loop [4,5] (fun r y => ∃ k:Nat,k≤101∧r=.int .i64 (day+365-yearSum k)∧y=.int .i64 (1999+k)∧0≤day+365-yearSum k) (fun _ y=>2200-(intOf y).toNat)
 case atStart=>exact⟨0,by omega,by simp[yearSum,sumTo],rfl,by simp[yearSum,sumTo];omega⟩
 case round =>
  obtain⟨k,hk,rfl,rfl,hr⟩:=hrel;have HY:Hid (Calls Tryz.prog 117 #[.int .i64 (1999+k)] W fun e w'=>e=.returned (.int .i64 (yDays (1999+k)))∧W=w'):=yearDays_any (1999+k) W (by omega) (by omega);have HS:Hid (yearSum (k+1)=yearSum k+yDays (1999+k)):=rfl;have hbs:=yearSum_bd k;have hyd:=yDays_bd (1999+k)
  by_cases hge:yDays (1999+k)≤day+365-yearSum k
  ·have hk2:k<101:=by
    rcases Nat.lt_or_ge k 101 with h|h
    ·exact h
    ·exfalso;have e:k=101:=by omega
     subst e;have:=HS.out;rw[yearSum_last]at this;omega
   have q1:IntKind.i64.wrap (day+365-yearSum k-yDays (1999+k))=day+365-yearSum k-yDays (1999+k):=qM _ (by omega);have q2:IntKind.i64.wrap (1999+(k:Int)+1)=1999+(k:Int)+1:=qM _ (by omega);have HE:Hid (day+365-yearSum k-yDays (1999+k)=day+365-yearSum (k+1)):=by show _=_;rw[HS.out];omega
   generalize yDays (1999+k)=yd at*;generalize hys:yearSum k=ys at*;go_wp2_with fail
   refine HY.out.mono ?_;rintro e w' ⟨rfl,rfl⟩;go_wp2_with fail
   refine HY.out.mono ?_;rintro e w' ⟨rfl,rfl⟩;go_wp2_with fail
   go_round
   case rel=>exact⟨k+1,by omega,by rw[HE.out],by go_num,by rw[←HE.out];omega⟩
   case measure=>simp[intOf];omega
  ·have hlt:day+365-yearSum k<yDays (1999+k):=by omega
   have HYV:Hid (yDays (1999+k)=monSum (1999+k) 12):=(monSum_year _).symm;have HDB:Hid (∀ (j:Nat) (d:Int),1999≤1999+(k:Int)→dayB (1999+k) (1+j) d = -365+yearSum k+monSum (1999+k) j+d-1):=fun j d _=>by
    unfold dayB;have e1:(1999+(k:Int)-1999).toNat=k:=by omega
    have e2:(1+(j:Int)-1).toNat=j:=by omega
    rw[e1,e2]
   have HVB:Hid (∀ (j:Nat) (d:Int),j≤11→1≤d→d≤mDays (1999+k) (1+j)→validB (1999+k) (1+j) d=true):=fun j d hj a b=>validB_iff.2 ⟨⟨by omega,by omega⟩,⟨by omega,by omega⟩,a,b⟩
   have hyb:0≤(1999:Int)+k∧(1999:Int)+k≤100000:=by omega
   generalize hyd2:yDays (1999+k)=yd at*;obtain⟨ys,hys⟩ : ∃ ys,yearSum k=ys:=⟨_,rfl⟩
   rw[hys]at hr hlt hbs HDB hge ⊢;obtain⟨yy,hyy⟩ : ∃ yy:Int,1999+(k:Int)=yy:=⟨_,rfl⟩
   rw[hyy]at HDB HVB HY HYV hyb ⊢;clear hys hyd2 hge HS;go_wp2_with fail
   refine HY.out.mono ?_;rintro e w' ⟨rfl,rfl⟩;clear HY;go_wp2_with fail
   go_loopw [4,6] (fun r m wr => ∃ j:Nat,j≤11∧r=.int .i64 (day+365-ys-monSum yy j)∧m=.int .i64 (1+j)∧0≤day+365-ys-monSum yy j∧Below W.heap.size W wr) (fun _ m _=>100-(intOf m).toNat)
   case atStart=>exact⟨0,by omega,by simp[monSum,sumTo],rfl,by simp[monSum,sumTo];omega,qC _ _⟩
   case round =>
    obtain⟨j,hj,rfl,rfl,hr2,hbr⟩:=hrel;have HM:Hid (∀ V:World,Calls Tryz.prog 118 #[.int .i64 yy,.int .i64 (1+j)] V (IntPost (mDays yy (1+j)) V)):=fun V=>monthDays_any yy (1+j) V hyb.1 hyb.2 (by omega) (by omega)
    have HS:Hid (monSum yy (j+1)=monSum yy j+mDays yy (1+j)):=rfl;have hmb:=monSum_bd yy j;have hmd:=mDays_bd yy (1+j);unfold IntPost at HM;have HDB2:=qH (HDB.out j (day+365-ys-monSum yy j+1) (by omega));have HVB2:=qH (HVB.out j (day+365-ys-monSum yy j+1) hj)
    by_cases hge:mDays yy (1+j)≤day+365-ys-monSum yy j
    ·have hj2:j<11:=by
      rcases Nat.lt_or_ge j 11 with h|h
      ·exact h
      ·exfalso;have e:j=11:=by omega
       subst e;have h9:=HS.out;have h8:=HYV.out;rw[h9]at h8;omega
     have q1:IntKind.i64.wrap (day+365-ys-monSum yy j-mDays yy (1+j))=day+365-ys-monSum yy j-mDays yy (1+j):=qM _ (by omega);have q2:IntKind.i64.wrap (1+(j:Int)+1)=1+(j:Int)+1:=qM _ (by omega);have HE:Hid (day+365-ys-monSum yy j-mDays yy (1+j)=day+365-ys-monSum yy (j+1)):=by show _=_;rw[HS.out];omega
     generalize mDays yy (1+j)=md at*;generalize hms:monSum yy j=ms at*;go_wp2_with fail
     refine(HM.out _).mono ?_;rintro e w3 ⟨rfl,hb3⟩;go_wp2_with fail
     refine(HM.out _).mono ?_;rintro e w4 ⟨rfl,hb4⟩;have HB4:Hid (Below W.heap.size W w4):=hbr.trans ((hb3.trans (hb4.mono hb3.size)).mono hbr.size);clear hb3 hb4;go_wp2_with fail
     go_roundw
     case rel=>exact⟨j+1,by omega,by rw[HE.out],by go_num,by rw[←HE.out];omega,HB4.out⟩
     case measure=>simp[intOf];omega
    ·have q1:IntKind.i64.wrap (day+365-ys-monSum yy j+1)=day+365-ys-monSum yy j+1:=qM _ (by omega);have hlt2:day+365-ys-monSum yy j<mDays yy (1+j):=by omega
     have HV3:Hid (validB yy (1+j) (day+365-ys-monSum yy j+1)=true):=HVB2.out (by omega) (by omega);have HD3:Hid (dayB yy (1+j) (day+365-ys-monSum yy j+1)=day):=by show _=_;rw[HDB2.out];omega
     clear HVB HDB HVB2 HDB2 HYV HS;generalize mDays yy (1+j)=md at*;generalize hms:monSum yy j=ms at*;obtain⟨dd,hdd⟩ : ∃ dd:Int,day+365-ys-ms+1=dd:=⟨_,rfl⟩
     rw[hdd]at q1 HV3 HD3;clear hms hge;go_wp2_with fail
     refine(HM.out _).mono ?_;rintro e w3 ⟨rfl,hb3⟩;have hb5:Below W.heap.size W w3:=hbr.trans (hb3.mono hbr.size);have hbw:Below w.heap.size w w3:=HB0.out.trans (hb5.mono HB0.out.size);have hr3:=(hb5.block w.heap.size HZ0.out).trans HR0.out;have z0:=block_cell hr3 0;have z1:=block_cell hr3 1;have z2:=block_cell hr3 2;have f0:=block_free hr3 0;have f1:=block_free hr3 1;have f2:=block_free hr3 2;clear hr3 hb3 hb5;go_wp2_with fail
     refine bodyPost_ret (v:=.tuple #[.agg #[.int .i64 yy,.int .i64 (1+j),.int .i64 dd],.int .i64 0]) (by simp[results,Tryz.results89,go_sem,z0,z1,z2]) rfl ?_;exact⟨yy,1+j,dd,rfl,HV3.out,HD3.out,((hbw.setCell (qD _) _).setCell (qD _) _).setCell (qD _) _⟩
end
section
open Go.RowKit
def TxtB(s:ByteArray)(w:World)(e:Ending)(w':World):Prop:=e=.returned (.tuple #[.string s,.int .i64 0])∧Below w.heap.size w w'
theorem padB_size{n:Int}{d:Nat}(h0:0≤n)(h1:n≤9999):(padB n d).size≤22:=by
 have:=numS_size h0 h1;unfold padB;split
 ·rw[qJ,show zS.size=1 from rfl];omega
 ·omega
theorem formatDate_any(y m d:Int)(w:World)(hv:validB y m d=true)(hp:Pow10 w):Calls Tryz.prog 90 #[.agg #[.int .i64 y,.int .i64 m,.int .i64 d]] w (TxtB (fmtDate y m d) w):=by
 obtain⟨v1,v2,v3,v4⟩:=validB_iff.1 hv;have v5:=mDays_bd y m;have hb0:=(qC w.heap.size w).alloc (qD _) (.cells #[.int .i64 y,.int .i64 m,.int .i64 d] 145);have hr0:=qK w (.cells #[.int .i64 y,.int .i64 m,.int .i64 d] 145);have HB0:=qH hb0;have HR0:=qH hr0;have HPW:Hid (∀ V,Below w.heap.size w V→Pow10 V):=fun V hV=>hp.next hV
 have n1:((numS y).size:Int)=4:=by
  have e:=numS_four (n:=y.toNat) (by omega) (by omega);rw[show((y.toNat:Nat):Int)=y by omega]at e;rw[e,bs_size];rfl
 have n2:=numS_size (n:=m) (by omega) (by omega);have n3:=numS_size (n:=d) (by omega) (by omega);have HP1:Hid (∀ V,Below w.heap.size w V→Calls Tryz.prog 120 #[.int .i64 y,.int .i64 4] V (StrB (padB y 4) V)):=fun V hV=>padded_any y 4 V (by omega) (by omega) (by omega) (by omega) (HPW.out V hV)
 have HP2:Hid (∀ V,Below w.heap.size w V→Calls Tryz.prog 120 #[.int .i64 m,.int .i64 2] V (StrB (padB m 2) V)):=fun V hV=>padded_any m 2 V (by omega) (by omega) (by omega) (by omega) (HPW.out V hV)
 have HP3:Hid (∀ V,Below w.heap.size w V→Calls Tryz.prog 120 #[.int .i64 d,.int .i64 2] V (StrB (padB d 2) V)):=fun V hV=>padded_any d 2 V (by omega) (by omega) (by omega) (by omega) (HPW.out V hV)
 have s1:=padB_size (n:=y) (d:=4) (by omega) (by omega);have s2:=padB_size (n:=m) (d:=2) (by omega) (by omega);have s3:=padB_size (n:=d) (d:=2) (by omega) (by omega);have HQ:Hid (fmtDate y m d=padB y 4++dashS++padB m 2++dashS++padB d 2):=rfl;rw[HQ.out];have HV:=qH hv;generalize padB y 4=P1 at*;generalize padB m 2=P2 at*;generalize padB d 2=P3 at*;obtain⟨X3,hX3⟩ : ∃ X,P1++dashS=X:=⟨_,rfl⟩
 obtain⟨X7,hX7⟩ : ∃ X,X3++P2=X:=⟨_,rfl⟩
 obtain⟨X8,hX8⟩ : ∃ X,X7++dashS=X:=⟨_,rfl⟩
 obtain⟨X12,hX12⟩ : ∃ X,X8++P3=X:=⟨_,rfl⟩
 have t3:X3.size≤30:=by rw[←hX3,qJ,show dashS.size=1 from rfl];omega
 have t7:X7.size≤60:=by rw[←hX7,qJ];omega
 have t8:X8.size≤61:=by rw[←hX8,qJ,show dashS.size=1 from rfl];omega
 rw[hX3,hX7,hX8,hX12];have HX3:=qH hX3;have HX7:=qH hX7;have HX8:=qH hX8;have HX12:=qH hX12;have q1 : ¬9223372036854775807<P1.size+1:=by omega
 have q2 : ¬9223372036854775807<X3.size+P2.size:=by omega
 have q3 : ¬9223372036854775807<X7.size+1:=by omega
 have q4 : ¬9223372036854775807<X8.size+P3.size:=by omega
 clear hb0 hr0 hX3 hX7 hX8 hX12 hv HQ v1 v2 v3 v4 v5 n1 n2 n3
 go_enter Tryz.func90,Tryz.ntmps90
 go_wp2_with fail
 generalize w.alloc (.cells #[.int .i64 y,.int .i64 m,.int .i64 d] 145)=W at*;refine(valid_any y m d W).mono ?_;rw[HV.out];rintro e w1 ⟨rfl,hb1⟩;have hWp:Below w.heap.size w w1:=HB0.out.trans (hb1.mono HB0.out.size);have hr1:=(hb1.block w.heap.size (Array.getElem?_eq_some_iff.1 HR0.out).1).trans HR0.out;obtain⟨B,hB⟩ : ∃ B,w.heap.size=B:=⟨_,rfl⟩
 rw[hB]at hr1;have z0:=block_cell hr1 0;have z1:=block_cell hr1 1;have z2:=block_cell hr1 2;rw[hB];clear hr1 hb1 hB;go_upto_region 3 with (fail)
 refine wp_region_facts 13 [7,8,9,10,11,12,13,14,15,16,17,18,19] (fun i v _=>([(.pointer (some ⟨B,0,none⟩):Value),(.int .i64 y:Value),(.string P1:Value),(.string X3:Value),(.pointer (some ⟨B,1,none⟩):Value),(.int .i64 m:Value),(.string P2:Value),(.string X7:Value),(.string X8:Value),(.pointer (some ⟨B,2,none⟩):Value),(.int .i64 d:Value),(.string P3:Value),(.string X12:Value)]:List Value)[i]? = some v) (by kernel_rfl) (by kernel_rfl) (by kernel_rfl) (by kernel_rfl) (by kernel_rfl) (fun _ _ _ _ h _=>h) ?_ ?_
 ·intro q o' hq ho a' w' hb' hout hpre K hK;have hq':q=0∨q=1∨q=2∨q=3∨q=4∨q=5∨q=6∨q=7∨q=8∨q=9∨q=10∨q=11∨q=12:=by omega
  rcases hq' with rfl|rfl|rfl|rfl|rfl|rfl|rfl|rfl|rfl|rfl|rfl|rfl|rfl
  ·obtain rfl:=qB ho;have e1:a'.tmps[1]? = some (.pointer (some ⟨B,0,none⟩)):=hout 1 (by decide);go_simp
   exact hK (.pointer (some ⟨B,0,none⟩)) w' rfl (qC _ _)
  ·obtain rfl:=qB ho;have p0:a'.tmps.getD 7 undef=.pointer (some ⟨B,0,none⟩):=(qB (hpre ⟨0,.data⟩ (by simp) 7 rfl)).symm;simp only[qA]at p0;have c0:=cell_kept z0 hb';go_simp
   exact hK (.int .i64 y) w' rfl (qC _ _)
  ·obtain rfl:=qB ho;have p1:a'.tmps.getD 8 undef=.int .i64 y:=(qB (hpre ⟨1,.data⟩ (by simp) 8 rfl)).symm;simp only[qA]at p1;go_simp
   go_at_call 120
   refine(HP1.out w' (hWp.trans (hb'.mono hWp.size))).mono ?_;rintro e w'' ⟨rfl,hb''⟩;exact hK _ _ rfl hb''
  ·obtain rfl:=qB ho;have p2:a'.tmps.getD 9 undef=.string P1:=(qB (hpre ⟨2,.data⟩ (by simp) 9 rfl)).symm;simp only[qA]at p2;go_simp
   exact hK _ _ (congrArg (fun x=>some (Value.string x)) HX3.out.symm) (qC _ _)
  ·obtain rfl:=qB ho;have e1:a'.tmps[1]? = some (.pointer (some ⟨B,0,none⟩)):=hout 1 (by decide);go_simp
   exact hK (.pointer (some ⟨B,1,none⟩)) w' rfl (qC _ _)
  ·obtain rfl:=qB ho;have p4:a'.tmps.getD 11 undef=.pointer (some ⟨B,1,none⟩):=(qB (hpre ⟨4,.data⟩ (by simp) 11 rfl)).symm;simp only[qA]at p4;have c1:=cell_kept z1 hb';go_simp
   exact hK (.int .i64 m) w' rfl (qC _ _)
  ·obtain rfl:=qB ho;have p5:a'.tmps.getD 12 undef=.int .i64 m:=(qB (hpre ⟨5,.data⟩ (by simp) 12 rfl)).symm;simp only[qA]at p5;go_simp
   go_at_call 120
   refine(HP2.out w' (hWp.trans (hb'.mono hWp.size))).mono ?_;rintro e w'' ⟨rfl,hb''⟩;exact hK _ _ rfl hb''
  ·obtain rfl:=qB ho;have p3:a'.tmps.getD 10 undef=.string X3:=(qB (hpre ⟨3,.data⟩ (by simp) 10 rfl)).symm;simp only[qA]at p3;have p6:a'.tmps.getD 13 undef=.string P2:=(qB (hpre ⟨6,.data⟩ (by simp) 13 rfl)).symm;simp only[qA]at p6;go_simp
   exact hK _ _ (congrArg (fun x=>some (Value.string x)) HX7.out.symm) (qC _ _)
  ·obtain rfl:=qB ho;have p7:a'.tmps.getD 14 undef=.string X7:=(qB (hpre ⟨7,.data⟩ (by simp) 14 rfl)).symm;simp only[qA]at p7;go_simp
   exact hK _ _ (congrArg (fun x=>some (Value.string x)) HX8.out.symm) (qC _ _)
  ·obtain rfl:=qB ho;have e1:a'.tmps[1]? = some (.pointer (some ⟨B,0,none⟩)):=hout 1 (by decide);go_simp
   exact hK (.pointer (some ⟨B,2,none⟩)) w' rfl (qC _ _)
  ·obtain rfl:=qB ho;have p9:a'.tmps.getD 16 undef=.pointer (some ⟨B,2,none⟩):=(qB (hpre ⟨9,.data⟩ (by simp) 16 rfl)).symm;simp only[qA]at p9;have c2:=cell_kept z2 hb';go_simp
   exact hK (.int .i64 d) w' rfl (qC _ _)
  ·obtain rfl:=qB ho;have p10:a'.tmps.getD 17 undef=.int .i64 d:=(qB (hpre ⟨10,.data⟩ (by simp) 17 rfl)).symm;simp only[qA]at p10;go_simp
   go_at_call 120
   refine(HP3.out w' (hWp.trans (hb'.mono hWp.size))).mono ?_;rintro e w'' ⟨rfl,hb''⟩;exact hK _ _ rfl hb''
  ·obtain rfl:=qB ho;have p8:a'.tmps.getD 15 undef=.string X8:=(qB (hpre ⟨8,.data⟩ (by simp) 15 rfl)).symm;simp only[qA]at p8;have p11:a'.tmps.getD 18 undef=.string P3:=(qB (hpre ⟨11,.data⟩ (by simp) 18 rfl)).symm;simp only[qA]at p11;go_simp
   exact hK _ _ (congrArg (fun x=>some (Value.string x)) HX12.out.symm) (qC _ _)
 ·intro us w' hb' hfacts;have h12:us 12=.string X12:=(qB (hfacts 12 (by decide))).symm;have hfin:Below w.heap.size w w':=hWp.trans (hb'.mono hWp.size);simp only[putL,Act.put,List.setIfInBounds_toArray,List.set_cons_zero,List.set_cons_succ];generalize us 12=x12 at*;subst h12;simp only[List.drop_succ_cons,List.drop_zero];clear hb' hfacts;go_wp2_with fail
  go_ret2
  exact⟨rfl,hfin⟩
theorem formatClock_any(c:Int)(w:World)(h0:0≤c)(h1:c<1440)(hp:Pow10 w):Calls Tryz.prog 91 #[.int .i64 c] w (TxtB (fmtClock c) w):=by
 have HPW:Hid (∀ V,Below w.heap.size w V→Pow10 V):=fun V hV=>hp.next hV
 have n2:=numS_size (n:=c/60) (by omega) (by omega);have n3:=numS_size (n:=c%60) (by omega) (by omega);have HP2:Hid (∀ V,Below w.heap.size w V→Calls Tryz.prog 120 #[.int .i64 (c/60),.int .i64 2] V (StrB (padB (c/60) 2) V)):=fun V hV=>padded_any (c/60) 2 V (by omega) (by omega) (by omega) (by omega) (HPW.out V hV)
 have HP3:Hid (∀ V,Below w.heap.size w V→Calls Tryz.prog 120 #[.int .i64 (c%60),.int .i64 2] V (StrB (padB (c%60) 2) V)):=fun V hV=>padded_any (c%60) 2 V (by omega) (by omega) (by omega) (by omega) (HPW.out V hV)
 have s2:=padB_size (n:=c/60) (d:=2) (by omega) (by omega);have s3:=padB_size (n:=c%60) (d:=2) (by omega) (by omega);have HQ:Hid (fmtClock c=padB (c/60) 2++colS++padB (c%60) 2):=rfl;rw[HQ.out];generalize padB (c/60) 2=P2 at*;generalize padB (c%60) 2=P3 at*;have u1:c.tdiv 60=c/60:=Int.tdiv_eq_ediv_of_nonneg h0;have u2:c.tmod 60=c%60:=qQ h0;have u3:IntKind.i64.wrap (c/60)=c/60:=qM _ (by omega);have u4:IntKind.i64.wrap (c%60)=c%60:=qM _ (by omega);have u5 : ¬c<0:=by omega
 have u6 : ¬(1440:Int)≤c:=by omega
 have u7 : ¬(1439:Int)<c:=by omega
 have q1 : ¬9223372036854775807<P2.size+1:=by omega
 have q2 : ¬9223372036854775807<P2.size+1+P3.size:=by omega
 have q3 : ¬9223372036854775807<(P2++(⟨#[58]⟩:ByteArray)).size+P3.size:=by rw[qJ,show(⟨#[58]⟩:ByteArray).size=1 from rfl];omega
 go_enter Tryz.func91,Tryz.ntmps91
 go_wp2_with fail
 refine(HP2.out w (qC _ _)).mono ?_;rintro e w1 ⟨rfl,hb1⟩;go_wp2_with fail
 refine(HP3.out w1 hb1).mono ?_;rintro e w2 ⟨rfl,hb2⟩;have hfin:Below w.heap.size w w2:=hb1.trans (hb2.mono hb1.size);go_wp2_with fail
 go_ret2
 exact⟨rfl,hfin⟩
def InsPost(t:Int)(w:World)(e:Ending)(w':World):Prop := ∃ s,e=.returned (.tuple #[.string s,.int .i64 0])∧IsIns t s∧Below w.heap.size w w'
theorem fmtDate_size{y m d:Int}(hv:validB y m d=true):(fmtDate y m d).size≤100:=by
 obtain⟨v1,v2,v3,v4⟩:=validB_iff.1 hv;have v5:=mDays_bd y m;have s1:=padB_size (n:=y) (d:=4) (by omega) (by omega);have s2:=padB_size (n:=m) (d:=2) (by omega) (by omega);have s3:=padB_size (n:=d) (d:=2) (by omega) (by omega);unfold fmtDate;simp only[qJ];have:dashS.size=1:=rfl;omega
theorem fmtClock_size{c:Int}(h0:0≤c)(h1:c<1440):(fmtClock c).size≤100:=by
 have s2:=padB_size (n:=c/60) (d:=2) (by omega) (by omega);have s3:=padB_size (n:=c%60) (d:=2) (by omega) (by omega);unfold fmtClock;simp only[qJ];have:colS.size=1:=rfl;omega
theorem formatInstant_any(t:Int)(w:World)(h0:0≤t)(h1:t<52596000)(hp:Pow10 w):Calls Tryz.prog 53 #[.int .i64 t] w (InsPost t w):=by
 have HPW:Hid (∀ V,Below w.heap.size w V→Pow10 V):=fun V hV=>hp.next hV
 have u5 : ¬t<0:=by omega
 have u6 : ¬(52596000:Int)≤t:=by omega
 have HSP:=qH (splitMinute_any t w h0 h1);have HDO:=qH (dateOf_any (t/1440) w (by omega) (by omega));have HCL:Hid (∀ V,Below w.heap.size w V→Calls Tryz.prog 91 #[.int .i64 (t%1440)] V (TxtB (fmtClock (t%1440)) V)):=fun V hV=>formatClock_any (t%1440) V (by omega) (by omega) (HPW.out V hV)
 have hcs:=fmtClock_size (c:=t%1440) (by omega) (by omega);have HIS:Hid (∀ y m d,validB y m d=true→dayB y m d=t/1440→IsIns t (fmtDate y m d++blankS++fmtClock (t%1440))):=fun y m d a b=>⟨y,m,d,a,b,rfl⟩
 generalize fmtClock (t%1440)=C at*
 go_enter Tryz.func53,Tryz.ntmps53
 go_wp2_with fail
 refine HSP.out.mono ?_;rintro e w' ⟨rfl,rfl⟩;go_wp2_with fail
 refine HDO.out.mono ?_;rintro e w1 ⟨y,m,d,rfl,hv,hd,hb1⟩;have HI:=qH (HIS.out y m d hv hd);have hds:=fmtDate_size hv;have hb2:Below w.heap.size w (w1.alloc (.cells #[.int .i64 y,.int .i64 m,.int .i64 d] 145)):=hb1.alloc hb1.size _;have hr2:=qK w1 (.cells #[.int .i64 y,.int .i64 m,.int .i64 d] 145);have HFD:=qH (formatDate_any y m d (w1.alloc (.cells #[.int .i64 y,.int .i64 m,.int .i64 d] 145)) hv (HPW.out _ hb2));have HB2:=qH hb2;generalize fmtDate y m d=D at*;have q1 : ¬9223372036854775807<D.size+1:=by omega
 have q2 : ¬9223372036854775807<D.size+1+C.size:=by omega
 have q3 : ¬9223372036854775807<(D++(⟨#[32]⟩:ByteArray)).size+C.size:=by rw[qJ,show(⟨#[32]⟩:ByteArray).size=1 from rfl];omega
 have z0:=block_cell hr2 0;have z1:=block_cell hr2 1;have z2:=block_cell hr2 2;clear hb1 hv hd hb2 hr2 HIS HSP HDO;go_wp2_with fail
 refine HFD.out.mono ?_;rintro e w2 ⟨rfl,hb3⟩;have hb4:Below w.heap.size w w2:=HB2.out.trans (hb3.mono HB2.out.size);clear HFD hb3 z0 z1 z2;go_wp2_with fail
 refine(HCL.out w2 hb4).mono ?_;rintro e w3 ⟨rfl,hb5⟩;have HB6:Hid (Below w.heap.size w w3):=hb4.trans (hb5.mono hb4.size);clear hb4 hb5;go_wp2_with fail
 go_ret2
 exact⟨_,rfl,HI.out,HB6.out⟩
end
section
open Go.RowKit
theorem World.cell?_block_at{w w':World}{b o:Nat}(h:w'.heap[b]? = w.heap[b]?):w'.cell? ⟨b,o,none⟩=w.cell? ⟨b,o,none⟩:=by
 simp only[World.cell?,h]
theorem insTxt_any(t:Int)(w:World)(h0:0≤t)(h1:t<52596000)(hp:Pow10 w):Calls Tryz.prog 53 #[.int .i64 t] w (TxtB (insD t++blankS++insC t) w) :=
 (formatInstant_any t w h0 h1 hp).mono fun e w' ⟨s,he,hi,hb⟩=>⟨by rw[he,hi.eqT h0 h1],hb⟩
theorem incFormat_ok(t:GTT)(ps:List GPerson)(l:List GInc)(A1 A2 A3 A4 A5:Option Addr)(n1 n2 n3 n4 n5 c1 c2 c3 c4 c5:Nat)(w:World)(ht:t.ok)(hp : ∀ p∈ps,p.ok)(hs1:Sl Ty.zone w (all_ w) A1 n1 c1 t.zones)(hs2:Sl Ty.airport w (all_ w) A2 n2 c2 t.airports)(hs3:Sl Ty.flight w (all_ w) A3 n3 c3 t.flights)(hs4:Sl Ty.person w (all_ w) A4 n4 c4 ps)(hs5:Sl Ty.inc w (all_ w) A5 n5 c5 l)(hv:incE t ps l=0)(hpw:Pow10 w) :
 Calls Tryz.prog 24 #[.agg #[.slice A1 n1 c1,.slice A2 n2 c2,.slice A3 n3 c3],.slice A4 n4 c4,.slice A5 n5 c5] w (FmtPost (incS t l,0) w):=by
 obtain⟨hl32,hgood⟩:=incE_good hv;have HG:=qH hgood;have e5:n5≤l.length:=Nat.le_of_eq hs5.len;have e5':l.length≤n5:=Nat.le_of_eq hs5.len.symm;have e3:t.flights.length≤n3:=Nat.le_of_eq hs3.len.symm;have ha : ∀ o,Below w.heap.size w (w.alloc o):=fun o=>(qC _ _).alloc (qD _) _
 have HV:Hid (∀ o,Calls Tryz.prog 16 #[.agg #[.slice A1 n1 c1,.slice A2 n2 c2,.slice A3 n3 c3],.slice A4 n4 c4,.slice A5 n5 c5] (w.alloc o) (ErrPost 0 (w.alloc o))):=fun o=>hv▸incValidate_any t ps l A1 A2 A3 A4 A5 n1 n2 n3 n4 n5 c1 c2 c3 c4 c5 (w.alloc o) ht hp (hs1.next (ha o)) (hs2.next (ha o)) (hs3.next (ha o)) (hs4.next (ha o)) (hs5.next (ha o))
 have HS:=qH (And.intro hs3 hs5);have HPW:Hid (∀ V,Below w.heap.size w V→Pow10 V):=fun V hV=>hpw.next hV
 have hB0:=ha (.cells #[.slice A1 n1 c1,.slice A2 n2 c2,.slice A3 n3 c3] 27);have hX0:=qK w (.cells #[.slice A1 n1 c1,.slice A2 n2 c2,.slice A3 n3 c3] 27);have hZ0:(w.alloc (.cells #[.slice A1 n1 c1,.slice A2 n2 c2,.slice A3 n3 c3] 27)).heap.size=w.heap.size+1:=by simp
 have HB0:=qH hB0;have HX0:=qH hX0;have HZ0:=qH hZ0;clear hgood hs1 hs2 hs3 hs4 hs5 hv ht hp hpw ha hB0 hX0 hZ0
 go_enter Tryz.func24,Tryz.ntmps24
 go_wp2_with fail
 refine(HV.out _).mono ?_;clear HV;generalize w.alloc (.cells #[.slice A1 n1 c1,.slice A2 n2 c2,.slice A3 n3 c3] 27)=W at*;rintro e w1 ⟨rfl,hb1⟩;have hbw:Below w.heap.size w w1:=HB0.out.trans (hb1.mono HB0.out.size);have hsw:w.heap.size+1≤w1.heap.size:=by have:=hb1.size;have:=HZ0.out;omega
 have hxt:=(hb1.block w.heap.size (by have:=HZ0.out;omega)).trans HX0.out;have HS3:=qH (HS.out.1.keep (all_keep hbw));have HS5:=qH (HS.out.2.keep (all_keep hbw));have HXT:Hid (∀ V,Below w1.heap.size w1 V→V.heap[w.heap.size]? = some (.cells #[.slice A1 n1 c1,.slice A2 n2 c2,.slice A3 n3 c3] 27 (0,0))):=fun V hV=>(hV.block _ (by omega)).trans hxt
 have HBW:=qH hbw;have hsw':=hsw;replace hsw:w.heap.size≤w1.heap.size:=by omega
 clear HS HB0 HX0 HZ0 hb1 hbw hxt;have hfs0:FS w1 (w1.alloc (.cells #[.pointer none,.slice none 0 0] 107)) (.slice none 0 0) [] :=
  ⟨⟨⟨_,.inl rfl,qK _ _⟩,World.ownsRow_nil _ _ _ _,by simp[Value.ownBlock]⟩,(qC _ _).alloc (qD _) _⟩
 have HFS0:=qH hfs0;clear hfs0;go_wp2_with fail
 go_loopw [29] (fun i wr => ∃ (k:Nat) (v:Value),k≤n5∧i=.int .i64 k∧Hid (FS w1 wr v (textT ((l.take k).map (incF t))))) (fun i _=>n5-(intOf i).toNat)
 case atStart=>exact⟨0,_,qV _,rfl,HFS0⟩
 case round =>
  obtain⟨k,v,hk,rfl,HFS⟩:=hrel;clear HFS0;have hlen:(textT ((l.take k).map (incF t))).length≤2560:=by
   have:=incs_up (l:=l.take k) fun x hx=>HG.out x (List.mem_of_mem_take hx)
   rw[List.length_take]at this;omega
  by_cases hlt:k<n5
  ·have hks:k<l.length:=by omega
   obtain⟨b,o,rfl,hbS,hat⟩:=(HS5.out.keep (w':=wr) fun b hb=>HFS.out.2.block b (by unfold all_ at hb;omega)).inc_at hks;have hg:=HG.out _ (getD_in hks noInc);have HSN:Hid (textT ((l.take (k+1)).map (incF t))=textT ((l.take k).map (incF t))++(lineT (incF t (l.getD k noInc))++[10])):=by
    show _=_;rw[map_take_snoc _ hks noInc,textT_snoc]
   generalize l.getD k noInc=x at*;generalize textT ((l.take k).map (incF t))=pre at*;obtain⟨kind,fl,mi,ai,pe,⟨s1,s2⟩⟩:=x;have y0:wr.cell? ⟨b,o+k*7,none⟩=some (.int .i64 kind):=hat 0 _ rfl;have y1:=hat 1 _ rfl;have y2:=hat 2 _ rfl;have y3:=hat 3 _ rfl;have y4:=hat 4 _ rfl;have y5:=hat 5 _ rfl;have y6:=hat 6 _ rfl;simp only at y1 y2 y3 y4 y5 y6;have hkd:=hg.kind;simp only at hkd;clear hat;rcases hkd with rfl|rfl|rfl|rfl
   ·as_aux_lemma =>
     obtain⟨⟨hf0,hf1⟩,hn,hd0,hd1⟩:=hg.fl (show ¬((1:Int)=4) by decide);have hmi:=hg.min;have hai:=hg.air;simp only at hf0 hf1 hn hd0 hd1 hmi hai;have HL:Hid (lineT (incF t ⟨1,fl,mi,ai,pe,⟨s1,s2⟩⟩)=lineT [delayS,(t.flights.getD fl.toNat noFlight).number,insD (t.flights.getD fl.toNat noFlight).dep,insC (t.flights.getD fl.toNat noFlight).dep,numS mi]):=rfl;obtain⟨bf,of_,rfl,hbF,hat2⟩:=(HS3.out.keep (w':=wr) fun b hb=>HFS.out.2.block b (by unfold all_ at hb;omega)).flight_at hf1;have hbF':bf<w.heap.size:=hbF;generalize t.flights.getD fl.toNat noFlight=fx at*;have HI1:Hid (∀ V,Below w.heap.size w V→Calls Tryz.prog 53 #[.int .i64 fx.dep] V (TxtB (insD fx.dep++blankS++insC fx.dep) V)):=fun V hV=>insTxt_any fx.dep V (hd0) (hd1) (HPW.out V hV)
     have HN:Hid (∀ V,Below w.heap.size w V→Calls Tryz.prog 55 #[.int .i64 mi] V (StrB (numS mi) V)):=fun V hV=>formatInt_any mi V (by omega) (by omega) (HPW.out V hV)
     have d3:=num_le (n:=mi) (by omega);have HE:=qH (delay_eq fx.number (insD fx.dep) (insC fx.dep) (numS mi));have d1:=ins_le (t:=fx.dep) ⟨hd0,hd1⟩;rw[←HL.out]at HE;clear HL;generalize numS mi=nS at*;generalize insD fx.dep++blankS++insC fx.dep=iS at*;have hwa:Below wr.heap.size wr (wr.alloc (.cells #[.int .i64 1,.int .i64 fl,.int .i64 mi,.string ai,.int .i64 pe,.int .i64 s1,.int .i64 s2] 59)):=(qC _ _).alloc (qD _) _;have hxa:=qK wr (.cells #[.int .i64 1,.int .i64 fl,.int .i64 mi,.string ai,.int .i64 pe,.int .i64 s1,.int .i64 s2] 59);have hxlt:wr.heap.size<(wr.alloc (.cells #[.int .i64 1,.int .i64 fl,.int .i64 mi,.string ai,.int .i64 pe,.int .i64 s1,.int .i64 s2] 59)).heap.size:=by simp
     have hgb:w1.heap.size<wr.heap.size:=HFS.out.1.lt;have HFA:=qH (HFS.out.next hwa);have HXA:=qH hxa;have HFL:Hid (∀ V,Below wr.heap.size wr V→At V bf (of_+fl.toNat*9) (flightCells fx)):=fun V hV j u hu=>by
      rw[World.cell?_block_at (hV.block bf (by have:=HFS.out.2.size;omega))];exact hat2 j u hu
     have hwa2:=hwa;clear hbS hxa hbF hat2;go_upto_region 12 with (fail)
     clear y0 y1 y2 y3 y4 y5 y6;have HXT2:=qH (HXT.out _ HFA.out.2);have hat:=HFL.out _ hwa2;generalize wr.alloc (.cells #[.int .i64 1,.int .i64 fl,.int .i64 mi,.string ai,.int .i64 pe,.int .i64 s1,.int .i64 s2] 59)=wa at*;generalize hbx:wr.heap.size=bx at*;have z1:wa.cell? ⟨bx,1,none⟩=some (.int .i64 fl):=block_cell HXA.out 1;have q2:wa.cell? ⟨w.heap.size,2,none⟩=some (.slice (some ⟨bf,of_,none⟩) n3 c3):=block_cell HXT2.out 2;have y0:wa.cell? ⟨bf,of_+fl.toNat*9,none⟩=some (.string fx.number):=hat 0 _ rfl;have y1:=hat 1 _ rfl;have y2:=hat 2 _ rfl;have y3:=hat 3 _ rfl;have y4:=hat 4 _ rfl;have y5:=hat 5 _ rfl;have y6:=hat 6 _ rfl;have y7:=hat 7 _ rfl;have y8:=hat 8 _ rfl;have hwb:Below wa.heap.size wa (wa.alloc (.cells #[.string fx.number,.string fx.src,.string fx.dst,.int .i64 fx.dep,.int .i64 fx.arr,.string fx.kind,.int .i64 fx.n0,.int .i64 fx.n1,.int .i64 fx.n2] 62)):=(qC _ _).alloc (qD _) _;have hyb:=qK wa (.cells #[.string fx.number,.string fx.src,.string fx.dst,.int .i64 fx.dep,.int .i64 fx.arr,.string fx.kind,.int .i64 fx.n0,.int .i64 fx.n1,.int .i64 fx.n2] 62);have hylt:wa.heap.size<(wa.alloc (.cells #[.string fx.number,.string fx.src,.string fx.dst,.int .i64 fx.dep,.int .i64 fx.arr,.string fx.kind,.int .i64 fx.n0,.int .i64 fx.n1,.int .i64 fx.n2] 62)).heap.size:=by simp
     have HFB:=qH (HFA.out.next hwb);have HXB:=qH ((hwb.block bx hxlt).trans HXA.out);have HYB:=qH hyb;have hxltb:bx<(wa.alloc (.cells #[.string fx.number,.string fx.src,.string fx.dst,.int .i64 fx.dep,.int .i64 fx.arr,.string fx.kind,.int .i64 fx.n0,.int .i64 fx.n1,.int .i64 fx.n2] 62)).heap.size:=by simp;omega
     clear hat hwa hwa2 hwb hyb HFL HXT2 HFS;go_upto_region 13 with (fail)
     clear y0 y1 y2 y3 y4 y5 y6 y7 y8 z1 q2;generalize wa.alloc (.cells #[.string fx.number,.string fx.src,.string fx.dst,.int .i64 fx.dep,.int .i64 fx.arr,.string fx.kind,.int .i64 fx.n0,.int .i64 fx.n1,.int .i64 fx.n2] 62)=wb at*;generalize hby:wa.heap.size=by_ at*;have z3:wb.cell? ⟨by_,3,none⟩=some (.int .i64 fx.dep):=block_cell HYB.out 3;go_wp2_with fail
     refine(HI1.out wb (HBW.out.trans (HFB.out.2.mono hsw))).mono ?_;rintro e w2 ⟨rfl,hb2⟩;have HF2:=qH (HFB.out.next hb2);have hx2:=(hb2.block bx hxltb).trans HXB.out;have hy2:=(hb2.block by_ hylt).trans HYB.out;have HX2:=qH hx2;have u0:w2.cell? ⟨by_,0,none⟩=some (.string fx.number):=block_cell hy2 0;have z0:w2.cell? ⟨bx,0,none⟩=some (.int .i64 1):=block_cell hx2 0;have hxlt2:=(Array.getElem?_eq_some_iff.1 hx2).1;have HBR:Hid (Below w.heap.size w w2):=HBW.out.trans (HF2.out.2.mono hsw);clear hb2 hx2 hy2 z3 HI1 HFA HFB HXA HXB HYB hxlt hylt hxltb;have qm0a : ¬9223372036854775807<fx.number.size+1:=by omega
     have qm0b : ¬9223372036854775807<(fx.number).size+1:=by rw[show(fx.number).size=fx.number.size by first|rfl|(simp only[qJ];rfl)];omega
     have qm1a : ¬9223372036854775807<fx.number.size+1+iS.size:=by omega
     have qm1b : ¬9223372036854775807<(fx.number++(⟨#[32]⟩:ByteArray)).size+iS.size:=by rw[show(fx.number++(⟨#[32]⟩:ByteArray)).size=fx.number.size+1 by first|rfl|(simp only[qJ];rfl)];omega
     go_upto_region 15 with (fail)
     have hnmz:(fx.number++(⟨#[32]⟩:ByteArray)++iS).size≤16+1+16:=by simp only[qJ,sz1];omega
     generalize fx.number++(⟨#[32]⟩:ByteArray)++iS=nm at*;clear u0 qm0a qm0b qm1a qm1b;have hl5:(pre++lineT (incF t ⟨1,fl,mi,ai,pe,⟨s1,s2⟩⟩)).length≤3000:=by have h9:=incF_up hg;rw[List.length_append]at h9 ⊢;omega
     have z2:w2.cell? ⟨bx,2,none⟩=some (.int .i64 mi):=block_cell HX2.out 2;have qb0a : ¬9223372036854775807<6+nm.size:=by omega
     have qb0b : ¬9223372036854775807<((⟨#[100,101,108,97,121,32]⟩:ByteArray)).size+nm.size:=by rw[show((⟨#[100,101,108,97,121,32]⟩:ByteArray)).size=6 by first|rfl|(simp only[qJ];rfl)];omega
     have qb1a : ¬9223372036854775807<6+nm.size+1:=by omega
     have qb1b : ¬9223372036854775807<((⟨#[100,101,108,97,121,32]⟩:ByteArray)++nm).size+1:=by rw[show((⟨#[100,101,108,97,121,32]⟩:ByteArray)++nm).size=6+nm.size by first|rfl|(simp only[qJ];rfl)];omega
     have qb2a : ¬9223372036854775807<6+nm.size+1+nS.size:=by omega
     have qb2b : ¬9223372036854775807<((⟨#[100,101,108,97,121,32]⟩:ByteArray)++nm++(⟨#[32]⟩:ByteArray)).size+nS.size:=by rw[show((⟨#[100,101,108,97,121,32]⟩:ByteArray)++nm++(⟨#[32]⟩:ByteArray)).size=6+nm.size+1 by first|rfl|(simp only[qJ];rfl)];omega
     clear hg;go_wp2_with fail
     refine(HN.out w2 HBR.out).mono ?_;rintro e w3 ⟨rfl,hb3⟩;have HF3:=qH (HF2.out.next hb3);have HW:=qH (HF3.out.write ((⟨#[100,101,108,97,121,32]⟩:ByteArray)++nm++(⟨#[32]⟩:ByteArray)++nS) (by simp only[qJ,sz1,szSick,szDelay,szCancel,szDivert];omega));clear hb3 z2 HN HF2 HX2 HBR;go_wp2_with fail
     refine HW.out.mono ?_;rintro e w5 ⟨rfl,⟨v5,hf5⟩, -⟩;rw[HE.out]at hf5;have HF5:=qH hf5;clear hf5 HW HE HF3 qb0a qb0b qb1a qb1b qb2a qb2b;have HWN:=qH (HF5.out.write (⟨#[10]⟩:ByteArray) (by show _+1≤_;omega));go_wp2_with fail
     refine HWN.out.mono ?_;rintro e w8 ⟨rfl,⟨v8,hf8⟩, -⟩
     try rw[nl_eq]at hf8
     rw[List.append_assoc, ←HSN.out]at hf8;have HF8:=qH hf8;clear hf8 HWN HSN HF5;go_wp2_with fail
     go_roundw
     case rel=>exact⟨k+1,v8,by omega,by go_num,HF8⟩
     case measure=>simp[intOf];omega
   ·as_aux_lemma =>
     obtain⟨⟨hf0,hf1⟩,hn,hd0,hd1⟩:=hg.fl (show ¬((2:Int)=4) by decide);have hmi:=hg.min;have hai:=hg.air;simp only at hf0 hf1 hn hd0 hd1 hmi hai;have HL:Hid (lineT (incF t ⟨2,fl,mi,ai,pe,⟨s1,s2⟩⟩)=lineT [cancelS,(t.flights.getD fl.toNat noFlight).number,insD (t.flights.getD fl.toNat noFlight).dep,insC (t.flights.getD fl.toNat noFlight).dep]):=rfl;obtain⟨bf,of_,rfl,hbF,hat2⟩:=(HS3.out.keep (w':=wr) fun b hb=>HFS.out.2.block b (by unfold all_ at hb;omega)).flight_at hf1;have hbF':bf<w.heap.size:=hbF;generalize t.flights.getD fl.toNat noFlight=fx at*;have HI1:Hid (∀ V,Below w.heap.size w V→Calls Tryz.prog 53 #[.int .i64 fx.dep] V (TxtB (insD fx.dep++blankS++insC fx.dep) V)):=fun V hV=>insTxt_any fx.dep V (hd0) (hd1) (HPW.out V hV)
     have HE:=qH (cancel_eq fx.number (insD fx.dep) (insC fx.dep));have d1:=ins_le (t:=fx.dep) ⟨hd0,hd1⟩;rw[←HL.out]at HE;clear HL;generalize insD fx.dep++blankS++insC fx.dep=iS at*;have hwa:Below wr.heap.size wr (wr.alloc (.cells #[.int .i64 2,.int .i64 fl,.int .i64 mi,.string ai,.int .i64 pe,.int .i64 s1,.int .i64 s2] 59)):=(qC _ _).alloc (qD _) _;have hxa:=qK wr (.cells #[.int .i64 2,.int .i64 fl,.int .i64 mi,.string ai,.int .i64 pe,.int .i64 s1,.int .i64 s2] 59);have hxlt:wr.heap.size<(wr.alloc (.cells #[.int .i64 2,.int .i64 fl,.int .i64 mi,.string ai,.int .i64 pe,.int .i64 s1,.int .i64 s2] 59)).heap.size:=by simp
     have hgb:w1.heap.size<wr.heap.size:=HFS.out.1.lt;have HFA:=qH (HFS.out.next hwa);have HXA:=qH hxa;have HFL:Hid (∀ V,Below wr.heap.size wr V→At V bf (of_+fl.toNat*9) (flightCells fx)):=fun V hV j u hu=>by
      rw[World.cell?_block_at (hV.block bf (by have:=HFS.out.2.size;omega))];exact hat2 j u hu
     have hwa2:=hwa;clear hbS hxa hbF hat2;go_upto_region 12 with (fail)
     clear y0 y1 y2 y3 y4 y5 y6;have HXT2:=qH (HXT.out _ HFA.out.2);have hat:=HFL.out _ hwa2;generalize wr.alloc (.cells #[.int .i64 2,.int .i64 fl,.int .i64 mi,.string ai,.int .i64 pe,.int .i64 s1,.int .i64 s2] 59)=wa at*;generalize hbx:wr.heap.size=bx at*;have z1:wa.cell? ⟨bx,1,none⟩=some (.int .i64 fl):=block_cell HXA.out 1;have q2:wa.cell? ⟨w.heap.size,2,none⟩=some (.slice (some ⟨bf,of_,none⟩) n3 c3):=block_cell HXT2.out 2;have y0:wa.cell? ⟨bf,of_+fl.toNat*9,none⟩=some (.string fx.number):=hat 0 _ rfl;have y1:=hat 1 _ rfl;have y2:=hat 2 _ rfl;have y3:=hat 3 _ rfl;have y4:=hat 4 _ rfl;have y5:=hat 5 _ rfl;have y6:=hat 6 _ rfl;have y7:=hat 7 _ rfl;have y8:=hat 8 _ rfl;have hwb:Below wa.heap.size wa (wa.alloc (.cells #[.string fx.number,.string fx.src,.string fx.dst,.int .i64 fx.dep,.int .i64 fx.arr,.string fx.kind,.int .i64 fx.n0,.int .i64 fx.n1,.int .i64 fx.n2] 62)):=(qC _ _).alloc (qD _) _;have hyb:=qK wa (.cells #[.string fx.number,.string fx.src,.string fx.dst,.int .i64 fx.dep,.int .i64 fx.arr,.string fx.kind,.int .i64 fx.n0,.int .i64 fx.n1,.int .i64 fx.n2] 62);have hylt:wa.heap.size<(wa.alloc (.cells #[.string fx.number,.string fx.src,.string fx.dst,.int .i64 fx.dep,.int .i64 fx.arr,.string fx.kind,.int .i64 fx.n0,.int .i64 fx.n1,.int .i64 fx.n2] 62)).heap.size:=by simp
     have HFB:=qH (HFA.out.next hwb);have HXB:=qH ((hwb.block bx hxlt).trans HXA.out);have HYB:=qH hyb;have hxltb:bx<(wa.alloc (.cells #[.string fx.number,.string fx.src,.string fx.dst,.int .i64 fx.dep,.int .i64 fx.arr,.string fx.kind,.int .i64 fx.n0,.int .i64 fx.n1,.int .i64 fx.n2] 62)).heap.size:=by simp;omega
     clear hat hwa hwa2 hwb hyb HFL HXT2 HFS;go_upto_region 13 with (fail)
     clear y0 y1 y2 y3 y4 y5 y6 y7 y8 z1 q2;generalize wa.alloc (.cells #[.string fx.number,.string fx.src,.string fx.dst,.int .i64 fx.dep,.int .i64 fx.arr,.string fx.kind,.int .i64 fx.n0,.int .i64 fx.n1,.int .i64 fx.n2] 62)=wb at*;generalize hby:wa.heap.size=by_ at*;have z3:wb.cell? ⟨by_,3,none⟩=some (.int .i64 fx.dep):=block_cell HYB.out 3;go_wp2_with fail
     refine(HI1.out wb (HBW.out.trans (HFB.out.2.mono hsw))).mono ?_;rintro e w2 ⟨rfl,hb2⟩;have HF2:=qH (HFB.out.next hb2);have hx2:=(hb2.block bx hxltb).trans HXB.out;have hy2:=(hb2.block by_ hylt).trans HYB.out;have HX2:=qH hx2;have u0:w2.cell? ⟨by_,0,none⟩=some (.string fx.number):=block_cell hy2 0;have z0:w2.cell? ⟨bx,0,none⟩=some (.int .i64 2):=block_cell hx2 0;have hxlt2:=(Array.getElem?_eq_some_iff.1 hx2).1;have HBR:Hid (Below w.heap.size w w2):=HBW.out.trans (HF2.out.2.mono hsw);clear hb2 hx2 hy2 z3 HI1 HFA HFB HXA HXB HYB hxlt hylt hxltb;have qm0a : ¬9223372036854775807<fx.number.size+1:=by omega
     have qm0b : ¬9223372036854775807<(fx.number).size+1:=by rw[show(fx.number).size=fx.number.size by first|rfl|(simp only[qJ];rfl)];omega
     have qm1a : ¬9223372036854775807<fx.number.size+1+iS.size:=by omega
     have qm1b : ¬9223372036854775807<(fx.number++(⟨#[32]⟩:ByteArray)).size+iS.size:=by rw[show(fx.number++(⟨#[32]⟩:ByteArray)).size=fx.number.size+1 by first|rfl|(simp only[qJ];rfl)];omega
     go_upto_region 15 with (fail)
     have hnmz:(fx.number++(⟨#[32]⟩:ByteArray)++iS).size≤16+1+16:=by simp only[qJ,sz1];omega
     generalize fx.number++(⟨#[32]⟩:ByteArray)++iS=nm at*;clear u0 qm0a qm0b qm1a qm1b;have hl5:(pre++lineT (incF t ⟨2,fl,mi,ai,pe,⟨s1,s2⟩⟩)).length≤3000:=by have h9:=incF_up hg;rw[List.length_append]at h9 ⊢;omega
     have qb0a : ¬9223372036854775807<7+nm.size:=by omega
     have qb0b : ¬9223372036854775807<((⟨#[99,97,110,99,101,108,32]⟩:ByteArray)).size+nm.size:=by rw[show((⟨#[99,97,110,99,101,108,32]⟩:ByteArray)).size=7 by first|rfl|(simp only[qJ];rfl)];omega
     have HW:=qH (HF2.out.write ((⟨#[99,97,110,99,101,108,32]⟩:ByteArray)++nm) (by simp only[qJ,sz1,szSick,szDelay,szCancel,szDivert];omega));clear hg;go_wp2_with fail
     refine HW.out.mono ?_;rintro e w5 ⟨rfl,⟨v5,hf5⟩, -⟩;rw[HE.out]at hf5;have HF5:=qH hf5;clear hf5 HW HE HF2 HX2 HBR qb0a qb0b;have HWN:=qH (HF5.out.write (⟨#[10]⟩:ByteArray) (by show _+1≤_;omega));go_wp2_with fail
     refine HWN.out.mono ?_;rintro e w8 ⟨rfl,⟨v8,hf8⟩, -⟩
     try rw[nl_eq]at hf8
     rw[List.append_assoc, ←HSN.out]at hf8;have HF8:=qH hf8;clear hf8 HWN HSN HF5;go_wp2_with fail
     go_roundw
     case rel=>exact⟨k+1,v8,by omega,by go_num,HF8⟩
     case measure=>simp[intOf];omega
   ·as_aux_lemma =>
     obtain⟨⟨hf0,hf1⟩,hn,hd0,hd1⟩:=hg.fl (show ¬((3:Int)=4) by decide);have hmi:=hg.min;have hai:=hg.air;simp only at hf0 hf1 hn hd0 hd1 hmi hai;have HL:Hid (lineT (incF t ⟨3,fl,mi,ai,pe,⟨s1,s2⟩⟩)=lineT [divertS,(t.flights.getD fl.toNat noFlight).number,insD (t.flights.getD fl.toNat noFlight).dep,insC (t.flights.getD fl.toNat noFlight).dep,ai,numS mi]):=rfl;obtain⟨bf,of_,rfl,hbF,hat2⟩:=(HS3.out.keep (w':=wr) fun b hb=>HFS.out.2.block b (by unfold all_ at hb;omega)).flight_at hf1;have hbF':bf<w.heap.size:=hbF;generalize t.flights.getD fl.toNat noFlight=fx at*;have HI1:Hid (∀ V,Below w.heap.size w V→Calls Tryz.prog 53 #[.int .i64 fx.dep] V (TxtB (insD fx.dep++blankS++insC fx.dep) V)):=fun V hV=>insTxt_any fx.dep V (hd0) (hd1) (HPW.out V hV)
     have HN:Hid (∀ V,Below w.heap.size w V→Calls Tryz.prog 55 #[.int .i64 mi] V (StrB (numS mi) V)):=fun V hV=>formatInt_any mi V (by omega) (by omega) (HPW.out V hV)
     have d3:=num_le (n:=mi) (by omega);have HE:=qH (divert_eq fx.number (insD fx.dep) (insC fx.dep) ai (numS mi));have d1:=ins_le (t:=fx.dep) ⟨hd0,hd1⟩;rw[←HL.out]at HE;clear HL;generalize numS mi=nS at*;generalize insD fx.dep++blankS++insC fx.dep=iS at*;have hwa:Below wr.heap.size wr (wr.alloc (.cells #[.int .i64 3,.int .i64 fl,.int .i64 mi,.string ai,.int .i64 pe,.int .i64 s1,.int .i64 s2] 59)):=(qC _ _).alloc (qD _) _;have hxa:=qK wr (.cells #[.int .i64 3,.int .i64 fl,.int .i64 mi,.string ai,.int .i64 pe,.int .i64 s1,.int .i64 s2] 59);have hxlt:wr.heap.size<(wr.alloc (.cells #[.int .i64 3,.int .i64 fl,.int .i64 mi,.string ai,.int .i64 pe,.int .i64 s1,.int .i64 s2] 59)).heap.size:=by simp
     have hgb:w1.heap.size<wr.heap.size:=HFS.out.1.lt;have HFA:=qH (HFS.out.next hwa);have HXA:=qH hxa;have HFL:Hid (∀ V,Below wr.heap.size wr V→At V bf (of_+fl.toNat*9) (flightCells fx)):=fun V hV j u hu=>by
      rw[World.cell?_block_at (hV.block bf (by have:=HFS.out.2.size;omega))];exact hat2 j u hu
     have hwa2:=hwa;clear hbS hxa hbF hat2;go_upto_region 12 with (fail)
     clear y0 y1 y2 y3 y4 y5 y6;have HXT2:=qH (HXT.out _ HFA.out.2);have hat:=HFL.out _ hwa2;generalize wr.alloc (.cells #[.int .i64 3,.int .i64 fl,.int .i64 mi,.string ai,.int .i64 pe,.int .i64 s1,.int .i64 s2] 59)=wa at*;generalize hbx:wr.heap.size=bx at*;have z1:wa.cell? ⟨bx,1,none⟩=some (.int .i64 fl):=block_cell HXA.out 1;have q2:wa.cell? ⟨w.heap.size,2,none⟩=some (.slice (some ⟨bf,of_,none⟩) n3 c3):=block_cell HXT2.out 2;have y0:wa.cell? ⟨bf,of_+fl.toNat*9,none⟩=some (.string fx.number):=hat 0 _ rfl;have y1:=hat 1 _ rfl;have y2:=hat 2 _ rfl;have y3:=hat 3 _ rfl;have y4:=hat 4 _ rfl;have y5:=hat 5 _ rfl;have y6:=hat 6 _ rfl;have y7:=hat 7 _ rfl;have y8:=hat 8 _ rfl;have hwb:Below wa.heap.size wa (wa.alloc (.cells #[.string fx.number,.string fx.src,.string fx.dst,.int .i64 fx.dep,.int .i64 fx.arr,.string fx.kind,.int .i64 fx.n0,.int .i64 fx.n1,.int .i64 fx.n2] 62)):=(qC _ _).alloc (qD _) _;have hyb:=qK wa (.cells #[.string fx.number,.string fx.src,.string fx.dst,.int .i64 fx.dep,.int .i64 fx.arr,.string fx.kind,.int .i64 fx.n0,.int .i64 fx.n1,.int .i64 fx.n2] 62);have hylt:wa.heap.size<(wa.alloc (.cells #[.string fx.number,.string fx.src,.string fx.dst,.int .i64 fx.dep,.int .i64 fx.arr,.string fx.kind,.int .i64 fx.n0,.int .i64 fx.n1,.int .i64 fx.n2] 62)).heap.size:=by simp
     have HFB:=qH (HFA.out.next hwb);have HXB:=qH ((hwb.block bx hxlt).trans HXA.out);have HYB:=qH hyb;have hxltb:bx<(wa.alloc (.cells #[.string fx.number,.string fx.src,.string fx.dst,.int .i64 fx.dep,.int .i64 fx.arr,.string fx.kind,.int .i64 fx.n0,.int .i64 fx.n1,.int .i64 fx.n2] 62)).heap.size:=by simp;omega
     clear hat hwa hwa2 hwb hyb HFL HXT2 HFS;go_upto_region 13 with (fail)
     clear y0 y1 y2 y3 y4 y5 y6 y7 y8 z1 q2;generalize wa.alloc (.cells #[.string fx.number,.string fx.src,.string fx.dst,.int .i64 fx.dep,.int .i64 fx.arr,.string fx.kind,.int .i64 fx.n0,.int .i64 fx.n1,.int .i64 fx.n2] 62)=wb at*;generalize hby:wa.heap.size=by_ at*;have z3:wb.cell? ⟨by_,3,none⟩=some (.int .i64 fx.dep):=block_cell HYB.out 3;go_wp2_with fail
     refine(HI1.out wb (HBW.out.trans (HFB.out.2.mono hsw))).mono ?_;rintro e w2 ⟨rfl,hb2⟩;have HF2:=qH (HFB.out.next hb2);have hx2:=(hb2.block bx hxltb).trans HXB.out;have hy2:=(hb2.block by_ hylt).trans HYB.out;have HX2:=qH hx2;have u0:w2.cell? ⟨by_,0,none⟩=some (.string fx.number):=block_cell hy2 0;have z0:w2.cell? ⟨bx,0,none⟩=some (.int .i64 3):=block_cell hx2 0;have hxlt2:=(Array.getElem?_eq_some_iff.1 hx2).1;have HBR:Hid (Below w.heap.size w w2):=HBW.out.trans (HF2.out.2.mono hsw);clear hb2 hx2 hy2 z3 HI1 HFA HFB HXA HXB HYB hxlt hylt hxltb;have qm0a : ¬9223372036854775807<fx.number.size+1:=by omega
     have qm0b : ¬9223372036854775807<(fx.number).size+1:=by rw[show(fx.number).size=fx.number.size by first|rfl|(simp only[qJ];rfl)];omega
     have qm1a : ¬9223372036854775807<fx.number.size+1+iS.size:=by omega
     have qm1b : ¬9223372036854775807<(fx.number++(⟨#[32]⟩:ByteArray)).size+iS.size:=by rw[show(fx.number++(⟨#[32]⟩:ByteArray)).size=fx.number.size+1 by first|rfl|(simp only[qJ];rfl)];omega
     go_upto_region 15 with (fail)
     have hnmz:(fx.number++(⟨#[32]⟩:ByteArray)++iS).size≤16+1+16:=by simp only[qJ,sz1];omega
     generalize fx.number++(⟨#[32]⟩:ByteArray)++iS=nm at*;clear u0 qm0a qm0b qm1a qm1b;have hl5:(pre++lineT (incF t ⟨3,fl,mi,ai,pe,⟨s1,s2⟩⟩)).length≤3000:=by have h9:=incF_up hg;rw[List.length_append]at h9 ⊢;omega
     have z2:w2.cell? ⟨bx,2,none⟩=some (.int .i64 mi):=block_cell HX2.out 2;have z3:w2.cell? ⟨bx,3,none⟩=some (.string ai):=block_cell HX2.out 3;clear hg;go_upto_region 21 with (fail)
     obtain⟨Xr1,hXr1⟩ : ∃ X,(⟨#[100,105,118,101,114,116,32]⟩:ByteArray)++nm=X:=⟨_,rfl⟩
     have uXr1:Xr1.size≤7+nm.size:=by rw[←hXr1,qJ];exact qD _
     have HXr1:=qH hXr1;have vXr1 : ¬9223372036854775807<7+nm.size:=by omega
     obtain⟨Xr2,hXr2⟩ : ∃ X,Xr1++(⟨#[32]⟩:ByteArray)=X:=⟨_,rfl⟩
     have uXr2:Xr2.size≤Xr1.size+1:=by rw[←hXr2,qJ];exact qD _
     have HXr2:=qH hXr2;have vXr2 : ¬9223372036854775807<Xr1.size+1:=by omega
     obtain⟨Xr5,hXr5⟩ : ∃ X,Xr2++ai=X:=⟨_,rfl⟩
     have uXr5:Xr5.size≤Xr2.size+ai.size:=by rw[←hXr5,qJ];exact qD _
     have HXr5:=qH hXr5;have vXr5 : ¬9223372036854775807<Xr2.size+ai.size:=by omega
     obtain⟨Xr6,hXr6⟩ : ∃ X,Xr5++(⟨#[32]⟩:ByteArray)=X:=⟨_,rfl⟩
     have uXr6:Xr6.size≤Xr5.size+1:=by rw[←hXr6,qJ];exact qD _
     have HXr6:=qH hXr6;have vXr6 : ¬9223372036854775807<Xr5.size+1:=by omega
     obtain⟨Xr10,hXr10⟩ : ∃ X,Xr6++nS=X:=⟨_,rfl⟩
     have uXr10:Xr10.size≤Xr6.size+nS.size:=by rw[←hXr10,qJ];exact qD _
     have HXr10:=qH hXr10;have vXr10 : ¬9223372036854775807<Xr6.size+nS.size:=by omega
     clear hXr1 hXr2 hXr5 hXr6 hXr10;have HALL:Hid ((⟨#[100,105,118,101,114,116,32]⟩:ByteArray)++nm++(⟨#[32]⟩:ByteArray)++ai++(⟨#[32]⟩:ByteArray)++nS=Xr10):=by show _=_;rw[HXr1.out,HXr2.out,HXr5.out,HXr6.out,HXr10.out]
     refine wp_region_factsB 11 [99,100,101,102,103,104,105,106,107,108,109] (fun i v x=>(([(fun v _=>v=.string nm),(fun v _=>v=.string Xr1),(fun v _=>v=.string Xr2),(fun v _=>v=.pointer (some ⟨bx,3,none⟩)),(fun v _=>v=.string ai),(fun v _=>v=.string Xr5),(fun v _=>v=.string Xr6),(fun v _=>v=.pointer (some ⟨bx,2,none⟩)),(fun v _=>v=.int .i64 mi),(fun v _=>v=.string nS),(fun v _=>v=.string Xr10)]:List (Value→World→Prop)).getD i (fun _ _=>True)) v x) (by kernel_rfl) (by kernel_rfl) (by kernel_rfl) (by kernel_rfl) (by kernel_rfl) ?_ ?_ ?_
     ·intro i v x x' h hx;rcases Nat.lt_or_ge i 11 with hi|hi
      ·have hi':i=0∨i=1∨i=2∨i=3∨i=4∨i=5∨i=6∨i=7∨i=8∨i=9∨i=10:=by omega
       rcases hi' with rfl|rfl|rfl|rfl|rfl|rfl|rfl|rfl|rfl|rfl|rfl
       ·exact h
       ·exact h
       ·exact h
       ·exact h
       ·exact h
       ·exact h
       ·exact h
       ·exact h
       ·exact h
       ·exact h
       ·exact h
      ·rw[qF,List.getElem?_eq_none (by simpa using hi)];trivial
     ·intro q o' hq ho a' w' hb' hout hpre K hK;have hq':q=0∨q=1∨q=2∨q=3∨q=4∨q=5∨q=6∨q=7∨q=8∨q=9∨q=10:=by omega
      rcases hq' with rfl|rfl|rfl|rfl|rfl|rfl|rfl|rfl|rfl|rfl|rfl
      ·obtain rfl:=qB ho;have e19:a'.tmps[19]? = some (.string nm):=hout 19 (by decide);go_simp
       exact hK (.string nm) w' rfl (qC _ _)
      ·obtain rfl:=qB ho;have p0:a'.tmps.getD 99 undef=.string nm:=hpre ⟨0,.data⟩ (by simp) 99 rfl;simp only[qA]at p0;go_simp
       exact hK _ _ (congrArg Value.string HXr1.out) (qC _ _)
      ·obtain rfl:=qB ho;have p1:a'.tmps.getD 100 undef=.string Xr1:=hpre ⟨1,.data⟩ (by simp) 100 rfl;simp only[qA]at p1;go_simp
       exact hK _ _ (congrArg Value.string HXr2.out) (qC _ _)
      ·obtain rfl:=qB ho;have e11:a'.tmps[11]? = some (.pointer (some ⟨bx,0,none⟩)):=hout 11 (by decide);go_simp
       exact hK (.pointer (some ⟨bx,3,none⟩)) w' rfl (qC _ _)
      ·obtain rfl:=qB ho;have p3:a'.tmps.getD 102 undef=.pointer (some ⟨bx,3,none⟩):=hpre ⟨3,.data⟩ (by simp) 102 rfl;simp only[qA]at p3;have c4:=cell_kept z3 hb';go_simp
       exact hK (.string ai) w' rfl (qC _ _)
      ·obtain rfl:=qB ho;have p2:a'.tmps.getD 101 undef=.string Xr2:=hpre ⟨2,.data⟩ (by simp) 101 rfl;simp only[qA]at p2;have p4:a'.tmps.getD 103 undef=.string ai:=hpre ⟨4,.data⟩ (by simp) 103 rfl;simp only[qA]at p4;go_simp
       exact hK _ _ (congrArg Value.string HXr5.out) (qC _ _)
      ·obtain rfl:=qB ho;have p5:a'.tmps.getD 104 undef=.string Xr5:=hpre ⟨5,.data⟩ (by simp) 104 rfl;simp only[qA]at p5;go_simp
       exact hK _ _ (congrArg Value.string HXr6.out) (qC _ _)
      ·obtain rfl:=qB ho;have e11:a'.tmps[11]? = some (.pointer (some ⟨bx,0,none⟩)):=hout 11 (by decide);go_simp
       exact hK (.pointer (some ⟨bx,2,none⟩)) w' rfl (qC _ _)
      ·obtain rfl:=qB ho;have p7:a'.tmps.getD 106 undef=.pointer (some ⟨bx,2,none⟩):=hpre ⟨7,.data⟩ (by simp) 106 rfl;simp only[qA]at p7;have c8:=cell_kept z2 hb';go_simp
       exact hK (.int .i64 mi) w' rfl (qC _ _)
      ·obtain rfl:=qB ho;have p8:a'.tmps.getD 107 undef=.int .i64 mi:=hpre ⟨8,.data⟩ (by simp) 107 rfl;simp only[qA]at p8;go_simp
       go_at_call 55
       refine(HN.out w' (HBR.out.trans (hb'.mono HBR.out.size))).mono ?_;rintro e w'' ⟨rfl,hb''⟩;exact hK _ _ rfl hb''
      ·obtain rfl:=qB ho;have p6:a'.tmps.getD 105 undef=.string Xr6:=hpre ⟨6,.data⟩ (by simp) 105 rfl;simp only[qA]at p6;have p9:a'.tmps.getD 108 undef=.string nS:=hpre ⟨9,.data⟩ (by simp) 108 rfl;simp only[qA]at p9;go_simp
       exact hK _ _ (congrArg Value.string HXr10.out) (qC _ _)
     ·intro us w' hb' hfacts;have h10:us 10=.string Xr10:=hfacts 10 (by decide);simp only[putL,Act.put,List.setIfInBounds_toArray,List.set_cons_zero,List.set_cons_succ,Nat.zero_add,Nat.reduceAdd];generalize us 10=x10 at*;subst h10;simp only[List.drop_succ_cons,List.drop_zero];clear hfacts;have HF3:=qH (HF2.out.next hb');have HW:=qH (HF3.out.write Xr10 (by omega));have HE2:Hid (Xr10.data.toList=lineT (incF t ⟨3,fl,mi,ai,pe,⟨s1,s2⟩⟩)):=by
       show _=_;rw[←HALL.out,HE.out]
      clear hb' HALL HE HN HF2 HX2 HBR z0 z2 z3 uXr1 vXr1 HXr1 uXr2 vXr2 HXr2 uXr5 vXr5 HXr5 uXr6 vXr6 HXr6 vXr10 HXr10;generalize Xr10=s7 at*;go_wp2_with fail
      refine HW.out.mono ?_;rintro e w5 ⟨rfl,⟨v5,hf5⟩, -⟩;rw[HE2.out]at hf5;have HF5:=qH hf5;clear hf5 HW HE2 HF3;have HWN:=qH (HF5.out.write (⟨#[10]⟩:ByteArray) (by show _+1≤_;omega));go_wp2_with fail
      refine HWN.out.mono ?_;rintro e w8 ⟨rfl,⟨v8,hf8⟩, -⟩
      try rw[nl_eq]at hf8
      rw[List.append_assoc, ←HSN.out]at hf8;have HF8:=qH hf8;clear hf8 HWN HSN HF5;go_wp2_with fail
      go_roundw
      case rel=>exact⟨k+1,v8,by omega,by go_num,HF8⟩
      case measure=>simp[intOf];omega
   ·as_aux_lemma =>
     obtain⟨hp1,hp2,hp3,hp4⟩:=hg.sick rfl;simp only at hp1 hp2 hp3 hp4;have HI1:Hid (∀ V,Below w.heap.size w V→Calls Tryz.prog 53 #[.int .i64 s1] V (TxtB (insD s1++blankS++insC s1) V)):=fun V hV=>insTxt_any s1 V (by omega) (by omega) (HPW.out V hV)
     have HI2:Hid (∀ V,Below w.heap.size w V→Calls Tryz.prog 53 #[.int .i64 (s2-1)] V (TxtB (insD (s2-1)++blankS++insC (s2-1)) V)):=fun V hV=>insTxt_any (s2-1) V (by omega) (by omega) (HPW.out V hV)
     have HN:Hid (∀ V,Below w.heap.size w V→Calls Tryz.prog 55 #[.int .i64 pe] V (StrB (numS pe) V)):=fun V hV=>formatInt_any pe V (by omega) (by omega) (HPW.out V hV)
     have HE:=qH (sick_eq (numS pe) (insD s1) (insC s1) (insD (s2-1)) (insC (s2-1)));have HL:Hid (lineT (incF t ⟨4,fl,mi,ai,pe,⟨s1,s2⟩⟩)=lineT [sickS,numS pe,insD s1,insC s1,insD (s2-1),insC (s2-1)]):=rfl;have d1:=ins_le (t:=s1) (by omega);have d2:=ins_le (t:=s2-1) (by omega);have d3:=num_le (n:=pe) (by omega);have hsub:IntKind.i64.wrap (s2-1)=s2-1:=qM _ (by omega);rw[←HL.out]at HE;clear HL;generalize numS pe=nS at*;generalize insD s1++blankS++insC s1=iS at*;generalize insD (s2-1)++blankS++insC (s2-1)=jS at*;have hwa:Below wr.heap.size wr (wr.alloc (.cells #[.int .i64 4,.int .i64 fl,.int .i64 mi,.string ai,.int .i64 pe,.int .i64 s1,.int .i64 s2] 59)):=(qC _ _).alloc (qD _) _;have hxa:=qK wr (.cells #[.int .i64 4,.int .i64 fl,.int .i64 mi,.string ai,.int .i64 pe,.int .i64 s1,.int .i64 s2] 59);have hxlt:wr.heap.size<(wr.alloc (.cells #[.int .i64 4,.int .i64 fl,.int .i64 mi,.string ai,.int .i64 pe,.int .i64 s1,.int .i64 s2] 59)).heap.size:=by simp
     have hgb:w1.heap.size<wr.heap.size:=HFS.out.1.lt;have HFA:=qH (HFS.out.next hwa);have HXA:=qH hxa;clear hbS hwa hxa HFS hp1 hp2 hp3 hp4 hg;go_upto_region 9 with (fail)
     clear y0 y1 y2 y3 y4 y5 y6;generalize wr.alloc (.cells #[.int .i64 4,.int .i64 fl,.int .i64 mi,.string ai,.int .i64 pe,.int .i64 s1,.int .i64 s2] 59)=wa at*;generalize hbx:wr.heap.size=bx at*;have z5:wa.cell? ⟨bx,5,none⟩=some (.int .i64 s1):=block_cell HXA.out 5;go_wp2_with fail
     refine(HI1.out wa (HBW.out.trans (HFA.out.2.mono hsw))).mono ?_;rintro e w2 ⟨rfl,hb2⟩;have HF2:=qH (HFA.out.next hb2);have hx2:=(hb2.block bx hxlt).trans HXA.out;have HX2:=qH hx2;have z6:w2.cell? ⟨bx,6,none⟩=some (.int .i64 s2):=block_cell hx2 6;have hxlt2:=(Array.getElem?_eq_some_iff.1 hx2).1;clear hb2 hx2 z5 HI1 HFA HXA hxlt;go_wp2_with fail
     refine(HI2.out w2 (HBW.out.trans (HF2.out.2.mono hsw))).mono ?_;rintro e w3 ⟨rfl,hb3⟩;have HF3:=qH (HF2.out.next hb3);have hx3:=(hb3.block bx hxlt2).trans HX2.out;have z4:w3.cell? ⟨bx,4,none⟩=some (.int .i64 pe):=block_cell hx3 4;clear hb3 hx3 z6 HI2 HF2 HX2 hxlt2 hsub;go_wp2_with fail
     refine(HN.out w3 (HBW.out.trans (HF3.out.2.mono hsw))).mono ?_;rintro e w4 ⟨rfl,hb4⟩;have HF4:=qH (HF3.out.next hb4);have HW:=qH (HF4.out.write ((⟨#[115,105,99,107,32]⟩:ByteArray)++nS++(⟨#[32]⟩:ByteArray)++iS++(⟨#[32]⟩:ByteArray)++jS++(⟨#[10]⟩:ByteArray)) (by simp only[qJ,sz1,szSick,szDelay,szCancel,szDivert];omega));have qa0a : ¬9223372036854775807<5+nS.size:=by omega
     have qa0b : ¬9223372036854775807<((⟨#[115,105,99,107,32]⟩:ByteArray)).size+nS.size:=by rw[show((⟨#[115,105,99,107,32]⟩:ByteArray)).size=5 by first|rfl|(simp only[qJ];rfl)];omega
     have qa1a : ¬9223372036854775807<5+nS.size+1:=by omega
     have qa1b : ¬9223372036854775807<((⟨#[115,105,99,107,32]⟩:ByteArray)++nS).size+1:=by rw[show((⟨#[115,105,99,107,32]⟩:ByteArray)++nS).size=5+nS.size by first|rfl|(simp only[qJ];rfl)];omega
     have qa2a : ¬9223372036854775807<5+nS.size+1+iS.size:=by omega
     have qa2b : ¬9223372036854775807<((⟨#[115,105,99,107,32]⟩:ByteArray)++nS++(⟨#[32]⟩:ByteArray)).size+iS.size:=by rw[show((⟨#[115,105,99,107,32]⟩:ByteArray)++nS++(⟨#[32]⟩:ByteArray)).size=5+nS.size+1 by first|rfl|(simp only[qJ];rfl)];omega
     have qa3a : ¬9223372036854775807<5+nS.size+1+iS.size+1:=by omega
     have qa3b : ¬9223372036854775807<((⟨#[115,105,99,107,32]⟩:ByteArray)++nS++(⟨#[32]⟩:ByteArray)++iS).size+1:=by rw[show((⟨#[115,105,99,107,32]⟩:ByteArray)++nS++(⟨#[32]⟩:ByteArray)++iS).size=5+nS.size+1+iS.size by first|rfl|(simp only[qJ];rfl)];omega
     have qa4a : ¬9223372036854775807<5+nS.size+1+iS.size+1+jS.size:=by omega
     have qa4b : ¬9223372036854775807<((⟨#[115,105,99,107,32]⟩:ByteArray)++nS++(⟨#[32]⟩:ByteArray)++iS++(⟨#[32]⟩:ByteArray)).size+jS.size:=by rw[show((⟨#[115,105,99,107,32]⟩:ByteArray)++nS++(⟨#[32]⟩:ByteArray)++iS++(⟨#[32]⟩:ByteArray)).size=5+nS.size+1+iS.size+1 by first|rfl|(simp only[qJ];rfl)];omega
     have qa5a : ¬9223372036854775807<5+nS.size+1+iS.size+1+jS.size+1:=by omega
     have qa5b : ¬9223372036854775807<((⟨#[115,105,99,107,32]⟩:ByteArray)++nS++(⟨#[32]⟩:ByteArray)++iS++(⟨#[32]⟩:ByteArray)++jS).size+1:=by rw[show((⟨#[115,105,99,107,32]⟩:ByteArray)++nS++(⟨#[32]⟩:ByteArray)++iS++(⟨#[32]⟩:ByteArray)++jS).size=5+nS.size+1+iS.size+1+jS.size by first|rfl|(simp only[qJ];rfl)];omega
     clear hb4 z4 HN HF3;go_wp2_with fail
     refine HW.out.mono ?_;rintro e w8 ⟨rfl,⟨v8,hf8⟩, -⟩;rw[HE.out, ←HSN.out]at hf8;have HF8:=qH hf8;clear hf8 HW HE HSN HF4 qa0a qa0b qa1a qa1b qa2a qa2b qa3a qa3b qa4a qa4b qa5a qa5b;go_wp2_with fail
     go_roundw
     case rel=>exact⟨k+1,v8,by omega,by go_num,HF8⟩
     case measure=>simp[intOf];omega
  ·rw[List.take_of_length_le (by omega)]at HFS hlen;have HLEN:=qH (bldLen_any _ v _ wr HFS.out.1);have HSTR:=qH (bldString_any _ v _ wr HFS.out.1);have HBE:Hid (Below w.heap.size w wr):=HBW.out.trans (HFS.out.2.mono hsw);have HRS:Hid (bs (textT (l.map (incF t)))=incS t l):=rfl;generalize textT (l.map (incF t))=L at*;go_wp2_with fail
   refine HLEN.out.mono ?_;rintro e w' ⟨rfl,rfl⟩;have hbig' : ¬((20000:Int)<(L.length:Nat)):=by omega
   clear HLEN;go_wp2_with fail
   refine HSTR.out.mono ?_;rintro e w' ⟨rfl,hb9⟩;have HB9:Hid (Below w.heap.size w w'):=HBE.out.trans (hb9.mono (by have:=HBW.out.size;omega));clear hb9;go_wp2_with fail
   go_ret2
   refine⟨?_,HB9.out⟩;rw[HRS.out];rfl
theorem incFormat_any(t:GTT)(ps:List GPerson)(l:List GInc)(A1 A2 A3 A4 A5:Option Addr)(n1 n2 n3 n4 n5 c1 c2 c3 c4 c5:Nat)(w:World)(ht:t.ok)(hp : ∀ p∈ps,p.ok)(hs1:Sl Ty.zone w (all_ w) A1 n1 c1 t.zones)(hs2:Sl Ty.airport w (all_ w) A2 n2 c2 t.airports)(hs3:Sl Ty.flight w (all_ w) A3 n3 c3 t.flights)(hs4:Sl Ty.person w (all_ w) A4 n4 c4 ps)(hs5:Sl Ty.inc w (all_ w) A5 n5 c5 l)(hpw:Pow10 w) :
 Calls Tryz.prog 24 #[.agg #[.slice A1 n1 c1,.slice A2 n2 c2,.slice A3 n3 c3],.slice A4 n4 c4,.slice A5 n5 c5] w (FmtPost (fmtI t ps l) w):=by
 by_cases hv:incE t ps l=0
 ·rw[fmtI_zero hv];exact incFormat_ok t ps l A1 A2 A3 A4 A5 n1 n2 n3 n4 n5 c1 c2 c3 c4 c5 w ht hp hs1 hs2 hs3 hs4 hs5 hv hpw
 ·unfold fmtI;rw[qR hv];have ha : ∀ o,Below w.heap.size w (w.alloc o):=fun o=>(qC _ _).alloc (qD _) _
  have HV:Hid (∀ o,Calls Tryz.prog 16 #[.agg #[.slice A1 n1 c1,.slice A2 n2 c2,.slice A3 n3 c3],.slice A4 n4 c4,.slice A5 n5 c5] (w.alloc o) (ErrPost (incE t ps l) (w.alloc o))):=fun o=>incValidate_any t ps l A1 A2 A3 A4 A5 n1 n2 n3 n4 n5 c1 c2 c3 c4 c5 (w.alloc o) ht hp (hs1.next (ha o)) (hs2.next (ha o)) (hs3.next (ha o)) (hs4.next (ha o)) (hs5.next (ha o))
  have HB0:=qH (ha (.cells #[.slice A1 n1 c1,.slice A2 n2 c2,.slice A3 n3 c3] 27));generalize incE t ps l=er at*;have hv':(er==0)=false:=by simpa using hv
  clear ha hs1 hs2 hs3 hs4 hs5 ht hp hpw
  go_enter Tryz.func24,Tryz.ntmps24
  go_wp2_with fail
  refine(HV.out _).mono ?_;rintro e w1 ⟨rfl,hb1⟩;have HB1:Hid (Below w.heap.size w w1):=HB0.out.trans (hb1.mono HB0.out.size);clear hb1 HB0 HV;go_wp2_with fail
  go_ret2
  exact⟨rfl,HB1.out⟩
end
end Go.Proofs.YtifconapjfdkcaaGreatDoor
