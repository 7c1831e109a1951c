/-
  Joined texts: DataAt; DataTTMem; ProbMem; DataTT. What each proves stands ahead of it, with its conditions.
-/
import Derived.Test.YtifconapjfdkcaaGreatDoorDAA
import Derived.Test.YtifconapjfdkcaaGreatDoorDAJ
import Derived.BigQuiet
import Derived.Deep.QuietTactic
import Derived.Test.YtifconapjfdkcaaGreatDoorDAK
import Derived.Test.YtifconapjfdkcaaGreatDoorDBB
import Derived.Test.YtifconapjfdkcaaGreatDoorDAT
import Derived.Test.YtifconapjfdkcaaGreatDoorDAY
import Derived.Test.YtifconapjfdkcaaGreatDoorDAO
import Derived.Deep.CutBlock
import Derived.Deep.DeepCutAuto
import Derived.Laws.Tables
set_option linter.unusedSimpArgs false
set_option linter.unusedVariables false
set_option maxRecDepth 100000
set_option maxHeartbeats 12800000
namespace Go.Proofs.YtifconapjfdkcaaGreatDoor
section
open Go.RowKit
theorem dataAt_any(l:List Int)(A:Option Addr)(n c:Nat)(i:Nat)(w:World)(h:Sl (Ty.int .i64) w (all_ w) A n c l)(hi:i≤1000000) :
 Calls Tryz.prog 32 #[.slice A n c,.int .i64 i] w (IntPost (atL l i) w):=by
 have hn1:n≤l.length:=Nat.le_of_eq h.len;have hn2:l.length≤n:=Nat.le_of_eq h.len.symm;have hle:=h.le;unfold maxLen at hle;rcases Nat.eq_zero_or_pos n with rfl|hp
 ·have HR:Hid (atL l i=(i:Int)%65536):=by show _=_;unfold atL;rw[qR (by omega)]
  have HA:=qH (and_ffff (i:Int));clear h
  go_enter Tryz.func32,Tryz.ntmps32
  go_wp2_with fail
  go_ret
  exact⟨ret_int (by rw[HR.out,HA.out]),qC _ _⟩
 ·have HR:Hid (atL l i=l.getD (i%n) 0%65536+((i/n:Nat):Int)):=by
   show _=_;have e:l.length=n:=by omega
   unfold atL;rw[qN (by omega),e]
  have hmod:i%n<n:=Nat.mod_lt _ hp;have hdiv:i/n≤i:=Nat.div_le_self _ _;obtain⟨b,o,rfl,hbS,hc⟩:=h.int_at (k:=i%n) (by omega);have e2:l[i%n]'(by omega)=l.getD (i%n) 0:=by rw[qF,qG (by omega)];rfl
  rw[e2]at hc;clear e2;generalize l.getD (i%n) 0=x at*;have HA:=qH (and_ffff x);have hn0:((n:Int)==0)=false:=by simp;omega
  have hne : ¬(n:Int)=0:=by omega
  have q1:(i:Int)%(n:Int)=((i%n:Nat):Int):=rfl;have q2:(i:Int)/(n:Int)=((i/n:Nat):Int):=rfl;have q1':(i:Int).tmod (n:Int)=((i%n:Nat):Int):=by rw[qQ (by omega)];rfl
  have q2':(i:Int).tdiv (n:Int)=((i/n:Nat):Int):=by rw[Int.tdiv_eq_ediv_of_nonneg (by omega)];rfl
  generalize i%n=r at*;generalize i/n=d at*;have q3:(0:Int)≤(r:Int):=by omega
  have q4:(r:Int)<(n:Int):=by omega
  have q6:bits .and .i64 x 65535=x%65536:=HA.out;have Q2:=qH q2;have HW1:Hid (wrap64 (x%65536+wrap64 ((i:Int)/(n:Int)))=x%65536+(d:Int)):=by
   show _=_;rw[q2,IntWalk.wrap64_in (d:Int) ⟨by omega,by omega⟩,IntWalk.wrap64_in _ ⟨by omega,by omega⟩]
  have HW2:Hid (wrap64 (x%65536+wrap64 (d:Int))=x%65536+(d:Int)):=by
   show _=_;rw[IntWalk.wrap64_in (d:Int) ⟨by omega,by omega⟩,IntWalk.wrap64_in _ ⟨by omega,by omega⟩]
  clear h
  go_enter Tryz.func32,Tryz.ntmps32
  go_wp2_with fail
  go_quiet (fail)
  go_wp2_with fail
  go_ret
  exact⟨ret_int (by first|rw[HR.out]|(rw[HR.out];exact HW1.out)|(rw[HR.out];exact HW2.out)),below_drewN (qC _ _) _⟩
end
section
open Go.RowKit Go
theorem and_low(n:Int)(k:Nat)(hk:k≤62):bits .and .i64 n ((2^k-1:Nat):Int)=n%((2^k:Nat):Int):=by
 show IntKind.i64.wrap ((BitVec.ofInt 64 n &&& BitVec.ofInt 64 ((2^k-1:Nat):Int)).toNat:Int)=_;have hp:2^k≤2^62:=Nat.pow_le_pow_right (by decide) hk;have hp0:0<2^k:=Nat.pow_pos (by decide);have hd : ∃ q,2^64=2^k*q:=⟨2^(64-k),by rw[←Nat.pow_add];congr 1;omega⟩
 have e1:(BitVec.ofInt 64 ((2^k-1:Nat):Int)).toNat=2^k-1:=by
  rw[BitVec.toNat_ofInt];omega
 rw[BitVec.toNat_and,e1,Nat.and_two_pow_sub_one_eq_mod,BitVec.toNat_ofInt,IntKind.wrap_i64];obtain⟨q,hq⟩:=hd;generalize 2^k=p at*;have h1:((n%((2^64:Nat):Int)).toNat%p:Nat)<p:=Nat.mod_lt _ hp0;have h2:(((n%((2^64:Nat):Int)).toNat%p:Nat):Int)=n%(p:Int):=by
  rw[Int.natCast_emod,Int.toNat_of_nonneg (by omega)];rw[hq];exact Int.emod_emod_of_dvd n ⟨(q:Int),by simp⟩
 omega
theorem and1(n:Int):bits .and .i64 n 1=n%2:=and_low n 1 (by decide)
theorem and_3(n:Int):bits .and .i64 n 3=n%4:=and_low n 2 (by decide)
theorem and_7(n:Int):bits .and .i64 n 7=n%8:=and_low n 3 (by decide)
theorem and_15(n:Int):bits .and .i64 n 15=n%16:=and_low n 4 (by decide)
theorem and_63(n:Int):bits .and .i64 n 63=n%64:=and_low n 6 (by decide)
theorem and_127(n:Int):bits .and .i64 n 127=n%128:=and_low n 7 (by decide)
def allocs(w:World):List Obj→World
 | []=>w
 | o::os=>allocs (w.alloc o) os
theorem allocs_size : ∀ (os:List Obj) (w:World),(allocs w os).heap.size=w.heap.size+os.length
 | [],w=>rfl
 | o::os,w=>by rw[allocs,allocs_size os];simp;omega
theorem allocs_below : ∀ (os:List Obj) (w:World) (n:Nat),n≤w.heap.size→Below n w (allocs w os)
 | [],w,n,h=>qC _ _
 | o::os,w,n,h=>by
  have h1:=(qC n w).alloc h o;exact h1.trans (allocs_below os (w.alloc o) n (by simp;omega))
theorem allocs_at : ∀ (os:List Obj) (w:World) (i:Nat) (o:Obj),os[i]? = some o→(allocs w os).heap[w.heap.size+i]? = some o
 | [],w,i,o,h=>by simp at h
 | a::os,w,0,o,h=>by
  injection h with h
  subst h;have:=(allocs_below os (w.alloc a) (w.alloc a).heap.size (qD _)).block w.heap.size (by simp);exact this.trans (qK _ _)
 | a::os,w,i+1,o,h=>by
  have:=allocs_at os (w.alloc a) i o h;rw[show(w.alloc a).heap.size+i=w.heap.size+(i+1) by simp;omega]at this;exact this
def dRow(r:Nat):Array Value := #[.string (dCode (dFrom r)),.string (dCode (dTo r))]
def dObjs(H:Nat):List Obj:=[.cells #[.slice none 0 0,.slice none 0 0,.slice none 0 0] 27,
 .cells #[.int .i64 12961060,.int .i64 60] 122,
 .cells #[.string utcS,.int .i64 0,.slice none 0 0,.string eastS,.int .i64 120,.slice (some ⟨H+1,0,none⟩) 1 1] 98,
 .cells #[.slice (some ⟨H+1+1,0,none⟩) 2 2,.slice (some ⟨H+1+1+1+1,0,none⟩) 3 3,.slice none 0 0] 27,
 .cells #[.string (dCode 0),.string utcS,.string (dCode 1),.string utcS,.string (dCode 2),.string eastS] 101,
 .cells (dRow 0) 9,.cells (dRow 1) 9,.cells (dRow 2) 9,.cells (dRow 3) 9,.cells (dRow 4) 9,.cells (dRow 5) 9,
 .cells #[.slice (some ⟨H+1+1+1+1+1,0,none⟩) 2 2,.slice (some ⟨H+1+1+1+1+1+1,0,none⟩) 2 2,.slice (some ⟨H+1+1+1+1+1+1+1,0,none⟩) 2 2,.slice (some ⟨H+1+1+1+1+1+1+1+1,0,none⟩) 2 2,
  .slice (some ⟨H+1+1+1+1+1+1+1+1+1,0,none⟩) 2 2,.slice (some ⟨H+1+1+1+1+1+1+1+1+1+1,0,none⟩) 2 2] 36]
def dInit(w:World):World:=allocs w (dObjs w.heap.size)
theorem dInit_size(w:World):(dInit w).heap.size=w.heap.size+12:=allocs_size _ _
theorem dInit_below(w:World):Below w.heap.size w (dInit w):=allocs_below _ _ _ (qD _)
theorem dInit_at(w:World)(i:Nat)(o:Obj)(h:(dObjs w.heap.size)[i]? = some o):(dInit w).heap[w.heap.size+i]? = some o:=allocs_at _ _ _ _ h
theorem dInit_zones(w:World):Sl Ty.zone (dInit w) (fun b=>w.heap.size<b∧b<w.heap.size+3) (some ⟨w.heap.size+2,0,none⟩) 2 2 dZones:=by
 refine Sl.block (xs:=dZones) (dInit_at w 2 _ rfl) (by omega) (by decide) fun i x hi =>?_
 have:i=0∨i=1:=by
  have:=(List.getElem?_eq_some_iff.1 hi).1;have:i<2:=this;omega
 rcases this with rfl|rfl
 ·injection hi with hi
  subst hi;exact⟨none,0,0,rfl,Sl.nil0⟩
 ·injection hi with hi
  subst hi;refine⟨some ⟨w.heap.size+1,0,none⟩,1,1,rfl, ?_⟩;refine Sl.block (xs:=[(⟨12961060,60⟩:GShift)]) (dInit_at w 1 _ rfl) (by omega) (by decide) fun i x hi =>?_
  have:i=0:=by
   have:=(List.getElem?_eq_some_iff.1 hi).1;have:i<1:=this;omega
  subst this;injection hi with hi
  subst hi;rfl
theorem dInit_airports(w:World):Sl Ty.airport (dInit w) (fun b=>b=w.heap.size+4) (some ⟨w.heap.size+4,0,none⟩) 3 3 dAirports:=by
 refine Sl.block (xs:=dAirports) (dInit_at w 4 _ rfl) rfl (by decide) fun i x hi =>?_
 have:i=0∨i=1∨i=2:=by
  have:=(List.getElem?_eq_some_iff.1 hi).1;have:i<3:=this;omega
 rcases this with rfl|rfl|rfl
 all_goals
  injection hi with hi
  subst hi;rfl
theorem dInit_route(w:World)(r:Nat)(hr:r<6):(dInit w).cell? ⟨w.heap.size+11,r,none⟩=some (.slice (some ⟨w.heap.size+5+r,0,none⟩) 2 2)∧(dInit w).heap[w.heap.size+5+r]? = some (.cells (dRow r) 9 (0,0)):=by
 have:r=0∨r=1∨r=2∨r=3∨r=4∨r=5:=by omega
 have hb:=dInit_at w 11 _ rfl;rcases this with rfl|rfl|rfl|rfl|rfl|rfl
 ·exact⟨block_cell hb 0,dInit_at w 5 _ rfl⟩
 ·exact⟨block_cell hb 1,dInit_at w 6 _ rfl⟩
 ·exact⟨block_cell hb 2,dInit_at w 7 _ rfl⟩
 ·exact⟨block_cell hb 3,dInit_at w 8 _ rfl⟩
 ·exact⟨block_cell hb 4,dInit_at w 9 _ rfl⟩
 ·exact⟨block_cell hb 5,dInit_at w 10 _ rfl⟩
structure DT(w wr:World)(v:Value)(xs:List GFlight):Prop where
 keep:Kx (fun q=>q=w.heap.size+3) (w.heap.size+12) (dInit w) wr
 box:wr.heap[w.heap.size+3]? = some (.cells #[.slice (some ⟨w.heap.size+2,0,none⟩) 2 2,.slice (some ⟨w.heap.size+4,0,none⟩) 3 3,v] 27 (0,0))
 own:Own Ty.flight 62 wr (w.heap.size+12) v xs
section
variable {w wr w7 w8:World} {v v':Value} {xs ys:List GFlight}
theorem DT.start(w:World):DT w (dInit w) (.slice none 0 0) []:=⟨Kx.refl _ _ _,dInit_at w 3 _ rfl,Own.nil⟩
theorem DT.size(h:DT w wr v xs):w.heap.size+12≤wr.heap.size:=by have:=h.keep.size;rw[dInit_size]at this;exact this
theorem DT.next(h:DT w wr v xs)(hb:Below wr.heap.size wr w7):DT w w7 v xs :=
 ⟨h.keep.trans (Kx.of_below hb h.size),(hb.block _ (by have:=h.size;omega)).trans h.box,h.own.next hb⟩
theorem DT.below(h:DT w wr v xs):Below w.heap.size w wr:=(dInit_below w).trans (h.keep.below (by omega) fun q hq=>by omega)
theorem DT.old(h:DT w wr v xs){q:Nat}(h1:q<w.heap.size+12)(h2:q≠w.heap.size+3):wr.heap[q]? = (dInit w).heap[q]? :=h.keep.block q h1 h2
theorem DT.route(h:DT w wr v xs)(r:Nat)(hr:r<6):wr.cell? ⟨w.heap.size+11,r,none⟩=some (.slice (some ⟨w.heap.size+5+r,0,none⟩) 2 2)∧wr.cell? ⟨w.heap.size+5+r,0,none⟩=some (.string (dCode (dFrom r)))∧wr.cell? ⟨w.heap.size+5+r,1,none⟩=some (.string (dCode (dTo r))):=by
 obtain⟨h1,h2⟩:=dInit_route w r hr;have h3:=(h.old (q:=w.heap.size+5+r) (by omega) (by omega)).trans h2;exact⟨(cell_of_same (a:=⟨w.heap.size+11,r,none⟩) (h.old (by show w.heap.size+11<_;omega) (by show w.heap.size+11≠_;omega))).trans h1,block_cell h3 0,block_cell h3 1⟩
theorem DT.box8(h:DT w wr v xs)(hg:wr.grownBy w8 v.ownBlock):w8.heap[w.heap.size+3]? = some (.cells #[.slice (some ⟨w.heap.size+2,0,none⟩) 2 2,.slice (some ⟨w.heap.size+4,0,none⟩) 3 3,v] 27 (0,0)) :=
 (hg.block _ (by have:=h.size;omega) (fun e=>by have:=(h.own.lt _ e.symm).1;omega)).trans h.box
theorem DT.push(h:DT w wr v xs)(hg:wr.grownBy w8 v.ownBlock)(hown:Own Ty.flight 62 w8 (w.heap.size+12) v' ys):DT w (w8.setCell ⟨w.heap.size+3,2,none⟩ v') v' ys:=by
 have hs:=h.size;have hk : ∀ q,q≠w.heap.size+3→(w8.setCell ⟨w.heap.size+3,2,none⟩ v').heap[q]? = w8.heap[q]? :=fun q hq=>qO _ _ _ _ hq
 refine⟨(h.keep.grown hg (fun k hk => .inl (h.own.lt k hk).1) hs).set (.inr rfl) _ _, ?_,hown.flatC flat_flight fun q hq=>hk q (by have:=(hown.lt q hq).1;omega)⟩;have:=qS w8 (w.heap.size+3) 2 _ _ v' (h.box8 hg);rw[this];rfl
end
end
section
open Go.RowKit Go
def ProbIs(w:World)(S:Nat→Prop)(cells:List Value)(t:GTT):Prop :=
 ∃ v cs A1 n1 c1 A2 n2 c2 bs os h p,cells=v++(cs++[.slice A1 n1 c1,.slice A2 n2 c2,.int .i64 h,.int .i64 p])∧TTIs w S v t∧ConCells cs∧Sl Ty.str w S A1 n1 c1 bs∧Sl (Ty.int .i64) w S A2 n2 c2 os∧0<os.length∧os.length≤5∧bs.length≤2
def ProbPost(t:GTT)(w:World)(e:Ending)(w':World):Prop := ∃ cells,e=.returned (.agg cells.toArray)∧ProbIs w' (all_ w') cells t∧Below w.heap.size w w'
theorem list14{cs:List Value}(h:cs.length=14) : ∃ k0 k1 k2 k3 k4 k5 k6 k7 k8 k9 k10 k11 k12 k13,cs=[k0,k1,k2,k3,k4,k5,k6,k7,k8,k9,k10,k11,k12,k13]:=by
 match cs,h with
 | [k0,k1,k2,k3,k4,k5,k6,k7,k8,k9,k10,k11,k12,k13],_=>exact⟨k0,k1,k2,k3,k4,k5,k6,k7,k8,k9,k10,k11,k12,k13,rfl⟩
theorem need_any(a b c a' b' c':Int)(d:Nat)(w:World):(Op.equalIn (d+1+1) 60 (.agg #[.int .i64 a,.int .i64 b,.int .i64 c]) (.agg #[.int .i64 a',.int .i64 b',.int .i64 c'])).run Tryz.prog w=.ok (decide (a=a')&&(decide (b=b')&&decide (c=c'))) w:=by
 rw[run_equalIn_array (P:=Tryz.prog) w (d+1) (t:=60) (e:=3) (n:=3) (i:=(Tryz.prog.info? 3).get (by kernel_rfl)) _ _ Tryz.underlying60 (by kernel_rfl)];have hc:Tryz.prog.cellsOf 3=1:=by kernel_rfl
 have h1 : ∀ x y:Int,(Op.equalIn (d+1) 3 (.int .i64 x) (.int .i64 y)).run Tryz.prog w=.ok (decide (x=y)) w:=fun x y=>by
  rw[run_equalIn_int w d _ _ .i64 _ _ Tryz.underlying3]
  by_cases h:x=y <;> simp[h]
 have e:List.range 3=[0,1,2]:=rfl;rw[hc,e];have p0 : ∀ u v x:Int,(part 3 #[.int .i64 u,.int .i64 v,.int .i64 x] 0).run Tryz.prog w=.ok (.int .i64 u) w:=fun _ _ _=>by kernel_rfl
 have p1 : ∀ u v x:Int,(part 3 #[.int .i64 u,.int .i64 v,.int .i64 x] 1).run Tryz.prog w=.ok (.int .i64 v) w:=fun _ _ _=>by kernel_rfl
 have p2 : ∀ u v x:Int,(part 3 #[.int .i64 u,.int .i64 v,.int .i64 x] 2).run Tryz.prog w=.ok (.int .i64 x) w:=fun _ _ _=>by kernel_rfl
 by_cases ha:a=a' <;> by_cases hb:b=b' <;> by_cases hcc:c=c' <;>
  simp[Op.eqItems,Sem.run_bind,p0,p1,p2,h1,Result.andThen_ok,Sem.run_pure,ha,hb,hcc]
def zProb:Array Value := #[.slice none 0 0,.slice none 0 0,.slice none 0 0,.int .i64 0,.int .i64 0,.int .i64 0,.int .i64 0,.int .i64 0,.int .i64 0,.int .i64 0,.slice none 0 0,.slice none 0 0,.slice none 0 0,.slice none 0 0,.slice none 0 0,.slice none 0 0,.int .i64 0,.slice none 0 0,.slice none 0 0,.int .i64 0,.int .i64 0]
def PRow(v cs:List Value)(b o:Value)(h p:Int):Array Value:=(v++(cs++[b,o,.int .i64 h,.int .i64 p])).toArray
theorem PRow_set17{v cs:List Value}{b b' o:Value}{h p:Int}(hv:v.length=3)(hc:cs.length=14):(PRow v cs b o h p).setIfInBounds 17 b'=PRow v cs b' o h p:=by
 obtain⟨k0,k1,k2,k3,k4,k5,k6,k7,k8,k9,k10,k11,k12,k13,rfl⟩:=list14 hc
 match v,hv with
 | [a,b,c],_=>rfl
theorem PRow_set18{v cs:List Value}{b o' o:Value}{h p:Int}(hv:v.length=3)(hc:cs.length=14):(PRow v cs b o h p).setIfInBounds 18 o'=PRow v cs b o' h p:=by
 obtain⟨k0,k1,k2,k3,k4,k5,k6,k7,k8,k9,k10,k11,k12,k13,rfl⟩:=list14 hc
 match v,hv with
 | [a,b,c],_=>rfl
theorem PRow_set19{v cs:List Value}{b o:Value}{h h' p:Int}(hv:v.length=3)(hc:cs.length=14):(PRow v cs b o h p).setIfInBounds 19 (.int .i64 h')=PRow v cs b o h' p:=by
 obtain⟨k0,k1,k2,k3,k4,k5,k6,k7,k8,k9,k10,k11,k12,k13,rfl⟩:=list14 hc
 match v,hv with
 | [a,b,c],_=>rfl
theorem TTIs.fl{w:World}{S:Nat→Prop}{A1 A2 A3:Option Addr}{n1 n2 n3 c1 c2 c3:Nat}{t:GTT}(h:TTIs w S [.slice A1 n1 c1,.slice A2 n2 c2,.slice A3 n3 c3] t):Sl Ty.zone w S A1 n1 c1 t.zones∧Sl Ty.airport w S A2 n2 c2 t.airports∧Sl Ty.flight w S A3 n3 c3 t.flights:=by
 obtain⟨B1,m1,d1,B2,m2,d2,B3,m3,d3,e,h1,h2,h3⟩:=h;injection e with e1 e
 injection e with e2 e
 injection e with e3 e
 injection e1 with a1 a2 a3
 injection e2 with b1 b2 b3
 injection e3 with f1 f2 f3
 subst a1 a2 a3 b1 b2 b3 f1 f2 f3;exact⟨h1,h2,h3⟩
structure PL(t:GTT)(w wr:World)(P B:Nat)(v cs:List Value)(bv ov:Value)(h p:Int)(os:List Int):Prop where
 res:wr.heap[w.heap.size]? = some (.cells zProb 38 (0,0))
 box:wr.heap[P]? = some (.cells (PRow v cs bv ov h p) 38 (0,0))
 lt:w.heap.size<P∧P<B∧B≤wr.heap.size
 tt:TTIs wr (fun b=>w.heap.size<b∧b<P) v t
 con:ConCells cs
 bs : ∃ A n c l,bv=.slice A n c∧Sl Ty.str wr (fun b=>w.heap.size<b∧b<B∧b≠P) A n c l∧l.length≤2
 own:Own (Ty.int .i64) 3 wr B ov os
 bel:Below w.heap.size w wr
section
variable {t:GTT} {w wr w':World} {P B:Nat} {v cs:List Value} {bv ov ov':Value} {h p:Int} {os os':List Int}
theorem PL.v3(hp:PL t w wr P B v cs bv ov h p os):v.length=3:=by
 obtain⟨_,_,_,_,_,_,_,_,_,rfl,_⟩:=hp.tt;rfl
theorem PL.next(hp:PL t w wr P B v cs bv ov h p os)(hb:Below wr.heap.size wr w'):PL t w w' P B v cs bv ov h p os:=by
 have h2:=hp.lt;have h3:=hb.size;obtain⟨A,n,c,l,e,hs,hl⟩:=hp.bs;exact⟨(hb.block _ (by omega)).trans hp.res,(hb.block _ (by omega)).trans hp.box,by omega,hp.tt.keep fun b hb'=>hb.block b (by omega),hp.con,
  ⟨A,n,c,l,e,hs.keep fun b hb'=>hb.block b (by omega),hl⟩,hp.own.next hb,hp.bel.trans (hb.mono hp.bel.size)⟩
theorem PL.raise(hp:PL t w wr P B v cs bv (.slice none 0 0) h p []){B':Nat}(h1:B≤B')(h2:B'≤wr.heap.size):PL t w wr P B' v cs bv (.slice none 0 0) h p []:=by
 obtain⟨A,n,c,l,e,hs,hl⟩:=hp.bs;have h3:=hp.lt;exact⟨hp.res,hp.box,by omega,hp.tt,hp.con,⟨A,n,c,l,e,hs.more fun b hb=>by omega,hl⟩,Own.nil,hp.bel⟩
theorem PL.setB(hp:PL t w wr P B v cs bv ov h p os){A:Option Addr}{n c:Nat}{l:List ByteArray}(hs:Sl Ty.str wr (fun b=>w.heap.size<b∧b<B∧b≠P) A n c l)(hl:l.length≤2):PL t w (wr.setCell ⟨P,17,none⟩ (.slice A n c)) P B v cs (.slice A n c) ov h p os:=by
 have h2:=hp.lt;have hk : ∀ q,q≠P→(wr.setCell ⟨P,17,none⟩ (.slice A n c)).heap[q]? = wr.heap[q]? :=fun q hq=>qO _ _ _ _ hq
 refine⟨(hk _ (by omega)).trans hp.res, ?_,by simp;omega,hp.tt.keep fun b hb'=>hk b (by omega),hp.con,⟨A,n,c,l,rfl,hs.keep fun b hb'=>hk b hb'.2.2,hl⟩,hp.own.flatC (fun h=>h) fun q hq=>hk q (by have:=(hp.own.lt q hq).1;omega),hp.bel.setCell (show w.heap.size≤P by omega) _⟩;rw[←PRow_set17 hp.v3 hp.con.1 (b:=bv)];exact qS _ _ _ _ _ _ hp.box
theorem PL.setH(hp:PL t w wr P B v cs bv ov h p os)(h':Int):PL t w (wr.setCell ⟨P,19,none⟩ (.int .i64 h')) P B v cs bv ov h' p os:=by
 have h2:=hp.lt;have hk : ∀ q,q≠P→(wr.setCell ⟨P,19,none⟩ (.int .i64 h')).heap[q]? = wr.heap[q]? :=fun q hq=>qO _ _ _ _ hq
 obtain⟨A,n,c,l,e,hs,hl⟩:=hp.bs;refine⟨(hk _ (by omega)).trans hp.res, ?_,by simp;omega,hp.tt.keep fun b hb'=>hk b (by omega),hp.con,⟨A,n,c,l,e,hs.keep fun b hb'=>hk b hb'.2.2,hl⟩,hp.own.flatC (fun h=>h) fun q hq=>hk q (by have:=(hp.own.lt q hq).1;omega),hp.bel.setCell (show w.heap.size≤P by omega) _⟩;rw[←PRow_set19 hp.v3 hp.con.1 (h:=h)];exact qS _ _ _ _ _ _ hp.box
theorem PL.box8(hp:PL t w wr P B v cs bv ov h p os)(hg:wr.grownBy w' ov.ownBlock):w'.heap[P]? = some (.cells (PRow v cs bv ov h p) 38 (0,0)):=by
 have:=hp.lt;exact(hg.block _ (by omega) (fun e=>by have:=(hp.own.lt _ e.symm).1;omega)).trans hp.box
theorem PL.push(hp:PL t w wr P B v cs bv ov h p os)(hg:wr.grownBy w' ov.ownBlock)(hown:Own (Ty.int .i64) 3 w' B ov' os'):PL t w (w'.setCell ⟨P,18,none⟩ ov') P B v cs bv ov' h p os':=by
 have h2:=hp.lt;have h3:=hg.size;have hk : ∀ q,q≠P→(w'.setCell ⟨P,18,none⟩ ov').heap[q]? = w'.heap[q]? :=fun q hq=>qO _ _ _ _ hq
 have hk2 : ∀ q,q<B→q≠P→(w'.setCell ⟨P,18,none⟩ ov').heap[q]? = wr.heap[q]? :=fun q hq h=>(hk q h).trans (hg.block q (by omega) fun e=>by have:=(hp.own.lt _ e.symm).1;omega)
 obtain⟨A,n,c,l,e,hs,hl⟩:=hp.bs;have hbel:Below w.heap.size w w':=hp.bel.grown hg (by omega) fun j hj=>by have:=(hp.own.lt j hj).1;omega
 refine⟨(hk2 _ (by omega) (by omega)).trans hp.res, ?_,by simp;omega,hp.tt.keep fun b hb'=>hk2 b (by omega) (by omega),hp.con,⟨A,n,c,l,e,hs.keep fun b hb'=>hk2 b (by omega) hb'.2.2,hl⟩,hown.flatC (fun h=>h) fun q hq=>hk q (by have:=(hown.lt q hq).1;omega),hbel.setCell (show w.heap.size≤P by omega) _⟩;rw[←PRow_set18 hp.v3 hp.con.1 (o:=ov)];exact qS _ _ _ _ _ _ (hp.box8 hg)
theorem PL.done(hp:PL t w wr P B v cs bv ov h p os)(h0:0<os.length)(h5:os.length≤5):ProbIs (wr.setRow w.heap.size (PRow v cs bv ov h p)) (all_ (wr.setRow w.heap.size (PRow v cs bv ov h p))) (v++(cs++[bv,ov,.int .i64 h,.int .i64 p])) t:=by
 have h2:=hp.lt;have hs2:(wr.setRow w.heap.size (PRow v cs bv ov h p)).heap.size=wr.heap.size:=by simp
 have hk : ∀ q,w.heap.size<q→(wr.setRow w.heap.size (PRow v cs bv ov h p)).heap[q]? = wr.heap[q]? :=fun q hq=>setRow_other _ _ _ _ (by omega)
 obtain⟨A,n,c,l,e,hs,hl⟩:=hp.bs;obtain⟨A2,c2,e2,hs2'⟩:=hp.own.sl;refine⟨v,cs,A,n,c,A2,_,c2,l,os,h,p,by rw[e,e2],(hp.tt.keep fun b hb=>hk b hb.1).more fun b hb =>?_,hp.con,(hs.keep fun b hb=>hk b hb.1).more fun b hb =>?_,(hs2'.keep fun b hb=>hk b (by omega)).more fun b hb =>?_,h0,h5,hl⟩
 all_goals
  show b<_;rw[hs2];omega
end
end
section
open Go.RowKit
theorem below_setRowD{n:Nat}{w w':World}{b:Nat}{cs:Array Value}(h:Below n w w')(hb:n≤b):Below n w (w'.setRow b cs) :=
 ⟨h.os,h.tape,h.output,by simpa using h.size,fun q hq=>(setRow_other _ _ _ _ (by omega)).trans (h.block q hq)⟩
theorem at_ofBlock{w:World}{g:Nat}{cs:List Value}{T:TypeId}(h:w.heap[g]? = some (.cells cs.toArray T (0,0))):At w g 0 cs:=fun j u hu=>by
 rw[block_cell h,Nat.zero_add];simpa using hu
theorem gap_cell(q:Nat)(hq:q<8)(V:World):(V.alloc (.cells #[.int .i64 75,.int .i64 100,.int .i64 130,.int .i64 240,.int .i64 60,.int .i64 700,.int .i64 95,.int .i64 110] 3)).cell? ⟨V.heap.size,q,none⟩=some (.int .i64 (dGaps.getD q 0)):=by
 have h:=qK V (.cells #[.int .i64 75,.int .i64 100,.int .i64 130,.int .i64 240,.int .i64 60,.int .i64 700,.int .i64 95,.int .i64 110] 3);have:q=0∨q=1∨q=2∨q=3∨q=4∨q=5∨q=6∨q=7:=by omega
 rcases this with rfl|rfl|rfl|rfl|rfl|rfl|rfl|rfl
 all_goals exact block_cell h _
theorem dNum_cell(k:Nat)(hk:k<9)(V:World)(g:Nat)(h:V.heap[g]? = some (.cells #[.string ⟨#[70,48]⟩,.string ⟨#[70,49]⟩,.string ⟨#[70,50]⟩,.string ⟨#[70,51]⟩,.string ⟨#[70,52]⟩,.string ⟨#[70,53]⟩,.string ⟨#[70,54]⟩,.string ⟨#[70,55]⟩,.string ⟨#[70,56]⟩] 9 (0,0))):V.cell? ⟨g,k,none⟩=some (.string (dNum k)):=by
 have:k=0∨k=1∨k=2∨k=3∨k=4∨k=5∨k=6∨k=7∨k=8:=by omega
 rcases this with rfl|rfl|rfl|rfl|rfl|rfl|rfl|rfl|rfl
 all_goals exact block_cell h _
theorem dataTT_any(l:List Int)(A:Option Addr)(n c m:Nat)(w:World)(h:Sl (Ty.int .i64) w (all_ w) A n c l)(hm:m≤9) :
 Calls Tryz.prog 33 #[.slice A n c,.int .i64 m] w (fun e w' => ∃ v,e=.returned (.agg v.toArray)∧TTIs w' (fun b=>w.heap.size<b∧b<w'.heap.size) v (dTT l m)∧Below w.heap.size w w'):=by
 have HS:Hid (∀ V,Below w.heap.size w V→Sl (Ty.int .i64) V (all_ V) A n c l):=fun V hV=>h.next hV
 clear h
 go_enter Tryz.func33,Tryz.ntmps33
 go_wp2_with fail
 go_loopw [6,8] (fun s6 s8 wr => ∃ (k:Nat) (v:Value),k≤m∧s8=.int .i64 k∧s6=.int .i64 (dSt l k).1∧DT w wr v (dSt l k).2) (fun _ s8 _=>m-(intOf s8).toNat)
 case atStart=>exact⟨0,.slice none 0 0,qV _,rfl,rfl,DT.start w⟩
 case round =>
  obtain⟨k,v,hk,rfl,rfl,hdt⟩:=hrel;have hclk:=dSt_range l k;have HLN:Hid ((dSt l k).2.length=k):=hclk.2.2;have hc1:=hclk.1;have hc2:=hclk.2.1;clear hclk
  by_cases hlt:k<m
  ·have HSU:Hid ((dSt l (k+1)).1=dClock (atL l k) (dSt l k).1∧(dSt l (k+1)).2=(dSt l k).2++[dFlight (atL l k) (dSt l k).1 k]):=⟨rfl,rfl⟩
   have hat:=atL_range l k;have HSL:=qH (HS.out wr hdt.below);have HAT:=qH (dataAt_any l A n c k wr HSL.out (by omega));have HDT0:=qH hdt;clear hdt HSL;generalize (dSt l k).1=ck at*;generalize (dSt l k).2=fs at*;generalize hc2e:(dSt l (k+1)).1=ck2 at*;generalize hf2e:(dSt l (k+1)).2=fs2 at*;have HC2:=qH hc2e;have HF2:=qH hf2e;clear hc2e hf2e;generalize atL l k=a at*;go_upto_region 8 with (fail)
   go_upto_region 9 with (go_at_call 32;refine HAT.out.mono ?_;rintro e wk ⟨rfl,hbk⟩)
   have HDT:=qH (HDT0.out.next hbk);clear HAT HDT0 hbk;have hA1:=and1 (k:Int);have hA7:=and_7 a;go_upto_block 2 with (fail)
   go_cut [10] (fun s wx=>s=.int .i64 ((dRoute a k:Nat):Int)∧wx=wk)
   case first =>
    have HR:Hid (∀ n:Int,n=((dRoute a k:Nat):Int)→Value.int .i64 n=.int .i64 ((dRoute a k:Nat):Int)):=fun n e=>by rw[e]
    have q1:IntKind.i64.wrap (2+(k:Int)%2)=2+(k:Int)%2:=qM _ (by omega);have q2:IntKind.i64.wrap (3-(k:Int)%2)=3-(k:Int)%2:=qM _ (by omega);have q3:(a/8).tmod 6=a/8%6:=qQ (by omega);have q4:IntKind.i64.wrap (a/8%6)=a/8%6:=qM _ (by omega);have q5:IntKind.i64.wrap (a/8)=a/8:=qM _ (by omega)
    by_cases h5:a%8=5
    ·have HV:Hid (2+(k:Int)%2=((dRoute a k:Nat):Int)):=by show _=_;unfold dRoute;rw[qR h5];omega
     go_wp2_with fail
     go_meet
     exact⟨HR.out _ HV.out,rfl⟩
    by_cases h6:a%8=6
    ·have HV:Hid (3-(k:Int)%2=((dRoute a k:Nat):Int)):=by show _=_;unfold dRoute;rw[qN h5,qR h6];omega
     clear h5;go_wp2_with fail
     go_meet
     exact⟨HR.out _ HV.out,rfl⟩
    by_cases h7:a%8=7
    ·have HV:Hid (a/8%6=((dRoute a k:Nat):Int)):=by show _=_;unfold dRoute;rw[qN h5,qN h6,qR h7];omega
     clear h5 h6;go_wp2_with fail
     go_meet
     exact⟨HR.out _ HV.out,rfl⟩
    ·have HV:Hid ((k:Int)%2=((dRoute a k:Nat):Int)):=by show _=_;unfold dRoute;rw[qN h5,qN h6,qN h7];omega
     have g5:(a%8==5)=false:=by simpa using h5
     have g6:(a%8==6)=false:=by simpa using h6
     have g7:(a%8==7)=false:=by simpa using h7
     clear h5 h6 h7;go_wp2_with fail
     go_meet
     exact⟨HR.out _ HV.out,rfl⟩
   case rest =>
   obtain⟨rfl,rfl⟩:=hcut;have hr:=dRoute_lt a k;obtain⟨r,hre⟩ : ∃ r,dRoute a k=r:=⟨_,rfl⟩
   have HRR:=qH hre;rw[hre]at hr;rw[hre];clear hre;obtain⟨q,hq⟩ : ∃ q:Nat,a/256%8=(q:Int):=⟨(a/256%8).toNat,by omega⟩
   have hqr:q<8:=by omega
   have hgr:=dGaps_range q hqr;have HQA:Hid (bits .and .i64 (a/256) 7=(q:Int)):=by show _=_;rw[and_7,hq]
   have HQW:Hid (IntKind.i64.wrap (ck+dGaps.getD q 0)=ck+dGaps.getD q 0):=qM _ (by omega);have HCK:Hid (Value.int .i64 (ck+dGaps.getD q 0)=.int .i64 ck2):=by
    show _=_;rw[HSU.out.1];unfold dClock;rw[hq];rfl
   clear hq hgr;have HGP:Hid (∀ V:World,_):=gap_cell q hqr;generalize dGaps.getD q 0=gp at*;have HRT:=qH (HDT.out.route r hr);have HK9:Hid ((k:Int).tmod 9=(k:Int)):=by show _=_;rw[qQ (by omega)];omega
   have HNUM:Hid (∀ (V:World) (g:Nat),V.heap[g]? = some (.cells #[.string ⟨#[70,48]⟩,.string ⟨#[70,49]⟩,.string ⟨#[70,50]⟩,.string ⟨#[70,51]⟩,.string ⟨#[70,52]⟩,.string ⟨#[70,53]⟩,.string ⟨#[70,54]⟩,.string ⟨#[70,55]⟩,.string ⟨#[70,56]⟩] 9 (0,0))→V.cell? ⟨g,k,none⟩=some (.string (dNum k))):=fun V g h=>dNum_cell k (by omega) V g h
   have HQ19:Hid (IntKind.i64.wrap (ck+60)=ck+60):=qM _ (by omega);have HQ22:=qH (and1 (a/64));have HQ23:Hid (IntKind.i64.wrap (30*(a/64%2))=30*(a/64%2)):=qM _ (by omega);have HQ24:Hid (IntKind.i64.wrap (ck+60+30*(a/64%2))=ck+60+30*(a/64%2)):=qM _ (by omega);go_upto_region 17 with (fail)
   refine wp_region_factsB 28 [57,58,59,60,61,62,63,64,65,66,67,68,69,70,71,72,73,74,75,76,77,78,79,80,81,82,83,11] (fun i v x=>(([(fun v x => ∃ g,v=.slice (some ⟨g,0,none⟩) 9 9∧x.heap[g]? = some (.cells #[.string ⟨#[70,48]⟩,.string ⟨#[70,49]⟩,.string ⟨#[70,50]⟩,.string ⟨#[70,51]⟩,.string ⟨#[70,52]⟩,.string ⟨#[70,53]⟩,.string ⟨#[70,54]⟩,.string ⟨#[70,55]⟩,.string ⟨#[70,56]⟩] 9 (0,0))),(fun v x=>v=.int .i64 k),(fun v x=>v=.int .i64 k),(fun v x => ∃ g,v=.pointer (some ⟨g,k,none⟩)∧x.cell? ⟨g,k,none⟩=some (.string (dNum k))),(fun v x=>v=.string (dNum k)),(fun v x=>v=.slice (some ⟨w.heap.size+1+1+1+1+1+1+1+1+1+1+1,0,none⟩) 6 6),(fun v x=>v=.int .i64 r),(fun v x=>v=.pointer (some ⟨w.heap.size+11,r,none⟩)),(fun v x=>v=.slice (some ⟨w.heap.size+5+r,0,none⟩) 2 2),(fun v x=>v=.pointer (some ⟨w.heap.size+5+r,0,none⟩)),(fun v x=>v=.string (dCode (dFrom r))),(fun v x=>v=.slice (some ⟨w.heap.size+1+1+1+1+1+1+1+1+1+1+1,0,none⟩) 6 6),(fun v x=>v=.int .i64 r),(fun v x=>v=.pointer (some ⟨w.heap.size+11,r,none⟩)),(fun v x=>v=.slice (some ⟨w.heap.size+5+r,0,none⟩) 2 2),(fun v x=>v=.pointer (some ⟨w.heap.size+5+r,1,none⟩)),(fun v x=>v=.string (dCode (dTo r))),(fun v x=>v=.int .i64 ck),(fun v x=>v=.int .i64 ck),(fun v x=>v=.int .i64 (ck+60)),(fun v x=>v=.int .i64 a),(fun v x=>v=.int .i64 (a/64)),(fun v x=>v=.int .i64 (a/64%2)),(fun v x=>v=.int .i64 (30*(a/64%2))),(fun v x=>v=.int .i64 (ck+60+30*(a/64%2))),(fun v x=>v=.agg #[.int .i64 1,.int .i64 1,.int .i64 0]),(fun v x=>v=.agg #[.string (dNum k),.string (dCode (dFrom r)),.string (dCode (dTo r)),.int .i64 ck,.int .i64 (ck+60+30*(a/64%2)),.string ⟨#[98,55,51,55]⟩,.int .i64 1,.int .i64 1,.int .i64 0]),(fun v x => ∃ g,v=.pointer (some ⟨g,0,none⟩)∧wc.heap.size≤g∧x.heap[g]? = some (.cells #[.string ⟨#[]⟩,.string ⟨#[]⟩,.string ⟨#[]⟩,.int .i64 0,.int .i64 0,.string ⟨#[]⟩,.int .i64 0,.int .i64 0,.int .i64 0] 62 (0,0)))]:List (Value→World→Prop)).getD i (fun _ _=>True)) v x) (by kernel_rfl) (by kernel_rfl) (by kernel_rfl) (by kernel_rfl) (by kernel_rfl) ?_ ?_ ?_
   ·intro i v x x' h hx;rcases Nat.lt_or_ge i 28 with hi|hi
    ·have hi':i=0∨i=1∨i=2∨i=3∨i=4∨i=5∨i=6∨i=7∨i=8∨i=9∨i=10∨i=11∨i=12∨i=13∨i=14∨i=15∨i=16∨i=17∨i=18∨i=19∨i=20∨i=21∨i=22∨i=23∨i=24∨i=25∨i=26∨i=27:=by omega
     rcases hi' with rfl|rfl|rfl|rfl|rfl|rfl|rfl|rfl|rfl|rfl|rfl|rfl|rfl|rfl|rfl|rfl|rfl|rfl|rfl|rfl|rfl|rfl|rfl|rfl|rfl|rfl|rfl|rfl
     ·exact(by obtain⟨g,e,h1⟩:=h;exact⟨g,e,(hx.block g (Array.getElem?_eq_some_iff.1 h1).1).trans h1⟩)
     ·exact h
     ·exact h
     ·exact(by obtain⟨g,e,h1⟩:=h;exact⟨g,e,cell_kept h1 hx⟩)
     ·exact h
     ·exact h
     ·exact h
     ·exact h
     ·exact h
     ·exact h
     ·exact h
     ·exact h
     ·exact h
     ·exact h
     ·exact h
     ·exact h
     ·exact h
     ·exact h
     ·exact h
     ·exact h
     ·exact h
     ·exact h
     ·exact h
     ·exact h
     ·exact h
     ·exact h
     ·exact h
     ·exact(by obtain⟨g,e,h1,h2⟩:=h;exact⟨g,e,h1,(hx.block g (Array.getElem?_eq_some_iff.1 h2).1).trans h2⟩)
    ·rw[qF,List.getElem?_eq_none (by simpa using hi)];trivial
   ·intro q o' hq ho a' w' hb' hout hpre K hK;have hq':q=0∨q=1∨q=2∨q=3∨q=4∨q=5∨q=6∨q=7∨q=8∨q=9∨q=10∨q=11∨q=12∨q=13∨q=14∨q=15∨q=16∨q=17∨q=18∨q=19∨q=20∨q=21∨q=22∨q=23∨q=24∨q=25∨q=26∨q=27:=by omega
    rcases hq' with rfl|rfl|rfl|rfl|rfl|rfl|rfl|rfl|rfl|rfl|rfl|rfl|rfl|rfl|rfl|rfl|rfl|rfl|rfl|rfl|rfl|rfl|rfl|rfl|rfl|rfl|rfl|rfl
    ·obtain rfl:=qB ho;go_simp
     exact hK _ _ ⟨w'.heap.size,rfl,qK _ _⟩ ((qC _ _).alloc (qD _) _)
    ·obtain rfl:=qB ho;have e8:a'.tmps[8]? = some (.int .i64 k):=hout 8 (by decide);go_simp
     exact hK (.int .i64 k) w' rfl (qC _ _)
    ·obtain rfl:=qB ho;have p1:a'.tmps.getD 58 undef=.int .i64 k:=hpre ⟨1,.data⟩ (by simp) 58 rfl;simp only[qA]at p1;have q1:=HK9.out;go_simp
     exact hK (.int .i64 k) w' rfl (qC _ _)
    ·obtain rfl:=qB ho;have p0:=hpre ⟨0,.data⟩ (by simp) 57 rfl;simp only[qA]at p0;have p2:a'.tmps.getD 59 undef=.int .i64 k:=hpre ⟨2,.data⟩ (by simp) 59 rfl;simp only[qA]at p2;obtain⟨g,p0,hg⟩:=p0;have q3:(0:Int)≤(k:Int):=by omega
     have q4:(k:Int)<9:=by omega
     have hc:=HNUM.out w' g hg;go_simp
     exact hK _ _ ⟨g,rfl,hc⟩ (qC _ _)
    ·obtain rfl:=qB ho;have p3:=hpre ⟨3,.data⟩ (by simp) 60 rfl;simp only[qA]at p3;obtain⟨g,p3,hc⟩:=p3;go_simp
     exact hK (.string (dNum k)) w' rfl (qC _ _)
    ·obtain rfl:=qB ho;have e7:a'.tmps[7]? = some (.slice (some ⟨w.heap.size+1+1+1+1+1+1+1+1+1+1+1,0,none⟩) 6 6):=hout 7 (by decide);go_simp
     exact hK (.slice (some ⟨w.heap.size+1+1+1+1+1+1+1+1+1+1+1,0,none⟩) 6 6) w' rfl (qC _ _)
    ·obtain rfl:=qB ho;have e10:a'.tmps[10]? = some (.int .i64 r):=hout 10 (by decide);go_simp
     exact hK (.int .i64 r) w' rfl (qC _ _)
    ·obtain rfl:=qB ho;have p5:a'.tmps.getD 62 undef=.slice (some ⟨w.heap.size+1+1+1+1+1+1+1+1+1+1+1,0,none⟩) 6 6:=hpre ⟨5,.data⟩ (by simp) 62 rfl;simp only[qA]at p5;have p6:a'.tmps.getD 63 undef=.int .i64 r:=hpre ⟨6,.data⟩ (by simp) 63 rfl;simp only[qA]at p6;have q3:(0:Int)≤(r:Int):=by omega
     have q4:(r:Int)<6:=by omega
     go_simp
     exact hK (.pointer (some ⟨w.heap.size+11,r,none⟩)) w' rfl (qC _ _)
    ·obtain rfl:=qB ho;have p7:a'.tmps.getD 64 undef=.pointer (some ⟨w.heap.size+11,r,none⟩):=hpre ⟨7,.data⟩ (by simp) 64 rfl;simp only[qA]at p7;have hc:=cell_kept (HRT.out.1) hb';go_simp
     exact hK (.slice (some ⟨w.heap.size+5+r,0,none⟩) 2 2) w' rfl (qC _ _)
    ·obtain rfl:=qB ho;have p8:a'.tmps.getD 65 undef=.slice (some ⟨w.heap.size+5+r,0,none⟩) 2 2:=hpre ⟨8,.data⟩ (by simp) 65 rfl;simp only[qA]at p8;go_simp
     exact hK (.pointer (some ⟨w.heap.size+5+r,0,none⟩)) w' rfl (qC _ _)
    ·obtain rfl:=qB ho;have p9:a'.tmps.getD 66 undef=.pointer (some ⟨w.heap.size+5+r,0,none⟩):=hpre ⟨9,.data⟩ (by simp) 66 rfl;simp only[qA]at p9;have hc:=cell_kept (HRT.out.2.1) hb';go_simp
     exact hK (.string (dCode (dFrom r))) w' rfl (qC _ _)
    ·obtain rfl:=qB ho;have e7:a'.tmps[7]? = some (.slice (some ⟨w.heap.size+1+1+1+1+1+1+1+1+1+1+1,0,none⟩) 6 6):=hout 7 (by decide);go_simp
     exact hK (.slice (some ⟨w.heap.size+1+1+1+1+1+1+1+1+1+1+1,0,none⟩) 6 6) w' rfl (qC _ _)
    ·obtain rfl:=qB ho;have e10:a'.tmps[10]? = some (.int .i64 r):=hout 10 (by decide);go_simp
     exact hK (.int .i64 r) w' rfl (qC _ _)
    ·obtain rfl:=qB ho;have p11:a'.tmps.getD 68 undef=.slice (some ⟨w.heap.size+1+1+1+1+1+1+1+1+1+1+1,0,none⟩) 6 6:=hpre ⟨11,.data⟩ (by simp) 68 rfl;simp only[qA]at p11;have p12:a'.tmps.getD 69 undef=.int .i64 r:=hpre ⟨12,.data⟩ (by simp) 69 rfl;simp only[qA]at p12;have q3:(0:Int)≤(r:Int):=by omega
     have q4:(r:Int)<6:=by omega
     go_simp
     exact hK (.pointer (some ⟨w.heap.size+11,r,none⟩)) w' rfl (qC _ _)
    ·obtain rfl:=qB ho;have p13:a'.tmps.getD 70 undef=.pointer (some ⟨w.heap.size+11,r,none⟩):=hpre ⟨13,.data⟩ (by simp) 70 rfl;simp only[qA]at p13;have hc:=cell_kept (HRT.out.1) hb';go_simp
     exact hK (.slice (some ⟨w.heap.size+5+r,0,none⟩) 2 2) w' rfl (qC _ _)
    ·obtain rfl:=qB ho;have p14:a'.tmps.getD 71 undef=.slice (some ⟨w.heap.size+5+r,0,none⟩) 2 2:=hpre ⟨14,.data⟩ (by simp) 71 rfl;simp only[qA]at p14;go_simp
     exact hK (.pointer (some ⟨w.heap.size+5+r,1,none⟩)) w' rfl (qC _ _)
    ·obtain rfl:=qB ho;have p15:a'.tmps.getD 72 undef=.pointer (some ⟨w.heap.size+5+r,1,none⟩):=hpre ⟨15,.data⟩ (by simp) 72 rfl;simp only[qA]at p15;have hc:=cell_kept (HRT.out.2.2) hb';go_simp
     exact hK (.string (dCode (dTo r))) w' rfl (qC _ _)
    ·obtain rfl:=qB ho;have e6:a'.tmps[6]? = some (.int .i64 ck):=hout 6 (by decide);go_simp
     exact hK (.int .i64 ck) w' rfl (qC _ _)
    ·obtain rfl:=qB ho;have e6:a'.tmps[6]? = some (.int .i64 ck):=hout 6 (by decide);go_simp
     exact hK (.int .i64 ck) w' rfl (qC _ _)
    ·obtain rfl:=qB ho;have p18:a'.tmps.getD 75 undef=.int .i64 ck:=hpre ⟨18,.data⟩ (by simp) 75 rfl;simp only[qA]at p18;have q1:=HQ19.out;go_simp
     exact hK (.int .i64 (ck+60)) w' rfl (qC _ _)
    ·obtain rfl:=qB ho;have e9:a'.tmps[9]? = some (.int .i64 a):=hout 9 (by decide);go_simp
     exact hK (.int .i64 a) w' rfl (qC _ _)
    ·obtain rfl:=qB ho;have p20:a'.tmps.getD 77 undef=.int .i64 a:=hpre ⟨20,.data⟩ (by simp) 77 rfl;simp only[qA]at p20;go_simp
     exact hK _ _ rfl (qC _ _)
    ·obtain rfl:=qB ho;have p21:a'.tmps.getD 78 undef=.int .i64 (a/64):=hpre ⟨21,.data⟩ (by simp) 78 rfl;simp only[qA]at p21;have q1:=HQ22.out;go_simp
     exact hK (.int .i64 (a/64%2)) w' rfl (qC _ _)
    ·obtain rfl:=qB ho;have p22:a'.tmps.getD 79 undef=.int .i64 (a/64%2):=hpre ⟨22,.data⟩ (by simp) 79 rfl;simp only[qA]at p22;have q1:=HQ23.out;go_simp
     exact hK (.int .i64 (30*(a/64%2))) w' rfl (qC _ _)
    ·obtain rfl:=qB ho;have p19:a'.tmps.getD 76 undef=.int .i64 (ck+60):=hpre ⟨19,.data⟩ (by simp) 76 rfl;simp only[qA]at p19;have p23:a'.tmps.getD 80 undef=.int .i64 (30*(a/64%2)):=hpre ⟨23,.data⟩ (by simp) 80 rfl;simp only[qA]at p23;have q1:=HQ24.out;go_simp
     exact hK (.int .i64 (ck+60+30*(a/64%2))) w' rfl (qC _ _)
    ·obtain rfl:=qB ho;go_simp
     exact hK (.agg #[.int .i64 1,.int .i64 1,.int .i64 0]) w' rfl (qC _ _)
    ·obtain rfl:=qB ho;have p4:a'.tmps.getD 61 undef=.string (dNum k):=hpre ⟨4,.data⟩ (by simp) 61 rfl;simp only[qA]at p4;have p10:a'.tmps.getD 67 undef=.string (dCode (dFrom r)):=hpre ⟨10,.data⟩ (by simp) 67 rfl;simp only[qA]at p10;have p16:a'.tmps.getD 73 undef=.string (dCode (dTo r)):=hpre ⟨16,.data⟩ (by simp) 73 rfl;simp only[qA]at p16;have p17:a'.tmps.getD 74 undef=.int .i64 ck:=hpre ⟨17,.data⟩ (by simp) 74 rfl;simp only[qA]at p17;have p24:a'.tmps.getD 81 undef=.int .i64 (ck+60+30*(a/64%2)):=hpre ⟨24,.data⟩ (by simp) 81 rfl;simp only[qA]at p24;have p25:a'.tmps.getD 82 undef=.agg #[.int .i64 1,.int .i64 1,.int .i64 0]:=hpre ⟨25,.data⟩ (by simp) 82 rfl;simp only[qA]at p25;go_simp
     exact hK (.agg #[.string (dNum k),.string (dCode (dFrom r)),.string (dCode (dTo r)),.int .i64 ck,.int .i64 (ck+60+30*(a/64%2)),.string ⟨#[98,55,51,55]⟩,.int .i64 1,.int .i64 1,.int .i64 0]) w' rfl (qC _ _)
    ·obtain rfl:=qB ho;go_simp
     exact hK _ _ ⟨w'.heap.size,rfl,hb'.size,qK _ _⟩ ((qC _ _).alloc (qD _) _)
   ·intro us w7 hb' hfacts;obtain⟨g,h27,hg,hgc⟩:=hfacts 27 (by decide);have h26:us 26=.agg #[.string (dNum k),.string (dCode (dFrom r)),.string (dCode (dTo r)),.int .i64 ck,.int .i64 (ck+60+30*(a/64%2)),.string ⟨#[98,55,51,55]⟩,.int .i64 1,.int .i64 1,.int .i64 0]:=hfacts 26 (by decide);clear hfacts;simp only[putL,Act.put,List.setIfInBounds_toArray,List.set_cons_zero,List.set_cons_succ,Nat.zero_add,Nat.reduceAdd];generalize us 27=x27 at*;generalize us 26=x26 at*;subst h27;subst h26;simp only[List.drop_succ_cons,List.drop_zero];refine wpList_store_row rfl _ _ _ rfl g #[.string (dNum k),.string (dCode (dFrom r)),.string (dCode (dTo r)),.int .i64 ck,.int .i64 (ck+60+30*(a/64%2)),.string ⟨#[98,55,51,55]⟩,.int .i64 1,.int .i64 1,.int .i64 0] (by simp[Act.eval,Act.put]) (by simp[Act.eval,Act.put]) _ _ hgc (by kernel_rfl) rfl (by simp[Value.oneCell']) ?_;have HG:Hid ((w7.setRow g #[.string (dNum k),.string (dCode (dFrom r)),.string (dCode (dTo r)),.int .i64 ck,.int .i64 (ck+60+30*(a/64%2)),.string ⟨#[98,55,51,55]⟩,.int .i64 1,.int .i64 1,.int .i64 0]).heap[g]? = _):=setRow_heap _ _ _ _ _ _ hgc;have HW7:Hid (Below wc.heap.size wc (w7.setRow g #[.string (dNum k),.string (dCode (dFrom r)),.string (dCode (dTo r)),.int .i64 ck,.int .i64 (ck+60+30*(a/64%2)),.string ⟨#[98,55,51,55]⟩,.int .i64 1,.int .i64 1,.int .i64 0])):=below_setRowD hb' hg;generalize w7.setRow g #[.string (dNum k),.string (dCode (dFrom r)),.string (dCode (dTo r)),.int .i64 ck,.int .i64 (ck+60+30*(a/64%2)),.string ⟨#[98,55,51,55]⟩,.int .i64 1,.int .i64 1,.int .i64 0]=w8 at*;clear hb' hgc;have HW8:=HW7;clear HW7;have g8:bits .and .i64 (a/128) 7=a/128%8:=and_7 _
    by_cases ht:a/128%8=7
    ·have y5:=block_cell HG.out 5;have f5:=block_free HG.out 5;go_upto_region 20 with (fail)
     have HG2:Hid ((w8.setCell ⟨g,5,none⟩ (.string ⟨#[97,51,50,48]⟩)).heap[g]? = some (.cells #[.string (dNum k),.string (dCode (dFrom r)),.string (dCode (dTo r)),.int .i64 ck,.int .i64 (ck+60+30*(a/64%2)),.string ⟨#[97,51,50,48]⟩,.int .i64 1,.int .i64 1,.int .i64 0] 62 (0,0))):=qS _ _ _ _ _ _ HG.out;have HW9:Hid (Below wc.heap.size wc (w8.setCell ⟨g,5,none⟩ (.string ⟨#[97,51,50,48]⟩))):=HW8.out.setCell (show wc.heap.size≤g from hg) _;clear HW8 HG y5 f5;have HW8:=HW9;have HG:=HG2;clear HW9 HG2;generalize w8.setCell ⟨g,5,none⟩ (.string ⟨#[97,51,50,48]⟩)=w8 at*;have g16:bits .and .i64 (a/1024) 15=a/1024%16:=and_15 _
     by_cases hd:a/1024%16=15
     ·have y6:=block_cell HG.out 6;have y7:=block_cell HG.out 7;have y8:=block_cell HG.out 8;have f6:=block_free HG.out 6;have f7:=block_free HG.out 7;have f8:=block_free HG.out 8;go_upto_region 22 with (fail)
      have HG2:Hid ((((w8.setCell ⟨g,6,none⟩ (.int .i64 1)).setCell ⟨g,7,none⟩ (.int .i64 0)).setCell ⟨g,8,none⟩ (.int .i64 0)).heap[g]? = some (.cells #[.string (dNum k),.string (dCode (dFrom r)),.string (dCode (dTo r)),.int .i64 ck,.int .i64 (ck+60+30*(a/64%2)),.string ⟨#[97,51,50,48]⟩,.int .i64 1,.int .i64 0,.int .i64 0] 62 (0,0))):=qS _ _ _ _ _ _ (qS _ _ _ _ _ _ (qS _ _ _ _ _ _ HG.out));have HW9:Hid (Below wc.heap.size wc (((w8.setCell ⟨g,6,none⟩ (.int .i64 1)).setCell ⟨g,7,none⟩ (.int .i64 0)).setCell ⟨g,8,none⟩ (.int .i64 0))):=((HW8.out.setCell (show wc.heap.size≤g from hg) _).setCell (show wc.heap.size≤g from hg) _).setCell (show wc.heap.size≤g from hg) _;clear HW8 HG y6 y7 y8 f6 f7 f8;have HW8:=HW9;have HG:=HG2;clear HW9 HG2;generalize ((w8.setCell ⟨g,6,none⟩ (.int .i64 1)).setCell ⟨g,7,none⟩ (.int .i64 0)).setCell ⟨g,8,none⟩ (.int .i64 0)=w8 at*;have HFL:Hid ((flightCells (dFlight a ck k)).toArray = #[.string (dNum k),.string (dCode (dFrom r)),.string (dCode (dTo r)),.int .i64 ck,.int .i64 (ck+60+30*(a/64%2)),.string ⟨#[97,51,50,48]⟩,.int .i64 1,.int .i64 0,.int .i64 0]):=by
       show _=_;unfold dFlight flightCells;rw[HRR.out,qR ht,qR hd];rfl
      clear ht hd;have z0:=block_cell HG.out 0;have z1:=block_cell HG.out 1;have z2:=block_cell HG.out 2;have z3:=block_cell HG.out 3;have z4:=block_cell HG.out 4;have z5:=block_cell HG.out 5;have z6:=block_cell HG.out 6;have z7:=block_cell HG.out 7;have z8:=block_cell HG.out 8;have hd8:=HDT.out.next HW8.out;have y2:=block_cell hd8.box 2;have HD8:=qH hd8;have hs8:=hd8.size;clear hd8;go_wp2_with (at_builtin;refine wpList_push (t:=Ty.flight) rfl _ _ _ rfl 104 elem_flight rfl (HD8.out.own.alloc _) w8.heap.size (dFlight a ck k) (fun _=>False) rfl ⟨flightCells (dFlight a ck k),rfl, ?ca⟩ (fun _ h=>h.elim) ?c1 (by decide) ?c2 ?_)
      case ca=>exact at_ofBlock (by rw[HFL.out];exact qK _ _)
      case c1=>rw[HLN.out];omega
      case c2=>simp;omega
      intro v' w9 hown9 hgr9;rw[←HSU.out.2]at hown9;obtain⟨A9,c9,rfl, -⟩:=hown9.sl;generalize fs2.length=n9 at*;have hd9:DT w (w8.alloc (.cells #[.string (dNum k),.string (dCode (dFrom r)),.string (dCode (dTo r)),.int .i64 ck,.int .i64 (ck+60+30*(a/64%2)),.string ⟨#[97,51,50,48]⟩,.int .i64 1,.int .i64 0,.int .i64 0] 62)) v fs:=HD8.out.next ((qC _ _).alloc (qD _) _);have y2:=block_cell (hd9.box8 hgr9) 2;have f2:=block_free (hd9.box8 hgr9) 2;have HD9:=qH (hd9.push hgr9 hown9);clear hd9 hown9 hgr9 z0 z1 z2 z3 z4 z5 z6 z7 z8 HG HD8 HW8 HFL;go_upto_region 23 with (fail)
      generalize w9.setCell ⟨w.heap.size+3,2,none⟩ (.slice A9 n9 c9)=w10 at*;clear y2 f2;have hgp:=HGP.out w10;have hq1:=HQA.out;have hq2:=HQW.out;have HN:=qH (HD9.out.next ((qC w10.heap.size w10).alloc (qD _) (.cells #[.int .i64 75,.int .i64 100,.int .i64 130,.int .i64 240,.int .i64 60,.int .i64 700,.int .i64 95,.int .i64 110] 3)));have hq8:(q:Int)<8:=by omega
      have hq0:(0:Int)≤(q:Int):=by omega
      go_wp2_with fail
      go_roundw
      case rel=>exact⟨k+1,_,by omega,by go_num,by rw[HC2.out];exact HCK.out,by rw[HF2.out];exact HN.out⟩
      case measure=>simp[intOf];omega
     ·have gd:(a/1024%16==15)=false:=by simpa using hd
      go_upto_region 22 with (fail)
      have HFL:Hid ((flightCells (dFlight a ck k)).toArray = #[.string (dNum k),.string (dCode (dFrom r)),.string (dCode (dTo r)),.int .i64 ck,.int .i64 (ck+60+30*(a/64%2)),.string ⟨#[97,51,50,48]⟩,.int .i64 1,.int .i64 1,.int .i64 0]):=by
       show _=_;unfold dFlight flightCells;rw[HRR.out,qR ht,qN hd];rfl
      clear ht hd;have z0:=block_cell HG.out 0;have z1:=block_cell HG.out 1;have z2:=block_cell HG.out 2;have z3:=block_cell HG.out 3;have z4:=block_cell HG.out 4;have z5:=block_cell HG.out 5;have z6:=block_cell HG.out 6;have z7:=block_cell HG.out 7;have z8:=block_cell HG.out 8;have hd8:=HDT.out.next HW8.out;have y2:=block_cell hd8.box 2;have HD8:=qH hd8;have hs8:=hd8.size;clear hd8;go_wp2_with (at_builtin;refine wpList_push (t:=Ty.flight) rfl _ _ _ rfl 104 elem_flight rfl (HD8.out.own.alloc _) w8.heap.size (dFlight a ck k) (fun _=>False) rfl ⟨flightCells (dFlight a ck k),rfl, ?ca⟩ (fun _ h=>h.elim) ?c1 (by decide) ?c2 ?_)
      case ca=>exact at_ofBlock (by rw[HFL.out];exact qK _ _)
      case c1=>rw[HLN.out];omega
      case c2=>simp;omega
      intro v' w9 hown9 hgr9;rw[←HSU.out.2]at hown9;obtain⟨A9,c9,rfl, -⟩:=hown9.sl;generalize fs2.length=n9 at*;have hd9:DT w (w8.alloc (.cells #[.string (dNum k),.string (dCode (dFrom r)),.string (dCode (dTo r)),.int .i64 ck,.int .i64 (ck+60+30*(a/64%2)),.string ⟨#[97,51,50,48]⟩,.int .i64 1,.int .i64 1,.int .i64 0] 62)) v fs:=HD8.out.next ((qC _ _).alloc (qD _) _);have y2:=block_cell (hd9.box8 hgr9) 2;have f2:=block_free (hd9.box8 hgr9) 2;have HD9:=qH (hd9.push hgr9 hown9);clear hd9 hown9 hgr9 z0 z1 z2 z3 z4 z5 z6 z7 z8 HG HD8 HW8 HFL;go_upto_region 23 with (fail)
      generalize w9.setCell ⟨w.heap.size+3,2,none⟩ (.slice A9 n9 c9)=w10 at*;clear y2 f2;have hgp:=HGP.out w10;have hq1:=HQA.out;have hq2:=HQW.out;have HN:=qH (HD9.out.next ((qC w10.heap.size w10).alloc (qD _) (.cells #[.int .i64 75,.int .i64 100,.int .i64 130,.int .i64 240,.int .i64 60,.int .i64 700,.int .i64 95,.int .i64 110] 3)));have hq8:(q:Int)<8:=by omega
      have hq0:(0:Int)≤(q:Int):=by omega
      go_wp2_with fail
      go_roundw
      case rel=>exact⟨k+1,_,by omega,by go_num,by rw[HC2.out];exact HCK.out,by rw[HF2.out];exact HN.out⟩
      case measure=>simp[intOf];omega
    ·have gt:(a/128%8==7)=false:=by simpa using ht
     go_upto_region 20 with (fail)
     have g16:bits .and .i64 (a/1024) 15=a/1024%16:=and_15 _
     by_cases hd:a/1024%16=15
     ·have y6:=block_cell HG.out 6;have y7:=block_cell HG.out 7;have y8:=block_cell HG.out 8;have f6:=block_free HG.out 6;have f7:=block_free HG.out 7;have f8:=block_free HG.out 8;go_upto_region 22 with (fail)
      have HG2:Hid ((((w8.setCell ⟨g,6,none⟩ (.int .i64 1)).setCell ⟨g,7,none⟩ (.int .i64 0)).setCell ⟨g,8,none⟩ (.int .i64 0)).heap[g]? = some (.cells #[.string (dNum k),.string (dCode (dFrom r)),.string (dCode (dTo r)),.int .i64 ck,.int .i64 (ck+60+30*(a/64%2)),.string ⟨#[98,55,51,55]⟩,.int .i64 1,.int .i64 0,.int .i64 0] 62 (0,0))):=qS _ _ _ _ _ _ (qS _ _ _ _ _ _ (qS _ _ _ _ _ _ HG.out));have HW9:Hid (Below wc.heap.size wc (((w8.setCell ⟨g,6,none⟩ (.int .i64 1)).setCell ⟨g,7,none⟩ (.int .i64 0)).setCell ⟨g,8,none⟩ (.int .i64 0))):=((HW8.out.setCell (show wc.heap.size≤g from hg) _).setCell (show wc.heap.size≤g from hg) _).setCell (show wc.heap.size≤g from hg) _;clear HW8 HG y6 y7 y8 f6 f7 f8;have HW8:=HW9;have HG:=HG2;clear HW9 HG2;generalize ((w8.setCell ⟨g,6,none⟩ (.int .i64 1)).setCell ⟨g,7,none⟩ (.int .i64 0)).setCell ⟨g,8,none⟩ (.int .i64 0)=w8 at*;have HFL:Hid ((flightCells (dFlight a ck k)).toArray = #[.string (dNum k),.string (dCode (dFrom r)),.string (dCode (dTo r)),.int .i64 ck,.int .i64 (ck+60+30*(a/64%2)),.string ⟨#[98,55,51,55]⟩,.int .i64 1,.int .i64 0,.int .i64 0]):=by
       show _=_;unfold dFlight flightCells;rw[HRR.out,qN ht,qR hd];rfl
      clear ht hd;have z0:=block_cell HG.out 0;have z1:=block_cell HG.out 1;have z2:=block_cell HG.out 2;have z3:=block_cell HG.out 3;have z4:=block_cell HG.out 4;have z5:=block_cell HG.out 5;have z6:=block_cell HG.out 6;have z7:=block_cell HG.out 7;have z8:=block_cell HG.out 8;have hd8:=HDT.out.next HW8.out;have y2:=block_cell hd8.box 2;have HD8:=qH hd8;have hs8:=hd8.size;clear hd8;go_wp2_with (at_builtin;refine wpList_push (t:=Ty.flight) rfl _ _ _ rfl 104 elem_flight rfl (HD8.out.own.alloc _) w8.heap.size (dFlight a ck k) (fun _=>False) rfl ⟨flightCells (dFlight a ck k),rfl, ?ca⟩ (fun _ h=>h.elim) ?c1 (by decide) ?c2 ?_)
      case ca=>exact at_ofBlock (by rw[HFL.out];exact qK _ _)
      case c1=>rw[HLN.out];omega
      case c2=>simp;omega
      intro v' w9 hown9 hgr9;rw[←HSU.out.2]at hown9;obtain⟨A9,c9,rfl, -⟩:=hown9.sl;generalize fs2.length=n9 at*;have hd9:DT w (w8.alloc (.cells #[.string (dNum k),.string (dCode (dFrom r)),.string (dCode (dTo r)),.int .i64 ck,.int .i64 (ck+60+30*(a/64%2)),.string ⟨#[98,55,51,55]⟩,.int .i64 1,.int .i64 0,.int .i64 0] 62)) v fs:=HD8.out.next ((qC _ _).alloc (qD _) _);have y2:=block_cell (hd9.box8 hgr9) 2;have f2:=block_free (hd9.box8 hgr9) 2;have HD9:=qH (hd9.push hgr9 hown9);clear hd9 hown9 hgr9 z0 z1 z2 z3 z4 z5 z6 z7 z8 HG HD8 HW8 HFL;go_upto_region 23 with (fail)
      generalize w9.setCell ⟨w.heap.size+3,2,none⟩ (.slice A9 n9 c9)=w10 at*;clear y2 f2;have hgp:=HGP.out w10;have hq1:=HQA.out;have hq2:=HQW.out;have HN:=qH (HD9.out.next ((qC w10.heap.size w10).alloc (qD _) (.cells #[.int .i64 75,.int .i64 100,.int .i64 130,.int .i64 240,.int .i64 60,.int .i64 700,.int .i64 95,.int .i64 110] 3)));have hq8:(q:Int)<8:=by omega
      have hq0:(0:Int)≤(q:Int):=by omega
      go_wp2_with fail
      go_roundw
      case rel=>exact⟨k+1,_,by omega,by go_num,by rw[HC2.out];exact HCK.out,by rw[HF2.out];exact HN.out⟩
      case measure=>simp[intOf];omega
     ·have gd:(a/1024%16==15)=false:=by simpa using hd
      go_upto_region 22 with (fail)
      have HFL:Hid ((flightCells (dFlight a ck k)).toArray = #[.string (dNum k),.string (dCode (dFrom r)),.string (dCode (dTo r)),.int .i64 ck,.int .i64 (ck+60+30*(a/64%2)),.string ⟨#[98,55,51,55]⟩,.int .i64 1,.int .i64 1,.int .i64 0]):=by
       show _=_;unfold dFlight flightCells;rw[HRR.out,qN ht,qN hd];rfl
      clear ht hd;have z0:=block_cell HG.out 0;have z1:=block_cell HG.out 1;have z2:=block_cell HG.out 2;have z3:=block_cell HG.out 3;have z4:=block_cell HG.out 4;have z5:=block_cell HG.out 5;have z6:=block_cell HG.out 6;have z7:=block_cell HG.out 7;have z8:=block_cell HG.out 8;have hd8:=HDT.out.next HW8.out;have y2:=block_cell hd8.box 2;have HD8:=qH hd8;have hs8:=hd8.size;clear hd8;go_wp2_with (at_builtin;refine wpList_push (t:=Ty.flight) rfl _ _ _ rfl 104 elem_flight rfl (HD8.out.own.alloc _) w8.heap.size (dFlight a ck k) (fun _=>False) rfl ⟨flightCells (dFlight a ck k),rfl, ?ca⟩ (fun _ h=>h.elim) ?c1 (by decide) ?c2 ?_)
      case ca=>exact at_ofBlock (by rw[HFL.out];exact qK _ _)
      case c1=>rw[HLN.out];omega
      case c2=>simp;omega
      intro v' w9 hown9 hgr9;rw[←HSU.out.2]at hown9;obtain⟨A9,c9,rfl, -⟩:=hown9.sl;generalize fs2.length=n9 at*;have hd9:DT w (w8.alloc (.cells #[.string (dNum k),.string (dCode (dFrom r)),.string (dCode (dTo r)),.int .i64 ck,.int .i64 (ck+60+30*(a/64%2)),.string ⟨#[98,55,51,55]⟩,.int .i64 1,.int .i64 1,.int .i64 0] 62)) v fs:=HD8.out.next ((qC _ _).alloc (qD _) _);have y2:=block_cell (hd9.box8 hgr9) 2;have f2:=block_free (hd9.box8 hgr9) 2;have HD9:=qH (hd9.push hgr9 hown9);clear hd9 hown9 hgr9 z0 z1 z2 z3 z4 z5 z6 z7 z8 HG HD8 HW8 HFL;go_upto_region 23 with (fail)
      generalize w9.setCell ⟨w.heap.size+3,2,none⟩ (.slice A9 n9 c9)=w10 at*;clear y2 f2;have hgp:=HGP.out w10;have hq1:=HQA.out;have hq2:=HQW.out;have HN:=qH (HD9.out.next ((qC w10.heap.size w10).alloc (qD _) (.cells #[.int .i64 75,.int .i64 100,.int .i64 130,.int .i64 240,.int .i64 60,.int .i64 700,.int .i64 95,.int .i64 110] 3)));have hq8:(q:Int)<8:=by omega
      have hq0:(0:Int)≤(q:Int):=by omega
      go_wp2_with fail
      go_roundw
      case rel=>exact⟨k+1,_,by omega,by go_num,by rw[HC2.out];exact HCK.out,by rw[HF2.out];exact HN.out⟩
      case measure=>simp[intOf];omega
  ·obtain rfl:k=m:=by omega
   obtain⟨A9,c9,rfl,hs9⟩:=hdt.own.sl;have HS9:=qH hs9;clear hs9;generalize hl9:(dSt l k).2.length=n9 at*;have hb0:=(hdt.old (q:=w.heap.size) (by omega) (by omega)).trans (dInit_at w 0 _ rfl);have y0:=block_cell hdt.box 0;have y1:=block_cell hdt.box 1;have y2:=block_cell hdt.box 2;have z0:=block_cell hb0 0;have z1:=block_cell hb0 1;have z2:=block_cell hb0 2;have f0:=block_free hb0 0;have f1:=block_free hb0 1;have f2:=block_free hb0 2;have HD:=qH hdt;have HB0:=qH hb0;clear hdt hb0;have hsz:=HD.out.size;have hbel:=HD.out.below;have hend : ∃ V,(((wr.setCell ⟨w.heap.size,0,none⟩ (.slice (some ⟨w.heap.size+2,0,none⟩) 2 2)).setCell ⟨w.heap.size,1,none⟩ (.slice (some ⟨w.heap.size+4,0,none⟩) 3 3)).setCell ⟨w.heap.size,2,none⟩ (.slice A9 n9 c9))=V∧V.heap[w.heap.size]? = some (.cells #[.slice (some ⟨w.heap.size+2,0,none⟩) 2 2,.slice (some ⟨w.heap.size+4,0,none⟩) 3 3,.slice A9 n9 c9] 27 (0,0))∧Below w.heap.size w V ∧
    TTIs V (fun b=>w.heap.size<b∧b<V.heap.size) [.slice (some ⟨w.heap.size+2,0,none⟩) 2 2,.slice (some ⟨w.heap.size+4,0,none⟩) 3 3,.slice A9 n9 c9] (dTT l k):=by
    refine⟨_,rfl,qS _ _ _ _ _ _ (qS _ _ _ _ _ _ (qS _ _ _ _ _ _ HB0.out)),((hbel.setCell (qD w.heap.size) _).setCell (qD w.heap.size) _).setCell (qD w.heap.size) _, ?_⟩;have hk2 : ∀ q,q≠w.heap.size→(((wr.setCell ⟨w.heap.size,0,none⟩ (.slice (some ⟨w.heap.size+2,0,none⟩) 2 2)).setCell ⟨w.heap.size,1,none⟩ (.slice (some ⟨w.heap.size+4,0,none⟩) 3 3)).setCell ⟨w.heap.size,2,none⟩ (.slice A9 n9 c9)).heap[q]? = wr.heap[q]? :=fun q hq=>by
     rw[qO _ _ _ _ hq,qO _ _ _ _ hq,qO _ _ _ _ hq]
    refine⟨_,_,_,_,_,_,_,_,_,rfl, ?_, ?_, ?_⟩
    ·refine((dInit_zones w).keep fun b hb=>(hk2 b (by omega)).trans (HD.out.old (by omega) (by omega))).more fun b hb =>?_
     show w.heap.size<b∧b<_;simp;omega
    ·refine((dInit_airports w).keep fun b hb=>(hk2 b (by omega)).trans (HD.out.old (by omega) (by omega))).more fun b hb =>?_
     show w.heap.size<b∧b<_;simp;omega
    ·refine(HS9.out.keep fun b hb=>hk2 b (by omega)).more fun b hb =>?_
     show w.heap.size<b∧b<_;simp;omega
   obtain⟨V,hV,hVb,hVB,hVT⟩:=hend;have HVb:=qH hVb;have HVB:=qH hVB;have HVT:=qH hVT;clear hVb hVB hVT hbel hsz HS;go_wp2_with fail
   try rw[hV]
   have x0:=block_cell HVb.out 0;have x1:=block_cell HVb.out 1;have x2:=block_cell HVb.out 2;refine bodyPost_ret (v:=.agg #[.slice (some ⟨w.heap.size+2,0,none⟩) 2 2,.slice (some ⟨w.heap.size+4,0,none⟩) 3 3,.slice A9 n9 c9]) (by simp[results,Tryz.results33,go_sem,x0,x1,x2]) rfl ?_;exact⟨_,rfl,HVT.out,HVB.out⟩
end
end Go.Proofs.YtifconapjfdkcaaGreatDoor
