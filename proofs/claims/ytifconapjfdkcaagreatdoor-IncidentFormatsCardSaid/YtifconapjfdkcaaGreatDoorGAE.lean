/-
  Contract of the reference's Format of incidents: it says the same as the program's.
  Condition: the data are well formed; the table of powers of ten is laid.
-/
import Derived.Test.YtifconapjfdkcaaGreatDoorGAB
import Derived.Test.YtifconapjfdkcaaGreatDoorGAC
import Derived.Test.YtifconapjfdkcaaGreatDoorGAD
import Derived.Test.YtifconapjfdkcaaGreatDoorDAA
import Derived.Test.YtifconapjfdkcaaGreatDoorDAB
import Derived.Test.YtifconapjfdkcaaGreatDoorDAC
import Derived.Test.YtifconapjfdkcaaGreatDoorDAD
import Derived.Test.YtifconapjfdkcaaGreatDoorDAE
import Derived.Test.YtifconapjfdkcaaGreatDoorDAF
import Derived.Test.YtifconapjfdkcaaGreatDoorDAG
import Derived.Test.YtifconapjfdkcaaGreatDoorDAH
import Derived.Test.YtifconapjfdkcaaGreatDoorDAI
import Derived.Test.YtifconapjfdkcaaGreatDoorDAJ
import Derived.Test.YtifconapjfdkcaaGreatDoorDAK
import Derived.Test.YtifconapjfdkcaaGreatDoorDAL
import Derived.Test.YtifconapjfdkcaaGreatDoorDAM
import Derived.Test.YtifconapjfdkcaaGreatDoorDAN
import Derived.Test.YtifconapjfdkcaaGreatDoorDAO
import Derived.Test.YtifconapjfdkcaaGreatDoorDAP
import Derived.Test.YtifconapjfdkcaaGreatDoorDAQ
import Derived.Test.YtifconapjfdkcaaGreatDoorDAR
import Derived.Test.YtifconapjfdkcaaGreatDoorDAS
import Derived.Test.YtifconapjfdkcaaGreatDoorDAT
import Derived.Test.YtifconapjfdkcaaGreatDoorDAU
import Derived.Test.YtifconapjfdkcaaGreatDoorDAV
import Derived.Test.YtifconapjfdkcaaGreatDoorDAW
import Derived.Test.YtifconapjfdkcaaGreatDoorDAX
import Derived.Test.YtifconapjfdkcaaGreatDoorDAY
import Derived.Test.YtifconapjfdkcaaGreatDoorDAZ
import Derived.Test.YtifconapjfdkcaaGreatDoorDBA
import Derived.Test.YtifconapjfdkcaaGreatDoorDBB
import Derived.Test.YtifconapjfdkcaaGreatDoorDBC
import Derived.Test.YtifconapjfdkcaaGreatDoorDBD
import Derived.Test.YtifconapjfdkcaaGreatDoorDBE
import Derived.Test.YtifconapjfdkcaaGreatDoorDBF
import Derived.Test.YtifconapjfdkcaaGreatDoorDBG
import Derived.Test.YtifconapjfdkcaaGreatDoorDBH
import Derived.Test.YtifconapjfdkcaaGreatDoorDBI
import Derived.Test.YtifconapjfdkcaaGreatDoorDBJ
set_option linter.unusedSimpArgs false
set_option linter.unusedVariables false
set_option maxRecDepth 100000
set_option maxHeartbeats 12800000
namespace Go.Proofs.YtifconapjfdkcaaGreatDoor
open Go.RowKit
theorem sickR_eq(s i a b c d:ByteArray):(s++(⟨#[115,105,99,107,32]⟩:ByteArray)++i++(⟨#[32]⟩:ByteArray)++(a++blankS++b)++(⟨#[32]⟩:ByteArray)++(c++blankS++d)++(⟨#[10]⟩:ByteArray)).data.toList=s.data.toList++(lineT [sickS,i,a,b,c,d]++[10]):=by
 rw[←sick_eq];simp only[dataApp,List.append_assoc]
theorem delayR_eq(s n a b m:ByteArray):(s++(⟨#[100,101,108,97,121,32]⟩:ByteArray)++(n++(⟨#[32]⟩:ByteArray)++(a++blankS++b))++(⟨#[32]⟩:ByteArray)++m++(⟨#[10]⟩:ByteArray)).data.toList=s.data.toList++(lineT [delayS,n,a,b,m]++[10]):=by
 rw[←delay_eq];simp only[dataApp,List.append_assoc,nl_eq]
theorem cancelR_eq(s n a b:ByteArray):(s++(⟨#[99,97,110,99,101,108,32]⟩:ByteArray)++(n++(⟨#[32]⟩:ByteArray)++(a++blankS++b))++(⟨#[10]⟩:ByteArray)).data.toList=s.data.toList++(lineT [cancelS,n,a,b]++[10]):=by
 rw[←cancel_eq];simp only[dataApp,List.append_assoc,nl_eq]
theorem divertR_eq(s n a b p m:ByteArray):(s++(⟨#[100,105,118,101,114,116,32]⟩:ByteArray)++(n++(⟨#[32]⟩:ByteArray)++(a++blankS++b))++(⟨#[32]⟩:ByteArray)++p++(⟨#[32]⟩:ByteArray)++m++(⟨#[10]⟩:ByteArray)).data.toList=s.data.toList++(lineT [divertS,n,a,b,p,m]++[10]):=by
 rw[←divert_eq];simp only[dataApp,List.append_assoc,nl_eq]
theorem instant40_any(t:Int)(w:World)(h0:0≤t)(h1:t<52596000)(hp:Pow10 w):Calls Tryz.prog 59 #[.int .i64 t] w (StrB (insD t++blankS++insC t) w):=by
 go_enter Tryz.func59,Tryz.ntmps59
 go_wp2_with fail
 refine(formatInstantR_any t w h0 h1 hp).mono ?_;rintro e w1 ⟨s,rfl,hi,hb⟩;have HI:=qH (hi.eqT h0 h1);clear hi;go_wp2_with fail
 go_ret
 exact⟨by rw[HI.out];rfl,hb⟩
theorem formatR_ok(t:GTT)(ps:List GPerson)(l:List GInc)(A1 A2 A3 A4 A5:Option Addr)(n1 n2 n3 n4 n5 c1 c2 c3 c4 c5:Nat)(w:World)(ht:t.ok)(hp : ∀ p∈ps,p.ok)(hs1:Sl Ty.zone w (all_ w) A1 n1 c1 t.zones)(hs2:Sl Ty.airport w (all_ w) A2 n2 c2 t.airports)(hs3:Sl Ty.flight w (all_ w) A3 n3 c3 t.flights)(hs4:Sl Ty.person w (all_ w) A4 n4 c4 ps)(hs5:Sl Ty.inc w (all_ w) A5 n5 c5 l)(hv:incE t ps l=0)(hpw:Pow10 w) :
 Calls Tryz.prog 25 #[.agg #[.slice A1 n1 c1,.slice A2 n2 c2,.slice A3 n3 c3],.slice A4 n4 c4,.slice A5 n5 c5] w (FmtPost (incS t l,0) w):=by
 obtain⟨hl32,hgood⟩:=incE_good hv;have HG:=qH hgood;have e5:n5≤l.length:=Nat.le_of_eq hs5.len;have e5':l.length≤n5:=Nat.le_of_eq hs5.len.symm;have e3:t.flights.length≤n3:=Nat.le_of_eq hs3.len.symm;have hsz9:=incS_size hv;have ha : ∀ o,Below w.heap.size w (w.alloc o):=fun o=>(qC _ _).alloc (qD _) _
 have HV:Hid (∀ o,Calls Tryz.prog 17 #[.agg #[.slice A1 n1 c1,.slice A2 n2 c2,.slice A3 n3 c3],.slice A4 n4 c4,.slice A5 n5 c5] (w.alloc o) (ErrPost 0 (w.alloc o))):=fun o=>hv▸validate40_any t ps l A1 A2 A3 A4 A5 n1 n2 n3 n4 n5 c1 c2 c3 c4 c5 (w.alloc o) ht hp (hs1.next (ha o)) (hs2.next (ha o)) (hs3.next (ha o)) (hs4.next (ha o)) (hs5.next (ha o))
 have HS:=qH (And.intro hs3 hs5);have HPW:Hid (∀ V,Below w.heap.size w V→Pow10 V):=fun V hV=>hpw.next hV
 have hB0:=ha (.cells #[.slice A1 n1 c1,.slice A2 n2 c2,.slice A3 n3 c3] 27);have hX0:=qK w (.cells #[.slice A1 n1 c1,.slice A2 n2 c2,.slice A3 n3 c3] 27);have hZ0:(w.alloc (.cells #[.slice A1 n1 c1,.slice A2 n2 c2,.slice A3 n3 c3] 27)).heap.size=w.heap.size+1:=by simp
 have HB0:=qH hB0;have HX0:=qH hX0;have HZ0:=qH hZ0;clear hgood hs1 hs2 hs3 hs4 hs5 hv ht hp hpw ha hB0 hX0 hZ0
 go_enter Tryz.func25,Tryz.ntmps25
 go_wp2_with fail
 refine(HV.out _).mono ?_;clear HV;generalize w.alloc (.cells #[.slice A1 n1 c1,.slice A2 n2 c2,.slice A3 n3 c3] 27)=W at*;rintro e w1 ⟨rfl,hb1⟩;have hbw:Below w.heap.size w w1:=HB0.out.trans (hb1.mono HB0.out.size);have hsw:w.heap.size+1≤w1.heap.size:=by have:=hb1.size;have:=HZ0.out;omega
 have hxt:=(hb1.block w.heap.size (by have:=HZ0.out;omega)).trans HX0.out;have HS3:=qH (HS.out.1.keep (all_keep hbw));have HS5:=qH (HS.out.2.keep (all_keep hbw));have HXT:Hid (∀ V,Below w1.heap.size w1 V→V.heap[w.heap.size]? = some (.cells #[.slice A1 n1 c1,.slice A2 n2 c2,.slice A3 n3 c3] 27 (0,0))):=fun V hV=>(hV.block _ (by omega)).trans hxt
 have HBW:=qH hbw;replace hsw:w.heap.size≤w1.heap.size:=by omega
 clear HS HB0 HX0 HZ0 hb1 hbw hxt;go_wp2_with fail
 go_loopw [9,10] (fun s i wr => ∃ (k:Nat) (sv:ByteArray),k≤n5∧s=.string sv∧i=.int .i64 k∧Hid (sv.data.toList=textT ((l.take k).map (incF t)))∧Hid (Below w1.heap.size w1 wr)) (fun _ i _=>n5-(intOf i).toNat)
 case atStart=>exact⟨0,_,qV _,rfl,rfl,rfl,qC _ _⟩
 case round =>
  obtain⟨k,s,hk,rfl,rfl,HS,HWR⟩:=hrel;have hlen:(textT ((l.take k).map (incF t))).length≤2560:=by
   have:=incs_up (l:=l.take k) fun x hx=>HG.out x (List.mem_of_mem_take hx)
   rw[List.length_take]at this;omega
  have hsz:s.size≤2560:=by rw[Lib.size_eq,HS.out];exact hlen
  by_cases hlt:k<n5
  ·have hks:k<l.length:=by omega
   obtain⟨b,o,rfl,hbS,hat⟩:=(HS5.out.keep (w':=wr) fun b hb=>HWR.out.block b (by unfold all_ at hb;omega)).inc_at hks;have hg:=HG.out _ (getD_in hks noInc);have HSN:Hid (textT ((l.take (k+1)).map (incF t))=textT ((l.take k).map (incF t))++(lineT (incF t (l.getD k noInc))++[10])):=by
    show _=_;rw[map_take_snoc _ hks noInc,textT_snoc]
   generalize l.getD k noInc=x at*;clear hlen;obtain⟨kind,fl,mi,ai,pe,⟨s1,s2⟩⟩:=x;have y0:wr.cell? ⟨b,o+k*7,none⟩=some (.int .i64 kind):=hat 0 _ rfl;have y1:=hat 1 _ rfl;have y2:=hat 2 _ rfl;have y3:=hat 3 _ rfl;have y4:=hat 4 _ rfl;have y5:=hat 5 _ rfl;have y6:=hat 6 _ rfl;simp only at y1 y2 y3 y4 y5 y6;have hkd:=hg.kind;simp only at hkd;clear hat;rcases hkd with rfl|rfl|rfl|rfl
   ·as_aux_lemma =>
     obtain⟨⟨hf0,hf1⟩,hn,hd0,hd1⟩:=hg.fl (show ¬((1:Int)=4) by decide);have hmi:=hg.min;have hai:=hg.air;simp only at hf0 hf1 hn hd0 hd1 hmi hai;have HL:Hid (lineT (incF t ⟨1,fl,mi,ai,pe,⟨s1,s2⟩⟩)=lineT [delayS,(t.flights.getD fl.toNat noFlight).number,insD (t.flights.getD fl.toNat noFlight).dep,insC (t.flights.getD fl.toNat noFlight).dep,numS mi]):=rfl;obtain⟨bf,of_,rfl,hbF,hat2⟩:=(HS3.out.keep (w':=wr) fun b hb=>HWR.out.block b (by unfold all_ at hb;omega)).flight_at hf1;have hbF':bf<w.heap.size:=hbF;generalize t.flights.getD fl.toNat noFlight=fx at*;have HI1:Hid (∀ V,Below w.heap.size w V→Calls Tryz.prog 59 #[.int .i64 fx.dep] V (StrB (insD fx.dep++blankS++insC fx.dep) V)):=fun V hV=>instant40_any fx.dep V (hd0) (hd1) (HPW.out V hV)
     have HN:Hid (∀ V,Below w.heap.size w V→Calls Tryz.prog 58 #[.int .i64 mi] V (StrB (numS mi) V)):=fun V hV=>formatIntR_any mi V (by omega) (by omega) (HPW.out V hV)
     have d3:=num_le (n:=mi) (by omega);have HE:=qH (delayR_eq s fx.number (insD fx.dep) (insC fx.dep) (numS mi));have d1:=ins_le (t:=fx.dep) ⟨hd0,hd1⟩;rw[←HL.out,HS.out, ←HSN.out]at HE;clear HL;generalize numS mi=nS at*;generalize insD fx.dep++blankS++insC fx.dep=iS at*;have hwa:Below wr.heap.size wr (wr.alloc (.cells #[.int .i64 1,.int .i64 fl,.int .i64 mi,.string ai,.int .i64 pe,.int .i64 s1,.int .i64 s2] 59)):=(qC _ _).alloc (qD _) _;have HXA:=qH (qK wr (.cells #[.int .i64 1,.int .i64 fl,.int .i64 mi,.string ai,.int .i64 pe,.int .i64 s1,.int .i64 s2] 59));have HWA:Hid (Below w1.heap.size w1 (wr.alloc (.cells #[.int .i64 1,.int .i64 fl,.int .i64 mi,.string ai,.int .i64 pe,.int .i64 s1,.int .i64 s2] 59))):=HWR.out.trans (hwa.mono HWR.out.size);have HPA:Hid (Below w.heap.size w (wr.alloc (.cells #[.int .i64 1,.int .i64 fl,.int .i64 mi,.string ai,.int .i64 pe,.int .i64 s1,.int .i64 s2] 59))):=HBW.out.trans (HWA.out.mono hsw);have hat:At (wr.alloc (.cells #[.int .i64 1,.int .i64 fl,.int .i64 mi,.string ai,.int .i64 pe,.int .i64 s1,.int .i64 s2] 59)) bf (of_+fl.toNat*9) (flightCells fx):=fun j u hu=>cell_kept (hat2 j u hu) hwa
     have HXT2:Hid ((wr.alloc (.cells #[.int .i64 1,.int .i64 fl,.int .i64 mi,.string ai,.int .i64 pe,.int .i64 s1,.int .i64 s2] 59)).heap[w.heap.size]? = _):=HXT.out _ HWA.out;clear hbS hwa hbF hat2 HWR;go_upto_region 11 with (fail)
     clear y0 y1 y2 y3 y4 y5 y6;generalize wr.alloc (.cells #[.int .i64 1,.int .i64 fl,.int .i64 mi,.string ai,.int .i64 pe,.int .i64 s1,.int .i64 s2] 59)=wa at*;generalize hbx:wr.heap.size=bx at*;have z1:wa.cell? ⟨bx,1,none⟩=some (.int .i64 fl):=block_cell HXA.out 1;have q2:wa.cell? ⟨w.heap.size,2,none⟩=some (.slice (some ⟨bf,of_,none⟩) n3 c3):=block_cell HXT2.out 2;have y0:wa.cell? ⟨bf,of_+fl.toNat*9,none⟩=some (.string fx.number):=hat 0 _ rfl;have y1:=hat 1 _ rfl;have y2:=hat 2 _ rfl;have y3:=hat 3 _ rfl;have y4:=hat 4 _ rfl;have y5:=hat 5 _ rfl;have y6:=hat 6 _ rfl;have y7:=hat 7 _ rfl;have y8:=hat 8 _ rfl;have hwb:Below wa.heap.size wa (wa.alloc (.cells #[.string fx.number,.string fx.src,.string fx.dst,.int .i64 fx.dep,.int .i64 fx.arr,.string fx.kind,.int .i64 fx.n0,.int .i64 fx.n1,.int .i64 fx.n2] 62)):=(qC _ _).alloc (qD _) _;have HYB:=qH (qK wa (.cells #[.string fx.number,.string fx.src,.string fx.dst,.int .i64 fx.dep,.int .i64 fx.arr,.string fx.kind,.int .i64 fx.n0,.int .i64 fx.n1,.int .i64 fx.n2] 62));have HXB:Hid ((wa.alloc (.cells #[.string fx.number,.string fx.src,.string fx.dst,.int .i64 fx.dep,.int .i64 fx.arr,.string fx.kind,.int .i64 fx.n0,.int .i64 fx.n1,.int .i64 fx.n2] 62)).heap[bx]? = _):=(hwb.block bx (Array.getElem?_eq_some_iff.1 HXA.out).1).trans HXA.out;have HWB:Hid (Below w1.heap.size w1 (wa.alloc (.cells #[.string fx.number,.string fx.src,.string fx.dst,.int .i64 fx.dep,.int .i64 fx.arr,.string fx.kind,.int .i64 fx.n0,.int .i64 fx.n1,.int .i64 fx.n2] 62))):=HWA.out.trans (hwb.mono HWA.out.size);have HPB:Hid (Below w.heap.size w (wa.alloc (.cells #[.string fx.number,.string fx.src,.string fx.dst,.int .i64 fx.dep,.int .i64 fx.arr,.string fx.kind,.int .i64 fx.n0,.int .i64 fx.n1,.int .i64 fx.n2] 62))):=HBW.out.trans (HWB.out.mono hsw);clear hat hwb HXT2 HWA HPA HXA;go_upto_region 12 with (fail)
     clear y0 y1 y2 y3 y4 y5 y6 y7 y8 z1 q2;generalize wa.alloc (.cells #[.string fx.number,.string fx.src,.string fx.dst,.int .i64 fx.dep,.int .i64 fx.arr,.string fx.kind,.int .i64 fx.n0,.int .i64 fx.n1,.int .i64 fx.n2] 62)=wb at*;generalize hby:wa.heap.size=by_ at*;obtain⟨Xb2,hXb2⟩ : ∃ X,fx.number++(⟨#[32]⟩:ByteArray)=X:=⟨_,rfl⟩
     have uXb2:Xb2.size≤fx.number.size+1:=by rw[←hXb2,qJ];exact qD _
     have HXb2:=qH hXb2;have vXb2:Hid (¬9223372036854775807<fx.number.size+1):=by show ¬_;omega
     obtain⟨Xb6,hXb6⟩ : ∃ X,Xb2++iS=X:=⟨_,rfl⟩
     have uXb6:Xb6.size≤Xb2.size+iS.size:=by rw[←hXb6,qJ];exact qD _
     have HXb6:=qH hXb6;have vXb6:Hid (¬9223372036854775807<Xb2.size+iS.size):=by show ¬_;omega
     clear hXb2 hXb6;have HNM:Hid (fx.number++(⟨#[32]⟩:ByteArray)++iS=Xb6):=by show _=_;rw[HXb2.out,HXb6.out]
     refine wp_region_vals (fun x y:World=>Below x.heap.size x y) (fun a b=>a.trans (b.mono a.size)) 8 [60,61,62,63,64,65,66,13] [.pointer (some ⟨by_,0,none⟩),.string fx.number,.string Xb2,.pointer (some ⟨by_,3,none⟩),.int .i64 fx.dep,.string iS,.string Xb6,.string Xb6] rfl (below_drewN (qC _ _) 1) (by kernel_rfl) (by kernel_rfl) (by kernel_rfl) (by kernel_rfl) ?_ ?_ ?_
     ·intro q hq hr;have hq':q=0∨q=1∨q=2∨q=3∨q=4∨q=5∨q=6∨q=7:=by omega
      rcases hq' with rfl|rfl|rfl|rfl|rfl|rfl|rfl|rfl
      ·exact absurd (show(true:Bool)=false from hr) (by decide)
      ·exact absurd (show(true:Bool)=false from hr) (by decide)
      ·exact absurd (show(true:Bool)=false from hr) (by decide)
      ·exact absurd (show(true:Bool)=false from hr) (by decide)
      ·exact absurd (show(true:Bool)=false from hr) (by decide)
      ·exact absurd (show(true:Bool)=false from hr) (by decide)
      ·exact absurd (show(true:Bool)=false from hr) (by decide)
      ·exact absurd (show(true:Bool)=false from hr) (by decide)
     ·intro q o' hq hr ho a' w' hR hout hpre K hK;have hq':q=0∨q=1∨q=2∨q=3∨q=4∨q=5∨q=6∨q=7:=by omega
      rcases hq' with rfl|rfl|rfl|rfl|rfl|rfl|rfl|rfl
      ·obtain rfl:=qB ho;have e12:a'.tmps[12]? = some (.pointer (some ⟨by_,0,none⟩)):=hout 12 (by decide);go_simp
       exact hK w' (qC _ _)
      ·obtain rfl:=qB ho;have p60:a'.tmps.getD 60 undef=.pointer (some ⟨by_,0,none⟩):=hpre ⟨0,.data⟩ (by simp) (by decide) 60 rfl;simp only[qA]at p60;have z0:=cell_kept (block_cell HYB.out 0) hR;go_simp
       exact hK w' (qC _ _)
      ·obtain rfl:=qB ho;have p61:a'.tmps.getD 61 undef=.string fx.number:=hpre ⟨1,.data⟩ (by simp) (by decide) 61 rfl;simp only[qA]at p61;have vv:=vXb2.out;go_simp
       exact(congrArg (fun v=>K (a'.put (some 62) v) w') (congrArg Value.string HXb2.out)).mpr (hK w' (qC _ _))
      ·obtain rfl:=qB ho;have e12:a'.tmps[12]? = some (.pointer (some ⟨by_,0,none⟩)):=hout 12 (by decide);go_simp
       exact hK w' (qC _ _)
      ·obtain rfl:=qB ho;have p63:a'.tmps.getD 63 undef=.pointer (some ⟨by_,3,none⟩):=hpre ⟨3,.data⟩ (by simp) (by decide) 63 rfl;simp only[qA]at p63;have z3:=cell_kept (block_cell HYB.out 3) hR;go_simp
       exact hK w' (qC _ _)
      ·obtain rfl:=qB ho;have p64:a'.tmps.getD 64 undef=.int .i64 fx.dep:=hpre ⟨4,.data⟩ (by simp) (by decide) 64 rfl;simp only[qA]at p64;go_simp
       go_at_call 59
       refine(HI1.out w' (HPB.out.trans (hR.mono HPB.out.size))).mono ?_;rintro e w'' ⟨rfl,hb''⟩;exact hK w'' hb''
      ·obtain rfl:=qB ho;have p62:a'.tmps.getD 62 undef=.string Xb2:=hpre ⟨2,.data⟩ (by simp) (by decide) 62 rfl;simp only[qA]at p62;have p65:a'.tmps.getD 65 undef=.string iS:=hpre ⟨5,.data⟩ (by simp) (by decide) 65 rfl;simp only[qA]at p65;have vv:=vXb6.out;go_simp
       exact(congrArg (fun v=>K (a'.put (some 66) v) w') (congrArg Value.string HXb6.out)).mpr (hK w' (qC _ _))
      ·obtain rfl:=qB ho;have p66:a'.tmps.getD 66 undef=.string Xb6:=hpre ⟨6,.data⟩ (by simp) (by decide) 66 rfl;simp only[qA]at p66;go_simp
       exact hK w' (qC _ _)
     intro wc hR;have HWC:Hid (Below w1.heap.size w1 wc):=HWB.out.trans (hR.mono HWB.out.size);have HPC:Hid (Below w.heap.size w wc):=HPB.out.trans (hR.mono HPB.out.size);have HXC:Hid (wc.heap[bx]? = _):=(hR.block bx (Array.getElem?_eq_some_iff.1 HXB.out).1).trans HXB.out;simp only[putV,Act.put,List.setIfInBounds_toArray,List.set_cons_zero,List.set_cons_succ,List.drop_succ_cons,List.drop_zero,List.drop_nil];rw[HNM.out]at HE;generalize Xb6=nm at*;clear hR HXB HWB HPB HYB HI1 hbx hby;have q0:=block_cell HXC.out 0;have k1 : ¬9223372036854775807<s.size+6:=by omega
     have k2 : ¬9223372036854775807<(s++(⟨#[100,101,108,97,121,32]⟩:ByteArray)).size+nm.size:=by rw[qJ,szDelay];omega
     have k3 : ¬9223372036854775807<(s++(⟨#[100,101,108,97,121,32]⟩:ByteArray)++nm).size+1:=by rw[qJ,qJ,szDelay];omega
     have k4 : ¬9223372036854775807<(s++(⟨#[100,101,108,97,121,32]⟩:ByteArray)++nm++(⟨#[32]⟩:ByteArray)).size+nS.size:=by rw[qJ,qJ,qJ,szDelay,sz1];omega
     have k5 : ¬9223372036854775807<(s++(⟨#[100,101,108,97,121,32]⟩:ByteArray)++nm++(⟨#[32]⟩:ByteArray)++nS).size+1:=by rw[qJ,qJ,qJ,qJ,szDelay,sz1];omega
     have q2:=block_cell HXC.out 2;go_wp2_with (go_at_call 58;refine(HN.out wc HPC.out).mono ?_;rintro e w' ⟨rfl,hb'⟩)
     have HW2:Hid (Below w1.heap.size w1 w'):=HWC.out.trans (hb'.mono HWC.out.size);have HS2:Hid _:=HE;clear hb';go_roundw
     case rel=>exact⟨k+1,_,by omega,rfl,by go_num,HS2,HW2⟩
     case measure=>simp[intOf];omega
   ·as_aux_lemma =>
     obtain⟨⟨hf0,hf1⟩,hn,hd0,hd1⟩:=hg.fl (show ¬((2:Int)=4) by decide);have hmi:=hg.min;have hai:=hg.air;simp only at hf0 hf1 hn hd0 hd1 hmi hai;have HL:Hid (lineT (incF t ⟨2,fl,mi,ai,pe,⟨s1,s2⟩⟩)=lineT [cancelS,(t.flights.getD fl.toNat noFlight).number,insD (t.flights.getD fl.toNat noFlight).dep,insC (t.flights.getD fl.toNat noFlight).dep]):=rfl;obtain⟨bf,of_,rfl,hbF,hat2⟩:=(HS3.out.keep (w':=wr) fun b hb=>HWR.out.block b (by unfold all_ at hb;omega)).flight_at hf1;have hbF':bf<w.heap.size:=hbF;generalize t.flights.getD fl.toNat noFlight=fx at*;have HI1:Hid (∀ V,Below w.heap.size w V→Calls Tryz.prog 59 #[.int .i64 fx.dep] V (StrB (insD fx.dep++blankS++insC fx.dep) V)):=fun V hV=>instant40_any fx.dep V (hd0) (hd1) (HPW.out V hV)
     have HE:=qH (cancelR_eq s fx.number (insD fx.dep) (insC fx.dep));have d1:=ins_le (t:=fx.dep) ⟨hd0,hd1⟩;rw[←HL.out,HS.out, ←HSN.out]at HE;clear HL;generalize insD fx.dep++blankS++insC fx.dep=iS at*;have hwa:Below wr.heap.size wr (wr.alloc (.cells #[.int .i64 2,.int .i64 fl,.int .i64 mi,.string ai,.int .i64 pe,.int .i64 s1,.int .i64 s2] 59)):=(qC _ _).alloc (qD _) _;have HXA:=qH (qK wr (.cells #[.int .i64 2,.int .i64 fl,.int .i64 mi,.string ai,.int .i64 pe,.int .i64 s1,.int .i64 s2] 59));have HWA:Hid (Below w1.heap.size w1 (wr.alloc (.cells #[.int .i64 2,.int .i64 fl,.int .i64 mi,.string ai,.int .i64 pe,.int .i64 s1,.int .i64 s2] 59))):=HWR.out.trans (hwa.mono HWR.out.size);have HPA:Hid (Below w.heap.size w (wr.alloc (.cells #[.int .i64 2,.int .i64 fl,.int .i64 mi,.string ai,.int .i64 pe,.int .i64 s1,.int .i64 s2] 59))):=HBW.out.trans (HWA.out.mono hsw);have hat:At (wr.alloc (.cells #[.int .i64 2,.int .i64 fl,.int .i64 mi,.string ai,.int .i64 pe,.int .i64 s1,.int .i64 s2] 59)) bf (of_+fl.toNat*9) (flightCells fx):=fun j u hu=>cell_kept (hat2 j u hu) hwa
     have HXT2:Hid ((wr.alloc (.cells #[.int .i64 2,.int .i64 fl,.int .i64 mi,.string ai,.int .i64 pe,.int .i64 s1,.int .i64 s2] 59)).heap[w.heap.size]? = _):=HXT.out _ HWA.out;clear hbS hwa hbF hat2 HWR;go_upto_region 11 with (fail)
     clear y0 y1 y2 y3 y4 y5 y6;generalize wr.alloc (.cells #[.int .i64 2,.int .i64 fl,.int .i64 mi,.string ai,.int .i64 pe,.int .i64 s1,.int .i64 s2] 59)=wa at*;generalize hbx:wr.heap.size=bx at*;have z1:wa.cell? ⟨bx,1,none⟩=some (.int .i64 fl):=block_cell HXA.out 1;have q2:wa.cell? ⟨w.heap.size,2,none⟩=some (.slice (some ⟨bf,of_,none⟩) n3 c3):=block_cell HXT2.out 2;have y0:wa.cell? ⟨bf,of_+fl.toNat*9,none⟩=some (.string fx.number):=hat 0 _ rfl;have y1:=hat 1 _ rfl;have y2:=hat 2 _ rfl;have y3:=hat 3 _ rfl;have y4:=hat 4 _ rfl;have y5:=hat 5 _ rfl;have y6:=hat 6 _ rfl;have y7:=hat 7 _ rfl;have y8:=hat 8 _ rfl;have hwb:Below wa.heap.size wa (wa.alloc (.cells #[.string fx.number,.string fx.src,.string fx.dst,.int .i64 fx.dep,.int .i64 fx.arr,.string fx.kind,.int .i64 fx.n0,.int .i64 fx.n1,.int .i64 fx.n2] 62)):=(qC _ _).alloc (qD _) _;have HYB:=qH (qK wa (.cells #[.string fx.number,.string fx.src,.string fx.dst,.int .i64 fx.dep,.int .i64 fx.arr,.string fx.kind,.int .i64 fx.n0,.int .i64 fx.n1,.int .i64 fx.n2] 62));have HXB:Hid ((wa.alloc (.cells #[.string fx.number,.string fx.src,.string fx.dst,.int .i64 fx.dep,.int .i64 fx.arr,.string fx.kind,.int .i64 fx.n0,.int .i64 fx.n1,.int .i64 fx.n2] 62)).heap[bx]? = _):=(hwb.block bx (Array.getElem?_eq_some_iff.1 HXA.out).1).trans HXA.out;have HWB:Hid (Below w1.heap.size w1 (wa.alloc (.cells #[.string fx.number,.string fx.src,.string fx.dst,.int .i64 fx.dep,.int .i64 fx.arr,.string fx.kind,.int .i64 fx.n0,.int .i64 fx.n1,.int .i64 fx.n2] 62))):=HWA.out.trans (hwb.mono HWA.out.size);have HPB:Hid (Below w.heap.size w (wa.alloc (.cells #[.string fx.number,.string fx.src,.string fx.dst,.int .i64 fx.dep,.int .i64 fx.arr,.string fx.kind,.int .i64 fx.n0,.int .i64 fx.n1,.int .i64 fx.n2] 62))):=HBW.out.trans (HWB.out.mono hsw);clear hat hwb HXT2 HWA HPA HXA;go_upto_region 12 with (fail)
     clear y0 y1 y2 y3 y4 y5 y6 y7 y8 z1 q2;generalize wa.alloc (.cells #[.string fx.number,.string fx.src,.string fx.dst,.int .i64 fx.dep,.int .i64 fx.arr,.string fx.kind,.int .i64 fx.n0,.int .i64 fx.n1,.int .i64 fx.n2] 62)=wb at*;generalize hby:wa.heap.size=by_ at*;obtain⟨Xb2,hXb2⟩ : ∃ X,fx.number++(⟨#[32]⟩:ByteArray)=X:=⟨_,rfl⟩
     have uXb2:Xb2.size≤fx.number.size+1:=by rw[←hXb2,qJ];exact qD _
     have HXb2:=qH hXb2;have vXb2:Hid (¬9223372036854775807<fx.number.size+1):=by show ¬_;omega
     obtain⟨Xb6,hXb6⟩ : ∃ X,Xb2++iS=X:=⟨_,rfl⟩
     have uXb6:Xb6.size≤Xb2.size+iS.size:=by rw[←hXb6,qJ];exact qD _
     have HXb6:=qH hXb6;have vXb6:Hid (¬9223372036854775807<Xb2.size+iS.size):=by show ¬_;omega
     clear hXb2 hXb6;have HNM:Hid (fx.number++(⟨#[32]⟩:ByteArray)++iS=Xb6):=by show _=_;rw[HXb2.out,HXb6.out]
     refine wp_region_vals (fun x y:World=>Below x.heap.size x y) (fun a b=>a.trans (b.mono a.size)) 8 [60,61,62,63,64,65,66,13] [.pointer (some ⟨by_,0,none⟩),.string fx.number,.string Xb2,.pointer (some ⟨by_,3,none⟩),.int .i64 fx.dep,.string iS,.string Xb6,.string Xb6] rfl (below_drewN (qC _ _) 1) (by kernel_rfl) (by kernel_rfl) (by kernel_rfl) (by kernel_rfl) ?_ ?_ ?_
     ·intro q hq hr;have hq':q=0∨q=1∨q=2∨q=3∨q=4∨q=5∨q=6∨q=7:=by omega
      rcases hq' with rfl|rfl|rfl|rfl|rfl|rfl|rfl|rfl
      ·exact absurd (show(true:Bool)=false from hr) (by decide)
      ·exact absurd (show(true:Bool)=false from hr) (by decide)
      ·exact absurd (show(true:Bool)=false from hr) (by decide)
      ·exact absurd (show(true:Bool)=false from hr) (by decide)
      ·exact absurd (show(true:Bool)=false from hr) (by decide)
      ·exact absurd (show(true:Bool)=false from hr) (by decide)
      ·exact absurd (show(true:Bool)=false from hr) (by decide)
      ·exact absurd (show(true:Bool)=false from hr) (by decide)
     ·intro q o' hq hr ho a' w' hR hout hpre K hK;have hq':q=0∨q=1∨q=2∨q=3∨q=4∨q=5∨q=6∨q=7:=by omega
      rcases hq' with rfl|rfl|rfl|rfl|rfl|rfl|rfl|rfl
      ·obtain rfl:=qB ho;have e12:a'.tmps[12]? = some (.pointer (some ⟨by_,0,none⟩)):=hout 12 (by decide);go_simp
       exact hK w' (qC _ _)
      ·obtain rfl:=qB ho;have p60:a'.tmps.getD 60 undef=.pointer (some ⟨by_,0,none⟩):=hpre ⟨0,.data⟩ (by simp) (by decide) 60 rfl;simp only[qA]at p60;have z0:=cell_kept (block_cell HYB.out 0) hR;go_simp
       exact hK w' (qC _ _)
      ·obtain rfl:=qB ho;have p61:a'.tmps.getD 61 undef=.string fx.number:=hpre ⟨1,.data⟩ (by simp) (by decide) 61 rfl;simp only[qA]at p61;have vv:=vXb2.out;go_simp
       exact(congrArg (fun v=>K (a'.put (some 62) v) w') (congrArg Value.string HXb2.out)).mpr (hK w' (qC _ _))
      ·obtain rfl:=qB ho;have e12:a'.tmps[12]? = some (.pointer (some ⟨by_,0,none⟩)):=hout 12 (by decide);go_simp
       exact hK w' (qC _ _)
      ·obtain rfl:=qB ho;have p63:a'.tmps.getD 63 undef=.pointer (some ⟨by_,3,none⟩):=hpre ⟨3,.data⟩ (by simp) (by decide) 63 rfl;simp only[qA]at p63;have z3:=cell_kept (block_cell HYB.out 3) hR;go_simp
       exact hK w' (qC _ _)
      ·obtain rfl:=qB ho;have p64:a'.tmps.getD 64 undef=.int .i64 fx.dep:=hpre ⟨4,.data⟩ (by simp) (by decide) 64 rfl;simp only[qA]at p64;go_simp
       go_at_call 59
       refine(HI1.out w' (HPB.out.trans (hR.mono HPB.out.size))).mono ?_;rintro e w'' ⟨rfl,hb''⟩;exact hK w'' hb''
      ·obtain rfl:=qB ho;have p62:a'.tmps.getD 62 undef=.string Xb2:=hpre ⟨2,.data⟩ (by simp) (by decide) 62 rfl;simp only[qA]at p62;have p65:a'.tmps.getD 65 undef=.string iS:=hpre ⟨5,.data⟩ (by simp) (by decide) 65 rfl;simp only[qA]at p65;have vv:=vXb6.out;go_simp
       exact(congrArg (fun v=>K (a'.put (some 66) v) w') (congrArg Value.string HXb6.out)).mpr (hK w' (qC _ _))
      ·obtain rfl:=qB ho;have p66:a'.tmps.getD 66 undef=.string Xb6:=hpre ⟨6,.data⟩ (by simp) (by decide) 66 rfl;simp only[qA]at p66;go_simp
       exact hK w' (qC _ _)
     intro wc hR;have HWC:Hid (Below w1.heap.size w1 wc):=HWB.out.trans (hR.mono HWB.out.size);have HPC:Hid (Below w.heap.size w wc):=HPB.out.trans (hR.mono HPB.out.size);have HXC:Hid (wc.heap[bx]? = _):=(hR.block bx (Array.getElem?_eq_some_iff.1 HXB.out).1).trans HXB.out;simp only[putV,Act.put,List.setIfInBounds_toArray,List.set_cons_zero,List.set_cons_succ,List.drop_succ_cons,List.drop_zero,List.drop_nil];rw[HNM.out]at HE;generalize Xb6=nm at*;clear hR HXB HWB HPB HYB HI1 hbx hby;have q0:=block_cell HXC.out 0;have k1 : ¬9223372036854775807<s.size+7:=by omega
     have k2 : ¬9223372036854775807<(s++(⟨#[99,97,110,99,101,108,32]⟩:ByteArray)).size+nm.size:=by rw[qJ,szCancel];omega
     have k3 : ¬9223372036854775807<(s++(⟨#[99,97,110,99,101,108,32]⟩:ByteArray)++nm).size+1:=by rw[qJ,qJ,szCancel];omega
     have HW2:=HWC;have HS2:Hid _:=HE;go_wp2_with fail
     go_roundw
     case rel=>exact⟨k+1,_,by omega,rfl,by go_num,HS2,HW2⟩
     case measure=>simp[intOf];omega
   ·as_aux_lemma =>
     obtain⟨⟨hf0,hf1⟩,hn,hd0,hd1⟩:=hg.fl (show ¬((3:Int)=4) by decide);have hmi:=hg.min;have hai:=hg.air;simp only at hf0 hf1 hn hd0 hd1 hmi hai;have HL:Hid (lineT (incF t ⟨3,fl,mi,ai,pe,⟨s1,s2⟩⟩)=lineT [divertS,(t.flights.getD fl.toNat noFlight).number,insD (t.flights.getD fl.toNat noFlight).dep,insC (t.flights.getD fl.toNat noFlight).dep,ai,numS mi]):=rfl;obtain⟨bf,of_,rfl,hbF,hat2⟩:=(HS3.out.keep (w':=wr) fun b hb=>HWR.out.block b (by unfold all_ at hb;omega)).flight_at hf1;have hbF':bf<w.heap.size:=hbF;generalize t.flights.getD fl.toNat noFlight=fx at*;have HI1:Hid (∀ V,Below w.heap.size w V→Calls Tryz.prog 59 #[.int .i64 fx.dep] V (StrB (insD fx.dep++blankS++insC fx.dep) V)):=fun V hV=>instant40_any fx.dep V (hd0) (hd1) (HPW.out V hV)
     have HN:Hid (∀ V,Below w.heap.size w V→Calls Tryz.prog 58 #[.int .i64 mi] V (StrB (numS mi) V)):=fun V hV=>formatIntR_any mi V (by omega) (by omega) (HPW.out V hV)
     have d3:=num_le (n:=mi) (by omega);have HE:=qH (divertR_eq s fx.number (insD fx.dep) (insC fx.dep) ai (numS mi));have d1:=ins_le (t:=fx.dep) ⟨hd0,hd1⟩;rw[←HL.out,HS.out, ←HSN.out]at HE;clear HL;generalize numS mi=nS at*;generalize insD fx.dep++blankS++insC fx.dep=iS at*;have hwa:Below wr.heap.size wr (wr.alloc (.cells #[.int .i64 3,.int .i64 fl,.int .i64 mi,.string ai,.int .i64 pe,.int .i64 s1,.int .i64 s2] 59)):=(qC _ _).alloc (qD _) _;have HXA:=qH (qK wr (.cells #[.int .i64 3,.int .i64 fl,.int .i64 mi,.string ai,.int .i64 pe,.int .i64 s1,.int .i64 s2] 59));have HWA:Hid (Below w1.heap.size w1 (wr.alloc (.cells #[.int .i64 3,.int .i64 fl,.int .i64 mi,.string ai,.int .i64 pe,.int .i64 s1,.int .i64 s2] 59))):=HWR.out.trans (hwa.mono HWR.out.size);have HPA:Hid (Below w.heap.size w (wr.alloc (.cells #[.int .i64 3,.int .i64 fl,.int .i64 mi,.string ai,.int .i64 pe,.int .i64 s1,.int .i64 s2] 59))):=HBW.out.trans (HWA.out.mono hsw);have hat:At (wr.alloc (.cells #[.int .i64 3,.int .i64 fl,.int .i64 mi,.string ai,.int .i64 pe,.int .i64 s1,.int .i64 s2] 59)) bf (of_+fl.toNat*9) (flightCells fx):=fun j u hu=>cell_kept (hat2 j u hu) hwa
     have HXT2:Hid ((wr.alloc (.cells #[.int .i64 3,.int .i64 fl,.int .i64 mi,.string ai,.int .i64 pe,.int .i64 s1,.int .i64 s2] 59)).heap[w.heap.size]? = _):=HXT.out _ HWA.out;clear hbS hwa hbF hat2 HWR;go_upto_region 11 with (fail)
     clear y0 y1 y2 y3 y4 y5 y6;generalize wr.alloc (.cells #[.int .i64 3,.int .i64 fl,.int .i64 mi,.string ai,.int .i64 pe,.int .i64 s1,.int .i64 s2] 59)=wa at*;generalize hbx:wr.heap.size=bx at*;have z1:wa.cell? ⟨bx,1,none⟩=some (.int .i64 fl):=block_cell HXA.out 1;have q2:wa.cell? ⟨w.heap.size,2,none⟩=some (.slice (some ⟨bf,of_,none⟩) n3 c3):=block_cell HXT2.out 2;have y0:wa.cell? ⟨bf,of_+fl.toNat*9,none⟩=some (.string fx.number):=hat 0 _ rfl;have y1:=hat 1 _ rfl;have y2:=hat 2 _ rfl;have y3:=hat 3 _ rfl;have y4:=hat 4 _ rfl;have y5:=hat 5 _ rfl;have y6:=hat 6 _ rfl;have y7:=hat 7 _ rfl;have y8:=hat 8 _ rfl;have hwb:Below wa.heap.size wa (wa.alloc (.cells #[.string fx.number,.string fx.src,.string fx.dst,.int .i64 fx.dep,.int .i64 fx.arr,.string fx.kind,.int .i64 fx.n0,.int .i64 fx.n1,.int .i64 fx.n2] 62)):=(qC _ _).alloc (qD _) _;have HYB:=qH (qK wa (.cells #[.string fx.number,.string fx.src,.string fx.dst,.int .i64 fx.dep,.int .i64 fx.arr,.string fx.kind,.int .i64 fx.n0,.int .i64 fx.n1,.int .i64 fx.n2] 62));have HXB:Hid ((wa.alloc (.cells #[.string fx.number,.string fx.src,.string fx.dst,.int .i64 fx.dep,.int .i64 fx.arr,.string fx.kind,.int .i64 fx.n0,.int .i64 fx.n1,.int .i64 fx.n2] 62)).heap[bx]? = _):=(hwb.block bx (Array.getElem?_eq_some_iff.1 HXA.out).1).trans HXA.out;have HWB:Hid (Below w1.heap.size w1 (wa.alloc (.cells #[.string fx.number,.string fx.src,.string fx.dst,.int .i64 fx.dep,.int .i64 fx.arr,.string fx.kind,.int .i64 fx.n0,.int .i64 fx.n1,.int .i64 fx.n2] 62))):=HWA.out.trans (hwb.mono HWA.out.size);have HPB:Hid (Below w.heap.size w (wa.alloc (.cells #[.string fx.number,.string fx.src,.string fx.dst,.int .i64 fx.dep,.int .i64 fx.arr,.string fx.kind,.int .i64 fx.n0,.int .i64 fx.n1,.int .i64 fx.n2] 62))):=HBW.out.trans (HWB.out.mono hsw);clear hat hwb HXT2 HWA HPA HXA;go_upto_region 12 with (fail)
     clear y0 y1 y2 y3 y4 y5 y6 y7 y8 z1 q2;generalize wa.alloc (.cells #[.string fx.number,.string fx.src,.string fx.dst,.int .i64 fx.dep,.int .i64 fx.arr,.string fx.kind,.int .i64 fx.n0,.int .i64 fx.n1,.int .i64 fx.n2] 62)=wb at*;generalize hby:wa.heap.size=by_ at*;obtain⟨Xb2,hXb2⟩ : ∃ X,fx.number++(⟨#[32]⟩:ByteArray)=X:=⟨_,rfl⟩
     have uXb2:Xb2.size≤fx.number.size+1:=by rw[←hXb2,qJ];exact qD _
     have HXb2:=qH hXb2;have vXb2:Hid (¬9223372036854775807<fx.number.size+1):=by show ¬_;omega
     obtain⟨Xb6,hXb6⟩ : ∃ X,Xb2++iS=X:=⟨_,rfl⟩
     have uXb6:Xb6.size≤Xb2.size+iS.size:=by rw[←hXb6,qJ];exact qD _
     have HXb6:=qH hXb6;have vXb6:Hid (¬9223372036854775807<Xb2.size+iS.size):=by show ¬_;omega
     clear hXb2 hXb6;have HNM:Hid (fx.number++(⟨#[32]⟩:ByteArray)++iS=Xb6):=by show _=_;rw[HXb2.out,HXb6.out]
     refine wp_region_vals (fun x y:World=>Below x.heap.size x y) (fun a b=>a.trans (b.mono a.size)) 8 [60,61,62,63,64,65,66,13] [.pointer (some ⟨by_,0,none⟩),.string fx.number,.string Xb2,.pointer (some ⟨by_,3,none⟩),.int .i64 fx.dep,.string iS,.string Xb6,.string Xb6] rfl (below_drewN (qC _ _) 1) (by kernel_rfl) (by kernel_rfl) (by kernel_rfl) (by kernel_rfl) ?_ ?_ ?_
     ·intro q hq hr;have hq':q=0∨q=1∨q=2∨q=3∨q=4∨q=5∨q=6∨q=7:=by omega
      rcases hq' with rfl|rfl|rfl|rfl|rfl|rfl|rfl|rfl
      ·exact absurd (show(true:Bool)=false from hr) (by decide)
      ·exact absurd (show(true:Bool)=false from hr) (by decide)
      ·exact absurd (show(true:Bool)=false from hr) (by decide)
      ·exact absurd (show(true:Bool)=false from hr) (by decide)
      ·exact absurd (show(true:Bool)=false from hr) (by decide)
      ·exact absurd (show(true:Bool)=false from hr) (by decide)
      ·exact absurd (show(true:Bool)=false from hr) (by decide)
      ·exact absurd (show(true:Bool)=false from hr) (by decide)
     ·intro q o' hq hr ho a' w' hR hout hpre K hK;have hq':q=0∨q=1∨q=2∨q=3∨q=4∨q=5∨q=6∨q=7:=by omega
      rcases hq' with rfl|rfl|rfl|rfl|rfl|rfl|rfl|rfl
      ·obtain rfl:=qB ho;have e12:a'.tmps[12]? = some (.pointer (some ⟨by_,0,none⟩)):=hout 12 (by decide);go_simp
       exact hK w' (qC _ _)
      ·obtain rfl:=qB ho;have p60:a'.tmps.getD 60 undef=.pointer (some ⟨by_,0,none⟩):=hpre ⟨0,.data⟩ (by simp) (by decide) 60 rfl;simp only[qA]at p60;have z0:=cell_kept (block_cell HYB.out 0) hR;go_simp
       exact hK w' (qC _ _)
      ·obtain rfl:=qB ho;have p61:a'.tmps.getD 61 undef=.string fx.number:=hpre ⟨1,.data⟩ (by simp) (by decide) 61 rfl;simp only[qA]at p61;have vv:=vXb2.out;go_simp
       exact(congrArg (fun v=>K (a'.put (some 62) v) w') (congrArg Value.string HXb2.out)).mpr (hK w' (qC _ _))
      ·obtain rfl:=qB ho;have e12:a'.tmps[12]? = some (.pointer (some ⟨by_,0,none⟩)):=hout 12 (by decide);go_simp
       exact hK w' (qC _ _)
      ·obtain rfl:=qB ho;have p63:a'.tmps.getD 63 undef=.pointer (some ⟨by_,3,none⟩):=hpre ⟨3,.data⟩ (by simp) (by decide) 63 rfl;simp only[qA]at p63;have z3:=cell_kept (block_cell HYB.out 3) hR;go_simp
       exact hK w' (qC _ _)
      ·obtain rfl:=qB ho;have p64:a'.tmps.getD 64 undef=.int .i64 fx.dep:=hpre ⟨4,.data⟩ (by simp) (by decide) 64 rfl;simp only[qA]at p64;go_simp
       go_at_call 59
       refine(HI1.out w' (HPB.out.trans (hR.mono HPB.out.size))).mono ?_;rintro e w'' ⟨rfl,hb''⟩;exact hK w'' hb''
      ·obtain rfl:=qB ho;have p62:a'.tmps.getD 62 undef=.string Xb2:=hpre ⟨2,.data⟩ (by simp) (by decide) 62 rfl;simp only[qA]at p62;have p65:a'.tmps.getD 65 undef=.string iS:=hpre ⟨5,.data⟩ (by simp) (by decide) 65 rfl;simp only[qA]at p65;have vv:=vXb6.out;go_simp
       exact(congrArg (fun v=>K (a'.put (some 66) v) w') (congrArg Value.string HXb6.out)).mpr (hK w' (qC _ _))
      ·obtain rfl:=qB ho;have p66:a'.tmps.getD 66 undef=.string Xb6:=hpre ⟨6,.data⟩ (by simp) (by decide) 66 rfl;simp only[qA]at p66;go_simp
       exact hK w' (qC _ _)
     intro wc hR;have HWC:Hid (Below w1.heap.size w1 wc):=HWB.out.trans (hR.mono HWB.out.size);have HPC:Hid (Below w.heap.size w wc):=HPB.out.trans (hR.mono HPB.out.size);have HXC:Hid (wc.heap[bx]? = _):=(hR.block bx (Array.getElem?_eq_some_iff.1 HXB.out).1).trans HXB.out;simp only[putV,Act.put,List.setIfInBounds_toArray,List.set_cons_zero,List.set_cons_succ,List.drop_succ_cons,List.drop_zero,List.drop_nil];rw[HNM.out]at HE;generalize Xb6=nm at*;clear hR HXB HWB HPB HYB HI1 hbx hby;have q0:=block_cell HXC.out 0;go_upto_region 19 with (fail)
     clear q0;obtain⟨Xc1,hXc1⟩ : ∃ X,s++(⟨#[100,105,118,101,114,116,32]⟩:ByteArray)=X:=⟨_,rfl⟩
     have uXc1:Xc1.size≤s.size+7:=by rw[←hXc1,qJ];exact qD _
     have HXc1:=qH hXc1;have vXc1:Hid (¬9223372036854775807<s.size+7):=by show ¬_;omega
     obtain⟨Xc3,hXc3⟩ : ∃ X,Xc1++nm=X:=⟨_,rfl⟩
     have uXc3:Xc3.size≤Xc1.size+nm.size:=by rw[←hXc3,qJ];exact qD _
     have HXc3:=qH hXc3;have vXc3:Hid (¬9223372036854775807<Xc1.size+nm.size):=by show ¬_;omega
     obtain⟨Xc4,hXc4⟩ : ∃ X,Xc3++(⟨#[32]⟩:ByteArray)=X:=⟨_,rfl⟩
     have uXc4:Xc4.size≤Xc3.size+1:=by rw[←hXc4,qJ];exact qD _
     have HXc4:=qH hXc4;have vXc4:Hid (¬9223372036854775807<Xc3.size+1):=by show ¬_;omega
     obtain⟨Xc7,hXc7⟩ : ∃ X,Xc4++ai=X:=⟨_,rfl⟩
     have uXc7:Xc7.size≤Xc4.size+ai.size:=by rw[←hXc7,qJ];exact qD _
     have HXc7:=qH hXc7;have vXc7:Hid (¬9223372036854775807<Xc4.size+ai.size):=by show ¬_;omega
     obtain⟨Xc8,hXc8⟩ : ∃ X,Xc7++(⟨#[32]⟩:ByteArray)=X:=⟨_,rfl⟩
     have uXc8:Xc8.size≤Xc7.size+1:=by rw[←hXc8,qJ];exact qD _
     have HXc8:=qH hXc8;have vXc8:Hid (¬9223372036854775807<Xc7.size+1):=by show ¬_;omega
     obtain⟨Xc12,hXc12⟩ : ∃ X,Xc8++nS=X:=⟨_,rfl⟩
     have uXc12:Xc12.size≤Xc8.size+nS.size:=by rw[←hXc12,qJ];exact qD _
     have HXc12:=qH hXc12;have vXc12:Hid (¬9223372036854775807<Xc8.size+nS.size):=by show ¬_;omega
     obtain⟨Xc13,hXc13⟩ : ∃ X,Xc12++(⟨#[10]⟩:ByteArray)=X:=⟨_,rfl⟩
     have uXc13:Xc13.size≤Xc12.size+1:=by rw[←hXc13,qJ];exact qD _
     have HXc13:=qH hXc13;have vXc13:Hid (¬9223372036854775807<Xc12.size+1):=by show ¬_;omega
     clear hXc1 hXc3 hXc4 hXc7 hXc8 hXc12 hXc13;have HALL:Hid (s++(⟨#[100,105,118,101,114,116,32]⟩:ByteArray)++nm++(⟨#[32]⟩:ByteArray)++ai++(⟨#[32]⟩:ByteArray)++nS++(⟨#[10]⟩:ByteArray)=Xc13):=by show _=_;rw[HXc1.out,HXc3.out,HXc4.out,HXc7.out,HXc8.out,HXc12.out,HXc13.out]
     refine wp_region_vals (fun x y:World=>Below x.heap.size x y) (fun a b=>a.trans (b.mono a.size)) 14 [90,91,92,93,94,95,96,97,98,99,100,101,102,103] [.string s,.string Xc1,.string nm,.string Xc3,.string Xc4,.pointer (some ⟨bx,3,none⟩),.string ai,.string Xc7,.string Xc8,.pointer (some ⟨bx,2,none⟩),.int .i64 mi,.string nS,.string Xc12,.string Xc13] rfl (below_drewN (qC _ _) 1) (by kernel_rfl) (by kernel_rfl) (by kernel_rfl) (by kernel_rfl) ?_ ?_ ?_
     ·intro q hq hr;have hq':q=0∨q=1∨q=2∨q=3∨q=4∨q=5∨q=6∨q=7∨q=8∨q=9∨q=10∨q=11∨q=12∨q=13:=by omega
      rcases hq' with rfl|rfl|rfl|rfl|rfl|rfl|rfl|rfl|rfl|rfl|rfl|rfl|rfl|rfl
      ·exact absurd (show(true:Bool)=false from hr) (by decide)
      ·exact absurd (show(true:Bool)=false from hr) (by decide)
      ·exact absurd (show(true:Bool)=false from hr) (by decide)
      ·exact absurd (show(true:Bool)=false from hr) (by decide)
      ·exact absurd (show(true:Bool)=false from hr) (by decide)
      ·exact absurd (show(true:Bool)=false from hr) (by decide)
      ·exact absurd (show(true:Bool)=false from hr) (by decide)
      ·exact absurd (show(true:Bool)=false from hr) (by decide)
      ·exact absurd (show(true:Bool)=false from hr) (by decide)
      ·exact absurd (show(true:Bool)=false from hr) (by decide)
      ·exact absurd (show(true:Bool)=false from hr) (by decide)
      ·exact absurd (show(true:Bool)=false from hr) (by decide)
      ·exact absurd (show(true:Bool)=false from hr) (by decide)
      ·exact absurd (show(true:Bool)=false from hr) (by decide)
     ·intro q o' hq hr ho a' w' hR hout hpre K hK;have hq':q=0∨q=1∨q=2∨q=3∨q=4∨q=5∨q=6∨q=7∨q=8∨q=9∨q=10∨q=11∨q=12∨q=13:=by omega
      rcases hq' with rfl|rfl|rfl|rfl|rfl|rfl|rfl|rfl|rfl|rfl|rfl|rfl|rfl|rfl
      ·obtain rfl:=qB ho;have e9:a'.tmps[9]? = some (.string s):=hout 9 (by decide);go_simp
       exact hK w' (qC _ _)
      ·obtain rfl:=qB ho;have p90:a'.tmps.getD 90 undef=.string s:=hpre ⟨0,.data⟩ (by simp) (by decide) 90 rfl;simp only[qA]at p90;have vv:=vXc1.out;go_simp
       exact(congrArg (fun v=>K (a'.put (some 91) v) w') (congrArg Value.string HXc1.out)).mpr (hK w' (qC _ _))
      ·obtain rfl:=qB ho;have e13:a'.tmps[13]? = some (.string nm):=hout 13 (by decide);go_simp
       exact hK w' (qC _ _)
      ·obtain rfl:=qB ho;have p91:a'.tmps.getD 91 undef=.string Xc1:=hpre ⟨1,.data⟩ (by simp) (by decide) 91 rfl;simp only[qA]at p91;have p92:a'.tmps.getD 92 undef=.string nm:=hpre ⟨2,.data⟩ (by simp) (by decide) 92 rfl;simp only[qA]at p92;have vv:=vXc3.out;go_simp
       exact(congrArg (fun v=>K (a'.put (some 93) v) w') (congrArg Value.string HXc3.out)).mpr (hK w' (qC _ _))
      ·obtain rfl:=qB ho;have p93:a'.tmps.getD 93 undef=.string Xc3:=hpre ⟨3,.data⟩ (by simp) (by decide) 93 rfl;simp only[qA]at p93;have vv:=vXc4.out;go_simp
       exact(congrArg (fun v=>K (a'.put (some 94) v) w') (congrArg Value.string HXc4.out)).mpr (hK w' (qC _ _))
      ·obtain rfl:=qB ho;have e11:a'.tmps[11]? = some (.pointer (some ⟨bx,0,none⟩)):=hout 11 (by decide);go_simp
       exact hK w' (qC _ _)
      ·obtain rfl:=qB ho;have p95:a'.tmps.getD 95 undef=.pointer (some ⟨bx,3,none⟩):=hpre ⟨5,.data⟩ (by simp) (by decide) 95 rfl;simp only[qA]at p95;have z3:=cell_kept (block_cell HXC.out 3) hR;go_simp
       exact hK w' (qC _ _)
      ·obtain rfl:=qB ho;have p94:a'.tmps.getD 94 undef=.string Xc4:=hpre ⟨4,.data⟩ (by simp) (by decide) 94 rfl;simp only[qA]at p94;have p96:a'.tmps.getD 96 undef=.string ai:=hpre ⟨6,.data⟩ (by simp) (by decide) 96 rfl;simp only[qA]at p96;have vv:=vXc7.out;go_simp
       exact(congrArg (fun v=>K (a'.put (some 97) v) w') (congrArg Value.string HXc7.out)).mpr (hK w' (qC _ _))
      ·obtain rfl:=qB ho;have p97:a'.tmps.getD 97 undef=.string Xc7:=hpre ⟨7,.data⟩ (by simp) (by decide) 97 rfl;simp only[qA]at p97;have vv:=vXc8.out;go_simp
       exact(congrArg (fun v=>K (a'.put (some 98) v) w') (congrArg Value.string HXc8.out)).mpr (hK w' (qC _ _))
      ·obtain rfl:=qB ho;have e11:a'.tmps[11]? = some (.pointer (some ⟨bx,0,none⟩)):=hout 11 (by decide);go_simp
       exact hK w' (qC _ _)
      ·obtain rfl:=qB ho;have p99:a'.tmps.getD 99 undef=.pointer (some ⟨bx,2,none⟩):=hpre ⟨9,.data⟩ (by simp) (by decide) 99 rfl;simp only[qA]at p99;have z2:=cell_kept (block_cell HXC.out 2) hR;go_simp
       exact hK w' (qC _ _)
      ·obtain rfl:=qB ho;have p100:a'.tmps.getD 100 undef=.int .i64 mi:=hpre ⟨10,.data⟩ (by simp) (by decide) 100 rfl;simp only[qA]at p100;go_simp
       go_at_call 58
       refine(HN.out w' (HPC.out.trans (hR.mono HPC.out.size))).mono ?_;rintro e w'' ⟨rfl,hb''⟩;exact hK w'' hb''
      ·obtain rfl:=qB ho;have p98:a'.tmps.getD 98 undef=.string Xc8:=hpre ⟨8,.data⟩ (by simp) (by decide) 98 rfl;simp only[qA]at p98;have p101:a'.tmps.getD 101 undef=.string nS:=hpre ⟨11,.data⟩ (by simp) (by decide) 101 rfl;simp only[qA]at p101;have vv:=vXc12.out;go_simp
       exact(congrArg (fun v=>K (a'.put (some 102) v) w') (congrArg Value.string HXc12.out)).mpr (hK w' (qC _ _))
      ·obtain rfl:=qB ho;have p102:a'.tmps.getD 102 undef=.string Xc12:=hpre ⟨12,.data⟩ (by simp) (by decide) 102 rfl;simp only[qA]at p102;have vv:=vXc13.out;go_simp
       exact(congrArg (fun v=>K (a'.put (some 103) v) w') (congrArg Value.string HXc13.out)).mpr (hK w' (qC _ _))
     intro w' hR;have HW2:Hid (Below w1.heap.size w1 w'):=HWC.out.trans (hR.mono HWC.out.size);have HS2:Hid (Xc13.data.toList=textT ((l.take (k+1)).map (incF t))):=by
      show _=_;rw[←HALL.out];exact HE.out
     simp only[putV,Act.put,List.setIfInBounds_toArray,List.set_cons_zero,List.set_cons_succ,List.drop_succ_cons,List.drop_zero,List.drop_nil];clear hR;go_wp2_with fail
     go_roundw
     case rel=>exact⟨k+1,_,by omega,rfl,by go_num,HS2,HW2⟩
     case measure=>simp[intOf];omega
   ·as_aux_lemma =>
     obtain⟨hp1,hp2,hp3,hp4⟩:=hg.sick rfl;simp only at hp1 hp2 hp3 hp4;have HI1:Hid (∀ V,Below w.heap.size w V→Calls Tryz.prog 59 #[.int .i64 s1] V (StrB (insD s1++blankS++insC s1) V)):=fun V hV=>instant40_any s1 V (by omega) (by omega) (HPW.out V hV)
     have HI2:Hid (∀ V,Below w.heap.size w V→Calls Tryz.prog 59 #[.int .i64 (s2-1)] V (StrB (insD (s2-1)++blankS++insC (s2-1)) V)):=fun V hV=>instant40_any (s2-1) V (by omega) (by omega) (HPW.out V hV)
     have HN:Hid (∀ V,Below w.heap.size w V→Calls Tryz.prog 58 #[.int .i64 pe] V (StrB (numS pe) V)):=fun V hV=>formatIntR_any pe V (by omega) (by omega) (HPW.out V hV)
     have HE:=qH (sickR_eq s (numS pe) (insD s1) (insC s1) (insD (s2-1)) (insC (s2-1)));have HL:Hid (lineT (incF t ⟨4,fl,mi,ai,pe,⟨s1,s2⟩⟩)=lineT [sickS,numS pe,insD s1,insC s1,insD (s2-1),insC (s2-1)]):=rfl;have d1:=ins_le (t:=s1) (by omega);have d2:=ins_le (t:=s2-1) (by omega);have d3:=num_le (n:=pe) (by omega);have HSUB:Hid (IntKind.i64.wrap (s2-1)=s2-1):=qM _ (by omega);rw[←HL.out,HS.out, ←HSN.out]at HE;clear HL;generalize numS pe=nS at*;generalize insD s1++blankS++insC s1=iS at*;generalize insD (s2-1)++blankS++insC (s2-1)=jS at*;have hwa:Below wr.heap.size wr (wr.alloc (.cells #[.int .i64 4,.int .i64 fl,.int .i64 mi,.string ai,.int .i64 pe,.int .i64 s1,.int .i64 s2] 59)):=(qC _ _).alloc (qD _) _;have HXA:=qH (qK wr (.cells #[.int .i64 4,.int .i64 fl,.int .i64 mi,.string ai,.int .i64 pe,.int .i64 s1,.int .i64 s2] 59));have HWA:Hid (Below w1.heap.size w1 (wr.alloc (.cells #[.int .i64 4,.int .i64 fl,.int .i64 mi,.string ai,.int .i64 pe,.int .i64 s1,.int .i64 s2] 59))):=HWR.out.trans (hwa.mono HWR.out.size);have HPA:Hid (Below w.heap.size w (wr.alloc (.cells #[.int .i64 4,.int .i64 fl,.int .i64 mi,.string ai,.int .i64 pe,.int .i64 s1,.int .i64 s2] 59))):=HBW.out.trans (HWA.out.mono hsw);clear hbS hwa hp1 hp2 hp3 hp4 hg HWR;go_upto_region 10 with (fail)
     clear y0 y1 y2 y3 y4 y5 y6;generalize wr.alloc (.cells #[.int .i64 4,.int .i64 fl,.int .i64 mi,.string ai,.int .i64 pe,.int .i64 s1,.int .i64 s2] 59)=wa at*;generalize hbx:wr.heap.size=bx at*;obtain⟨Xa1,hXa1⟩ : ∃ X,s++(⟨#[115,105,99,107,32]⟩:ByteArray)=X:=⟨_,rfl⟩
     have uXa1:Xa1.size≤s.size+5:=by rw[←hXa1,qJ];exact qD _
     have HXa1:=qH hXa1;have vXa1:Hid (¬9223372036854775807<s.size+5):=by show ¬_;omega
     obtain⟨Xa5,hXa5⟩ : ∃ X,Xa1++nS=X:=⟨_,rfl⟩
     have uXa5:Xa5.size≤Xa1.size+nS.size:=by rw[←hXa5,qJ];exact qD _
     have HXa5:=qH hXa5;have vXa5:Hid (¬9223372036854775807<Xa1.size+nS.size):=by show ¬_;omega
     obtain⟨Xa6,hXa6⟩ : ∃ X,Xa5++(⟨#[32]⟩:ByteArray)=X:=⟨_,rfl⟩
     have uXa6:Xa6.size≤Xa5.size+1:=by rw[←hXa6,qJ];exact qD _
     have HXa6:=qH hXa6;have vXa6:Hid (¬9223372036854775807<Xa5.size+1):=by show ¬_;omega
     obtain⟨Xa11,hXa11⟩ : ∃ X,Xa6++iS=X:=⟨_,rfl⟩
     have uXa11:Xa11.size≤Xa6.size+iS.size:=by rw[←hXa11,qJ];exact qD _
     have HXa11:=qH hXa11;have vXa11:Hid (¬9223372036854775807<Xa6.size+iS.size):=by show ¬_;omega
     obtain⟨Xa12,hXa12⟩ : ∃ X,Xa11++(⟨#[32]⟩:ByteArray)=X:=⟨_,rfl⟩
     have uXa12:Xa12.size≤Xa11.size+1:=by rw[←hXa12,qJ];exact qD _
     have HXa12:=qH hXa12;have vXa12:Hid (¬9223372036854775807<Xa11.size+1):=by show ¬_;omega
     obtain⟨Xa18,hXa18⟩ : ∃ X,Xa12++jS=X:=⟨_,rfl⟩
     have uXa18:Xa18.size≤Xa12.size+jS.size:=by rw[←hXa18,qJ];exact qD _
     have HXa18:=qH hXa18;have vXa18:Hid (¬9223372036854775807<Xa12.size+jS.size):=by show ¬_;omega
     obtain⟨Xa19,hXa19⟩ : ∃ X,Xa18++(⟨#[10]⟩:ByteArray)=X:=⟨_,rfl⟩
     have uXa19:Xa19.size≤Xa18.size+1:=by rw[←hXa19,qJ];exact qD _
     have HXa19:=qH hXa19;have vXa19:Hid (¬9223372036854775807<Xa18.size+1):=by show ¬_;omega
     clear hXa1 hXa5 hXa6 hXa11 hXa12 hXa18 hXa19;have HALL:Hid (s++(⟨#[115,105,99,107,32]⟩:ByteArray)++nS++(⟨#[32]⟩:ByteArray)++iS++(⟨#[32]⟩:ByteArray)++jS++(⟨#[10]⟩:ByteArray)=Xa19):=by show _=_;rw[HXa1.out,HXa5.out,HXa6.out,HXa11.out,HXa12.out,HXa18.out,HXa19.out]
     refine wp_region_vals (fun x y:World=>Below x.heap.size x y) (fun a b=>a.trans (b.mono a.size)) 20 [34,35,36,37,38,39,40,41,42,43,44,45,46,47,48,49,50,51,52,53] [.string s,.string Xa1,.pointer (some ⟨bx,4,none⟩),.int .i64 pe,.string nS,.string Xa5,.string Xa6,.pointer (some ⟨bx,5,none⟩),.pointer (some ⟨bx,5,none⟩),.int .i64 s1,.string iS,.string Xa11,.string Xa12,.pointer (some ⟨bx,5,none⟩),.pointer (some ⟨bx,6,none⟩),.int .i64 s2,.int .i64 (s2-1),.string jS,.string Xa18,.string Xa19] rfl (below_drewN (qC _ _) 1) (by kernel_rfl) (by kernel_rfl) (by kernel_rfl) (by kernel_rfl) ?_ ?_ ?_
     ·intro q hq hr;have hq':q=0∨q=1∨q=2∨q=3∨q=4∨q=5∨q=6∨q=7∨q=8∨q=9∨q=10∨q=11∨q=12∨q=13∨q=14∨q=15∨q=16∨q=17∨q=18∨q=19:=by omega
      rcases hq' with rfl|rfl|rfl|rfl|rfl|rfl|rfl|rfl|rfl|rfl|rfl|rfl|rfl|rfl|rfl|rfl|rfl|rfl|rfl|rfl
      ·exact absurd (show(true:Bool)=false from hr) (by decide)
      ·exact absurd (show(true:Bool)=false from hr) (by decide)
      ·exact absurd (show(true:Bool)=false from hr) (by decide)
      ·exact absurd (show(true:Bool)=false from hr) (by decide)
      ·exact absurd (show(true:Bool)=false from hr) (by decide)
      ·exact absurd (show(true:Bool)=false from hr) (by decide)
      ·exact absurd (show(true:Bool)=false from hr) (by decide)
      ·exact absurd (show(true:Bool)=false from hr) (by decide)
      ·exact absurd (show(true:Bool)=false from hr) (by decide)
      ·exact absurd (show(true:Bool)=false from hr) (by decide)
      ·exact absurd (show(true:Bool)=false from hr) (by decide)
      ·exact absurd (show(true:Bool)=false from hr) (by decide)
      ·exact absurd (show(true:Bool)=false from hr) (by decide)
      ·exact absurd (show(true:Bool)=false from hr) (by decide)
      ·exact absurd (show(true:Bool)=false from hr) (by decide)
      ·exact absurd (show(true:Bool)=false from hr) (by decide)
      ·exact absurd (show(true:Bool)=false from hr) (by decide)
      ·exact absurd (show(true:Bool)=false from hr) (by decide)
      ·exact absurd (show(true:Bool)=false from hr) (by decide)
      ·exact absurd (show(true:Bool)=false from hr) (by decide)
     ·intro q o' hq hr ho a' w' hR hout hpre K hK;have hq':q=0∨q=1∨q=2∨q=3∨q=4∨q=5∨q=6∨q=7∨q=8∨q=9∨q=10∨q=11∨q=12∨q=13∨q=14∨q=15∨q=16∨q=17∨q=18∨q=19:=by omega
      rcases hq' with rfl|rfl|rfl|rfl|rfl|rfl|rfl|rfl|rfl|rfl|rfl|rfl|rfl|rfl|rfl|rfl|rfl|rfl|rfl|rfl
      ·obtain rfl:=qB ho;have e9:a'.tmps[9]? = some (.string s):=hout 9 (by decide);go_simp
       exact hK w' (qC _ _)
      ·obtain rfl:=qB ho;have p34:a'.tmps.getD 34 undef=.string s:=hpre ⟨0,.data⟩ (by simp) (by decide) 34 rfl;simp only[qA]at p34;have vv:=vXa1.out;go_simp
       exact(congrArg (fun v=>K (a'.put (some 35) v) w') (congrArg Value.string HXa1.out)).mpr (hK w' (qC _ _))
      ·obtain rfl:=qB ho;have e11:a'.tmps[11]? = some (.pointer (some ⟨bx,0,none⟩)):=hout 11 (by decide);go_simp
       exact hK w' (qC _ _)
      ·obtain rfl:=qB ho;have p36:a'.tmps.getD 36 undef=.pointer (some ⟨bx,4,none⟩):=hpre ⟨2,.data⟩ (by simp) (by decide) 36 rfl;simp only[qA]at p36;have z4:=cell_kept (block_cell HXA.out 4) hR;go_simp
       exact hK w' (qC _ _)
      ·obtain rfl:=qB ho;have p37:a'.tmps.getD 37 undef=.int .i64 pe:=hpre ⟨3,.data⟩ (by simp) (by decide) 37 rfl;simp only[qA]at p37;go_simp
       go_at_call 58
       refine(HN.out w' (HPA.out.trans (hR.mono HPA.out.size))).mono ?_;rintro e w'' ⟨rfl,hb''⟩;exact hK w'' hb''
      ·obtain rfl:=qB ho;have p35:a'.tmps.getD 35 undef=.string Xa1:=hpre ⟨1,.data⟩ (by simp) (by decide) 35 rfl;simp only[qA]at p35;have p38:a'.tmps.getD 38 undef=.string nS:=hpre ⟨4,.data⟩ (by simp) (by decide) 38 rfl;simp only[qA]at p38;have vv:=vXa5.out;go_simp
       exact(congrArg (fun v=>K (a'.put (some 39) v) w') (congrArg Value.string HXa5.out)).mpr (hK w' (qC _ _))
      ·obtain rfl:=qB ho;have p39:a'.tmps.getD 39 undef=.string Xa5:=hpre ⟨5,.data⟩ (by simp) (by decide) 39 rfl;simp only[qA]at p39;have vv:=vXa6.out;go_simp
       exact(congrArg (fun v=>K (a'.put (some 40) v) w') (congrArg Value.string HXa6.out)).mpr (hK w' (qC _ _))
      ·obtain rfl:=qB ho;have e11:a'.tmps[11]? = some (.pointer (some ⟨bx,0,none⟩)):=hout 11 (by decide);go_simp
       exact hK w' (qC _ _)
      ·obtain rfl:=qB ho;have p41:a'.tmps.getD 41 undef=.pointer (some ⟨bx,5,none⟩):=hpre ⟨7,.data⟩ (by simp) (by decide) 41 rfl;simp only[qA]at p41;go_simp
       exact hK w' (qC _ _)
      ·obtain rfl:=qB ho;have p42:a'.tmps.getD 42 undef=.pointer (some ⟨bx,5,none⟩):=hpre ⟨8,.data⟩ (by simp) (by decide) 42 rfl;simp only[qA]at p42;have z5:=cell_kept (block_cell HXA.out 5) hR;go_simp
       exact hK w' (qC _ _)
      ·obtain rfl:=qB ho;have p43:a'.tmps.getD 43 undef=.int .i64 s1:=hpre ⟨9,.data⟩ (by simp) (by decide) 43 rfl;simp only[qA]at p43;go_simp
       go_at_call 59
       refine(HI1.out w' (HPA.out.trans (hR.mono HPA.out.size))).mono ?_;rintro e w'' ⟨rfl,hb''⟩;exact hK w'' hb''
      ·obtain rfl:=qB ho;have p40:a'.tmps.getD 40 undef=.string Xa6:=hpre ⟨6,.data⟩ (by simp) (by decide) 40 rfl;simp only[qA]at p40;have p44:a'.tmps.getD 44 undef=.string iS:=hpre ⟨10,.data⟩ (by simp) (by decide) 44 rfl;simp only[qA]at p44;have vv:=vXa11.out;go_simp
       exact(congrArg (fun v=>K (a'.put (some 45) v) w') (congrArg Value.string HXa11.out)).mpr (hK w' (qC _ _))
      ·obtain rfl:=qB ho;have p45:a'.tmps.getD 45 undef=.string Xa11:=hpre ⟨11,.data⟩ (by simp) (by decide) 45 rfl;simp only[qA]at p45;have vv:=vXa12.out;go_simp
       exact(congrArg (fun v=>K (a'.put (some 46) v) w') (congrArg Value.string HXa12.out)).mpr (hK w' (qC _ _))
      ·obtain rfl:=qB ho;have e11:a'.tmps[11]? = some (.pointer (some ⟨bx,0,none⟩)):=hout 11 (by decide);go_simp
       exact hK w' (qC _ _)
      ·obtain rfl:=qB ho;have p47:a'.tmps.getD 47 undef=.pointer (some ⟨bx,5,none⟩):=hpre ⟨13,.data⟩ (by simp) (by decide) 47 rfl;simp only[qA]at p47;go_simp
       exact hK w' (qC _ _)
      ·obtain rfl:=qB ho;have p48:a'.tmps.getD 48 undef=.pointer (some ⟨bx,6,none⟩):=hpre ⟨14,.data⟩ (by simp) (by decide) 48 rfl;simp only[qA]at p48;have z6:=cell_kept (block_cell HXA.out 6) hR;go_simp
       exact hK w' (qC _ _)
      ·obtain rfl:=qB ho;have p49:a'.tmps.getD 49 undef=.int .i64 s2:=hpre ⟨15,.data⟩ (by simp) (by decide) 49 rfl;simp only[qA]at p49;have hw:=HSUB.out;go_simp
       exact hK w' (qC _ _)
      ·obtain rfl:=qB ho;have p50:a'.tmps.getD 50 undef=.int .i64 (s2-1):=hpre ⟨16,.data⟩ (by simp) (by decide) 50 rfl;simp only[qA]at p50;go_simp
       go_at_call 59
       refine(HI2.out w' (HPA.out.trans (hR.mono HPA.out.size))).mono ?_;rintro e w'' ⟨rfl,hb''⟩;exact hK w'' hb''
      ·obtain rfl:=qB ho;have p46:a'.tmps.getD 46 undef=.string Xa12:=hpre ⟨12,.data⟩ (by simp) (by decide) 46 rfl;simp only[qA]at p46;have p51:a'.tmps.getD 51 undef=.string jS:=hpre ⟨17,.data⟩ (by simp) (by decide) 51 rfl;simp only[qA]at p51;have vv:=vXa18.out;go_simp
       exact(congrArg (fun v=>K (a'.put (some 52) v) w') (congrArg Value.string HXa18.out)).mpr (hK w' (qC _ _))
      ·obtain rfl:=qB ho;have p52:a'.tmps.getD 52 undef=.string Xa18:=hpre ⟨18,.data⟩ (by simp) (by decide) 52 rfl;simp only[qA]at p52;have vv:=vXa19.out;go_simp
       exact(congrArg (fun v=>K (a'.put (some 53) v) w') (congrArg Value.string HXa19.out)).mpr (hK w' (qC _ _))
     intro w' hR;have HW2:Hid (Below w1.heap.size w1 w'):=HWA.out.trans (hR.mono HWA.out.size);have HS2:Hid (Xa19.data.toList=textT ((l.take (k+1)).map (incF t))):=by
      show _=_;rw[←HALL.out];exact HE.out
     simp only[putV,Act.put,List.setIfInBounds_toArray,List.set_cons_zero,List.set_cons_succ,List.drop_succ_cons,List.drop_zero,List.drop_nil];clear hR;go_wp2_with fail
     go_roundw
     case rel=>exact⟨k+1,_,by omega,rfl,by go_num,HS2,HW2⟩
     case measure=>simp[intOf];omega
  ·have hkn:n5=k:=by omega
   subst hkn;rw[List.take_of_length_le (by omega)]at HS hlen;have hse:s=incS t l:=ext_bs HS.out;have hbig : ¬((20000:Int)<(s.size:Int)):=by omega
   have HBE:Hid (Below w.heap.size w wr):=HBW.out.trans (HWR.out.mono hsw);have HSE:=qH hse;clear hse HWR HS hlen;go_wp2_with fail
   go_ret2
   exact⟨by rw[HSE.out];rfl,HBE.out⟩
theorem formatR_any(t:GTT)(ps:List GPerson)(l:List GInc)(A1 A2 A3 A4 A5:Option Addr)(n1 n2 n3 n4 n5 c1 c2 c3 c4 c5:Nat)(w:World)(ht:t.ok)(hp : ∀ p∈ps,p.ok)(hs1:Sl Ty.zone w (all_ w) A1 n1 c1 t.zones)(hs2:Sl Ty.airport w (all_ w) A2 n2 c2 t.airports)(hs3:Sl Ty.flight w (all_ w) A3 n3 c3 t.flights)(hs4:Sl Ty.person w (all_ w) A4 n4 c4 ps)(hs5:Sl Ty.inc w (all_ w) A5 n5 c5 l)(hpw:Pow10 w) :
 Calls Tryz.prog 25 #[.agg #[.slice A1 n1 c1,.slice A2 n2 c2,.slice A3 n3 c3],.slice A4 n4 c4,.slice A5 n5 c5] w (FmtPost (fmtI t ps l) w):=by
 by_cases hv:incE t ps l=0
 ·rw[fmtI_zero hv];exact formatR_ok t ps l A1 A2 A3 A4 A5 n1 n2 n3 n4 n5 c1 c2 c3 c4 c5 w ht hp hs1 hs2 hs3 hs4 hs5 hv hpw
 ·unfold fmtI;rw[qR hv];have ha : ∀ o,Below w.heap.size w (w.alloc o):=fun o=>(qC _ _).alloc (qD _) _
  have HV:Hid (∀ o,Calls Tryz.prog 17 #[.agg #[.slice A1 n1 c1,.slice A2 n2 c2,.slice A3 n3 c3],.slice A4 n4 c4,.slice A5 n5 c5] (w.alloc o) (ErrPost (incE t ps l) (w.alloc o))):=fun o=>validate40_any t ps l A1 A2 A3 A4 A5 n1 n2 n3 n4 n5 c1 c2 c3 c4 c5 (w.alloc o) ht hp (hs1.next (ha o)) (hs2.next (ha o)) (hs3.next (ha o)) (hs4.next (ha o)) (hs5.next (ha o))
  have HB0:=qH (ha (.cells #[.slice A1 n1 c1,.slice A2 n2 c2,.slice A3 n3 c3] 27));generalize incE t ps l=er at*;have hv':(er != 0)=true:=by simpa using hv
  clear ha hs1 hs2 hs3 hs4 hs5 ht hp hpw
  go_enter Tryz.func25,Tryz.ntmps25
  go_wp2_with fail
  refine(HV.out _).mono ?_;rintro e w1 ⟨rfl,hb1⟩;have HB1:Hid (Below w.heap.size w w1):=HB0.out.trans (hb1.mono HB0.out.size);clear hb1 HB0 HV;go_wp2_with fail
  go_ret2
  exact⟨rfl,HB1.out⟩
end Go.Proofs.YtifconapjfdkcaaGreatDoor
