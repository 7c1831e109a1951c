/-
  Joined texts: Incs; CardLib. What each proves stands ahead of it, with its conditions.
-/
import Derived.Test.YtifconapjfdkcaaGreatDoorDAA
import Derived.Test.YtifconapjfdkcaaGreatDoorDAS
import Derived.Test.YtifconapjfdkcaaGreatDoorDBD
import Derived.Test.YtifconapjfdkcaaGreatDoorDBC
import Derived.Deep.DeepCutAuto
import Derived.Deep.CutBlock
import Derived.Deep.QuietTactic
import Derived.Laws.Tables
import Derived.Test.YtifconapjfdkcaaGreatDoorCards
import Derived.Test.YtifconapjfdkcaaGreatDoorTie
import Derived.WalkKit
import Derived.ProofKit
import Derived.OpenShut
import Derived.Deep.DeepHandedRow
import Derived.Lib.LaidTab
import Derived.PinnedBridge
import Derived.Lay
set_option linter.unusedSimpArgs false
set_option linter.unusedVariables false
set_option maxRecDepth 100000
set_option maxHeartbeats 12800000
namespace Go.Proofs.YtifconapjfdkcaaGreatDoor
section
open Go.RowKit
def dIncsN(t:GTT)(ps:List GPerson)(l:List Int)(k:Nat):List GInc:=(List.range k).map fun i=>dInc t ps (atL l (1+i))
theorem dIncsN_succ(t:GTT)(ps:List GPerson)(l:List Int)(k:Nat):dIncsN t ps l (k+1)=dIncsN t ps l k++[dInc t ps (atL l (1+k))]:=by
 unfold dIncsN;rw[List.range_succ,List.map_append];rfl
theorem dIncsN_len(t:GTT)(ps:List GPerson)(l:List Int)(k:Nat):(dIncsN t ps l k).length=k:=by simp[dIncsN]
theorem code_cell(r:Nat)(hr:r<3)(V:World):(V.alloc (.cells #[.string ⟨#[65,65,65]⟩,.string ⟨#[66,66,66]⟩,.string ⟨#[67,67,67]⟩] 9)).cell? ⟨V.heap.size,r,none⟩=some (.string (dCode r)):=by
 have h:=qK V (.cells #[.string ⟨#[65,65,65]⟩,.string ⟨#[66,66,66]⟩,.string ⟨#[67,67,67]⟩] 9);have:r=0∨r=1∨r=2:=by omega
 rcases this with rfl|rfl|rfl
 all_goals exact block_cell h _
theorem eq_ccc(a:ByteArray):(([67,67,67]:List UInt8)==a.toList)=decide (dCode 2=a):=by
 rw[←str_beq,ByteArray.toList_eq (dCode 2)];rfl
def IX(W:World)(g:Nat)(x:GInc)(wx:World):Prop:=wx.heap[g]? = some (.cells (incCells x).toArray 59 (0,0))∧W.heap.size≤g∧Below W.heap.size W wx
theorem IX.set{W wx:World}{g:Nat}{x y:GInc}{j:Nat}{u:Value}(h:IX W g x wx)(hy:(incCells x).set j u=incCells y):IX W g y (wx.setCell ⟨g,j,none⟩ u):=by
 refine⟨?_,h.2.1,h.2.2.setCell (show W.heap.size≤g from h.2.1) _⟩;rw[qS _ _ _ _ _ _ h.1, ←hy];simp
theorem IX.next{W wx w':World}{g:Nat}{x:GInc}(h:IX W g x wx)(hb:Below wx.heap.size wx w'):IX W g x w' :=
 ⟨(hb.block _ (Array.getElem?_eq_some_iff.1 h.1).1).trans h.1,h.2.1,h.2.2.trans (hb.mono h.2.2.size)⟩
theorem incs_any(t:GTT)(ps:List GPerson)(l:List Int)(A1 A2 A3 A4 A:Option Addr)(n1 n2 n3 n4 n c1 c2 c3 c4 c:Nat)(w:World)(h:Sl (Ty.int .i64) w (all_ w) A n c l)(h3:Sl Ty.flight w (all_ w) A3 n3 c3 t.flights)(h4:Sl Ty.person w (all_ w) A4 n4 c4 ps)
 (hf0:0<t.flights.length∧t.flights.length≤9) (hp0:0<ps.length∧ps.length≤9) (hdep : ∀ f∈t.flights,0<f.dep) :
 Calls Tryz.prog 13 #[.agg #[.slice A1 n1 c1,.slice A2 n2 c2,.slice A3 n3 c3],.slice A4 n4 c4,.int .i64 0,.slice A n c] w (fun e w' => ∃ A' n' c',e=.returned (.slice A' n' c')∧Sl Ty.inc w' (all_ w') A' n' c' (dIncs t ps l)∧Below w.heap.size w w'):=by
 have hb0:=(qC w.heap.size w).alloc (qD _) (.cells #[.slice A1 n1 c1,.slice A2 n2 c2,.slice A3 n3 c3] 27);have HX0:Hid (_=some (Obj.cells #[.slice A1 n1 c1,.slice A2 n2 c2,.slice A3 n3 c3] 27 (0,0))):=qK w (.cells #[.slice A1 n1 c1,.slice A2 n2 c2,.slice A3 n3 c3] 27);have HS:Hid (∀ V,Below w.heap.size w V→Sl (Ty.int .i64) V (all_ V) A n c l):=fun V hV=>h.next hV
 have HS3:Hid (∀ V,Below w.heap.size w V→Sl Ty.flight V (all_ V) A3 n3 c3 t.flights):=fun V hV=>h3.next hV
 have HS4:Hid (∀ V,Below w.heap.size w V→Sl Ty.person V (all_ V) A4 n4 c4 ps):=fun V hV=>h4.next hV
 have HN3:Hid (n3=t.flights.length∧n3≤maxLen):=⟨h3.len,h3.le⟩
 have HN4:Hid (n4=ps.length∧n4≤maxLen):=⟨h4.len,h4.le⟩
 have HF0:=qH hf0;have HP0:=qH hp0;have HDEP:=qH hdep;have HCN:Hid (((iCount l:Nat):Int)=atL l 0%4):=by show _=_;unfold iCount;have:=(atL_range l 0).1;omega
 have HIC:=qH (iCount_range l);have hz0:=(atL_range l 0).1;have g1:(atL l 0).tmod 4=atL l 0%4:=qQ hz0;have g2:IntKind.i64.wrap (atL l 0%4)=atL l 0%4:=qM _ (by omega);obtain⟨m,hm⟩ : ∃ m,iCount l=m:=⟨_,rfl⟩
 have HM:=qH hm;rw[hm]at HCN HIC;have hm3:=HIC.out;have hcn:=HCN.out.symm;rw[hcn]at g2;have HB0:=qH hb0;have HZ0:Hid ((w.alloc (.cells #[.slice A1 n1 c1,.slice A2 n2 c2,.slice A3 n3 c3] 27)).heap.size=w.heap.size+1):=by show _=_;simp
 clear h h3 h4 hf0 hp0 hdep hz0 hm hb0
 go_enter Tryz.func13,Tryz.ntmps13
 go_upto_region 1 with (fail)
 generalize (w.alloc (.cells #[.slice A1 n1 c1,.slice A2 n2 c2,.slice A3 n3 c3] 27))=W1 at*;go_wp2_with fail
 go_loopw [9,10] (fun s9 s10 wr => ∃ k:Nat,k≤m∧s10=.int .i64 k∧Own Ty.inc 59 wr W1.heap.size s9 (dIncsN t ps l k)∧Below W1.heap.size W1 wr) (fun _ s10 _=>m-(intOf s10).toNat)
 case atStart=>exact⟨0,qV _,rfl,Own.nil,qC _ _⟩
 case round =>
  obtain⟨k,hk,rfl,hown,hbr⟩:=hrel;have HBW:Hid (Below w.heap.size w wr):=HB0.out.trans (hbr.mono HB0.out.size);have HA0:=qH (dataAt_any l A n c 0 wr (HS.out wr HBW.out) (by decide));have HOW:=qH hown;have HBR:=qH hbr;clear hown hbr
  by_cases hlt:k<m
  ·have hlt':(k:Int)<(m:Int):=by omega
   go_upto_region 5 with (go_at_call 32;refine HA0.out.mono ?_;rintro e w1 ⟨rfl,hb1⟩)
   have HB1:Hid (Below W1.heap.size W1 w1):=HBR.out.trans (hb1.mono HBR.out.size);have HO1:=qH (HOW.out.next hb1);have HA1:Hid (Calls Tryz.prog 32 #[.slice A n c,.int .i64 (1+(k:Int))] w1 (IntPost (atL l (1+k)) w1)):=dataAt_any l A n c (1+k) w1 (HS.out w1 (HB0.out.trans (HB1.out.mono HB0.out.size))) (by omega);have HPS:Hid (dIncsN t ps l (k+1)=dIncsN t ps l k++[dInc t ps (atL l (1+k))]):=dIncsN_succ t ps l k;have hat:=atL_range l (1+k);have hg1:IntKind.i64.wrap (1+(k:Int))=1+(k:Int):=qM _ (by omega);clear hb1 HA0 HBR HOW HBW;generalize atL l (1+k)=a at*;go_upto_region 6 with (go_at_call 32;refine HA1.out.mono ?_;rintro e W ⟨rfl,hb2⟩)
   have HBV:Hid (Below W1.heap.size W1 W):=HB1.out.trans (hb2.mono HB1.out.size);have HOW:=qH (HO1.out.next hb2);have HXW:Hid (W.heap[w.heap.size]? = _):=(HBV.out.block _ (by rw[HZ0.out];omega)).trans HX0.out;clear hb2 HB1 HO1 HA1 hg1;obtain⟨fi,hfi⟩ : ∃ fi:Nat,a/4%(n3:Int)=(fi:Int):=⟨(a/4%(n3:Int)).toNat,by
    have:=Int.emod_nonneg (a/4) (show(n3:Int)≠0 by have:=HF0.out.1;have:=HN3.out.1;omega);omega⟩
   have hfl:fi<n3:=by
    have:=Int.emod_lt_of_pos (a/4) (show(0:Int)<(n3:Int) by have:=HF0.out.1;have:=HN3.out.1;omega);omega
   have HFI:Hid (a/4%((t.flights.length:Nat):Int)=(fi:Int)):=by show _=_;rw[←HN3.out.1];exact hfi
   have hn0 : ¬(n3:Int)=0:=by omega
   have hn3p:(0:Int)<(n3:Int):=by omega
   have hn0':((n3:Int)==0)=false:=by simpa using hn0
   have g4:(a/4).tmod (n3:Int)=(fi:Int):=by rw[qQ (by omega)];exact hfi
   have hn9:n3≤9:=by have:=HF0.out.2;have:=HN3.out.1;omega
   have x2:W.cell? ⟨w.heap.size,2,none⟩=some (.slice A3 n3 c3):=block_cell HXW.out 2;clear hfi;go_upto_region 7 with (fail)
   clear x2 g4;have g7:=and_3 a;have g8:IntKind.i64.wrap (1+a%4)=1+a%4:=qM _ (by omega);have HIX:Hid (IX W W.heap.size ⟨1+a%4,fi,0,noStr,0,noShift⟩ (W.alloc (.cells #[.int .i64 (1+a%4),.int .i64 fi,.int .i64 0,.string ⟨#[]⟩,.int .i64 0,.int .i64 0,.int .i64 0] 59))):=⟨qK _ _,qD _,(qC _ _).alloc (qD _) _⟩
   go_upto_region 8 with (fail)
   have HGW:Hid (W.heap.size<(W.alloc (.cells #[.int .i64 (1+a%4),.int .i64 fi,.int .i64 0,.string ⟨#[]⟩,.int .i64 0,.int .i64 0,.int .i64 0] 59)).heap.size):=by show _<_;simp
   generalize W.alloc (.cells #[.int .i64 (1+a%4),.int .i64 fi,.int .i64 0,.string ⟨#[]⟩,.int .i64 0,.int .i64 0,.int .i64 0] 59)=w8 at*;have y0:w8.cell? ⟨W.heap.size,0,none⟩=some (.int .i64 (1+a%4)):=block_cell HIX.out.1 0;go_upto_block 2 with (fail)
   clear y0 g8;go_cut [] (fun wx=>IX W W.heap.size (dInc t ps a) wx)
   case first =>
    have ha4:a%4=0∨a%4=1∨a%4=2∨a%4=3:=by omega
    have hgw:=HGW.out;rcases ha4 with h4|h4|h4|h4
    ·have HD:Hid (dInc t ps a=⟨1,fi,1+a/32%128,noStr,0,noShift⟩):=by show _=_;unfold dInc;rw[qR h4,HFI.out]
     have y2:w8.cell? ⟨W.heap.size,2,none⟩=some (.int .i64 0):=block_cell HIX.out.1 2;have f2:=block_free HIX.out.1 2;have v1:=and_127 (a/32);have v2:IntKind.i64.wrap (1+a/32%128)=1+a/32%128:=qM _ (by omega);have HZ:Hid (IX W W.heap.size ⟨1,fi,1+a/32%128,noStr,0,noShift⟩ (w8.setCell ⟨W.heap.size,2,none⟩ (.int .i64 (1+a/32%128)))):=HIX.out.set (by rw[h4];rfl);go_wp2_with fail
     go_meet
     rw[HD.out];exact HZ.out
    ·have HD:Hid (dInc t ps a=⟨1+a%4,fi,0,noStr,0,noShift⟩):=by show _=_;unfold dInc;rw[qN (by omega),qR h4,HFI.out,h4];rfl
     rw[←HD.out]at HIX;go_wp2_with fail
     go_meet
     exact HIX.out
    ·obtain⟨r,hr⟩ : ∃ r:Nat,a/32%3=(r:Int):=⟨(a/32%3).toNat,by omega⟩
     have hr3:r<3:=by omega
     have hr3':(r:Int)<3:=by omega
     have hr0:(0:Int)≤(r:Int):=by omega
     have v1:(a/32).tmod 3=(r:Int):=by rw[qQ (by omega)];exact hr
     have v2:=and_63 (a/128);have HSR:Hid (∃ src,(t.flights.getD fi noFlight).src=src):=⟨_,rfl⟩
     obtain⟨src,hsrc⟩:=HSR.out;have HD:Hid (dInc t ps a=⟨3,fi,a/128%64,if (if dCode r=src then dCode 2 else dCode r)=src then dCode 0 else (if dCode r=src then dCode 2 else dCode r),0,noShift⟩):=by
      show _=_;unfold dInc dAir;rw[qN (by omega),qN (by omega),qR h4,HFI.out,hr];simp only[Int.toNat_natCast];rw[hsrc]
     obtain⟨fb,o,rfl,hSb,hat9⟩:=(HS3.out W (HB0.out.trans (HBV.out.mono HB0.out.size))).flight_at (k:=fi) (by have:=HN3.out.1;omega);have ysr:W.cell? ⟨fb,o+fi*9+1,none⟩=some (.string src):=by have:=hat9 1 _ rfl;rw[hsrc]at this;exact this
     have HCC:=qH (code_cell r hr3 w8);have y2:w8.cell? ⟨W.heap.size,2,none⟩=some (.int .i64 0):=block_cell HIX.out.1 2;have f2:=block_free HIX.out.1 2;have y3:w8.cell? ⟨W.heap.size,3,none⟩=some (.string ⟨#[]⟩):=block_cell HIX.out.1 3;have f3:=block_free HIX.out.1 3;have hcc:=HCC.out;have HZ9:Hid (IX W W.heap.size ⟨3,fi,a/128%64,dCode r,0,noShift⟩ (((w8.setCell ⟨W.heap.size,3,none⟩ (.string (dCode r))).setCell ⟨W.heap.size,2,none⟩ (.int .i64 (a/128%64))).alloc (.cells #[.string ⟨#[65,65,65]⟩,.string ⟨#[66,66,66]⟩,.string ⟨#[67,67,67]⟩] 9))) :=
      (((HIX.out.set (y:=⟨3,fi,0,dCode r,0,noShift⟩) (by rw[h4];rfl)).set (y:=⟨3,fi,a/128%64,dCode r,0,noShift⟩) rfl)).next ((qC _ _).alloc (qD _) _)
     clear hat9 hsrc HSR hr;go_upto_region 13 with (fail)
     generalize ((w8.setCell ⟨W.heap.size,3,none⟩ (.string (dCode r))).setCell ⟨W.heap.size,2,none⟩ (.int .i64 (a/128%64))).alloc (.cells #[.string ⟨#[65,65,65]⟩,.string ⟨#[66,66,66]⟩,.string ⟨#[67,67,67]⟩] 9)=V at*;clear y2 f2 y3 f3 hcc HCC;have HYS:Hid (∀ U,Below W.heap.size W U→U.cell? ⟨fb,o+fi*9+1,none⟩=some (.string src)∧U.cell? ⟨w.heap.size,2,none⟩=some (.slice (some ⟨fb,o,none⟩) n3 c3)):=fun U hU=>⟨cell_kept ysr hU,cell_kept (block_cell HXW.out 2) hU⟩
     have hfl':(fi:Int)<(n3:Int):=by omega
     have hf0':(0:Int)≤(fi:Int):=by omega
     clear ysr hgw;have x1:=(HYS.out V HZ9.out.2.2).1;have x2:=(HYS.out V HZ9.out.2.2).2;have z3:V.cell? ⟨W.heap.size,3,none⟩=some (.string (dCode r)):=block_cell HZ9.out.1 3;generalize dCode r=cr at*
     by_cases e1:cr=src
     ·have HS1:Hid ((cr.toList==src.toList)=true):=by show _=_;rw[str_beq];simpa using e1
      have hs1:=HS1.out;go_quiet (fail)
      go_upto_region 14 with (fail)
      have hd:=below_drewN (qC V.heap.size V) nq;have HZ8:=qH (HZ9.out.next hd);have y3:(V.drewN nq).cell? ⟨W.heap.size,3,none⟩=some (.string cr):=block_cell HZ8.out.1 3;have f3:=block_free HZ8.out.1 3;have HZ7:Hid (IX W W.heap.size ⟨3,fi,a/128%64,dCode 2,0,noShift⟩ ((V.drewN nq).setCell ⟨W.heap.size,3,none⟩ (.string ⟨#[67,67,67]⟩))):=HZ8.out.set rfl;clear hs1 hd x1 x2 z3;go_upto_region 15 with (fail)
      generalize (V.drewN nq).setCell ⟨W.heap.size,3,none⟩ (.string ⟨#[67,67,67]⟩)=V2 at*;clear y3 f3 HZ8;have x1:=(HYS.out V2 HZ7.out.2.2).1;have x2:=(HYS.out V2 HZ7.out.2.2).2;have z3:V2.cell? ⟨W.heap.size,3,none⟩=some (.string ⟨#[67,67,67]⟩):=block_cell HZ7.out.1 3
      by_cases e2:dCode 2=src
      ·have hs2:(([67,67,67]:List UInt8)==src.toList)=true:=by rw[eq_ccc];simpa using e2
       have HDF:Hid (dInc t ps a=⟨3,fi,a/128%64,dCode 0,0,noShift⟩):=by show _=_;rw[HD.out,qR e1,qR e2]
       clear e2 e1;go_quiet (fail)
       go_upto_region 16 with (fail)
       have hd:=below_drewN (qC V2.heap.size V2) nq;have HZ6:=qH (HZ7.out.next hd);have y3:(V2.drewN nq).cell? ⟨W.heap.size,3,none⟩=some (.string ⟨#[67,67,67]⟩):=block_cell HZ6.out.1 3;have f3:=block_free HZ6.out.1 3;have HZ5:Hid (IX W W.heap.size ⟨3,fi,a/128%64,dCode 0,0,noShift⟩ ((V2.drewN nq).setCell ⟨W.heap.size,3,none⟩ (.string ⟨#[65,65,65]⟩))):=HZ6.out.set rfl;clear hs2 hd x1 x2 z3;go_wp2_with fail
       go_meet
       rw[HDF.out];exact HZ5.out
      ·have hs2:(([67,67,67]:List UInt8)==src.toList)=false:=by rw[eq_ccc];simpa using e2
       have HDF:Hid (dInc t ps a=⟨3,fi,a/128%64,dCode 2,0,noShift⟩):=by show _=_;rw[HD.out,qR e1,qN e2]
       clear e2 e1;go_quiet (fail)
       go_wp2_with fail
       go_meet
       rw[HDF.out];exact HZ7.out.next (below_drewN (qC V2.heap.size V2) _)
     ·have HS1:Hid ((cr.toList==src.toList)=false):=by show _=_;rw[str_beq];simpa using e1
      have HDF:Hid (dInc t ps a=⟨3,fi,a/128%64,cr,0,noShift⟩):=by show _=_;rw[HD.out,qN e1,qN e1]
      have hs1:=HS1.out;clear e1;go_quiet (fail)
      go_upto_region 15 with (fail)
      have HZ8:=qH (HZ9.out.next (below_drewN (qC V.heap.size V) nq));clear x1 x2 z3;generalize V.drewN nq=V2 at*;have x1:=(HYS.out V2 HZ8.out.2.2).1;have x2:=(HYS.out V2 HZ8.out.2.2).2;have z3:V2.cell? ⟨W.heap.size,3,none⟩=some (.string cr):=block_cell HZ8.out.1 3;go_quiet (fail)
      go_wp2_with fail
      go_meet
      rw[HDF.out];exact HZ8.out.next (below_drewN (qC V2.heap.size V2) _)
    ·obtain⟨pi,hpi⟩ : ∃ pi:Nat,a/4%(n4:Int)=(pi:Int):=⟨(a/4%(n4:Int)).toNat,by
      have:=Int.emod_nonneg (a/4) (show(n4:Int)≠0 by have:=HP0.out.1;have:=HN4.out.1;omega);omega⟩
     have hpl:pi<n4:=by
      have:=Int.emod_lt_of_pos (a/4) (show(0:Int)<(n4:Int) by have:=HP0.out.1;have:=HN4.out.1;omega);omega
     have HPI:Hid (a/4%((ps.length:Nat):Int)=(pi:Int)):=by show _=_;rw[←HN4.out.1];exact hpi
     have hm9:n4≤9:=by have:=HP0.out.2;have:=HN4.out.1;omega
     have hm0 : ¬(n4:Int)=0:=by omega
     have hm00 : ¬n4=0:=by omega
     have hm3p:(0:Int)<(n4:Int):=by omega
     have hm0':((n4:Int)==0)=false:=by simpa using hm0
     have g4:(a/4).tmod (n4:Int)=(pi:Int):=by rw[qQ (by omega)];exact hpi
     have hpl':(pi:Int)<(n4:Int):=by omega
     have hp0':(0:Int)≤(pi:Int):=by omega
     obtain⟨pid,hid⟩ : ∃ i,(ps.getD pi noPerson).id=i:=⟨_,rfl⟩
     have HD:Hid (dInc t ps a=⟨4,0,0,noStr,pid,⟨12960360+30*(a/32%16),12960360+30*(a/32%16)+400⟩⟩):=by
      show _=_;unfold dInc;rw[qN (by omega),qN (by omega),qN (by omega),HPI.out, ←hid];rfl
     obtain⟨pb,po,B1,m1,e1,B2,m2,e2,rfl, -,hat9, -, -⟩:=(HS4.out W (HB0.out.trans (HBV.out.mono HB0.out.size))).person_at (k:=pi) (by have:=HN4.out.1;omega);have ypi:w8.cell? ⟨pb,po+pi*7,none⟩=some (.int .i64 pid):=by
      have:=hat9 0 _ rfl;rw[hid]at this;exact cell_kept this HIX.out.2.2
     have v0:=and_15 (a/32);have v1:IntKind.i64.wrap (30*(a/32%16))=30*(a/32%16):=qM _ (by omega);have v2:IntKind.i64.wrap (12960360+30*(a/32%16))=12960360+30*(a/32%16):=qM _ (by omega);have v3:IntKind.i64.wrap (12960360+30*(a/32%16)+400)=12960360+30*(a/32%16)+400:=qM _ (by omega);clear hat9 hid hpi;go_upto_region 18 with (fail)
     clear h4;refine wp_region_lit ?_;refine qP rfl fun K9 hK9 =>?_
     go_simp
     refine hK9 _ _ ?_;clear hK9;refine qP rfl fun K9 hK9 =>?_
     go_simp
     refine hK9 _ _ ?_;clear hK9;refine qP rfl fun K9 hK9 =>?_
     go_simp
     refine hK9 _ _ ?_;clear hK9;refine qP rfl fun K9 hK9 =>?_
     go_simp
     refine hK9 _ _ ?_;clear hK9;refine qP rfl fun K9 hK9 =>?_
     go_simp
     refine hK9 _ _ ?_;clear hK9;refine qP rfl fun K9 hK9 =>?_
     go_simp
     refine hK9 _ _ ?_;clear hK9;refine qP rfl fun K9 hK9 =>?_
     go_simp
     refine hK9 _ _ ?_;clear hK9;refine qP rfl fun K9 hK9 =>?_
     go_simp
     refine hK9 _ _ ?_;clear hK9;refine qP rfl fun K9 hK9 =>?_
     go_simp
     refine hK9 _ _ ?_;clear hK9;refine qP rfl fun K9 hK9 =>?_
     go_simp
     refine hK9 _ _ ?_;clear hK9;refine qP rfl fun K9 hK9 =>?_
     go_simp
     refine hK9 _ _ ?_;clear hK9;refine qP rfl fun K9 hK9 =>?_
     go_simp
     refine hK9 _ _ ?_;clear hK9;refine qP rfl fun K9 hK9 =>?_
     go_simp
     refine hK9 _ _ ?_;clear hK9;refine qP rfl fun K9 hK9 =>?_
     go_simp
     refine hK9 _ _ ?_;clear hK9;refine qP rfl fun K9 hK9 =>?_
     go_simp
     refine hK9 _ _ ?_;clear hK9;refine qP rfl fun K9 hK9 =>?_
     go_simp
     refine hK9 _ _ ?_;clear hK9;refine qP rfl fun K9 hK9 =>?_
     go_simp
     refine hK9 _ _ ?_;clear hK9;refine qP rfl fun K9 hK9 =>?_
     go_simp
     refine hK9 _ _ ?_;clear hK9;refine qP rfl fun K9 hK9 =>?_
     go_simp
     refine hK9 _ _ ?_;clear hK9;refine qP rfl fun K9 hK9 =>?_
     go_simp
     refine hK9 _ _ ?_;clear hK9;refine qP rfl fun K9 hK9 =>?_
     go_simp
     refine hK9 _ _ ?_;clear hK9;refine qP rfl fun K9 hK9 =>?_
     go_simp
     refine hK9 _ _ ?_;clear hK9;have hone:((#[.int .i64 4,.int .i64 0,.int .i64 0,.string ⟨#[]⟩,.int .i64 pid,.int .i64 (12960360+30*(a/32%16)),.int .i64 (12960360+30*(a/32%16)+400)]:Array Value)).all (·.oneCell')=true:=by simp[Value.oneCell']
     refine wpList_store_row rfl _ _ _ rfl W.heap.size #[.int .i64 4,.int .i64 0,.int .i64 0,.string ⟨#[]⟩,.int .i64 pid,.int .i64 (12960360+30*(a/32%16)),.int .i64 (12960360+30*(a/32%16)+400)] (by simp[Act.eval,Act.put]) (by simp[Act.eval,Act.put]) _ _ HIX.out.1 (by kernel_rfl) rfl hone ?_;go_wp2_with fail
     go_meet
     rw[HD.out];exact⟨setRow_heap _ _ _ _ _ _ HIX.out.1,HIX.out.2.1,below_setRowD HIX.out.2.2 HIX.out.2.1⟩
   case rest =>
   have HPX:=qH hcut;have hfl':(fi:Int)<(n3:Int):=by omega
   have hf0':(0:Int)≤(fi:Int):=by omega
   obtain⟨fb,o,rfl,hSb,hat9⟩:=(HS3.out W (HB0.out.trans (HBV.out.mono HB0.out.size))).flight_at (k:=fi) (by have:=HN3.out.1;omega);have hdp:0<(t.flights.getD fi noFlight).dep:=HDEP.out _ (getD_in (by have:=HN3.out.1;omega) _);have ydp:wc.cell? ⟨fb,o+fi*9+3,none⟩=some (.int .i64 (t.flights.getD fi noFlight).dep):=cell_kept (hat9 3 _ rfl) hcut.2.2;have x2:wc.cell? ⟨w.heap.size,2,none⟩=some (.slice (some ⟨fb,o,none⟩) n3 c3):=cell_kept (block_cell HXW.out 2) hcut.2.2;have HO9:=qH (HOW.out.next hcut.2.2);have HLE:Hid ((dIncsN t ps l k).length=k):=dIncsN_len t ps l k;have HB9:Hid (Below W1.heap.size W1 wc):=HBV.out.trans (hcut.2.2.mono HBV.out.size);have hsz9:=HB9.out.size;generalize (t.flights.getD fi noFlight).dep=dp at*;have hdp1 : ¬dp≤0:=by omega
   clear hcut hat9 HIX HGW HFI g7 HOW HBV HXW hSb;generalize dInc t ps a=xx at*;generalize W.heap.size=gg at*;obtain⟨kd,xf,mi,ai,pe,⟨s1,s2⟩⟩:=xx;have hbx:wc.heap[gg]? = some (.cells #[.int .i64 kd,.int .i64 xf,.int .i64 mi,.string ai,.int .i64 pe,.int .i64 s1,.int .i64 s2] 59 (0,0)):=HPX.out.1;have y0:=block_cell hbx 0;have y1:=block_cell hbx 1;have y2:=block_cell hbx 2;have y3:=block_cell hbx 3;have y4:=block_cell hbx 4;have y5:=block_cell hbx 5;have y6:=block_cell hbx 6;have HAT:Hid (At (wc.alloc (.cells #[.int .i64 kd,.int .i64 xf,.int .i64 mi,.string ai,.int .i64 pe,.int .i64 s1,.int .i64 s2] 59)) wc.heap.size 0 (incCells ⟨kd,xf,mi,ai,pe,⟨s1,s2⟩⟩)):=at_ofBlock (qK _ _);have HOA:Hid (Own Ty.inc 59 (wc.alloc (.cells #[.int .i64 kd,.int .i64 xf,.int .i64 mi,.string ai,.int .i64 pe,.int .i64 s1,.int .i64 s2] 59)) W1.heap.size u9 (dIncsN t ps l k)):=HO9.out.alloc _;clear hbx HPX
   by_cases hk4:kd=4
   ·subst hk4;go_wp2_with (at_builtin;refine wpList_push (t:=Ty.inc) rfl _ _ _ rfl 64 elem_inc rfl HOA.out wc.heap.size ⟨4,xf,mi,ai,pe,⟨s1,s2⟩⟩ (fun _=>False) rfl ⟨_,rfl,HAT.out⟩ (fun _ h=>h.elim) ?c1 (by decide) ?c2 ?_)
    case c1=>rw[HLE.out];omega
    case c2=>first|omega|(simp;omega)
    intro v' w9 hown9 hgr9;rw[←HPS.out]at hown9;have HON:=qH hown9;have HBN:Hid (Below W1.heap.size W1 w9):=(HB9.out.alloc hsz9 _).grown hgr9 (by simp;omega) fun j hj=>(HO9.out.lt j hj).1
    clear hown9 hgr9 y0 y1 y2 y3 y4 y5 y6 HO9 HB9 HLE HAT HOA ydp x2;go_wp2_with fail
    go_roundw
    case rel=>exact⟨k+1,by omega,by go_num,HON.out,HBN.out⟩
    case measure=>simp[intOf];omega
   ·have hk4':(kd != 4)=true:=by simpa using hk4
    go_wp2_with (at_builtin;refine wpList_push (t:=Ty.inc) rfl _ _ _ rfl 64 elem_inc rfl HOA.out wc.heap.size ⟨kd,xf,mi,ai,pe,⟨s1,s2⟩⟩ (fun _=>False) rfl ⟨_,rfl,HAT.out⟩ (fun _ h=>h.elim) ?c1 (by decide) ?c2 ?_)
    case c1=>rw[HLE.out];omega
    case c2=>first|omega|(simp;omega)
    intro v' w9 hown9 hgr9;rw[←HPS.out]at hown9;have HON:=qH hown9;have HBN:Hid (Below W1.heap.size W1 w9):=(HB9.out.alloc hsz9 _).grown hgr9 (by simp;omega) fun j hj=>(HO9.out.lt j hj).1
    clear hown9 hgr9 y0 y1 y2 y3 y4 y5 y6 HO9 HB9 HLE HAT HOA ydp x2;go_wp2_with fail
    go_roundw
    case rel=>exact⟨k+1,by omega,by go_num,HON.out,HBN.out⟩
    case measure=>simp[intOf];omega
  ·have hkm:m=k:=by omega
   subst hkm;have hge : ¬(m:Int)<(m:Int):=by omega
   go_wp2_with (go_at_call 32;refine HA0.out.mono ?_;rintro e w1 ⟨rfl,hb1⟩)
   have hown:=HOW.out.next hb1;have hbw:=(HB0.out.trans (HBR.out.mono HB0.out.size)).trans (hb1.mono (HB0.out.trans (HBR.out.mono HB0.out.size)).size);obtain⟨A9,c9,rfl,hsl⟩:=hown.sl;have HSL:Hid (Sl Ty.inc w1 (all_ w1) A9 (dIncsN t ps l m).length c9 (dIncs t ps l)):=by
    have e:dIncsN t ps l m=dIncs t ps l:=by unfold dIncs;rw[HM.out];rfl
    show Sl _ _ _ _ _ _ _;rw[e]at hsl ⊢;exact hsl.more fun b hb=>hb.2
   have HBX:=qH hbw;clear hown hbw hsl hb1;go_wp2_with fail
   go_ret
   exact⟨_,_,_,rfl,HSL.out,HBX.out⟩
end
section
open Go.ChangeShapes Go.WideShapes Go.ChangeAt Go.RowKit
theorem ownKnob_none:ownKnob Tryz.prog.godebug=none:=by kernel_rfl
theorem laidOut_true:laidOutB Tryz.prog=true:=by kernel_rfl
section
variable {H:Type} {enc:TypeId×Value→H} {P:Program}
theorem witness_row_shaped{C:Checked}{os:Os}{f:FuncId}{fn:Func}{s:OpenSpec}{conds:List PathCond}{apart:Bool}{laid:List (String×DataW Unit)}(modest:Bool)(w0:World)(args:Array Value)(hos:w0.os=os)
 (hsh:(w0.forCall (fun _ _=>0) ⟨#[],args,[]⟩).Shaped C.prog)
 (hok:Input.okWideB C.prog (w0.forCall (fun _ _=>0) ⟨#[],args,[]⟩) f ⟨#[],args,[]⟩=true)
 (hrow:s.preRow enc C.prog fn conds apart laid (w0.forCall (fun _ _=>0) ⟨#[],args,[]⟩).memory args) :
 ∃ (w:World) (tape:Tape) (i:Input),w.os=os∧(w.forCall tape i).Shaped C.prog∧i.vars=[]∧Input.okWide C.prog (w.forCall tape i) .any w.heap.size f i ∧
  s.preRow enc C.prog fn conds apart laid (w.forCall tape i).memory i.args∧({ modest:=modest }:Assume).holds C.prog (lone (Frame.enter C.prog f i.args .normal) [] (w.forCall tape i)) :=
 ⟨w0,fun _ _=>0,⟨#[],args,[]⟩,hos,hsh,(Input.okWide_of_okWideB (base:=0) hok).1,(Input.okWide_of_okWideB hok).2,hrow,by
  simp only[Assume.holds];exact⟨by simp,by simp,fun _=>Modest.zero,by simp,by simp⟩⟩
theorem trodAll_below(hl:laidOutB P=true){W W':World}(hb:Below W.heap.size W W') : ∀ {ts:List TypeId} {vs:List Value} {ds:List (DataW H)} {ps:List MemPlace},
 (∀ t∈ts,P.readableRec t=true∧t<P.types.size)→DataW.TrodAll enc P W 0 (fun _=>true) true ts vs ds ps→(∀ x∈ps,x.block<W.heap.size) →
 DataW.TrodAll enc P W' 0 (fun b=>decide (b<W.heap.size)) true ts vs ds ps
 | [],[],[],_,_,h,_=>h
 | t::ts,v::vs,d::ds,ps,hr,h,hlt=>by
  obtain⟨p,q,h1,h2,rfl⟩:=h;exact⟨p,q,Below.trod hl (hr t (.head _)).1 (hr t (.head _)).2 h1 hb (fun x hx=>hlt x (List.mem_append.2 (.inl hx))),
   trodAll_below hl hb (fun t ht=>hr t (.tail _ ht)) h2 (fun x hx=>hlt x (List.mem_append.2 (.inr hx))),rfl⟩
 | [],[],_::_,_,_,h,_=>h.elim
 | [],_::_,_,_,_,h,_=>h.elim
 | _::_,[],_,_,_,h,_=>h.elim
 | _::_,_::_,[],_,_,h,_=>h.elim
theorem law_post(hl:laidOutB P=true){f:Func}{s:ChangeSpec}{apart:Bool}{W W':World}{args:Array Value}{ds gs:List (DataW H)}{before:List MemPlace}{tb:TypeId}
 (hbool:P.underlying tb=some .bool) (hrt:f.resultTypes = #[tb]) (hv:s.vars=[]) (hr : ∀ t∈f.params.toList,P.readableRec t=true∧t<P.types.size)
 (hfn:(s.fn H ds).results=[.lit (.bool true)]∧(s.fn H ds).args=ds∧(s.fn H ds).vars=[])
 (hW:DataW.Whole enc P f.params.toList s.vars apart W args.toList ds gs before) (hb:Below W.heap.size W W') :
 s.post enc P f apart true false false W args (.bool true) W':=by
 have hW':=hW;obtain⟨p,q,hA,hV,rfl,_,_⟩:=hW;have hV':=hV;rw[hv]at hV';obtain⟨rfl,rfl⟩:=trodVars_none hV';have e0:ds++[]=ds:=List.append_nil _;refine⟨ds,[],p++[],[],p,[],hW', ?_, ?_, ?_,hb.frame _,fun h=>by cases h⟩
 ·rw[e0,hfn.1,hrt];exact trodAll_mk1 (shut_bool hbool _)
 ·rw[e0,hfn.2.1];exact trodAll_below hl hb hr hA (fun x hx=>hW'.lt x (by simpa using hx))
 ·rw[e0,hfn.2.2,hv];rfl
end
end
end Go.Proofs.YtifconapjfdkcaaGreatDoor
