/-
  Contract of the reference's reading of an incident's line.
  Condition: the timetable is valid; the fields are not empty and not long.
-/
import Derived.Test.YtifconapjfdkcaaGreatDoorQAB
import Derived.Test.YtifconapjfdkcaaGreatDoorQAC
import Derived.Deep.DeepCutAuto
import Derived.Deep.CutBlock
import Derived.Test.YtifconapjfdkcaaGreatDoorDAA
import Derived.Test.YtifconapjfdkcaaGreatDoorDAB
import Derived.Test.YtifconapjfdkcaaGreatDoorDAC
import Derived.Test.YtifconapjfdkcaaGreatDoorDAD
import Derived.Test.YtifconapjfdkcaaGreatDoorDAE
import Derived.Test.YtifconapjfdkcaaGreatDoorDAF
import Derived.Test.YtifconapjfdkcaaGreatDoorDAG
import Derived.Test.YtifconapjfdkcaaGreatDoorDAH
import Derived.Test.YtifconapjfdkcaaGreatDoorDAI
import Derived.Test.YtifconapjfdkcaaGreatDoorDAJ
import Derived.Test.YtifconapjfdkcaaGreatDoorDAK
import Derived.Test.YtifconapjfdkcaaGreatDoorDAL
import Derived.Test.YtifconapjfdkcaaGreatDoorDAM
import Derived.Test.YtifconapjfdkcaaGreatDoorDAN
import Derived.Test.YtifconapjfdkcaaGreatDoorDAO
import Derived.Test.YtifconapjfdkcaaGreatDoorDAP
import Derived.Test.YtifconapjfdkcaaGreatDoorDAQ
import Derived.Test.YtifconapjfdkcaaGreatDoorDAR
import Derived.Test.YtifconapjfdkcaaGreatDoorDAS
import Derived.Test.YtifconapjfdkcaaGreatDoorDAT
import Derived.Test.YtifconapjfdkcaaGreatDoorDAU
import Derived.Test.YtifconapjfdkcaaGreatDoorDAV
import Derived.Test.YtifconapjfdkcaaGreatDoorDAW
import Derived.Test.YtifconapjfdkcaaGreatDoorDAX
import Derived.Test.YtifconapjfdkcaaGreatDoorDAY
import Derived.Test.YtifconapjfdkcaaGreatDoorDAZ
import Derived.Test.YtifconapjfdkcaaGreatDoorDBA
import Derived.Test.YtifconapjfdkcaaGreatDoorDBB
import Derived.Test.YtifconapjfdkcaaGreatDoorDBC
import Derived.Test.YtifconapjfdkcaaGreatDoorDBD
import Derived.Test.YtifconapjfdkcaaGreatDoorDBE
import Derived.Test.YtifconapjfdkcaaGreatDoorDBF
import Derived.Test.YtifconapjfdkcaaGreatDoorDBG
import Derived.Test.YtifconapjfdkcaaGreatDoorDBH
import Derived.Test.YtifconapjfdkcaaGreatDoorDBI
import Derived.Test.YtifconapjfdkcaaGreatDoorDBJ
set_option linter.unusedSimpArgs false
set_option linter.unusedVariables false
set_option maxRecDepth 100000
set_option maxHeartbeats 12800000
namespace Go.Proofs.YtifconapjfdkcaaGreatDoor
open Go.RowKit
theorem cells7{W:World}{b T:Nat}{x0 x1 x2 x3 x4 x5 x6:Value}(h:W.heap[b]? = some (.cells #[x0,x1,x2,x3,x4,x5,x6] T (0,0))):W.cell? ⟨b,0,none⟩=some x0∧W.cell? ⟨b,1,none⟩=some x1∧W.cell? ⟨b,2,none⟩=some x2∧W.cell? ⟨b,3,none⟩=some x3∧W.cell? ⟨b,4,none⟩=some x4∧W.cell? ⟨b,5,none⟩=some x5∧W.cell? ⟨b,6,none⟩=some x6 :=
 by refine⟨?_, ?_, ?_, ?_, ?_, ?_, ?_⟩ <;> exact block_cell h _
theorem readR_any(t:GTT)(f:List ByteArray)(A1 A2 A3 A:Option Addr)(n1 n2 n3 n c1 c2 c3 c:Nat)(w:World)(ht:t.ok)(hv:ttE t=0)(hs1:Sl Ty.zone w (all_ w) A1 n1 c1 t.zones)(hs2:Sl Ty.airport w (all_ w) A2 n2 c2 t.airports)(hs3:Sl Ty.flight w (all_ w) A3 n3 c3 t.flights)(hf:Sl Ty.str w (all_ w) A n c f)(h1:1≤f.length)(hz : ∀ x∈f,x.size≤20000) :
 Calls Tryz.prog 65 #[.agg #[.slice A1 n1 c1,.slice A2 n2 c2,.slice A3 n3 c3],.slice A n c] w (ReadPost (lineI t f) w):=by
 have hn:=hf.len;subst hn;have hle:=hf.le;unfold maxLen at hle;obtain⟨fb,o,rfl,hSb,hcells⟩:=str_cells hf (by omega);have HC:Hid (∀ V,Below w.heap.size w V → ∀ k,k<f.length→V.cell? ⟨fb,o+k,none⟩=some (.string (f.getD k noStr))):=fun V hV k hk=>cell_kept (hcells k (by omega)) hV
 have z1:=fld_sz (i:=1) hz;have z2:=fld_sz (i:=2) hz;have z3:=fld_sz (i:=3) hz;have z4:=fld_sz (i:=4) hz;have z5:=fld_sz (i:=5) hz;have HFZ:Hid (∀ i,(f.getD i noStr).size≤20000):=fun i=>fld_sz (i:=i) hz
 obtain⟨za,qa1,qa2,qa3⟩:=size_sp z2 z3;obtain⟨zb,qb1,qb2,qb3⟩:=size_sp z4 z5;have HFF:Hid (∀ V,Below w.heap.size w V → ∀ d,Calls Tryz.prog 105 #[.agg #[.slice A1 n1 c1,.slice A2 n2 c2,.slice A3 n3 c3],.string (f.getD 1 noStr),.int .i64 d] V (PairPost (findR t (f.getD 1 noStr) d) V)):=fun V hV d=>findFlightR_any t A1 A2 A3 n1 n2 n3 c1 c2 c3 (f.getD 1 noStr) d V ht (hs1.next hV) (hs2.next hV) (hs3.next hV)
 have HQL:=qH (lineK_eq t f);have HV0:=qH hv;have HCk:Hid (∀ V,Below w.heap.size w V→V.cell? ⟨fb,o,none⟩=some (.string (f.getD 0 noStr))∧(1<f.length→V.cell? ⟨fb,o+1,none⟩=some (.string (f.getD 1 noStr)))∧(2<f.length→V.cell? ⟨fb,o+2,none⟩=some (.string (f.getD 2 noStr)))∧(3<f.length→V.cell? ⟨fb,o+3,none⟩=some (.string (f.getD 3 noStr)))∧(4<f.length→V.cell? ⟨fb,o+4,none⟩=some (.string (f.getD 4 noStr)))∧(5<f.length→V.cell? ⟨fb,o+5,none⟩=some (.string (f.getD 5 noStr)))):=fun V hV=>⟨HC.out V hV 0 (by omega),HC.out V hV 1,HC.out V hV 2,HC.out V hV 3,HC.out V hV 4,HC.out V hV 5⟩
 have HRX:Hid (RX w (((w.alloc (.cells #[.slice A1 n1 c1,.slice A2 n2 c2,.slice A3 n3 c3] 27)).alloc (.cells #[.int .i64 0,.int .i64 0,.int .i64 0,.string ⟨#[]⟩,.int .i64 0,.int .i64 0,.int .i64 0] 59)).alloc (.cells #[.int .i64 0,.int .i64 0,.int .i64 0,.string ⟨#[]⟩,.int .i64 0,.int .i64 0,.int .i64 0] 59)) #[.slice A1 n1 c1,.slice A2 n2 c2,.slice A3 n3 c3] noInc):=by
  refine⟨?_, ?_, ?_,(((qC _ _).alloc (qD _) _).alloc (by simp) _).alloc (by first|(simp;done)|(simp;omega)) _,by first|(simp;done)|(simp;omega)⟩
  ·rw[Below.heap_alloc _ _ _ (by simp <;> omega)];exact heap_alloc2_old _ _ _
  ·rw[Below.heap_alloc _ _ _ (by simp)];exact heap_alloc2_new _ _ _
  ·have h9:=qK ((w.alloc (.cells #[.slice A1 n1 c1,.slice A2 n2 c2,.slice A3 n3 c3] 27)).alloc (.cells #[.int .i64 0,.int .i64 0,.int .i64 0,.string ⟨#[]⟩,.int .i64 0,.int .i64 0,.int .i64 0] 59)) (.cells #[.int .i64 0,.int .i64 0,.int .i64 0,.string ⟨#[]⟩,.int .i64 0,.int .i64 0,.int .i64 0] 59);have e9:((w.alloc (.cells #[.slice A1 n1 c1,.slice A2 n2 c2,.slice A3 n3 c3] 27)).alloc (.cells #[.int .i64 0,.int .i64 0,.int .i64 0,.string ⟨#[]⟩,.int .i64 0,.int .i64 0,.int .i64 0] 59)).heap.size=w.heap.size+2:=by simp
   rw[e9]at h9;exact h9
 clear hcells hz hf hs1 hs2 hs3 hSb ht hv HC HFZ;generalize lineI t f=R at*;generalize f.getD 0 noStr=f0s at*;generalize f.getD 1 noStr=g1 at*;generalize f.getD 2 noStr=g2 at*;generalize f.getD 3 noStr=g3 at*;generalize f.getD 4 noStr=g4 at*;generalize f.getD 5 noStr=g5 at*;have edelay:=eq_delay f0s;have ecancel:=eq_cancel f0s;have edivert:=eq_divert f0s;have esick:=eq_sick f0s
 go_enter Tryz.func65,Tryz.ntmps65
 go_upto_region 3 with (fail)
 change Code.wp _ _ _ _ (((w.alloc (.cells #[.slice A1 n1 c1,.slice A2 n2 c2,.slice A3 n3 c3] 27)).alloc (.cells #[.int .i64 0,.int .i64 0,.int .i64 0,.string ⟨#[]⟩,.int .i64 0,.int .i64 0,.int .i64 0] 59)).alloc (.cells #[.int .i64 0,.int .i64 0,.int .i64 0,.string ⟨#[]⟩,.int .i64 0,.int .i64 0,.int .i64 0] 59));generalize ((w.alloc (.cells #[.slice A1 n1 c1,.slice A2 n2 c2,.slice A3 n3 c3] 27)).alloc (.cells #[.int .i64 0,.int .i64 0,.int .i64 0,.string ⟨#[]⟩,.int .i64 0,.int .i64 0,.int .i64 0] 59)).alloc (.cells #[.int .i64 0,.int .i64 0,.int .i64 0,.string ⟨#[]⟩,.int .i64 0,.int .i64 0,.int .i64 0] 59)=W at*;generalize hbr:w.heap.size+1+1=bx at*;have c0:W.cell? ⟨fb,o,none⟩=some (.string f0s):=(HCk.out W HRX.out.b).1;have hx:=HRX.out.x;have x0:W.cell? ⟨bx,0,none⟩=some (.int .i64 0):=by subst hbr;exact block_cell hx 0
 have f0:W.frozen? ⟨bx,0,none⟩=false:=by subst hbr;exact block_free hx 0
 clear hx;go_upto_block 0 with (fail)
 go_cut [6] (fun s wx => ∃ (kd:Int) (nn:Nat),s=.int .i64 nn∧RX w wx #[.slice A1 n1 c1,.slice A2 n2 c2,.slice A3 n3 c3] ⟨kd,0,0,noStr,0,⟨0,0⟩⟩∧kindOf f0s=(kd,nn))
 case first =>
  have HN:Hid (∀ kd:Int,RX w (W.setCell ⟨bx,0,none⟩ (.int .i64 kd)) #[.slice A1 n1 c1,.slice A2 n2 c2,.slice A3 n3 c3] ⟨kd,0,0,noStr,0,⟨0,0⟩⟩):=fun kd=>by subst hbr;exact HRX.out.set (j:=0) (y:=⟨kd,0,0,noStr,0,⟨0,0⟩⟩) rfl
  have HKO:Hid (kindOf f0s=if f0s=delayS then (1,5) else if f0s=cancelS then (2,4) else if f0s=divertS then (3,6) else if f0s=sickS then (4,6) else (0,0)):=rfl;clear HQL HCk HFF
  by_cases h0:f0s=delayS
  ·rw[decide_eq_true h0]at edelay;have HK2:Hid (kindOf f0s=(1,5)):=by show _=_;rw[HKO.out,qR h0]
   clear h0;go_wp2_with fail
   go_meet
   exact⟨1,5,rfl,HN.out 1,HK2.out⟩
  by_cases h1:f0s=cancelS
  ·rw[decide_eq_true h1]at ecancel;rw[decide_eq_false h0]at edelay;have HK2:Hid (kindOf f0s=(2,4)):=by show _=_;rw[HKO.out,qN h0,qR h1]
   clear h0 h1;go_wp2_with fail
   go_meet
   exact⟨2,4,rfl,HN.out 2,HK2.out⟩
  by_cases h2:f0s=divertS
  ·rw[decide_eq_true h2]at edivert;rw[decide_eq_false h0]at edelay;rw[decide_eq_false h1]at ecancel;have HK2:Hid (kindOf f0s=(3,6)):=by show _=_;rw[HKO.out,qN h0,qN h1,qR h2]
   clear h0 h1 h2;go_wp2_with fail
   go_meet
   exact⟨3,6,rfl,HN.out 3,HK2.out⟩
  by_cases h3:f0s=sickS
  ·rw[decide_eq_true h3]at esick;rw[decide_eq_false h0]at edelay;rw[decide_eq_false h1]at ecancel;rw[decide_eq_false h2]at edivert;have HK2:Hid (kindOf f0s=(4,6)):=by show _=_;rw[HKO.out,qN h0,qN h1,qN h2,qR h3]
   clear h0 h1 h2 h3;go_wp2_with fail
   go_meet
   exact⟨4,6,rfl,HN.out 4,HK2.out⟩
  rw[decide_eq_false h0]at edelay;rw[decide_eq_false h1]at ecancel;rw[decide_eq_false h2]at edivert;rw[decide_eq_false h3]at esick;have HK2:Hid (kindOf f0s=(0,0)):=by show _=_;rw[HKO.out,qN h0,qN h1,qN h2,qN h3]
  clear h0 h1 h2 h3;go_wp2_with fail
  go_meet
  exact⟨0,0,rfl,HRX.out,HK2.out⟩
 case rest =>
  obtain⟨kd,nn,rfl,hrx,hko⟩:=hcut;have hkk:(kd=1∧nn=5)∨(kd=2∧nn=4)∨(kd=3∧nn=6)∨(kd=4∧nn=6)∨(kd=0∧nn=0):=by
   unfold kindOf at hko;split at hko
   ·injection hko with h1 h2;omega
   split at hko
   ·injection hko with h1 h2;omega
   split at hko
   ·injection hko with h1 h2;omega
   split at hko
   ·injection hko with h1 h2;omega
   ·injection hko with h1 h2;omega
  rw[hko]at HQL;simp only at HQL;have HX1:=qH hrx;clear hko hrx edelay ecancel edivert esick c0 x0 f0 HRX;have hnn:nn=0∨4≤nn∧nn≤6:=by omega
  have HQ:Hid (R=lineK t f.length g1 g2 g3 g4 g5 kd nn):=HQL.out;unfold lineK at HQ;clear HQL
  by_cases hz:nn=0
  case pos =>
   subst hz;have HF:Hid (R=(noInc,1)):=by show _=_;rw[HQ.out,qR (.inl rfl)]
   clear HQ HCk HFF hkk;go_upto_region 13 with (fail)
   refine wp_region_lit ?_;have hxr:wc.heap[bx]? = some (.cells #[.int .i64 kd,.int .i64 0,.int .i64 0,.string ⟨#[]⟩,.int .i64 0,.int .i64 0,.int .i64 0] 59 (0,0)):=by rw[←hbr];exact HX1.out.x
   refine wpList_load_row rfl _ _ rfl bx (by simp[Act.eval]) _ _ _ _ hxr Tryz.underlying59 rfl (by kernel_rfl) ?_;refine wpList_store_row rfl _ _ _ rfl (w.heap.size+1) #[.int .i64 kd,.int .i64 0,.int .i64 0,.string ⟨#[]⟩,.int .i64 0,.int .i64 0,.int .i64 0] (by simp[Act.eval,Act.put]) (by simp[Act.eval,Act.put]) _ _ HX1.out.r inc_info rfl (by simp[Value.oneCell']) ?_;have hr:=setRow_heap _ _ _ #[.int .i64 kd,.int .i64 0,.int .i64 0,.string ⟨#[]⟩,.int .i64 0,.int .i64 0,.int .i64 0] _ _ HX1.out.r;have HAE:Hid (Below w.heap.size w (wc.setRow (w.heap.size+1) #[.int .i64 kd,.int .i64 0,.int .i64 0,.string ⟨#[]⟩,.int .i64 0,.int .i64 0,.int .i64 0])):=below_setRow HX1.out.b (by omega);clear hxr;generalize wc.setRow (w.heap.size+1) #[.int .i64 kd,.int .i64 0,.int .i64 0,.string ⟨#[]⟩,.int .i64 0,.int .i64 0,.int .i64 0]=WZ at*;obtain⟨u0,u1,u2,u3,u4,u5,u6⟩:=cells7 hr;clear hr;go_wp2_with fail
   refine bodyPost_ret (v:=.tuple #[.agg #[.int .i64 kd,.int .i64 0,.int .i64 0,.string ⟨#[]⟩,.int .i64 0,.int .i64 0,.int .i64 0],.int .i64 1]) (by simp[results,Tryz.results65,go_sem,u0,u1,u2,u3,u4,u5,u6]) rfl ?_;refine⟨⟨kd,0,0,noStr,0,⟨0,0⟩⟩,by rw[HF.out];rfl,fun h =>?_,HAE.out⟩;rw[HF.out]at h ⊢
   all_goals exact absurd h (show ¬(1:Int)=0 by decide)
  have hnz:((nn:Int)==0)=false:=by simpa using hz
  by_cases hl:f.length=nn
  case neg =>
   have hl':((f.length:Int) != (nn:Int))=true:=by simp;omega
   have HF:Hid (R=(noInc,1)):=by show _=_;rw[HQ.out,qR (.inr hl)]
   clear hl HQ HCk HFF hkk hz;go_upto_region 13 with (fail)
   refine wp_region_lit ?_;have hxr:wc.heap[bx]? = some (.cells #[.int .i64 kd,.int .i64 0,.int .i64 0,.string ⟨#[]⟩,.int .i64 0,.int .i64 0,.int .i64 0] 59 (0,0)):=by rw[←hbr];exact HX1.out.x
   refine wpList_load_row rfl _ _ rfl bx (by simp[Act.eval]) _ _ _ _ hxr Tryz.underlying59 rfl (by kernel_rfl) ?_;refine wpList_store_row rfl _ _ _ rfl (w.heap.size+1) #[.int .i64 kd,.int .i64 0,.int .i64 0,.string ⟨#[]⟩,.int .i64 0,.int .i64 0,.int .i64 0] (by simp[Act.eval,Act.put]) (by simp[Act.eval,Act.put]) _ _ HX1.out.r inc_info rfl (by simp[Value.oneCell']) ?_;have hr:=setRow_heap _ _ _ #[.int .i64 kd,.int .i64 0,.int .i64 0,.string ⟨#[]⟩,.int .i64 0,.int .i64 0,.int .i64 0] _ _ HX1.out.r;have HAE:Hid (Below w.heap.size w (wc.setRow (w.heap.size+1) #[.int .i64 kd,.int .i64 0,.int .i64 0,.string ⟨#[]⟩,.int .i64 0,.int .i64 0,.int .i64 0])):=below_setRow HX1.out.b (by omega);clear hxr;generalize wc.setRow (w.heap.size+1) #[.int .i64 kd,.int .i64 0,.int .i64 0,.string ⟨#[]⟩,.int .i64 0,.int .i64 0,.int .i64 0]=WZ at*;obtain⟨u0,u1,u2,u3,u4,u5,u6⟩:=cells7 hr;clear hr;go_wp2_with fail
   refine bodyPost_ret (v:=.tuple #[.agg #[.int .i64 kd,.int .i64 0,.int .i64 0,.string ⟨#[]⟩,.int .i64 0,.int .i64 0,.int .i64 0],.int .i64 1]) (by simp[results,Tryz.results65,go_sem,u0,u1,u2,u3,u4,u5,u6]) rfl ?_;refine⟨⟨kd,0,0,noStr,0,⟨0,0⟩⟩,by rw[HF.out];rfl,fun h =>?_,HAE.out⟩;rw[HF.out]at h ⊢
   all_goals exact absurd h (show ¬(1:Int)=0 by decide)
  have hl':((f.length:Int) != (nn:Int))=false:=by rw[hl];simp
  rw[qN (by omega)]at HQ;obtain⟨-,hc1,hc2,hc3,hc4,hc5⟩:=HCk.out wc HX1.out.b;have c2':=hc2 (by omega);have c3':=hc3 (by omega);have l1:(1:Int)<(f.length:Int):=by omega
  have l2:(2:Int)<(f.length:Int):=by omega
  have l3:(3:Int)<(f.length:Int):=by omega
  have HLN:=qH hl;clear hc1 hc2 hc3 hc4 hc5 hl;have HPI:Hid (∀ V:World,Calls Tryz.prog 103 #[.string (g2++spS++g3)] V (NumPost (insB (g2++spS++g3)) V)):=fun V=>parseInstantR_any _ V za
  have hx1:=insB_bd (g2++spS++g3);generalize insB (g2++spS++g3)=a1 at*;obtain⟨x1,er1⟩:=a1
  dsimp only at HQ hx1
  go_upto_region 14 with (fail)
  obtain⟨Xr14_3,hXr14_3⟩ : ∃ X,g2++(⟨#[32]⟩:ByteArray)=X:=⟨_,rfl⟩
  have uXr14_3:Xr14_3.size≤g2.size+1:=by rw[←hXr14_3,qJ];exact qD _
  have HXr14_3:=qH hXr14_3;have vXr14_3:Hid (¬9223372036854775807<g2.size+1):=by show ¬_;omega
  obtain⟨Xr14_7,hXr14_7⟩ : ∃ X,Xr14_3++g3=X:=⟨_,rfl⟩
  have uXr14_7:Xr14_7.size≤Xr14_3.size+g3.size:=by rw[←hXr14_7,qJ];exact qD _
  have HXr14_7:=qH hXr14_7;have vXr14_7:Hid (¬9223372036854775807<Xr14_3.size+g3.size):=by show ¬_;omega
  clear hXr14_3 hXr14_7;have HPI':Hid (∀ V:World,Calls Tryz.prog 103 #[.string Xr14_7] V (NumPost (x1,er1) V)):=fun V=>by rw[←HXr14_7.out, ←HXr14_3.out];exact HPI.out V
  refine wp_region_vals (fun x y:World=>Below x.heap.size x y) (fun a b=>a.trans (b.mono a.size)) 13 [43,44,45,46,47,48,49,50,51,42,52,53,8] [.slice (some ⟨fb,o,none⟩) f.length c,.pointer (some ⟨fb,o+2,none⟩),.string g2,.string Xr14_3,.slice (some ⟨fb,o,none⟩) f.length c,.pointer (some ⟨fb,o+3,none⟩),.string g3,.string Xr14_7,.tuple #[.int .i64 x1,.int .i64 er1],.tuple #[.int .i64 x1,.int .i64 er1],.int .i64 x1,.int .i64 er1,.int .i64 x1] rfl (below_drewN (qC _ _) 1) (by kernel_rfl) (by kernel_rfl) (by kernel_rfl) (by kernel_rfl) ?_ ?_ ?_
  ·intro q hq hr;have hq':q=0∨q=1∨q=2∨q=3∨q=4∨q=5∨q=6∨q=7∨q=8∨q=9∨q=10∨q=11∨q=12:=by omega
   rcases hq' with rfl|rfl|rfl|rfl|rfl|rfl|rfl|rfl|rfl|rfl|rfl|rfl|rfl
   all_goals exact absurd (show(true:Bool)=false from hr) (by decide)
  ·intro q o' hq hr ho a' w' hR hout hpre K hK;have hq':q=0∨q=1∨q=2∨q=3∨q=4∨q=5∨q=6∨q=7∨q=8∨q=9∨q=10∨q=11∨q=12:=by omega
   rcases hq' with rfl|rfl|rfl|rfl|rfl|rfl|rfl|rfl|rfl|rfl|rfl|rfl|rfl
   ·obtain rfl:=qB ho;have e1:a'.tmps[1]? = some (.slice (some ⟨fb,o,none⟩) f.length c):=hout 1 (by decide);go_simp
    exact hK w' (qC _ _)
   ·obtain rfl:=qB ho;have p43:a'.tmps.getD 43 undef=.slice (some ⟨fb,o,none⟩) f.length c:=hpre ⟨0,.data⟩ (by simp) (by decide) 43 rfl;simp only[qA]at p43;go_simp
    exact hK w' (qC _ _)
   ·obtain rfl:=qB ho;have p44:a'.tmps.getD 44 undef=.pointer (some ⟨fb,o+2,none⟩):=hpre ⟨1,.data⟩ (by simp) (by decide) 44 rfl;simp only[qA]at p44;have zc:=cell_kept c2' hR;go_simp
    exact hK w' (qC _ _)
   ·obtain rfl:=qB ho;have p45:a'.tmps.getD 45 undef=.string g2:=hpre ⟨2,.data⟩ (by simp) (by decide) 45 rfl;simp only[qA]at p45;have vv:=vXr14_3.out;go_simp
    exact(congrArg (fun v=>K (a'.put (some 46) v) w') (congrArg Value.string HXr14_3.out)).mpr (hK w' (qC _ _))
   ·obtain rfl:=qB ho;have e1:a'.tmps[1]? = some (.slice (some ⟨fb,o,none⟩) f.length c):=hout 1 (by decide);go_simp
    exact hK w' (qC _ _)
   ·obtain rfl:=qB ho;have p47:a'.tmps.getD 47 undef=.slice (some ⟨fb,o,none⟩) f.length c:=hpre ⟨4,.data⟩ (by simp) (by decide) 47 rfl;simp only[qA]at p47;go_simp
    exact hK w' (qC _ _)
   ·obtain rfl:=qB ho;have p48:a'.tmps.getD 48 undef=.pointer (some ⟨fb,o+3,none⟩):=hpre ⟨5,.data⟩ (by simp) (by decide) 48 rfl;simp only[qA]at p48;have zc:=cell_kept c3' hR;go_simp
    exact hK w' (qC _ _)
   ·obtain rfl:=qB ho;have p46:a'.tmps.getD 46 undef=.string Xr14_3:=hpre ⟨3,.data⟩ (by simp) (by decide) 46 rfl;simp only[qA]at p46;have p49:a'.tmps.getD 49 undef=.string g3:=hpre ⟨6,.data⟩ (by simp) (by decide) 49 rfl;simp only[qA]at p49;have vv:=vXr14_7.out;go_simp
    exact(congrArg (fun v=>K (a'.put (some 50) v) w') (congrArg Value.string HXr14_7.out)).mpr (hK w' (qC _ _))
   ·obtain rfl:=qB ho;have p50:a'.tmps.getD 50 undef=.string Xr14_7:=hpre ⟨7,.data⟩ (by simp) (by decide) 50 rfl;simp only[qA]at p50;go_simp
    go_at_call 103
    refine(HPI'.out w').mono ?_;rintro e w'' ⟨rfl,hb''⟩;exact hK w'' hb''
   ·obtain rfl:=qB ho;have p51:a'.tmps.getD 51 undef=.tuple #[.int .i64 x1,.int .i64 er1]:=hpre ⟨8,.data⟩ (by simp) (by decide) 51 rfl;simp only[qA]at p51;go_simp
    exact hK w' (qC _ _)
   ·obtain rfl:=qB ho;have p42:a'.tmps.getD 42 undef=.tuple #[.int .i64 x1,.int .i64 er1]:=hpre ⟨9,.data⟩ (by simp) (by decide) 42 rfl;simp only[qA]at p42;go_simp
    exact hK w' (qC _ _)
   ·obtain rfl:=qB ho;have p42:a'.tmps.getD 42 undef=.tuple #[.int .i64 x1,.int .i64 er1]:=hpre ⟨9,.data⟩ (by simp) (by decide) 42 rfl;simp only[qA]at p42;go_simp
    exact hK w' (qC _ _)
   ·obtain rfl:=qB ho;have p52:a'.tmps.getD 52 undef=.int .i64 x1:=hpre ⟨10,.data⟩ (by simp) (by decide) 52 rfl;simp only[qA]at p52;go_simp
    exact hK w' (qC _ _)
  intro w2 hR;have HX2:=qH (HX1.out.next hR);simp only[putV,Act.put,List.setIfInBounds_toArray,List.set_cons_zero,List.set_cons_succ,List.drop_succ_cons,List.drop_zero,List.drop_nil];clear hR HPI HPI' c2' c3' HX1
  by_cases he:er1=0
  case neg =>
   have he':(er1 != 0)=true:=by simpa using he
   have HF:Hid (R=(noInc,1)):=by show _=_;rw[HQ.out,qR he]
   clear he HQ HCk HFF hkk;go_upto_region 16 with (fail)
   refine wp_region_lit ?_;have hxr:w2.heap[bx]? = some (.cells #[.int .i64 kd,.int .i64 0,.int .i64 0,.string ⟨#[]⟩,.int .i64 0,.int .i64 0,.int .i64 0] 59 (0,0)):=by rw[←hbr];exact HX2.out.x
   refine wpList_load_row rfl _ _ rfl bx (by simp[Act.eval]) _ _ _ _ hxr Tryz.underlying59 rfl (by kernel_rfl) ?_;refine wpList_store_row rfl _ _ _ rfl (w.heap.size+1) #[.int .i64 kd,.int .i64 0,.int .i64 0,.string ⟨#[]⟩,.int .i64 0,.int .i64 0,.int .i64 0] (by simp[Act.eval,Act.put]) (by simp[Act.eval,Act.put]) _ _ HX2.out.r inc_info rfl (by simp[Value.oneCell']) ?_;have hr:=setRow_heap _ _ _ #[.int .i64 kd,.int .i64 0,.int .i64 0,.string ⟨#[]⟩,.int .i64 0,.int .i64 0,.int .i64 0] _ _ HX2.out.r;have HAE:Hid (Below w.heap.size w (w2.setRow (w.heap.size+1) #[.int .i64 kd,.int .i64 0,.int .i64 0,.string ⟨#[]⟩,.int .i64 0,.int .i64 0,.int .i64 0])):=below_setRow HX2.out.b (by omega);clear hxr;generalize w2.setRow (w.heap.size+1) #[.int .i64 kd,.int .i64 0,.int .i64 0,.string ⟨#[]⟩,.int .i64 0,.int .i64 0,.int .i64 0]=WZ at*;obtain⟨u0,u1,u2,u3,u4,u5,u6⟩:=cells7 hr;clear hr;go_wp2_with fail
   refine bodyPost_ret (v:=.tuple #[.agg #[.int .i64 kd,.int .i64 0,.int .i64 0,.string ⟨#[]⟩,.int .i64 0,.int .i64 0,.int .i64 0],.int .i64 1]) (by simp[results,Tryz.results65,go_sem,u0,u1,u2,u3,u4,u5,u6]) rfl ?_;refine⟨⟨kd,0,0,noStr,0,⟨0,0⟩⟩,by rw[HF.out];rfl,fun h =>?_,HAE.out⟩;rw[HF.out]at h ⊢
   all_goals exact absurd h (show ¬(1:Int)=0 by decide)
  subst he;rw[qN (by simp)]at HQ;have he0:((0:Int) != 0)=false:=rfl;have y0:w2.cell? ⟨bx,0,none⟩=some (.int .i64 kd):=by rw[←hbr];exact block_cell HX2.out.x 0
  have k0:w2.frozen? ⟨bx,0,none⟩=false:=by rw[←hbr];exact block_free HX2.out.x 0
  obtain⟨-,hc1, -, -,hc4,hc5⟩:=HCk.out w2 HX2.out.b;refine hkk.elim ?k1 fun h=>h.elim ?k2 fun h=>h.elim ?k3 fun h=>h.elim ?k4 ?k5
  case k5=>exact fun h=>absurd h.2 hz
  case k4 =>
   rintro⟨rfl,rfl⟩;clear hkk
   as_aux_lemma =>
    have hl:=HLN.out;have l4:(4:Int)<(f.length:Int):=by omega
    have l5:(5:Int)<(f.length:Int):=by omega
    have c4:=hc4 (by omega);have c5:=hc5 (by omega);clear hc1 hc4 hc5 hl;have HPJ:Hid (∀ V:World,Calls Tryz.prog 103 #[.string (g4++spS++g5)] V (NumPost (insB (g4++spS++g5)) V)):=fun V=>parseInstantR_any _ V zb
    have hx2:=insB_bd (g4++spS++g5);generalize insB (g4++spS++g5)=a2 at*;obtain⟨x2,er2⟩:=a2;have HPN:Hid (∀ V:World,Calls Tryz.prog 104 #[.string g1] V (ParsePost g1 V)):=fun V=>parseIntR_any _ V (by unfold maxLen;omega)
    unfold ParsePost at HPN;generalize parseB g1=a3 at*;obtain⟨id4,er3⟩:=a3;simp only at HPN HQ hx2
    first|rw[qR (show(4:Int)=4 from rfl)]at HQ|rw[qR trivial]at HQ
    go_upto_region 18 with (fail)
    obtain⟨Xr18_3,hXr18_3⟩ : ∃ X,g4++(⟨#[32]⟩:ByteArray)=X:=⟨_,rfl⟩
    have uXr18_3:Xr18_3.size≤g4.size+1:=by rw[←hXr18_3,qJ];exact qD _
    have HXr18_3:=qH hXr18_3;have vXr18_3:Hid (¬9223372036854775807<g4.size+1):=by show ¬_;omega
    obtain⟨Xr18_7,hXr18_7⟩ : ∃ X,Xr18_3++g5=X:=⟨_,rfl⟩
    have uXr18_7:Xr18_7.size≤Xr18_3.size+g5.size:=by rw[←hXr18_7,qJ];exact qD _
    have HXr18_7:=qH hXr18_7;have vXr18_7:Hid (¬9223372036854775807<Xr18_3.size+g5.size):=by show ¬_;omega
    clear hXr18_3 hXr18_7;have HPJ':Hid (∀ V:World,Calls Tryz.prog 103 #[.string Xr18_7] V (NumPost (x2,er2) V)):=fun V=>by rw[←HXr18_7.out, ←HXr18_3.out];exact HPJ.out V
    refine wp_region_vals (fun x y:World=>Below x.heap.size x y) (fun a b=>a.trans (b.mono a.size)) 13 [61,62,63,64,65,66,67,68,69,60,70,71,10] [.slice (some ⟨fb,o,none⟩) f.length c,.pointer (some ⟨fb,o+4,none⟩),.string g4,.string Xr18_3,.slice (some ⟨fb,o,none⟩) f.length c,.pointer (some ⟨fb,o+5,none⟩),.string g5,.string Xr18_7,.tuple #[.int .i64 x2,.int .i64 er2],.tuple #[.int .i64 x2,.int .i64 er2],.int .i64 x2,.int .i64 er2,.int .i64 x2] rfl (below_drewN (qC _ _) 1) (by kernel_rfl) (by kernel_rfl) (by kernel_rfl) (by kernel_rfl) ?_ ?_ ?_
    ·intro q hq hr;have hq':q=0∨q=1∨q=2∨q=3∨q=4∨q=5∨q=6∨q=7∨q=8∨q=9∨q=10∨q=11∨q=12:=by omega
     rcases hq' with rfl|rfl|rfl|rfl|rfl|rfl|rfl|rfl|rfl|rfl|rfl|rfl|rfl
     all_goals exact absurd (show(true:Bool)=false from hr) (by decide)
    ·intro q o' hq hr ho a' w' hR hout hpre K hK;have hq':q=0∨q=1∨q=2∨q=3∨q=4∨q=5∨q=6∨q=7∨q=8∨q=9∨q=10∨q=11∨q=12:=by omega
     rcases hq' with rfl|rfl|rfl|rfl|rfl|rfl|rfl|rfl|rfl|rfl|rfl|rfl|rfl
     ·obtain rfl:=qB ho;have e1:a'.tmps[1]? = some (.slice (some ⟨fb,o,none⟩) f.length c):=hout 1 (by decide);go_simp
      exact hK w' (qC _ _)
     ·obtain rfl:=qB ho;have p61:a'.tmps.getD 61 undef=.slice (some ⟨fb,o,none⟩) f.length c:=hpre ⟨0,.data⟩ (by simp) (by decide) 61 rfl;simp only[qA]at p61;go_simp
      exact hK w' (qC _ _)
     ·obtain rfl:=qB ho;have p62:a'.tmps.getD 62 undef=.pointer (some ⟨fb,o+4,none⟩):=hpre ⟨1,.data⟩ (by simp) (by decide) 62 rfl;simp only[qA]at p62;have zc:=cell_kept c4 hR;go_simp
      exact hK w' (qC _ _)
     ·obtain rfl:=qB ho;have p63:a'.tmps.getD 63 undef=.string g4:=hpre ⟨2,.data⟩ (by simp) (by decide) 63 rfl;simp only[qA]at p63;have vv:=vXr18_3.out;go_simp
      exact(congrArg (fun v=>K (a'.put (some 64) v) w') (congrArg Value.string HXr18_3.out)).mpr (hK w' (qC _ _))
     ·obtain rfl:=qB ho;have e1:a'.tmps[1]? = some (.slice (some ⟨fb,o,none⟩) f.length c):=hout 1 (by decide);go_simp
      exact hK w' (qC _ _)
     ·obtain rfl:=qB ho;have p65:a'.tmps.getD 65 undef=.slice (some ⟨fb,o,none⟩) f.length c:=hpre ⟨4,.data⟩ (by simp) (by decide) 65 rfl;simp only[qA]at p65;go_simp
      exact hK w' (qC _ _)
     ·obtain rfl:=qB ho;have p66:a'.tmps.getD 66 undef=.pointer (some ⟨fb,o+5,none⟩):=hpre ⟨5,.data⟩ (by simp) (by decide) 66 rfl;simp only[qA]at p66;have zc:=cell_kept c5 hR;go_simp
      exact hK w' (qC _ _)
     ·obtain rfl:=qB ho;have p64:a'.tmps.getD 64 undef=.string Xr18_3:=hpre ⟨3,.data⟩ (by simp) (by decide) 64 rfl;simp only[qA]at p64;have p67:a'.tmps.getD 67 undef=.string g5:=hpre ⟨6,.data⟩ (by simp) (by decide) 67 rfl;simp only[qA]at p67;have vv:=vXr18_7.out;go_simp
      exact(congrArg (fun v=>K (a'.put (some 68) v) w') (congrArg Value.string HXr18_7.out)).mpr (hK w' (qC _ _))
     ·obtain rfl:=qB ho;have p68:a'.tmps.getD 68 undef=.string Xr18_7:=hpre ⟨7,.data⟩ (by simp) (by decide) 68 rfl;simp only[qA]at p68;go_simp
      go_at_call 103
      refine(HPJ'.out w').mono ?_;rintro e w'' ⟨rfl,hb''⟩;exact hK w'' hb''
     ·obtain rfl:=qB ho;have p69:a'.tmps.getD 69 undef=.tuple #[.int .i64 x2,.int .i64 er2]:=hpre ⟨8,.data⟩ (by simp) (by decide) 69 rfl;simp only[qA]at p69;go_simp
      exact hK w' (qC _ _)
     ·obtain rfl:=qB ho;have p60:a'.tmps.getD 60 undef=.tuple #[.int .i64 x2,.int .i64 er2]:=hpre ⟨9,.data⟩ (by simp) (by decide) 60 rfl;simp only[qA]at p60;go_simp
      exact hK w' (qC _ _)
     ·obtain rfl:=qB ho;have p60:a'.tmps.getD 60 undef=.tuple #[.int .i64 x2,.int .i64 er2]:=hpre ⟨9,.data⟩ (by simp) (by decide) 60 rfl;simp only[qA]at p60;go_simp
      exact hK w' (qC _ _)
     ·obtain rfl:=qB ho;have p70:a'.tmps.getD 70 undef=.int .i64 x2:=hpre ⟨10,.data⟩ (by simp) (by decide) 70 rfl;simp only[qA]at p70;go_simp
      exact hK w' (qC _ _)
    intro w3 hR;have HX3:=qH (HX2.out.next hR);simp only[putV,Act.put,List.setIfInBounds_toArray,List.set_cons_zero,List.set_cons_succ,List.drop_succ_cons,List.drop_zero,List.drop_nil];have c1':w3.cell? ⟨fb,o+1,none⟩=some (.string g1):=(HCk.out w3 HX3.out.b).2.1 (by omega);clear hR HPJ HPJ' c4 c5 HX2 y0 k0;go_wp2_with fail
    refine(HPN.out _).mono ?_;rintro e w9 ⟨rfl,rfl⟩;clear HPN c1';have y4:w3.cell? ⟨bx,4,none⟩=some (.int .i64 0):=by rw[←hbr];exact block_cell HX3.out.x 4
    have k4:w3.frozen? ⟨bx,4,none⟩=false:=by rw[←hbr];exact block_free HX3.out.x 4
    have y5:w3.cell? ⟨bx,5,none⟩=some (.int .i64 0):=by rw[←hbr];exact block_cell HX3.out.x 5
    have k5:w3.frozen? ⟨bx,5,none⟩=false:=by rw[←hbr];exact block_free HX3.out.x 5
    have y6:w3.cell? ⟨bx,6,none⟩=some (.int .i64 0):=by rw[←hbr];exact block_cell HX3.out.x 6
    have k6:w3.frozen? ⟨bx,6,none⟩=false:=by rw[←hbr];exact block_free HX3.out.x 6
    have hwr:IntKind.i64.wrap (x2+1)=x2+1:=qM _ (by omega);have HX4:Hid (RX w (((w3.setCell ⟨bx,4,none⟩ (.int .i64 id4)).setCell ⟨bx,5,none⟩ (.int .i64 x1)).setCell ⟨bx,6,none⟩ (.int .i64 (x2+1))) #[.slice A1 n1 c1,.slice A2 n2 c2,.slice A3 n3 c3] ⟨4,0,0,noStr,id4,⟨x1,(x2+1)⟩⟩):=by
     subst hbr;exact((HX3.out.set (j:=4) (y:=⟨4,0,0,noStr,id4,⟨0,0⟩⟩) rfl).set (j:=5) (y:=⟨4,0,0,noStr,id4,⟨x1,0⟩⟩) rfl).set (j:=6) (y:=⟨4,0,0,noStr,id4,⟨x1,(x2+1)⟩⟩) rfl
    go_upto_region 21 with (fail)
    clear y4 y5 y6 k4 k5 k6 HX3;generalize ((w3.setCell ⟨bx,4,none⟩ (.int .i64 id4)).setCell ⟨bx,5,none⟩ (.int .i64 x1)).setCell ⟨bx,6,none⟩ (.int .i64 (x2+1))=w5 at*
    by_cases hg2:er2=0
    case neg =>
     have hg2':(er2 != 0)=true:=by simpa using hg2
     have HF:Hid (R=(noInc,1)):=by show _=_;rw[HQ.out,qR (.inl hg2)]
     clear hg2 HQ HCk HFF;go_upto_region 22 with (fail)
     refine wp_region_lit ?_;have hxr:w5.heap[bx]? = some (.cells #[.int .i64 4,.int .i64 0,.int .i64 0,.string ⟨#[]⟩,.int .i64 id4,.int .i64 x1,.int .i64 (x2+1)] 59 (0,0)):=by rw[←hbr];exact HX4.out.x
     refine wpList_load_row rfl _ _ rfl bx (by simp[Act.eval]) _ _ _ _ hxr Tryz.underlying59 rfl (by kernel_rfl) ?_;refine wpList_store_row rfl _ _ _ rfl (w.heap.size+1) #[.int .i64 4,.int .i64 0,.int .i64 0,.string ⟨#[]⟩,.int .i64 id4,.int .i64 x1,.int .i64 (x2+1)] (by simp[Act.eval,Act.put]) (by simp[Act.eval,Act.put]) _ _ HX4.out.r inc_info rfl (by simp[Value.oneCell']) ?_;have hr:=setRow_heap _ _ _ #[.int .i64 4,.int .i64 0,.int .i64 0,.string ⟨#[]⟩,.int .i64 id4,.int .i64 x1,.int .i64 (x2+1)] _ _ HX4.out.r;have HAE:Hid (Below w.heap.size w (w5.setRow (w.heap.size+1) #[.int .i64 4,.int .i64 0,.int .i64 0,.string ⟨#[]⟩,.int .i64 id4,.int .i64 x1,.int .i64 (x2+1)])):=below_setRow HX4.out.b (by omega);clear hxr;generalize w5.setRow (w.heap.size+1) #[.int .i64 4,.int .i64 0,.int .i64 0,.string ⟨#[]⟩,.int .i64 id4,.int .i64 x1,.int .i64 (x2+1)]=WZ at*;obtain⟨u0,u1,u2,u3,u4,u5,u6⟩:=cells7 hr;clear hr;go_wp2_with fail
     refine bodyPost_ret (v:=.tuple #[.agg #[.int .i64 4,.int .i64 0,.int .i64 0,.string ⟨#[]⟩,.int .i64 id4,.int .i64 x1,.int .i64 (x2+1)],.int .i64 1]) (by simp[results,Tryz.results65,go_sem,u0,u1,u2,u3,u4,u5,u6]) rfl ?_;refine⟨⟨4,0,0,noStr,id4,⟨x1,(x2+1)⟩⟩,by rw[HF.out];rfl,fun h =>?_,HAE.out⟩;rw[HF.out]at h ⊢
     all_goals exact absurd h (show ¬(1:Int)=0 by decide)
    subst hg2
    by_cases hg3:er3=0
    case neg =>
     have hg3':(er3 != 0)=true:=by simpa using hg3
     have HF:Hid (R=(noInc,1)):=by show _=_;rw[HQ.out,qR (.inr hg3)]
     clear hg3 HQ HCk HFF;go_upto_region 22 with (fail)
     refine wp_region_lit ?_;have hxr:w5.heap[bx]? = some (.cells #[.int .i64 4,.int .i64 0,.int .i64 0,.string ⟨#[]⟩,.int .i64 id4,.int .i64 x1,.int .i64 (x2+1)] 59 (0,0)):=by rw[←hbr];exact HX4.out.x
     refine wpList_load_row rfl _ _ rfl bx (by simp[Act.eval]) _ _ _ _ hxr Tryz.underlying59 rfl (by kernel_rfl) ?_;refine wpList_store_row rfl _ _ _ rfl (w.heap.size+1) #[.int .i64 4,.int .i64 0,.int .i64 0,.string ⟨#[]⟩,.int .i64 id4,.int .i64 x1,.int .i64 (x2+1)] (by simp[Act.eval,Act.put]) (by simp[Act.eval,Act.put]) _ _ HX4.out.r inc_info rfl (by simp[Value.oneCell']) ?_;have hr:=setRow_heap _ _ _ #[.int .i64 4,.int .i64 0,.int .i64 0,.string ⟨#[]⟩,.int .i64 id4,.int .i64 x1,.int .i64 (x2+1)] _ _ HX4.out.r;have HAE:Hid (Below w.heap.size w (w5.setRow (w.heap.size+1) #[.int .i64 4,.int .i64 0,.int .i64 0,.string ⟨#[]⟩,.int .i64 id4,.int .i64 x1,.int .i64 (x2+1)])):=below_setRow HX4.out.b (by omega);clear hxr;generalize w5.setRow (w.heap.size+1) #[.int .i64 4,.int .i64 0,.int .i64 0,.string ⟨#[]⟩,.int .i64 id4,.int .i64 x1,.int .i64 (x2+1)]=WZ at*;obtain⟨u0,u1,u2,u3,u4,u5,u6⟩:=cells7 hr;clear hr;go_wp2_with fail
     refine bodyPost_ret (v:=.tuple #[.agg #[.int .i64 4,.int .i64 0,.int .i64 0,.string ⟨#[]⟩,.int .i64 id4,.int .i64 x1,.int .i64 (x2+1)],.int .i64 1]) (by simp[results,Tryz.results65,go_sem,u0,u1,u2,u3,u4,u5,u6]) rfl ?_;refine⟨⟨4,0,0,noStr,id4,⟨x1,(x2+1)⟩⟩,by rw[HF.out];rfl,fun h =>?_,HAE.out⟩;rw[HF.out]at h ⊢
     all_goals exact absurd h (show ¬(1:Int)=0 by decide)
    subst hg3;have HF:Hid (R=(⟨4,0,0,noStr,id4,⟨x1,(x2+1)⟩⟩,0)):=by show _=_;rw[HQ.out,qN (by simp)]
    clear HQ HCk HFF;go_upto_region 23 with (fail)
    refine wp_region_lit ?_;have hxr:w5.heap[bx]? = some (.cells #[.int .i64 4,.int .i64 0,.int .i64 0,.string ⟨#[]⟩,.int .i64 id4,.int .i64 x1,.int .i64 (x2+1)] 59 (0,0)):=by rw[←hbr];exact HX4.out.x
    refine wpList_load_row rfl _ _ rfl bx (by simp[Act.eval]) _ _ _ _ hxr Tryz.underlying59 rfl (by kernel_rfl) ?_;refine wpList_store_row rfl _ _ _ rfl (w.heap.size+1) #[.int .i64 4,.int .i64 0,.int .i64 0,.string ⟨#[]⟩,.int .i64 id4,.int .i64 x1,.int .i64 (x2+1)] (by simp[Act.eval,Act.put]) (by simp[Act.eval,Act.put]) _ _ HX4.out.r inc_info rfl (by simp[Value.oneCell']) ?_;have hr:=setRow_heap _ _ _ #[.int .i64 4,.int .i64 0,.int .i64 0,.string ⟨#[]⟩,.int .i64 id4,.int .i64 x1,.int .i64 (x2+1)] _ _ HX4.out.r;have HAE:Hid (Below w.heap.size w (w5.setRow (w.heap.size+1) #[.int .i64 4,.int .i64 0,.int .i64 0,.string ⟨#[]⟩,.int .i64 id4,.int .i64 x1,.int .i64 (x2+1)])):=below_setRow HX4.out.b (by omega);clear hxr;generalize w5.setRow (w.heap.size+1) #[.int .i64 4,.int .i64 0,.int .i64 0,.string ⟨#[]⟩,.int .i64 id4,.int .i64 x1,.int .i64 (x2+1)]=WZ at*;obtain⟨u0,u1,u2,u3,u4,u5,u6⟩:=cells7 hr;clear hr;go_wp2_with fail
    refine bodyPost_ret (v:=.tuple #[.agg #[.int .i64 4,.int .i64 0,.int .i64 0,.string ⟨#[]⟩,.int .i64 id4,.int .i64 x1,.int .i64 (x2+1)],.int .i64 0]) (by simp[results,Tryz.results65,go_sem,u0,u1,u2,u3,u4,u5,u6]) rfl ?_;refine⟨⟨4,0,0,noStr,id4,⟨x1,(x2+1)⟩⟩,by rw[HF.out];rfl,fun h =>?_,HAE.out⟩;rw[HF.out]at h ⊢
    all_goals rfl
  case' k1 =>
   rintro⟨rfl,rfl⟩;clear hkk;have hl:=HLN.out;have l4:(4:Int)<(f.length:Int):=by omega
   rw[qN (show ¬((1:Int)=4) by decide)]at HQ;have cq:=hc4 (by omega);have HPN:Hid (∀ V:World,Calls Tryz.prog 104 #[.string g4] V (ParsePost g4 V)):=fun V=>parseIntR_any _ V (by unfold maxLen;omega)
   unfold ParsePost at HPN
   first|rw[qR (show(5:Nat)=5 from rfl)]at HQ|rw[qR trivial]at HQ|skip
   generalize parseB g4=a3 at*;obtain⟨m4,er3⟩:=a3;simp only at HPN HQ;clear hc1 hc4 hc5 hl;go_wp2_with fail
   refine(HPN.out _).mono ?_;rintro e w9 ⟨rfl,rfl⟩;clear HPN cq
   by_cases hg3:er3=0
   case neg =>
    have hg3':(er3 != 0)=true:=by simpa using hg3
    have HF:Hid (R=(noInc,1)):=by show _=_;rw[HQ.out,qR ⟨by decide,hg3⟩]
    clear hg3 HQ HCk HFF y0 k0;go_upto_region 27 with (fail)
    refine wp_region_lit ?_;have hxr:w2.heap[bx]? = some (.cells #[.int .i64 1,.int .i64 0,.int .i64 0,.string ⟨#[]⟩,.int .i64 0,.int .i64 0,.int .i64 0] 59 (0,0)):=by rw[←hbr];exact HX2.out.x
    refine wpList_load_row rfl _ _ rfl bx (by simp[Act.eval]) _ _ _ _ hxr Tryz.underlying59 rfl (by kernel_rfl) ?_;refine wpList_store_row rfl _ _ _ rfl (w.heap.size+1) #[.int .i64 1,.int .i64 0,.int .i64 0,.string ⟨#[]⟩,.int .i64 0,.int .i64 0,.int .i64 0] (by simp[Act.eval,Act.put]) (by simp[Act.eval,Act.put]) _ _ HX2.out.r inc_info rfl (by simp[Value.oneCell']) ?_;have hr:=setRow_heap _ _ _ #[.int .i64 1,.int .i64 0,.int .i64 0,.string ⟨#[]⟩,.int .i64 0,.int .i64 0,.int .i64 0] _ _ HX2.out.r;have HAE:Hid (Below w.heap.size w (w2.setRow (w.heap.size+1) #[.int .i64 1,.int .i64 0,.int .i64 0,.string ⟨#[]⟩,.int .i64 0,.int .i64 0,.int .i64 0])):=below_setRow HX2.out.b (by omega);clear hxr;generalize w2.setRow (w.heap.size+1) #[.int .i64 1,.int .i64 0,.int .i64 0,.string ⟨#[]⟩,.int .i64 0,.int .i64 0,.int .i64 0]=WZ at*;obtain⟨u0,u1,u2,u3,u4,u5,u6⟩:=cells7 hr;clear hr;go_wp2_with fail
    refine bodyPost_ret (v:=.tuple #[.agg #[.int .i64 1,.int .i64 0,.int .i64 0,.string ⟨#[]⟩,.int .i64 0,.int .i64 0,.int .i64 0],.int .i64 1]) (by simp[results,Tryz.results65,go_sem,u0,u1,u2,u3,u4,u5,u6]) rfl ?_;refine⟨⟨1,0,0,noStr,0,⟨0,0⟩⟩,by rw[HF.out];rfl,fun h =>?_,HAE.out⟩;rw[HF.out]at h ⊢
    all_goals exact absurd h (show ¬(1:Int)=0 by decide)
   subst hg3;rw[qN (by simp)]at HQ;have y2:w2.cell? ⟨bx,2,none⟩=some (.int .i64 0):=by rw[←hbr];exact block_cell HX2.out.x 2
   have k2:w2.frozen? ⟨bx,2,none⟩=false:=by rw[←hbr];exact block_free HX2.out.x 2
   have HX3:Hid (RX w (w2.setCell ⟨bx,2,none⟩ (.int .i64 m4)) #[.slice A1 n1 c1,.slice A2 n2 c2,.slice A3 n3 c3] ⟨1,0,m4,noStr,0,⟨0,0⟩⟩):=by
    subst hbr;exact HX2.out.set (j:=2) (y:=⟨1,0,m4,noStr,0,⟨0,0⟩⟩) rfl
   go_upto_region 29 with (fail)
   clear y2 k2 y0 k0 HX2;generalize w2.setCell ⟨bx,2,none⟩ (.int .i64 m4)=w3 at*;have y0:w3.cell? ⟨bx,0,none⟩=some (.int .i64 1):=by rw[←hbr];exact block_cell HX3.out.x 0
   have k0:w3.frozen? ⟨bx,0,none⟩=false:=by rw[←hbr];exact block_free HX3.out.x 0
   go_upto_region 31 with (fail)
   obtain⟨kd,mi,ai,HX9,HF9⟩ : ∃ (kd mi:Int) (ai:ByteArray),Hid (RX w w3 #[.slice A1 n1 c1,.slice A2 n2 c2,.slice A3 n3 c3] ⟨kd,0,mi,ai,0,⟨0,0⟩⟩)∧Hid (R=onFl2 t g1 x1 fun i=>⟨kd,(i:Int),mi,ai,0,⟨0,0⟩⟩):=⟨1,m4,noStr,HX3.out,HQ.out⟩
   obtain⟨w9,rfl⟩ : ∃ x:World,x=w3:=⟨_,rfl⟩
   clear HX3 HQ y0 k0
  case' k2 =>
   rintro⟨rfl,rfl⟩;clear hkk;have hl:=HLN.out;rw[qN (show ¬((2:Int)=4) by decide)]at HQ;rw[qN (fun h=>h.1 rfl)]at HQ;clear hc1 hc4 hc5 hl;go_upto_region 31 with (fail)
   obtain⟨kd,mi,ai,HX9,HF9⟩ : ∃ (kd mi:Int) (ai:ByteArray),Hid (RX w w2 #[.slice A1 n1 c1,.slice A2 n2 c2,.slice A3 n3 c3] ⟨kd,0,mi,ai,0,⟨0,0⟩⟩)∧Hid (R=onFl2 t g1 x1 fun i=>⟨kd,(i:Int),mi,ai,0,⟨0,0⟩⟩):=⟨2,0,noStr,HX2.out,HQ.out⟩
   obtain⟨w9,rfl⟩ : ∃ x:World,x=w2:=⟨_,rfl⟩
   clear HX2 HQ y0 k0
  case' k3 =>
   rintro⟨rfl,rfl⟩;clear hkk;have hl:=HLN.out;have l4:(4:Int)<(f.length:Int):=by omega
   have l5:(5:Int)<(f.length:Int):=by omega
   rw[qN (show ¬((3:Int)=4) by decide)]at HQ;have cq:=hc5 (by omega);have HPN:Hid (∀ V:World,Calls Tryz.prog 104 #[.string g5] V (ParsePost g5 V)):=fun V=>parseIntR_any _ V (by unfold maxLen;omega)
   unfold ParsePost at HPN
   first|rw[qN (show ¬(6:Nat)=5 by decide)]at HQ|rw[qN (fun h:False=>h)]at HQ|skip
   generalize parseB g5=a3 at*;obtain⟨m4,er3⟩:=a3;simp only at HPN HQ;clear hc1 hc4 hc5 hl;go_wp2_with fail
   refine(HPN.out _).mono ?_;rintro e w9 ⟨rfl,rfl⟩;clear HPN cq
   by_cases hg3:er3=0
   case neg =>
    have hg3':(er3 != 0)=true:=by simpa using hg3
    have HF:Hid (R=(noInc,1)):=by show _=_;rw[HQ.out,qR ⟨by decide,hg3⟩]
    clear hg3 HQ HCk HFF y0 k0;go_upto_region 27 with (fail)
    refine wp_region_lit ?_;have hxr:w2.heap[bx]? = some (.cells #[.int .i64 3,.int .i64 0,.int .i64 0,.string ⟨#[]⟩,.int .i64 0,.int .i64 0,.int .i64 0] 59 (0,0)):=by rw[←hbr];exact HX2.out.x
    refine wpList_load_row rfl _ _ rfl bx (by simp[Act.eval]) _ _ _ _ hxr Tryz.underlying59 rfl (by kernel_rfl) ?_;refine wpList_store_row rfl _ _ _ rfl (w.heap.size+1) #[.int .i64 3,.int .i64 0,.int .i64 0,.string ⟨#[]⟩,.int .i64 0,.int .i64 0,.int .i64 0] (by simp[Act.eval,Act.put]) (by simp[Act.eval,Act.put]) _ _ HX2.out.r inc_info rfl (by simp[Value.oneCell']) ?_;have hr:=setRow_heap _ _ _ #[.int .i64 3,.int .i64 0,.int .i64 0,.string ⟨#[]⟩,.int .i64 0,.int .i64 0,.int .i64 0] _ _ HX2.out.r;have HAE:Hid (Below w.heap.size w (w2.setRow (w.heap.size+1) #[.int .i64 3,.int .i64 0,.int .i64 0,.string ⟨#[]⟩,.int .i64 0,.int .i64 0,.int .i64 0])):=below_setRow HX2.out.b (by omega);clear hxr;generalize w2.setRow (w.heap.size+1) #[.int .i64 3,.int .i64 0,.int .i64 0,.string ⟨#[]⟩,.int .i64 0,.int .i64 0,.int .i64 0]=WZ at*;obtain⟨u0,u1,u2,u3,u4,u5,u6⟩:=cells7 hr;clear hr;go_wp2_with fail
    refine bodyPost_ret (v:=.tuple #[.agg #[.int .i64 3,.int .i64 0,.int .i64 0,.string ⟨#[]⟩,.int .i64 0,.int .i64 0,.int .i64 0],.int .i64 1]) (by simp[results,Tryz.results65,go_sem,u0,u1,u2,u3,u4,u5,u6]) rfl ?_;refine⟨⟨3,0,0,noStr,0,⟨0,0⟩⟩,by rw[HF.out];rfl,fun h =>?_,HAE.out⟩;rw[HF.out]at h ⊢
    all_goals exact absurd h (show ¬(1:Int)=0 by decide)
   subst hg3;rw[qN (by simp)]at HQ;have y2:w2.cell? ⟨bx,2,none⟩=some (.int .i64 0):=by rw[←hbr];exact block_cell HX2.out.x 2
   have k2:w2.frozen? ⟨bx,2,none⟩=false:=by rw[←hbr];exact block_free HX2.out.x 2
   have HX3:Hid (RX w (w2.setCell ⟨bx,2,none⟩ (.int .i64 m4)) #[.slice A1 n1 c1,.slice A2 n2 c2,.slice A3 n3 c3] ⟨3,0,m4,noStr,0,⟨0,0⟩⟩):=by
    subst hbr;exact HX2.out.set (j:=2) (y:=⟨3,0,m4,noStr,0,⟨0,0⟩⟩) rfl
   go_upto_region 29 with (fail)
   clear y2 k2 y0 k0 HX2;generalize w2.setCell ⟨bx,2,none⟩ (.int .i64 m4)=w3 at*;have y0:w3.cell? ⟨bx,0,none⟩=some (.int .i64 3):=by rw[←hbr];exact block_cell HX3.out.x 0
   have k0:w3.frozen? ⟨bx,0,none⟩=false:=by rw[←hbr];exact block_free HX3.out.x 0
   have c4:=(HCk.out w3 HX3.out.b).2.2.2.2.1 (by have:=HLN.out;omega);have y3:w3.cell? ⟨bx,3,none⟩=some (.string ⟨#[]⟩):=by rw[←hbr];exact block_cell HX3.out.x 3
   have k3:w3.frozen? ⟨bx,3,none⟩=false:=by rw[←hbr];exact block_free HX3.out.x 3
   have HX5:Hid (RX w (w3.setCell ⟨bx,3,none⟩ (.string g4)) #[.slice A1 n1 c1,.slice A2 n2 c2,.slice A3 n3 c3] ⟨3,0,m4,g4,0,⟨0,0⟩⟩):=by
    subst hbr;exact HX3.out.set (j:=3) (y:=⟨3,0,m4,g4,0,⟨0,0⟩⟩) rfl
   go_upto_region 31 with (fail)
   clear y3 k3 y0 k0 c4 HX3;generalize w3.setCell ⟨bx,3,none⟩ (.string g4)=w5 at*;obtain⟨kd,mi,ai,HX9,HF9⟩ : ∃ (kd mi:Int) (ai:ByteArray),Hid (RX w w5 #[.slice A1 n1 c1,.slice A2 n2 c2,.slice A3 n3 c3] ⟨kd,0,mi,ai,0,⟨0,0⟩⟩)∧Hid (R=onFl2 t g1 x1 fun i=>⟨kd,(i:Int),mi,ai,0,⟨0,0⟩⟩):=⟨3,m4,g4,HX5.out,HQ.out⟩
   obtain⟨w9,rfl⟩ : ∃ x:World,x=w5:=⟨_,rfl⟩
   clear HX5 HQ
  all_goals
   have cf:=(HCk.out w9 HX9.out.b).2.1 (by omega);have HFG:=qH (fun V hV=>HFF.out V hV x1);have hfr:=findR_at HV0.out g1 x1;generalize findR t g1 x1=fr at*;obtain⟨fi0,fe0⟩:=fr;refine wp_region_vals (fun x y:World=>Below x.heap.size x y) (fun a b=>a.trans (b.mono a.size)) 10 [119,120,121,122,123,124,118,125,126,16] [.agg #[.slice A1 n1 c1,.slice A2 n2 c2,.slice A3 n3 c3],.slice (some ⟨fb,o,none⟩) f.length c,.pointer (some ⟨fb,o+1,none⟩),.string g1,.int .i64 x1,.tuple #[.int .i64 fi0,.int .i64 fe0],.tuple #[.int .i64 fi0,.int .i64 fe0],.int .i64 fi0,.int .i64 fe0,.int .i64 fi0] rfl (below_drewN (qC _ _) 1) (by kernel_rfl) (by kernel_rfl) (by kernel_rfl) (by kernel_rfl) ?_ ?_ ?_
   ·intro q hq hr;have hq':q=0∨q=1∨q=2∨q=3∨q=4∨q=5∨q=6∨q=7∨q=8∨q=9:=by omega
    rcases hq' with rfl|rfl|rfl|rfl|rfl|rfl|rfl|rfl|rfl|rfl
    all_goals exact absurd (show(true:Bool)=false from hr) (by decide)
   ·intro q o' hq hr ho a' w' hR hout hpre K hK;have hq':q=0∨q=1∨q=2∨q=3∨q=4∨q=5∨q=6∨q=7∨q=8∨q=9:=by omega
    rcases hq' with rfl|rfl|rfl|rfl|rfl|rfl|rfl|rfl|rfl|rfl
    ·obtain rfl:=qB ho;have e2:a'.tmps[2]? = some (.pointer (some ⟨w.heap.size,0,none⟩)):=hout 2 (by decide);have t0:=cell_kept (block_cell HX9.out.t 0) hR;have t1:=cell_kept (block_cell HX9.out.t 1) hR;have t2:=cell_kept (block_cell HX9.out.t 2) hR;go_simp
     exact hK w' (qC _ _)
    ·obtain rfl:=qB ho;have e1:a'.tmps[1]? = some (.slice (some ⟨fb,o,none⟩) f.length c):=hout 1 (by decide);go_simp
     exact hK w' (qC _ _)
    ·obtain rfl:=qB ho;have p120:a'.tmps.getD 120 undef=.slice (some ⟨fb,o,none⟩) f.length c:=hpre ⟨1,.data⟩ (by simp) (by decide) 120 rfl;simp only[qA]at p120;go_simp
     exact hK w' (qC _ _)
    ·obtain rfl:=qB ho;have p121:a'.tmps.getD 121 undef=.pointer (some ⟨fb,o+1,none⟩):=hpre ⟨2,.data⟩ (by simp) (by decide) 121 rfl;simp only[qA]at p121;have zc:=cell_kept cf hR;go_simp
     exact hK w' (qC _ _)
    ·obtain rfl:=qB ho;have e8:a'.tmps[8]? = some (.int .i64 x1):=hout 8 (by decide);go_simp
     exact hK w' (qC _ _)
    ·obtain rfl:=qB ho;have p119:a'.tmps.getD 119 undef=.agg #[.slice A1 n1 c1,.slice A2 n2 c2,.slice A3 n3 c3]:=hpre ⟨0,.data⟩ (by simp) (by decide) 119 rfl;simp only[qA]at p119;have p122:a'.tmps.getD 122 undef=.string g1:=hpre ⟨3,.data⟩ (by simp) (by decide) 122 rfl;simp only[qA]at p122;have p123:a'.tmps.getD 123 undef=.int .i64 x1:=hpre ⟨4,.data⟩ (by simp) (by decide) 123 rfl;simp only[qA]at p123;go_simp
     go_at_call 105
     refine(HFG.out w' (HX9.out.b.trans (hR.mono HX9.out.b.size))).mono ?_;rintro e w'' ⟨rfl,hb''⟩;exact hK w'' hb''
    ·obtain rfl:=qB ho;have p124:a'.tmps.getD 124 undef=.tuple #[.int .i64 fi0,.int .i64 fe0]:=hpre ⟨5,.data⟩ (by simp) (by decide) 124 rfl;simp only[qA]at p124;go_simp
     exact hK w' (qC _ _)
    ·obtain rfl:=qB ho;have p118:a'.tmps.getD 118 undef=.tuple #[.int .i64 fi0,.int .i64 fe0]:=hpre ⟨6,.data⟩ (by simp) (by decide) 118 rfl;simp only[qA]at p118;go_simp
     exact hK w' (qC _ _)
    ·obtain rfl:=qB ho;have p118:a'.tmps.getD 118 undef=.tuple #[.int .i64 fi0,.int .i64 fe0]:=hpre ⟨6,.data⟩ (by simp) (by decide) 118 rfl;simp only[qA]at p118;go_simp
     exact hK w' (qC _ _)
    ·obtain rfl:=qB ho;have p125:a'.tmps.getD 125 undef=.int .i64 fi0:=hpre ⟨7,.data⟩ (by simp) (by decide) 125 rfl;simp only[qA]at p125;go_simp
     exact hK w' (qC _ _)
   intro w7 hR;have HX7:=qH (HX9.out.next hR);simp only[putV,Act.put,List.setIfInBounds_toArray,List.set_cons_zero,List.set_cons_succ,List.drop_succ_cons,List.drop_zero,List.drop_nil];unfold onFl2 at HF9;clear hR cf HX9 HCk HFF HFG
   cases hfa:flAt t.flights g1 x1 with
   | none =>
    rw[hfa]at HF9 hfr;obtain⟨rfl,rfl⟩:=Prod.mk.inj hfr;have HF:Hid (R=(noInc,6)):=HF9.out;have he6:((6:Int) != 0)=true:=rfl;clear hfa HF9;go_upto_region 33 with (fail)
    refine wp_region_lit ?_;have hxr:w7.heap[bx]? = some (.cells #[.int .i64 kd,.int .i64 0,.int .i64 mi,.string ai,.int .i64 0,.int .i64 0,.int .i64 0] 59 (0,0)):=by rw[←hbr];exact HX7.out.x
    refine wpList_load_row rfl _ _ rfl bx (by simp[Act.eval]) _ _ _ _ hxr Tryz.underlying59 rfl (by kernel_rfl) ?_;refine wpList_store_row rfl _ _ _ rfl (w.heap.size+1) #[.int .i64 kd,.int .i64 0,.int .i64 mi,.string ai,.int .i64 0,.int .i64 0,.int .i64 0] (by simp[Act.eval,Act.put]) (by simp[Act.eval,Act.put]) _ _ HX7.out.r inc_info rfl (by simp[Value.oneCell']) ?_;have hr:=setRow_heap _ _ _ #[.int .i64 kd,.int .i64 0,.int .i64 mi,.string ai,.int .i64 0,.int .i64 0,.int .i64 0] _ _ HX7.out.r;have HAE:Hid (Below w.heap.size w (w7.setRow (w.heap.size+1) #[.int .i64 kd,.int .i64 0,.int .i64 mi,.string ai,.int .i64 0,.int .i64 0,.int .i64 0])):=below_setRow HX7.out.b (by omega);clear hxr;generalize w7.setRow (w.heap.size+1) #[.int .i64 kd,.int .i64 0,.int .i64 mi,.string ai,.int .i64 0,.int .i64 0,.int .i64 0]=WZ at*;obtain⟨u0,u1,u2,u3,u4,u5,u6⟩:=cells7 hr;clear hr;go_wp2_with fail
    refine bodyPost_ret (v:=.tuple #[.agg #[.int .i64 kd,.int .i64 0,.int .i64 mi,.string ai,.int .i64 0,.int .i64 0,.int .i64 0],.int .i64 6]) (by simp[results,Tryz.results65,go_sem,u0,u1,u2,u3,u4,u5,u6]) rfl ?_;refine⟨⟨kd,0,mi,ai,0,⟨0,0⟩⟩,by rw[HF.out];rfl,fun h =>?_,HAE.out⟩;rw[HF.out]at h ⊢
    all_goals exact absurd h (show ¬(6:Int)=0 by decide)
   | some fi =>
    rw[hfa]at HF9 hfr;obtain⟨rfl,rfl⟩:=Prod.mk.inj hfr;have HF:Hid (R=(⟨kd,(fi:Int),mi,ai,0,⟨0,0⟩⟩,0)):=HF9.out;clear hfa HF9;have y1:w7.cell? ⟨bx,1,none⟩=some (.int .i64 0):=by rw[←hbr];exact block_cell HX7.out.x 1
    have k1:w7.frozen? ⟨bx,1,none⟩=false:=by rw[←hbr];exact block_free HX7.out.x 1
    have HX8:Hid (RX w (w7.setCell ⟨bx,1,none⟩ (.int .i64 (fi:Int))) #[.slice A1 n1 c1,.slice A2 n2 c2,.slice A3 n3 c3] ⟨kd,(fi:Int),mi,ai,0,⟨0,0⟩⟩):=by
     subst hbr;exact HX7.out.set (j:=1) (y:=⟨kd,(fi:Int),mi,ai,0,⟨0,0⟩⟩) rfl
    go_upto_region 35 with (fail)
    clear y1 k1 HX7;generalize w7.setCell ⟨bx,1,none⟩ (.int .i64 (fi:Int))=w8 at*;refine wp_region_lit ?_;have hxr:w8.heap[bx]? = some (.cells #[.int .i64 kd,.int .i64 (fi:Int),.int .i64 mi,.string ai,.int .i64 0,.int .i64 0,.int .i64 0] 59 (0,0)):=by rw[←hbr];exact HX8.out.x
    refine wpList_load_row rfl _ _ rfl bx (by simp[Act.eval]) _ _ _ _ hxr Tryz.underlying59 rfl (by kernel_rfl) ?_;refine wpList_store_row rfl _ _ _ rfl (w.heap.size+1) #[.int .i64 kd,.int .i64 (fi:Int),.int .i64 mi,.string ai,.int .i64 0,.int .i64 0,.int .i64 0] (by simp[Act.eval,Act.put]) (by simp[Act.eval,Act.put]) _ _ HX8.out.r inc_info rfl (by simp[Value.oneCell']) ?_;have hr:=setRow_heap _ _ _ #[.int .i64 kd,.int .i64 (fi:Int),.int .i64 mi,.string ai,.int .i64 0,.int .i64 0,.int .i64 0] _ _ HX8.out.r;have HAE:Hid (Below w.heap.size w (w8.setRow (w.heap.size+1) #[.int .i64 kd,.int .i64 (fi:Int),.int .i64 mi,.string ai,.int .i64 0,.int .i64 0,.int .i64 0])):=below_setRow HX8.out.b (by omega);clear hxr;generalize w8.setRow (w.heap.size+1) #[.int .i64 kd,.int .i64 (fi:Int),.int .i64 mi,.string ai,.int .i64 0,.int .i64 0,.int .i64 0]=WZ at*;obtain⟨u0,u1,u2,u3,u4,u5,u6⟩:=cells7 hr;clear hr;go_wp2_with fail
    refine bodyPost_ret (v:=.tuple #[.agg #[.int .i64 kd,.int .i64 (fi:Int),.int .i64 mi,.string ai,.int .i64 0,.int .i64 0,.int .i64 0],.int .i64 0]) (by simp[results,Tryz.results65,go_sem,u0,u1,u2,u3,u4,u5,u6]) rfl ?_;refine⟨⟨kd,(fi:Int),mi,ai,0,⟨0,0⟩⟩,by rw[HF.out];rfl,fun h =>?_,HAE.out⟩;rw[HF.out]at h ⊢
    all_goals rfl
end Go.Proofs.YtifconapjfdkcaaGreatDoor
