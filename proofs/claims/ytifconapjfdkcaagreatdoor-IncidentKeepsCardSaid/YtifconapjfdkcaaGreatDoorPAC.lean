/-
  Contract of the reference's Apply: it says the same as the program's.
  Condition: one to nineteen flights, few incidents.
-/
import Derived.Test.YtifconapjfdkcaaGreatDoorPAB
import Derived.Test.YtifconapjfdkcaaGreatDoorPAA
import Derived.Test.YtifconapjfdkcaaGreatDoorProg
import Derived.WalkKit
import Derived.WalkLawsBesides
import Derived.WalkSpells
import Derived.Lib.Hide
import Derived.Maps.AppendAt
import Derived.ProofKit
import Derived.Deep.Slices
import Derived.Lib.SplitLaws
import Derived.Lib.IndexMore
import Derived.Lib.Strings
import Derived.Deep.QuietTactic
import Derived.BigQuiet
import Derived.IntWalk
import Derived.Maps.OwnOps
import Derived.Maps.Views
import Derived.StillTailTactics
import Derived.Deep.RegionWith
import Derived.Lib.AppendStr
import Derived.Laws.Rows
import Derived.Laws.Tables
import Derived.Deep.AppendLies
import Derived.Deep.RegionLaw
import Derived.Test.YtifconapjfdkcaaGreatDoorBAA
import Derived.Test.YtifconapjfdkcaaGreatDoorBAB
import Derived.Test.YtifconapjfdkcaaGreatDoorBAC
import Derived.Test.YtifconapjfdkcaaGreatDoorBAD
import Derived.Test.YtifconapjfdkcaaGreatDoorBAE
import Derived.Test.YtifconapjfdkcaaGreatDoorBAF
import Derived.Test.YtifconapjfdkcaaGreatDoorBAG
import Derived.Test.YtifconapjfdkcaaGreatDoorBAH
import Derived.Test.YtifconapjfdkcaaGreatDoorBAI
import Derived.Test.YtifconapjfdkcaaGreatDoorBAJ
import Derived.Test.YtifconapjfdkcaaGreatDoorBAK
import Derived.Test.YtifconapjfdkcaaGreatDoorBAL
import Derived.Test.YtifconapjfdkcaaGreatDoorBAM
import Derived.Test.YtifconapjfdkcaaGreatDoorBAN
import Derived.Test.YtifconapjfdkcaaGreatDoorBAO
import Derived.Test.YtifconapjfdkcaaGreatDoorBAP
import Derived.Test.YtifconapjfdkcaaGreatDoorBAQ
import Derived.Test.YtifconapjfdkcaaGreatDoorBAR
import Derived.Test.YtifconapjfdkcaaGreatDoorBAS
import Derived.Test.YtifconapjfdkcaaGreatDoorBAT
import Derived.Test.YtifconapjfdkcaaGreatDoorBAU
import Derived.Test.YtifconapjfdkcaaGreatDoorBAV
import Derived.Test.YtifconapjfdkcaaGreatDoorBAW
import Derived.Test.YtifconapjfdkcaaGreatDoorBAX
import Derived.Test.YtifconapjfdkcaaGreatDoorBAY
import Derived.Test.YtifconapjfdkcaaGreatDoorBAZ
import Derived.Test.YtifconapjfdkcaaGreatDoorBBA
import Derived.Test.YtifconapjfdkcaaGreatDoorBBB
import Derived.Test.YtifconapjfdkcaaGreatDoorBBC
import Derived.Test.YtifconapjfdkcaaGreatDoorBBD
import Derived.Test.YtifconapjfdkcaaGreatDoorBBE
import Derived.Test.YtifconapjfdkcaaGreatDoorBBF
import Derived.Test.YtifconapjfdkcaaGreatDoorBBG
import Derived.Test.YtifconapjfdkcaaGreatDoorBBH
import Derived.Test.YtifconapjfdkcaaGreatDoorBBI
import Derived.Test.YtifconapjfdkcaaGreatDoorBBJ
import Derived.Test.YtifconapjfdkcaaGreatDoorBBK
import Derived.Test.YtifconapjfdkcaaGreatDoorBBL
import Derived.Test.YtifconapjfdkcaaGreatDoorBBM
import Derived.Test.YtifconapjfdkcaaGreatDoorBBN
import Derived.Test.YtifconapjfdkcaaGreatDoorBBO
import Derived.Test.YtifconapjfdkcaaGreatDoorBBP
import Derived.Test.YtifconapjfdkcaaGreatDoorBBQ
import Derived.Test.YtifconapjfdkcaaGreatDoorBBR
import Derived.Test.YtifconapjfdkcaaGreatDoorBBS
import Derived.Test.YtifconapjfdkcaaGreatDoorBBT
import Derived.Test.YtifconapjfdkcaaGreatDoorBBU
import Derived.Test.YtifconapjfdkcaaGreatDoorBBV
import Derived.Test.YtifconapjfdkcaaGreatDoorBBW
namespace Go.Proofs.YtifconapjfdkcaaGreatDoor
set_option linter.unusedSimpArgs false
set_option linter.unusedVariables false
open Go.RowKit
set_option maxRecDepth 100000 in
set_option maxHeartbeats 6400000 in
theorem applyR_any(t:GTT)(l:List GInc)(A1 A2 A3 A5:Option Addr)(n1 n2 n3 n5 c1 c2 c3 c5:Nat)(w:World)(ht:t.ok)(hs1:Sl Ty.zone w (all_ w) A1 n1 c1 t.zones)(hs2:Sl Ty.airport w (all_ w) A2 n2 c2 t.airports)(hs3:Sl Ty.flight w (all_ w) A3 n3 c3 t.flights)(hs5:Sl Ty.inc w (all_ w) A5 n5 c5 l)
 (hf0:0<t.flights.length) (hf1:t.flights.length≤19) (hl:l.length≤1000000) :
 Calls Tryz.prog 20 #[.agg #[.slice A1 n1 c1,.slice A2 n2 c2,.slice A3 n3 c3],.slice A5 n5 c5] w (ApplyPost (applyP t l) w):=by
 have hn1:n5≤l.length:=Nat.le_of_eq hs5.len;have hn2:l.length≤n5:=Nat.le_of_eq hs5.len.symm;have hm1:n3≤t.flights.length:=Nat.le_of_eq hs3.len;have hm2:t.flights.length≤n3:=Nat.le_of_eq hs3.len.symm;have hb0:=((Below.refl w.heap.size w).alloc (Nat.le_refl _) (.cells #[.slice A1 n1 c1,.slice A2 n2 c2,.slice A3 n3 c3] 27)).alloc (by simp) (.cells #[.slice none 0 0,.slice none 0 0,.slice none 0 0] 27);have hr0:=heap_alloc2_old w (.cells #[.slice A1 n1 c1,.slice A2 n2 c2,.slice A3 n3 c3] 27) (.cells #[.slice none 0 0,.slice none 0 0,.slice none 0 0] 27);have hr1:=heap_alloc2_new w (.cells #[.slice A1 n1 c1,.slice A2 n2 c2,.slice A3 n3 c3] 27) (.cells #[.slice none 0 0,.slice none 0 0,.slice none 0 0] 27);have hz0:((w.alloc (.cells #[.slice A1 n1 c1,.slice A2 n2 c2,.slice A3 n3 c3] 27)).alloc (.cells #[.slice none 0 0,.slice none 0 0,.slice none 0 0] 27)).heap.size=w.heap.size+2:=by simp
 have HS1:Hid (∀ V,Below w.heap.size w V→Sl Ty.zone V (all_ V) A1 n1 c1 t.zones):=fun V hV=>hs1.next hV
 have HS2:Hid (∀ V,Below w.heap.size w V→Sl Ty.airport V (all_ V) A2 n2 c2 t.airports):=fun V hV=>hs2.next hV
 have HS3:Hid (∀ V,Below w.heap.size w V→Sl Ty.flight V (all_ V) A3 n3 c3 t.flights):=fun V hV=>hs3.next hV
 have HS5:Hid (∀ V,Below w.heap.size w V→Sl Ty.inc V (all_ w) A5 n5 c5 l):=fun V hV=>hs5.keep (all_keep hV)
 have HV:=Lib.hid (validateR_any t A1 A2 A3 n1 n2 n3 c1 c2 c3 _ ht (hs1.next hb0) (hs2.next hb0) (hs3.next hb0));have HT:=Lib.hid ht;have HF0:=Lib.hid hf0;have HF1:=Lib.hid hf1;have HB0:=Lib.hid hb0;have HR0:=Lib.hid hr0;have HR1:=Lib.hid hr1;have HZ0:=Lib.hid hz0;have HP:=Lib.hid (applyP_eq t l);clear hs1 hs2 hs3 hs5 hb0 hr0 hr1 hz0 ht hf0 hf1;generalize applyP t l=res at*;generalize hte:ttE t=te at*
 go_enter Tryz.func20,Tryz.ntmps20
 go_wp2_with fail
 generalize (w.alloc (.cells #[.slice A1 n1 c1,.slice A2 n2 c2,.slice A3 n3 c3] 27)).alloc (.cells #[.slice none 0 0,.slice none 0 0,.slice none 0 0] 27)=W at*;refine HV.out.mono ?_;clear HV;rintro e w1 ⟨rfl,hb1⟩;have hw1:Below w.heap.size w w1:=HB0.out.trans (hb1.mono (by have:=HZ0.out;omega));have HT0:Hid (w1.heap[w.heap.size]? = _):=(hb1.block _ (by have:=HZ0.out;omega)).trans HR0.out;have HT1:Hid (w1.heap[w.heap.size+1]? = _):=(hb1.block _ (by have:=HZ0.out;omega)).trans HR1.out;have hsz1:w.heap.size+2≤w1.heap.size:=by have:=HZ0.out;have:=hb1.size;omega
 have HW1:=Lib.hid hw1;clear hb1 HB0 HR0 HR1 HZ0 hw1;have RET:Hid (∀ V:World,Below w.heap.size w V→V.heap[w.heap.size+1]? = some (.cells #[.slice none 0 0,.slice none 0 0,.slice none 0 0] 27 (0,0)) →
  ∀ a b c,Below w.heap.size w (((V.setCell ⟨w.heap.size+1,0,none⟩ a).setCell ⟨w.heap.size+1,1,none⟩ b).setCell ⟨w.heap.size+1,2,none⟩ c)):=fun V hV _ a b c =>
  ((hV.setCell (show w.heap.size≤w.heap.size+1 by omega) _).setCell (show w.heap.size≤w.heap.size+1 by omega) _).setCell (show w.heap.size≤w.heap.size+1 by omega) _
 by_cases hc:te=0
 case neg =>
  have hc':(te != 0)=true:=by simpa using hc
  have HF:Hid (res=(⟨[],[],[]⟩,[],te)):=by show _=_;rw[HP.out,if_pos hc]
  have f0:=block_free HT1.out 0;have f1:=block_free HT1.out 1;have f2:=block_free HT1.out 2;have z0:=block_cell HT1.out 0;have z1:=block_cell HT1.out 1;have z2:=block_cell HT1.out 2;clear hc;go_wp2_with fail
  refine bodyPost_ret (v:=.tuple #[.agg #[.slice none 0 0,.slice none 0 0,.slice none 0 0],.slice none 0 0,.int .i64 te]) (by simp[results,Tryz.results20,go_sem,z0,z1,z2]) rfl ?_;rw[HF.out];exact apply_nil (RET.out _ HW1.out HT1.out _ _ _)
 have hc':(te != 0)=false:=by simpa using hc
 rw[if_neg (by simpa using hc)]at HP;have hval:t.valid:=ttE_zero.1 (hte.trans hc);have HVAL:=Lib.hid hval;subst hc;clear hval hte;go_wp2_with fail
 have hle5:n5≤1000000:=by omega
 go_loopw [8] (fun s wr => ∃ k:Nat,k≤n5∧s=.int .i64 k∧Below w.heap.size w wr∧w.heap.size+2≤wr.heap.size∧Hid (wr.heap[w.heap.size]? = some (.cells #[.slice A1 n1 c1,.slice A2 n2 c2,.slice A3 n3 c3] 27 (0,0))) ∧
  Hid (wr.heap[w.heap.size+1]? = some (.cells #[.slice none 0 0,.slice none 0 0,.slice none 0 0] 27 (0,0)))∧Hid (zeroTo (fun i=>incE2 t (l.getD i noInc)) k)) (fun s _=>n5-(intOf s).toNat)
 case atStart=>exact⟨0,Nat.zero_le _,rfl,HW1.out,hsz1,HT0,HT1,zeroTo_zero _⟩
 case round =>
  obtain⟨k,hk,rfl,hbr,hsz,HTA,HTB,HK⟩:=hrel;clear HW1 HT0 HT1 hsz1
  by_cases hlt:k<n5
  ·have hks:k<l.length:=by omega
   obtain⟨b,o,rfl,hbS,hat⟩:=(HS5.out wr hbr).inc_at hks;have HE:Hid (∀ v:Int,incE2 t (l.getD k noInc)=v→v≠0→res=(⟨[],[],[]⟩,[],v)):=fun v h1 h2=>by
    have hh:=firstErr_hit (f:=fun i=>incE2 t (l.getD i noInc)) (k:=k) HK.out (by show incE2 t (l.getD k noInc)≠0;rw[h1];exact h2) hks;rw[HP.out,if_pos (by rw[hh];show incE2 t (l.getD k noInc)≠0;rw[h1];exact h2),hh];show(_,_,incE2 t (l.getD k noInc))=_;rw[h1]
   have HM:Hid (incE2 t (l.getD k noInc)=0→zeroTo (fun i=>incE2 t (l.getD i noInc)) (k+1)):=fun h=>zeroTo_succ HK.out h
   have z0:=hat 0 _ rfl;rw[Nat.add_zero]at z0;have z1:=hat 1 _ rfl;have z2:=hat 2 _ rfl;have z3:=hat 3 _ rfl;have z4:=hat 4 _ rfl;have z5:=hat 5 _ rfl;have z6:=hat 6 _ rfl;clear hat HK;generalize l.getD k noInc=x at*;obtain⟨kind,fl,mi,ai,pe,⟨s1,s2⟩⟩:=x;simp only at z0 z1 z2 z3 z4 z5 z6;have hDR:Below w.heap.size w wr.drew:=below_drewN hbr 1;have HC:=Lib.hid (flight40_any t ⟨kind,fl,mi,ai,pe,⟨s1,s2⟩⟩ A1 A2 A3 n1 n2 n3 c1 c2 c3 wr.drew (HS2.out _ hDR) (HS3.out _ hDR));unfold incVal at HC;have HDR:=Lib.hid hDR;have x0:=block_cell HTA.out 0;have x1:=block_cell HTA.out 1;have x2:=block_cell HTA.out 2;generalize incE2 t ⟨kind,fl,mi,ai,pe,⟨s1,s2⟩⟩=fe at*;have hDS:wr.drew.heap.size=wr.heap.size:=rfl;clear hDR;go_upto_region 7 with (fail)
   refine wp_region_still_tail 5 (by kernel_rfl) (by kernel_rfl) ?_;simp only[List.take_succ_cons,List.take_zero,List.drop_succ_cons,List.drop_zero];change wpStill _ _ wr.drew (fun a'=>wpList _ _ _ _ a' wr.drew) _ _
   repeat still_step
   refine wpStill_nil ?_;go_wp2_with fail
   refine HC.out.mono ?_;rintro e w2 ⟨rfl,hb2⟩;have HE2:Hid (Below w.heap.size w w2):=HDR.out.trans (hb2.mono HDR.out.size);have HYA:Hid (w2.heap[w.heap.size]? = _):=(hb2.block _ (by rw[hDS];omega)).trans HTA.out;have HYB:Hid (w2.heap[w.heap.size+1]? = _):=(hb2.block _ (by rw[hDS];omega)).trans HTB.out;have hzx:w.heap.size+2≤w2.heap.size:=by have:=hb2.size;rw[hDS]at this;omega
   by_cases hfe:fe=0
   case neg =>
    have hfe':(fe != 0)=true:=by simpa using hfe
    have HF:Hid (res=(⟨[],[],[]⟩,[],fe)):=HE.out fe rfl hfe;clear hfe hb2 HC z0 z1 z2;have f0:=block_free HYB.out 0;have f1:=block_free HYB.out 1;have f2:=block_free HYB.out 2;have z0:=block_cell HYB.out 0;have z1:=block_cell HYB.out 1;have z2:=block_cell HYB.out 2;go_wp2_with fail
    refine bodyPost_ret (v:=.tuple #[.agg #[.slice none 0 0,.slice none 0 0,.slice none 0 0],.slice none 0 0,.int .i64 fe]) (by simp[results,Tryz.results20,go_sem,z0,z1,z2]) rfl ?_;rw[HF.out];exact apply_nil (RET.out _ HE2.out HYB.out _ _ _)
   have hfe':(fe != 0)=false:=by simpa using hfe
   have HM2:=Lib.hid (HM.out hfe);subst hfe;clear hb2 HC z0 z1 z2 z3 z4 z5 z6 x0 x1 x2;go_wp2_with fail
   go_roundw
   case rel=>exact⟨k+1,by omega,by go_num,HE2.out,hzx,HYA,HYB,HM2⟩
   case measure=>simp[intOf];omega
  ·have HZ:Hid (∀ i,i<l.length→incE2 t (l.getD i noInc)=0):=fun i hi=>HK.out i (by omega)
   have HP2:Hid (res=if ttE (newTT t l)≠0 then (⟨[],[],[]⟩,[],ttE (newTT t l)) else (newTT t l,indexL t l,0)):=by
    show _=_;rw[HP.out,if_neg (by rw[firstErr_none (f:=fun i=>incE2 t (l.getD i noInc)) HZ.out];simp)]
   clear HP HK;have x2:=block_cell HTA.out 2;have hlen1:t.flights.length≤19:=HF1.out;have hlen0:0<t.flights.length:=HF0.out;obtain⟨b3,o3,rfl, -, -⟩:=(HS3.out wr hbr).flight_at (k:=0) hlen0;have HS3r:=Lib.hid (HS3.out wr hbr);go_wp2_with (at_builtin;refine wpList_concat (t:=Ty.flight) (S:=all_ wr) (xs:=[]) (ys:=t.flights) (base:=wr.heap.size) flat_flight rfl _ _ rfl 104 elem_flight rfl Own.nil ⟨b3,o3,none⟩ n3 c3 rfl HS3r.out ?c1 (by decide) (Nat.le_refl _) ?_)
   case c1=>simp;omega
   intro vF w2 hoF hgF;have hb2:Below wr.heap.size wr w2:=(Below.refl _ _).grown hgF (Nat.le_refl _) fun j hj=>by cases hj
   obtain⟨Af,cf,rfl, -⟩:=hoF.sl;clear x2 hgF HS3r;have hsz2:wr.heap.size≤w2.heap.size:=hb2.size;have HW2:Hid (Below w.heap.size w w2):=hbr.trans (hb2.mono hbr.size);have HTA2:Hid (w2.heap[w.heap.size]? = _):=(hb2.block _ (by omega)).trans HTA.out;have HTB2:Hid (w2.heap[w.heap.size+1]? = _):=(hb2.block _ (by omega)).trans HTB.out;have HOF:=Lib.hid hoF;have HLF:=Lib.hid hoF.lt;clear hb2 HTA HTB hbr hoF;have HAP:Hid (AP w #[.slice A1 n1 c1,.slice A2 n2 c2,.slice (some ⟨b3,o3,none⟩) n3 c3] wr.heap.size (w2.alloc (.cells (madeCells #[.bool false] t.flights.length) 4)) (.slice Af t.flights.length cf) (.slice (some ⟨w2.heap.size,0,none⟩) t.flights.length t.flights.length) (appTo t l 0)):=by
    have hba:=(Below.refl w2.heap.size w2).alloc (Nat.le_refl _) (.cells (madeCells #[.bool false] t.flights.length) 4);refine⟨(hba.block _ (by omega)).trans HTA2.out,(hba.block _ (by omega)).trans HTB2.out, ?_,OwnS.made (t:=Ty.bool) rfl (fun _ _=>rfl) (by omega) (by unfold maxLen;omega),HW2.out.trans (hba.mono HW2.out.size),by omega⟩;obtain⟨cs,g1,g2⟩:=HOF.out;exact OwnS.next (show OwnS Ty.flight 62 w2 (fun _=>False) wr.heap.size (.slice Af t.flights.length cf) t.flights from ⟨cs,g1,g2.flat flat_flight⟩) hba fun _ h=>h.elim
   clear HOF HTA2 HTB2 HW2;have hmk:=fun w=>run_make_row' (P:=Tryz.prog) 55 4 (.bool false) 1 Tryz.underlying55 (by kernel_rfl) rfl .i64 .i64 t.flights.length (by omega) (by omega) w
   go_wp2_with fail
   clear hmk;obtain⟨fb,cf',curF,eF,hfb0,hfb1, -⟩:=HAP.out.F.ownAt (by rw[(appTo_len t l 0 (Nat.zero_le _)).1];exact HF0.out)
   cases eF;have HFB:Hid (wr.heap.size≤fb∧fb<w2.heap.size):=HLF.out fb rfl;clear HLF hfb1 curF;generalize (some ⟨b3,o3,none⟩:Option Addr)=A3 at*;generalize hB0:wr.heap.size=B0 at*;generalize hCB:w2.heap.size=cb at*;go_loopw [12] (fun s wr => ∃ k:Nat,k≤n5∧s=.int .i64 k∧AP w #[.slice A1 n1 c1,.slice A2 n2 c2,.slice A3 n3 c3] B0 wr (.slice (some ⟨fb,0,none⟩) t.flights.length cf) (.slice (some ⟨cb,0,none⟩) t.flights.length t.flights.length) (appTo t l k)) (fun s _=>n5-(intOf s).toNat)
   case atStart=>exact⟨0,Nat.zero_le _,rfl,HAP.out⟩
   case round =>
    obtain⟨q,hq,rfl,hap⟩:=hrel;clear HAP
    by_cases hlt2:q<n5
    ·have hqs:q<l.length:=by omega
     have HNX:=Lib.hid (appTo_succ t l hqs);have HLE:=Lib.hid (appTo_len t l q (by omega));have HSM:=Lib.hid (appTo_small HVAL.out HZ.out q (by omega));have HZQ:=Lib.hid (HZ.out q hqs);obtain⟨b5,o5,rfl,hbS5,hat5⟩:=(HS5.out wr hap.bel).inc_at hqs;have z0:=hat5 0 _ rfl;rw[Nat.add_zero]at z0;have z1:=hat5 1 _ rfl;have z2:=hat5 2 _ rfl;have z3:=hat5 3 _ rfl;have z4:=hat5 4 _ rfl;have z5:=hat5 5 _ rfl;have z6:=hat5 6 _ rfl;clear hat5;generalize l.getD q noInc=x at*;generalize hS:appTo t l q=S at*;generalize hS2:appTo t l (q+1)=S2 at*;obtain⟨kind,fl,mi,ai,pe,⟨s1,s2⟩⟩:=x;simp only at z0 z1 z2 z3 z4 z5 z6;have HBX:=Lib.hid ((Below.refl wr.heap.size wr).alloc (Nat.le_refl _) (.cells #[.int .i64 kind,.int .i64 fl,.int .i64 mi,.string ai,.int .i64 pe,.int .i64 s1,.int .i64 s2] 59));have HRX:=Lib.hid (heap_alloc_new wr (.cells #[.int .i64 kind,.int .i64 fl,.int .i64 mi,.string ai,.int .i64 pe,.int .i64 s1,.int .i64 s2] 59));have HAX:=Lib.hid (hap.next HBX.out);have HAW:Hid (cb<wr.heap.size):=(hap.C.lt cb rfl).2;have HSA:Hid (∀ V,AP w #[.slice A1 n1 c1,.slice A2 n2 c2,.slice A3 n3 c3] B0 V (.slice (some ⟨fb,0,none⟩) t.flights.length cf) (.slice (some ⟨cb,0,none⟩) t.flights.length t.flights.length) S→appSt S ⟨kind,fl,mi,ai,pe,⟨s1,s2⟩⟩=S→AP w #[.slice A1 n1 c1,.slice A2 n2 c2,.slice A3 n3 c3] B0 V (.slice (some ⟨fb,0,none⟩) t.flights.length cf) (.slice (some ⟨cb,0,none⟩) t.flights.length t.flights.length) S2):=fun V hV e=>by rw[HNX.out,e];exact hV
     by_cases hk4:kind=4
     ·subst hk4;have HEQ:Hid (appSt S ⟨4,fl,mi,ai,pe,⟨s1,s2⟩⟩=S):=by show _=_;unfold appSt;exact if_pos (.inl rfl)
      clear hap;go_wp2_with fail
      go_roundw
      case rel=>exact⟨q+1,by omega,by go_num,by rw[hS2];exact HSA.out _ HAX.out HEQ.out⟩
      case measure=>simp[intOf];omega
     obtain⟨hI1,hI2,hI3⟩:=incE2_flight HZQ.out;have hz:=flightIncE_zero (hI3 hk4);simp only at hI1 hI2 hI3 hz;obtain⟨hz1,hz2,hz3,hz4⟩:=hz;obtain⟨fi,rfl⟩:=Int.eq_ofNat_of_zero_le hz1;have hfi:fi<t.flights.length:=by omega
     have HL1:Hid (fi<S.1.length):=by show _<_;rw[HLE.out.1];exact hfi
     have HL2:Hid (fi<S.2.length):=by show _<_;rw[HLE.out.2];exact hfi
     have zc:=HAX.out.C.bool_cell HL2.out;have hk4':(kind==4)=false:=by simpa using hk4
     cases hg:S.2.getD fi false with
     | true =>
      rw[hg]at zc;have HEQ:Hid (appSt S ⟨kind,(fi:Int),mi,ai,pe,⟨s1,s2⟩⟩=S):=appSt_skip (fi:=fi) rfl hg;clear hap hg hI3 hz3 hz4;go_wp2_with fail
      go_roundw
      case rel=>exact⟨q+1,by omega,by go_num,by rw[hS2];exact HSA.out _ HAX.out HEQ.out⟩
      case measure=>simp[intOf];omega
     | false =>
      rw[hg]at zc;have HG:=Lib.hid hg;have HFM:Hid ((0≤(S.1.getD fi noFlight).dep∧(S.1.getD fi noFlight).dep≤60000000+1440*(q:Int))∧(0≤(S.1.getD fi noFlight).arr∧(S.1.getD fi noFlight).arr≤60000000+1440*(q:Int))):=HSM.out _ (getD_mem0 HL1.out noFlight);have hqb:q≤1000000:=by omega
      clear hap hg;have hk3:kind=1∨kind=2∨kind=3:=by omega
      rcases hk3 with rfl|rfl|rfl
      ·have hmi:=hz3 rfl;have HEQ:=Lib.hid (HNX.out.trans (appSt_delay HG.out));clear hI3 hz3 hz4 hI1 hI2;go_upto_region 19 with (fail)
       generalize wr.alloc (.cells #[.int .i64 1,.int .i64 (fi:Int),.int .i64 mi,.string ai,.int .i64 pe,.int .i64 s1,.int .i64 s2] 59)=X at*;clear zc z0 z1 z2 z3 z4 z5 z6;have HCF:=Lib.hid (HAX.out.F.flight_cells HL1.out);generalize hf:S.1.getD fi noFlight=f at*;have d3:X.cell? ⟨fb,fi*9+3,none⟩=some (.int .i64 f.dep):=HCF.out 3 _ rfl;have y1:X.cell? ⟨wr.heap.size,1,none⟩=some (.int .i64 (fi:Int)):=block_cell HRX.out 1;have y2:X.cell? ⟨wr.heap.size,2,none⟩=some (.int .i64 mi):=block_cell HRX.out 2;have fr3:X.frozen? ⟨fb,fi*9+3,none⟩=false:=HAX.out.F.free _;have HY:Hid (AP w #[.slice A1 n1 c1,.slice A2 n2 c2,.slice A3 n3 c3] B0 (X.setCell ⟨fb,fi*9+3,none⟩ (.int .i64 (wrap64 (f.dep+mi)))).drew (.slice (some ⟨fb,0,none⟩) t.flights.length cf) (.slice (some ⟨cb,0,none⟩) t.flights.length t.flights.length) (S.1.set fi { f with dep:=f.dep+mi },S.2)):=by
        have hfm:=HFM.out;show AP _ _ _ _ _ _ _;rw[IntWalk.wrap64_in (f.dep+mi) ⟨by omega,by omega⟩];exact(HAX.out.setF2 HL1.out (show 3<9 by decide) (by rw[hf];rfl)).drew
       have HYX:Hid ((X.setCell ⟨fb,fi*9+3,none⟩ (.int .i64 (wrap64 (f.dep+mi)))).drew.heap[wr.heap.size]? = X.heap[wr.heap.size]?):=heap_setCell_other _ _ _ _ (by show wr.heap.size≠fb;have:=HFB.out;have:=HAW.out;omega);refine wp_region_still_tail 11 (by kernel_rfl) (by kernel_rfl) ?_;simp only[List.take_succ_cons,List.take_zero,List.drop_succ_cons,List.drop_zero];change wpStill _ _ X.drew (fun a'=>wpList _ _ _ _ a' X.drew) _ _
       repeat still_step
       refine wpStill_nil ?_;go_upto_region 20 with (fail)
       generalize (X.setCell ⟨fb,fi*9+3,none⟩ (.int .i64 (wrap64 (f.dep+mi)))).drew=Y at*;clear d3 y1 y2 fr3;have hcf2:=HY.out.F.flight_cells (k:=fi) (by rw[List.length_set];exact HL1.out);rw[getD_set_self HL1.out]at hcf2;have d4:Y.cell? ⟨fb,fi*9+4,none⟩=some (.int .i64 f.arr):=hcf2 4 _ rfl;have y1:Y.cell? ⟨wr.heap.size,1,none⟩=some (.int .i64 (fi:Int)):=block_cell (HYX.out.trans HRX.out) 1;have y2:Y.cell? ⟨wr.heap.size,2,none⟩=some (.int .i64 mi):=block_cell (HYX.out.trans HRX.out) 2;have fr4:Y.frozen? ⟨fb,fi*9+4,none⟩=false:=HY.out.F.free _;have HV:Hid (AP w #[.slice A1 n1 c1,.slice A2 n2 c2,.slice A3 n3 c3] B0 (Y.setCell ⟨fb,fi*9+4,none⟩ (.int .i64 (wrap64 (f.arr+mi)))).drew (.slice (some ⟨fb,0,none⟩) t.flights.length cf) (.slice (some ⟨cb,0,none⟩) t.flights.length t.flights.length) S2):=by
        have hfm:=HFM.out;show AP _ _ _ _ _ _ _;rw[IntWalk.wrap64_in (f.arr+mi) ⟨by omega,by omega⟩,HEQ.out];have:=(HY.out.setF2 (k:=fi) (y:=delayF f mi) (u:=.int .i64 (f.arr+mi)) (by rw[List.length_set];exact HL1.out) (show 4<9 by decide) (by rw[getD_set_self HL1.out];rfl)).drew;rw[List.set_set]at this;exact this
       clear hcf2 HCF;refine wp_region_still_tail 11 (by kernel_rfl) (by kernel_rfl) ?_;simp only[List.take_succ_cons,List.take_zero,List.drop_succ_cons,List.drop_zero];change wpStill _ _ Y.drew (fun a'=>wpList _ _ _ _ a' Y.drew) _ _
       repeat still_step
       refine wpStill_nil ?_;go_wp2_with fail
       go_roundw
       case rel=>exact⟨q+1,by omega,by go_num,by rw[hS2];exact HV.out⟩
       case measure=>simp[intOf];omega
      ·have HEQ:=Lib.hid (HNX.out.trans (appSt_cancel HG.out));have frc:=HAX.out.C.free fi;have HV:Hid (AP w #[.slice A1 n1 c1,.slice A2 n2 c2,.slice A3 n3 c3] B0 ((wr.alloc (.cells #[.int .i64 2,.int .i64 (fi:Int),.int .i64 mi,.string ai,.int .i64 pe,.int .i64 s1,.int .i64 s2] 59)).setCell ⟨cb,fi,none⟩ (.bool true)) (.slice (some ⟨fb,0,none⟩) t.flights.length cf) (.slice (some ⟨cb,0,none⟩) t.flights.length t.flights.length) S2):=by
        show AP _ _ _ _ _ _ _;rw[HEQ.out];exact HAX.out.setC HL2.out
       clear hI3 hz3 hz4 hI1 hI2;go_wp2_with fail
       go_roundw
       case rel=>exact⟨q+1,by omega,by go_num,by rw[hS2];exact HV.out⟩
       case measure=>simp[intOf];omega
      ·have hmi:=hz4 rfl;have HEQ:=Lib.hid (HNX.out.trans (appSt_divert HG.out));clear hI3 hz3 hz4 hI1 hI2;have HCF0:=Lib.hid (HAX.out.F.flight_cells HL1.out);have d2:=HCF0.out 2 _ rfl;have fr2:=HAX.out.F.free (fi*9+2);go_upto_region 25 with (fail)
       clear d2 fr2 HCF0;have HY:Hid (AP w #[.slice A1 n1 c1,.slice A2 n2 c2,.slice A3 n3 c3] B0 ((wr.alloc (.cells #[.int .i64 3,.int .i64 (fi:Int),.int .i64 mi,.string ai,.int .i64 pe,.int .i64 s1,.int .i64 s2] 59)).setCell ⟨fb,fi*9+2,none⟩ (.string ai)) (.slice (some ⟨fb,0,none⟩) t.flights.length cf) (.slice (some ⟨cb,0,none⟩) t.flights.length t.flights.length) (S.1.set fi { (S.1.getD fi noFlight) with dst:=ai },S.2)) :=
        HAX.out.setF2 HL1.out (show 2<9 by decide) rfl
       have HYX:Hid (((wr.alloc (.cells #[.int .i64 3,.int .i64 (fi:Int),.int .i64 mi,.string ai,.int .i64 pe,.int .i64 s1,.int .i64 s2] 59)).setCell ⟨fb,fi*9+2,none⟩ (.string ai)).heap[wr.heap.size]? = (wr.alloc (.cells #[.int .i64 3,.int .i64 (fi:Int),.int .i64 mi,.string ai,.int .i64 pe,.int .i64 s1,.int .i64 s2] 59)).heap[wr.heap.size]?):=heap_setCell_other _ _ _ _ (by show wr.heap.size≠fb;have:=HFB.out;have:=HAW.out;omega);have HYR:=Lib.hid (HYX.out.trans HRX.out);clear HYX HRX HAX zc z0 z1 z2 z3 z4 z5 z6 HBX;generalize (wr.alloc (.cells #[.int .i64 3,.int .i64 (fi:Int),.int .i64 mi,.string ai,.int .i64 pe,.int .i64 s1,.int .i64 s2] 59)).setCell ⟨fb,fi*9+2,none⟩ (.string ai)=Y at*;generalize hf:S.1.getD fi noFlight=f at*;have hcf2:=HY.out.F.flight_cells (k:=fi) (by rw[List.length_set];exact HL1.out);rw[getD_set_self HL1.out]at hcf2;have d4:Y.cell? ⟨fb,fi*9+4,none⟩=some (.int .i64 f.arr):=hcf2 4 _ rfl;have y1:Y.cell? ⟨wr.heap.size,1,none⟩=some (.int .i64 (fi:Int)):=block_cell HYR.out 1;have y2:Y.cell? ⟨wr.heap.size,2,none⟩=some (.int .i64 mi):=block_cell HYR.out 2;have fr4:Y.frozen? ⟨fb,fi*9+4,none⟩=false:=HY.out.F.free _;have HV:Hid (AP w #[.slice A1 n1 c1,.slice A2 n2 c2,.slice A3 n3 c3] B0 (Y.setCell ⟨fb,fi*9+4,none⟩ (.int .i64 (wrap64 (f.arr+mi)))).drew (.slice (some ⟨fb,0,none⟩) t.flights.length cf) (.slice (some ⟨cb,0,none⟩) t.flights.length t.flights.length) S2):=by
        have hfm:=HFM.out;show AP _ _ _ _ _ _ _;rw[IntWalk.wrap64_in (f.arr+mi) ⟨by omega,by omega⟩,HEQ.out];have:=(HY.out.setF2 (k:=fi) (y:=divertF f ai mi) (u:=.int .i64 (f.arr+mi)) (by rw[List.length_set];exact HL1.out) (show 4<9 by decide) (by rw[getD_set_self HL1.out];rfl)).drew;rw[List.set_set]at this;exact this
       clear hcf2;refine wp_region_still_tail 11 (by kernel_rfl) (by kernel_rfl) ?_;simp only[List.take_succ_cons,List.take_zero,List.drop_succ_cons,List.drop_zero];change wpStill _ _ Y.drew (fun a'=>wpList _ _ _ _ a' Y.drew) _ _
       repeat still_step
       refine wpStill_nil ?_;go_wp2_with fail
       go_roundw
       case rel=>exact⟨q+1,by omega,by go_num,by rw[hS2];exact HV.out⟩
       case measure=>simp[intOf];omega
    ·obtain rfl:q=l.length:=by omega
     have HLE:=Lib.hid (appTo_len t l l.length (Nat.le_refl _));have HSM:=Lib.hid (appTo_small HVAL.out HZ.out l.length (Nat.le_refl _));have HSZ:=Lib.hid (appTo_sz HT.out HZ.out l.length (Nat.le_refl _));rw[appTo_all]at HLE HSM hap HSZ;have HFL0:Hid (newTT t l=⟨t.zones,t.airports,newFl (appAll t l).1 (appAll t l).2⟩∧indexL t l=(List.range t.flights.length).map (indexI (appAll t l).1 (appAll t l).2)):=⟨rfl,rfl⟩
     generalize newTT t l=NT at*;generalize indexL t l=NI at*;generalize appAll t l=S at*;obtain⟨fl,gone⟩:=S;simp only at HLE HSM HFL0 HSZ;have x0:=block_cell hap.t 0;have x1:=block_cell hap.t 1;have x2:=block_cell hap.t 2;have hle1:fl.length=t.flights.length:=HLE.out.1;have hle2:gone.length=t.flights.length:=HLE.out.2;have HL12:=Lib.hid (And.intro hle1 hle2);have HAP:=Lib.hid hap;clear hap hle1 hle2;go_upto_region 27 with (fail)
     have HU:=Lib.hid (heap_alloc_new wr (.cells #[.slice A1 n1 c1,.slice A2 n2 c2,.slice none 0 0] 27));have HA2:=Lib.hid (HAP.out.next ((Below.refl wr.heap.size wr).alloc (Nat.le_refl _) (.cells #[.slice A1 n1 c1,.slice A2 n2 c2,.slice none 0 0] 27)));have hzu:wr.heap.size<(wr.alloc (.cells #[.slice A1 n1 c1,.slice A2 n2 c2,.slice none 0 0] 27)).heap.size:=by simp
     have hfl:=(HAP.out.F.lt fb rfl)
     have hcl:=(HAP.out.C.lt cb rfl)
     have hll:=HAP.out.l;clear x0 x1 x2 HAP;generalize wr.alloc (.cells #[.slice A1 n1 c1,.slice A2 n2 c2,.slice none 0 0] 27)=w4 at*;generalize wr.heap.size=ub at*;have hmi:=fun w=>run_make_row' (P:=Tryz.prog) 22 3 (.int .i64 0) 8 Tryz.underlying22 (by kernel_rfl) rfl .i64 .i64 t.flights.length (by omega) (by omega) w
     have hng:=HL12.out.2;have HAQ:Hid (AQ w #[.slice A1 n1 c1,.slice A2 n2 c2,.slice A3 n3 c3] B0 fb cf cb t.flights.length ub (.slice A1 n1 c1) (.slice A2 n2 c2) w4.heap.size (w4.heap.size+1) fl gone (w4.alloc (.cells (madeCells #[.int .i64 0] t.flights.length) 3)) (.slice none 0 0) (ixR fl gone 0) (gathN fl gone 0)):=by
      have hb5:=(Below.refl w4.heap.size w4).alloc (Nat.le_refl _) (.cells (madeCells #[.int .i64 0] t.flights.length) 3);have hp:=HA2.out.next hb5;refine⟨hp.t,hp.res,(hb5.block _ (by omega)).trans HU.out,hp.F,hp.C, ?_,Own.nil,hp.bel,by simp;omega⟩;rw[ixR_zero,hng];exact OwnS.made (t:=Ty.int .i64) rfl (fun _ _=>rfl) (Nat.le_refl _) (by unfold maxLen;omega)
     clear HA2 HU;go_wp2_with fail
     clear hmi;generalize w4.alloc (.cells (madeCells #[.int .i64 0] t.flights.length) 3)=w5 at*;generalize w4.heap.size=ib at*;have HNI:Hid (NI=(List.range gone.length).map (indexI fl gone)):=by show _=_;rw[HFL0.out.2,hng]
     go_loopw [16] (fun s wr => ∃ k:Nat,k≤t.flights.length∧s=.int .i64 k∧AQ w #[.slice A1 n1 c1,.slice A2 n2 c2,.slice A3 n3 c3] B0 fb cf cb t.flights.length ub (.slice A1 n1 c1) (.slice A2 n2 c2) ib (ib+1) fl gone wr (.slice none 0 0) (ixR fl gone k) (gathN fl gone 0)) (fun s _=>t.flights.length-(intOf s).toNat)
     case atStart=>exact⟨0,Nat.zero_le _,rfl,HAQ.out⟩
     case round =>
      obtain⟨k,hk,rfl,haq⟩:=hrel;clear HAQ
      by_cases hltk:k<t.flights.length
      ·have y3:=haq.I.int_cell (k:=k) (by rw[ixR_len,hng];exact hltk);have f3:=haq.I.free k;have HA0:Hid (AQ w #[.slice A1 n1 c1,.slice A2 n2 c2,.slice A3 n3 c3] B0 fb cf cb t.flights.length ub (.slice A1 n1 c1) (.slice A2 n2 c2) ib (ib+1) fl gone (wr.setCell ⟨ib,k,none⟩ (.int .i64 (-1))) (.slice none 0 0) ((ixR fl gone k).set k (-1)) (gathN fl gone 0)):=haq.setI (by rw[ixR_len,hng];exact hltk) _;have zc:=HA0.out.C.bool_cell (k:=k) (by rw[hng];exact hltk);have hk0:(0:Int)≤(k:Int):=by omega
       have hk1:(k:Int)<(t.flights.length:Int):=by omega
       clear haq;go_upto_region 32 with (fail)
       clear y3 f3;generalize wr.setCell ⟨ib,k,none⟩ (.int .i64 (-1))=V0 at*
       cases hg:gone.getD k false with
       | true =>
        rw[hg]at zc;have HX:Hid (AQ w #[.slice A1 n1 c1,.slice A2 n2 c2,.slice A3 n3 c3] B0 fb cf cb t.flights.length ub (.slice A1 n1 c1) (.slice A2 n2 c2) ib (ib+1) fl gone V0 (.slice none 0 0) (ixR fl gone (k+1)) (gathN fl gone 0)):=by
         have h9:=HA0.out;show AQ _ _ _ _ _ _ _ _ _ _ _ _ _ _ _ _ _ _;rw[←ixR_set,index_gone hg];exact h9
        clear hg;go_wp2_with fail
        go_roundw
        case rel=>exact⟨k+1,by omega,by go_num,HX.out⟩
        case measure=>simp[intOf];omega
       | false =>
        rw[hg]at zc;have HG:=Lib.hid hg;clear hg;go_wp2_with fail
        clear zc;go_loopw [17,18] (fun s17 s18 wx => ∃ j:Nat,j≤t.flights.length∧s17=.int .i64 (cntTo fl gone k j)∧s18=.int .i64 j∧Below V0.heap.size V0 wx) (fun _ s18 _=>t.flights.length-(intOf s18).toNat)
        case atStart=>exact⟨0,Nat.zero_le _,rfl,rfl,Below.refl _ _⟩
        case round =>
         obtain⟨j,hj,rfl,rfl,hbx⟩:=hrel
         by_cases hltj:j<t.flights.length
         ·have HAJ:=Lib.hid (HA0.out.next hbx);have HCS:=Lib.hid (cntTo_succ fl gone k j);have hcle:=cntTo_le fl gone k j;obtain⟨dl,hdl⟩ : ∃ x,decide (j<k)=x:=⟨_,rfl⟩
          have HCB:Hid (cntB fl gone k j=(!gone.getD j false&&(beforeB (fl.getD j noFlight) (fl.getD k noFlight)||(!beforeB (fl.getD k noFlight) (fl.getD j noFlight)&&dl)))):=by
           show _=_;rw[←hdl];rfl
          have zj:=HAJ.out.C.bool_cell (k:=j) (by rw[hng];exact hltj);have HFJ:=Lib.hid (HAJ.out.F.flight_cells (k:=j) (by rw[HL12.out.1];exact hltj));have HFK:=Lib.hid (HAJ.out.F.flight_cells (k:=k) (by rw[HL12.out.1];exact hltk));have HBE1:=Lib.hid (fun V=>before40_any (fl.getD j noFlight) (fl.getD k noFlight) V);have HBE2:=Lib.hid (fun V=>before40_any (fl.getD k noFlight) (fl.getD j noFlight) V);have hj0:(0:Int)≤(j:Int):=by omega
          have hj1:(j:Int)<(t.flights.length:Int):=by omega
          generalize cntTo fl gone k j=cn at*;generalize cntB fl gone k j=cc at*;generalize gone.getD j false=gj at*;generalize beforeB (fl.getD j noFlight) (fl.getD k noFlight)=b1 at*;generalize beforeB (fl.getD k noFlight) (fl.getD j noFlight)=b2 at*;generalize fl.getD j noFlight=fj at*;generalize fl.getD k noFlight=fk at*;have HBX:=Lib.hid hbx;clear hbx;go_upto_region 37 with (fail)
          refine wp_region_vals (fun x y:World=>Below x.heap.size x y) (fun a b=>a.trans (b.mono a.size)) 33 [149,150,151,152,153,154,155,156,157,158,159,160,161,162,163,164,165,166,167,168,169,170,171,172,173,174,175,176,177,178,179,180,181] [.slice (some ⟨cb,0,none⟩) t.flights.length t.flights.length,.int .i64 ((j:Nat):Int),.pointer (some ⟨cb,j,none⟩),.bool gj,.bool (!gj),.bool (!gj),(bif gj then undef else .slice (some ⟨fb,0,none⟩) t.flights.length cf),(bif gj then undef else .int .i64 ((j:Nat):Int)),(bif gj then undef else .pointer (some ⟨fb,j*9,none⟩)),(bif gj then undef else .agg (flightCells fj).toArray),(bif gj then undef else .slice (some ⟨fb,0,none⟩) t.flights.length cf),(bif gj then undef else .int .i64 ((k:Nat):Int)),(bif gj then undef else .pointer (some ⟨fb,k*9,none⟩)),(bif gj then undef else .agg (flightCells fk).toArray),(bif gj then undef else .bool b1),(bif gj then undef else .bool b1),(bif gj||b1 then undef else .slice (some ⟨fb,0,none⟩) t.flights.length cf),(bif gj||b1 then undef else .int .i64 ((k:Nat):Int)),(bif gj||b1 then undef else .pointer (some ⟨fb,k*9,none⟩)),(bif gj||b1 then undef else .agg (flightCells fk).toArray),(bif gj||b1 then undef else .slice (some ⟨fb,0,none⟩) t.flights.length cf),(bif gj||b1 then undef else .int .i64 ((j:Nat):Int)),(bif gj||b1 then undef else .pointer (some ⟨fb,j*9,none⟩)),(bif gj||b1 then undef else .agg (flightCells fj).toArray),(bif gj||b1 then undef else .bool b2),(bif gj||b1 then undef else .bool (!b2)),(bif gj||b1 then undef else .bool (!b2)),(bif gj||b1||b2 then undef else .int .i64 ((j:Nat):Int)),(bif gj||b1||b2 then undef else .int .i64 ((k:Nat):Int)),(bif gj||b1||b2 then undef else .bool dl),(bif gj||b1 then undef else .bool (!b2&&dl)),(bif gj then undef else .bool (b1||(!b2&&dl))),.bool (!gj&&(b1||(!b2&&dl)))] rfl (below_drewN (Below.refl _ _) 1) (by kernel_rfl) (by kernel_rfl) (by kernel_rfl) (by kernel_rfl) ?_ ?_ ?_
          ·intro q hq hr;have hq':q=0∨q=1∨q=2∨q=3∨q=4∨q=5∨q=6∨q=7∨q=8∨q=9∨q=10∨q=11∨q=12∨q=13∨q=14∨q=15∨q=16∨q=17∨q=18∨q=19∨q=20∨q=21∨q=22∨q=23∨q=24∨q=25∨q=26∨q=27∨q=28∨q=29∨q=30∨q=31∨q=32:=by omega
           rcases hq' with rfl|rfl|rfl|rfl|rfl|rfl|rfl|rfl|rfl|rfl|rfl|rfl|rfl|rfl|rfl|rfl|rfl|rfl|rfl|rfl|rfl|rfl|rfl|rfl|rfl|rfl|rfl|rfl|rfl|rfl|rfl|rfl|rfl
           ·exact absurd (show(true:Bool)=false from hr) (by decide)
           ·exact absurd (show(true:Bool)=false from hr) (by decide)
           ·exact absurd (show(true:Bool)=false from hr) (by decide)
           ·exact absurd (show(true:Bool)=false from hr) (by decide)
           ·exact absurd (show(true:Bool)=false from hr) (by decide)
           ·exact absurd (show(true:Bool)=false from hr) (by decide)
           ·cases gj with
            | true=>rfl
            | false =>
             exact absurd (show(true:Bool)=false from hr) (by decide)
           ·cases gj with
            | true=>rfl
            | false =>
             exact absurd (show(true:Bool)=false from hr) (by decide)
           ·cases gj with
            | true=>rfl
            | false =>
             exact absurd (show(true:Bool)=false from hr) (by decide)
           ·cases gj with
            | true=>rfl
            | false =>
             exact absurd (show(true:Bool)=false from hr) (by decide)
           ·cases gj with
            | true=>rfl
            | false =>
             exact absurd (show(true:Bool)=false from hr) (by decide)
           ·cases gj with
            | true=>rfl
            | false =>
             exact absurd (show(true:Bool)=false from hr) (by decide)
           ·cases gj with
            | true=>rfl
            | false =>
             exact absurd (show(true:Bool)=false from hr) (by decide)
           ·cases gj with
            | true=>rfl
            | false =>
             exact absurd (show(true:Bool)=false from hr) (by decide)
           ·cases gj with
            | true=>rfl
            | false =>
             exact absurd (show(true:Bool)=false from hr) (by decide)
           ·cases gj with
            | true=>rfl
            | false =>
             exact absurd (show(true:Bool)=false from hr) (by decide)
           ·cases gj with
            | true=>rfl
            | false =>
             cases b1 with
             | true=>rfl
             | false =>
              exact absurd (show(true:Bool)=false from hr) (by decide)
           ·cases gj with
            | true=>rfl
            | false =>
             cases b1 with
             | true=>rfl
             | false =>
              exact absurd (show(true:Bool)=false from hr) (by decide)
           ·cases gj with
            | true=>rfl
            | false =>
             cases b1 with
             | true=>rfl
             | false =>
              exact absurd (show(true:Bool)=false from hr) (by decide)
           ·cases gj with
            | true=>rfl
            | false =>
             cases b1 with
             | true=>rfl
             | false =>
              exact absurd (show(true:Bool)=false from hr) (by decide)
           ·cases gj with
            | true=>rfl
            | false =>
             cases b1 with
             | true=>rfl
             | false =>
              exact absurd (show(true:Bool)=false from hr) (by decide)
           ·cases gj with
            | true=>rfl
            | false =>
             cases b1 with
             | true=>rfl
             | false =>
              exact absurd (show(true:Bool)=false from hr) (by decide)
           ·cases gj with
            | true=>rfl
            | false =>
             cases b1 with
             | true=>rfl
             | false =>
              exact absurd (show(true:Bool)=false from hr) (by decide)
           ·cases gj with
            | true=>rfl
            | false =>
             cases b1 with
             | true=>rfl
             | false =>
              exact absurd (show(true:Bool)=false from hr) (by decide)
           ·cases gj with
            | true=>rfl
            | false =>
             cases b1 with
             | true=>rfl
             | false =>
              exact absurd (show(true:Bool)=false from hr) (by decide)
           ·cases gj with
            | true=>rfl
            | false =>
             cases b1 with
             | true=>rfl
             | false =>
              exact absurd (show(true:Bool)=false from hr) (by decide)
           ·cases gj with
            | true=>rfl
            | false =>
             cases b1 with
             | true=>rfl
             | false =>
              exact absurd (show(true:Bool)=false from hr) (by decide)
           ·cases gj with
            | true=>rfl
            | false =>
             cases b1 with
             | true=>rfl
             | false =>
              cases b2 with
              | true=>rfl
              | false =>
               exact absurd (show(true:Bool)=false from hr) (by decide)
           ·cases gj with
            | true=>rfl
            | false =>
             cases b1 with
             | true=>rfl
             | false =>
              cases b2 with
              | true=>rfl
              | false =>
               exact absurd (show(true:Bool)=false from hr) (by decide)
           ·cases gj with
            | true=>rfl
            | false =>
             cases b1 with
             | true=>rfl
             | false =>
              cases b2 with
              | true=>rfl
              | false =>
               exact absurd (show(true:Bool)=false from hr) (by decide)
           ·cases gj with
            | true=>rfl
            | false =>
             cases b1 with
             | true=>rfl
             | false =>
              exact absurd (show(true:Bool)=false from hr) (by decide)
           ·cases gj with
            | true=>rfl
            | false =>
             exact absurd (show(true:Bool)=false from hr) (by decide)
           ·exact absurd (show(true:Bool)=false from hr) (by decide)
          ·intro q o' hq hr ho a' w' hR hout hpre K hK;have hq':q=0∨q=1∨q=2∨q=3∨q=4∨q=5∨q=6∨q=7∨q=8∨q=9∨q=10∨q=11∨q=12∨q=13∨q=14∨q=15∨q=16∨q=17∨q=18∨q=19∨q=20∨q=21∨q=22∨q=23∨q=24∨q=25∨q=26∨q=27∨q=28∨q=29∨q=30∨q=31∨q=32:=by omega
           rcases hq' with rfl|rfl|rfl|rfl|rfl|rfl|rfl|rfl|rfl|rfl|rfl|rfl|rfl|rfl|rfl|rfl|rfl|rfl|rfl|rfl|rfl|rfl|rfl|rfl|rfl|rfl|rfl|rfl|rfl|rfl|rfl|rfl|rfl
           ·obtain rfl:=Option.some.inj ho;have e11:a'.tmps[11]? = some (.slice (some ⟨cb,0,none⟩) t.flights.length t.flights.length):=hout 11 (by decide);go_simp
            exact hK w' (Below.refl _ _)
           ·obtain rfl:=Option.some.inj ho;have e18:a'.tmps[18]? = some (.int .i64 ((j:Nat):Int)):=hout 18 (by decide);go_simp
            exact hK w' (Below.refl _ _)
           ·obtain rfl:=Option.some.inj ho;have p149:a'.tmps.getD 149 undef=.slice (some ⟨cb,0,none⟩) t.flights.length t.flights.length:=hpre ⟨0,.data⟩ (by simp) (by decide) 149 rfl;simp only[Array.getD_eq_getD_getElem?]at p149;have p150:a'.tmps.getD 150 undef=.int .i64 ((j:Nat):Int):=hpre ⟨1,.data⟩ (by simp) (by decide) 150 rfl;simp only[Array.getD_eq_getD_getElem?]at p150;go_simp
            exact hK w' (Below.refl _ _)
           ·obtain rfl:=Option.some.inj ho;have p151:a'.tmps.getD 151 undef=.pointer (some ⟨cb,j,none⟩):=hpre ⟨2,.data⟩ (by simp) (by decide) 151 rfl;simp only[Array.getD_eq_getD_getElem?]at p151;have zk:=cell_kept zj hR;go_simp
            exact hK w' (Below.refl _ _)
           ·obtain rfl:=Option.some.inj ho;have p152:a'.tmps.getD 152 undef=.bool gj:=hpre ⟨3,.data⟩ (by simp) (by decide) 152 rfl;simp only[Array.getD_eq_getD_getElem?]at p152;go_simp
            exact hK w' (Below.refl _ _)
           ·obtain rfl:=Option.some.inj ho;have p153:a'.tmps.getD 153 undef=.bool (!gj):=hpre ⟨4,.data⟩ (by simp) (by decide) 153 rfl;simp only[Array.getD_eq_getD_getElem?]at p153;go_simp
            exact hK w' (Below.refl _ _)
           ·obtain rfl:=Option.some.inj ho
            cases gj with
            | true=>exact absurd (show(false:Bool)=true from hr) (by decide)
            | false =>
             have e10:a'.tmps[10]? = some (.slice (some ⟨fb,0,none⟩) t.flights.length cf):=hout 10 (by decide);go_simp
             exact hK w' (Below.refl _ _)
           ·obtain rfl:=Option.some.inj ho
            cases gj with
            | true=>exact absurd (show(false:Bool)=true from hr) (by decide)
            | false =>
             have e18:a'.tmps[18]? = some (.int .i64 ((j:Nat):Int)):=hout 18 (by decide);go_simp
             exact hK w' (Below.refl _ _)
           ·obtain rfl:=Option.some.inj ho
            cases gj with
            | true=>exact absurd (show(false:Bool)=true from hr) (by decide)
            | false =>
             have p155:a'.tmps.getD 155 undef=(bif false then undef else .slice (some ⟨fb,0,none⟩) t.flights.length cf):=hpre ⟨6,.data⟩ (by simp) (by decide) 155 rfl;simp only[Array.getD_eq_getD_getElem?]at p155;have p156:a'.tmps.getD 156 undef=(bif false then undef else .int .i64 ((j:Nat):Int)):=hpre ⟨7,.data⟩ (by simp) (by decide) 156 rfl;simp only[Array.getD_eq_getD_getElem?]at p156;go_simp
             exact hK w' (Below.refl _ _)
           ·obtain rfl:=Option.some.inj ho
            cases gj with
            | true=>exact absurd (show(false:Bool)=true from hr) (by decide)
            | false =>
             have p157:a'.tmps.getD 157 undef=(bif false then undef else .pointer (some ⟨fb,j*9,none⟩)):=hpre ⟨8,.data⟩ (by simp) (by decide) 157 rfl;simp only[Array.getD_eq_getD_getElem?]at p157;have hc:=fun q u hu=>cell_kept (HFJ.out q u hu) hR
             have k0:=hc 0 _ rfl;rw[Nat.add_zero]at k0;have k1:=hc 1 _ rfl;have k2:=hc 2 _ rfl;have k3:=hc 3 _ rfl;have k4:=hc 4 _ rfl;have k5:=hc 5 _ rfl;have k6:=hc 6 _ rfl;have k7:=hc 7 _ rfl;have k8:=hc 8 _ rfl;clear hc;go_simp
             exact hK w' (Below.refl _ _)
           ·obtain rfl:=Option.some.inj ho
            cases gj with
            | true=>exact absurd (show(false:Bool)=true from hr) (by decide)
            | false =>
             have e10:a'.tmps[10]? = some (.slice (some ⟨fb,0,none⟩) t.flights.length cf):=hout 10 (by decide);go_simp
             exact hK w' (Below.refl _ _)
           ·obtain rfl:=Option.some.inj ho
            cases gj with
            | true=>exact absurd (show(false:Bool)=true from hr) (by decide)
            | false =>
             have e16:a'.tmps[16]? = some (.int .i64 ((k:Nat):Int)):=hout 16 (by decide);go_simp
             exact hK w' (Below.refl _ _)
           ·obtain rfl:=Option.some.inj ho
            cases gj with
            | true=>exact absurd (show(false:Bool)=true from hr) (by decide)
            | false =>
             have p159:a'.tmps.getD 159 undef=(bif false then undef else .slice (some ⟨fb,0,none⟩) t.flights.length cf):=hpre ⟨10,.data⟩ (by simp) (by decide) 159 rfl;simp only[Array.getD_eq_getD_getElem?]at p159;have p160:a'.tmps.getD 160 undef=(bif false then undef else .int .i64 ((k:Nat):Int)):=hpre ⟨11,.data⟩ (by simp) (by decide) 160 rfl;simp only[Array.getD_eq_getD_getElem?]at p160;go_simp
             exact hK w' (Below.refl _ _)
           ·obtain rfl:=Option.some.inj ho
            cases gj with
            | true=>exact absurd (show(false:Bool)=true from hr) (by decide)
            | false =>
             have p161:a'.tmps.getD 161 undef=(bif false then undef else .pointer (some ⟨fb,k*9,none⟩)):=hpre ⟨12,.data⟩ (by simp) (by decide) 161 rfl;simp only[Array.getD_eq_getD_getElem?]at p161;have hc:=fun q u hu=>cell_kept (HFK.out q u hu) hR
             have k0:=hc 0 _ rfl;rw[Nat.add_zero]at k0;have k1:=hc 1 _ rfl;have k2:=hc 2 _ rfl;have k3:=hc 3 _ rfl;have k4:=hc 4 _ rfl;have k5:=hc 5 _ rfl;have k6:=hc 6 _ rfl;have k7:=hc 7 _ rfl;have k8:=hc 8 _ rfl;clear hc;go_simp
             exact hK w' (Below.refl _ _)
           ·obtain rfl:=Option.some.inj ho
            cases gj with
            | true=>exact absurd (show(false:Bool)=true from hr) (by decide)
            | false =>
             have p158:a'.tmps.getD 158 undef=(bif false then undef else .agg (flightCells fj).toArray):=hpre ⟨9,.data⟩ (by simp) (by decide) 158 rfl;simp only[Array.getD_eq_getD_getElem?]at p158;have p162:a'.tmps.getD 162 undef=(bif false then undef else .agg (flightCells fk).toArray):=hpre ⟨13,.data⟩ (by simp) (by decide) 162 rfl;simp only[Array.getD_eq_getD_getElem?]at p162;unfold flightCells at p158 p162;go_simp
             go_at_call 48
             refine(HBE1.out w').mono ?_;rintro e w'' ⟨rfl,hb''⟩;exact hK w'' hb''
           ·obtain rfl:=Option.some.inj ho
            cases gj with
            | true=>exact absurd (show(false:Bool)=true from hr) (by decide)
            | false =>
             have p163:a'.tmps.getD 163 undef=(bif false then undef else .bool b1):=hpre ⟨14,.data⟩ (by simp) (by decide) 163 rfl;simp only[Array.getD_eq_getD_getElem?]at p163;go_simp
             exact hK w' (Below.refl _ _)
           ·obtain rfl:=Option.some.inj ho
            cases gj with
            | true=>exact absurd (show(false:Bool)=true from hr) (by decide)
            | false =>
             cases b1 with
             | true=>exact absurd (show(false:Bool)=true from hr) (by decide)
             | false =>
              have e10:a'.tmps[10]? = some (.slice (some ⟨fb,0,none⟩) t.flights.length cf):=hout 10 (by decide);go_simp
              exact hK w' (Below.refl _ _)
           ·obtain rfl:=Option.some.inj ho
            cases gj with
            | true=>exact absurd (show(false:Bool)=true from hr) (by decide)
            | false =>
             cases b1 with
             | true=>exact absurd (show(false:Bool)=true from hr) (by decide)
             | false =>
              have e16:a'.tmps[16]? = some (.int .i64 ((k:Nat):Int)):=hout 16 (by decide);go_simp
              exact hK w' (Below.refl _ _)
           ·obtain rfl:=Option.some.inj ho
            cases gj with
            | true=>exact absurd (show(false:Bool)=true from hr) (by decide)
            | false =>
             cases b1 with
             | true=>exact absurd (show(false:Bool)=true from hr) (by decide)
             | false =>
              have p165:a'.tmps.getD 165 undef=(bif false||false then undef else .slice (some ⟨fb,0,none⟩) t.flights.length cf):=hpre ⟨16,.data⟩ (by simp) (by decide) 165 rfl;simp only[Array.getD_eq_getD_getElem?]at p165;have p166:a'.tmps.getD 166 undef=(bif false||false then undef else .int .i64 ((k:Nat):Int)):=hpre ⟨17,.data⟩ (by simp) (by decide) 166 rfl;simp only[Array.getD_eq_getD_getElem?]at p166;go_simp
              exact hK w' (Below.refl _ _)
           ·obtain rfl:=Option.some.inj ho
            cases gj with
            | true=>exact absurd (show(false:Bool)=true from hr) (by decide)
            | false =>
             cases b1 with
             | true=>exact absurd (show(false:Bool)=true from hr) (by decide)
             | false =>
              have p167:a'.tmps.getD 167 undef=(bif false||false then undef else .pointer (some ⟨fb,k*9,none⟩)):=hpre ⟨18,.data⟩ (by simp) (by decide) 167 rfl;simp only[Array.getD_eq_getD_getElem?]at p167;have hc:=fun q u hu=>cell_kept (HFK.out q u hu) hR
              have k0:=hc 0 _ rfl;rw[Nat.add_zero]at k0;have k1:=hc 1 _ rfl;have k2:=hc 2 _ rfl;have k3:=hc 3 _ rfl;have k4:=hc 4 _ rfl;have k5:=hc 5 _ rfl;have k6:=hc 6 _ rfl;have k7:=hc 7 _ rfl;have k8:=hc 8 _ rfl;clear hc;go_simp
              exact hK w' (Below.refl _ _)
           ·obtain rfl:=Option.some.inj ho
            cases gj with
            | true=>exact absurd (show(false:Bool)=true from hr) (by decide)
            | false =>
             cases b1 with
             | true=>exact absurd (show(false:Bool)=true from hr) (by decide)
             | false =>
              have e10:a'.tmps[10]? = some (.slice (some ⟨fb,0,none⟩) t.flights.length cf):=hout 10 (by decide);go_simp
              exact hK w' (Below.refl _ _)
           ·obtain rfl:=Option.some.inj ho
            cases gj with
            | true=>exact absurd (show(false:Bool)=true from hr) (by decide)
            | false =>
             cases b1 with
             | true=>exact absurd (show(false:Bool)=true from hr) (by decide)
             | false =>
              have e18:a'.tmps[18]? = some (.int .i64 ((j:Nat):Int)):=hout 18 (by decide);go_simp
              exact hK w' (Below.refl _ _)
           ·obtain rfl:=Option.some.inj ho
            cases gj with
            | true=>exact absurd (show(false:Bool)=true from hr) (by decide)
            | false =>
             cases b1 with
             | true=>exact absurd (show(false:Bool)=true from hr) (by decide)
             | false =>
              have p169:a'.tmps.getD 169 undef=(bif false||false then undef else .slice (some ⟨fb,0,none⟩) t.flights.length cf):=hpre ⟨20,.data⟩ (by simp) (by decide) 169 rfl;simp only[Array.getD_eq_getD_getElem?]at p169;have p170:a'.tmps.getD 170 undef=(bif false||false then undef else .int .i64 ((j:Nat):Int)):=hpre ⟨21,.data⟩ (by simp) (by decide) 170 rfl;simp only[Array.getD_eq_getD_getElem?]at p170;go_simp
              exact hK w' (Below.refl _ _)
           ·obtain rfl:=Option.some.inj ho
            cases gj with
            | true=>exact absurd (show(false:Bool)=true from hr) (by decide)
            | false =>
             cases b1 with
             | true=>exact absurd (show(false:Bool)=true from hr) (by decide)
             | false =>
              have p171:a'.tmps.getD 171 undef=(bif false||false then undef else .pointer (some ⟨fb,j*9,none⟩)):=hpre ⟨22,.data⟩ (by simp) (by decide) 171 rfl;simp only[Array.getD_eq_getD_getElem?]at p171;have hc:=fun q u hu=>cell_kept (HFJ.out q u hu) hR
              have k0:=hc 0 _ rfl;rw[Nat.add_zero]at k0;have k1:=hc 1 _ rfl;have k2:=hc 2 _ rfl;have k3:=hc 3 _ rfl;have k4:=hc 4 _ rfl;have k5:=hc 5 _ rfl;have k6:=hc 6 _ rfl;have k7:=hc 7 _ rfl;have k8:=hc 8 _ rfl;clear hc;go_simp
              exact hK w' (Below.refl _ _)
           ·obtain rfl:=Option.some.inj ho
            cases gj with
            | true=>exact absurd (show(false:Bool)=true from hr) (by decide)
            | false =>
             cases b1 with
             | true=>exact absurd (show(false:Bool)=true from hr) (by decide)
             | false =>
              have p168:a'.tmps.getD 168 undef=(bif false||false then undef else .agg (flightCells fk).toArray):=hpre ⟨19,.data⟩ (by simp) (by decide) 168 rfl;simp only[Array.getD_eq_getD_getElem?]at p168;have p172:a'.tmps.getD 172 undef=(bif false||false then undef else .agg (flightCells fj).toArray):=hpre ⟨23,.data⟩ (by simp) (by decide) 172 rfl;simp only[Array.getD_eq_getD_getElem?]at p172;unfold flightCells at p168 p172;go_simp
              go_at_call 48
              refine(HBE2.out w').mono ?_;rintro e w'' ⟨rfl,hb''⟩;exact hK w'' hb''
           ·obtain rfl:=Option.some.inj ho
            cases gj with
            | true=>exact absurd (show(false:Bool)=true from hr) (by decide)
            | false =>
             cases b1 with
             | true=>exact absurd (show(false:Bool)=true from hr) (by decide)
             | false =>
              have p173:a'.tmps.getD 173 undef=(bif false||false then undef else .bool b2):=hpre ⟨24,.data⟩ (by simp) (by decide) 173 rfl;simp only[Array.getD_eq_getD_getElem?]at p173;go_simp
              exact hK w' (Below.refl _ _)
           ·obtain rfl:=Option.some.inj ho
            cases gj with
            | true=>exact absurd (show(false:Bool)=true from hr) (by decide)
            | false =>
             cases b1 with
             | true=>exact absurd (show(false:Bool)=true from hr) (by decide)
             | false =>
              have p174:a'.tmps.getD 174 undef=(bif false||false then undef else .bool (!b2)):=hpre ⟨25,.data⟩ (by simp) (by decide) 174 rfl;simp only[Array.getD_eq_getD_getElem?]at p174;go_simp
              exact hK w' (Below.refl _ _)
           ·obtain rfl:=Option.some.inj ho
            cases gj with
            | true=>exact absurd (show(false:Bool)=true from hr) (by decide)
            | false =>
             cases b1 with
             | true=>exact absurd (show(false:Bool)=true from hr) (by decide)
             | false =>
              cases b2 with
              | true=>exact absurd (show(false:Bool)=true from hr) (by decide)
              | false =>
               have e18:a'.tmps[18]? = some (.int .i64 ((j:Nat):Int)):=hout 18 (by decide);go_simp
               exact hK w' (Below.refl _ _)
           ·obtain rfl:=Option.some.inj ho
            cases gj with
            | true=>exact absurd (show(false:Bool)=true from hr) (by decide)
            | false =>
             cases b1 with
             | true=>exact absurd (show(false:Bool)=true from hr) (by decide)
             | false =>
              cases b2 with
              | true=>exact absurd (show(false:Bool)=true from hr) (by decide)
              | false =>
               have e16:a'.tmps[16]? = some (.int .i64 ((k:Nat):Int)):=hout 16 (by decide);go_simp
               exact hK w' (Below.refl _ _)
           ·obtain rfl:=Option.some.inj ho
            cases gj with
            | true=>exact absurd (show(false:Bool)=true from hr) (by decide)
            | false =>
             cases b1 with
             | true=>exact absurd (show(false:Bool)=true from hr) (by decide)
             | false =>
              cases b2 with
              | true=>exact absurd (show(false:Bool)=true from hr) (by decide)
              | false =>
               have p176:a'.tmps.getD 176 undef=(bif false||false||false then undef else .int .i64 ((j:Nat):Int)):=hpre ⟨27,.data⟩ (by simp) (by decide) 176 rfl;simp only[Array.getD_eq_getD_getElem?]at p176;have p177:a'.tmps.getD 177 undef=(bif false||false||false then undef else .int .i64 ((k:Nat):Int)):=hpre ⟨28,.data⟩ (by simp) (by decide) 177 rfl;simp only[Array.getD_eq_getD_getElem?]at p177;go_simp
               exact hK w' (Below.refl _ _)
           ·obtain rfl:=Option.some.inj ho
            cases gj with
            | true=>exact absurd (show(false:Bool)=true from hr) (by decide)
            | false =>
             cases b1 with
             | true=>exact absurd (show(false:Bool)=true from hr) (by decide)
             | false =>
              cases b2
              ·have p175:a'.tmps.getD 175 undef=(bif false||false then undef else .bool (!false)):=hpre ⟨26,.data⟩ (by simp) (by decide) 175 rfl;simp only[Array.getD_eq_getD_getElem?]at p175;have p178:a'.tmps.getD 178 undef=(bif false||false||false then undef else .bool dl):=hpre ⟨29,.data⟩ (by simp) (by decide) 178 rfl;simp only[Array.getD_eq_getD_getElem?]at p178;go_simp
               exact hK w' (Below.refl _ _)
              ·have p175:a'.tmps.getD 175 undef=(bif false||false then undef else .bool (!true)):=hpre ⟨26,.data⟩ (by simp) (by decide) 175 rfl;simp only[Array.getD_eq_getD_getElem?]at p175;have p178:a'.tmps.getD 178 undef=(bif false||false||true then undef else .bool dl):=hpre ⟨29,.data⟩ (by simp) (by decide) 178 rfl;simp only[Array.getD_eq_getD_getElem?]at p178;go_simp
               exact hK w' (Below.refl _ _)
           ·obtain rfl:=Option.some.inj ho
            cases gj with
            | true=>exact absurd (show(false:Bool)=true from hr) (by decide)
            | false =>
             cases b1
             ·have p164:a'.tmps.getD 164 undef=(bif false then undef else .bool false):=hpre ⟨15,.data⟩ (by simp) (by decide) 164 rfl;simp only[Array.getD_eq_getD_getElem?]at p164;have p179:a'.tmps.getD 179 undef=(bif false||false then undef else .bool (!b2&&dl)):=hpre ⟨30,.data⟩ (by simp) (by decide) 179 rfl;simp only[Array.getD_eq_getD_getElem?]at p179;go_simp
              exact hK w' (Below.refl _ _)
             ·have p164:a'.tmps.getD 164 undef=(bif false then undef else .bool true):=hpre ⟨15,.data⟩ (by simp) (by decide) 164 rfl;simp only[Array.getD_eq_getD_getElem?]at p164;have p179:a'.tmps.getD 179 undef=(bif false||true then undef else .bool (!b2&&dl)):=hpre ⟨30,.data⟩ (by simp) (by decide) 179 rfl;simp only[Array.getD_eq_getD_getElem?]at p179;go_simp
              exact hK w' (Below.refl _ _)
           ·obtain rfl:=Option.some.inj ho
            cases gj
            ·have p154:a'.tmps.getD 154 undef=.bool (!false):=hpre ⟨5,.data⟩ (by simp) (by decide) 154 rfl;simp only[Array.getD_eq_getD_getElem?]at p154;have p180:a'.tmps.getD 180 undef=(bif false then undef else .bool (b1||(!b2&&dl))):=hpre ⟨31,.data⟩ (by simp) (by decide) 180 rfl;simp only[Array.getD_eq_getD_getElem?]at p180;go_simp
             exact hK w' (Below.refl _ _)
            ·have p154:a'.tmps.getD 154 undef=.bool (!true):=hpre ⟨5,.data⟩ (by simp) (by decide) 154 rfl;simp only[Array.getD_eq_getD_getElem?]at p154;have p180:a'.tmps.getD 180 undef=(bif true then undef else .bool (b1||(!b2&&dl))):=hpre ⟨31,.data⟩ (by simp) (by decide) 180 rfl;simp only[Array.getD_eq_getD_getElem?]at p180;go_simp
             exact hK w' (Below.refl _ _)
          intro w' hR;have HW':Hid (Below V0.heap.size V0 w'):=HBX.out.trans (hR.mono HBX.out.size);simp only[putV,Act.put,List.setIfInBounds_toArray,List.set_cons_zero,List.set_cons_succ,List.drop_succ_cons,List.drop_zero,List.drop_nil];rw[←HCB.out];clear zj hR
          cases cc with
          | true =>
           have HN2:Hid (cntTo fl gone k (j+1)=cn+1):=HCS.out;clear HCS HCB;go_wp2_with fail
           go_roundw
           case rel=>exact⟨j+1,by omega,by rw[HN2.out];go_num,by go_num,HW'.out⟩
           case measure=>simp[intOf];omega
          | false =>
           have HN2:Hid (cntTo fl gone k (j+1)=cn):=HCS.out;clear HCS HCB;go_wp2_with fail
           go_roundw
           case rel=>exact⟨j+1,by omega,by rw[HN2.out],by go_num,HW'.out⟩
           case measure=>simp[intOf];omega
         ·obtain rfl:j=t.flights.length:=by omega
          have haj:=HA0.out.next hbx;have y3:=haj.I.int_cell (k:=k) (by rw[List.length_set,ixR_len,hng];exact hltk);have f3:=haj.I.free k;have HCN:Hid (cntTo fl gone k t.flights.length=rankI fl gone k):=by show _=_;rw[←hng];exact cntTo_all fl gone k
          have HX:Hid (AQ w #[.slice A1 n1 c1,.slice A2 n2 c2,.slice A3 n3 c3] B0 fb cf cb t.flights.length ub (.slice A1 n1 c1) (.slice A2 n2 c2) ib (ib+1) fl gone (wr.setCell ⟨ib,k,none⟩ (.int .i64 (rankI fl gone k))) (.slice none 0 0) (ixR fl gone (k+1)) (gathN fl gone 0)):=by
           have h9:=haj.setI (i:=k) (by rw[List.length_set,ixR_len,hng];exact hltk) (rankI fl gone k:Int);rw[List.set_set, ←index_left HG.out,ixR_set]at h9;rw[index_left HG.out]at h9;exact h9
          rw[HCN.out];generalize rankI fl gone k=rk at*;clear haj hbx HCN;go_wp2_with fail
          go_roundw
          case rel=>exact⟨k+1,by omega,by go_num,HX.out⟩
          case measure=>simp[intOf];omega
      ·obtain rfl:k=t.flights.length:=by omega
       have hix:ixR fl gone t.flights.length=NI:=by rw[HNI.out, ←ixR_all,hng]
       rw[hix]at haq;have hnil:NI.length=t.flights.length:=by rw[←hix,ixR_len,hng]
       have HAQ:=Lib.hid haq;clear haq hix;go_wp2_with fail
       go_loopw [19] (fun s wr => ∃ (m:Nat) (v3:Value),m≤t.flights.length∧s=.int .i64 m∧AQ w #[.slice A1 n1 c1,.slice A2 n2 c2,.slice A3 n3 c3] B0 fb cf cb t.flights.length ub (.slice A1 n1 c1) (.slice A2 n2 c2) ib (ib+1) fl gone wr v3 NI (gathN fl gone m)) (fun s _=>t.flights.length-(intOf s).toNat)
       case atStart=>exact⟨0,_,Nat.zero_le _,rfl,HAQ.out⟩
       case round =>
        obtain⟨m,v3,hm,rfl,haq⟩:=hrel;clear HAQ
        by_cases hltm:m<t.flights.length
        ·have HAQ:=Lib.hid haq;have hgn:=gathN_le fl gone m;clear haq;go_wp2_with fail
         go_loopw [20] (fun s wx => ∃ (i:Nat) (v4:Value),i≤t.flights.length∧s=.int .i64 i∧AQ w #[.slice A1 n1 c1,.slice A2 n2 c2,.slice A3 n3 c3] B0 fb cf cb t.flights.length ub (.slice A1 n1 c1) (.slice A2 n2 c2) ib (ib+1) fl gone wx v4 NI (gathN fl gone m++gathI fl gone m i)) (fun s _=>t.flights.length-(intOf s).toNat)
         case atStart =>
          refine⟨0,v3,Nat.zero_le _,rfl, ?_⟩;rw[show gathI fl gone m 0=[] from rfl,List.append_nil];exact HAQ.out
         case round =>
          obtain⟨i,v4,hi,rfl,haq⟩:=hrel;clear HAQ
          by_cases hlti:i<t.flights.length
          ·have yi:=haq.I.int_cell (k:=i) (by rw[hnil];exact hlti);have hNIi:NI.getD i 0=indexI fl gone i:=by
            rw[HNI.out,List.getD_eq_getElem?_getD,List.getElem?_map,List.getElem?_range (by omega)];rfl
           rw[hNIi]at yi;have HGS:=Lib.hid (gathI_succ fl gone m i);have hgl:=gathI_mono fl gone m (i:=i) (by omega);have HAQ:=Lib.hid haq;have HFC:=Lib.hid (haq.F.flight_cells (k:=i) (by rw[HL12.out.1];exact hlti));have hi0:(0:Int)≤(i:Int):=by omega
           have hi1:(i:Int)<(t.flights.length:Int):=by omega
           generalize hxi:indexI fl gone i=xi at*;clear hNIi hxi haq
           by_cases hx:xi=(m:Int)
           case neg =>
            have hx':(xi==(m:Int))=false:=by simpa using hx
            have HX:Hid (AQ w #[.slice A1 n1 c1,.slice A2 n2 c2,.slice A3 n3 c3] B0 fb cf cb t.flights.length ub (.slice A1 n1 c1) (.slice A2 n2 c2) ib (ib+1) fl gone wr v4 NI (gathN fl gone m++gathI fl gone m (i+1))):=by
             show AQ _ _ _ _ _ _ _ _ _ _ _ _ _ _ _ _ _ _;rw[HGS.out,if_neg hx,List.append_nil];exact HAQ.out
            clear hx;go_wp2_with fail
            go_roundw
            case rel=>exact⟨i+1,_,by omega,by go_num,HX.out⟩
            case measure=>simp[intOf];omega
           have HG2:Hid (gathN fl gone m++gathI fl gone m (i+1)=(gathN fl gone m++gathI fl gone m i)++[fl.getD i noFlight]):=by
            show _=_;rw[HGS.out,if_pos hx,List.append_assoc]
           subst hx;have hnl:(gathN fl gone m++gathI fl gone m i).length≤20:=by rw[List.length_append];omega
           obtain⟨nf2,HNF2⟩ : ∃ x,Hid (gathN fl gone m++gathI fl gone m (i+1)=x):=⟨_,rfl⟩
           rw[HNF2.out]at HG2;generalize gathN fl gone m++gathI fl gone m i=nf at*;generalize fl.getD i noFlight=f at*;have hmm:((m:Int)==(m:Int))=true:=by simp
           have hlq:=HAQ.out.l;clear HGS hgl;go_upto_region 47 with (fail)
           clear yi;refine wp_region_factsB 7 [206,207,208,209,210,211,212] (azF ub fb i wr.heap.size v4 (.slice (some ⟨fb,0,none⟩) t.flights.length cf) f) (by kernel_rfl) (by kernel_rfl) (by kernel_rfl) (by kernel_rfl) (by kernel_rfl) azF_keep ?_ ?_
           ·intro q o hq ho a' w7 hb7 hout hpre K hK;have hq':q=0∨q=1∨q=2∨q=3∨q=4∨q=5∨q=6:=by omega
            have hrz:=(Array.getElem?_eq_some_iff.1 HAQ.out.u).1;rcases hq' with rfl|rfl|rfl|rfl|rfl|rfl|rfl
            ·obtain rfl:=Option.some.inj ho;have e1:a'.tmps[14]? = some (.pointer (some ⟨ub,0,none⟩)):=hout 14 (by decide);go_simp
             exact hK _ w7 rfl (Below.refl _ _)
            ·obtain rfl:=Option.some.inj ho;have p0:a'.tmps.getD 206 undef=.pointer (some ⟨ub,2,none⟩):=hpre ⟨0,.data⟩ (by simp) 206 rfl;simp only[Array.getD_eq_getD_getElem?]at p0;have y0:w7.cell? ⟨ub,2,none⟩=some v4:=(cell_of_same (a:=⟨ub,2,none⟩) (hb7.block _ hrz)).trans (block_cell HAQ.out.u 2);go_simp
             exact hK _ w7 rfl (Below.refl _ _)
            ·obtain rfl:=Option.some.inj ho;have e1:a'.tmps[10]? = some (.slice (some ⟨fb,0,none⟩) t.flights.length cf):=hout 10 (by decide);go_simp
             exact hK _ w7 rfl (Below.refl _ _)
            ·obtain rfl:=Option.some.inj ho;have e1:a'.tmps[20]? = some (.int .i64 i):=hout 20 (by decide);go_simp
             exact hK _ w7 rfl (Below.refl _ _)
            ·obtain rfl:=Option.some.inj ho;have p0:a'.tmps.getD 208 undef=.slice (some ⟨fb,0,none⟩) t.flights.length cf:=hpre ⟨2,.data⟩ (by simp) 208 rfl;have p1:a'.tmps.getD 209 undef=.int .i64 i:=hpre ⟨3,.data⟩ (by simp) 209 rfl;simp only[Array.getD_eq_getD_getElem?]at p0 p1;go_simp
             exact hK _ w7 rfl (Below.refl _ _)
            ·obtain rfl:=Option.some.inj ho;have p0:a'.tmps.getD 210 undef=.pointer (some ⟨fb,i*9,none⟩):=hpre ⟨4,.data⟩ (by simp) 210 rfl;simp only[Array.getD_eq_getD_getElem?]at p0;have hc:=fun j u hu=>cell_kept (HFC.out j u hu) hb7
             have k0:=hc 0 _ rfl;rw[Nat.add_zero]at k0;have k1:=hc 1 _ rfl;have k2:=hc 2 _ rfl;have k3:=hc 3 _ rfl;have k4:=hc 4 _ rfl;have k5:=hc 5 _ rfl;have k6:=hc 6 _ rfl;have k7:=hc 7 _ rfl;have k8:=hc 8 _ rfl;clear hc;go_simp
             exact hK _ w7 rfl (Below.refl _ _)
            ·obtain rfl:=Option.some.inj ho;have p0:a'.tmps.getD 211 undef=.agg (flightCells f).toArray:=hpre ⟨5,.data⟩ (by simp) 211 rfl;simp only[Array.getD_eq_getD_getElem?]at p0;unfold flightCells at p0;go_simp
             exact hK _ _ ⟨w7.heap.size,rfl,hb7.size,heap_alloc_new _ _⟩ ((Below.refl _ _).alloc (Nat.le_refl _) _)
           ·intro us w7 hb7 hfacts;obtain⟨g,h6,hg6,hc6⟩:=hfacts 6 (by decide);have h1:us 1=v4:=hfacts 1 (by decide);clear hfacts;simp only[putL,Act.put,List.setIfInBounds_toArray,List.set_cons_zero,List.set_cons_succ,Nat.zero_add,Nat.reduceAdd];generalize us 6=x6 at*;generalize us 1=x1 at*;subst x1;subst x6;simp only[List.drop_succ_cons,List.drop_zero];have HB7:=Lib.hid hb7;have HN7:=Lib.hid (HAQ.out.N.next hb7);have HAT:=Lib.hid (At.of_block hc6);have hz7:ib+1≤w7.heap.size:=by have:=hb7.size;omega
            clear hb7 hc6;go_wp2_with (at_builtin;refine wpList_push (t:=Ty.flight) rfl _ _ _ rfl 104 elem_flight rfl HN7.out g f (fun _=>False) rfl ⟨flightCells f,rfl,HAT.out⟩ (fun _ h=>h.elim) ?c1 (by decide) hz7 ?_)
            case c1=>omega
            intro v' w8 hown8 hgr8;rw[←HG2.out]at hown8;obtain⟨A9,c9,rfl, -⟩:=hown8.sl;have HY8:=Lib.hid (HAQ.out.box8 HB7.out hgr8);have HZ8:=Lib.hid (HAQ.out.push HB7.out hgr8 hown8);have y2:=block_cell HY8.out 2;have f2:=block_free HY8.out 2;generalize nf2.length=m9 at*;clear hown8 hgr8 HN7 HAT HFC;go_wp2_with fail
            go_roundw
            case rel=>exact⟨i+1,_,by omega,by go_num,by rw[HNF2.out];exact HZ8.out⟩
            case measure=>simp[intOf];omega
          ·obtain rfl:i=t.flights.length:=by omega
           have hgs:gathN fl gone m++gathI fl gone m t.flights.length=gathN fl gone (m+1):=by rw[gathN_succ,hng]
           rw[hgs]at haq;have HAQ:=Lib.hid haq;clear haq;go_wp2_with fail
           go_roundw
           case rel=>exact⟨m+1,_,by omega,by go_num,HAQ.out⟩
           case measure=>simp[intOf];omega
        ·obtain rfl:m=t.flights.length:=by omega
         have hga:gathN fl gone t.flights.length=newFl fl gone:=by rw[←hng];exact gathN_all fl gone
         rw[hga]at haq;have HNT:Hid (NT=⟨t.zones,t.airports,newFl fl gone⟩):=HFL0.out.1;have hok:GTT.ok ⟨t.zones,t.airports,newFl fl gone⟩:=newTT_ok HT.out (by rw[hng,HL12.out.1]) HSM.out HSZ.out hl;obtain⟨A9,c9,rfl,hsf⟩:=haq.N.sl;have hnl:=haq.N.lt;have hil:=haq.I.lt ib rfl;obtain⟨Ax,cx,ex,hsx⟩:=haq.I.sl;rw[hnil]at ex hsx;injection ex with ex1 ex2 ex3
         subst ex1 ex3;have HC:=Lib.hid (validateR_any ⟨t.zones,t.airports,newFl fl gone⟩ A1 A2 A9 n1 n2 _ c1 c2 c9 wr hok (HS1.out wr haq.bel) (HS2.out wr haq.bel) (hsf.more fun b hb=>hb.2));rw[←HNT.out]at HC;have x0:=block_cell haq.u 0;have x1:=block_cell haq.u 1;have x2:=block_cell haq.u 2;have HX:=Lib.hid haq;have HSF:=Lib.hid hsf;have HSX:=Lib.hid hsx;have hlq:=haq.l;generalize hnfe:(newFl fl gone).length=nf at*;generalize hte:ttE NT=te at*;clear haq hok hsf hsx hga hte hnfe;go_wp2_with fail
         refine HC.out.mono ?_;rintro e w10 ⟨rfl,hb10⟩;clear HC x0 x1 x2;have HX10:=Lib.hid (HX.out.next hb10);have HRS:Hid (w10.heap[w.heap.size+1]? = _):=HX10.out.res;have HBW:Hid (Below w.heap.size w w10):=HX10.out.bel;have HB10:=Lib.hid hb10;have z0:=block_cell HRS.out 0;have z1:=block_cell HRS.out 1;have z2:=block_cell HRS.out 2;have f0:=block_free HRS.out 0;have f1:=block_free HRS.out 1;have f2:=block_free HRS.out 2;clear hb10
         by_cases hc:te=0
         case neg =>
          have hc':(te != 0)=true:=by simpa using hc
          have HF:Hid (res=(⟨[],[],[]⟩,[],te)):=by show _=_;rw[HP2.out,if_pos hc]
          clear hc;go_wp2_with fail
          refine bodyPost_ret (v:=.tuple #[.agg #[.slice none 0 0,.slice none 0 0,.slice none 0 0],.slice none 0 0,.int .i64 te]) (by simp[results,Tryz.results20,go_sem,z0,z1,z2]) rfl ?_;rw[HF.out];exact apply_nil (RET.out _ HBW.out HRS.out _ _ _)
         case pos =>
          have HF:Hid (res=(NT,NI,0)):=by show _=_;rw[HP2.out,if_neg (by simpa using hc)]
          subst hc;have x0:=block_cell HX10.out.u 0;have x1:=block_cell HX10.out.u 1;have x2:=block_cell HX10.out.u 2;have HFIN:Hid (ApplyPost res w (.returned (.tuple #[.agg #[.slice A1 n1 c1,.slice A2 n2 c2,.slice A9 nf c9],.slice (some ⟨ib,0,none⟩) t.flights.length t.flights.length,.int .i64 0]))
           (((w10.setCell ⟨w.heap.size+1,0,none⟩ (.slice A1 n1 c1)).setCell ⟨w.heap.size+1,1,none⟩ (.slice A2 n2 c2)).setCell ⟨w.heap.size+1,2,none⟩ (.slice A9 nf c9))):=by
           have hk2 : ∀ q,q≠w.heap.size+1→(((w10.setCell ⟨w.heap.size+1,0,none⟩ (.slice A1 n1 c1)).setCell ⟨w.heap.size+1,1,none⟩ (.slice A2 n2 c2)).setCell ⟨w.heap.size+1,2,none⟩ (.slice A9 nf c9)).heap[q]? = w10.heap[q]? :=fun q hq=>by
            rw[heap_setCell_other _ _ _ _ hq,heap_setCell_other _ _ _ _ hq,heap_setCell_other _ _ _ _ hq]
           have hs2:(((w10.setCell ⟨w.heap.size+1,0,none⟩ (.slice A1 n1 c1)).setCell ⟨w.heap.size+1,1,none⟩ (.slice A2 n2 c2)).setCell ⟨w.heap.size+1,2,none⟩ (.slice A9 nf c9)).heap.size=w10.heap.size:=by simp
           have hbb:=HB10.out;have hsz:=hbb.size;have hbw:=RET.out w10 HBW.out HRS.out (.slice A1 n1 c1) (.slice A2 n2 c2) (.slice A9 nf c9);show ApplyPost _ _ _ _;rw[HF.out,HNT.out];refine⟨A1,n1,c1,A2,n2,c2,A9,nf,c9,some ⟨ib,0,none⟩,t.flights.length,t.flights.length,rfl,HS1.out _ hbw,HS2.out _ hbw,(HSF.out.keep fun b hb=>(hk2 b (by omega)).trans (hbb.block b hb.2)).more fun b hb =>?_,(HSX.out.keep fun b hb =>?_).more fun b hb =>?_,hbw⟩
           ·show b<_;rw[hs2];omega
           ·rcases hb with h|h
            ·exact h.elim
            ·injection h with h
             subst h;exact(hk2 ib (by omega)).trans (hbb.block ib hil.2)
           ·rcases hb with h|h
            ·exact h.elim
            ·injection h with h
             subst h;show ib<_;rw[hs2];omega
          have hc9:((0:Int) != 0)=false:=rfl;go_wp2_with fail
          refine bodyPost_ret (v:=.tuple #[.agg #[.slice A1 n1 c1,.slice A2 n2 c2,.slice A9 nf c9],.slice (some ⟨ib,0,none⟩) t.flights.length t.flights.length,.int .i64 0]) (by simp[results,Tryz.results20,go_sem,z0,z1,z2]) rfl ?_;exact HFIN.out
end Go.Proofs.YtifconapjfdkcaaGreatDoor
