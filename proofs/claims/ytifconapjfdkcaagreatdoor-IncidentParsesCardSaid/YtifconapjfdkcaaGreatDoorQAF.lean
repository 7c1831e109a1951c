/-
  Joined texts: RefLines; IncParseR; LawParses40. What each proves stands ahead of it, with its conditions.
-/
import Derived.Shelf.Strings.Builder1
import Derived.Shelf.Strings.Builder2
import Derived.Shelf.Small.Strs
import Derived.Shelf.Strings.BuilderF
import Derived.Shelf.Strconv.Itoa0
import Derived.Shelf.Strconv.Itoa1
import Derived.Shelf.LaysM
import Derived.Shelf.Strconv.Itoa2
import Derived.Shelf.Strconv.Itoa3
import Derived.Shelf.Strings.Search1
import Derived.Shelf.Strings.Search2
import Derived.Shelf.Strings.Search3
import Derived.Shelf.Strings.Cut
import Derived.Shelf.Strings.Count
import Derived.Shelf.Strings.Shaped
import Derived.Shelf.Strings.Prefix
import Derived.Shelf.Strings.Split
import Derived.Shelf.Strings.SplitShaped
import Derived.Shelf.Bits.Mul64
import Derived.Shelf.Strings.Repeat
import Derived.Shelf.Unicode.DecodeSlow
import Derived.Ground.SlsfProg
import Derived.Shelf.SlSortCmp.Insertion
import Derived.Shelf.SlSortCmp.Insertion1
import Derived.Test.YtifconapjfdkcaaGreatDoorProg
import Derived.WalkKit
import Derived.WalkLawsBesides
import Derived.WalkSpells
import Derived.Lib.Hide
import Derived.Maps.AppendAt
import Derived.Test.YtifconapjfdkcaaGreatDoorQAA
import Derived.Deep.QuietTactic
import Derived.BigQuiet
import Derived.Test.YtifconapjfdkcaaGreatDoorQAB
import Derived.Test.YtifconapjfdkcaaGreatDoorQAD
import Derived.ProofKit
import Derived.Deep.Slices
import Derived.Lib.AppendStr
import Derived.Laws.Rows
import Derived.Laws.Tables
import Derived.Deep.RegionWith
import Derived.Sort.LotA
import Derived.Sort.Walk0
import Derived.Laws.Externs
import Derived.OwnWalk
import Derived.IntWalk
import Derived.Maps.OwnOps
import Derived.Maps.Views
import Derived.StillTailTactics
import Derived.StillTail
import Derived.RegionTactic
import Derived.Deep.RegionLaw
import Derived.Deep.DeepCutAuto
import Derived.Deep.AppendLies
import Derived.Test.YtifconapjfdkcaaGreatDoorQAE
import Derived.Lib.Bytealg
import Derived.Sort.OwnSortedInts
import Derived.Sort.WalkA
import Derived.Deep.OwnRows
import Derived.Laws.Strings
import Derived.Lib.Strings
import Derived.Scope
import Derived.Laws.Sem
import Derived.Deep.CutBlock
import Derived.ChangeKeysEq
import Derived.Test.YtifconapjfdkcaaGreatDoorDAA
import Derived.Test.YtifconapjfdkcaaGreatDoorDAB
import Derived.Test.YtifconapjfdkcaaGreatDoorDAC
import Derived.Test.YtifconapjfdkcaaGreatDoorDAD
import Derived.Test.YtifconapjfdkcaaGreatDoorDAE
import Derived.Test.YtifconapjfdkcaaGreatDoorDAF
import Derived.Test.YtifconapjfdkcaaGreatDoorDAG
import Derived.Test.YtifconapjfdkcaaGreatDoorDAH
import Derived.Test.YtifconapjfdkcaaGreatDoorDAI
import Derived.Test.YtifconapjfdkcaaGreatDoorDAJ
import Derived.Test.YtifconapjfdkcaaGreatDoorDAK
import Derived.Test.YtifconapjfdkcaaGreatDoorDAL
import Derived.Test.YtifconapjfdkcaaGreatDoorDAM
import Derived.Test.YtifconapjfdkcaaGreatDoorDAN
import Derived.Test.YtifconapjfdkcaaGreatDoorDAO
import Derived.Test.YtifconapjfdkcaaGreatDoorDAP
import Derived.Test.YtifconapjfdkcaaGreatDoorDAQ
import Derived.Test.YtifconapjfdkcaaGreatDoorDAR
import Derived.Test.YtifconapjfdkcaaGreatDoorDAS
import Derived.Test.YtifconapjfdkcaaGreatDoorDAT
import Derived.Test.YtifconapjfdkcaaGreatDoorDAU
import Derived.Test.YtifconapjfdkcaaGreatDoorDAV
import Derived.Test.YtifconapjfdkcaaGreatDoorDAW
import Derived.Test.YtifconapjfdkcaaGreatDoorDAX
import Derived.Test.YtifconapjfdkcaaGreatDoorDAY
import Derived.Test.YtifconapjfdkcaaGreatDoorDAZ
import Derived.Test.YtifconapjfdkcaaGreatDoorDBA
import Derived.Test.YtifconapjfdkcaaGreatDoorDBB
import Derived.Test.YtifconapjfdkcaaGreatDoorDBC
import Derived.Test.YtifconapjfdkcaaGreatDoorDBD
import Derived.Test.YtifconapjfdkcaaGreatDoorDBE
import Derived.Test.YtifconapjfdkcaaGreatDoorDBF
import Derived.Test.YtifconapjfdkcaaGreatDoorDBG
import Derived.Test.YtifconapjfdkcaaGreatDoorDBH
import Derived.Test.YtifconapjfdkcaaGreatDoorDBI
import Derived.Test.YtifconapjfdkcaaGreatDoorDBJ
set_option linter.unusedSimpArgs false
set_option linter.unusedVariables false
set_option maxRecDepth 100000
set_option maxHeartbeats 12800000
namespace Go.Proofs.YtifconapjfdkcaaGreatDoor
section
open Go.RowKit
theorem refLines_any(s:ByteArray)(w:World)(hs:s.size≤maxLen) :
 Calls Tryz.prog 63 #[.string s] w (LinesPost s w):=by
 unfold maxLen at hs
 by_cases hbig:20000<s.size
 ·have HL:Hid (linesB s=([],10)):=by show linesB s=_;unfold linesB;rw[qR hbig]
  go_enter Tryz.func63,Tryz.ntmps63
  go_wp2_with fail
  go_ret2
  refine⟨none,0,0, ?_, ?_,qC _ _⟩
  ·rw[HL.out];rfl
  ·rw[HL.out];exact Sl.nil0
 ·go_enter Tryz.func63,Tryz.ntmps63
  go_wp2_with fail
  go_loop [4] (fun i => ∃ k:Nat,k≤s.size∧i=.int .i64 k∧Hid (allTo (okByte s) k=true)) (fun i=>s.size-(intOf i).toNat)
  case atStart=>exact⟨0,qV _,rfl,rfl⟩
  case round =>
   obtain⟨k,hk,rfl,HA⟩:=hrel
   by_cases hlt:k<s.size
   ·have HB:=qH (byteAt_eq s k hlt);go_wp2_with fail
    all_goals
     have HB':=HB.out
     first
     | (have hv:okByte s k=true:=by unfold okByte;grind
        go_round
        case rel=>exact⟨k+1,by omega,by go_num,by show allTo _ _=true;rw[allTo_succ,HA.out,hv];rfl⟩
        case measure=>simp[intOf];omega)
     | (have hv:okByte s k=false:=by unfold okByte;grind
        have HL:Hid (linesB s=([],1)):=by show linesB s=_;unfold linesB;rw[qN hbig,qR (allTo_false hlt hv)]
        go_ret2
        refine⟨none,0,0, ?_, ?_,qC _ _⟩
        ·rw[HL.out];rfl
        ·rw[HL.out];exact Sl.nil0)
   ·have hkk:k=s.size:=by omega
    have hall:allTo (okByte s) s.size=true:=by rw[←hkk];exact HA.out
    have HL:Hid (linesB s=if 1000<(linesL s.data.toList).length then ([],10) else ((linesL s.data.toList).map bs,0)):=by
     show linesB s=_;unfold linesB;rw[qN hbig,qN (by rw[hall];decide)]
    have hmx:=linesL_length s.data.toList;rw[←Lib.size_eq]at hmx;clear HA hall hkk;go_wp2_with fail
    go_loopw [5,6,7] (fun v f i wr => ∃ (k fr:Nat) (l:List ByteArray),k≤s.size∧fr≤k∧i=.int .i64 k∧f=.int .i64 fr∧Own Ty.str 9 wr w.heap.size v l∧Below w.heap.size w wr∧Hid (RL s k fr l)) (fun _ _ i _=>s.size-(intOf i).toNat)
    case atStart=>exact⟨0,0,[],qV _,qD _,rfl,rfl,Own.nil,qC _ _,RL.start s⟩
    case round =>
     obtain⟨k2,fr,l,hk2,hfr,rfl,rfl,hown,hbr,HR⟩:=hrel;have hll:=HR.out.len;have hbs:=hbr.size
     by_cases hlt2:k2<s.size
     ·have e1:=byte_is hlt2 10;simp only[show((10:UInt8).toNat:Int)=10 from rfl]at e1
      by_cases h10:s[k2]=10
      ·have HR2:=qH (HR.out.line hlt2 h10);rw[decide_eq_true h10]at e1;clear h10 HR;go_wp2_with (at_builtin;refine wpList_push_str rfl _ _ rfl strElem rfl (hown.alloc _) wr.heap.size (s.extract fr k2) rfl ?c1 ?c2 ?c3 (qD _) (hbr.alloc hbs _) ?_)
       case c1=>simp
       case c2=>omega
       case c3=>simp;omega
       intro v' w1 hown2 hbr2;clear hown;go_wp2_with fail
       go_roundw
       case rel=>exact⟨k2+1,k2+1,_,by omega,by omega,by go_num,by go_num,hown2,hbr2,HR2⟩
       case measure=>simp[intOf];omega
      ·have HR2:=qH (HR.out.byte hlt2 h10);rw[decide_eq_false h10]at e1;clear h10 HR;go_wp2_with fail
       go_roundw
       case rel=>exact⟨k2+1,fr,_,by omega,by omega,by go_num,rfl,hown,hbr,HR2⟩
       case measure=>simp[intOf];omega
     ·obtain rfl:k2=s.size:=by omega
      have hst:=HR.out.stop;have HST:=qH hst;clear hst HR
      by_cases hf:fr<s.size
      ·have HS2:Hid (l++[s.extract fr s.size]=(linesL s.data.toList).map bs):=by have:=HST.out;rw[qR hf]at this;exact this
       go_wp2_with (at_builtin;refine wpList_push_str rfl _ _ rfl strElem rfl (hown.alloc _) wr.heap.size (s.extract fr s.size) rfl ?c1 ?c2 ?c3 (qD _) (hbr.alloc hbs _) ?_)
       case c1=>simp
       case c2=>omega
       case c3=>simp;omega
       intro v' w1 hown2 hbr2;rw[HS2.out]at hown2;obtain⟨A,c,rfl,hsl⟩:=hown2.sl;rw[List.length_map]at hsl;have HSL:=qH (hsl.more fun b hb=>(hb.2:all_ w1 b));clear hown hown2 hsl;rw[List.length_map]
       by_cases h1000:1000<(linesL s.data.toList).length
       ·go_wp2_with fail
        go_ret2
        refine⟨none,0,0, ?_, ?_,hbr2⟩
        ·rw[HL.out,qR h1000];rfl
        ·rw[HL.out,qR h1000];exact Sl.nil0
       ·go_wp2_with fail
        go_ret2
        refine⟨A,(linesL s.data.toList).length,c, ?_, ?_,hbr2⟩
        ·rw[HL.out,qN h1000];rfl
        ·rw[HL.out,qN h1000];exact HSL.out
      ·have HS2:Hid (l=(linesL s.data.toList).map bs):=by have:=HST.out;rw[qN hf]at this;exact this
       rw[HS2.out]at hown;obtain⟨A,c,rfl,hsl⟩:=hown.sl;rw[List.length_map]at hsl;have HSL:=qH (hsl.more fun b hb=>(hb.2:all_ wr b));clear hown hsl HST HS2;rw[List.length_map]
       by_cases h1000:1000<(linesL s.data.toList).length
       ·go_wp2_with fail
        go_ret2
        refine⟨none,0,0, ?_, ?_,hbr⟩
        ·rw[HL.out,qR h1000];rfl
        ·rw[HL.out,qR h1000];exact Sl.nil0
       ·go_wp2_with fail
        go_ret2
        refine⟨A,(linesL s.data.toList).length,c, ?_, ?_,hbr⟩
        ·rw[HL.out,qN h1000];rfl
        ·rw[HL.out,qN h1000];exact HSL.out
end
section
open Go.RowKit
theorem ttE_of_crew{t:GTT}{l:List GPerson}(h:crewE t l=0):ttE t=0:=by
 unfold crewE at h
 by_cases h0:ttE t=0
 ·exact h0
 ·rw[qR h0]at h;exact absurd h h0
theorem incParseR_any(t:GTT)(ps:List GPerson)(s:ByteArray)(A1 A2 A3 A4:Option Addr)(n1 n2 n3 n4 c1 c2 c3 c4:Nat)(w:World)(ht:t.ok)(hp : ∀ p∈ps,p.ok)(hs1:Sl Ty.zone w (all_ w) A1 n1 c1 t.zones)(hs2:Sl Ty.airport w (all_ w) A2 n2 c2 t.airports)(hs3:Sl Ty.flight w (all_ w) A3 n3 c3 t.flights)(hs4:Sl Ty.person w (all_ w) A4 n4 c4 ps)(hs:s.size≤maxLen) :
 Calls Tryz.prog 29 #[.agg #[.slice A1 n1 c1,.slice A2 n2 c2,.slice A3 n3 c3],.slice A4 n4 c4,.string s] w (IParPost (parseI t ps s) w):=by
 have HSS:=qH hs;have ha:=(qC w.heap.size w).alloc (qD _) (.cells #[.slice A1 n1 c1,.slice A2 n2 c2,.slice A3 n3 c3] 27);have hx0:=qK w (.cells #[.slice A1 n1 c1,.slice A2 n2 c2,.slice A3 n3 c3] 27);have hz0:(w.alloc (.cells #[.slice A1 n1 c1,.slice A2 n2 c2,.slice A3 n3 c3] 27)).heap.size=w.heap.size+1:=by simp
 have HA:=qH ha;have HX0:=qH hx0;have HZ0:=qH hz0;have HRD:Hid (∀ (V:World) (f:List ByteArray) (A:Option Addr) (n c:Nat),ttE t=0→Below w.heap.size w V→Sl Ty.str V (all_ V) A n c f→1≤f.length→(∀ x∈f,x.size≤20000)→Calls Tryz.prog 65 #[.agg #[.slice A1 n1 c1,.slice A2 n2 c2,.slice A3 n3 c3],.slice A n c] V (ReadPost (lineI t f) V)):=fun V f A n c hv hV hf h1 hz=>readR_any t f A1 A2 A3 A n1 n2 n3 n c1 c2 c3 c V ht hv (hs1.next hV) (hs2.next hV) (hs3.next hV) hf h1 hz
 have HV0:Hid (∀ V,Below w.heap.size w V→Calls Tryz.prog 40 #[.agg #[.slice A1 n1 c1,.slice A2 n2 c2,.slice A3 n3 c3],.slice A4 n4 c4] V (ErrPost (crewE t ps) V)):=fun V hV=>validateCrewR_any t ps A1 A2 A3 A4 n1 n2 n3 n4 c1 c2 c3 c4 V ht hp (hs1.next hV) (hs2.next hV) (hs3.next hV) (hs4.next hV)
 have HVI:Hid (∀ (l:List GInc) (A5:Option Addr) (n5 c5:Nat) (V:World),Below w.heap.size w V→Sl Ty.inc V (all_ V) A5 n5 c5 l→Calls Tryz.prog 17 #[.agg #[.slice A1 n1 c1,.slice A2 n2 c2,.slice A3 n3 c3],.slice A4 n4 c4,.slice A5 n5 c5] V (ErrPost (incE t ps l) V)):=fun l A5 n5 c5 V hV h5=>validate40_any t ps l A1 A2 A3 A4 A5 n1 n2 n3 n4 n5 c1 c2 c3 c4 c5 V ht hp (hs1.next hV) (hs2.next hV) (hs3.next hV) (hs4.next hV) h5
 have HBAD:Hid (∀ (W':World) (ln x:Int),parseI t ps s=([],ln,x)→Below w.heap.size w W'→IParPost (parseI t ps s) w (.returned (.tuple #[.slice none 0 0,.int .i64 ln,.int .i64 x])) W'):=fun W' ln x he hb=>by
  rw[he];exact⟨none,0,0,rfl,Sl.nil0,hb⟩
 have HT1:Hid (crewE t ps≠0→parseI t ps s=([],0,crewE t ps)):=fun h=>by show _=_;unfold parseI;rw[qR h]
 have HT2:Hid (crewE t ps=0→(linesB s).2≠0→parseI t ps s=([],0,(linesB s).2)):=fun h0 h=>by show _=_;unfold parseI;rw[qN (by simp[h0]),qR h]
 have HPE0:Hid (crewE t ps=0→(linesB s).2=0 → ∀ k:Nat,k<(linesB s).1.length→incErr t (linesB s).1 k≠0→(∀ j,j<k→incErr t (linesB s).1 j=0)→parseI t ps s=([],(k:Int)+1,incErr t (linesB s).1 k)):=fun h0 h k h1 h2 h3=>parseI_err h0 h h1 h2 h3
 have HPA0:Hid (crewE t ps=0→(linesB s).2=0→(∀ j,j<(linesB s).1.length→incErr t (linesB s).1 j=0)→parseI t ps s=if incE t ps (incAt t (linesB s).1 (linesB s).1.length)≠0 then ([],0,incE t ps (incAt t (linesB s).1 (linesB s).1.length)) else (incAt t (linesB s).1 (linesB s).1.length,0,0)):=fun h0 h hn=>parseI_all h0 h hn
 clear ha hx0 hz0 hs hs1 hs2 hs3 hs4 ht hp;generalize parseI t ps s=R at*
 go_enter Tryz.func29,Tryz.ntmps29
 go_upto_region 1 with (fail)
 generalize w.alloc (.cells #[.slice A1 n1 c1,.slice A2 n2 c2,.slice A3 n3 c3] 27)=W at*;have t0:=block_cell HX0.out 0;have t1:=block_cell HX0.out 1;have t2:=block_cell HX0.out 2;go_wp2_with fail
 refine(HV0.out W HA.out).mono ?_;rintro e w1 ⟨rfl,hb1⟩;have HB1:Hid (Below w.heap.size w w1):=HA.out.trans (hb1.mono HA.out.size);have HX1:Hid (w1.heap[w.heap.size]? = _):=(hb1.block _ (by have:=HZ0.out;omega)).trans HX0.out;have hz1:w.heap.size+1≤w1.heap.size:=by have:=hb1.size;have:=HZ0.out;omega
 clear t0 t1 t2 hb1 HX0 HZ0 HA HV0
 by_cases hc:crewE t ps=0
 case neg =>
  have hc':(crewE t ps==0)=false:=by simpa using hc
  have HR:=qH (HT1.out hc);generalize crewE t ps=er at*;clear hc;go_wp2_with fail
  go_ret3
  exact HBAD.out _ _ _ HR.out HB1.out
 have HT2:=qH (HT2.out hc);have HPE0:=qH (HPE0.out hc);have HPA0:=qH (HPA0.out hc);have HTE:=qH (ttE_of_crew hc);rw[hc];clear hc HT1;go_wp2_with fail
 refine(refLines_any s w1 HSS.out).mono ?_;rintro e w2 ⟨Al,nl,cl,rfl,hsl,hb2⟩;have hbw2:Below w.heap.size w w2:=HB1.out.trans (hb2.mono HB1.out.size);have hx2:=(hb2.block w.heap.size (by omega)).trans HX1.out;have hz2:w.heap.size+1≤w2.heap.size:=by have:=hb2.size;omega
 have HX2:Hid (∀ V,Below w2.heap.size w2 V→V.heap[w.heap.size]? = some (.cells #[.slice A1 n1 c1,.slice A2 n2 c2,.slice A3 n3 c3] 27 (0,0))):=fun V hV=>(hV.block _ (by omega)).trans hx2
 have HBW2:=qH hbw2;clear hb2 hbw2 hx2 HX1 HB1
 by_cases he:(linesB s).2=0
 case neg =>
  have he':((linesB s).2==0)=false:=by simpa using he
  have HR:=qH (HT2.out he);generalize (linesB s).2=er at*;clear he;go_wp2_with fail
  go_ret3
  exact HBAD.out _ _ _ HR.out HBW2.out
 have HPE:=qH (HPE0.out he);have HPA:=qH (HPA0.out he);rw[he];have HLM:Hid (∀ f∈(linesB s).1,f.size≤20000):=fun f hf=>by have:=linesB_mem hf;omega
 have hll:=linesB_len s;clear he HT2 HPE0 HPA0;generalize (linesB s).1=ls at*;have hnl:=hsl.len;subst hnl;have HSL:Hid (∀ V,Below w2.heap.size w2 V→Sl Ty.str V (all_ V) Al ls.length cl ls):=fun V hV=>hsl.next hV
 clear hsl;go_wp2_with fail
 go_loopw [6,7,8,12,13] (fun _ _ _ v i wr => ∃ k:Nat,k≤ls.length∧i=.int .i64 k∧Hid (Own Ty.inc 59 wr w2.heap.size v (incAt t ls k))∧Hid (Below w2.heap.size w2 wr)∧Hid (∀ j,j<k→incErr t ls j=0)) (fun _ _ _ _ i _=>ls.length-(intOf i).toNat)
 case atStart=>exact⟨0,qV _,rfl,Own.nil,qC _ _,fun j hj=>absurd hj (by omega)⟩
 case round =>
  obtain⟨k,hk,rfl,HOW,HBR,HNE⟩:=hrel;obtain⟨A9,c9,rfl, -⟩:=HOW.out.sl;have hle9:=incAt_len t ls k
  by_cases hlt:k<ls.length
  ·have hlt':(k:Int)<(ls.length:Int):=by omega
   obtain⟨lb,lo2,rfl, -,hcl⟩:=(HSL.out wr HBR.out).str_at hlt;have hge:ls[k]=ls.getD k noStr:=by rw[qF,qG hlt];rfl
   rw[hge]at hcl;have hsz:(ls.getD k noStr).size≤20000:=HLM.out _ (by rw[←hge];exact List.getElem_mem hlt);have HWR:Hid (Below w.heap.size w wr):=HBW2.out.trans (HBR.out.mono (by omega));have HFO:=qH (refFields_own (ls.getD k noStr) wr (by omega));have HFM:Hid (∀ x∈fieldsB (ls.getD k noStr),x.size≤20000):=fun x hx=>by have:=fieldsB_mem hx;omega
   have HFL:Hid ((fieldsB (ls.getD k noStr)).length≤100000):=by
    have:=fieldsB_lenI (ls.getD k noStr);show _≤_;omega
   have HSU:Hid (incAt t ls (k+1)=(stepI t (ls.getD k noStr) (incAt t ls k)).1):=rfl;have HSE:Hid (incErr t ls k=(stepI t (ls.getD k noStr) (incAt t ls k)).2):=rfl;have HNIL:=qH (stepI_nil (t:=t) (s:=ls.getD k noStr) (l:=incAt t ls k));have HSB:=qH (stepI_bad (t:=t) (s:=ls.getD k noStr) (l:=incAt t ls k));have HSG:=qH (stepI_good (t:=t) (s:=ls.getD k noStr) (l:=incAt t ls k));have HEK:=qH (HPE.out k hlt);generalize ls.getD k noStr=ln at*;generalize incAt t ls k=xs at*;clear hsz hge;go_wp2_with fail
   refine HFO.out.mono ?_;rintro e wf ⟨vf,rfl,hof,hbf⟩;obtain⟨Af,cf,rfl,hslf⟩:=hof.sl;have HOF:Hid (Own Ty.inc 59 wf w2.heap.size (.slice A9 xs.length c9) xs):=HOW.out.next hbf;have HBF:Hid (Below w2.heap.size w2 wf):=HBR.out.trans (hbf.mono HBR.out.size);have HWF:Hid (Below w.heap.size w wf):=HWR.out.trans (hbf.mono HWR.out.size);have HSLF:Hid (Sl Ty.str wf (all_ wf) Af (fieldsB ln).length cf (fieldsB ln)):=hslf.more fun q hq=>hq.2
   have q0:=HX2.out wf HBF.out;have t0:=block_cell q0 0;have t1:=block_cell q0 1;have t2:=block_cell q0 2;clear hof hslf hbf hcl HFO HOW HBR HWR q0;generalize fieldsB ln=fs at*
   by_cases hfs:fs=[]
   ·have hl0:((fs.length:Int)==0)=true:=by rw[hfs];rfl
    have HE:=qH (HNIL.out hfs);have HN1:Hid (∀ j,j<k+1→incErr t ls j=0):=fun j hj=>by
     rcases Nat.lt_or_eq_of_le (Nat.le_of_lt_succ hj) with h|h
     ·exact HNE.out j h
     ·subst h;rw[HSE.out,HE.out]
    have HA1:Hid (incAt t ls (k+1)=xs):=by show _=_;rw[HSU.out,HE.out]
    clear hfs;go_wp2_with fail
    go_roundw
    case rel=>exact⟨k+1,by omega,by go_num,by rw[HA1.out];exact HOF,HBF,HN1⟩
    case measure=>simp[intOf];omega
   have hl0:((fs.length:Int)==0)=false:=by
    have:=List.length_pos_iff.2 hfs;simp;omega
   have HLN:=qH (HRD.out wf fs Af fs.length cf HTE.out HWF.out HSLF.out (List.length_pos_iff.2 hfs) HFM.out);have HSB:=qH (HSB.out hfs);have HSG:=qH (HSG.out hfs);clear hfs HNIL HSLF;unfold ReadPost at HLN;generalize lineI t fs=r at*;obtain⟨xr,er⟩:=r;simp only at HLN HSB HSG;go_wp2_with fail
   refine HLN.out.mono ?_;rintro e w5 ⟨x,rfl,hxr,hb5⟩;have HO5:Hid (∀ oo,Own Ty.inc 59 (w5.alloc oo) w2.heap.size (.slice A9 xs.length c9) xs):=fun oo=>(HOF.out.next hb5).alloc oo
   have HB5:Hid (∀ oo,Below w2.heap.size w2 (w5.alloc oo)):=fun oo=>(HBF.out.trans (hb5.mono HBF.out.size)).alloc (by have:=hb5.size;have:=HBF.out.size;omega) oo
   have HW5:Hid (∀ oo,Below w.heap.size w (w5.alloc oo)):=fun oo=>HBW2.out.trans ((HB5.out oo).mono (by omega))
   clear HLN HOF HBF HWF hb5 t0 t1 t2
   by_cases her:er=0
   ·subst her;obtain rfl:=hxr rfl;have HE:=qH (HSG.out rfl);have HN1:Hid (∀ j,j<k+1→incErr t ls j=0):=fun j hj=>by
     rcases Nat.lt_or_eq_of_le (Nat.le_of_lt_succ hj) with h|h
     ·exact HNE.out j h
     ·subst h;rw[HSE.out,HE.out]
    have HA1:Hid (incAt t ls (k+1)=xs++[x]):=by show _=_;rw[HSU.out,HE.out]
    obtain⟨kd,fl,mi,ai,pe,⟨s1,s2⟩⟩:=x;simp only[incCells];have HX5:=qH (qK w5 (.cells #[.int .i64 kd,.int .i64 fl,.int .i64 mi,.string ai,.int .i64 pe,.int .i64 s1,.int .i64 s2] 59));clear HSB HSG;go_upto_region 16 with (fail)
    have HO6:=qH (HO5.out (.cells #[.int .i64 kd,.int .i64 fl,.int .i64 mi,.string ai,.int .i64 pe,.int .i64 s1,.int .i64 s2] 59));have HB6:=qH (HB5.out (.cells #[.int .i64 kd,.int .i64 fl,.int .i64 mi,.string ai,.int .i64 pe,.int .i64 s1,.int .i64 s2] 59));generalize w5.alloc (.cells #[.int .i64 kd,.int .i64 fl,.int .i64 mi,.string ai,.int .i64 pe,.int .i64 s1,.int .i64 s2] 59)=w6 at*;have y0:=block_cell HX5.out 0;have y1:=block_cell HX5.out 1;have y2:=block_cell HX5.out 2;have y3:=block_cell HX5.out 3;have y4:=block_cell HX5.out 4;have y5:=block_cell HX5.out 5;have y6:=block_cell HX5.out 6;have hsz6:=HB6.out.size;have HO7:Hid (∀ oo,Own Ty.inc 59 (w6.alloc oo) w2.heap.size (.slice A9 xs.length c9) xs):=fun oo=>HO6.out.alloc oo
    have HB7:Hid (∀ oo,Below w2.heap.size w2 (w6.alloc oo)):=fun oo=>HB6.out.alloc hsz6 oo
    have HAT:Hid (At (w6.alloc (.cells #[.int .i64 kd,.int .i64 fl,.int .i64 mi,.string ai,.int .i64 pe,.int .i64 s1,.int .i64 s2] 59)) w6.heap.size 0 (incCells ⟨kd,fl,mi,ai,pe,⟨s1,s2⟩⟩)):=at_ofBlockI (qK _ _);clear HO5 HB5 HW5 HX5 HO6 HB6;go_wp2_with (at_builtin;refine wpList_push (t:=Ty.inc) rfl _ _ _ rfl 64 elem_inc rfl (HO7.out _) w6.heap.size ⟨kd,fl,mi,ai,pe,⟨s1,s2⟩⟩ (fun _=>False) rfl ⟨_,rfl,HAT.out⟩ (fun _ h=>h.elim) ?c1 (by decide) ?c2 ?_)
    case c1=>omega
    case c2=>first|omega|(simp;omega)
    intro v' w7 hown7 hg7;have hb7:Hid (Below w2.heap.size w2 w7):=(HB7.out _).grown hg7 (by simp;omega) (fun j hj=>(HO7.out (.cells #[] 0)).lt j hj |>.1);rw[←HA1.out]at hown7;have HO9:=qH hown7;clear HO7 HB7 HAT hown7 hg7 y0 y1 y2 y3 y4 y5 y6;go_wp2_with fail
    go_roundw
    case rel=>exact⟨k+1,by omega,by go_num,HO9,hb7,HN1⟩
    case measure=>simp[intOf];omega
   ·have her':(er==0)=false:=by simpa using her
    have HE:=qH (HSB.out her);have HEK2:Hid (R=([],(k:Int)+1,er)):=by
     have h9:incErr t ls k=er:=by rw[HSE.out,HE.out]
     have:=HEK.out (by rw[h9];exact her) HNE.out;show _=_;rw[this,h9]
    have hwrap:IntKind.i64.wrap ((k:Int)+1)=(k:Int)+1:=qM _ (by omega);obtain⟨kd,fl,mi,ai,pe,⟨s1,s2⟩⟩:=x;simp only[incCells];clear her HSB HSG HEK;go_wp2_with fail
    go_ret3
    exact HBAD.out _ _ _ HEK2.out (HW5.out _)
  ·have hkl:k=ls.length:=by omega
   subst hkl;have hge : ¬(ls.length:Int)<(ls.length:Int):=by omega
   have HPAX:=qH (HPA.out HNE.out);obtain⟨A9',c9',he9,hsl9⟩:=HOW.out.sl;injection he9 with e1 e2 e3
   subst e1 e3;have HWR:Hid (Below w.heap.size w wr):=HBW2.out.trans (HBR.out.mono (by omega));generalize incAt t ls ls.length=xs at*;have HV:=qH (HVI.out xs A9 xs.length c9 wr HWR.out (hsl9.more fun q hq=>hq.2));have HSX:Hid (∀ V,Below wr.heap.size wr V→Sl Ty.inc V (all_ V) A9 xs.length c9 xs):=fun V hV=>(hsl9.more fun q hq=>hq.2).next hV
   have q0:=HX2.out wr HBR.out;have t0:=block_cell q0 0;have t1:=block_cell q0 1;have t2:=block_cell q0 2;clear q0 hsl9 HOW HNE hlt hk;go_wp2_with fail
   refine HV.out.mono ?_;rintro e w6 ⟨rfl,hb6⟩;have HB6:Hid (Below w.heap.size w w6):=HWR.out.trans (hb6.mono HWR.out.size);have HS6:=qH (HSX.out w6 hb6);clear t0 t1 t2 hb6 HV HSX;generalize incE t ps xs=ce at*
   by_cases hce:ce=0
   ·have HR:Hid (R=(xs,0,0)):=by show _=_;rw[HPAX.out,qN (by simp[hce])]
    subst hce;go_wp2_with fail
    go_ret3
    rw[HR.out];exact⟨_,_,_,rfl,HS6.out,HB6.out⟩
   ·have hne:(ce==0)=false:=by simpa using hce
    have HR:Hid (R=([],0,ce)):=by show _=_;rw[HPAX.out,qR hce]
    clear hce HPAX;go_wp2_with fail
    go_ret3
    exact HBAD.out _ _ _ HR.out HB6.out
end
section
open Go.RowKit
theorem lawParses_any(l m a:List Int)(s:ByteArray)(A Am Aa:Option Addr)(n c nm cm na ca:Nat)(w:World)(h:Sl (Ty.int .i64) w (all_ w) A n c l)(hm:Sl (Ty.int .i64) w (all_ w) Am nm cm m)(ha:Sl (Ty.int .i64) w (all_ w) Aa na ca a)(hpw:Pow10 w)(hg:Glo w):Calls Tryz.prog 9 #[.slice A n c,.slice Am nm cm,.slice Aa na ca,.string s] w (TruePost w):=by
 have HPW:Hid (∀ V,Below w.heap.size w V→Pow10 V):=fun V hV=>hpw.next hV
 have HGL:Hid (∀ V,Below w.heap.size w V→Glo V):=fun V hV=>hg.next hV
 have HSL:=qH h;have HSM:Hid (∀ V,Below w.heap.size w V→Sl (Ty.int .i64) V (all_ V) Am nm cm m):=fun V hV=>hm.next hV
 have HSA:Hid (∀ V,Below w.heap.size w V→Sl (Ty.int .i64) V (all_ V) Aa na ca a):=fun V hV=>ha.next hV
 have HKN:=qH (known_any w hpw hg);clear hpw hg h hm ha
 by_cases hs:2000<s.size
 ·have hs':(2000:Int)<(s.size:Int):=by omega
  clear hs
  go_enter Tryz.func9,Tryz.ntmps9
  go_wp2_with (go_at_call 18;refine HKN.out.mono ?_;rintro e wy ⟨rfl,hby⟩)
  go_ret
  exact⟨rfl,hby⟩
 have hs' : ¬(2000:Int)<(s.size:Int):=by omega
 have HSZ:Hid (s.size≤maxLen):=by show _≤_;unfold maxLen;omega
 clear HKN hs
 go_enter Tryz.func9,Tryz.ntmps9
 go_upto_region 3 with (fail)
 clear hs';refine wp_region_lit ?_;refine qP rfl fun K9 hK9 =>?_
 go_simp
 refine hK9 _ _ ?_;clear hK9;refine qP rfl fun K9 hK9 =>?_
 go_simp
 go_at_call 11
 refine(problem_any l A n c w HSL.out).mono ?_;rintro e w1 ⟨cells,rfl,hpi,hb1⟩;obtain⟨v,cs,Ab,nb,cb,Ao,no,co,bs,os,hh,pp,rfl,htt,hcs,hbs,hos,ho0,ho5,hb2⟩:=hpi;have htt':=htt;obtain⟨A1,n1,d1,A2,n2,d2,A3,n3,d3,rfl, -, -, -⟩:=htt';obtain⟨k0,k1,k2,k3,k4,k5,k6,k7,k8,k9,k10,k11,k12,k13,rfl⟩:=list14 hcs.1;have HCS:=qH hcs;have HTT1:=qH htt.fl;have HB1:=qH hb1;have HBS:=qH hbs;have HOS:=qH hos;clear htt hcs hb1 hbs hos;refine hK9 _ _ ?_;clear hK9;refine qP rfl fun K9 hK9 =>?_
 go_simp
 refine hK9 _ _ ?_;clear hK9;refine qP rfl fun K9 hK9 =>?_
 go_simp
 go_at_call 12
 refine(people_any m Am nm cm w1 (HSM.out w1 HB1.out)).mono ?_;rintro e w1b ⟨A4,n4,c4,rfl,hs4,hb4⟩;have HSP:=qH hs4;have HTT2:Hid (Sl Ty.zone w1b (all_ w1b) A1 n1 d1 (probTT l).zones∧Sl Ty.airport w1b (all_ w1b) A2 n2 d2 (probTT l).airports∧Sl Ty.flight w1b (all_ w1b) A3 n3 d3 (probTT l).flights):=⟨HTT1.out.1.next hb4,HTT1.out.2.1.next hb4,HTT1.out.2.2.next hb4⟩
 have HB1b:Hid (Below w.heap.size w w1b):=HB1.out.trans (hb4.mono HB1.out.size);have HTT1b:=HTT2;clear hs4 hb4 HTT1 HB1 HTT2;refine hK9 _ _ ?_;clear hK9;refine qP rfl fun K9 hK9 =>?_
 go_simp
 refine hK9 _ _ ?_;clear hK9;have HXP:=qH (qK w1b (.cells zProb 38));have HK1:Hid (∀ q,q<w1b.heap.size→(w1b.alloc (.cells zProb 38)).heap[q]? = w1b.heap[q]?):=fun q hq=>Below.heap_alloc _ _ _ hq
 have HB7:Hid (Below w.heap.size w (w1b.alloc (.cells zProb 38))):=HB1b.out.alloc HB1b.out.size _;have hz7:(w1b.alloc (.cells zProb 38)).heap.size=w1b.heap.size+1:=by simp
 have hone:((#[.slice A1 n1 d1,.slice A2 n2 d2,.slice A3 n3 d3,k0,k1,k2,k3,k4,k5,k6,k7,k8,k9,k10,k11,k12,k13,.slice Ab nb cb,.slice Ao no co,.int .i64 hh,.int .i64 pp]:Array Value)).all (·.oneCell')=true:=by
  have h14:=HCS.out.2;rw[Array.all_eq_true];intro i hi;have hmem:((#[.slice A1 n1 d1,.slice A2 n2 d2,.slice A3 n3 d3,k0,k1,k2,k3,k4,k5,k6,k7,k8,k9,k10,k11,k12,k13,.slice Ab nb cb,.slice Ao no co,.int .i64 hh,.int .i64 pp]:Array Value))[i]∈(#[.slice A1 n1 d1,.slice A2 n2 d2,.slice A3 n3 d3,k0,k1,k2,k3,k4,k5,k6,k7,k8,k9,k10,k11,k12,k13,.slice Ab nb cb,.slice Ao no co,.int .i64 hh,.int .i64 pp]:Array Value).toList:=by simp
  have hcs2 : ∀ u∈([.slice A1 n1 d1,.slice A2 n2 d2,.slice A3 n3 d3]++([k0,k1,k2,k3,k4,k5,k6,k7,k8,k9,k10,k11,k12,k13]++[.slice Ab nb cb,.slice Ao no co,.int .i64 hh,.int .i64 pp]):List Value),u.oneCell'=true:=fun u hu=>by
   rcases List.mem_append.1 hu with h|h
   ·simp at h;rcases h with rfl|rfl|rfl <;> rfl
   ·rcases List.mem_append.1 h with h|h
    ·exact h14 u h
    ·simp at h;rcases h with rfl|rfl|rfl|rfl <;> rfl
  exact hcs2 _ hmem
 change wpList _ _ _ _ _ (w1b.alloc (.cells zProb 38));generalize w1b.alloc (.cells zProb 38)=w7 at*;refine wpList_store_row rfl _ _ _ rfl w1b.heap.size #[.slice A1 n1 d1,.slice A2 n2 d2,.slice A3 n3 d3,k0,k1,k2,k3,k4,k5,k6,k7,k8,k9,k10,k11,k12,k13,.slice Ab nb cb,.slice Ao no co,.int .i64 hh,.int .i64 pp] (by simp[Act.eval,Act.put]) (by simp[Act.eval,Act.put]) _ _ HXP.out (by kernel_rfl) rfl hone ?_;clear hone;have HBX:Hid ((w7.setRow w1b.heap.size #[.slice A1 n1 d1,.slice A2 n2 d2,.slice A3 n3 d3,k0,k1,k2,k3,k4,k5,k6,k7,k8,k9,k10,k11,k12,k13,.slice Ab nb cb,.slice Ao no co,.int .i64 hh,.int .i64 pp]).heap[w1b.heap.size]? = some (.cells #[.slice A1 n1 d1,.slice A2 n2 d2,.slice A3 n3 d3,k0,k1,k2,k3,k4,k5,k6,k7,k8,k9,k10,k11,k12,k13,.slice Ab nb cb,.slice Ao no co,.int .i64 hh,.int .i64 pp] 38 (0,0))):=setRow_heap _ _ _ _ _ _ HXP.out;have hk : ∀ q,q<w1b.heap.size→(w7.setRow w1b.heap.size #[.slice A1 n1 d1,.slice A2 n2 d2,.slice A3 n3 d3,k0,k1,k2,k3,k4,k5,k6,k7,k8,k9,k10,k11,k12,k13,.slice Ab nb cb,.slice Ao no co,.int .i64 hh,.int .i64 pp]).heap[q]? = w1b.heap[q]? :=fun q hq=>(setRow_other _ _ _ _ (by omega)).trans (HK1.out q hq)
 have hzz:(w7.setRow w1b.heap.size #[.slice A1 n1 d1,.slice A2 n2 d2,.slice A3 n3 d3,k0,k1,k2,k3,k4,k5,k6,k7,k8,k9,k10,k11,k12,k13,.slice Ab nb cb,.slice Ao no co,.int .i64 hh,.int .i64 pp]).heap.size=w7.heap.size:=by simp
 have HT:Hid (Sl Ty.zone (w7.setRow w1b.heap.size #[.slice A1 n1 d1,.slice A2 n2 d2,.slice A3 n3 d3,k0,k1,k2,k3,k4,k5,k6,k7,k8,k9,k10,k11,k12,k13,.slice Ab nb cb,.slice Ao no co,.int .i64 hh,.int .i64 pp]) (all_ (w7.setRow w1b.heap.size #[.slice A1 n1 d1,.slice A2 n2 d2,.slice A3 n3 d3,k0,k1,k2,k3,k4,k5,k6,k7,k8,k9,k10,k11,k12,k13,.slice Ab nb cb,.slice Ao no co,.int .i64 hh,.int .i64 pp])) A1 n1 d1 (probTT l).zones∧Sl Ty.airport (w7.setRow w1b.heap.size #[.slice A1 n1 d1,.slice A2 n2 d2,.slice A3 n3 d3,k0,k1,k2,k3,k4,k5,k6,k7,k8,k9,k10,k11,k12,k13,.slice Ab nb cb,.slice Ao no co,.int .i64 hh,.int .i64 pp]) (all_ (w7.setRow w1b.heap.size #[.slice A1 n1 d1,.slice A2 n2 d2,.slice A3 n3 d3,k0,k1,k2,k3,k4,k5,k6,k7,k8,k9,k10,k11,k12,k13,.slice Ab nb cb,.slice Ao no co,.int .i64 hh,.int .i64 pp])) A2 n2 d2 (probTT l).airports∧Sl Ty.flight (w7.setRow w1b.heap.size #[.slice A1 n1 d1,.slice A2 n2 d2,.slice A3 n3 d3,k0,k1,k2,k3,k4,k5,k6,k7,k8,k9,k10,k11,k12,k13,.slice Ab nb cb,.slice Ao no co,.int .i64 hh,.int .i64 pp]) (all_ (w7.setRow w1b.heap.size #[.slice A1 n1 d1,.slice A2 n2 d2,.slice A3 n3 d3,k0,k1,k2,k3,k4,k5,k6,k7,k8,k9,k10,k11,k12,k13,.slice Ab nb cb,.slice Ao no co,.int .i64 hh,.int .i64 pp])) A3 n3 d3 (probTT l).flights) :=
  ⟨(HTT1b.out.1.keep fun b hb=>hk b hb).more fun b hb=>(by show b<_;have:b<w1b.heap.size:=hb;omega),(HTT1b.out.2.1.keep fun b hb=>hk b hb).more fun b hb=>(by show b<_;have:b<w1b.heap.size:=hb;omega),(HTT1b.out.2.2.keep fun b hb=>hk b hb).more fun b hb=>(by show b<_;have:b<w1b.heap.size:=hb;omega)⟩
 have HS4:Hid (Sl Ty.person (w7.setRow w1b.heap.size #[.slice A1 n1 d1,.slice A2 n2 d2,.slice A3 n3 d3,k0,k1,k2,k3,k4,k5,k6,k7,k8,k9,k10,k11,k12,k13,.slice Ab nb cb,.slice Ao no co,.int .i64 hh,.int .i64 pp]) (all_ (w7.setRow w1b.heap.size #[.slice A1 n1 d1,.slice A2 n2 d2,.slice A3 n3 d3,k0,k1,k2,k3,k4,k5,k6,k7,k8,k9,k10,k11,k12,k13,.slice Ab nb cb,.slice Ao no co,.int .i64 hh,.int .i64 pp])) A4 n4 c4 (dPeople m)):=(HSP.out.keep fun b hb=>hk b hb).more fun b hb=>(by show b<_;have:b<w1b.heap.size:=hb;omega)
 have HB2:Hid (Below w.heap.size w (w7.setRow w1b.heap.size #[.slice A1 n1 d1,.slice A2 n2 d2,.slice A3 n3 d3,k0,k1,k2,k3,k4,k5,k6,k7,k8,k9,k10,k11,k12,k13,.slice Ab nb cb,.slice Ao no co,.int .i64 hh,.int .i64 pp])):=below_setRowD HB7.out HB1b.out.size;generalize w7.setRow w1b.heap.size #[.slice A1 n1 d1,.slice A2 n2 d2,.slice A3 n3 d3,k0,k1,k2,k3,k4,k5,k6,k7,k8,k9,k10,k11,k12,k13,.slice Ab nb cb,.slice Ao no co,.int .i64 hh,.int .i64 pp]=w2 at*;generalize w1b.heap.size=P at*;clear HXP HK1 HB7 hz7 hk hzz HTT1b HB1b HSP;have HBW2:=HB2;have HBX2:=HBX;have HT2:=HT;clear HB2 HBX HT HCS HBS HOS ho0 ho5 hb2 HSL HSM;have HPO:=qH (people_ok m);have HTO:=qH (probTT_ok l);generalize dPeople m=ps at*;generalize probTT l=T0 at*;go_upto_region 5 with (go_at_call 28;refine(text40_any a Aa na ca w2 (HSA.out w2 HBW2.out)).mono ?_;rintro e V0 ⟨tx,rfl,htx,hb3⟩)
 have HBX0:Hid (V0.heap[P]? = _):=(hb3.block _ (Array.getElem?_eq_some_iff.1 HBX2.out).1).trans HBX2.out;have HT0:Hid (Sl Ty.zone V0 (all_ V0) A1 n1 d1 T0.zones∧Sl Ty.airport V0 (all_ V0) A2 n2 d2 T0.airports∧Sl Ty.flight V0 (all_ V0) A3 n3 d3 T0.flights):=⟨HT2.out.1.next hb3,HT2.out.2.1.next hb3,HT2.out.2.2.next hb3⟩
 have HBW0:Hid (Below w.heap.size w V0):=HBW2.out.trans (hb3.mono HBW2.out.size);have HS40:=qH (HS4.out.next hb3);have HTZ:Hid (tx.size≤maxLen):=by show _≤_;unfold maxLen;omega
 clear hb3 htx HBX2 HT2 HBW2 HS4 HSA;have HPV:Hid (∀ V,Below V0.heap.size V0 V→Below w.heap.size w V):=fun V hV=>HBW0.out.trans (hV.mono HBW0.out.size)
 have HC1:Hid (∀ V,Below V0.heap.size V0 V→Calls Tryz.prog 26 #[.agg #[.slice A1 n1 d1,.slice A2 n2 d2,.slice A3 n3 d3],.slice A4 n4 c4,.string tx] V (IParPost (parseI T0 ps tx) V)):=fun V hV =>
  incParse_any T0 ps tx A1 A2 A3 A4 n1 n2 n3 n4 d1 d2 d3 c4 V HTO.out HPO.out (HT0.out.1.next hV) (HT0.out.2.1.next hV) (HT0.out.2.2.next hV) (HS40.out.next hV) HTZ.out (HGL.out V (HPV.out V hV))
 have HC2:Hid (∀ V,Below V0.heap.size V0 V→Calls Tryz.prog 29 #[.agg #[.slice A1 n1 d1,.slice A2 n2 d2,.slice A3 n3 d3],.slice A4 n4 c4,.string tx] V (IParPost (parseI T0 ps tx) V)):=fun V hV =>
  incParseR_any T0 ps tx A1 A2 A3 A4 n1 n2 n3 n4 d1 d2 d3 c4 V HTO.out HPO.out (HT0.out.1.next hV) (HT0.out.2.1.next hV) (HT0.out.2.2.next hV) (HS40.out.next hV) HTZ.out
 have HC3:Hid (∀ V,Below V0.heap.size V0 V→Calls Tryz.prog 26 #[.agg #[.slice A1 n1 d1,.slice A2 n2 d2,.slice A3 n3 d3],.slice A4 n4 c4,.string s] V (IParPost (parseI T0 ps s) V)):=fun V hV =>
  incParse_any T0 ps s A1 A2 A3 A4 n1 n2 n3 n4 d1 d2 d3 c4 V HTO.out HPO.out (HT0.out.1.next hV) (HT0.out.2.1.next hV) (HT0.out.2.2.next hV) (HS40.out.next hV) HSZ.out (HGL.out V (HPV.out V hV))
 have HC4:Hid (∀ V,Below V0.heap.size V0 V→Calls Tryz.prog 29 #[.agg #[.slice A1 n1 d1,.slice A2 n2 d2,.slice A3 n3 d3],.slice A4 n4 c4,.string s] V (IParPost (parseI T0 ps s) V)):=fun V hV =>
  incParseR_any T0 ps s A1 A2 A3 A4 n1 n2 n3 n4 d1 d2 d3 c4 V HTO.out HPO.out (HT0.out.1.next hV) (HT0.out.2.1.next hV) (HT0.out.2.2.next hV) (HS40.out.next hV) HSZ.out
 clear HT0 HS40 HTO HPO HTZ HSZ;unfold IParPost at HC1 HC2 HC3 HC4;generalize parseI T0 ps tx=r1 at*;generalize parseI T0 ps s=r2 at*;obtain⟨xs1,i1,e1⟩:=r1;obtain⟨xs2,i2,e2⟩:=r2;simp only at HC1 HC2 HC3 HC4;have HB00:Hid (Below V0.heap.size V0 V0):=qC _ _;have x0:=block_cell HBX0.out 0;have x1:=block_cell HBX0.out 1;have x2:=block_cell HBX0.out 2;go_upto_region 6 with (go_at_call 26;refine(HC1.out V0 HB00.out).mono ?_;rintro e w10 ⟨B1,m1,g1,rfl,hsl,hb10⟩)
 have HB010:Hid (Below V0.heap.size V0 w10):=HB00.out.trans (hb10.mono HB00.out.size);have HBX10:Hid (w10.heap[P]? = _):=(hb10.block _ (Array.getElem?_eq_some_iff.1 HBX0.out).1).trans HBX0.out;have HR1:Hid (∀ V,Below w10.heap.size w10 V→Sl Ty.inc V (all_ V) B1 m1 g1 _):=fun V hV=>hsl.next hV
 clear hb10 hsl x0 x1 x2;have x0:=block_cell HBX10.out 0;have x1:=block_cell HBX10.out 1;have x2:=block_cell HBX10.out 2;go_upto_region 7 with (go_at_call 29;refine(HC2.out w10 HB010.out).mono ?_;rintro e w11 ⟨B2,m2,g2,rfl,hsl,hb11⟩)
 have HB011:Hid (Below V0.heap.size V0 w11):=HB010.out.trans (hb11.mono HB010.out.size);have HBX11:Hid (w11.heap[P]? = _):=(hb11.block _ (Array.getElem?_eq_some_iff.1 HBX10.out).1).trans HBX10.out;have HR2:Hid (∀ V,Below w11.heap.size w11 V→Sl Ty.inc V (all_ V) B2 m2 g2 _):=fun V hV=>hsl.next hV
 have HB1011:Hid (Below w10.heap.size w10 w11):=hb11;clear hb11 hsl x0 x1 x2;have x0:=block_cell HBX11.out 0;have x1:=block_cell HBX11.out 1;have x2:=block_cell HBX11.out 2;go_upto_region 8 with (go_at_call 26;refine(HC3.out w11 HB011.out).mono ?_;rintro e w12 ⟨B3,m3,g3,rfl,hsl,hb12⟩)
 have HB012:Hid (Below V0.heap.size V0 w12):=HB011.out.trans (hb12.mono HB011.out.size);have HBX12:Hid (w12.heap[P]? = _):=(hb12.block _ (Array.getElem?_eq_some_iff.1 HBX11.out).1).trans HBX11.out;have HR3:Hid (∀ V,Below w12.heap.size w12 V→Sl Ty.inc V (all_ V) B3 m3 g3 _):=fun V hV=>hsl.next hV
 have HB1012:Hid (Below w10.heap.size w10 w12):=HB1011.out.trans (hb12.mono HB1011.out.size);have HB1112:Hid (Below w11.heap.size w11 w12):=hb12;clear HB1011 hb12 hsl x0 x1 x2;have x0:=block_cell HBX12.out 0;have x1:=block_cell HBX12.out 1;have x2:=block_cell HBX12.out 2;go_upto_region 9 with (go_at_call 29;refine(HC4.out w12 HB012.out).mono ?_;rintro e w13 ⟨B4,m4,g4,rfl,hsl,hb13⟩)
 have HB013:Hid (Below V0.heap.size V0 w13):=HB012.out.trans (hb13.mono HB012.out.size);have HBX13:Hid (w13.heap[P]? = _):=(hb13.block _ (Array.getElem?_eq_some_iff.1 HBX12.out).1).trans HBX12.out;have HR4:Hid (∀ V,Below w13.heap.size w13 V→Sl Ty.inc V (all_ V) B4 m4 g4 _):=fun V hV=>hsl.next hV
 have HB1013:Hid (Below w10.heap.size w10 w13):=HB1012.out.trans (hb13.mono HB1012.out.size);have HB1113:Hid (Below w11.heap.size w11 w13):=HB1112.out.trans (hb13.mono HB1112.out.size);have HB1213:Hid (Below w12.heap.size w12 w13):=hb13;clear HB1012 HB1112 hb13 hsl x0 x1 x2;clear HC1 HC2 HC3 HC4 HBX13;have q1:(e1==e1)=true:=by simp
 have q2:(i1==i1)=true:=by simp
 have q3:(e2==e2)=true:=by simp
 have q4:(i2==i2)=true:=by simp
 have b12:Hid (Below w10.heap.size w10 w13):=HB1013.out;have b23:Hid (Below w11.heap.size w11 w13):=HB1113.out;have b34:Hid (Below w12.heap.size w12 w13):=HB1213.out;have HQ1:=qH (sameIncs_any xs1 B1 B2 m1 m2 g1 g2 w13 (HR1.out w13 b12.out) (HR2.out w13 b23.out));have HQ2:Hid (∀ V,Below w13.heap.size w13 V→Calls Tryz.prog 27 #[.slice B3 m3 g3,.slice B4 m4 g4] V (TruePost V)):=fun V hV=>sameIncs_any xs2 B3 B4 m3 m4 g3 g4 V (HR3.out V (b34.out.trans (hV.mono b34.out.size))) (HR4.out V hV)
 clear HR1 HR2 HR3 HR4 b12 b23 b34 HB1013 HB1113 HB1213;go_wp2_with (first
  | (go_at_call 27;refine HQ1.out.mono ?_;rintro e w15 ⟨rfl,hb15⟩
     have HB15:=qH hb15;clear hb15 HQ1)
  | (go_at_call 27;refine(HQ2.out w15 HB15.out).mono ?_;rintro e w16 ⟨rfl,hb16⟩
     have HB016:Hid (Below w.heap.size w w16):=HPV.out w16 (HB013.out.trans ((HB15.out.trans (hb16.mono HB15.out.size)).mono HB013.out.size));clear hb16 HQ2)
  | (go_at_call 18;refine(known_any w16 (HPW.out w16 HB016.out) (HGL.out w16 HB016.out)).mono ?_;rintro e wy ⟨rfl,hby⟩
     have HBWy:Hid (Below w.heap.size w wy):=HB016.out.trans (hby.mono HB016.out.size)))
 go_ret
 exact⟨rfl,HBWy.out⟩
end
end Go.Proofs.YtifconapjfdkcaaGreatDoor
