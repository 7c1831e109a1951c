/-
  Joined texts: Lines; IncParse. What each proves stands ahead of it, with its conditions.
-/
import Derived.Test.YtifconapjfdkcaaGreatDoorDAA
import Derived.Test.YtifconapjfdkcaaGreatDoorDAS
import Derived.Test.YtifconapjfdkcaaGreatDoorDAX
import Derived.Test.YtifconapjfdkcaaGreatDoorDBB
import Derived.OwnWalk
set_option linter.unusedSimpArgs false
set_option linter.unusedVariables false
set_option maxRecDepth 100000
set_option maxHeartbeats 12800000
namespace Go.Proofs.YtifconapjfdkcaaGreatDoor
section
open Go.RowKit
def trimB(s:ByteArray):ByteArray:=bs (Lib.trimSuffix s.data.toList [10])
theorem trimB_size(s:ByteArray):(trimB s).size≤s.size:=by
 unfold trimB Lib.trimSuffix;rw[bs_size,Lib.size_eq];split
 ·rw[List.length_take];omega
 ·exact qD _
theorem trim_any(s:ByteArray)(w:World)(hs:s.size≤9223372036854775807) :
 Calls Tryz.prog 96 #[.string s,.string ⟨#[10]⟩] w fun e w'=>e=.returned (.string (trimB s))∧w=w':=by
 refine(Tryz.strings_TrimSuffix s ⟨#[10]⟩ w hs).mono ?_;rintro e w' ⟨rfl,rfl⟩;exact⟨rfl,rfl⟩
theorem pieces_trim(s:ByteArray)(hne:s.size≠0):piecesB 10 (trimB s)=(linesL s.data.toList).map bs:=by
 unfold piecesB trimB;rw[bs_data,linesL_trim];intro e;have:=Lib.size_eq s;rw[e]at this;exact hne this
theorem lines_empty(s:ByteArray)(h:s.size=0):linesL s.data.toList=[]:=by
 have h2:=Lib.size_eq s;rw[List.eq_nil_of_length_eq_zero (l:=s.data.toList) (by omega)];rfl
def LinesPost(s:ByteArray)(w:World)(e:Ending)(w':World):Prop :=
 ∃ A n c,e=.returned (.tuple #[.slice A n c,.int .i64 (linesB s).2])∧Sl Ty.str w' (all_ w') A n c (linesB s).1∧Below w.heap.size w w'
theorem lines_any(s:ByteArray)(w:World)(hs:s.size≤maxLen)(hg:Glo w) :
 Calls Tryz.prog 60 #[.string s] w (LinesPost s w):=by
 unfold maxLen at hs
 by_cases hbig:20000<s.size
 ·have HL:Hid (linesB s=([],10)):=by show linesB s=_;unfold linesB;rw[qR hbig]
  go_enter Tryz.func60,Tryz.ntmps60
  go_wp2_with fail
  go_ret2
  refine⟨none,0,0, ?_, ?_,qC _ _⟩
  ·rw[HL.out];rfl
  ·rw[HL.out];exact Sl.nil0
 ·go_enter Tryz.func60,Tryz.ntmps60
  go_wp2_with fail
  go_loop [11] (fun i => ∃ k:Nat,k≤s.size∧i=.int .i64 k∧Hid (allTo (okByte s) k=true)) (fun i=>s.size-(intOf i).toNat)
  case atStart=>exact⟨0,qV _,rfl,rfl⟩
  case round =>
   obtain⟨k,hk,rfl,HA⟩:=hrel
   by_cases hlt:k<s.size
   ·have HB:=qH (byteAt_eq s k hlt);go_wp2_with fail
    all_goals
     have HB':=HB.out
     first
     | (have hv:okByte s k=true:=by unfold okByte;grind
        go_round
        case rel=>exact⟨k+1,by omega,by go_num,by show allTo _ _=true;rw[allTo_succ,HA.out,hv];rfl⟩
        case measure=>simp[intOf];omega)
     | (have hv:okByte s k=false:=by unfold okByte;grind
        have HL:Hid (linesB s=([],1)):=by show linesB s=_;unfold linesB;rw[qN hbig,qR (allTo_false hlt hv)]
        go_ret2
        refine⟨none,0,0, ?_, ?_,qC _ _⟩
        ·rw[HL.out];rfl
        ·rw[HL.out];exact Sl.nil0)
   ·have hkk:k=s.size:=by omega
    have hall:allTo (okByte s) s.size=true:=by rw[←hkk];exact HA.out
    by_cases h0:s.size=0
    ·have hemp:s.toList.isEmpty=true:=by
      rw[ByteArray.toList_eq,List.isEmpty_iff];exact List.eq_nil_of_length_eq_zero (by rw[←Lib.size_eq];exact h0)
     have HL:Hid (linesB s=([],0)):=by
      show linesB s=_;unfold linesB;rw[qN hbig,qN (by rw[hall];decide),lines_empty s h0,qN (by decide)];rfl
     clear HA hall h0 hkk;go_wp2_with fail
     go_ret2
     refine⟨none,0,0, ?_, ?_,qC _ _⟩
     ·rw[HL.out];rfl
     ·rw[HL.out];exact Sl.nil0
    ·have hemp:s.toList.isEmpty=false:=by
      rw[ByteArray.toList_eq,Bool.eq_false_iff];intro h;rw[List.isEmpty_iff]at h;have:=Lib.size_eq s;rw[h]at this;exact h0 this
     have HP:=qH (pieces_trim s h0);have hpl:=piecesB_le 10 (trimB s);have htb:=trimB_size s;have HL:Hid (linesB s=if 1000<(piecesB 10 (trimB s)).length then ([],10) else (piecesB 10 (trimB s),0)):=by
      show linesB s=_;unfold linesB;rw[qN hbig,qN (by rw[hall];decide),HP.out,List.length_map]
     clear HA hall h0 hkk HP;go_wp2_with fail
     refine(trim_any s _ (by omega)).mono ?_;rintro e w' ⟨rfl,rfl⟩;go_wp2_with fail
     refine(split_any _ _ _ (by omega) hg).mono ?_;rintro e w' ⟨rfl,rfl⟩;generalize hps:piecesB 10 (trimB s)=ps at*;clear hps;have hbl:Below w.heap.size w (w.alloc (.cells (ps.map Value.string).toArray 9)):=(qC _ _).alloc (qD _) _;have HS:Hid (Sl Ty.str (w.alloc (.cells (ps.map Value.string).toArray 9)) (all_ (w.alloc (.cells (ps.map Value.string).toArray 9))) (some ⟨w.heap.size,0,none⟩) ps.length ps.length ps):=by
      refine⟨rfl,qD _,by unfold maxLen;omega,fun _=>⟨_,_,rfl,by unfold all_;simp,fun i x hi=>⟨[.string x],rfl,fun j u hu =>?_⟩⟩⟩;rcases j with _|j
      ·simp at hu;subst hu;simp only[Ty.str,Nat.zero_add,Nat.mul_one,Nat.add_zero];rw[World.cell?_alloc_at _ _ _ _ rfl];simp[hi]
      ·simp at hu
     by_cases h1000:1000<ps.length
     ·go_wp2_with fail
      go_ret2
      refine⟨none,0,0, ?_, ?_,hbl⟩
      ·rw[HL.out,qR h1000];rfl
      ·rw[HL.out,qR h1000];exact Sl.nil0
     ·go_wp2_with fail
      go_ret2
      refine⟨some ⟨w.heap.size,0,none⟩,ps.length,ps.length, ?_, ?_,hbl⟩
      ·rw[HL.out,qN h1000];rfl
      ·rw[HL.out,qN h1000];exact HS.out
end
section
open Go.RowKit
theorem at_ofBlockI{w:World}{g:Nat}{cs:List Value}{T:TypeId}(h:w.heap[g]? = some (.cells cs.toArray T (0,0))):At w g 0 cs:=fun j u hu=>by
 rw[block_cell h,Nat.zero_add];simpa using hu
def IParPost(r:List GInc×Int×Int)(w:World)(e:Ending)(w':World):Prop :=
 ∃ A n c,e=.returned (.tuple #[.slice A n c,.int .i64 r.2.1,.int .i64 r.2.2])∧Sl Ty.inc w' (all_ w') A n c r.1∧Below w.heap.size w w'
theorem fieldsB_lenI(s:ByteArray):(fieldsB s).length≤s.size+1:=by
 unfold fieldsB fieldsL;rw[List.length_map,Lib.size_eq];have h1:=List.length_filter_le (fun f:List UInt8 => !f.isEmpty) (splitL 32 (s.data.toList.takeWhile (fun b=>b != 35)));have h2:=splitL_length 32 (s.data.toList.takeWhile (fun b=>b != 35));have h3:(s.data.toList.takeWhile (fun b=>b != 35)).count 32≤(s.data.toList.takeWhile (fun b=>b != 35)).length:=List.count_le_length;have h4:=takeWhile_len (fun b=>b != 35) s.data.toList;omega
theorem stepI_nil{t:GTT}{s:ByteArray}{l:List GInc}(h:fieldsB s=[]):stepI t s l=(l,0):=by unfold stepI;rw[qR h]
theorem stepI_bad{t:GTT}{s:ByteArray}{l:List GInc}(h : ¬fieldsB s=[])(h2:(lineI t (fieldsB s)).2≠0):stepI t s l=(l,(lineI t (fieldsB s)).2):=by unfold stepI;rw[qN h,qR h2]
theorem stepI_good{t:GTT}{s:ByteArray}{l:List GInc}(h : ¬fieldsB s=[])(h2:(lineI t (fieldsB s)).2=0):stepI t s l=(l++[(lineI t (fieldsB s)).1],0):=by unfold stepI;rw[qN h,qN (by simp[h2])]
theorem incAt_len(t:GTT)(ls:List ByteArray) : ∀ k,(incAt t ls k).length≤k
 | 0=>qD _
 | k+1=>by
  have h:=incAt_len t ls k;show(stepI t (ls.getD k noStr) (incAt t ls k)).1.length≤k+1;unfold stepI;split
  ·show(incAt t ls k).length≤_;omega
  split
  ·show(incAt t ls k).length≤_;omega
  ·show(incAt t ls k++[_]).length≤_;rw[List.length_append];simp;omega
theorem incParse_any(t:GTT)(ps:List GPerson)(s:ByteArray)(A1 A2 A3 A4:Option Addr)(n1 n2 n3 n4 c1 c2 c3 c4:Nat)(w:World)(ht:t.ok)(hp : ∀ p∈ps,p.ok)(hs1:Sl Ty.zone w (all_ w) A1 n1 c1 t.zones)(hs2:Sl Ty.airport w (all_ w) A2 n2 c2 t.airports)(hs3:Sl Ty.flight w (all_ w) A3 n3 c3 t.flights)(hs4:Sl Ty.person w (all_ w) A4 n4 c4 ps)(hs:s.size≤maxLen)(hg:Glo w) :
 Calls Tryz.prog 26 #[.agg #[.slice A1 n1 c1,.slice A2 n2 c2,.slice A3 n3 c3],.slice A4 n4 c4,.string s] w (IParPost (parseI t ps s) w):=by
 have HGL:Hid (∀ V,Below w.heap.size w V→Glo V):=fun V hV=>hg.next hV
 have HSS:=qH hs;have ha:=(qC w.heap.size w).alloc (qD _) (.cells #[.slice A1 n1 c1,.slice A2 n2 c2,.slice A3 n3 c3] 27);have hx0:=qK w (.cells #[.slice A1 n1 c1,.slice A2 n2 c2,.slice A3 n3 c3] 27);have hz0:(w.alloc (.cells #[.slice A1 n1 c1,.slice A2 n2 c2,.slice A3 n3 c3] 27)).heap.size=w.heap.size+1:=by simp
 have HA:=qH ha;have HX0:=qH hx0;have HZ0:=qH hz0;have HS3:Hid (∀ V,Below w.heap.size w V→Sl Ty.flight V (all_ V) A3 n3 c3 t.flights):=fun V hV=>hs3.next hV
 have HV0:Hid (∀ V,Below w.heap.size w V→Calls Tryz.prog 35 #[.agg #[.slice A1 n1 c1,.slice A2 n2 c2,.slice A3 n3 c3],.slice A4 n4 c4] V (ErrPost (crewE t ps) V)):=fun V hV=>crewValidate_any t ps A1 A2 A3 A4 n1 n2 n3 n4 c1 c2 c3 c4 V ht hp (hs1.next hV) (hs2.next hV) (hs3.next hV) (hs4.next hV)
 have HVI:Hid (∀ (l:List GInc) (A5:Option Addr) (n5 c5:Nat) (V:World),Below w.heap.size w V→Sl Ty.inc V (all_ V) A5 n5 c5 l→Calls Tryz.prog 16 #[.agg #[.slice A1 n1 c1,.slice A2 n2 c2,.slice A3 n3 c3],.slice A4 n4 c4,.slice A5 n5 c5] V (ErrPost (incE t ps l) V)):=fun l A5 n5 c5 V hV h5=>incValidate_any t ps l A1 A2 A3 A4 A5 n1 n2 n3 n4 n5 c1 c2 c3 c4 c5 V ht hp (hs1.next hV) (hs2.next hV) (hs3.next hV) (hs4.next hV) h5
 have HBAD:Hid (∀ (W':World) (ln x:Int),parseI t ps s=([],ln,x)→Below w.heap.size w W'→IParPost (parseI t ps s) w (.returned (.tuple #[.slice none 0 0,.int .i64 ln,.int .i64 x])) W'):=fun W' ln x he hb=>by
  rw[he];exact⟨none,0,0,rfl,Sl.nil0,hb⟩
 have HT1:Hid (crewE t ps≠0→parseI t ps s=([],0,crewE t ps)):=fun h=>by show _=_;unfold parseI;rw[qR h]
 have HT2:Hid (crewE t ps=0→(linesB s).2≠0→parseI t ps s=([],0,(linesB s).2)):=fun h0 h=>by show _=_;unfold parseI;rw[qN (by simp[h0]),qR h]
 have HPE0:Hid (crewE t ps=0→(linesB s).2=0 → ∀ k:Nat,k<(linesB s).1.length→incErr t (linesB s).1 k≠0→(∀ j,j<k→incErr t (linesB s).1 j=0)→parseI t ps s=([],(k:Int)+1,incErr t (linesB s).1 k)):=fun h0 h k h1 h2 h3=>parseI_err h0 h h1 h2 h3
 have HPA0:Hid (crewE t ps=0→(linesB s).2=0→(∀ j,j<(linesB s).1.length→incErr t (linesB s).1 j=0)→parseI t ps s=if incE t ps (incAt t (linesB s).1 (linesB s).1.length)≠0 then ([],0,incE t ps (incAt t (linesB s).1 (linesB s).1.length)) else (incAt t (linesB s).1 (linesB s).1.length,0,0)):=fun h0 h hn=>parseI_all h0 h hn
 clear ha hx0 hz0 hg hs hs1 hs2 hs3 hs4 ht hp;generalize parseI t ps s=R at*
 go_enter Tryz.func26,Tryz.ntmps26
 go_upto_region 1 with (fail)
 generalize w.alloc (.cells #[.slice A1 n1 c1,.slice A2 n2 c2,.slice A3 n3 c3] 27)=W at*;have t0:=block_cell HX0.out 0;have t1:=block_cell HX0.out 1;have t2:=block_cell HX0.out 2;go_wp2_with fail
 refine(HV0.out W HA.out).mono ?_;rintro e w1 ⟨rfl,hb1⟩;have HB1:Hid (Below w.heap.size w w1):=HA.out.trans (hb1.mono HA.out.size);have HX1:Hid (w1.heap[w.heap.size]? = _):=(hb1.block _ (by have:=HZ0.out;omega)).trans HX0.out;have hz1:w.heap.size+1≤w1.heap.size:=by have:=hb1.size;have:=HZ0.out;omega
 clear t0 t1 t2 hb1 HX0 HZ0 HA HV0
 by_cases hc:crewE t ps=0
 case neg =>
  have hc':(crewE t ps==0)=false:=by simpa using hc
  have HR:=qH (HT1.out hc);generalize crewE t ps=er at*;clear hc;go_wp2_with fail
  go_ret3
  exact HBAD.out _ _ _ HR.out HB1.out
 have HT2:=qH (HT2.out hc);have HPE0:=qH (HPE0.out hc);have HPA0:=qH (HPA0.out hc);rw[hc];clear hc HT1;go_wp2_with fail
 refine(lines_any s w1 HSS.out (HGL.out w1 HB1.out)).mono ?_;rintro e w2 ⟨Al,nl,cl,rfl,hsl,hb2⟩;have hbw2:Below w.heap.size w w2:=HB1.out.trans (hb2.mono HB1.out.size);have hx2:=(hb2.block w.heap.size (by omega)).trans HX1.out;have hz2:w.heap.size+1≤w2.heap.size:=by have:=hb2.size;omega
 have HX2:Hid (∀ V,Below w2.heap.size w2 V→V.heap[w.heap.size]? = some (.cells #[.slice A1 n1 c1,.slice A2 n2 c2,.slice A3 n3 c3] 27 (0,0))):=fun V hV=>(hV.block _ (by omega)).trans hx2
 have HBW2:=qH hbw2;clear hb2 hbw2 hx2 HX1 HB1
 by_cases he:(linesB s).2=0
 case neg =>
  have he':((linesB s).2==0)=false:=by simpa using he
  have HR:=qH (HT2.out he);generalize (linesB s).2=er at*;clear he;go_wp2_with fail
  go_ret3
  exact HBAD.out _ _ _ HR.out HBW2.out
 have HPE:=qH (HPE0.out he);have HPA:=qH (HPA0.out he);rw[he];have HLM:Hid (∀ f∈(linesB s).1,f.size≤20000):=fun f hf=>by have:=linesB_mem hf;omega
 have hll:=linesB_len s;clear he HT2 HPE0 HPA0;generalize (linesB s).1=ls at*;have hnl:=hsl.len;subst hnl;have HSL:Hid (∀ V,Below w2.heap.size w2 V→Sl Ty.str V (all_ V) Al ls.length cl ls):=fun V hV=>hsl.next hV
 clear hsl;go_wp2_with fail
 go_loopw [6,7,8,33] (fun v _ _ i wr => ∃ k:Nat,k≤ls.length∧i=.int .i64 k∧Hid (Own Ty.inc 59 wr w2.heap.size v (incAt t ls k))∧Hid (Below w2.heap.size w2 wr)∧Hid (∀ j,j<k→incErr t ls j=0)) (fun _ _ _ i _=>ls.length-(intOf i).toNat)
 case atStart=>exact⟨0,qV _,rfl,Own.nil,qC _ _,fun j hj=>absurd hj (by omega)⟩
 case round =>
  obtain⟨k,hk,rfl,HOW,HBR,HNE⟩:=hrel;obtain⟨A9,c9,rfl, -⟩:=HOW.out.sl;have hle9:=incAt_len t ls k
  by_cases hlt:k<ls.length
  ·have hlt':(k:Int)<(ls.length:Int):=by omega
   obtain⟨lb,lo2,rfl, -,hcl⟩:=(HSL.out wr HBR.out).str_at hlt;have hge:ls[k]=ls.getD k noStr:=by rw[qF,qG hlt];rfl
   rw[hge]at hcl;have hsz:(ls.getD k noStr).size≤20000:=HLM.out _ (by rw[←hge];exact List.getElem_mem hlt);have HWR:Hid (Below w.heap.size w wr):=HBW2.out.trans (HBR.out.mono (by omega));have HFO:=qH (fields_own (ls.getD k noStr) wr (by omega) (HGL.out wr HWR.out));have HFM:Hid (∀ x∈fieldsB (ls.getD k noStr),x.size≤20000):=fun x hx=>by have:=fieldsB_mem hx;omega
   have HFL:Hid ((fieldsB (ls.getD k noStr)).length≤100000):=by
    have:=fieldsB_lenI (ls.getD k noStr);show _≤_;omega
   have HSU:Hid (incAt t ls (k+1)=(stepI t (ls.getD k noStr) (incAt t ls k)).1):=rfl;have HSE:Hid (incErr t ls k=(stepI t (ls.getD k noStr) (incAt t ls k)).2):=rfl;have HNIL:=qH (stepI_nil (t:=t) (s:=ls.getD k noStr) (l:=incAt t ls k));have HSB:=qH (stepI_bad (t:=t) (s:=ls.getD k noStr) (l:=incAt t ls k));have HSG:=qH (stepI_good (t:=t) (s:=ls.getD k noStr) (l:=incAt t ls k));have HEK:=qH (HPE.out k hlt);generalize ls.getD k noStr=ln at*;generalize incAt t ls k=xs at*;clear hsz hge;go_wp2_with fail
   refine HFO.out.mono ?_;rintro e wf ⟨vf,rfl,hof,hbf⟩;obtain⟨Af,cf,rfl,hslf⟩:=hof.sl;have HOF:Hid (Own Ty.inc 59 wf w2.heap.size (.slice A9 xs.length c9) xs):=HOW.out.next hbf;have HBF:Hid (Below w2.heap.size w2 wf):=HBR.out.trans (hbf.mono HBR.out.size);have HWF:Hid (Below w.heap.size w wf):=HWR.out.trans (hbf.mono HWR.out.size);have HSLF:Hid (Sl Ty.str wf (all_ wf) Af (fieldsB ln).length cf (fieldsB ln)):=hslf.more fun q hq=>hq.2
   have q0:=HX2.out wf HBF.out;have t0:=block_cell q0 0;have t1:=block_cell q0 1;have t2:=block_cell q0 2;clear hof hslf hbf hcl HFO HOW HBR HWR q0;generalize fieldsB ln=fs at*
   by_cases hfs:fs=[]
   ·have hl0:((fs.length:Int)==0)=true:=by rw[hfs];rfl
    have HE:=qH (HNIL.out hfs);have HN1:Hid (∀ j,j<k+1→incErr t ls j=0):=fun j hj=>by
     rcases Nat.lt_or_eq_of_le (Nat.le_of_lt_succ hj) with h|h
     ·exact HNE.out j h
     ·subst h;rw[HSE.out,HE.out]
    have HA1:Hid (incAt t ls (k+1)=xs):=by show _=_;rw[HSU.out,HE.out]
    clear hfs;go_wp2_with fail
    go_roundw
    case rel=>exact⟨k+1,by omega,by go_num,by rw[HA1.out];exact HOF,HBF,HN1⟩
    case measure=>simp[intOf];omega
   have hl0:((fs.length:Int)==0)=false:=by
    have:=List.length_pos_iff.2 hfs;simp;omega
   have HLN:=qH (incLine_any t fs A1 A2 A3 Af n1 n2 n3 fs.length c1 c2 c3 cf wf (HS3.out wf HWF.out) HSLF.out (List.length_pos_iff.2 hfs) HFM.out);have HSB:=qH (HSB.out hfs);have HSG:=qH (HSG.out hfs);clear hfs HNIL HSLF;unfold LinPost incVal at HLN;generalize lineI t fs=r at*;obtain⟨x,er⟩:=r;simp only at HLN HSB HSG;go_wp2_with fail
   refine HLN.out.mono ?_;rintro e w5 ⟨rfl,hb5⟩;have HO5:Hid (∀ oo,Own Ty.inc 59 (w5.alloc oo) w2.heap.size (.slice A9 xs.length c9) xs):=fun oo=>(HOF.out.next hb5).alloc oo
   have HB5:Hid (∀ oo,Below w2.heap.size w2 (w5.alloc oo)):=fun oo=>(HBF.out.trans (hb5.mono HBF.out.size)).alloc (by have:=hb5.size;have:=HBF.out.size;omega) oo
   have HW5:Hid (∀ oo,Below w.heap.size w (w5.alloc oo)):=fun oo=>HBW2.out.trans ((HB5.out oo).mono (by omega))
   clear HLN HOF HBF HWF hb5 t0 t1 t2
   by_cases her:er=0
   ·subst her;have HE:=qH (HSG.out rfl);have HN1:Hid (∀ j,j<k+1→incErr t ls j=0):=fun j hj=>by
     rcases Nat.lt_or_eq_of_le (Nat.le_of_lt_succ hj) with h|h
     ·exact HNE.out j h
     ·subst h;rw[HSE.out,HE.out]
    have HA1:Hid (incAt t ls (k+1)=xs++[x]):=by show _=_;rw[HSU.out,HE.out]
    obtain⟨kd,fl,mi,ai,pe,⟨s1,s2⟩⟩:=x;simp only;have HX5:=qH (qK w5 (.cells #[.int .i64 kd,.int .i64 fl,.int .i64 mi,.string ai,.int .i64 pe,.int .i64 s1,.int .i64 s2] 59));clear HSB HSG;go_upto_region 15 with (fail)
    have HO6:=qH (HO5.out (.cells #[.int .i64 kd,.int .i64 fl,.int .i64 mi,.string ai,.int .i64 pe,.int .i64 s1,.int .i64 s2] 59));have HB6:=qH (HB5.out (.cells #[.int .i64 kd,.int .i64 fl,.int .i64 mi,.string ai,.int .i64 pe,.int .i64 s1,.int .i64 s2] 59));generalize w5.alloc (.cells #[.int .i64 kd,.int .i64 fl,.int .i64 mi,.string ai,.int .i64 pe,.int .i64 s1,.int .i64 s2] 59)=w6 at*;have y0:=block_cell HX5.out 0;have y1:=block_cell HX5.out 1;have y2:=block_cell HX5.out 2;have y3:=block_cell HX5.out 3;have y4:=block_cell HX5.out 4;have y5:=block_cell HX5.out 5;have y6:=block_cell HX5.out 6;have hsz6:=HB6.out.size;have HO7:Hid (∀ oo,Own Ty.inc 59 (w6.alloc oo) w2.heap.size (.slice A9 xs.length c9) xs):=fun oo=>HO6.out.alloc oo
    have HB7:Hid (∀ oo,Below w2.heap.size w2 (w6.alloc oo)):=fun oo=>HB6.out.alloc hsz6 oo
    have HAT:Hid (At (w6.alloc (.cells #[.int .i64 kd,.int .i64 fl,.int .i64 mi,.string ai,.int .i64 pe,.int .i64 s1,.int .i64 s2] 59)) w6.heap.size 0 (incCells ⟨kd,fl,mi,ai,pe,⟨s1,s2⟩⟩)):=at_ofBlockI (qK _ _);clear HO5 HB5 HW5 HX5 HO6 HB6;go_wp2_with (at_builtin;refine wpList_push (t:=Ty.inc) rfl _ _ _ rfl 64 elem_inc rfl (HO7.out _) w6.heap.size ⟨kd,fl,mi,ai,pe,⟨s1,s2⟩⟩ (fun _=>False) rfl ⟨_,rfl,HAT.out⟩ (fun _ h=>h.elim) ?c1 (by decide) ?c2 ?_)
    case c1=>omega
    case c2=>first|omega|(simp;omega)
    intro v' w7 hown7 hg7;have hb7:Hid (Below w2.heap.size w2 w7):=(HB7.out _).grown hg7 (by simp;omega) (fun j hj=>(HO7.out (.cells #[] 0)).lt j hj |>.1);rw[←HA1.out]at hown7;have HO9:=qH hown7;clear HO7 HB7 HAT hown7 hg7 y0 y1 y2 y3 y4 y5 y6;go_wp2_with fail
    go_roundw
    case rel=>exact⟨k+1,by omega,by go_num,HO9,hb7,HN1⟩
    case measure=>simp[intOf];omega
   ·have her':(er==0)=false:=by simpa using her
    have HE:=qH (HSB.out her);have HEK2:Hid (R=([],(k:Int)+1,er)):=by
     have h9:incErr t ls k=er:=by rw[HSE.out,HE.out]
     have:=HEK.out (by rw[h9];exact her) HNE.out;show _=_;rw[this,h9]
    have hwrap:IntKind.i64.wrap ((k:Int)+1)=(k:Int)+1:=qM _ (by omega);obtain⟨kd,fl,mi,ai,pe,⟨s1,s2⟩⟩:=x;simp only;clear her HSB HSG HEK;go_wp2_with fail
    go_ret3
    exact HBAD.out _ _ _ HEK2.out (HW5.out _)
  ·have hkl:k=ls.length:=by omega
   subst hkl;have hge : ¬(ls.length:Int)<(ls.length:Int):=by omega
   have HPAX:=qH (HPA.out HNE.out);obtain⟨A9',c9',he9,hsl9⟩:=HOW.out.sl;injection he9 with e1 e2 e3
   subst e1 e3;have HWR:Hid (Below w.heap.size w wr):=HBW2.out.trans (HBR.out.mono (by omega));generalize incAt t ls ls.length=xs at*;have HV:=qH (HVI.out xs A9 xs.length c9 wr HWR.out (hsl9.more fun q hq=>hq.2));have HSX:Hid (∀ V,Below wr.heap.size wr V→Sl Ty.inc V (all_ V) A9 xs.length c9 xs):=fun V hV=>(hsl9.more fun q hq=>hq.2).next hV
   have q0:=HX2.out wr HBR.out;have t0:=block_cell q0 0;have t1:=block_cell q0 1;have t2:=block_cell q0 2;clear q0 hsl9 HOW HNE hlt hk;go_wp2_with fail
   refine HV.out.mono ?_;rintro e w6 ⟨rfl,hb6⟩;have HB6:Hid (Below w.heap.size w w6):=HWR.out.trans (hb6.mono HWR.out.size);have HS6:=qH (HSX.out w6 hb6);clear t0 t1 t2 hb6 HV HSX;generalize incE t ps xs=ce at*
   by_cases hce:ce=0
   ·have HR:Hid (R=(xs,0,0)):=by show _=_;rw[HPAX.out,qN (by simp[hce])]
    subst hce;go_wp2_with fail
    go_ret3
    rw[HR.out];exact⟨_,_,_,rfl,HS6.out,HB6.out⟩
   ·have hne:(ce==0)=false:=by simpa using hce
    have HR:Hid (R=([],0,ce)):=by show _=_;rw[HPAX.out,qR hce]
    clear hce HPAX;go_wp2_with fail
    go_ret3
    exact HBAD.out _ _ _ HR.out HB6.out
end
end Go.Proofs.YtifconapjfdkcaaGreatDoor
