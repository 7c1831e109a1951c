/-
  Joined texts: RefInc2; LawValidates. What each proves stands ahead of it, with its conditions.
-/
import Derived.Test.YtifconapjfdkcaaGreatDoorWAD
import Derived.Test.YtifconapjfdkcaaGreatDoorWAA
import Derived.Test.YtifconapjfdkcaaGreatDoorProg
import Derived.WalkKit
import Derived.WalkLawsBesides
import Derived.WalkSpells
import Derived.Lib.Hide
import Derived.Maps.AppendAt
import Derived.ProofKit
import Derived.Deep.Slices
import Derived.Lib.SplitLaws
import Derived.Lib.IndexMore
import Derived.Lib.Strings
import Derived.Deep.QuietTactic
import Derived.BigQuiet
import Derived.IntWalk
import Derived.Maps.OwnOps
import Derived.Maps.Views
import Derived.StillTailTactics
import Derived.Deep.RegionWith
import Derived.Lib.AppendStr
import Derived.Laws.Rows
import Derived.Laws.Tables
import Derived.StillTail
import Derived.RegionTactic
import Derived.Deep.DeepCutAuto
import Derived.Sort.LotA
import Derived.Sort.Walk0
import Derived.Shelf.Strings.Builder1
import Derived.Shelf.Strings.Builder2
import Derived.Shelf.Small.Strs
import Derived.Shelf.Strings.BuilderF
import Derived.Shelf.Strconv.Itoa0
import Derived.Shelf.Strconv.Itoa1
import Derived.Shelf.LaysM
import Derived.Shelf.Strconv.Itoa2
import Derived.Shelf.Strconv.Itoa3
import Derived.Shelf.Strings.Search1
import Derived.Shelf.Strings.Search2
import Derived.Shelf.Strings.Search3
import Derived.Shelf.Strings.Cut
import Derived.Shelf.Strings.Count
import Derived.Shelf.Strings.Shaped
import Derived.Shelf.Strings.Prefix
import Derived.Shelf.Strings.Split
import Derived.Shelf.Strings.SplitShaped
import Derived.Shelf.Bits.Mul64
import Derived.Shelf.Strings.Repeat
import Derived.Shelf.Unicode.DecodeSlow
import Derived.Ground.SlsfProg
import Derived.Shelf.SlSortCmp.Insertion
import Derived.Shelf.SlSortCmp.Insertion1
import Derived.Test.YtifconapjfdkcaaGreatDoorWAB
import Derived.Lib.Bytealg
import Derived.Sort.OwnSortedInts
import Derived.Sort.WalkA
import Derived.Deep.OwnRows
import Derived.Laws.Strings
import Derived.Scope
import Derived.Laws.Sem
import Derived.Deep.CutBlock
import Derived.Lib.ItoaNum
import Derived.Laws.Externs
import Derived.OwnWalk
import Derived.Sort.Grow
import Derived.Deep.RegionLaw
import Derived.ChangeKeysEq
import Derived.Test.YtifconapjfdkcaaGreatDoorWAC
import Derived.Test.YtifconapjfdkcaaGreatDoorDAA
import Derived.Test.YtifconapjfdkcaaGreatDoorDAB
import Derived.Test.YtifconapjfdkcaaGreatDoorDAC
import Derived.Test.YtifconapjfdkcaaGreatDoorDAD
import Derived.Test.YtifconapjfdkcaaGreatDoorDAE
import Derived.Test.YtifconapjfdkcaaGreatDoorDAF
import Derived.Test.YtifconapjfdkcaaGreatDoorDAG
import Derived.Test.YtifconapjfdkcaaGreatDoorDAH
import Derived.Test.YtifconapjfdkcaaGreatDoorDAI
import Derived.Test.YtifconapjfdkcaaGreatDoorDAJ
import Derived.Test.YtifconapjfdkcaaGreatDoorDAK
import Derived.Test.YtifconapjfdkcaaGreatDoorDAL
import Derived.Test.YtifconapjfdkcaaGreatDoorDAM
import Derived.Test.YtifconapjfdkcaaGreatDoorDAN
import Derived.Test.YtifconapjfdkcaaGreatDoorDAO
import Derived.Test.YtifconapjfdkcaaGreatDoorDAP
import Derived.Test.YtifconapjfdkcaaGreatDoorDAQ
import Derived.Test.YtifconapjfdkcaaGreatDoorDAR
import Derived.Test.YtifconapjfdkcaaGreatDoorDAS
import Derived.Test.YtifconapjfdkcaaGreatDoorDAT
import Derived.Test.YtifconapjfdkcaaGreatDoorDAU
import Derived.Test.YtifconapjfdkcaaGreatDoorDAV
import Derived.Test.YtifconapjfdkcaaGreatDoorDAW
import Derived.Test.YtifconapjfdkcaaGreatDoorDAX
import Derived.Test.YtifconapjfdkcaaGreatDoorDAY
import Derived.Test.YtifconapjfdkcaaGreatDoorDAZ
import Derived.Test.YtifconapjfdkcaaGreatDoorDBA
import Derived.Test.YtifconapjfdkcaaGreatDoorDBB
import Derived.Test.YtifconapjfdkcaaGreatDoorDBC
import Derived.Test.YtifconapjfdkcaaGreatDoorDBD
import Derived.Test.YtifconapjfdkcaaGreatDoorDBE
import Derived.Test.YtifconapjfdkcaaGreatDoorDBF
import Derived.Test.YtifconapjfdkcaaGreatDoorDBG
import Derived.Test.YtifconapjfdkcaaGreatDoorDBH
import Derived.Test.YtifconapjfdkcaaGreatDoorDBI
import Derived.Test.YtifconapjfdkcaaGreatDoorDBJ
set_option linter.unusedSimpArgs false
set_option linter.unusedVariables false
set_option maxRecDepth 100000
set_option maxHeartbeats 12800000
namespace Go.Proofs.YtifconapjfdkcaaGreatDoor
section
open Go.RowKit
theorem empty_beq(a:ByteArray):(a.toList==[])=decide (a=noStr):=by
 rw[Bool.eq_iff_iff,beq_iff_eq,qL,noStr_iff]
theorem incE1_of2{t:GTT}{ps:List GPerson}{x:GInc}(h:incE2 t x≠0):incE1 t ps x=incE2 t x:=by
 unfold incE2 incE1 at*;split
 ·rfl
 rename_i hk;rw[qN hk]at h;split
 ·rename_i h4;rw[qR h4]at h;exact absurd rfl h
 ·rename_i h4;rw[qN h4]at h;rw[qR h]
theorem validate40_any(t:GTT)(ps:List GPerson)(l:List GInc)(A1 A2 A3 A4 A5:Option Addr)(n1 n2 n3 n4 n5 c1 c2 c3 c4 c5:Nat)(w:World)(ht:t.ok)(hp : ∀ p∈ps,p.ok)(hs1:Sl Ty.zone w (all_ w) A1 n1 c1 t.zones)(hs2:Sl Ty.airport w (all_ w) A2 n2 c2 t.airports)(hs3:Sl Ty.flight w (all_ w) A3 n3 c3 t.flights)(hs4:Sl Ty.person w (all_ w) A4 n4 c4 ps)(hs5:Sl Ty.inc w (all_ w) A5 n5 c5 l) :
 Calls Tryz.prog 17 #[.agg #[.slice A1 n1 c1,.slice A2 n2 c2,.slice A3 n3 c3],.slice A4 n4 c4,.slice A5 n5 c5] w (ErrPost (incE t ps l) w):=by
 have hn1:n5≤l.length:=Nat.le_of_eq hs5.len;have hn2:l.length≤n5:=Nat.le_of_eq hs5.len.symm;have hle:=hs5.le;unfold maxLen at hle;have hb0:=(qC w.heap.size w).alloc (qD _) (.cells #[.slice A1 n1 c1,.slice A2 n2 c2,.slice A3 n3 c3] 27);have hr0:=qK w (.cells #[.slice A1 n1 c1,.slice A2 n2 c2,.slice A3 n3 c3] 27);have hz0:(w.alloc (.cells #[.slice A1 n1 c1,.slice A2 n2 c2,.slice A3 n3 c3] 27)).heap.size=w.heap.size+1:=by simp
 have HV:=qH (validateCrewR_any t ps A1 A2 A3 A4 n1 n2 n3 n4 c1 c2 c3 c4 _ ht hp (hs1.next hb0) (hs2.next hb0) (hs3.next hb0) (hs4.next hb0));have HS2:Hid (∀ V,Below w.heap.size w V→Sl Ty.airport V (all_ V) A2 n2 c2 t.airports):=fun V hV=>hs2.next hV
 have HS3:Hid (∀ V,Below w.heap.size w V→Sl Ty.flight V (all_ V) A3 n3 c3 t.flights):=fun V hV=>hs3.next hV
 have HS4:Hid (∀ V,Below w.heap.size w V→Sl Ty.person V (all_ V) A4 n4 c4 ps):=fun V hV=>hs4.next hV
 have HS5:Hid (∀ V,Below w.heap.size w V→Sl Ty.inc V (all_ w) A5 n5 c5 l):=fun V hV=>hs5.keep (all_keep hV)
 have HB0:=qH hb0;have HR0:=qH hr0;have HZ0:=qH hz0;have HR:Hid ((crewE t ps≠0→incE t ps l=crewE t ps)∧(crewE t ps=0→32<l.length→incE t ps l=10) ∧
  (crewE t ps=0→l.length≤32 → ∀ k,k<l.length→zeroTo (fun i=>incE1 t ps (l.getD i noInc)) k→incE1 t ps (l.getD k noInc)≠0→incE t ps l=incE1 t ps (l.getD k noInc)) ∧
  (crewE t ps=0→l.length≤32→zeroTo (fun i=>incE1 t ps (l.getD i noInc)) l.length→incE t ps l=0)) :=
  ⟨fun h=>by unfold incE;exact qR h,fun h h2=>by unfold incE;rw[qN (by rw[h];simp),qR h2],fun h0 h1 k hk hz hv=>incE_hit h0 h1 hk hz hv,fun h0 h1 hz=>incE_none h0 h1 hz⟩
 clear hs1 hs2 hs3 hs4 hs5 hb0 hr0 hz0 ht hp;generalize incE t ps l=res at*;generalize hce:crewE t ps=ce at*
 go_enter Tryz.func17,Tryz.ntmps17
 go_wp2_with fail
 generalize w.alloc (.cells #[.slice A1 n1 c1,.slice A2 n2 c2,.slice A3 n3 c3] 27)=W at*;refine HV.out.mono ?_;clear HV;rintro e w1 ⟨rfl,hb1⟩;have hw1:Below w.heap.size w w1:=HB0.out.trans (hb1.mono (by have:=HZ0.out;omega));have HT1:Hid (w1.heap[w.heap.size]? = some (.cells #[.slice A1 n1 c1,.slice A2 n2 c2,.slice A3 n3 c3] 27 (0,0))):=(hb1.block _ (by have:=HZ0.out;omega)).trans HR0.out;have hsz1:w.heap.size<w1.heap.size:=by have:=HZ0.out;have:=hb1.size;omega
 have HW1:=qH hw1;clear hb1 HB0 HR0 HZ0 hw1
 by_cases hc:ce=0
 case neg =>
  have hc':(ce != 0)=true:=by simpa using hc
  have HF:=qH (HR.out.1 hc);clear hc;go_wp2_with fail
  go_ret
  exact⟨by rw[HF.out];rfl,HW1.out⟩
 have hc':(ce != 0)=false:=by simpa using hc
 have HR2:Hid _:=HR.out.2.1 hc;have HR3:Hid _:=HR.out.2.2.1 hc;have HR4:Hid _:=HR.out.2.2.2 hc;subst hc;clear HR
 by_cases hlen:32<n5
 ·have HF:=qH (HR2.out (by omega));go_wp2_with fail
  go_ret
  exact⟨by rw[HF.out];rfl,HW1.out⟩
 have HR3':Hid _:=HR3.out (by omega);have HR4':Hid _:=HR4.out (by omega);clear HR2 HR3 HR4;go_wp2_with fail
 go_loopw [8] (fun s wr => ∃ k:Nat,k≤n5∧s=.int .i64 k∧Below w.heap.size w wr∧w.heap.size<wr.heap.size∧Hid (wr.heap[w.heap.size]? = some (.cells #[.slice A1 n1 c1,.slice A2 n2 c2,.slice A3 n3 c3] 27 (0,0)))∧Hid (zeroTo (fun i=>incE1 t ps (l.getD i noInc)) k)) (fun s _=>n5-(intOf s).toNat)
 case atStart=>exact⟨0,qV _,rfl,HW1.out,hsz1,HT1,zeroTo_zero _⟩
 case round =>
  obtain⟨k,hk,rfl,hbr,hsz,HT,HK⟩:=hrel;clear HW1 HT1 hsz1
  by_cases hlt:k<n5
  ·have hks:k<l.length:=by omega
   obtain⟨b,o,rfl,hbS,hat⟩:=(HS5.out wr hbr).inc_at hks;have HE:Hid (incE1 t ps (l.getD k noInc)≠0→res=incE1 t ps (l.getD k noInc)):=fun h=>HR3'.out k hks HK.out h
   have HM:Hid (incE1 t ps (l.getD k noInc)=0→zeroTo (fun i=>incE1 t ps (l.getD i noInc)) (k+1)):=fun h=>zeroTo_succ HK.out h
   have z0:=hat 0 _ rfl;rw[Nat.add_zero]at z0;have z1:=hat 1 _ rfl;have z2:=hat 2 _ rfl;have z3:=hat 3 _ rfl;have z4:=hat 4 _ rfl;have z5:=hat 5 _ rfl;have z6:=hat 6 _ rfl;clear hat HK;generalize l.getD k noInc=x at*;obtain⟨kind,fl,mi,ai,pe,⟨s1,s2⟩⟩:=x;simp only at z0 z1 z2 z3 z4 z5 z6;have hbx:=(qC wr.heap.size wr).alloc (qD _) (.cells #[.int .i64 kind,.int .i64 fl,.int .i64 mi,.string ai,.int .i64 pe,.int .i64 s1,.int .i64 s2] 59);have hrx:=qK wr (.cells #[.int .i64 kind,.int .i64 fl,.int .i64 mi,.string ai,.int .i64 pe,.int .i64 s1,.int .i64 s2] 59);have hzx:(wr.alloc (.cells #[.int .i64 kind,.int .i64 fl,.int .i64 mi,.string ai,.int .i64 pe,.int .i64 s1,.int .i64 s2] 59)).heap.size=wr.heap.size+1:=by simp
   have htx:=(Below.heap_alloc wr (.cells #[.int .i64 kind,.int .i64 fl,.int .i64 mi,.string ai,.int .i64 pe,.int .i64 s1,.int .i64 s2] 59) _ hsz).trans HT.out;have hwx:Below w.heap.size w (wr.alloc (.cells #[.int .i64 kind,.int .i64 fl,.int .i64 mi,.string ai,.int .i64 pe,.int .i64 s1,.int .i64 s2] 59)):=hbr.trans (hbx.mono hbr.size);have HRX:=qH hrx;have HZX:=qH hzx;have HTX:=qH htx;have HWX:=qH hwx;have x0:=block_cell htx 0;have x1:=block_cell htx 1;have x2:=block_cell htx 2;clear hbx hrx hzx htx hwx;have HE5:Hid (∀ v:Int,incE1 t ps ⟨kind,fl,mi,ai,pe,⟨s1,s2⟩⟩=v→v≠0→res=v):=fun v h1 h2=>by rw[←h1];exact HE.out (by rw[h1];exact h2)
   have HF4:=qH (flight40_any t ⟨kind,fl,mi,ai,pe,⟨s1,s2⟩⟩ A1 A2 A3 n1 n2 n3 c1 c2 c3 _ (HS2.out _ HWX.out) (HS3.out _ HWX.out));have HEE:=qH (incE1_of2 (t:=t) (ps:=ps) (x:=⟨kind,fl,mi,ai,pe,⟨s1,s2⟩⟩));have HE0:=qH (incE2_flight (t:=t) (x:=⟨kind,fl,mi,ai,pe,⟨s1,s2⟩⟩));clear HE;generalize hfe:incE2 t ⟨kind,fl,mi,ai,pe,⟨s1,s2⟩⟩=fe at*;go_wp2_with fail
   clear z0 z1 z2 z3 z4 z5 z6 x0 x1 x2;generalize wr.alloc (.cells #[.int .i64 kind,.int .i64 fl,.int .i64 mi,.string ai,.int .i64 pe,.int .i64 s1,.int .i64 s2] 59)=X at*;refine HF4.out.mono ?_;rintro e w2 ⟨rfl,hb2⟩;have HW2:Hid (Below w.heap.size w w2):=HWX.out.trans (hb2.mono HWX.out.size);have hz2:=hb2.size;have hzx:=HZX.out;have HR2:Hid (w2.heap[wr.heap.size]? = _):=(hb2.block _ (by omega)).trans HRX.out;have HT2:Hid (w2.heap[w.heap.size]? = _):=(hb2.block _ (by omega)).trans HTX.out;have hsz2:w.heap.size<w2.heap.size:=by omega
   clear HF4 hb2 HRX HTX HWX HZX hzx hz2
   by_cases hfz:fe=0
   case neg =>
    have hfe':(fe != 0)=true:=by simpa using hfz
    have HF:Hid (res=fe):=HE5.out fe (HEE.out hfz) hfz;clear hfz;go_wp2_with fail
    go_ret
    exact⟨by rw[HF.out];rfl,HW2.out⟩
   have hfe':(fe != 0)=false:=by simpa using hfz
   subst hfz;obtain⟨hk1,hk2,hk3⟩:=HE0.out rfl
   try simp only at hk1 hk2 hk3
   clear HEE HE0 hfe;have y0:=block_cell HR2.out 0;have y1:=block_cell HR2.out 1;have y2:=block_cell HR2.out 2;have y3:=block_cell HR2.out 3;have y4:=block_cell HR2.out 4;have y5:=block_cell HR2.out 5;have y6:=block_cell HR2.out 6;have HEB:=qH (empty_beq ai);have HSP:=qH (span40_any s1 s2);have HPI:=qH (fun V hV=>personIndex_any ps A4 n4 c4 pe (all_ V) V (HS4.out V hV))
   by_cases hk4:kind=4
   case pos =>
    subst hk4;have HI:Hid (incE1 t ps ⟨4,fl,mi,ai,pe,⟨s1,s2⟩⟩=if hasI (pIds ps) pe=false then 6 else if vacOk ⟨s1,s2⟩=false then 5 else if shapedI ⟨4,fl,mi,ai,pe,⟨s1,s2⟩⟩=false then 12 else 0):=by
     show _=_;unfold incE1;rw[qN (show ¬((4:Int)<1∨4<(4:Int)) by decide),qR rfl]
    clear hk3;go_wp2_with fail
    go_quiet (fail)
    go_wp2_with fail
    refine(HPI.out _ (below_drewN HW2.out _)).mono ?_;rintro e w9 ⟨ix,rfl,hp1,hp2,hX⟩;rw[hX];clear hX w9;generalize hhi:hasI (pIds ps) pe=hi at*
    cases hi with
    | false =>
     obtain rfl:=hp2 rfl;have HF:Hid (res=6):=HE5.out 6 (by rw[HI.out];exact qR rfl) (by decide);clear hp1 hp2;go_wp2_with fail
     go_ret
     exact⟨by rw[HF.out];rfl,below_drewN HW2.out _⟩
    | true =>
     have hix:=hp1 rfl;have hix' : ¬ix<0:=by omega
     clear hp1 hp2;rw[qN (by decide)]at HI;go_wp2_with fail
     refine(span40_any s1 s2 _).mono ?_;rintro e w3 ⟨rfl,hb3⟩;have HW3:Hid (Below w.heap.size w w3):=(below_drewN HW2.out _).trans (hb3.mono HW2.out.size);have HR3:Hid (w3.heap[wr.heap.size]? = _):=(hb3.block _ (Array.getElem?_eq_some_iff.1 HR2.out).1).trans HR2.out;have HT3:Hid (w3.heap[w.heap.size]? = _):=(hb3.block _ hsz2).trans HT2.out;have hsz3:w.heap.size<w3.heap.size:=Nat.lt_of_lt_of_le hsz2 hb3.size;clear y0 y1 y2 y3 y4 y5 y6 hb3;have y0:=block_cell HR3.out 0;have y1:=block_cell HR3.out 1;have y2:=block_cell HR3.out 2;have y3:=block_cell HR3.out 3;have y4:=block_cell HR3.out 4;have y5:=block_cell HR3.out 5;have y6:=block_cell HR3.out 6;generalize hvo:vacOk ⟨s1,s2⟩=vo at*
     cases vo with
     | false =>
      have HF:Hid (res=5):=HE5.out 5 (by rw[HI.out];exact qR rfl) (by decide);go_wp2_with fail
      go_ret
      exact⟨by rw[HF.out];rfl,HW3.out⟩
     | true =>
      rw[qN (by decide)]at HI;have HSH:Hid (shapedI ⟨4,fl,mi,ai,pe,⟨s1,s2⟩⟩=(decide (fl=0)&&decide (mi=0)&&decide (ai=noStr))):=rfl
      by_cases hsh:fl=0∧mi=0∧ai=noStr
      ·obtain⟨rfl,rfl,h3⟩:=hsh;have hem:(ai.toList==[])=true:=by rw[HEB.out];simpa using h3
       have HM2:=qH (HM.out (by rw[HI.out,HSH.out,h3];rfl));clear h3;go_wp2_with fail
       go_roundw
       case rel=>exact⟨k+1,by omega,by go_num,HW3.out,hsz3,HT3,HM2⟩
       case measure=>simp[intOf];omega
      ·have HF:Hid (res=12):=HE5.out 12 (by
        rw[HI.out,qR];rw[HSH.out];simp only[Bool.and_eq_false_iff,qU]
        by_cases h1:fl=0
        ·by_cases h2:mi=0
         ·exact .inr fun h3=>hsh ⟨h1,h2,h3⟩
         ·exact .inl (.inr h2)
        ·exact .inl (.inl h1)) (by decide)
       have hd : ¬fl=0∨(fl=0 ∧ ¬mi=0)∨(fl=0∧mi=0∧(ai.toList==[])=false):=by
        by_cases h1:fl=0
        ·by_cases h2:mi=0
         ·exact .inr (.inr ⟨h1,h2,by rw[HEB.out];simpa using fun h3=>hsh ⟨h1,h2,h3⟩⟩)
         ·exact .inr (.inl ⟨h1,h2⟩)
        ·exact .inl h1
       clear hsh;rcases hd with h1|⟨rfl,h2⟩|⟨rfl,rfl,h3⟩
       all_goals
        go_wp2_with fail
        go_ret
        exact⟨by rw[HF.out];rfl,HW3.out⟩
   case neg =>
    have HI:Hid (incE1 t ps ⟨kind,fl,mi,ai,pe,⟨s1,s2⟩⟩=if shapedI ⟨kind,fl,mi,ai,pe,⟨s1,s2⟩⟩=false then 12 else 0):=by
     show _=_;unfold incE1;rw[qN (show ¬(kind<1∨4<kind) by omega),qN hk4,qN (by rw[hk3 hk4];simp)]
    have hkk:kind=1∨kind=2∨kind=3:=by omega
    clear hk3 hk4 hk1 hk2;rcases hkk with rfl|rfl|rfl
    ·have HSH:Hid (shapedI ⟨1,fl,mi,ai,pe,⟨s1,s2⟩⟩=(decide (ai=noStr)&&decide (pe=0)&&decide (s1=0)&&decide (s2=0))):=rfl
     by_cases hsh:pe=0∧s1=0∧s2=0∧ai=noStr
     ·obtain⟨rfl,rfl,rfl,h3⟩:=hsh;have hem:(ai.toList==[])=true:=by rw[HEB.out];simpa using h3
      have HM2:=qH (HM.out (by rw[HI.out,HSH.out,h3];rfl));clear h3;go_wp2_with fail
      go_quiet (fail)
      go_wp2_with fail
      go_roundw
      case rel=>exact⟨k+1,by omega,by go_num,below_drewN HW2.out _,hsz2,HT2,HM2⟩
      case measure=>simp[intOf];omega
     ·have HF:Hid (res=12):=HE5.out 12 (by
       rw[HI.out,qR];rw[HSH.out]
       cases hh:(decide (ai=noStr)&&decide (pe=0)&&decide (s1=0)&&decide (s2=0)) with
       | false=>rfl
       | true =>
        exfalso;simp only[qI,qL]at hh;exact hsh (by simp only[hh,and_self])) (by decide)
      have hd:(¬pe=0)∨(pe=0 ∧ ¬s1=0)∨(pe=0∧s1=0 ∧ ¬s2=0)∨(pe=0∧s1=0∧s2=0∧(ai.toList==[])=false):=by
       rw[HEB.out]
       try simp only[qL,qU]
       by_cases gpe:pe=0 <;> by_cases gs1:s1=0 <;> by_cases gs2:s2=0 <;> by_cases gai:ai=noStr <;> simp_all
      clear hsh;rcases hd with hn|⟨rfl,hn⟩|⟨rfl,rfl,hn⟩|⟨rfl,rfl,rfl,hn⟩
      all_goals
       go_wp2_with fail
       go_quiet (fail)
       go_wp2_with fail
       go_ret
       exact⟨by rw[HF.out];rfl,below_drewN HW2.out _⟩
    ·have HSH:Hid (shapedI ⟨2,fl,mi,ai,pe,⟨s1,s2⟩⟩=(decide (mi=0)&&decide (ai=noStr)&&decide (pe=0)&&decide (s1=0)&&decide (s2=0))):=rfl
     by_cases hsh:pe=0∧s1=0∧s2=0∧ai=noStr∧mi=0
     ·obtain⟨rfl,rfl,rfl,h3,rfl⟩:=hsh;have hem:(ai.toList==[])=true:=by rw[HEB.out];simpa using h3
      have HM2:=qH (HM.out (by rw[HI.out,HSH.out,h3];rfl));clear h3;go_wp2_with fail
      go_quiet (fail)
      go_wp2_with fail
      go_roundw
      case rel=>exact⟨k+1,by omega,by go_num,below_drewN HW2.out _,hsz2,HT2,HM2⟩
      case measure=>simp[intOf];omega
     ·have HF:Hid (res=12):=HE5.out 12 (by
       rw[HI.out,qR];rw[HSH.out]
       cases hh:(decide (mi=0)&&decide (ai=noStr)&&decide (pe=0)&&decide (s1=0)&&decide (s2=0)) with
       | false=>rfl
       | true =>
        exfalso;simp only[qI,qL]at hh;exact hsh (by simp only[hh,and_self])) (by decide)
      have hd:(¬pe=0)∨(pe=0 ∧ ¬s1=0)∨(pe=0∧s1=0 ∧ ¬s2=0)∨(pe=0∧s1=0∧s2=0∧(ai.toList==[])=false)∨(pe=0∧s1=0∧s2=0∧(ai.toList==[])=true ∧ ¬mi=0):=by
       rw[HEB.out]
       try simp only[qL,qU]
       by_cases gpe:pe=0 <;> by_cases gs1:s1=0 <;> by_cases gs2:s2=0 <;> by_cases gai:ai=noStr <;> by_cases gmi:mi=0 <;> simp_all
      clear hsh;rcases hd with hn|⟨rfl,hn⟩|⟨rfl,rfl,hn⟩|⟨rfl,rfl,rfl,hn⟩|⟨rfl,rfl,rfl,hem,hn⟩
      all_goals
       go_wp2_with fail
       go_quiet (fail)
       go_wp2_with fail
       go_ret
       exact⟨by rw[HF.out];rfl,below_drewN HW2.out _⟩
    ·have HSH:Hid (shapedI ⟨3,fl,mi,ai,pe,⟨s1,s2⟩⟩=(decide (pe=0)&&decide (s1=0)&&decide (s2=0))):=rfl
     by_cases hsh:pe=0∧s1=0∧s2=0
     ·obtain⟨rfl,rfl,rfl⟩:=hsh;have HM2:=qH (HM.out (by rw[HI.out,HSH.out];rfl));go_wp2_with fail
      go_quiet (fail)
      go_wp2_with fail
      go_roundw
      case rel=>exact⟨k+1,by omega,by go_num,below_drewN HW2.out _,hsz2,HT2,HM2⟩
      case measure=>simp[intOf];omega
     ·have HF:Hid (res=12):=HE5.out 12 (by
       rw[HI.out,qR];rw[HSH.out]
       cases hh:(decide (pe=0)&&decide (s1=0)&&decide (s2=0)) with
       | false=>rfl
       | true =>
        exfalso;simp only[qI,qL]at hh;exact hsh (by simp only[hh,and_self])) (by decide)
      have hd:(¬pe=0)∨(pe=0 ∧ ¬s1=0)∨(pe=0∧s1=0 ∧ ¬s2=0):=by
       try simp only[qL,qU]
       by_cases gpe:pe=0 <;> by_cases gs1:s1=0 <;> by_cases gs2:s2=0 <;> simp_all
      clear hsh;rcases hd with hn|⟨rfl,hn⟩|⟨rfl,rfl,hn⟩
      all_goals
       go_wp2_with fail
       go_quiet (fail)
       go_wp2_with fail
       go_ret
       exact⟨by rw[HF.out];rfl,below_drewN HW2.out _⟩
  ·have HF:=qH (HR4'.out (by
    have:=HK.out;intro j hj;exact this j (by omega)))
   go_wp2_with fail
   go_ret
   exact⟨by rw[HF.out];rfl,hbr⟩
end
section
open Go.RowKit
theorem list18{cs:List Value}(h:cs.length=18) : ∃ r0 r1 r2 r3 r4 r5 r6 r7 r8 r9 r10 r11 r12 r13 r14 r15 r16 r17,cs=[r0,r1,r2,r3,r4,r5,r6,r7,r8,r9,r10,r11,r12,r13,r14,r15,r16,r17]:=by
 match cs,h with
 | [r0,r1,r2,r3,r4,r5,r6,r7,r8,r9,r10,r11,r12,r13,r14,r15,r16,r17],_=>exact⟨r0,r1,r2,r3,r4,r5,r6,r7,r8,r9,r10,r11,r12,r13,r14,r15,r16,r17,rfl⟩
theorem lawValidates_any(l m a b:List Int)(A Am Aa Ab9:Option Addr)(n c nm cm na ca nb9 cb9:Nat)(w:World)(h:Sl (Ty.int .i64) w (all_ w) A n c l)(hm:Sl (Ty.int .i64) w (all_ w) Am nm cm m)(ha:Sl (Ty.int .i64) w (all_ w) Aa na ca a)(hb:Sl (Ty.int .i64) w (all_ w) Ab9 nb9 cb9 b)(hpw:Pow10 w)(hg:Glo w):Calls Tryz.prog 3 #[.slice A n c,.slice Am nm cm,.slice Aa na ca,.slice Ab9 nb9 cb9] w (TruePost w):=by
 have HPW:Hid (∀ V,Below w.heap.size w V→Pow10 V):=fun V hV=>hpw.next hV
 have HGL:Hid (∀ V,Below w.heap.size w V→Glo V):=fun V hV=>hg.next hV
 have HSL:=qH h;have HSM:Hid (∀ V,Below w.heap.size w V→Sl (Ty.int .i64) V (all_ V) Am nm cm m):=fun V hV=>hm.next hV
 have HSA:Hid (∀ V,Below w.heap.size w V→Sl (Ty.int .i64) V (all_ V) Aa na ca a):=fun V hV=>ha.next hV
 have HSB:Hid (∀ V,Below w.heap.size w V→Sl (Ty.int .i64) V (all_ V) Ab9 nb9 cb9 b):=fun V hV=>hb.next hV
 clear hpw hg h hm ha hb
 go_enter Tryz.func3,Tryz.ntmps3
 go_upto_region 1 with (fail)
 refine wp_region_lit ?_;refine qP rfl fun K9 hK9 =>?_
 go_simp
 refine hK9 _ _ ?_;clear hK9;refine qP rfl fun K9 hK9 =>?_
 go_simp
 go_at_call 11
 refine(problem_any l A n c w HSL.out).mono ?_;rintro e w1 ⟨cells,rfl,hpi,hb1⟩;obtain⟨v,cs,Ab,nb,cb,Ao,no,co,bs,os,hh,pp,rfl,htt,hcs,hbs,hos,ho0,ho5,hb2⟩:=hpi;have htt':=htt;obtain⟨A1,n1,d1,A2,n2,d2,A3,n3,d3,rfl, -, -, -⟩:=htt';obtain⟨k0,k1,k2,k3,k4,k5,k6,k7,k8,k9,k10,k11,k12,k13,rfl⟩:=list14 hcs.1;have HCS:=qH hcs;have HTT1:=qH htt.fl;have HB1:=qH hb1;have HBS:=qH hbs;have HOS:=qH hos;clear htt hcs hb1 hbs hos;refine hK9 _ _ ?_;clear hK9;refine qP rfl fun K9 hK9 =>?_
 go_simp
 refine hK9 _ _ ?_;clear hK9;refine qP rfl fun K9 hK9 =>?_
 go_simp
 go_at_call 12
 refine(people_any m Am nm cm w1 (HSM.out w1 HB1.out)).mono ?_;rintro e w1b ⟨A4,n4,c4,rfl,hs4,hb4⟩;have HSP:=qH hs4;have HTT2:Hid (Sl Ty.zone w1b (all_ w1b) A1 n1 d1 (probTT l).zones∧Sl Ty.airport w1b (all_ w1b) A2 n2 d2 (probTT l).airports∧Sl Ty.flight w1b (all_ w1b) A3 n3 d3 (probTT l).flights):=⟨HTT1.out.1.next hb4,HTT1.out.2.1.next hb4,HTT1.out.2.2.next hb4⟩
 have HB1b:Hid (Below w.heap.size w w1b):=HB1.out.trans (hb4.mono HB1.out.size);have HBSb:=qH (HBS.out.next hb4);have HOSb:=qH (HOS.out.next hb4);have HTT1b:=HTT2;clear hs4 hb4 HTT1 HB1 HTT2;refine hK9 _ _ ?_;clear hK9;refine qP rfl fun K9 hK9 =>?_
 go_simp
 refine hK9 _ _ ?_;clear hK9;have HXP:=qH (qK w1b (.cells zProb 38));have HK1:Hid (∀ q,q<w1b.heap.size→(w1b.alloc (.cells zProb 38)).heap[q]? = w1b.heap[q]?):=fun q hq=>Below.heap_alloc _ _ _ hq
 have HB7:Hid (Below w.heap.size w (w1b.alloc (.cells zProb 38))):=HB1b.out.alloc HB1b.out.size _;have hz7:(w1b.alloc (.cells zProb 38)).heap.size=w1b.heap.size+1:=by simp
 have hone:((#[.slice A1 n1 d1,.slice A2 n2 d2,.slice A3 n3 d3,k0,k1,k2,k3,k4,k5,k6,k7,k8,k9,k10,k11,k12,k13,.slice Ab nb cb,.slice Ao no co,.int .i64 hh,.int .i64 pp]:Array Value)).all (·.oneCell')=true:=by
  have h14:=HCS.out.2;rw[Array.all_eq_true];intro i hi;have hmem:((#[.slice A1 n1 d1,.slice A2 n2 d2,.slice A3 n3 d3,k0,k1,k2,k3,k4,k5,k6,k7,k8,k9,k10,k11,k12,k13,.slice Ab nb cb,.slice Ao no co,.int .i64 hh,.int .i64 pp]:Array Value))[i]∈(#[.slice A1 n1 d1,.slice A2 n2 d2,.slice A3 n3 d3,k0,k1,k2,k3,k4,k5,k6,k7,k8,k9,k10,k11,k12,k13,.slice Ab nb cb,.slice Ao no co,.int .i64 hh,.int .i64 pp]:Array Value).toList:=by simp
  have hcs2 : ∀ u∈([.slice A1 n1 d1,.slice A2 n2 d2,.slice A3 n3 d3]++([k0,k1,k2,k3,k4,k5,k6,k7,k8,k9,k10,k11,k12,k13]++[.slice Ab nb cb,.slice Ao no co,.int .i64 hh,.int .i64 pp]):List Value),u.oneCell'=true:=fun u hu=>by
   rcases List.mem_append.1 hu with h|h
   ·simp at h;rcases h with rfl|rfl|rfl <;> rfl
   ·rcases List.mem_append.1 h with h|h
    ·exact h14 u h
    ·simp at h;rcases h with rfl|rfl|rfl|rfl <;> rfl
  exact hcs2 _ hmem
 change wpList _ _ _ _ _ (w1b.alloc (.cells zProb 38));generalize w1b.alloc (.cells zProb 38)=w7 at*;refine wpList_store_row rfl _ _ _ rfl w1b.heap.size #[.slice A1 n1 d1,.slice A2 n2 d2,.slice A3 n3 d3,k0,k1,k2,k3,k4,k5,k6,k7,k8,k9,k10,k11,k12,k13,.slice Ab nb cb,.slice Ao no co,.int .i64 hh,.int .i64 pp] (by simp[Act.eval,Act.put]) (by simp[Act.eval,Act.put]) _ _ HXP.out (by kernel_rfl) rfl hone ?_;clear hone;have HBX:Hid ((w7.setRow w1b.heap.size #[.slice A1 n1 d1,.slice A2 n2 d2,.slice A3 n3 d3,k0,k1,k2,k3,k4,k5,k6,k7,k8,k9,k10,k11,k12,k13,.slice Ab nb cb,.slice Ao no co,.int .i64 hh,.int .i64 pp]).heap[w1b.heap.size]? = some (.cells #[.slice A1 n1 d1,.slice A2 n2 d2,.slice A3 n3 d3,k0,k1,k2,k3,k4,k5,k6,k7,k8,k9,k10,k11,k12,k13,.slice Ab nb cb,.slice Ao no co,.int .i64 hh,.int .i64 pp] 38 (0,0))):=setRow_heap _ _ _ _ _ _ HXP.out;have hk : ∀ q,q<w1b.heap.size→(w7.setRow w1b.heap.size #[.slice A1 n1 d1,.slice A2 n2 d2,.slice A3 n3 d3,k0,k1,k2,k3,k4,k5,k6,k7,k8,k9,k10,k11,k12,k13,.slice Ab nb cb,.slice Ao no co,.int .i64 hh,.int .i64 pp]).heap[q]? = w1b.heap[q]? :=fun q hq=>(setRow_other _ _ _ _ (by omega)).trans (HK1.out q hq)
 have hzz:(w7.setRow w1b.heap.size #[.slice A1 n1 d1,.slice A2 n2 d2,.slice A3 n3 d3,k0,k1,k2,k3,k4,k5,k6,k7,k8,k9,k10,k11,k12,k13,.slice Ab nb cb,.slice Ao no co,.int .i64 hh,.int .i64 pp]).heap.size=w7.heap.size:=by simp
 have HT:Hid (Sl Ty.zone (w7.setRow w1b.heap.size #[.slice A1 n1 d1,.slice A2 n2 d2,.slice A3 n3 d3,k0,k1,k2,k3,k4,k5,k6,k7,k8,k9,k10,k11,k12,k13,.slice Ab nb cb,.slice Ao no co,.int .i64 hh,.int .i64 pp]) (all_ (w7.setRow w1b.heap.size #[.slice A1 n1 d1,.slice A2 n2 d2,.slice A3 n3 d3,k0,k1,k2,k3,k4,k5,k6,k7,k8,k9,k10,k11,k12,k13,.slice Ab nb cb,.slice Ao no co,.int .i64 hh,.int .i64 pp])) A1 n1 d1 (probTT l).zones∧Sl Ty.airport (w7.setRow w1b.heap.size #[.slice A1 n1 d1,.slice A2 n2 d2,.slice A3 n3 d3,k0,k1,k2,k3,k4,k5,k6,k7,k8,k9,k10,k11,k12,k13,.slice Ab nb cb,.slice Ao no co,.int .i64 hh,.int .i64 pp]) (all_ (w7.setRow w1b.heap.size #[.slice A1 n1 d1,.slice A2 n2 d2,.slice A3 n3 d3,k0,k1,k2,k3,k4,k5,k6,k7,k8,k9,k10,k11,k12,k13,.slice Ab nb cb,.slice Ao no co,.int .i64 hh,.int .i64 pp])) A2 n2 d2 (probTT l).airports∧Sl Ty.flight (w7.setRow w1b.heap.size #[.slice A1 n1 d1,.slice A2 n2 d2,.slice A3 n3 d3,k0,k1,k2,k3,k4,k5,k6,k7,k8,k9,k10,k11,k12,k13,.slice Ab nb cb,.slice Ao no co,.int .i64 hh,.int .i64 pp]) (all_ (w7.setRow w1b.heap.size #[.slice A1 n1 d1,.slice A2 n2 d2,.slice A3 n3 d3,k0,k1,k2,k3,k4,k5,k6,k7,k8,k9,k10,k11,k12,k13,.slice Ab nb cb,.slice Ao no co,.int .i64 hh,.int .i64 pp])) A3 n3 d3 (probTT l).flights) :=
  ⟨(HTT1b.out.1.keep fun b hb=>hk b hb).more fun b hb=>(by show b<_;have:b<w1b.heap.size:=hb;omega),(HTT1b.out.2.1.keep fun b hb=>hk b hb).more fun b hb=>(by show b<_;have:b<w1b.heap.size:=hb;omega),(HTT1b.out.2.2.keep fun b hb=>hk b hb).more fun b hb=>(by show b<_;have:b<w1b.heap.size:=hb;omega)⟩
 have HS4:Hid (Sl Ty.person (w7.setRow w1b.heap.size #[.slice A1 n1 d1,.slice A2 n2 d2,.slice A3 n3 d3,k0,k1,k2,k3,k4,k5,k6,k7,k8,k9,k10,k11,k12,k13,.slice Ab nb cb,.slice Ao no co,.int .i64 hh,.int .i64 pp]) (all_ (w7.setRow w1b.heap.size #[.slice A1 n1 d1,.slice A2 n2 d2,.slice A3 n3 d3,k0,k1,k2,k3,k4,k5,k6,k7,k8,k9,k10,k11,k12,k13,.slice Ab nb cb,.slice Ao no co,.int .i64 hh,.int .i64 pp])) A4 n4 c4 (dPeople m)):=(HSP.out.keep fun b hb=>hk b hb).more fun b hb=>(by show b<_;have:b<w1b.heap.size:=hb;omega)
 have HBO2:Hid (Sl Ty.str (w7.setRow w1b.heap.size #[.slice A1 n1 d1,.slice A2 n2 d2,.slice A3 n3 d3,k0,k1,k2,k3,k4,k5,k6,k7,k8,k9,k10,k11,k12,k13,.slice Ab nb cb,.slice Ao no co,.int .i64 hh,.int .i64 pp]) (all_ (w7.setRow w1b.heap.size #[.slice A1 n1 d1,.slice A2 n2 d2,.slice A3 n3 d3,k0,k1,k2,k3,k4,k5,k6,k7,k8,k9,k10,k11,k12,k13,.slice Ab nb cb,.slice Ao no co,.int .i64 hh,.int .i64 pp])) Ab nb cb bs∧Sl (Ty.int .i64) (w7.setRow w1b.heap.size #[.slice A1 n1 d1,.slice A2 n2 d2,.slice A3 n3 d3,k0,k1,k2,k3,k4,k5,k6,k7,k8,k9,k10,k11,k12,k13,.slice Ab nb cb,.slice Ao no co,.int .i64 hh,.int .i64 pp]) (all_ (w7.setRow w1b.heap.size #[.slice A1 n1 d1,.slice A2 n2 d2,.slice A3 n3 d3,k0,k1,k2,k3,k4,k5,k6,k7,k8,k9,k10,k11,k12,k13,.slice Ab nb cb,.slice Ao no co,.int .i64 hh,.int .i64 pp])) Ao no co os):=⟨(HBSb.out.keep fun b hb=>hk b hb).more fun b hb=>(by show b<_;have:b<w1b.heap.size:=hb;omega),(HOSb.out.keep fun b hb=>hk b hb).more fun b hb=>(by show b<_;have:b<w1b.heap.size:=hb;omega)⟩
 have HB2:Hid (Below w.heap.size w (w7.setRow w1b.heap.size #[.slice A1 n1 d1,.slice A2 n2 d2,.slice A3 n3 d3,k0,k1,k2,k3,k4,k5,k6,k7,k8,k9,k10,k11,k12,k13,.slice Ab nb cb,.slice Ao no co,.int .i64 hh,.int .i64 pp])):=below_setRowD HB7.out HB1b.out.size;generalize w7.setRow w1b.heap.size #[.slice A1 n1 d1,.slice A2 n2 d2,.slice A3 n3 d3,k0,k1,k2,k3,k4,k5,k6,k7,k8,k9,k10,k11,k12,k13,.slice Ab nb cb,.slice Ao no co,.int .i64 hh,.int .i64 pp]=w2 at*;generalize w1b.heap.size=P at*;clear HXP HK1 HB7 hz7 hk hzz HTT1b HB1b HSP;clear HBSb HOSb HBS HOS;have HBW2:=HB2;have HBX2:=HBX;have HT2:=HT;have HCN:=qH (And.intro ho0 (And.intro ho5 hb2));clear HB2 HBX HT ho0 ho5 hb2 HSL HSM;have hdc:=dCount_range l;have hpc:=pCount_range m;have y0:=block_cell HBX2.out 0;have y1:=block_cell HBX2.out 1;have y2:=block_cell HBX2.out 2;have HIN:=qH (incs_any (probTT l) (dPeople m) a A1 A2 A3 A4 Aa n1 n2 n3 n4 na d1 d2 d3 c4 ca w2 (HSA.out w2 HBW2.out) HT2.out.2.2 HS4.out (by rw[probTT_len];omega) (by rw[dPeople_len];omega) (probTT_dep l));have HI3:Hid ((dIncs (probTT l) (dPeople m) a).length≤3):=by rw[dIncs_len];exact iCount_range a
 have HLN:Hid (0<(probTT l).flights.length∧(probTT l).flights.length≤9):=by rw[probTT_len];exact⟨by omega,by omega⟩
 have HE0:Hid (incE (probTT l) (dPeople m) (dIncs (probTT l) (dPeople m) a)=0):=dIncs_ok l m a;have HPO:=qH (people_ok m);clear hdc hpc HSA;generalize dIncs (probTT l) (dPeople m) a=xs at*;generalize dPeople m=ps at*;go_upto_region 3 with (go_at_call 13;refine HIN.out.mono ?_;rintro e w6 ⟨Ax,nx,cx,rfl,hsx,hb26⟩)
 have HSX6:=qH hsx;have HB26:=qH hb26;clear hsx hb26 y0 y1 y2 HIN;go_upto_region 4 with (go_at_call 14;refine(spoil_any xs b Ax Ab9 nx cx nb9 cb9 w6 HSX6.out (HSB.out w6 (HBW2.out.trans (HB26.out.mono HBW2.out.size))) HI3.out).mono ?_;rintro e V0 ⟨Ay,ny,cy,rfl,hsy,hb67⟩)
 have hbr:Below w2.heap.size w2 V0:=HB26.out.trans (hb67.mono HB26.out.size);have HBX0:Hid (V0.heap[P]? = _):=(hbr.block _ (Array.getElem?_eq_some_iff.1 HBX2.out).1).trans HBX2.out;have HT0:Hid (Sl Ty.zone V0 (all_ V0) A1 n1 d1 (probTT l).zones∧Sl Ty.airport V0 (all_ V0) A2 n2 d2 (probTT l).airports∧Sl Ty.flight V0 (all_ V0) A3 n3 d3 (probTT l).flights):=⟨HT2.out.1.next hbr,HT2.out.2.1.next hbr,HT2.out.2.2.next hbr⟩
 have HBW0:Hid (Below w.heap.size w V0):=HBW2.out.trans (hbr.mono HBW2.out.size);have HSY:=qH hsy;have HSX:=qH (HSX6.out.next hb67);have HS40:=qH (HS4.out.next hbr);have HSP:=qH (dataSpoil_any (probTT l) bs os b A1 A2 A3 Ab Ao Ab9 n1 d1 n2 d2 n3 d3 nb cb no co nb9 cb9 k0 k1 k2 k3 k4 k5 k6 k7 k8 k9 k10 k11 k12 k13 hh pp V0 (probTT_ok l) HCS.out HT0.out.1 HT0.out.2.1 HT0.out.2.2 (HBO2.out.1.next hbr) (HBO2.out.2.next hbr) (HSB.out V0 HBW0.out) ⟨HCN.out.1,HCN.out.2.1⟩ HCN.out.2.2 HLN.out);clear hb67 hsy hbr HBX2 HT2 HBW2 HS4 HI3 HSB HBO2 HCN HCS HSX6 HB26;generalize spoilI xs b=ys at*;have HTO:=qH (probTT_ok l);generalize probTT l=T0 at*;refine wp_region_lit ?_;refine wpList_load_row rfl _ _ rfl P (by simp[Act.eval]) _ _ _ _ HBX0.out Tryz.underlying38 rfl (by kernel_rfl) ?_;refine qP rfl fun K9 hK9 =>?_
 go_simp
 refine hK9 _ _ ?_;clear hK9;refine qP rfl fun K9 hK9 =>?_
 go_simp
 go_at_call 15
 refine HSP.out.mono ?_;rintro e w8 ⟨cells,v,rest,t',rfl,rfl,hr,hone,hok',htt,hb8⟩;obtain⟨E1,m1,e1,E2,m2,e2,E3,m3,e3,rfl,hq1,hq2,hq3⟩:=htt;obtain⟨r0,r1,r2,r3,r4,r5,r6,r7,r8,r9,r10,r11,r12,r13,r14,r15,r16,r17,rfl⟩:=list18 hr;have HQT:=qH (And.intro hq1 (And.intro hq2 hq3));have HON:=qH hone;have HOK2:=qH hok';have HB8:=qH hb8;clear hq1 hq2 hq3 hone hok' hb8 hr HSP;refine hK9 _ _ ?_;clear hK9;refine qP rfl fun K9 hK9 =>?_
 go_simp
 refine hK9 _ _ ?_;clear hK9;have HXQ:=qH (qK w8 (.cells zProb 38));have HB89:=qH ((qC w8.heap.size w8).alloc (qD _) (.cells zProb 38));have hone2:(#[.slice E1 m1 e1,.slice E2 m2 e2,.slice E3 m3 e3,r0,r1,r2,r3,r4,r5,r6,r7,r8,r9,r10,r11,r12,r13,r14,r15,r16,r17]:Array Value).all (·.oneCell')=true:=by
  rw[Array.all_eq_true];intro i hi;exact HON.out _ (by
   have:(#[.slice E1 m1 e1,.slice E2 m2 e2,.slice E3 m3 e3,r0,r1,r2,r3,r4,r5,r6,r7,r8,r9,r10,r11,r12,r13,r14,r15,r16,r17]:Array Value)[i]∈(#[.slice E1 m1 e1,.slice E2 m2 e2,.slice E3 m3 e3,r0,r1,r2,r3,r4,r5,r6,r7,r8,r9,r10,r11,r12,r13,r14,r15,r16,r17]:Array Value).toList:=by simp
   exact this)
 change wpList _ _ _ _ _ (w8.alloc (.cells zProb 38));generalize w8.alloc (.cells zProb 38)=w89 at*;refine wpList_store_row rfl _ _ _ rfl w8.heap.size #[.slice E1 m1 e1,.slice E2 m2 e2,.slice E3 m3 e3,r0,r1,r2,r3,r4,r5,r6,r7,r8,r9,r10,r11,r12,r13,r14,r15,r16,r17] (by simp[Act.eval,Act.put]) (by simp[Act.eval,Act.put]) _ _ HXQ.out (by kernel_rfl) rfl hone2 ?_;have HBQ:Hid ((w89.setRow w8.heap.size #[.slice E1 m1 e1,.slice E2 m2 e2,.slice E3 m3 e3,r0,r1,r2,r3,r4,r5,r6,r7,r8,r9,r10,r11,r12,r13,r14,r15,r16,r17]).heap[w8.heap.size]? = some (.cells #[.slice E1 m1 e1,.slice E2 m2 e2,.slice E3 m3 e3,r0,r1,r2,r3,r4,r5,r6,r7,r8,r9,r10,r11,r12,r13,r14,r15,r16,r17] 38 (0,0))):=setRow_heap _ _ _ _ _ _ HXQ.out;have HBN:Hid (Below w8.heap.size w8 (w89.setRow w8.heap.size #[.slice E1 m1 e1,.slice E2 m2 e2,.slice E3 m3 e3,r0,r1,r2,r3,r4,r5,r6,r7,r8,r9,r10,r11,r12,r13,r14,r15,r16,r17])):=below_setRowD HB89.out (qD _);clear hone2 HXQ HB89;generalize w89.setRow w8.heap.size #[.slice E1 m1 e1,.slice E2 m2 e2,.slice E3 m3 e3,r0,r1,r2,r3,r4,r5,r6,r7,r8,r9,r10,r11,r12,r13,r14,r15,r16,r17]=w9 at*;have hb09:Below V0.heap.size V0 w9:=HB8.out.trans (HBN.out.mono HB8.out.size);have HQN:Hid (Sl Ty.zone w9 (all_ w9) E1 m1 e1 t'.zones∧Sl Ty.airport w9 (all_ w9) E2 m2 e2 t'.airports∧Sl Ty.flight w9 (all_ w9) E3 m3 e3 t'.flights):=⟨HQT.out.1.next HBN.out,HQT.out.2.1.next HBN.out,HQT.out.2.2.next HBN.out⟩
 have HBX9:Hid (w9.heap[P]? = _):=(hb09.block _ (Array.getElem?_eq_some_iff.1 HBX0.out).1).trans HBX0.out;have HBW9:Hid (Below w.heap.size w w9):=HBW0.out.trans (hb09.mono HBW0.out.size);have HBS9:=qH hb09;have HC1:Hid (∀ V,Below w9.heap.size w9 V→Calls Tryz.prog 16 #[.agg #[.slice A1 n1 d1,.slice A2 n2 d2,.slice A3 n3 d3],.slice A4 n4 c4,.slice Ax nx cx] V (ErrPost 0 V)):=fun V hV=>by
  have hb:=HBS9.out.trans (hV.mono HBS9.out.size);rw[←HE0.out];exact incValidate_any T0 ps xs A1 A2 A3 A4 Ax n1 n2 n3 n4 nx d1 d2 d3 c4 cx V HTO.out HPO.out (HT0.out.1.next hb) (HT0.out.2.1.next hb) (HT0.out.2.2.next hb) (HS40.out.next hb) (HSX.out.next hb)
 have HC2:Hid (∀ V,Below w9.heap.size w9 V→Calls Tryz.prog 16 #[.agg #[.slice A1 n1 d1,.slice A2 n2 d2,.slice A3 n3 d3],.slice A4 n4 c4,.slice Ay ny cy] V (ErrPost (incE T0 ps ys) V)):=fun V hV=>by
  have hb:=HBS9.out.trans (hV.mono HBS9.out.size);exact incValidate_any T0 ps ys A1 A2 A3 A4 Ay n1 n2 n3 n4 ny d1 d2 d3 c4 cy V HTO.out HPO.out (HT0.out.1.next hb) (HT0.out.2.1.next hb) (HT0.out.2.2.next hb) (HS40.out.next hb) (HSY.out.next hb)
 have HC3:Hid (∀ V,Below w9.heap.size w9 V→Calls Tryz.prog 17 #[.agg #[.slice A1 n1 d1,.slice A2 n2 d2,.slice A3 n3 d3],.slice A4 n4 c4,.slice Ay ny cy] V (ErrPost (incE T0 ps ys) V)):=fun V hV=>by
  have hb:=HBS9.out.trans (hV.mono HBS9.out.size);exact validate40_any T0 ps ys A1 A2 A3 A4 Ay n1 n2 n3 n4 ny d1 d2 d3 c4 cy V HTO.out HPO.out (HT0.out.1.next hb) (HT0.out.2.1.next hb) (HT0.out.2.2.next hb) (HS40.out.next hb) (HSY.out.next hb)
 have HC4:Hid (∀ V,Below w9.heap.size w9 V→Calls Tryz.prog 16 #[.agg #[.slice E1 m1 e1,.slice E2 m2 e2,.slice E3 m3 e3],.slice A4 n4 c4,.slice Ax nx cx] V (ErrPost (incE t' ps xs) V)):=fun V hV=>by
  have hb:=HBS9.out.trans (hV.mono HBS9.out.size);have hb2:=HBN.out.trans (hV.mono HBN.out.size);exact incValidate_any t' ps xs E1 E2 E3 A4 Ax m1 m2 m3 n4 nx e1 e2 e3 c4 cx V HOK2.out HPO.out (HQN.out.1.next hV) (HQN.out.2.1.next hV) (HQN.out.2.2.next hV) (HS40.out.next hb) (HSX.out.next hb)
 have HC5:Hid (∀ V,Below w9.heap.size w9 V→Calls Tryz.prog 17 #[.agg #[.slice E1 m1 e1,.slice E2 m2 e2,.slice E3 m3 e3],.slice A4 n4 c4,.slice Ax nx cx] V (ErrPost (incE t' ps xs) V)):=fun V hV=>by
  have hb:=HBS9.out.trans (hV.mono HBS9.out.size);exact validate40_any t' ps xs E1 E2 E3 A4 Ax m1 m2 m3 n4 nx e1 e2 e3 c4 cx V HOK2.out HPO.out (HQN.out.1.next hV) (HQN.out.2.1.next hV) (HQN.out.2.2.next hV) (HS40.out.next hb) (HSX.out.next hb)
 have HKN:Hid (∀ V,Below w9.heap.size w9 V→Calls Tryz.prog 18 #[] V (TruePost V)):=fun V hV=>by
  have hb:=HBW9.out.trans (hV.mono HBW9.out.size);exact known_any V (HPW.out V hb) (HGL.out V hb)
 generalize w8.heap.size=Q at*;generalize incE T0 ps ys=ey at*;generalize incE t' ps xs=eq at*;have hey:(ey==ey)=true:=by simp
 have heq:(eq==eq)=true:=by simp
 clear hb09 HBS9 HQN HQT HT0 HS40 HSX HSY HE0 HB8 HBN HBX0 HBW0;go_upto_region 5 with (fail)
 refine wp_region_vals (fun x y:World=>Below x.heap.size x y) (fun a b=>a.trans (b.mono a.size)) 36 [29,30,31,32,33,34,35,36,37,38,39,40,41,42,43,44,45,46,47,48,49,50,51,52,53,54,55,56,57,58,59,60,61,62,63,8] [.pointer (some ⟨P,0,none⟩),.agg #[.slice A1 n1 d1,.slice A2 n2 d2,.slice A3 n3 d3],.slice A4 n4 c4,.slice Ax nx cx,.int .i64 0,.bool true,.bool true,.pointer (some ⟨P,0,none⟩),.agg #[.slice A1 n1 d1,.slice A2 n2 d2,.slice A3 n3 d3],.slice A4 n4 c4,.slice Ay ny cy,.int .i64 ey,.pointer (some ⟨P,0,none⟩),.agg #[.slice A1 n1 d1,.slice A2 n2 d2,.slice A3 n3 d3],.slice A4 n4 c4,.slice Ay ny cy,.int .i64 ey,.bool true,.bool true,.bool true,.pointer (some ⟨Q,0,none⟩),.agg #[.slice E1 m1 e1,.slice E2 m2 e2,.slice E3 m3 e3],.slice A4 n4 c4,.slice Ax nx cx,.int .i64 eq,.pointer (some ⟨Q,0,none⟩),.agg #[.slice E1 m1 e1,.slice E2 m2 e2,.slice E3 m3 e3],.slice A4 n4 c4,.slice Ax nx cx,.int .i64 eq,.bool true,.bool true,.bool true,.bool true,.bool true,.bool true] rfl (below_drewN (qC _ _) 1) (by kernel_rfl) (by kernel_rfl) (by kernel_rfl) (by kernel_rfl) ?_ ?_ ?_
 ·intro q hq hr;have hq':q=0∨q=1∨q=2∨q=3∨q=4∨q=5∨q=6∨q=7∨q=8∨q=9∨q=10∨q=11∨q=12∨q=13∨q=14∨q=15∨q=16∨q=17∨q=18∨q=19∨q=20∨q=21∨q=22∨q=23∨q=24∨q=25∨q=26∨q=27∨q=28∨q=29∨q=30∨q=31∨q=32∨q=33∨q=34∨q=35:=by omega
  rcases hq' with rfl|rfl|rfl|rfl|rfl|rfl|rfl|rfl|rfl|rfl|rfl|rfl|rfl|rfl|rfl|rfl|rfl|rfl|rfl|rfl|rfl|rfl|rfl|rfl|rfl|rfl|rfl|rfl|rfl|rfl|rfl|rfl|rfl|rfl|rfl|rfl
  ·exact absurd (show(true:Bool)=false from hr) (by decide)
  ·exact absurd (show(true:Bool)=false from hr) (by decide)
  ·exact absurd (show(true:Bool)=false from hr) (by decide)
  ·exact absurd (show(true:Bool)=false from hr) (by decide)
  ·exact absurd (show(true:Bool)=false from hr) (by decide)
  ·exact absurd (show(true:Bool)=false from hr) (by decide)
  ·exact absurd (show(true:Bool)=false from hr) (by decide)
  ·exact absurd (show(true:Bool)=false from hr) (by decide)
  ·exact absurd (show(true:Bool)=false from hr) (by decide)
  ·exact absurd (show(true:Bool)=false from hr) (by decide)
  ·exact absurd (show(true:Bool)=false from hr) (by decide)
  ·exact absurd (show(true:Bool)=false from hr) (by decide)
  ·exact absurd (show(true:Bool)=false from hr) (by decide)
  ·exact absurd (show(true:Bool)=false from hr) (by decide)
  ·exact absurd (show(true:Bool)=false from hr) (by decide)
  ·exact absurd (show(true:Bool)=false from hr) (by decide)
  ·exact absurd (show(true:Bool)=false from hr) (by decide)
  ·exact absurd (show(true:Bool)=false from hr) (by decide)
  ·exact absurd (show(true:Bool)=false from hr) (by decide)
  ·exact absurd (show(true:Bool)=false from hr) (by decide)
  ·exact absurd (show(true:Bool)=false from hr) (by decide)
  ·exact absurd (show(true:Bool)=false from hr) (by decide)
  ·exact absurd (show(true:Bool)=false from hr) (by decide)
  ·exact absurd (show(true:Bool)=false from hr) (by decide)
  ·exact absurd (show(true:Bool)=false from hr) (by decide)
  ·exact absurd (show(true:Bool)=false from hr) (by decide)
  ·exact absurd (show(true:Bool)=false from hr) (by decide)
  ·exact absurd (show(true:Bool)=false from hr) (by decide)
  ·exact absurd (show(true:Bool)=false from hr) (by decide)
  ·exact absurd (show(true:Bool)=false from hr) (by decide)
  ·exact absurd (show(true:Bool)=false from hr) (by decide)
  ·exact absurd (show(true:Bool)=false from hr) (by decide)
  ·exact absurd (show(true:Bool)=false from hr) (by decide)
  ·exact absurd (show(true:Bool)=false from hr) (by decide)
  ·exact absurd (show(true:Bool)=false from hr) (by decide)
  ·exact absurd (show(true:Bool)=false from hr) (by decide)
 ·intro q o' hq hr ho a' w' hR hout hpre K hK;have hq':q=0∨q=1∨q=2∨q=3∨q=4∨q=5∨q=6∨q=7∨q=8∨q=9∨q=10∨q=11∨q=12∨q=13∨q=14∨q=15∨q=16∨q=17∨q=18∨q=19∨q=20∨q=21∨q=22∨q=23∨q=24∨q=25∨q=26∨q=27∨q=28∨q=29∨q=30∨q=31∨q=32∨q=33∨q=34∨q=35:=by omega
  rcases hq' with rfl|rfl|rfl|rfl|rfl|rfl|rfl|rfl|rfl|rfl|rfl|rfl|rfl|rfl|rfl|rfl|rfl|rfl|rfl|rfl|rfl|rfl|rfl|rfl|rfl|rfl|rfl|rfl|rfl|rfl|rfl|rfl|rfl|rfl|rfl|rfl
  ·obtain rfl:=qB ho;have e9:a'.tmps[9]? = some (.pointer (some ⟨P,0,none⟩)):=hout 9 (by decide);go_simp
   exact hK w' (qC _ _)
  ·obtain rfl:=qB ho;have p29:a'.tmps.getD 29 undef=.pointer (some ⟨P,0,none⟩):=hpre ⟨0,.data⟩ (by simp) (by decide) 29 rfl;simp only[qA]at p29;have x0:=cell_kept (block_cell HBX9.out 0) hR;have x1:=cell_kept (block_cell HBX9.out 1) hR;have x2:=cell_kept (block_cell HBX9.out 2) hR;go_simp
   exact hK w' (qC _ _)
  ·obtain rfl:=qB ho;have e10:a'.tmps[10]? = some (.slice A4 n4 c4):=hout 10 (by decide);go_simp
   exact hK w' (qC _ _)
  ·obtain rfl:=qB ho;have e11:a'.tmps[11]? = some (.slice Ax nx cx):=hout 11 (by decide);go_simp
   exact hK w' (qC _ _)
  ·obtain rfl:=qB ho;have p30:a'.tmps.getD 30 undef=.agg #[.slice A1 n1 d1,.slice A2 n2 d2,.slice A3 n3 d3]:=hpre ⟨1,.data⟩ (by simp) (by decide) 30 rfl;simp only[qA]at p30;have p31:a'.tmps.getD 31 undef=.slice A4 n4 c4:=hpre ⟨2,.data⟩ (by simp) (by decide) 31 rfl;simp only[qA]at p31;have p32:a'.tmps.getD 32 undef=.slice Ax nx cx:=hpre ⟨3,.data⟩ (by simp) (by decide) 32 rfl;simp only[qA]at p32;go_simp
   go_at_call 16
   refine(HC1.out w' hR).mono ?_;rintro e w'' ⟨rfl,hb''⟩;exact hK w'' hb''
  ·obtain rfl:=qB ho;have p33:a'.tmps.getD 33 undef=.int .i64 0:=hpre ⟨4,.data⟩ (by simp) (by decide) 33 rfl;simp only[qA]at p33;go_simp
   exact hK w' (qC _ _)
  ·obtain rfl:=qB ho;have p34:a'.tmps.getD 34 undef=.bool true:=hpre ⟨5,.data⟩ (by simp) (by decide) 34 rfl;simp only[qA]at p34;go_simp
   exact hK w' (qC _ _)
  ·obtain rfl:=qB ho;have e9:a'.tmps[9]? = some (.pointer (some ⟨P,0,none⟩)):=hout 9 (by decide);go_simp
   exact hK w' (qC _ _)
  ·obtain rfl:=qB ho;have p36:a'.tmps.getD 36 undef=.pointer (some ⟨P,0,none⟩):=hpre ⟨7,.data⟩ (by simp) (by decide) 36 rfl;simp only[qA]at p36;have x0:=cell_kept (block_cell HBX9.out 0) hR;have x1:=cell_kept (block_cell HBX9.out 1) hR;have x2:=cell_kept (block_cell HBX9.out 2) hR;go_simp
   exact hK w' (qC _ _)
  ·obtain rfl:=qB ho;have e10:a'.tmps[10]? = some (.slice A4 n4 c4):=hout 10 (by decide);go_simp
   exact hK w' (qC _ _)
  ·obtain rfl:=qB ho;have e12:a'.tmps[12]? = some (.slice Ay ny cy):=hout 12 (by decide);go_simp
   exact hK w' (qC _ _)
  ·obtain rfl:=qB ho;have p37:a'.tmps.getD 37 undef=.agg #[.slice A1 n1 d1,.slice A2 n2 d2,.slice A3 n3 d3]:=hpre ⟨8,.data⟩ (by simp) (by decide) 37 rfl;simp only[qA]at p37;have p38:a'.tmps.getD 38 undef=.slice A4 n4 c4:=hpre ⟨9,.data⟩ (by simp) (by decide) 38 rfl;simp only[qA]at p38;have p39:a'.tmps.getD 39 undef=.slice Ay ny cy:=hpre ⟨10,.data⟩ (by simp) (by decide) 39 rfl;simp only[qA]at p39;go_simp
   go_at_call 16
   refine(HC2.out w' hR).mono ?_;rintro e w'' ⟨rfl,hb''⟩;exact hK w'' hb''
  ·obtain rfl:=qB ho;have e9:a'.tmps[9]? = some (.pointer (some ⟨P,0,none⟩)):=hout 9 (by decide);go_simp
   exact hK w' (qC _ _)
  ·obtain rfl:=qB ho;have p41:a'.tmps.getD 41 undef=.pointer (some ⟨P,0,none⟩):=hpre ⟨12,.data⟩ (by simp) (by decide) 41 rfl;simp only[qA]at p41;have x0:=cell_kept (block_cell HBX9.out 0) hR;have x1:=cell_kept (block_cell HBX9.out 1) hR;have x2:=cell_kept (block_cell HBX9.out 2) hR;go_simp
   exact hK w' (qC _ _)
  ·obtain rfl:=qB ho;have e10:a'.tmps[10]? = some (.slice A4 n4 c4):=hout 10 (by decide);go_simp
   exact hK w' (qC _ _)
  ·obtain rfl:=qB ho;have e12:a'.tmps[12]? = some (.slice Ay ny cy):=hout 12 (by decide);go_simp
   exact hK w' (qC _ _)
  ·obtain rfl:=qB ho;have p42:a'.tmps.getD 42 undef=.agg #[.slice A1 n1 d1,.slice A2 n2 d2,.slice A3 n3 d3]:=hpre ⟨13,.data⟩ (by simp) (by decide) 42 rfl;simp only[qA]at p42;have p43:a'.tmps.getD 43 undef=.slice A4 n4 c4:=hpre ⟨14,.data⟩ (by simp) (by decide) 43 rfl;simp only[qA]at p43;have p44:a'.tmps.getD 44 undef=.slice Ay ny cy:=hpre ⟨15,.data⟩ (by simp) (by decide) 44 rfl;simp only[qA]at p44;go_simp
   go_at_call 17
   refine(HC3.out w' hR).mono ?_;rintro e w'' ⟨rfl,hb''⟩;exact hK w'' hb''
  ·obtain rfl:=qB ho;have p40:a'.tmps.getD 40 undef=.int .i64 ey:=hpre ⟨11,.data⟩ (by simp) (by decide) 40 rfl;simp only[qA]at p40;have p45:a'.tmps.getD 45 undef=.int .i64 ey:=hpre ⟨16,.data⟩ (by simp) (by decide) 45 rfl;simp only[qA]at p45;go_simp
   exact hK w' (qC _ _)
  ·obtain rfl:=qB ho;have p35:a'.tmps.getD 35 undef=.bool true:=hpre ⟨6,.data⟩ (by simp) (by decide) 35 rfl;simp only[qA]at p35;have p46:a'.tmps.getD 46 undef=.bool true:=hpre ⟨17,.data⟩ (by simp) (by decide) 46 rfl;simp only[qA]at p46;go_simp
   exact hK w' (qC _ _)
  ·obtain rfl:=qB ho;have p47:a'.tmps.getD 47 undef=.bool true:=hpre ⟨18,.data⟩ (by simp) (by decide) 47 rfl;simp only[qA]at p47;go_simp
   exact hK w' (qC _ _)
  ·obtain rfl:=qB ho;have e13:a'.tmps[13]? = some (.pointer (some ⟨Q,0,none⟩)):=hout 13 (by decide);go_simp
   exact hK w' (qC _ _)
  ·obtain rfl:=qB ho;have p49:a'.tmps.getD 49 undef=.pointer (some ⟨Q,0,none⟩):=hpre ⟨20,.data⟩ (by simp) (by decide) 49 rfl;simp only[qA]at p49;have x0:=cell_kept (block_cell HBQ.out 0) hR;have x1:=cell_kept (block_cell HBQ.out 1) hR;have x2:=cell_kept (block_cell HBQ.out 2) hR;go_simp
   exact hK w' (qC _ _)
  ·obtain rfl:=qB ho;have e10:a'.tmps[10]? = some (.slice A4 n4 c4):=hout 10 (by decide);go_simp
   exact hK w' (qC _ _)
  ·obtain rfl:=qB ho;have e11:a'.tmps[11]? = some (.slice Ax nx cx):=hout 11 (by decide);go_simp
   exact hK w' (qC _ _)
  ·obtain rfl:=qB ho;have p50:a'.tmps.getD 50 undef=.agg #[.slice E1 m1 e1,.slice E2 m2 e2,.slice E3 m3 e3]:=hpre ⟨21,.data⟩ (by simp) (by decide) 50 rfl;simp only[qA]at p50;have p51:a'.tmps.getD 51 undef=.slice A4 n4 c4:=hpre ⟨22,.data⟩ (by simp) (by decide) 51 rfl;simp only[qA]at p51;have p52:a'.tmps.getD 52 undef=.slice Ax nx cx:=hpre ⟨23,.data⟩ (by simp) (by decide) 52 rfl;simp only[qA]at p52;go_simp
   go_at_call 16
   refine(HC4.out w' hR).mono ?_;rintro e w'' ⟨rfl,hb''⟩;exact hK w'' hb''
  ·obtain rfl:=qB ho;have e13:a'.tmps[13]? = some (.pointer (some ⟨Q,0,none⟩)):=hout 13 (by decide);go_simp
   exact hK w' (qC _ _)
  ·obtain rfl:=qB ho;have p54:a'.tmps.getD 54 undef=.pointer (some ⟨Q,0,none⟩):=hpre ⟨25,.data⟩ (by simp) (by decide) 54 rfl;simp only[qA]at p54;have x0:=cell_kept (block_cell HBQ.out 0) hR;have x1:=cell_kept (block_cell HBQ.out 1) hR;have x2:=cell_kept (block_cell HBQ.out 2) hR;go_simp
   exact hK w' (qC _ _)
  ·obtain rfl:=qB ho;have e10:a'.tmps[10]? = some (.slice A4 n4 c4):=hout 10 (by decide);go_simp
   exact hK w' (qC _ _)
  ·obtain rfl:=qB ho;have e11:a'.tmps[11]? = some (.slice Ax nx cx):=hout 11 (by decide);go_simp
   exact hK w' (qC _ _)
  ·obtain rfl:=qB ho;have p55:a'.tmps.getD 55 undef=.agg #[.slice E1 m1 e1,.slice E2 m2 e2,.slice E3 m3 e3]:=hpre ⟨26,.data⟩ (by simp) (by decide) 55 rfl;simp only[qA]at p55;have p56:a'.tmps.getD 56 undef=.slice A4 n4 c4:=hpre ⟨27,.data⟩ (by simp) (by decide) 56 rfl;simp only[qA]at p56;have p57:a'.tmps.getD 57 undef=.slice Ax nx cx:=hpre ⟨28,.data⟩ (by simp) (by decide) 57 rfl;simp only[qA]at p57;go_simp
   go_at_call 17
   refine(HC5.out w' hR).mono ?_;rintro e w'' ⟨rfl,hb''⟩;exact hK w'' hb''
  ·obtain rfl:=qB ho;have p53:a'.tmps.getD 53 undef=.int .i64 eq:=hpre ⟨24,.data⟩ (by simp) (by decide) 53 rfl;simp only[qA]at p53;have p58:a'.tmps.getD 58 undef=.int .i64 eq:=hpre ⟨29,.data⟩ (by simp) (by decide) 58 rfl;simp only[qA]at p58;go_simp
   exact hK w' (qC _ _)
  ·obtain rfl:=qB ho;have p48:a'.tmps.getD 48 undef=.bool true:=hpre ⟨19,.data⟩ (by simp) (by decide) 48 rfl;simp only[qA]at p48;have p59:a'.tmps.getD 59 undef=.bool true:=hpre ⟨30,.data⟩ (by simp) (by decide) 59 rfl;simp only[qA]at p59;go_simp
   exact hK w' (qC _ _)
  ·obtain rfl:=qB ho;have p60:a'.tmps.getD 60 undef=.bool true:=hpre ⟨31,.data⟩ (by simp) (by decide) 60 rfl;simp only[qA]at p60;go_simp
   exact hK w' (qC _ _)
  ·obtain rfl:=qB ho;go_simp
   go_at_call 18
   refine(HKN.out w' hR).mono ?_;rintro e w'' ⟨rfl,hb''⟩;exact hK w'' hb''
  ·obtain rfl:=qB ho;have p61:a'.tmps.getD 61 undef=.bool true:=hpre ⟨32,.data⟩ (by simp) (by decide) 61 rfl;simp only[qA]at p61;have p62:a'.tmps.getD 62 undef=.bool true:=hpre ⟨33,.data⟩ (by simp) (by decide) 62 rfl;simp only[qA]at p62;go_simp
   exact hK w' (qC _ _)
  ·obtain rfl:=qB ho;have p63:a'.tmps.getD 63 undef=.bool true:=hpre ⟨34,.data⟩ (by simp) (by decide) 63 rfl;simp only[qA]at p63;go_simp
   exact hK w' (qC _ _)
 intro w' hR;have HBZ:Hid (Below w.heap.size w w'):=HBW9.out.trans (hR.mono HBW9.out.size);simp only[putV,Act.put,List.setIfInBounds_toArray,List.set_cons_zero,List.set_cons_succ,List.drop_succ_cons,List.drop_zero,List.drop_nil];clear hR;go_wp2_with fail
 go_ret
 exact⟨rfl,HBZ.out⟩
end
end Go.Proofs.YtifconapjfdkcaaGreatDoor
