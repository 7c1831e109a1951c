/-
  The walk of IncidentFormats: it answers true.
  Condition: the lists read as lists of ints; the tables of powers of ten and of bytealg are laid.
-/
import Derived.Test.YtifconapjfdkcaaGreatDoorProg
import Derived.WalkKit
import Derived.WalkLawsBesides
import Derived.WalkSpells
import Derived.Lib.Hide
import Derived.Maps.AppendAt
import Derived.ProofKit
import Derived.Deep.Slices
import Derived.Lib.SplitLaws
import Derived.Lib.IndexMore
import Derived.Lib.Strings
import Derived.Lib.AppendStr
import Derived.Laws.Rows
import Derived.Laws.Tables
import Derived.Deep.RegionWith
import Derived.BigQuiet
import Derived.Deep.QuietTactic
import Derived.Test.YtifconapjfdkcaaGreatDoorGAA
import Derived.Deep.AppendLies
import Derived.Deep.RegionLaw
import Derived.StillTail
import Derived.RegionTactic
import Derived.Deep.DeepCutAuto
import Derived.IntWalk
import Derived.Maps.OwnOps
import Derived.Maps.Views
import Derived.StillTailTactics
import Derived.Sort.LotA
import Derived.Sort.Walk0
import Derived.Shelf.Strings.Builder1
import Derived.Shelf.Strings.Builder2
import Derived.Shelf.Small.Strs
import Derived.Shelf.Strings.BuilderF
import Derived.Shelf.Strconv.Itoa0
import Derived.Shelf.Strconv.Itoa1
import Derived.Shelf.LaysM
import Derived.Shelf.Strconv.Itoa2
import Derived.Shelf.Strconv.Itoa3
import Derived.Shelf.Strings.Search1
import Derived.Shelf.Strings.Search2
import Derived.Shelf.Strings.Search3
import Derived.Shelf.Strings.Cut
import Derived.Shelf.Strings.Count
import Derived.Shelf.Strings.Shaped
import Derived.Shelf.Strings.Prefix
import Derived.Shelf.Strings.Split
import Derived.Shelf.Strings.SplitShaped
import Derived.Shelf.Bits.Mul64
import Derived.Shelf.Strings.Repeat
import Derived.Shelf.Unicode.DecodeSlow
import Derived.Ground.SlsfProg
import Derived.Shelf.SlSortCmp.Insertion
import Derived.Shelf.SlSortCmp.Insertion1
import Derived.Test.YtifconapjfdkcaaGreatDoorGAB
import Derived.Lib.Bytealg
import Derived.Sort.OwnSortedInts
import Derived.Sort.WalkA
import Derived.Deep.OwnRows
import Derived.Laws.Strings
import Derived.Scope
import Derived.Laws.Sem
import Derived.Deep.CutBlock
import Derived.Lib.ItoaNum
import Derived.OwnWalk
import Derived.ChangeKeysEq
import Derived.Test.YtifconapjfdkcaaGreatDoorGAE
import Derived.Test.YtifconapjfdkcaaGreatDoorDAA
import Derived.Test.YtifconapjfdkcaaGreatDoorDAB
import Derived.Test.YtifconapjfdkcaaGreatDoorDAC
import Derived.Test.YtifconapjfdkcaaGreatDoorDAD
import Derived.Test.YtifconapjfdkcaaGreatDoorDAE
import Derived.Test.YtifconapjfdkcaaGreatDoorDAF
import Derived.Test.YtifconapjfdkcaaGreatDoorDAG
import Derived.Test.YtifconapjfdkcaaGreatDoorDAH
import Derived.Test.YtifconapjfdkcaaGreatDoorDAI
import Derived.Test.YtifconapjfdkcaaGreatDoorDAJ
import Derived.Test.YtifconapjfdkcaaGreatDoorDAK
import Derived.Test.YtifconapjfdkcaaGreatDoorDAL
import Derived.Test.YtifconapjfdkcaaGreatDoorDAM
import Derived.Test.YtifconapjfdkcaaGreatDoorDAN
import Derived.Test.YtifconapjfdkcaaGreatDoorDAO
import Derived.Test.YtifconapjfdkcaaGreatDoorDAP
import Derived.Test.YtifconapjfdkcaaGreatDoorDAQ
import Derived.Test.YtifconapjfdkcaaGreatDoorDAR
import Derived.Test.YtifconapjfdkcaaGreatDoorDAS
import Derived.Test.YtifconapjfdkcaaGreatDoorDAT
import Derived.Test.YtifconapjfdkcaaGreatDoorDAU
import Derived.Test.YtifconapjfdkcaaGreatDoorDAV
import Derived.Test.YtifconapjfdkcaaGreatDoorDAW
import Derived.Test.YtifconapjfdkcaaGreatDoorDAX
import Derived.Test.YtifconapjfdkcaaGreatDoorDAY
import Derived.Test.YtifconapjfdkcaaGreatDoorDAZ
import Derived.Test.YtifconapjfdkcaaGreatDoorDBA
import Derived.Test.YtifconapjfdkcaaGreatDoorDBB
import Derived.Test.YtifconapjfdkcaaGreatDoorDBC
import Derived.Test.YtifconapjfdkcaaGreatDoorDBD
import Derived.Test.YtifconapjfdkcaaGreatDoorDBE
import Derived.Test.YtifconapjfdkcaaGreatDoorDBF
import Derived.Test.YtifconapjfdkcaaGreatDoorDBG
import Derived.Test.YtifconapjfdkcaaGreatDoorDBH
import Derived.Test.YtifconapjfdkcaaGreatDoorDBI
import Derived.Test.YtifconapjfdkcaaGreatDoorDBJ
set_option linter.unusedSimpArgs false
set_option linter.unusedVariables false
set_option maxRecDepth 100000
set_option maxHeartbeats 12800000
namespace Go.Proofs.YtifconapjfdkcaaGreatDoor
open Go.RowKit
theorem lawFormats_any(l m a b:List Int)(A Am Aa Ab9:Option Addr)(n c nm cm na ca nb9 cb9:Nat)(w:World)(h:Sl (Ty.int .i64) w (all_ w) A n c l)(hm:Sl (Ty.int .i64) w (all_ w) Am nm cm m)(ha:Sl (Ty.int .i64) w (all_ w) Aa na ca a)(hb:Sl (Ty.int .i64) w (all_ w) Ab9 nb9 cb9 b)(hpw:Pow10 w)(hg:Glo w):Calls Tryz.prog 8 #[.slice A n c,.slice Am nm cm,.slice Aa na ca,.slice Ab9 nb9 cb9] w (TruePost w):=by
 have HPW:Hid (∀ V,Below w.heap.size w V→Pow10 V):=fun V hV=>hpw.next hV
 have HGL:Hid (∀ V,Below w.heap.size w V→Glo V):=fun V hV=>hg.next hV
 have HSL:=qH h;have HSM:Hid (∀ V,Below w.heap.size w V→Sl (Ty.int .i64) V (all_ V) Am nm cm m):=fun V hV=>hm.next hV
 have HSA:Hid (∀ V,Below w.heap.size w V→Sl (Ty.int .i64) V (all_ V) Aa na ca a):=fun V hV=>ha.next hV
 have HSB:Hid (∀ V,Below w.heap.size w V→Sl (Ty.int .i64) V (all_ V) Ab9 nb9 cb9 b):=fun V hV=>hb.next hV
 clear hpw hg h hm ha hb
 go_enter Tryz.func8,Tryz.ntmps8
 go_upto_region 1 with (fail)
 refine wp_region_lit ?_;refine qP rfl fun K9 hK9 =>?_
 go_simp
 refine hK9 _ _ ?_;clear hK9;refine qP rfl fun K9 hK9 =>?_
 go_simp
 go_at_call 11
 refine(problem_any l A n c w HSL.out).mono ?_;rintro e w1 ⟨cells,rfl,hpi,hb1⟩;obtain⟨v,cs,Ab,nb,cb,Ao,no,co,bs,os,hh,pp,rfl,htt,hcs,hbs,hos,ho0,ho5,hb2⟩:=hpi;have htt':=htt;obtain⟨A1,n1,d1,A2,n2,d2,A3,n3,d3,rfl, -, -, -⟩:=htt';obtain⟨k0,k1,k2,k3,k4,k5,k6,k7,k8,k9,k10,k11,k12,k13,rfl⟩:=list14 hcs.1;have HCS:=qH hcs;have HTT1:=qH htt.fl;have HB1:=qH hb1;have HBS:=qH hbs;have HOS:=qH hos;clear htt hcs hb1 hbs hos;refine hK9 _ _ ?_;clear hK9;refine qP rfl fun K9 hK9 =>?_
 go_simp
 refine hK9 _ _ ?_;clear hK9;refine qP rfl fun K9 hK9 =>?_
 go_simp
 go_at_call 12
 refine(people_any m Am nm cm w1 (HSM.out w1 HB1.out)).mono ?_;rintro e w1b ⟨A4,n4,c4,rfl,hs4,hb4⟩;have HSP:=qH hs4;have HTT2:Hid (Sl Ty.zone w1b (all_ w1b) A1 n1 d1 (probTT l).zones∧Sl Ty.airport w1b (all_ w1b) A2 n2 d2 (probTT l).airports∧Sl Ty.flight w1b (all_ w1b) A3 n3 d3 (probTT l).flights):=⟨HTT1.out.1.next hb4,HTT1.out.2.1.next hb4,HTT1.out.2.2.next hb4⟩
 have HB1b:Hid (Below w.heap.size w w1b):=HB1.out.trans (hb4.mono HB1.out.size);have HTT1b:=HTT2;clear hs4 hb4 HTT1 HB1 HTT2;refine hK9 _ _ ?_;clear hK9;refine qP rfl fun K9 hK9 =>?_
 go_simp
 refine hK9 _ _ ?_;clear hK9;have HXP:=qH (qK w1b (.cells zProb 38));have HK1:Hid (∀ q,q<w1b.heap.size→(w1b.alloc (.cells zProb 38)).heap[q]? = w1b.heap[q]?):=fun q hq=>Below.heap_alloc _ _ _ hq
 have HB7:Hid (Below w.heap.size w (w1b.alloc (.cells zProb 38))):=HB1b.out.alloc HB1b.out.size _;have hz7:(w1b.alloc (.cells zProb 38)).heap.size=w1b.heap.size+1:=by simp
 have hone:((#[.slice A1 n1 d1,.slice A2 n2 d2,.slice A3 n3 d3,k0,k1,k2,k3,k4,k5,k6,k7,k8,k9,k10,k11,k12,k13,.slice Ab nb cb,.slice Ao no co,.int .i64 hh,.int .i64 pp]:Array Value)).all (·.oneCell')=true:=by
  have h14:=HCS.out.2;rw[Array.all_eq_true];intro i hi;have hmem:((#[.slice A1 n1 d1,.slice A2 n2 d2,.slice A3 n3 d3,k0,k1,k2,k3,k4,k5,k6,k7,k8,k9,k10,k11,k12,k13,.slice Ab nb cb,.slice Ao no co,.int .i64 hh,.int .i64 pp]:Array Value))[i]∈(#[.slice A1 n1 d1,.slice A2 n2 d2,.slice A3 n3 d3,k0,k1,k2,k3,k4,k5,k6,k7,k8,k9,k10,k11,k12,k13,.slice Ab nb cb,.slice Ao no co,.int .i64 hh,.int .i64 pp]:Array Value).toList:=by simp
  have hcs2 : ∀ u∈([.slice A1 n1 d1,.slice A2 n2 d2,.slice A3 n3 d3]++([k0,k1,k2,k3,k4,k5,k6,k7,k8,k9,k10,k11,k12,k13]++[.slice Ab nb cb,.slice Ao no co,.int .i64 hh,.int .i64 pp]):List Value),u.oneCell'=true:=fun u hu=>by
   rcases List.mem_append.1 hu with h|h
   ·simp at h;rcases h with rfl|rfl|rfl <;> rfl
   ·rcases List.mem_append.1 h with h|h
    ·exact h14 u h
    ·simp at h;rcases h with rfl|rfl|rfl|rfl <;> rfl
  exact hcs2 _ hmem
 change wpList _ _ _ _ _ (w1b.alloc (.cells zProb 38));generalize w1b.alloc (.cells zProb 38)=w7 at*;refine wpList_store_row rfl _ _ _ rfl w1b.heap.size #[.slice A1 n1 d1,.slice A2 n2 d2,.slice A3 n3 d3,k0,k1,k2,k3,k4,k5,k6,k7,k8,k9,k10,k11,k12,k13,.slice Ab nb cb,.slice Ao no co,.int .i64 hh,.int .i64 pp] (by simp[Act.eval,Act.put]) (by simp[Act.eval,Act.put]) _ _ HXP.out (by kernel_rfl) rfl hone ?_;clear hone;have HBX:Hid ((w7.setRow w1b.heap.size #[.slice A1 n1 d1,.slice A2 n2 d2,.slice A3 n3 d3,k0,k1,k2,k3,k4,k5,k6,k7,k8,k9,k10,k11,k12,k13,.slice Ab nb cb,.slice Ao no co,.int .i64 hh,.int .i64 pp]).heap[w1b.heap.size]? = some (.cells #[.slice A1 n1 d1,.slice A2 n2 d2,.slice A3 n3 d3,k0,k1,k2,k3,k4,k5,k6,k7,k8,k9,k10,k11,k12,k13,.slice Ab nb cb,.slice Ao no co,.int .i64 hh,.int .i64 pp] 38 (0,0))):=setRow_heap _ _ _ _ _ _ HXP.out;have hk : ∀ q,q<w1b.heap.size→(w7.setRow w1b.heap.size #[.slice A1 n1 d1,.slice A2 n2 d2,.slice A3 n3 d3,k0,k1,k2,k3,k4,k5,k6,k7,k8,k9,k10,k11,k12,k13,.slice Ab nb cb,.slice Ao no co,.int .i64 hh,.int .i64 pp]).heap[q]? = w1b.heap[q]? :=fun q hq=>(setRow_other _ _ _ _ (by omega)).trans (HK1.out q hq)
 have hzz:(w7.setRow w1b.heap.size #[.slice A1 n1 d1,.slice A2 n2 d2,.slice A3 n3 d3,k0,k1,k2,k3,k4,k5,k6,k7,k8,k9,k10,k11,k12,k13,.slice Ab nb cb,.slice Ao no co,.int .i64 hh,.int .i64 pp]).heap.size=w7.heap.size:=by simp
 have HT:Hid (Sl Ty.zone (w7.setRow w1b.heap.size #[.slice A1 n1 d1,.slice A2 n2 d2,.slice A3 n3 d3,k0,k1,k2,k3,k4,k5,k6,k7,k8,k9,k10,k11,k12,k13,.slice Ab nb cb,.slice Ao no co,.int .i64 hh,.int .i64 pp]) (all_ (w7.setRow w1b.heap.size #[.slice A1 n1 d1,.slice A2 n2 d2,.slice A3 n3 d3,k0,k1,k2,k3,k4,k5,k6,k7,k8,k9,k10,k11,k12,k13,.slice Ab nb cb,.slice Ao no co,.int .i64 hh,.int .i64 pp])) A1 n1 d1 (probTT l).zones∧Sl Ty.airport (w7.setRow w1b.heap.size #[.slice A1 n1 d1,.slice A2 n2 d2,.slice A3 n3 d3,k0,k1,k2,k3,k4,k5,k6,k7,k8,k9,k10,k11,k12,k13,.slice Ab nb cb,.slice Ao no co,.int .i64 hh,.int .i64 pp]) (all_ (w7.setRow w1b.heap.size #[.slice A1 n1 d1,.slice A2 n2 d2,.slice A3 n3 d3,k0,k1,k2,k3,k4,k5,k6,k7,k8,k9,k10,k11,k12,k13,.slice Ab nb cb,.slice Ao no co,.int .i64 hh,.int .i64 pp])) A2 n2 d2 (probTT l).airports∧Sl Ty.flight (w7.setRow w1b.heap.size #[.slice A1 n1 d1,.slice A2 n2 d2,.slice A3 n3 d3,k0,k1,k2,k3,k4,k5,k6,k7,k8,k9,k10,k11,k12,k13,.slice Ab nb cb,.slice Ao no co,.int .i64 hh,.int .i64 pp]) (all_ (w7.setRow w1b.heap.size #[.slice A1 n1 d1,.slice A2 n2 d2,.slice A3 n3 d3,k0,k1,k2,k3,k4,k5,k6,k7,k8,k9,k10,k11,k12,k13,.slice Ab nb cb,.slice Ao no co,.int .i64 hh,.int .i64 pp])) A3 n3 d3 (probTT l).flights) :=
  ⟨(HTT1b.out.1.keep fun b hb=>hk b hb).more fun b hb=>(by show b<_;have:b<w1b.heap.size:=hb;omega),(HTT1b.out.2.1.keep fun b hb=>hk b hb).more fun b hb=>(by show b<_;have:b<w1b.heap.size:=hb;omega),(HTT1b.out.2.2.keep fun b hb=>hk b hb).more fun b hb=>(by show b<_;have:b<w1b.heap.size:=hb;omega)⟩
 have HS4:Hid (Sl Ty.person (w7.setRow w1b.heap.size #[.slice A1 n1 d1,.slice A2 n2 d2,.slice A3 n3 d3,k0,k1,k2,k3,k4,k5,k6,k7,k8,k9,k10,k11,k12,k13,.slice Ab nb cb,.slice Ao no co,.int .i64 hh,.int .i64 pp]) (all_ (w7.setRow w1b.heap.size #[.slice A1 n1 d1,.slice A2 n2 d2,.slice A3 n3 d3,k0,k1,k2,k3,k4,k5,k6,k7,k8,k9,k10,k11,k12,k13,.slice Ab nb cb,.slice Ao no co,.int .i64 hh,.int .i64 pp])) A4 n4 c4 (dPeople m)):=(HSP.out.keep fun b hb=>hk b hb).more fun b hb=>(by show b<_;have:b<w1b.heap.size:=hb;omega)
 have HB2:Hid (Below w.heap.size w (w7.setRow w1b.heap.size #[.slice A1 n1 d1,.slice A2 n2 d2,.slice A3 n3 d3,k0,k1,k2,k3,k4,k5,k6,k7,k8,k9,k10,k11,k12,k13,.slice Ab nb cb,.slice Ao no co,.int .i64 hh,.int .i64 pp])):=below_setRowD HB7.out HB1b.out.size;generalize w7.setRow w1b.heap.size #[.slice A1 n1 d1,.slice A2 n2 d2,.slice A3 n3 d3,k0,k1,k2,k3,k4,k5,k6,k7,k8,k9,k10,k11,k12,k13,.slice Ab nb cb,.slice Ao no co,.int .i64 hh,.int .i64 pp]=w2 at*;generalize w1b.heap.size=P at*;clear HXP HK1 HB7 hz7 hk hzz HTT1b HB1b HSP;have HBW2:=HB2;have HBX2:=HBX;have HT2:=HT;clear HB2 HBX HT HCS HBS HOS ho0 ho5 hb2 HSL HSM;have hdc:=dCount_range l;have hpc:=pCount_range m;have y0:=block_cell HBX2.out 0;have y1:=block_cell HBX2.out 1;have y2:=block_cell HBX2.out 2;have HIN:=qH (incs_any (probTT l) (dPeople m) a A1 A2 A3 A4 Aa n1 n2 n3 n4 na d1 d2 d3 c4 ca w2 (HSA.out w2 HBW2.out) HT2.out.2.2 HS4.out (by rw[probTT_len];omega) (by rw[dPeople_len];omega) (probTT_dep l));have HI3:Hid ((dIncs (probTT l) (dPeople m) a).length≤3):=by rw[dIncs_len];exact iCount_range a
 have HE0:Hid (incE (probTT l) (dPeople m) (dIncs (probTT l) (dPeople m) a)=0):=dIncs_ok l m a;have HPO:=qH (people_ok m);have HTO:=qH (probTT_ok l);clear hdc hpc HSA;generalize dIncs (probTT l) (dPeople m) a=xs at*;generalize dPeople m=ps at*;generalize probTT l=T0 at*;go_upto_region 3 with (go_at_call 13;refine HIN.out.mono ?_;rintro e w6 ⟨Ax,nx,cx,rfl,hsx,hb26⟩)
 have HSX6:=qH hsx;have HB26:=qH hb26;clear hsx hb26 y0 y1 y2 HIN;go_upto_region 4 with (go_at_call 14;refine(spoil_any xs b Ax Ab9 nx cx nb9 cb9 w6 HSX6.out (HSB.out w6 (HBW2.out.trans (HB26.out.mono HBW2.out.size))) HI3.out).mono ?_;rintro e V0 ⟨Ay,ny,cy,rfl,hsy,hb67⟩)
 have hbr:Below w2.heap.size w2 V0:=HB26.out.trans (hb67.mono HB26.out.size);have HBX0:Hid (V0.heap[P]? = _):=(hbr.block _ (Array.getElem?_eq_some_iff.1 HBX2.out).1).trans HBX2.out;have HT0:Hid (Sl Ty.zone V0 (all_ V0) A1 n1 d1 T0.zones∧Sl Ty.airport V0 (all_ V0) A2 n2 d2 T0.airports∧Sl Ty.flight V0 (all_ V0) A3 n3 d3 T0.flights):=⟨HT2.out.1.next hbr,HT2.out.2.1.next hbr,HT2.out.2.2.next hbr⟩
 have HBW0:Hid (Below w.heap.size w V0):=HBW2.out.trans (hbr.mono HBW2.out.size);have HSY:=qH hsy;have HSX:=qH (HSX6.out.next hb67);have HS40:=qH (HS4.out.next hbr);clear hb67 hsy hbr HBX2 HT2 HBW2 HS4 HI3 HSB HSX6 HB26;generalize spoilI xs b=ys at*;have HPV:Hid (∀ V,Below V0.heap.size V0 V→Below w.heap.size w V):=fun V hV=>HBW0.out.trans (hV.mono HBW0.out.size)
 have HC1:Hid (∀ V,Below V0.heap.size V0 V→Calls Tryz.prog 24 #[.agg #[.slice A1 n1 d1,.slice A2 n2 d2,.slice A3 n3 d3],.slice A4 n4 c4,.slice Ax nx cx] V (FmtPost (incS T0 xs,0) V)):=fun V hV=>by
  rw[←fmtI_zero HE0.out];exact incFormat_any T0 ps xs A1 A2 A3 A4 Ax n1 n2 n3 n4 nx d1 d2 d3 c4 cx V HTO.out HPO.out (HT0.out.1.next hV) (HT0.out.2.1.next hV) (HT0.out.2.2.next hV) (HS40.out.next hV) (HSX.out.next hV) (HPW.out V (HPV.out V hV))
 have HC2:Hid (∀ V,Below V0.heap.size V0 V→Calls Tryz.prog 25 #[.agg #[.slice A1 n1 d1,.slice A2 n2 d2,.slice A3 n3 d3],.slice A4 n4 c4,.slice Ax nx cx] V (FmtPost (incS T0 xs,0) V)):=fun V hV=>by
  rw[←fmtI_zero HE0.out];exact formatR_any T0 ps xs A1 A2 A3 A4 Ax n1 n2 n3 n4 nx d1 d2 d3 c4 cx V HTO.out HPO.out (HT0.out.1.next hV) (HT0.out.2.1.next hV) (HT0.out.2.2.next hV) (HS40.out.next hV) (HSX.out.next hV) (HPW.out V (HPV.out V hV))
 have HC3:Hid (∀ V,Below V0.heap.size V0 V→Calls Tryz.prog 24 #[.agg #[.slice A1 n1 d1,.slice A2 n2 d2,.slice A3 n3 d3],.slice A4 n4 c4,.slice Ay ny cy] V (FmtPost (fmtI T0 ps ys) V)):=fun V hV =>
  incFormat_any T0 ps ys A1 A2 A3 A4 Ay n1 n2 n3 n4 ny d1 d2 d3 c4 cy V HTO.out HPO.out (HT0.out.1.next hV) (HT0.out.2.1.next hV) (HT0.out.2.2.next hV) (HS40.out.next hV) (HSY.out.next hV) (HPW.out V (HPV.out V hV))
 have HC4:Hid (∀ V,Below V0.heap.size V0 V→Calls Tryz.prog 25 #[.agg #[.slice A1 n1 d1,.slice A2 n2 d2,.slice A3 n3 d3],.slice A4 n4 c4,.slice Ay ny cy] V (FmtPost (fmtI T0 ps ys) V)):=fun V hV =>
  formatR_any T0 ps ys A1 A2 A3 A4 Ay n1 n2 n3 n4 ny d1 d2 d3 c4 cy V HTO.out HPO.out (HT0.out.1.next hV) (HT0.out.2.1.next hV) (HT0.out.2.2.next hV) (HS40.out.next hV) (HSY.out.next hV) (HPW.out V (HPV.out V hV))
 have hsz:=incS_size HE0.out;have HC5:Hid (∀ V,Below V0.heap.size V0 V→Calls Tryz.prog 26 #[.agg #[.slice A1 n1 d1,.slice A2 n2 d2,.slice A3 n3 d3],.slice A4 n4 c4,.string (incS T0 xs)] V (IParPost (xs,0,0) V)):=fun V hV=>by
  rw[←inc_back HE0.out (by omega)];exact incParse_any T0 ps (incS T0 xs) A1 A2 A3 A4 n1 n2 n3 n4 d1 d2 d3 c4 V HTO.out HPO.out (HT0.out.1.next hV) (HT0.out.2.1.next hV) (HT0.out.2.2.next hV) (HS40.out.next hV) (by unfold maxLen;omega) (HGL.out V (HPV.out V hV))
 have HSI:Hid (∀ V,Below V0.heap.size V0 V→Sl Ty.inc V (all_ V) Ax nx cx xs):=fun V hV=>HSX.out.next hV
 clear HT0 HS40 HSX HSY HE0 hsz HTO HPO;generalize incS T0 xs=sx at*;generalize fmtI T0 ps ys=fy at*;obtain⟨sy,ey⟩:=fy;have HB00:Hid (Below V0.heap.size V0 V0):=qC _ _;have x0:=block_cell HBX0.out 0;have x1:=block_cell HBX0.out 1;have x2:=block_cell HBX0.out 2;go_upto_region 5 with (go_at_call 24;refine(HC1.out V0 HB00.out).mono ?_;rintro e w10 ⟨rfl,hb10⟩)
 have HB010:Hid (Below V0.heap.size V0 w10):=HB00.out.trans (hb10.mono HB00.out.size);have HBX10:Hid (w10.heap[P]? = _):=(hb10.block _ (Array.getElem?_eq_some_iff.1 HBX0.out).1).trans HBX0.out;clear hb10 x0 x1 x2;have x0:=block_cell HBX10.out 0;have x1:=block_cell HBX10.out 1;have x2:=block_cell HBX10.out 2;go_upto_region 6 with (go_at_call 25;refine(HC2.out w10 HB010.out).mono ?_;rintro e w11 ⟨rfl,hb11⟩)
 have HB011:Hid (Below V0.heap.size V0 w11):=HB010.out.trans (hb11.mono HB010.out.size);have HBX11:Hid (w11.heap[P]? = _):=(hb11.block _ (Array.getElem?_eq_some_iff.1 HBX10.out).1).trans HBX10.out;clear hb11 x0 x1 x2;have x0:=block_cell HBX11.out 0;have x1:=block_cell HBX11.out 1;have x2:=block_cell HBX11.out 2;go_upto_region 7 with (go_at_call 24;refine(HC3.out w11 HB011.out).mono ?_;rintro e w12 ⟨rfl,hb12⟩)
 have HB012:Hid (Below V0.heap.size V0 w12):=HB011.out.trans (hb12.mono HB011.out.size);have HBX12:Hid (w12.heap[P]? = _):=(hb12.block _ (Array.getElem?_eq_some_iff.1 HBX11.out).1).trans HBX11.out;clear hb12 x0 x1 x2;have x0:=block_cell HBX12.out 0;have x1:=block_cell HBX12.out 1;have x2:=block_cell HBX12.out 2;go_upto_region 8 with (go_at_call 25;refine(HC4.out w12 HB012.out).mono ?_;rintro e w13 ⟨rfl,hb13⟩)
 have HB013:Hid (Below V0.heap.size V0 w13):=HB012.out.trans (hb13.mono HB012.out.size);have HBX13:Hid (w13.heap[P]? = _):=(hb13.block _ (Array.getElem?_eq_some_iff.1 HBX12.out).1).trans HBX12.out;clear hb13 x0 x1 x2;have x0:=block_cell HBX13.out 0;have x1:=block_cell HBX13.out 1;have x2:=block_cell HBX13.out 2;go_upto_region 9 with (go_at_call 26;refine(HC5.out w13 HB013.out).mono ?_;rintro e w14 ⟨Az,nz,cz,rfl,hsz,hb14⟩)
 have HB014:Hid (Below V0.heap.size V0 w14):=HB013.out.trans (hb14.mono HB013.out.size);have HSZ:=qH hsz;clear hb14 hsz x0 x1 x2 HC1 HC2 HC3 HC4 HC5 HB013 HBX13;have e1:(ey==ey)=true:=by simp
 have HSA2:=qH (sameIncs_any xs Az Ax nz nx cz cx w14 HSZ.out (HSI.out w14 HB014.out));go_wp2_with (first
  | (go_at_call 27;refine HSA2.out.mono ?_;rintro e w15 ⟨rfl,hb15⟩
     have HB015:Hid (Below w.heap.size w w15):=HPV.out w15 (HB014.out.trans (hb15.mono HB014.out.size));clear hb15)
  | (go_at_call 18;refine(known_any w15 (HPW.out w15 HB015.out) (HGL.out w15 HB015.out)).mono ?_;rintro e wy ⟨rfl,hby⟩
     have HBWy:Hid (Below w.heap.size w wy):=HB015.out.trans (hby.mono HB015.out.size)))
 go_ret
 exact⟨rfl,HBWy.out⟩
end Go.Proofs.YtifconapjfdkcaaGreatDoor
