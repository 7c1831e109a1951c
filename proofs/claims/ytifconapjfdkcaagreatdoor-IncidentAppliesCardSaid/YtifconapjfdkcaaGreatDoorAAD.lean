/-
  The walk of IncidentApplies: it answers true.
  Condition: the lists read as lists of ints; the tables of powers of ten and of bytealg are laid.
-/
import Derived.Test.YtifconapjfdkcaaGreatDoorProg
import Derived.WalkKit
import Derived.WalkLawsBesides
import Derived.WalkSpells
import Derived.Lib.Hide
import Derived.Maps.AppendAt
import Derived.ProofKit
import Derived.Deep.Slices
import Derived.Lib.SplitLaws
import Derived.Lib.IndexMore
import Derived.Lib.Strings
import Derived.Lib.AppendStr
import Derived.Laws.Rows
import Derived.Laws.Tables
import Derived.Deep.RegionWith
import Derived.BigQuiet
import Derived.Deep.QuietTactic
import Derived.Deep.AppendLies
import Derived.Deep.RegionLaw
import Derived.StillTail
import Derived.RegionTactic
import Derived.Deep.DeepCutAuto
import Derived.Test.YtifconapjfdkcaaGreatDoorAAA
import Derived.IntWalk
import Derived.Maps.OwnOps
import Derived.Maps.Views
import Derived.StillTailTactics
import Derived.Sort.LotA
import Derived.Sort.Walk0
import Derived.Shelf.Strings.Builder1
import Derived.Shelf.Strings.Builder2
import Derived.Shelf.Small.Strs
import Derived.Shelf.Strings.BuilderF
import Derived.Shelf.Strconv.Itoa0
import Derived.Shelf.Strconv.Itoa1
import Derived.Shelf.LaysM
import Derived.Shelf.Strconv.Itoa2
import Derived.Shelf.Strconv.Itoa3
import Derived.Shelf.Strings.Search1
import Derived.Shelf.Strings.Search2
import Derived.Shelf.Strings.Search3
import Derived.Shelf.Strings.Cut
import Derived.Shelf.Strings.Count
import Derived.Shelf.Strings.Shaped
import Derived.Shelf.Strings.Prefix
import Derived.Shelf.Strings.Split
import Derived.Shelf.Strings.SplitShaped
import Derived.Shelf.Bits.Mul64
import Derived.Shelf.Strings.Repeat
import Derived.Shelf.Unicode.DecodeSlow
import Derived.Ground.SlsfProg
import Derived.Shelf.SlSortCmp.Insertion
import Derived.Shelf.SlSortCmp.Insertion1
import Derived.Lib.Bytealg
import Derived.Sort.OwnSortedInts
import Derived.Sort.WalkA
import Derived.Deep.OwnRows
import Derived.Laws.Strings
import Derived.Scope
import Derived.Laws.Sem
import Derived.Deep.CutBlock
import Derived.Lib.ItoaNum
import Derived.Laws.Externs
import Derived.OwnWalk
import Derived.Sort.Grow
import Derived.Test.YtifconapjfdkcaaGreatDoorAAB
import Derived.Test.YtifconapjfdkcaaGreatDoorAAC
import Derived.Test.YtifconapjfdkcaaGreatDoorBAA
import Derived.Test.YtifconapjfdkcaaGreatDoorBAB
import Derived.Test.YtifconapjfdkcaaGreatDoorBAC
import Derived.Test.YtifconapjfdkcaaGreatDoorBAD
import Derived.Test.YtifconapjfdkcaaGreatDoorBAE
import Derived.Test.YtifconapjfdkcaaGreatDoorBAF
import Derived.Test.YtifconapjfdkcaaGreatDoorBAG
import Derived.Test.YtifconapjfdkcaaGreatDoorBAH
import Derived.Test.YtifconapjfdkcaaGreatDoorBAI
import Derived.Test.YtifconapjfdkcaaGreatDoorBAJ
import Derived.Test.YtifconapjfdkcaaGreatDoorBAK
import Derived.Test.YtifconapjfdkcaaGreatDoorBAL
import Derived.Test.YtifconapjfdkcaaGreatDoorBAM
import Derived.Test.YtifconapjfdkcaaGreatDoorBAN
import Derived.Test.YtifconapjfdkcaaGreatDoorBAO
import Derived.Test.YtifconapjfdkcaaGreatDoorBAP
import Derived.Test.YtifconapjfdkcaaGreatDoorBAQ
import Derived.Test.YtifconapjfdkcaaGreatDoorBAR
import Derived.Test.YtifconapjfdkcaaGreatDoorBAS
import Derived.Test.YtifconapjfdkcaaGreatDoorBAT
import Derived.Test.YtifconapjfdkcaaGreatDoorBAU
import Derived.Test.YtifconapjfdkcaaGreatDoorBAV
import Derived.Test.YtifconapjfdkcaaGreatDoorBAW
import Derived.Test.YtifconapjfdkcaaGreatDoorBAX
import Derived.Test.YtifconapjfdkcaaGreatDoorBAY
import Derived.Test.YtifconapjfdkcaaGreatDoorBAZ
import Derived.Test.YtifconapjfdkcaaGreatDoorBBA
import Derived.Test.YtifconapjfdkcaaGreatDoorBBB
import Derived.Test.YtifconapjfdkcaaGreatDoorBBC
import Derived.Test.YtifconapjfdkcaaGreatDoorBBD
import Derived.Test.YtifconapjfdkcaaGreatDoorBBE
import Derived.Test.YtifconapjfdkcaaGreatDoorBBF
import Derived.Test.YtifconapjfdkcaaGreatDoorBBG
import Derived.Test.YtifconapjfdkcaaGreatDoorBBH
import Derived.Test.YtifconapjfdkcaaGreatDoorBBI
import Derived.Test.YtifconapjfdkcaaGreatDoorBBJ
import Derived.Test.YtifconapjfdkcaaGreatDoorBBK
import Derived.Test.YtifconapjfdkcaaGreatDoorBBL
import Derived.Test.YtifconapjfdkcaaGreatDoorBBM
import Derived.Test.YtifconapjfdkcaaGreatDoorBBN
import Derived.Test.YtifconapjfdkcaaGreatDoorBBO
import Derived.Test.YtifconapjfdkcaaGreatDoorBBP
import Derived.Test.YtifconapjfdkcaaGreatDoorBBQ
import Derived.Test.YtifconapjfdkcaaGreatDoorBBR
import Derived.Test.YtifconapjfdkcaaGreatDoorBBS
import Derived.Test.YtifconapjfdkcaaGreatDoorBBT
import Derived.Test.YtifconapjfdkcaaGreatDoorBBU
import Derived.Test.YtifconapjfdkcaaGreatDoorBBV
import Derived.Test.YtifconapjfdkcaaGreatDoorBBW
namespace Go.Proofs.YtifconapjfdkcaaGreatDoor
set_option linter.unusedSimpArgs false
set_option linter.unusedVariables false
open Go.RowKit
theorem spoilI_len(xs:List GInc)(b:List Int)(h:xs.length≤3):(spoilI xs b).length≤33:=by
 unfold spoilI;split
 ·rw[List.length_replicate];exact Nat.le_refl _
 ·have:=(out0_len xs h).2;rw[List.length_set];omega
set_option maxRecDepth 100000 in
set_option maxHeartbeats 1600000 in
theorem lawApplies_any(l m a b:List Int)(A Am Aa Ab9:Option Addr)(n c nm cm na ca nb9 cb9:Nat)(w:World)(h:Sl (Ty.int .i64) w (all_ w) A n c l)(hm:Sl (Ty.int .i64) w (all_ w) Am nm cm m)(ha:Sl (Ty.int .i64) w (all_ w) Aa na ca a)(hb:Sl (Ty.int .i64) w (all_ w) Ab9 nb9 cb9 b)(hpw:Pow10 w)(hg:Glo w):Calls Tryz.prog 4 #[.slice A n c,.slice Am nm cm,.slice Aa na ca,.slice Ab9 nb9 cb9] w (TruePost w):=by
 have HPW:Hid (∀ V,Below w.heap.size w V→Pow10 V):=fun V hV=>hpw.next hV
 have HGL:Hid (∀ V,Below w.heap.size w V→Glo V):=fun V hV=>hg.next hV
 have HSL:=Lib.hid h;have HSM:Hid (∀ V,Below w.heap.size w V→Sl (Ty.int .i64) V (all_ V) Am nm cm m):=fun V hV=>hm.next hV
 have HSA:Hid (∀ V,Below w.heap.size w V→Sl (Ty.int .i64) V (all_ V) Aa na ca a):=fun V hV=>ha.next hV
 have HSB:Hid (∀ V,Below w.heap.size w V→Sl (Ty.int .i64) V (all_ V) Ab9 nb9 cb9 b):=fun V hV=>hb.next hV
 clear hpw hg h hm ha hb
 go_enter Tryz.func4,Tryz.ntmps4
 go_upto_region 1 with (fail)
 refine wp_region_lit ?_;refine wpList_plain rfl fun K9 hK9 =>?_
 go_simp
 refine hK9 _ _ ?_;clear hK9;refine wpList_plain rfl fun K9 hK9 =>?_
 go_simp
 go_at_call 11
 refine(problem_any l A n c w HSL.out).mono ?_;rintro e w1 ⟨cells,rfl,hpi,hb1⟩;obtain⟨v,cs,Ab,nb,cb,Ao,no,co,bs,os,hh,pp,rfl,htt,hcs,hbs,hos,ho0,ho5,hb2⟩:=hpi;have htt':=htt;obtain⟨A1,n1,d1,A2,n2,d2,A3,n3,d3,rfl, -, -, -⟩:=htt';obtain⟨k0,k1,k2,k3,k4,k5,k6,k7,k8,k9,k10,k11,k12,k13,rfl⟩:=list14 hcs.1;have HCS:=Lib.hid hcs;have HTT1:=Lib.hid htt.fl;have HB1:=Lib.hid hb1;have HBS:=Lib.hid hbs;have HOS:=Lib.hid hos;clear htt hcs hb1 hbs hos;refine hK9 _ _ ?_;clear hK9;refine wpList_plain rfl fun K9 hK9 =>?_
 go_simp
 refine hK9 _ _ ?_;clear hK9;refine wpList_plain rfl fun K9 hK9 =>?_
 go_simp
 go_at_call 12
 refine(people_any m Am nm cm w1 (HSM.out w1 HB1.out)).mono ?_;rintro e w1b ⟨A4,n4,c4,rfl,hs4,hb4⟩;have HSP:=Lib.hid hs4;have HTT2:Hid (Sl Ty.zone w1b (all_ w1b) A1 n1 d1 (probTT l).zones∧Sl Ty.airport w1b (all_ w1b) A2 n2 d2 (probTT l).airports∧Sl Ty.flight w1b (all_ w1b) A3 n3 d3 (probTT l).flights):=⟨HTT1.out.1.next hb4,HTT1.out.2.1.next hb4,HTT1.out.2.2.next hb4⟩
 have HB1b:Hid (Below w.heap.size w w1b):=HB1.out.trans (hb4.mono HB1.out.size);have HTT1b:=HTT2;clear hs4 hb4 HTT1 HB1 HTT2;refine hK9 _ _ ?_;clear hK9;refine wpList_plain rfl fun K9 hK9 =>?_
 go_simp
 refine hK9 _ _ ?_;clear hK9;have HXP:=Lib.hid (heap_alloc_new w1b (.cells zProb 38));have HK1:Hid (∀ q,q<w1b.heap.size→(w1b.alloc (.cells zProb 38)).heap[q]? = w1b.heap[q]?):=fun q hq=>Below.heap_alloc _ _ _ hq
 have HB7:Hid (Below w.heap.size w (w1b.alloc (.cells zProb 38))):=HB1b.out.alloc HB1b.out.size _;have hz7:(w1b.alloc (.cells zProb 38)).heap.size=w1b.heap.size+1:=by simp
 have hone:((#[.slice A1 n1 d1,.slice A2 n2 d2,.slice A3 n3 d3,k0,k1,k2,k3,k4,k5,k6,k7,k8,k9,k10,k11,k12,k13,.slice Ab nb cb,.slice Ao no co,.int .i64 hh,.int .i64 pp]:Array Value)).all (·.oneCell')=true:=by
  have h14:=HCS.out.2;rw[Array.all_eq_true];intro i hi;have hmem:((#[.slice A1 n1 d1,.slice A2 n2 d2,.slice A3 n3 d3,k0,k1,k2,k3,k4,k5,k6,k7,k8,k9,k10,k11,k12,k13,.slice Ab nb cb,.slice Ao no co,.int .i64 hh,.int .i64 pp]:Array Value))[i]∈(#[.slice A1 n1 d1,.slice A2 n2 d2,.slice A3 n3 d3,k0,k1,k2,k3,k4,k5,k6,k7,k8,k9,k10,k11,k12,k13,.slice Ab nb cb,.slice Ao no co,.int .i64 hh,.int .i64 pp]:Array Value).toList:=by simp
  have hcs2 : ∀ u∈([.slice A1 n1 d1,.slice A2 n2 d2,.slice A3 n3 d3]++([k0,k1,k2,k3,k4,k5,k6,k7,k8,k9,k10,k11,k12,k13]++[.slice Ab nb cb,.slice Ao no co,.int .i64 hh,.int .i64 pp]):List Value),u.oneCell'=true:=fun u hu=>by
   rcases List.mem_append.1 hu with h|h
   ·simp at h;rcases h with rfl|rfl|rfl <;> rfl
   ·rcases List.mem_append.1 h with h|h
    ·exact h14 u h
    ·simp at h;rcases h with rfl|rfl|rfl|rfl <;> rfl
  exact hcs2 _ hmem
 change wpList _ _ _ _ _ (w1b.alloc (.cells zProb 38));generalize w1b.alloc (.cells zProb 38)=w7 at*;refine wpList_store_row rfl _ _ _ rfl w1b.heap.size #[.slice A1 n1 d1,.slice A2 n2 d2,.slice A3 n3 d3,k0,k1,k2,k3,k4,k5,k6,k7,k8,k9,k10,k11,k12,k13,.slice Ab nb cb,.slice Ao no co,.int .i64 hh,.int .i64 pp] (by simp[Act.eval,Act.put]) (by simp[Act.eval,Act.put]) _ _ HXP.out (by kernel_rfl) rfl hone ?_;clear hone;have HBX:Hid ((w7.setRow w1b.heap.size #[.slice A1 n1 d1,.slice A2 n2 d2,.slice A3 n3 d3,k0,k1,k2,k3,k4,k5,k6,k7,k8,k9,k10,k11,k12,k13,.slice Ab nb cb,.slice Ao no co,.int .i64 hh,.int .i64 pp]).heap[w1b.heap.size]? = some (.cells #[.slice A1 n1 d1,.slice A2 n2 d2,.slice A3 n3 d3,k0,k1,k2,k3,k4,k5,k6,k7,k8,k9,k10,k11,k12,k13,.slice Ab nb cb,.slice Ao no co,.int .i64 hh,.int .i64 pp] 38 (0,0))):=setRow_heap _ _ _ _ _ _ HXP.out;have hk : ∀ q,q<w1b.heap.size→(w7.setRow w1b.heap.size #[.slice A1 n1 d1,.slice A2 n2 d2,.slice A3 n3 d3,k0,k1,k2,k3,k4,k5,k6,k7,k8,k9,k10,k11,k12,k13,.slice Ab nb cb,.slice Ao no co,.int .i64 hh,.int .i64 pp]).heap[q]? = w1b.heap[q]? :=fun q hq=>(setRow_other _ _ _ _ (by omega)).trans (HK1.out q hq)
 have hzz:(w7.setRow w1b.heap.size #[.slice A1 n1 d1,.slice A2 n2 d2,.slice A3 n3 d3,k0,k1,k2,k3,k4,k5,k6,k7,k8,k9,k10,k11,k12,k13,.slice Ab nb cb,.slice Ao no co,.int .i64 hh,.int .i64 pp]).heap.size=w7.heap.size:=by simp
 have HT:Hid (Sl Ty.zone (w7.setRow w1b.heap.size #[.slice A1 n1 d1,.slice A2 n2 d2,.slice A3 n3 d3,k0,k1,k2,k3,k4,k5,k6,k7,k8,k9,k10,k11,k12,k13,.slice Ab nb cb,.slice Ao no co,.int .i64 hh,.int .i64 pp]) (all_ (w7.setRow w1b.heap.size #[.slice A1 n1 d1,.slice A2 n2 d2,.slice A3 n3 d3,k0,k1,k2,k3,k4,k5,k6,k7,k8,k9,k10,k11,k12,k13,.slice Ab nb cb,.slice Ao no co,.int .i64 hh,.int .i64 pp])) A1 n1 d1 (probTT l).zones∧Sl Ty.airport (w7.setRow w1b.heap.size #[.slice A1 n1 d1,.slice A2 n2 d2,.slice A3 n3 d3,k0,k1,k2,k3,k4,k5,k6,k7,k8,k9,k10,k11,k12,k13,.slice Ab nb cb,.slice Ao no co,.int .i64 hh,.int .i64 pp]) (all_ (w7.setRow w1b.heap.size #[.slice A1 n1 d1,.slice A2 n2 d2,.slice A3 n3 d3,k0,k1,k2,k3,k4,k5,k6,k7,k8,k9,k10,k11,k12,k13,.slice Ab nb cb,.slice Ao no co,.int .i64 hh,.int .i64 pp])) A2 n2 d2 (probTT l).airports∧Sl Ty.flight (w7.setRow w1b.heap.size #[.slice A1 n1 d1,.slice A2 n2 d2,.slice A3 n3 d3,k0,k1,k2,k3,k4,k5,k6,k7,k8,k9,k10,k11,k12,k13,.slice Ab nb cb,.slice Ao no co,.int .i64 hh,.int .i64 pp]) (all_ (w7.setRow w1b.heap.size #[.slice A1 n1 d1,.slice A2 n2 d2,.slice A3 n3 d3,k0,k1,k2,k3,k4,k5,k6,k7,k8,k9,k10,k11,k12,k13,.slice Ab nb cb,.slice Ao no co,.int .i64 hh,.int .i64 pp])) A3 n3 d3 (probTT l).flights) :=
  ⟨(HTT1b.out.1.keep fun b hb=>hk b hb).more fun b hb=>(by show b<_;have:b<w1b.heap.size:=hb;omega),(HTT1b.out.2.1.keep fun b hb=>hk b hb).more fun b hb=>(by show b<_;have:b<w1b.heap.size:=hb;omega),(HTT1b.out.2.2.keep fun b hb=>hk b hb).more fun b hb=>(by show b<_;have:b<w1b.heap.size:=hb;omega)⟩
 have HS4:Hid (Sl Ty.person (w7.setRow w1b.heap.size #[.slice A1 n1 d1,.slice A2 n2 d2,.slice A3 n3 d3,k0,k1,k2,k3,k4,k5,k6,k7,k8,k9,k10,k11,k12,k13,.slice Ab nb cb,.slice Ao no co,.int .i64 hh,.int .i64 pp]) (all_ (w7.setRow w1b.heap.size #[.slice A1 n1 d1,.slice A2 n2 d2,.slice A3 n3 d3,k0,k1,k2,k3,k4,k5,k6,k7,k8,k9,k10,k11,k12,k13,.slice Ab nb cb,.slice Ao no co,.int .i64 hh,.int .i64 pp])) A4 n4 c4 (dPeople m)):=(HSP.out.keep fun b hb=>hk b hb).more fun b hb=>(by show b<_;have:b<w1b.heap.size:=hb;omega)
 have HB2:Hid (Below w.heap.size w (w7.setRow w1b.heap.size #[.slice A1 n1 d1,.slice A2 n2 d2,.slice A3 n3 d3,k0,k1,k2,k3,k4,k5,k6,k7,k8,k9,k10,k11,k12,k13,.slice Ab nb cb,.slice Ao no co,.int .i64 hh,.int .i64 pp])):=below_setRowD HB7.out HB1b.out.size;generalize w7.setRow w1b.heap.size #[.slice A1 n1 d1,.slice A2 n2 d2,.slice A3 n3 d3,k0,k1,k2,k3,k4,k5,k6,k7,k8,k9,k10,k11,k12,k13,.slice Ab nb cb,.slice Ao no co,.int .i64 hh,.int .i64 pp]=w2 at*;generalize w1b.heap.size=P at*;clear HXP HK1 HB7 hz7 hk hzz HTT1b HB1b HSP;have HBW2:=HB2;have HBX2:=HBX;have HT2:=HT;clear HB2 HBX HT HCS HBS HOS ho0 ho5 hb2 HSL HSM;have hdc:=dCount_range l;have hpc:=pCount_range m;have y0:=block_cell HBX2.out 0;have y1:=block_cell HBX2.out 1;have y2:=block_cell HBX2.out 2;have HIN:=Lib.hid (incs_any (probTT l) (dPeople m) a A1 A2 A3 A4 Aa n1 n2 n3 n4 na d1 d2 d3 c4 ca w2 (HSA.out w2 HBW2.out) HT2.out.2.2 HS4.out (by rw[probTT_len];omega) (by rw[dPeople_len];omega) (probTT_dep l));have HI3:Hid ((dIncs (probTT l) (dPeople m) a).length≤3):=by rw[dIncs_len];exact iCount_range a
 have HI33:=Lib.hid (spoilI_len (dIncs (probTT l) (dPeople m) a) b HI3.out);have HLN:Hid (0<(probTT l).flights.length∧(probTT l).flights.length≤19):=by rw[probTT_len];exact⟨by omega,by omega⟩
 clear hdc hpc HSA;generalize dIncs (probTT l) (dPeople m) a=xs at*;go_upto_region 3 with (first
  | (go_at_call 13;refine HIN.out.mono ?_;rintro e w6 ⟨Ax,nx,cx,rfl,hsx,hb26⟩)
  | (go_at_call 14;refine(spoil_any xs b Ax Ab9 nx cx nb9 cb9 w6 hsx (HSB.out w6 (HBW2.out.trans (hb26.mono HBW2.out.size))) HI3.out).mono ?_;rintro e V0 ⟨Ay,ny,cy,rfl,hsy,hb67⟩))
 have hbr:Below w2.heap.size w2 V0:=hb26.trans (hb67.mono hb26.size);have HBX0:Hid (V0.heap[P]? = _):=(hbr.block _ (Array.getElem?_eq_some_iff.1 HBX2.out).1).trans HBX2.out;have HT0:Hid (Sl Ty.zone V0 (all_ V0) A1 n1 d1 (probTT l).zones∧Sl Ty.airport V0 (all_ V0) A2 n2 d2 (probTT l).airports∧Sl Ty.flight V0 (all_ V0) A3 n3 d3 (probTT l).flights):=⟨HT2.out.1.next hbr,HT2.out.2.1.next hbr,HT2.out.2.2.next hbr⟩
 have HBW0:Hid (Below w.heap.size w V0):=HBW2.out.trans (hbr.mono HBW2.out.size);have HSY:=Lib.hid hsy;have HYL:Hid ((spoilI xs b).length≤1000000):=by have:=HI33.out;show _≤_;omega
 clear hsx hb26 hb67 hsy hbr HIN y0 y1 y2 HBX2 HT2 HBW2 HS4 HI3 HI33 HSB;generalize spoilI xs b=ys at*;have y0:=block_cell HBX0.out 0;have y1:=block_cell HBX0.out 1;have y2:=block_cell HBX0.out 2;have HAP:=Lib.hid (apply_any (probTT l) ys A1 A2 A3 Ay n1 n2 n3 ny d1 d2 d3 cy V0 (probTT_ok l) HT0.out.1 HT0.out.2.1 HT0.out.2.2 HSY.out HLN.out.1 HLN.out.2 HYL.out (show 2≤1000 by decide) (show 3≤1000 by decide) (probTT_shifts _));have HAR:Hid (∀ (V:World),Below V0.heap.size V0 V→Calls Tryz.prog 20 #[.agg #[.slice A1 n1 d1,.slice A2 n2 d2,.slice A3 n3 d3],.slice Ay ny cy] V (ApplyPost (applyP (probTT l) ys) V)):=fun V hV =>
  applyR_any (probTT l) ys A1 A2 A3 Ay n1 n2 n3 ny d1 d2 d3 cy V (probTT_ok l) (HT0.out.1.next hV) (HT0.out.2.1.next hV) (HT0.out.2.2.next hV) (HSY.out.next hV) HLN.out.1 HLN.out.2 HYL.out
 clear HSY HYL;generalize applyP (probTT l) ys=R at*;go_upto_region 4 with (go_at_call 19;refine HAP.out.mono ?_;rintro e w5 ⟨B1,m1,e1,B2,m2,e2,B3,m3,e3,B4,m4,e4,rfl,t1,t2,t3,t4,hb5⟩)
 have hb56:=(Below.refl w5.heap.size w5).alloc (Nat.le_refl _) (.cells #[.slice B1 m1 e1,.slice B2 m2 e2,.slice B3 m3 e3] 27);have HTB:Hid ((w5.alloc (.cells #[.slice B1 m1 e1,.slice B2 m2 e2,.slice B3 m3 e3] 27)).heap[w5.heap.size]? = _):=heap_alloc_new _ _;have HF6:=Lib.hid (t3.next hb56);have HI6:=Lib.hid (t4.next hb56);have HM1:Hid (m1=R.1.zones.length):=t1.len;have HM2:Hid (m2=R.1.airports.length):=t2.len;have hb26:=hb5.trans (hb56.mono hb5.size);clear t1 t2 t3 t4 hb5 hb56 HAP y0 y1 y2;generalize w5.alloc (.cells #[.slice B1 m1 e1,.slice B2 m2 e2,.slice B3 m3 e3] 27)=w6' at*;generalize w5.heap.size=tb at*;have HBX6:Hid (w6'.heap[P]? = _):=(hb26.block _ (Array.getElem?_eq_some_iff.1 HBX0.out).1).trans HBX0.out;have HBW6:Hid (Below w.heap.size w w6'):=HBW0.out.trans (hb26.mono HBW0.out.size);have HAP:=Lib.hid (HAR.out w6' hb26);clear HBX0 HBW0 hb26 HAR HT0;have y0:=block_cell HBX6.out 0;have y1:=block_cell HBX6.out 1;have y2:=block_cell HBX6.out 2;go_upto_region 5 with (go_at_call 20;refine HAP.out.mono ?_;rintro e w7 ⟨C1,q1,f1,C2,q2,f2,C3,q3,f3,C4,q4,f4,rfl,t1,t2,t3,t4,hb7⟩)
 have hb78:=(Below.refl w7.heap.size w7).alloc (Nat.le_refl _) (.cells #[.slice C1 q1 f1,.slice C2 q2 f2,.slice C3 q3 f3] 27);have HTB2:Hid ((w7.alloc (.cells #[.slice C1 q1 f1,.slice C2 q2 f2,.slice C3 q3 f3] 27)).heap[w7.heap.size]? = _):=heap_alloc_new _ _;have HF8':=Lib.hid (t3.next hb78);have HI8':=Lib.hid (t4.next hb78);have hq1:q1=m1:=t1.len.trans HM1.out.symm;have hq2:q2=m2:=t2.len.trans HM2.out.symm;subst hq1 hq2;have hb68:=hb7.trans (hb78.mono hb7.size);clear t1 t2 t3 t4 hb7 hb78 HAP y0 y1 y2 HM1 HM2;generalize w7.alloc (.cells #[.slice C1 q1 f1,.slice C2 q2 f2,.slice C3 q3 f3] 27)=w8 at*;generalize w7.heap.size=tb2 at*;have HBW8:Hid (Below w.heap.size w w8):=HBW6.out.trans (hb68.mono HBW6.out.size);have HTB8:Hid (w8.heap[tb]? = _):=(hb68.block _ (Array.getElem?_eq_some_iff.1 HTB.out).1).trans HTB.out;have HF8:=Lib.hid (HF6.out.next hb68);have HI8:=Lib.hid (HI6.out.next hb68);clear hb68 HF6 HI6 HTB HBX6 HBW6;have HC1:=Lib.hid (sameInts_any R.2.1 B4 C4 m4 q4 e4 f4 w8 HI8.out HI8'.out);have hz1:((q1:Int)==(q1:Int))=true:=by simp
 have hz2:((q2:Int)==(q2:Int))=true:=by simp
 go_wp2_with (first
  | (go_at_call 21;refine HC1.out.mono ?_;rintro e w9 ⟨rfl,hb9⟩
     have x1:=cell_kept (block_cell HTB8.out 2) hb9;have x2:=cell_kept (block_cell HTB2.out 2) hb9;have HF9:=Lib.hid (HF8.out.next hb9);have HF9':=Lib.hid (HF8'.out.next hb9);have HTB9:Hid (w9.heap[tb]? = _):=(hb9.block _ (Array.getElem?_eq_some_iff.1 HTB8.out).1).trans HTB8.out;have HTB29:Hid (w9.heap[tb2]? = _):=(hb9.block _ (Array.getElem?_eq_some_iff.1 HTB2.out).1).trans HTB2.out;have HBW9:Hid (Below w.heap.size w w9):=HBW8.out.trans (hb9.mono HBW8.out.size);clear HC1 hb9)
  | (go_at_call 22;refine(sameFlights_any R.1.flights B3 C3 m3 q3 e3 f3 w9 HF9.out HF9'.out).mono ?_;rintro e wz ⟨rfl,hbz⟩
     have x3:=cell_kept (block_cell HTB9.out 1) hbz;have x4:=cell_kept (block_cell HTB29.out 1) hbz;have x5:=cell_kept (block_cell HTB9.out 0) hbz;have x6:=cell_kept (block_cell HTB29.out 0) hbz;have HBWz:Hid (Below w.heap.size w wz):=HBW9.out.trans (hbz.mono HBW9.out.size);clear hbz)
  | (go_at_call 18;refine(known_any wz (HPW.out wz HBWz.out) (HGL.out wz HBWz.out)).mono ?_;rintro e wy ⟨rfl,hby⟩
     have HBWy:Hid (Below w.heap.size w wy):=HBWz.out.trans (hby.mono HBWz.out.size)))
 go_ret
 exact⟨rfl,HBWy.out⟩
end Go.Proofs.YtifconapjfdkcaaGreatDoor
