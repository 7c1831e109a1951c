/-
  Joined texts: KeepsPlain; LawKeeps. What each proves stands ahead of it, with its conditions.
-/
import Derived.Test.YtifconapjfdkcaaGreatDoorProg
import Derived.WalkKit
import Derived.WalkLawsBesides
import Derived.WalkSpells
import Derived.Lib.Hide
import Derived.Maps.AppendAt
import Derived.ProofKit
import Derived.Deep.Slices
import Derived.Lib.SplitLaws
import Derived.Lib.IndexMore
import Derived.Lib.Strings
import Derived.Lib.AppendStr
import Derived.BigQuiet
import Derived.Deep.QuietTactic
import Derived.Laws.Rows
import Derived.Laws.Tables
import Derived.Deep.AppendLies
import Derived.Deep.RegionLaw
import Derived.Deep.RegionWith
import Derived.StillTail
import Derived.RegionTactic
import Derived.Deep.DeepCutAuto
import Derived.Test.YtifconapjfdkcaaGreatDoorPAA
import Derived.IntWalk
import Derived.Maps.OwnOps
import Derived.Maps.Views
import Derived.StillTailTactics
import Derived.Sort.LotA
import Derived.Sort.Walk0
import Derived.Shelf.Strings.Builder1
import Derived.Shelf.Strings.Builder2
import Derived.Shelf.Small.Strs
import Derived.Shelf.Strings.BuilderF
import Derived.Shelf.Strconv.Itoa0
import Derived.Shelf.Strconv.Itoa1
import Derived.Shelf.LaysM
import Derived.Shelf.Strconv.Itoa2
import Derived.Shelf.Strconv.Itoa3
import Derived.Shelf.Strings.Search1
import Derived.Shelf.Strings.Search2
import Derived.Shelf.Strings.Search3
import Derived.Shelf.Strings.Cut
import Derived.Shelf.Strings.Count
import Derived.Shelf.Strings.Shaped
import Derived.Shelf.Strings.Prefix
import Derived.Shelf.Strings.Split
import Derived.Shelf.Strings.SplitShaped
import Derived.Shelf.Bits.Mul64
import Derived.Shelf.Strings.Repeat
import Derived.Shelf.Unicode.DecodeSlow
import Derived.Ground.SlsfProg
import Derived.Shelf.SlSortCmp.Insertion
import Derived.Shelf.SlSortCmp.Insertion1
import Derived.Lib.Bytealg
import Derived.Sort.OwnSortedInts
import Derived.Sort.WalkA
import Derived.Deep.OwnRows
import Derived.Lib.ItoaNum
import Derived.Test.YtifconapjfdkcaaGreatDoorPAB
import Derived.Laws.Strings
import Derived.Scope
import Derived.Laws.Sem
import Derived.Deep.CutBlock
import Derived.Laws.Externs
import Derived.OwnWalk
import Derived.Sort.Grow
import Derived.Test.YtifconapjfdkcaaGreatDoorPAC
import Derived.Test.YtifconapjfdkcaaGreatDoorBAA
import Derived.Test.YtifconapjfdkcaaGreatDoorBAB
import Derived.Test.YtifconapjfdkcaaGreatDoorBAC
import Derived.Test.YtifconapjfdkcaaGreatDoorBAD
import Derived.Test.YtifconapjfdkcaaGreatDoorBAE
import Derived.Test.YtifconapjfdkcaaGreatDoorBAF
import Derived.Test.YtifconapjfdkcaaGreatDoorBAG
import Derived.Test.YtifconapjfdkcaaGreatDoorBAH
import Derived.Test.YtifconapjfdkcaaGreatDoorBAI
import Derived.Test.YtifconapjfdkcaaGreatDoorBAJ
import Derived.Test.YtifconapjfdkcaaGreatDoorBAK
import Derived.Test.YtifconapjfdkcaaGreatDoorBAL
import Derived.Test.YtifconapjfdkcaaGreatDoorBAM
import Derived.Test.YtifconapjfdkcaaGreatDoorBAN
import Derived.Test.YtifconapjfdkcaaGreatDoorBAO
import Derived.Test.YtifconapjfdkcaaGreatDoorBAP
import Derived.Test.YtifconapjfdkcaaGreatDoorBAQ
import Derived.Test.YtifconapjfdkcaaGreatDoorBAR
import Derived.Test.YtifconapjfdkcaaGreatDoorBAS
import Derived.Test.YtifconapjfdkcaaGreatDoorBAT
import Derived.Test.YtifconapjfdkcaaGreatDoorBAU
import Derived.Test.YtifconapjfdkcaaGreatDoorBAV
import Derived.Test.YtifconapjfdkcaaGreatDoorBAW
import Derived.Test.YtifconapjfdkcaaGreatDoorBAX
import Derived.Test.YtifconapjfdkcaaGreatDoorBAY
import Derived.Test.YtifconapjfdkcaaGreatDoorBAZ
import Derived.Test.YtifconapjfdkcaaGreatDoorBBA
import Derived.Test.YtifconapjfdkcaaGreatDoorBBB
import Derived.Test.YtifconapjfdkcaaGreatDoorBBC
import Derived.Test.YtifconapjfdkcaaGreatDoorBBD
import Derived.Test.YtifconapjfdkcaaGreatDoorBBE
import Derived.Test.YtifconapjfdkcaaGreatDoorBBF
import Derived.Test.YtifconapjfdkcaaGreatDoorBBG
import Derived.Test.YtifconapjfdkcaaGreatDoorBBH
import Derived.Test.YtifconapjfdkcaaGreatDoorBBI
import Derived.Test.YtifconapjfdkcaaGreatDoorBBJ
import Derived.Test.YtifconapjfdkcaaGreatDoorBBK
import Derived.Test.YtifconapjfdkcaaGreatDoorBBL
import Derived.Test.YtifconapjfdkcaaGreatDoorBBM
import Derived.Test.YtifconapjfdkcaaGreatDoorBBN
import Derived.Test.YtifconapjfdkcaaGreatDoorBBO
import Derived.Test.YtifconapjfdkcaaGreatDoorBBP
import Derived.Test.YtifconapjfdkcaaGreatDoorBBQ
import Derived.Test.YtifconapjfdkcaaGreatDoorBBR
import Derived.Test.YtifconapjfdkcaaGreatDoorBBS
import Derived.Test.YtifconapjfdkcaaGreatDoorBBT
import Derived.Test.YtifconapjfdkcaaGreatDoorBBU
import Derived.Test.YtifconapjfdkcaaGreatDoorBBV
import Derived.Test.YtifconapjfdkcaaGreatDoorBBW
namespace Go.Proofs.YtifconapjfdkcaaGreatDoor
set_option linter.unusedSimpArgs false
set_option linter.unusedVariables false
open Go Go.RowKit
theorem applyP_ok{t:GTT}{l:List GInc}(h:(applyP t l).2.2=0):(∀ i,i<l.length→incE2 t (l.getD i noInc)=0)∧applyP t l=(newTT t l,indexL t l,0)∧ttE (newTT t l)=0:=by
 rw[applyP_eq]at h ⊢;split at h
 ·rename_i h1;exact absurd h h1
 rename_i h1;split at h
 ·rename_i h2;exact absurd h h2
 rename_i h2;split at h
 ·rename_i h3;exact absurd h h3
 rename_i h3;refine⟨fun i hi=>firstErr_zero (Classical.not_not.1 h2) i hi, ?_,Classical.not_not.1 h3⟩;rw[if_neg h1,if_neg h2,if_neg h3]
theorem newTT_good{t:GTT}{l:List GInc}(hv:t.valid)(ht:t.ok)(hz : ∀ i,i<l.length→incE2 t (l.getD i noInc)=0)(hl:l.length≤1000000):(newTT t l).ok:=by
 have h1:=appTo_len t l l.length (Nat.le_refl _);have h2:=appTo_small hv hz l.length (Nat.le_refl _);have h3:=appTo_sz ht hz l.length (Nat.le_refl _);rw[appTo_all]at h1 h2 h3;exact newTT_ok ht (by rw[h1.1,h1.2]) h2 h3 hl
def touchTo(x:List GInc)(i k:Nat):Bool:=touchOf (x.take k) i
def goneTo(x:List GInc)(i k:Nat):Bool:=goneOf (x.take k) i
theorem take_any_succ{α : Type}(p : α → Bool){l:List α}{k:Nat}(h:k<l.length)(d : α):(l.take (k+1)).any p=((l.take k).any p||p (l.getD k d)):=by
 rw[List.take_succ_eq_append_getElem h,List.any_append,List.getD_eq_getElem?_getD,List.getElem?_eq_getElem h];simp
theorem touchTo_succ(x:List GInc)(i:Nat){k:Nat}(h:k<x.length):touchTo x i (k+1)=(touchTo x i k||(decide ((x.getD k noInc).kind≠4)&&decide ((x.getD k noInc).flight=(i:Int)))):=take_any_succ _ h _
theorem goneTo_succ(x:List GInc)(i:Nat){k:Nat}(h:k<x.length):goneTo x i (k+1)=(goneTo x i k||(decide ((x.getD k noInc).kind≠4)&&(decide ((x.getD k noInc).flight=(i:Int))&&decide ((x.getD k noInc).kind=2)))):=take_any_succ _ h _
theorem touchTo_all(x:List GInc)(i:Nat):touchTo x i x.length=touchOf x i:=by unfold touchTo;rw[List.take_length]
theorem goneTo_all(x:List GInc)(i:Nat):goneTo x i x.length=goneOf x i:=by unfold goneTo;rw[List.take_length]
def seenTo(fl:List GFlight)(gone:List Bool)(m i:Nat):List Bool:=(List.range m).map fun n=>(List.range i).any fun j => !gone.getD j false&&decide (rankI fl gone j=n)
theorem seenTo_len(fl:List GFlight)(gone:List Bool)(m i:Nat):(seenTo fl gone m i).length=m:=by unfold seenTo;simp
theorem seenTo_zero(fl:List GFlight)(gone:List Bool)(m:Nat):seenTo fl gone m 0=List.replicate m false:=by
 unfold seenTo;rw[List.eq_replicate_iff];refine⟨by simp,fun x hx =>?_⟩;obtain⟨n,_,rfl⟩:=List.mem_map.1 hx;rfl
theorem seenTo_gone{fl:List GFlight}{gone:List Bool}(m:Nat){i:Nat}(h:gone.getD i false=true):seenTo fl gone m (i+1)=seenTo fl gone m i:=by
 unfold seenTo;refine List.map_congr_left fun n _ =>?_
 rw[List.range_succ,List.any_append,List.any_cons,List.any_nil,h,Bool.not_true,Bool.false_and,Bool.or_false,Bool.or_false]
theorem seenTo_get(fl:List GFlight)(gone:List Bool)(m i:Nat){n:Nat}(h:n<m):(seenTo fl gone m i).getD n false=(List.range i).any fun j => !gone.getD j false&&decide (rankI fl gone j=n):=by
 unfold seenTo;rw[List.getD_eq_getElem?_getD,List.getElem?_map,List.getElem?_range h];rfl
theorem seenTo_new{fl:List GFlight}{gone:List Bool}(m:Nat){i:Nat}(hi:i<gone.length)(h:gone.getD i false=false)(hr:rankI fl gone i<m):(seenTo fl gone m i).getD (rankI fl gone i) false=false:=by
 rw[seenTo_get _ _ _ _ hr,List.any_eq_false];intro j hj;rw[List.mem_range]at hj
 cases hg:gone.getD j false with
 | true=>simp
 | false =>
  simp only[Bool.not_false,Bool.true_and,decide_eq_true_eq];intro e;have:=rank_inj (by omega) hg hi h e;omega
theorem seenTo_set{fl:List GFlight}{gone:List Bool}(m:Nat){i:Nat}(h:gone.getD i false=false)(hr:rankI fl gone i<m):(seenTo fl gone m i).set (rankI fl gone i) true=seenTo fl gone m (i+1):=by
 apply List.ext_getElem?;intro n
 by_cases hn:n<m
 ·have e : ∀ k,(seenTo fl gone m k)[n]? = some ((List.range k).any fun j => !gone.getD j false&&decide (rankI fl gone j=n)):=fun k=>by
   unfold seenTo;rw[List.getElem?_map,List.getElem?_range hn];rfl
  rw[List.getElem?_set,e,e,List.range_succ,List.any_append,List.any_cons,List.any_nil]
  by_cases hrn:rankI fl gone i=n
  ·rw[if_pos hrn,if_pos (by rw[seenTo_len];omega)];rw[h,decide_eq_true hrn,Bool.not_false,Bool.true_and,Bool.true_or,Bool.or_true]
  ·rw[if_neg hrn,decide_eq_false hrn,Bool.and_false,Bool.or_false,Bool.or_false]
 ·rw[List.getElem?_eq_none (by rw[List.length_set,seenTo_len];omega),List.getElem?_eq_none (by rw[seenTo_len];omega)]
theorem seenTo_all{fl:List GFlight}{gone:List Bool}{n:Nat}(h:n<(newFl fl gone).length):(seenTo fl gone (newFl fl gone).length gone.length).getD n false=true:=by
 rw[seenTo_get _ _ _ _ h,List.any_eq_true];obtain⟨i,h1,h2,h3⟩:=rank_hit h;refine⟨i,List.mem_range.2 h1, ?_⟩;rw[h2,h3];simp
end Go.Proofs.YtifconapjfdkcaaGreatDoor
namespace Go.Proofs.YtifconapjfdkcaaGreatDoor
set_option linter.unusedSimpArgs false
set_option linter.unusedVariables false
open Go.RowKit
theorem dIncs_flight{l m a:List Int}{x:GInc}(h:x∈dIncs (probTT l) (dPeople m) a):0≤x.flight:=by
 unfold dIncs at h;rw[List.mem_map]at h;obtain⟨i, -,rfl⟩:=h;unfold dInc;have hf0:0≤atL a (1+i)/4%((probTT l).flights.length:Int):=Int.emod_nonneg _ (by have:=dCount_range l;rw[probTT_len];omega);split
 ·exact hf0
 split
 ·exact hf0
 split
 ·exact hf0
 ·exact Int.le_refl 0
set_option maxRecDepth 100000 in
set_option maxHeartbeats 1600000 in
theorem lawKeeps_any(l m a:List Int)(A Am Aa:Option Addr)(n c nm cm na ca:Nat)(w:World)(h:Sl (Ty.int .i64) w (all_ w) A n c l)(hm:Sl (Ty.int .i64) w (all_ w) Am nm cm m)(ha:Sl (Ty.int .i64) w (all_ w) Aa na ca a)(hpw:Pow10 w)(hg:Glo w):Calls Tryz.prog 5 #[.slice A n c,.slice Am nm cm,.slice Aa na ca] w (TruePost w):=by
 have HPW:Hid (∀ V,Below w.heap.size w V→Pow10 V):=fun V hV=>hpw.next hV
 have HGL:Hid (∀ V,Below w.heap.size w V→Glo V):=fun V hV=>hg.next hV
 have HSL:=Lib.hid h;have HSM:Hid (∀ V,Below w.heap.size w V→Sl (Ty.int .i64) V (all_ V) Am nm cm m):=fun V hV=>hm.next hV
 have HSA:Hid (∀ V,Below w.heap.size w V→Sl (Ty.int .i64) V (all_ V) Aa na ca a):=fun V hV=>ha.next hV
 clear hpw hg h hm ha
 go_enter Tryz.func5,Tryz.ntmps5
 go_upto_region 1 with (fail)
 refine wp_region_lit ?_;refine wpList_plain rfl fun K9 hK9 =>?_
 go_simp
 refine hK9 _ _ ?_;clear hK9;refine wpList_plain rfl fun K9 hK9 =>?_
 go_simp
 go_at_call 11
 refine(problem_any l A n c w HSL.out).mono ?_;rintro e w1 ⟨cells,rfl,hpi,hb1⟩;obtain⟨v,cs,Ab,nb,cb,Ao,no,co,bs,os,hh,pp,rfl,htt,hcs,hbs,hos,ho0,ho5,hb2⟩:=hpi;have htt':=htt;obtain⟨A1,n1,d1,A2,n2,d2,A3,n3,d3,rfl, -, -, -⟩:=htt';obtain⟨k0,k1,k2,k3,k4,k5,k6,k7,k8,k9,k10,k11,k12,k13,rfl⟩:=list14 hcs.1;have HCS:=Lib.hid hcs;have HTT1:=Lib.hid htt.fl;have HB1:=Lib.hid hb1;have HBS:=Lib.hid hbs;have HOS:=Lib.hid hos;clear htt hcs hb1 hbs hos;refine hK9 _ _ ?_;clear hK9;refine wpList_plain rfl fun K9 hK9 =>?_
 go_simp
 refine hK9 _ _ ?_;clear hK9;refine wpList_plain rfl fun K9 hK9 =>?_
 go_simp
 go_at_call 12
 refine(people_any m Am nm cm w1 (HSM.out w1 HB1.out)).mono ?_;rintro e w1b ⟨A4,n4,c4,rfl,hs4,hb4⟩;have HSP:=Lib.hid hs4;have HTT2:Hid (Sl Ty.zone w1b (all_ w1b) A1 n1 d1 (probTT l).zones∧Sl Ty.airport w1b (all_ w1b) A2 n2 d2 (probTT l).airports∧Sl Ty.flight w1b (all_ w1b) A3 n3 d3 (probTT l).flights):=⟨HTT1.out.1.next hb4,HTT1.out.2.1.next hb4,HTT1.out.2.2.next hb4⟩
 have HB1b:Hid (Below w.heap.size w w1b):=HB1.out.trans (hb4.mono HB1.out.size);have HTT1b:=HTT2;clear hs4 hb4 HTT1 HB1 HTT2;refine hK9 _ _ ?_;clear hK9;refine wpList_plain rfl fun K9 hK9 =>?_
 go_simp
 refine hK9 _ _ ?_;clear hK9;have HXP:=Lib.hid (heap_alloc_new w1b (.cells zProb 38));have HK1:Hid (∀ q,q<w1b.heap.size→(w1b.alloc (.cells zProb 38)).heap[q]? = w1b.heap[q]?):=fun q hq=>Below.heap_alloc _ _ _ hq
 have HB7:Hid (Below w.heap.size w (w1b.alloc (.cells zProb 38))):=HB1b.out.alloc HB1b.out.size _;have hz7:(w1b.alloc (.cells zProb 38)).heap.size=w1b.heap.size+1:=by simp
 have hone:((#[.slice A1 n1 d1,.slice A2 n2 d2,.slice A3 n3 d3,k0,k1,k2,k3,k4,k5,k6,k7,k8,k9,k10,k11,k12,k13,.slice Ab nb cb,.slice Ao no co,.int .i64 hh,.int .i64 pp]:Array Value)).all (·.oneCell')=true:=by
  have h14:=HCS.out.2;rw[Array.all_eq_true];intro i hi;have hmem:((#[.slice A1 n1 d1,.slice A2 n2 d2,.slice A3 n3 d3,k0,k1,k2,k3,k4,k5,k6,k7,k8,k9,k10,k11,k12,k13,.slice Ab nb cb,.slice Ao no co,.int .i64 hh,.int .i64 pp]:Array Value))[i]∈(#[.slice A1 n1 d1,.slice A2 n2 d2,.slice A3 n3 d3,k0,k1,k2,k3,k4,k5,k6,k7,k8,k9,k10,k11,k12,k13,.slice Ab nb cb,.slice Ao no co,.int .i64 hh,.int .i64 pp]:Array Value).toList:=by simp
  have hcs2 : ∀ u∈([.slice A1 n1 d1,.slice A2 n2 d2,.slice A3 n3 d3]++([k0,k1,k2,k3,k4,k5,k6,k7,k8,k9,k10,k11,k12,k13]++[.slice Ab nb cb,.slice Ao no co,.int .i64 hh,.int .i64 pp]):List Value),u.oneCell'=true:=fun u hu=>by
   rcases List.mem_append.1 hu with h|h
   ·simp at h;rcases h with rfl|rfl|rfl <;> rfl
   ·rcases List.mem_append.1 h with h|h
    ·exact h14 u h
    ·simp at h;rcases h with rfl|rfl|rfl|rfl <;> rfl
  exact hcs2 _ hmem
 change wpList _ _ _ _ _ (w1b.alloc (.cells zProb 38));generalize w1b.alloc (.cells zProb 38)=w7 at*;refine wpList_store_row rfl _ _ _ rfl w1b.heap.size #[.slice A1 n1 d1,.slice A2 n2 d2,.slice A3 n3 d3,k0,k1,k2,k3,k4,k5,k6,k7,k8,k9,k10,k11,k12,k13,.slice Ab nb cb,.slice Ao no co,.int .i64 hh,.int .i64 pp] (by simp[Act.eval,Act.put]) (by simp[Act.eval,Act.put]) _ _ HXP.out (by kernel_rfl) rfl hone ?_;clear hone;have HBX:Hid ((w7.setRow w1b.heap.size #[.slice A1 n1 d1,.slice A2 n2 d2,.slice A3 n3 d3,k0,k1,k2,k3,k4,k5,k6,k7,k8,k9,k10,k11,k12,k13,.slice Ab nb cb,.slice Ao no co,.int .i64 hh,.int .i64 pp]).heap[w1b.heap.size]? = some (.cells #[.slice A1 n1 d1,.slice A2 n2 d2,.slice A3 n3 d3,k0,k1,k2,k3,k4,k5,k6,k7,k8,k9,k10,k11,k12,k13,.slice Ab nb cb,.slice Ao no co,.int .i64 hh,.int .i64 pp] 38 (0,0))):=setRow_heap _ _ _ _ _ _ HXP.out;have hk : ∀ q,q<w1b.heap.size→(w7.setRow w1b.heap.size #[.slice A1 n1 d1,.slice A2 n2 d2,.slice A3 n3 d3,k0,k1,k2,k3,k4,k5,k6,k7,k8,k9,k10,k11,k12,k13,.slice Ab nb cb,.slice Ao no co,.int .i64 hh,.int .i64 pp]).heap[q]? = w1b.heap[q]? :=fun q hq=>(setRow_other _ _ _ _ (by omega)).trans (HK1.out q hq)
 have hzz:(w7.setRow w1b.heap.size #[.slice A1 n1 d1,.slice A2 n2 d2,.slice A3 n3 d3,k0,k1,k2,k3,k4,k5,k6,k7,k8,k9,k10,k11,k12,k13,.slice Ab nb cb,.slice Ao no co,.int .i64 hh,.int .i64 pp]).heap.size=w7.heap.size:=by simp
 have HT:Hid (Sl Ty.zone (w7.setRow w1b.heap.size #[.slice A1 n1 d1,.slice A2 n2 d2,.slice A3 n3 d3,k0,k1,k2,k3,k4,k5,k6,k7,k8,k9,k10,k11,k12,k13,.slice Ab nb cb,.slice Ao no co,.int .i64 hh,.int .i64 pp]) (all_ (w7.setRow w1b.heap.size #[.slice A1 n1 d1,.slice A2 n2 d2,.slice A3 n3 d3,k0,k1,k2,k3,k4,k5,k6,k7,k8,k9,k10,k11,k12,k13,.slice Ab nb cb,.slice Ao no co,.int .i64 hh,.int .i64 pp])) A1 n1 d1 (probTT l).zones∧Sl Ty.airport (w7.setRow w1b.heap.size #[.slice A1 n1 d1,.slice A2 n2 d2,.slice A3 n3 d3,k0,k1,k2,k3,k4,k5,k6,k7,k8,k9,k10,k11,k12,k13,.slice Ab nb cb,.slice Ao no co,.int .i64 hh,.int .i64 pp]) (all_ (w7.setRow w1b.heap.size #[.slice A1 n1 d1,.slice A2 n2 d2,.slice A3 n3 d3,k0,k1,k2,k3,k4,k5,k6,k7,k8,k9,k10,k11,k12,k13,.slice Ab nb cb,.slice Ao no co,.int .i64 hh,.int .i64 pp])) A2 n2 d2 (probTT l).airports∧Sl Ty.flight (w7.setRow w1b.heap.size #[.slice A1 n1 d1,.slice A2 n2 d2,.slice A3 n3 d3,k0,k1,k2,k3,k4,k5,k6,k7,k8,k9,k10,k11,k12,k13,.slice Ab nb cb,.slice Ao no co,.int .i64 hh,.int .i64 pp]) (all_ (w7.setRow w1b.heap.size #[.slice A1 n1 d1,.slice A2 n2 d2,.slice A3 n3 d3,k0,k1,k2,k3,k4,k5,k6,k7,k8,k9,k10,k11,k12,k13,.slice Ab nb cb,.slice Ao no co,.int .i64 hh,.int .i64 pp])) A3 n3 d3 (probTT l).flights) :=
  ⟨(HTT1b.out.1.keep fun b hb=>hk b hb).more fun b hb=>(by show b<_;have:b<w1b.heap.size:=hb;omega),(HTT1b.out.2.1.keep fun b hb=>hk b hb).more fun b hb=>(by show b<_;have:b<w1b.heap.size:=hb;omega),(HTT1b.out.2.2.keep fun b hb=>hk b hb).more fun b hb=>(by show b<_;have:b<w1b.heap.size:=hb;omega)⟩
 have HS4:Hid (Sl Ty.person (w7.setRow w1b.heap.size #[.slice A1 n1 d1,.slice A2 n2 d2,.slice A3 n3 d3,k0,k1,k2,k3,k4,k5,k6,k7,k8,k9,k10,k11,k12,k13,.slice Ab nb cb,.slice Ao no co,.int .i64 hh,.int .i64 pp]) (all_ (w7.setRow w1b.heap.size #[.slice A1 n1 d1,.slice A2 n2 d2,.slice A3 n3 d3,k0,k1,k2,k3,k4,k5,k6,k7,k8,k9,k10,k11,k12,k13,.slice Ab nb cb,.slice Ao no co,.int .i64 hh,.int .i64 pp])) A4 n4 c4 (dPeople m)):=(HSP.out.keep fun b hb=>hk b hb).more fun b hb=>(by show b<_;have:b<w1b.heap.size:=hb;omega)
 have HB2:Hid (Below w.heap.size w (w7.setRow w1b.heap.size #[.slice A1 n1 d1,.slice A2 n2 d2,.slice A3 n3 d3,k0,k1,k2,k3,k4,k5,k6,k7,k8,k9,k10,k11,k12,k13,.slice Ab nb cb,.slice Ao no co,.int .i64 hh,.int .i64 pp])):=below_setRowD HB7.out HB1b.out.size;generalize w7.setRow w1b.heap.size #[.slice A1 n1 d1,.slice A2 n2 d2,.slice A3 n3 d3,k0,k1,k2,k3,k4,k5,k6,k7,k8,k9,k10,k11,k12,k13,.slice Ab nb cb,.slice Ao no co,.int .i64 hh,.int .i64 pp]=w2 at*;generalize w1b.heap.size=P at*;clear HXP HK1 HB7 hz7 hk hzz HTT1b HB1b HSP;have HBW2:=HB2;have HBX2:=HBX;have HT2:=HT;clear HB2 HBX HT HCS HBS HOS ho0 ho5 hb2 HSL HSM;have hdc:=dCount_range l;have hpc:=pCount_range m;have y0:=block_cell HBX2.out 0;have y1:=block_cell HBX2.out 1;have y2:=block_cell HBX2.out 2;have HIN:=Lib.hid (incs_any (probTT l) (dPeople m) a A1 A2 A3 A4 Aa n1 n2 n3 n4 na d1 d2 d3 c4 ca w2 (HSA.out w2 HBW2.out) HT2.out.2.2 HS4.out (by rw[probTT_len];omega) (by rw[dPeople_len];omega) (probTT_dep l));have HI3:Hid ((dIncs (probTT l) (dPeople m) a).length≤3):=by rw[dIncs_len];exact iCount_range a
 have HFL:Hid (∀ x∈dIncs (probTT l) (dPeople m) a,0≤x.flight):=fun x hx=>dIncs_flight hx
 have HLN:Hid (0<(probTT l).flights.length∧(probTT l).flights.length≤19):=by rw[probTT_len];exact⟨by omega,by omega⟩
 clear hdc hpc HSA;generalize dIncs (probTT l) (dPeople m) a=xs at*;go_upto_region 3 with (go_at_call 13;refine HIN.out.mono ?_;rintro e V0 ⟨Ax,nx,cx,rfl,hsx,hbr⟩)
 have HBX0:Hid (V0.heap[P]? = _):=(hbr.block _ (Array.getElem?_eq_some_iff.1 HBX2.out).1).trans HBX2.out;have HT0:Hid (Sl Ty.zone V0 (all_ V0) A1 n1 d1 (probTT l).zones∧Sl Ty.airport V0 (all_ V0) A2 n2 d2 (probTT l).airports∧Sl Ty.flight V0 (all_ V0) A3 n3 d3 (probTT l).flights):=⟨HT2.out.1.next hbr,HT2.out.2.1.next hbr,HT2.out.2.2.next hbr⟩
 have HBW0:Hid (Below w.heap.size w V0):=HBW2.out.trans (hbr.mono HBW2.out.size);have HSX:=Lib.hid hsx;have HNX:Hid (nx=xs.length):=hsx.len;have HXL:Hid (xs.length≤1000000):=by have:=HI3.out;show _≤_;omega
 have hnx3:nx≤3:=by rw[HNX.out];exact HI3.out
 have HN3:Hid (n3=(probTT l).flights.length):=HT0.out.2.2.len;clear hsx hbr HIN y0 y1 y2 HBX2 HT2 HBW2 HS4;have HVA:=Lib.hid (probTT_valid l);have HOK:=Lib.hid (probTT_ok l);have HAP:=Lib.hid (apply_any (probTT l) xs A1 A2 A3 Ax n1 n2 n3 nx d1 d2 d3 cx V0 (probTT_ok l) HT0.out.1 HT0.out.2.1 HT0.out.2.2 HSX.out HLN.out.1 HLN.out.2 HXL.out (show 2≤1000 by decide) (show 3≤1000 by decide) (probTT_shifts _));generalize probTT l=T0 at*;have y0:=block_cell HBX0.out 0;have y1:=block_cell HBX0.out 1;have y2:=block_cell HBX0.out 2;have HAR:Hid (∀ (V:World),Below V0.heap.size V0 V→Calls Tryz.prog 20 #[.agg #[.slice A1 n1 d1,.slice A2 n2 d2,.slice A3 n3 d3],.slice Ax nx cx] V (ApplyPost (applyP T0 xs) V)):=fun V hV =>
  applyR_any T0 xs A1 A2 A3 Ax n1 n2 n3 nx d1 d2 d3 cx V HOK.out (HT0.out.1.next hV) (HT0.out.2.1.next hV) (HT0.out.2.2.next hV) (HSX.out.next hV) HLN.out.1 HLN.out.2 HXL.out
 have HAO:Hid ((applyP T0 xs).2.2=0→(∀ i,i<xs.length→incE2 T0 (xs.getD i noInc)=0)∧applyP T0 xs=(newTT T0 xs,indexL T0 xs,0)∧ttE (newTT T0 xs)=0):=fun h=>applyP_ok h
 generalize applyP T0 xs=R at*;go_upto_region 4 with (go_at_call 19;refine HAP.out.mono ?_;rintro e w5 ⟨B1,m1,e1,B2,m2,e2,B3,m3,e3,B4,m4,e4,rfl,t1,t2,t3,t4,hb5⟩)
 have hb56:=(Below.refl w5.heap.size w5).alloc (Nat.le_refl _) (.cells #[.slice B1 m1 e1,.slice B2 m2 e2,.slice B3 m3 e3] 27);have HTB:Hid ((w5.alloc (.cells #[.slice B1 m1 e1,.slice B2 m2 e2,.slice B3 m3 e3] 27)).heap[w5.heap.size]? = _):=heap_alloc_new _ _;have HF6:=Lib.hid (And.intro (t1.next hb56) (And.intro (t2.next hb56) (And.intro (t3.next hb56) (t4.next hb56))));have HM3:Hid (m3=R.1.flights.length∧m4=R.2.1.length):=⟨t3.len,t4.len⟩
 have hb06:=hb5.trans (hb56.mono hb5.size);clear t1 t2 t3 t4 hb5 hb56 HAP y0 y1 y2;generalize w5.alloc (.cells #[.slice B1 m1 e1,.slice B2 m2 e2,.slice B3 m3 e3] 27)=w6 at*;generalize w5.heap.size=tb at*;have HBX6:Hid (w6.heap[P]? = _):=(hb06.block _ (Array.getElem?_eq_some_iff.1 HBX0.out).1).trans HBX0.out;have HBW6:Hid (Below w.heap.size w w6):=HBW0.out.trans (hb06.mono HBW0.out.size);have HAR6:=Lib.hid (HAR.out w6 hb06);have HB06:=Lib.hid hb06;clear HBX0 HBW0 hb06 HAR;generalize hee:R.2.2=ee at*
 by_cases hc:ee=0
 case neg =>
  have hc':(ee != 0)=true:=by simpa using hc
  have hcc:(ee==ee)=true:=by simp
  have HEE:=Lib.hid hee;have y0:=block_cell HBX6.out 0;have y1:=block_cell HBX6.out 1;have y2:=block_cell HBX6.out 2;clear hc hee HAO HF6 HM3 HTB;go_upto_region 6 with (go_at_call 20;refine HAR6.out.mono ?_;rintro e w7 ⟨C1,q1,f1,C2,q2,f2,C3,q3,f3,C4,q4,f4,rfl, -, -, -, -,hb7⟩;rw[HEE.out])
  have HBW8:Hid (Below w.heap.size w (w7.alloc (.cells #[.slice C1 q1 f1,.slice C2 q2 f2,.slice C3 q3 f3] 27))):=(HBW6.out.trans (hb7.mono HBW6.out.size)).alloc (HBW6.out.trans (hb7.mono HBW6.out.size)).size _;clear hb7 y0 y1 y2;generalize w7.alloc (.cells #[.slice C1 q1 f1,.slice C2 q2 f2,.slice C3 q3 f3] 27)=w8 at*;go_wp2_with (go_at_call 18;refine(known_any w8 (HPW.out w8 HBW8.out) (HGL.out w8 HBW8.out)).mono ?_;rintro e wy ⟨rfl,hby⟩)
  go_ret
  exact⟨rfl,HBW8.out.trans (hby.mono HBW8.out.size)⟩
 subst hc;obtain⟨hz,hR,hte⟩:=HAO.out rfl;have HZ:=Lib.hid hz;subst hR;have HNO:=Lib.hid (newTT_good HVA.out HOK.out hz HXL.out);have HVT:Hid (Calls Tryz.prog 23 #[.agg #[.slice B1 m1 e1,.slice B2 m2 e2,.slice B3 m3 e3]] w6 (ErrPost 0 w6)):=hte▸validate_any (newTT T0 xs) B1 B2 B3 m1 m2 m3 e1 e2 e3 w6 HNO.out HF6.out.1 HF6.out.2.1 HF6.out.2.2.1;have HL:=Lib.hid (appAll_facts T0 xs HFL.out);have hm4:m4=n3:=by rw[HM3.out.2,HN3.out];show(indexL T0 xs).length=_;unfold indexL;simp
 subst hm4;have HF63:Hid (Sl Ty.flight w6 (all_ w6) B3 m3 e3 (newFl (appAll T0 xs).1 (appAll T0 xs).2)):=HF6.out.2.2.1;have HF64:Hid (Sl (Ty.int .i64) w6 (all_ w6) B4 m4 e4 ((List.range T0.flights.length).map (indexI (appAll T0 xs).1 (appAll T0 xs).2))):=HF6.out.2.2.2;have HM33:Hid (m3=(newFl (appAll T0 xs).1 (appAll T0 xs).2).length):=HM3.out.1;have hlt19:T0.flights.length≤19:=HLN.out.2;have hl1:(appAll T0 xs).1.length=T0.flights.length:=HL.out.1.1;have hl2:(appAll T0 xs).2.length=T0.flights.length:=HL.out.1.2;have hm3le:m3≤19:=by
  rw[HM33.out,newFl_len,order_len];have:=leftI_le (appAll T0 xs).2;omega
 have HS06:=Lib.hid (HSX.out.next HB06.out);have HT6:=Lib.hid (HT0.out.2.2.next HB06.out);have HLF:Hid (∀ i,i<T0.flights.length→(appAll T0 xs).2.getD i false=goneOf xs i∧(touchOf xs i=false→(appAll T0 xs).1.getD i noFlight=T0.flights.getD i noFlight)∧((appAll T0 xs).1.getD i noFlight).number=(T0.flights.getD i noFlight).number):=HL.out.2;have HL12:=Lib.hid (And.intro hl1 hl2);clear hz hte hee HAO HF6 HM3 HNO HAR6 HB06 HSX HT0 HL hl1 hl2 HVA HOK HZ;generalize appAll T0 xs=S at*;obtain⟨fl,gone⟩:=S;simp only at HF63 HF64 HM33 HLF HL12;have hnl:m4=T0.flights.length:=HN3.out;have y0:=block_cell HTB.out 0;have y1:=block_cell HTB.out 1;have y2:=block_cell HTB.out 2;go_upto_region 7 with (fail)
 go_wp2_with fail
 refine HVT.out.mono ?_;rintro e w7 ⟨rfl,hb7⟩;have HTB7:Hid (w7.heap[tb]? = _):=(hb7.block _ (Array.getElem?_eq_some_iff.1 HTB.out).1).trans HTB.out;have HBX7:Hid (w7.heap[P]? = _):=(hb7.block _ (Array.getElem?_eq_some_iff.1 HBX6.out).1).trans HBX6.out;have HBW7:Hid (Below w.heap.size w w7):=HBW6.out.trans (hb7.mono HBW6.out.size);have HF73:=Lib.hid (HF63.out.next hb7);have HF74:=Lib.hid (HF64.out.next hb7);have HS07:=Lib.hid (HS06.out.next hb7);have HT7:=Lib.hid (HT6.out.next hb7);have hnn:((m4:Int) != (m4:Int))=false:=by simp
 clear hb7 y0 y1 y2 HVT HTB HBX6 HBW6 HF63 HF64 HS06 HT6;have x2:=block_cell HBX7.out 2;have y2:=block_cell HTB7.out 2;have hmk:=fun w=>run_make_row' (P:=Tryz.prog) 55 4 (.bool false) 1 Tryz.underlying55 (by kernel_rfl) rfl .i64 .i64 m3 (by omega) (by omega) w
 have HO0:Hid (OwnS Ty.bool 4 (w7.alloc (.cells (madeCells #[.bool false] m3) 4)) (fun _=>False) w7.heap.size (.slice (some ⟨w7.heap.size,0,none⟩) m3 m3) (seenTo fl gone m3 0)):=by
  rw[seenTo_zero];exact OwnS.made (t:=Ty.bool) rfl (fun _ _=>rfl) (Nat.le_refl _) (by unfold maxLen;omega)
 have HB78:Hid (Below w7.heap.size w7 (w7.alloc (.cells (madeCells #[.bool false] m3) 4))):=(Below.refl _ _).alloc (Nat.le_refl _) _;go_wp2_with fail
 clear hmk x2 y2;generalize w7.alloc (.cells (madeCells #[.bool false] m3) 4)=w8 at*;generalize hsb:w7.heap.size=sb at*;go_loopw [17] (fun s wr => ∃ i:Nat,i≤m4∧s=.int .i64 i∧Below sb w7 wr∧OwnS Ty.bool 4 wr (fun _=>False) sb (.slice (some ⟨sb,0,none⟩) m3 m3) (seenTo fl gone m3 i)) (fun s _=>m4-(intOf s).toNat)
 case atStart=>exact⟨0,Nat.zero_le _,rfl,HB78.out,HO0.out⟩
 case round =>
  obtain⟨i,hi,rfl,hbr,how⟩:=hrel;clear HB78 HO0;have hbr7:Below w7.heap.size w7 wr:=by rw[hsb];exact hbr
  by_cases hlt:i<m4
  ·have HBR:=Lib.hid hbr;have HOW:=Lib.hid how;have hsx7:=HS07.out.next hbr7;have HF8:=Lib.hid (HF73.out.next hbr7);have HT8:=Lib.hid (HT7.out.next hbr7);have HTB8:Hid (wr.heap[tb]? = _):=(hbr7.block _ (Array.getElem?_eq_some_iff.1 HTB7.out).1).trans HTB7.out;have HBX8:Hid (wr.heap[P]? = _):=(hbr7.block _ (Array.getElem?_eq_some_iff.1 HBX7.out).1).trans HBX7.out;have HSX:=Lib.hid hsx7;obtain⟨bi,oi,rfl, -,zi⟩:=(HF74.out.next hbr7).int_at (k:=i) (by rw[List.length_map,List.length_range];omega);have e9:(((List.range T0.flights.length).map (indexI fl gone))[i]'(by rw[List.length_map,List.length_range];omega))=indexI fl gone i:=by simp
   rw[e9]at zi;obtain⟨hgi,htf,hnum⟩:=HLF.out i (by omega);have HGI:=Lib.hid hgi;have HTF:=Lib.hid htf;have HNU:=Lib.hid hnum;clear hbr how hsx7 hgi htf hnum e9 hbr7;go_wp2_with fail
   go_loopw [18,19,20] (fun s18 s19 s20 wx => ∃ k:Nat,k≤nx∧s18=.bool (touchTo xs i k)∧s19=.bool (goneTo xs i k)∧s20=.int .i64 k∧wx=wr) (fun _ _ s20 _=>nx-(intOf s20).toNat)
   case atStart=>exact⟨0,Nat.zero_le _,rfl,rfl,rfl,rfl⟩
   case round =>
    obtain⟨k,hk,rfl,rfl,rfl,rfl⟩:=hrel
    by_cases hltk:k<nx
    ·have HT1:=Lib.hid (touchTo_succ xs i (k:=k) (by have:=HNX.out;omega));have HG1:=Lib.hid (goneTo_succ xs i (k:=k) (by have:=HNX.out;omega));obtain⟨bx,ox,rfl, -,hat⟩:=HSX.out.inc_at (k:=k) (by have:=HNX.out;omega);have x0:=hat 0 _ rfl;rw[Nat.add_zero]at x0;have x1:=hat 1 _ rfl;have hk0:(0:Int)≤(k:Int):=by omega
     have hk1:(k:Int)<(nx:Int):=by omega
     obtain⟨t1,HT2⟩ : ∃ x,Hid (touchTo xs i (k+1)=x):=⟨_,rfl⟩
     obtain⟨g1,HG2⟩ : ∃ x,Hid (goneTo xs i (k+1)=x):=⟨_,rfl⟩
     rw[HT2.out]at HT1;rw[HG2.out]at HG1;generalize touchTo xs i k=t0 at*;generalize goneTo xs i k=g0 at*;generalize (xs.getD k noInc).kind=kd at*;generalize (xs.getD k noInc).flight=xf at*;clear hat zi
     by_cases h4:kd=4
     ·have h4':(kd != 4)=false:=by simpa using h4
      have e1:Hid (t1=t0):=by show _=_;rw[HT1.out];simp[h4]
      have e2:Hid (g1=g0):=by show _=_;rw[HG1.out];simp[h4]
      clear h4;go_wp2_with fail
      go_roundw
      case rel=>exact⟨k+1,by omega,by rw[HT2.out,e1.out],by rw[HG2.out,e2.out],by go_num,trivial⟩
      case measure=>simp[intOf];omega
     have h4':(kd != 4)=true:=by simpa using h4
     by_cases hxf:xf=(i:Int)
     case neg =>
      have hxf':(xf==(i:Int))=false:=by simpa using hxf
      have e1:Hid (t1=t0):=by show _=_;rw[HT1.out];simp[hxf]
      have e2:Hid (g1=g0):=by show _=_;rw[HG1.out];simp[hxf]
      clear h4 hxf;go_wp2_with fail
      go_roundw
      case rel=>exact⟨k+1,by omega,by rw[HT2.out,e1.out],by rw[HG2.out,e2.out],by go_num,trivial⟩
      case measure=>simp[intOf];omega
     have hxf':(xf==(i:Int))=true:=by simpa using hxf
     have e1:Hid (t1=true):=by show _=_;rw[HT1.out];simp[hxf,h4]
     have e2:Hid (g1=(g0||decide (kd=2))):=by show _=_;rw[HG1.out];simp[hxf,h4]
     subst hxf
     cases g0 with
     | true =>
      have e3:Hid (g1=true):=e2.out;clear h4;go_wp2_with fail
      go_roundw
      case rel=>exact⟨k+1,by omega,by rw[HT2.out,e1.out],by rw[HG2.out,e3.out],by go_num,trivial⟩
      case measure=>simp[intOf];omega
     | false =>
      by_cases h2:kd=2
      ·have h2':(kd==2)=true:=by simpa using h2
       have e3:Hid (g1=true):=by show _=_;rw[e2.out];simp[h2]
       clear h4 h2;go_wp2_with fail
       go_roundw
       case rel=>exact⟨k+1,by omega,by rw[HT2.out,e1.out],by rw[HG2.out,e3.out],by go_num,trivial⟩
       case measure=>simp[intOf];omega
      ·have h2':(kd==2)=false:=by simpa using h2
       have e3:Hid (g1=false):=by show _=_;rw[e2.out];simp[h2]
       clear h4 h2;go_wp2_with fail
       go_roundw
       case rel=>exact⟨k+1,by omega,by rw[HT2.out,e1.out],by rw[HG2.out,e3.out],by go_num,trivial⟩
       case measure=>simp[intOf];omega
    ·have hkn:k=nx:=by omega
     subst hkn;have HTA:Hid (touchTo xs i k=touchOf xs i):=by show _=_;rw[HNX.out];exact touchTo_all xs i
     have HGA:Hid (goneTo xs i k=gone.getD i false):=by show _=_;rw[HGI.out,HNX.out];exact goneTo_all xs i
     rw[HTA.out,HGA.out];have hi0:(0:Int)≤(i:Int):=by omega
     have hi1:(i:Int)<(m4:Int):=by omega
     have y2:=block_cell HTB8.out 2
     cases hg:gone.getD i false with
     | true =>
      have HSN:=Lib.hid (seenTo_gone (fl:=fl) m3 hg);rw[index_gone hg]at zi;have hq : ¬(m3:Int)≤(-1:Int):=by omega
      clear hg;go_wp2_with fail
      go_roundw
      case rel=>exact⟨i+1,by omega,by go_num,HBR.out,by rw[HSN.out];exact HOW.out⟩
      case measure=>simp[intOf];omega
     | false =>
      have hgl:i<gone.length:=by have:=HL12.out.2;omega
      obtain⟨hr1,hr2⟩:=newFl_at (fl:=fl) hgl hg;have HRK:Hid (rankI fl gone i<m3):=by show _<_;rw[HM33.out];exact hr1
      have hsf:=seenTo_new (fl:=fl) m3 hgl hg HRK.out;have HSS:=Lib.hid (seenTo_set (fl:=fl) m3 hg HRK.out);rw[index_left hg]at zi;have zs:=HOW.out.bool_cell (k:=rankI fl gone i) (by rw[seenTo_len];exact HRK.out);rw[hsf]at zs;have fs:=HOW.out.free (rankI fl gone i);obtain⟨b1,o1,rfl, -,hat1⟩:=HF8.out.flight_at (k:=rankI fl gone i) hr1;obtain⟨b2,o2,rfl, -,hat2⟩:=HT8.out.flight_at (k:=i) (by omega);rw[hr2]at hat1;have hrk:=HRK.out;have HNEW:Hid (∀ q,OwnS Ty.bool 4 ((wr.drewN q).setCell ⟨sb,rankI fl gone i,none⟩ (.bool true)) (fun _=>False) sb (.slice (some ⟨sb,0,none⟩) m3 m3) (seenTo fl gone m3 (i+1))):=fun q=>by
       have h9:=(HOW.out.next (below_drewN (Below.refl _ _) q) fun _ h=>h.elim).setAt (t:=Ty.bool) (k:=rankI fl gone i) (j:=0) (u:=.bool true) (y:=true) (by rw[seenTo_len];exact HRK.out) (show 0<1 by decide) (fun h=>h) fun cs hr=>by
        have hr':cs=[.bool ((seenTo fl gone m3 i).getD (rankI fl gone i) true)]:=hr;subst hr';rfl
       have e:rankI fl gone i*Ty.bool.size+0=rankI fl gone i:=by show rankI fl gone i*1+0=_;omega
       rw[e,HSS.out]at h9;exact h9
      have HBN:Hid (∀ q,Below sb w7 ((wr.drewN q).setCell ⟨sb,rankI fl gone i,none⟩ (.bool true))):=fun q=>(below_drewN HBR.out q).setCell (Nat.le_refl _) _
      clear hr1 hr2 hsf HSS HGA hg;generalize rankI fl gone i=rk at*;have hq1:(0:Int)≤(rk:Int):=by omega
      have hq2:(rk:Int)<(m3:Int):=by omega
      have hq3:((rk:Int)==(-1:Int))=false:=by first|(simp;done)|(simp;omega)
      have hq4 : ¬(m3:Int)≤(rk:Int):=by omega
      have hq5 : ¬(rk:Int)<0:=by omega
      have x2:=block_cell HBX8.out 2;generalize fl.getD i noFlight=f at*;generalize T0.flights.getD i noFlight=g at*;have hnu:=HNU.out;clear HNX HTA
      cases htc:touchOf xs i with
      | true =>
       have v0:=hat1 0 _ rfl;have z0:=hat2 0 _ rfl;rw[hnu,Nat.add_zero]at v0;rw[Nat.add_zero]at z0;clear hat1 hat2 hnu htc;go_upto_region 24 with (fail)
       go_quiet (fail)
       go_wp2_with fail
       go_roundw
       case rel=>exact⟨i+1,by omega,by go_num,HBN.out _,HNEW.out _⟩
       case measure=>simp[intOf];omega
      | false =>
       have hfg:f=g:=HTF.out htc;subst hfg;obtain⟨f0,f1,f2,f3,f4,f5,f6,f7,f8⟩:=f;have v0:=hat1 0 _ rfl;rw[Nat.add_zero]at v0;have v1:=hat1 1 _ rfl;have v2:=hat1 2 _ rfl;have v3:=hat1 3 _ rfl;have v4:=hat1 4 _ rfl;have v5:=hat1 5 _ rfl;have v6:=hat1 6 _ rfl;have v7:=hat1 7 _ rfl;have v8:=hat1 8 _ rfl;have z0:=hat2 0 _ rfl;rw[Nat.add_zero]at z0;have z1:=hat2 1 _ rfl;have z2:=hat2 2 _ rfl;have z3:=hat2 3 _ rfl;have z4:=hat2 4 _ rfl;have z5:=hat2 5 _ rfl;have z6:=hat2 6 _ rfl;have z7:=hat2 7 _ rfl;have z8:=hat2 8 _ rfl;simp only at v0 v1 v2 v3 v4 v5 v6 v7 v8 z0 z1 z2 z3 z4 z5 z6 z7 z8;have hNE:=need_eq f6 f7 f8;clear hat1 hat2 hnu htc;go_upto_region 24 with (fail)
       go_quiet (fail)
       go_wp2_with fail
       go_roundw
       case rel=>exact⟨i+1,by omega,by go_num,HBN.out _,HNEW.out _⟩
       case measure=>simp[intOf];omega
  ·have hin:i=m4:=by omega
   subst hin;have HAS:Hid (∀ q,q<m3→(seenTo fl gone m3 i).getD q false=true):=fun q hq=>by
    have h9:=seenTo_all (fl:=fl) (gone:=gone) (n:=q) (by rw[←HM33.out];exact hq);rw[←HM33.out]at h9;rw[hnl, ←HL12.out.2];exact h9
   have HOW:=Lib.hid how;have HBZ:Hid (Below w.heap.size w wr):=HBW7.out.trans (hbr7.mono HBW7.out.size);clear how hbr hbr7 hlt;go_wp2_with fail
   go_loopw [22] (fun s wx => ∃ q:Nat,q≤m3∧s=.int .i64 q∧wx=wr) (fun s _=>m3-(intOf s).toNat)
   case atStart=>exact⟨0,Nat.zero_le _,rfl,rfl⟩
   case round =>
    obtain⟨q,hq,rfl,rfl⟩:=hrel
    by_cases hltq:q<m3
    ·have zs:=HOW.out.bool_cell (k:=q) (by rw[seenTo_len];exact hltq);rw[HAS.out q hltq]at zs;have hq0:(0:Int)≤(q:Int):=by omega
     have hq1:(q:Int)<(m3:Int):=by omega
     go_wp2_with fail
     go_roundw
     case rel=>exact⟨q+1,by omega,by go_num,trivial⟩
     case measure=>simp[intOf];omega
    ·have hqm:q=m3:=by omega
     subst hqm;go_wp2_with (go_at_call 18;refine(known_any _ (HPW.out _ HBZ.out) (HGL.out _ HBZ.out)).mono ?_;rintro e wy ⟨rfl,hby⟩)
     go_ret
     exact⟨rfl,HBZ.out.trans (hby.mono HBZ.out.size)⟩
end Go.Proofs.YtifconapjfdkcaaGreatDoor
