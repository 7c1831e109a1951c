/-
  Joined texts: PeoplePlain; IncPlain; Sorts; DataOk; Sick; LawSick. What each proves stands ahead of it, with its conditions.
-/
import Derived.Test.YtifconapjfdkcaaGreatDoorProg
import Derived.WalkKit
import Derived.WalkLawsBesides
import Derived.WalkSpells
import Derived.Lib.Hide
import Derived.Maps.AppendAt
import Derived.ProofKit
import Derived.Deep.Slices
import Derived.Lib.SplitLaws
import Derived.Lib.IndexMore
import Derived.Lib.Strings
import Derived.Lib.AppendStr
import Derived.Laws.Rows
import Derived.Laws.Tables
import Derived.Deep.RegionWith
import Derived.BigQuiet
import Derived.Deep.QuietTactic
import Derived.Ground.SlsfProg
import Derived.Shelf.SlSortCmp.Insertion
import Derived.Deep.AppendLies
import Derived.Deep.RegionLaw
import Derived.StillTail
import Derived.RegionTactic
import Derived.Deep.DeepCutAuto
import Derived.IntWalk
import Derived.Maps.OwnOps
import Derived.Maps.Views
import Derived.StillTailTactics
import Derived.Sort.Walk0
import Derived.Sort.LotA
import Derived.Shelf.Strings.Builder1
import Derived.Shelf.Strings.Builder2
import Derived.Shelf.Small.Strs
import Derived.Shelf.Strings.BuilderF
import Derived.Shelf.Strconv.Itoa0
import Derived.Shelf.Strconv.Itoa1
import Derived.Shelf.LaysM
import Derived.Shelf.Strconv.Itoa2
import Derived.Shelf.Strconv.Itoa3
import Derived.Shelf.Strings.Search1
import Derived.Shelf.Strings.Search2
import Derived.Shelf.Strings.Search3
import Derived.Shelf.Strings.Cut
import Derived.Shelf.Strings.Count
import Derived.Shelf.Strings.Shaped
import Derived.Shelf.Strings.Prefix
import Derived.Shelf.Strings.Split
import Derived.Shelf.Strings.SplitShaped
import Derived.Shelf.Bits.Mul64
import Derived.Shelf.Strings.Repeat
import Derived.Shelf.Unicode.DecodeSlow
import Derived.Shelf.SlSortCmp.Insertion1
import Derived.Lib.Bytealg
import Derived.Sort.OwnSortedInts
import Derived.Sort.WalkA
import Derived.Deep.OwnRows
import Derived.Lib.ItoaNum
import Derived.Laws.Strings
import Derived.Scope
import Derived.Laws.Sem
import Derived.Deep.CutBlock
import Derived.Laws.Externs
import Derived.OwnWalk
import Derived.Sort.Grow
import Derived.ChangeKeysEq
import Derived.Test.YtifconapjfdkcaaGreatDoorBAA
import Derived.Test.YtifconapjfdkcaaGreatDoorBAB
import Derived.Test.YtifconapjfdkcaaGreatDoorBAC
import Derived.Test.YtifconapjfdkcaaGreatDoorBAD
import Derived.Test.YtifconapjfdkcaaGreatDoorBAE
import Derived.Test.YtifconapjfdkcaaGreatDoorBAF
import Derived.Test.YtifconapjfdkcaaGreatDoorBAG
import Derived.Test.YtifconapjfdkcaaGreatDoorBAH
import Derived.Test.YtifconapjfdkcaaGreatDoorBAI
import Derived.Test.YtifconapjfdkcaaGreatDoorBAJ
import Derived.Test.YtifconapjfdkcaaGreatDoorBAK
import Derived.Test.YtifconapjfdkcaaGreatDoorBAL
import Derived.Test.YtifconapjfdkcaaGreatDoorBAM
import Derived.Test.YtifconapjfdkcaaGreatDoorBAN
import Derived.Test.YtifconapjfdkcaaGreatDoorBAO
import Derived.Test.YtifconapjfdkcaaGreatDoorBAP
import Derived.Test.YtifconapjfdkcaaGreatDoorBAQ
import Derived.Test.YtifconapjfdkcaaGreatDoorBAR
import Derived.Test.YtifconapjfdkcaaGreatDoorBAS
import Derived.Test.YtifconapjfdkcaaGreatDoorBAT
import Derived.Test.YtifconapjfdkcaaGreatDoorBAU
import Derived.Test.YtifconapjfdkcaaGreatDoorBAV
import Derived.Test.YtifconapjfdkcaaGreatDoorBAW
import Derived.Test.YtifconapjfdkcaaGreatDoorBAX
import Derived.Test.YtifconapjfdkcaaGreatDoorBAY
import Derived.Test.YtifconapjfdkcaaGreatDoorBAZ
import Derived.Test.YtifconapjfdkcaaGreatDoorBBA
import Derived.Test.YtifconapjfdkcaaGreatDoorBBB
import Derived.Test.YtifconapjfdkcaaGreatDoorBBC
import Derived.Test.YtifconapjfdkcaaGreatDoorBBD
import Derived.Test.YtifconapjfdkcaaGreatDoorBBE
import Derived.Test.YtifconapjfdkcaaGreatDoorBBF
import Derived.Test.YtifconapjfdkcaaGreatDoorBBG
import Derived.Test.YtifconapjfdkcaaGreatDoorBBH
import Derived.Test.YtifconapjfdkcaaGreatDoorBBI
import Derived.Test.YtifconapjfdkcaaGreatDoorBBJ
import Derived.Test.YtifconapjfdkcaaGreatDoorBBK
import Derived.Test.YtifconapjfdkcaaGreatDoorBBL
import Derived.Test.YtifconapjfdkcaaGreatDoorBBM
import Derived.Test.YtifconapjfdkcaaGreatDoorBBN
import Derived.Test.YtifconapjfdkcaaGreatDoorBBO
import Derived.Test.YtifconapjfdkcaaGreatDoorBBP
import Derived.Test.YtifconapjfdkcaaGreatDoorBBQ
import Derived.Test.YtifconapjfdkcaaGreatDoorBBR
import Derived.Test.YtifconapjfdkcaaGreatDoorBBS
import Derived.Test.YtifconapjfdkcaaGreatDoorBBT
import Derived.Test.YtifconapjfdkcaaGreatDoorBBU
import Derived.Test.YtifconapjfdkcaaGreatDoorBBV
import Derived.Test.YtifconapjfdkcaaGreatDoorBBW
namespace Go.Proofs.YtifconapjfdkcaaGreatDoor
set_option linter.unusedSimpArgs false
set_option linter.unusedVariables false
open Go
theorem dPeople_len(l:List Int):(dPeople l).length=pCount l:=dPeopleN_len _ _
end Go.Proofs.YtifconapjfdkcaaGreatDoor
namespace Go.Proofs.YtifconapjfdkcaaGreatDoor
set_option linter.unusedSimpArgs false
set_option linter.unusedVariables false
open Go Go.RowKit
def sickOf(l:List GInc)(id:Int):List GShift:=(l.filter fun x=>decide (x.kind=4)&&decide (x.person=id)).map (·.span)
theorem dIncs_len(t:GTT)(ps:List GPerson)(l:List Int):(dIncs t ps l).length=iCount l:=by unfold dIncs;simp
end Go.Proofs.YtifconapjfdkcaaGreatDoor
namespace Go.Proofs
open Go.Shelf
def Tryz.laysSlF20_sort_ren:Go.Shelf.Ren:=⟨fun|20=>156|n=>n,fun|24=>3|22=>22|3=>3|25=>139|4=>4|0=>0|n=>n,fun|n=>n⟩
theorem Tryz.laysSlF20_sort:Go.Proofs.SlLaysF.n20 Tryz.prog Tryz.laysSlF20_sort_ren:={
 mixed:=by kernel_rfl
 f20:=⟨Tryz.f156.name,by decide,Tryz.func156.trans (congrArg some (by kernel_rfl))⟩
 t0:=Tryz.underlying0
 a0:=Tryz.isAgg0
 z0:=Tryz.sizeOf0
 v0:=Tryz.zeroValue0
 t3:=Tryz.underlying3
 a3:=Tryz.isAgg3
 z3:=Tryz.sizeOf3
 v3:=Tryz.zeroValue3
 t4:=Tryz.underlying4
 a4:=Tryz.isAgg4
 z4:=Tryz.sizeOf4
 v4:=Tryz.zeroValue4
 t22:=Tryz.underlying22
 a22:=Tryz.isAgg22
 z22:=Tryz.sizeOf22
 v22:=Tryz.zeroValue22
 a24:=Tryz.isAgg3
 z24:=Tryz.sizeOf3
 t25:=Tryz.underlying139
 a25:=Tryz.isAgg139
 z25:=Tryz.sizeOf139
 v25:=Tryz.zeroValue139 }
end Go.Proofs
namespace Go.Proofs.YtifconapjfdkcaaGreatDoor
set_option linter.unusedSimpArgs false
set_option linter.unusedVariables false
open Go Go.RowKit
theorem probTT_dep(l:List Int) : ∀ f∈(probTT l).flights,0<f.dep:=fun f hf=>by
 obtain⟨i,hi,rfl⟩:=dTT_mem _ _ hf;have:=dSt_range (l.drop 1) i;show 0<(dSt (l.drop 1) i).1;omega
end Go.Proofs.YtifconapjfdkcaaGreatDoor
namespace Go.Proofs.YtifconapjfdkcaaGreatDoor
set_option linter.unusedSimpArgs false
set_option linter.unusedVariables false
open Go.RowKit
theorem sick_yes{l:List GInc}{id:Int}{k:Nat}(hk:k<l.length)(h1:(l.getD k noInc).kind=4)(h2:(l.getD k noInc).person=id):sickOf (l.take (k+1)) id=sickOf (l.take k) id++[(l.getD k noInc).span]:=by
 have e:l.getD k noInc=l[k]:=by rw[List.getD_eq_getElem?_getD,List.getElem?_eq_getElem hk];rfl
 rw[e]at h1 h2 ⊢;unfold sickOf;rw[List.take_succ_eq_append_getElem hk,List.filter_append,List.map_append];simp[h1,h2]
theorem sick_no{l:List GInc}{id:Int}{k:Nat}(hk:k<l.length)(h : ¬((l.getD k noInc).kind=4∧(l.getD k noInc).person=id)):sickOf (l.take (k+1)) id=sickOf (l.take k) id:=by
 have e:l.getD k noInc=l[k]:=by rw[List.getD_eq_getElem?_getD,List.getElem?_eq_getElem hk];rfl
 rw[e]at h;unfold sickOf;rw[List.take_succ_eq_append_getElem hk,List.filter_append,List.map_append];have:(List.filter (fun x:GInc=>decide (x.kind=4)&&decide (x.person=id)) [l[k]])=[]:=by
  rw[List.filter_eq_nil_iff];intro x hx;simp at hx;subst hx;simpa using h
 rw[this];simp
theorem sick_len(l:List GInc)(id:Int):(sickOf l id).length≤l.length:=by
 unfold sickOf;rw[List.length_map];exact List.length_filter_le _ _
set_option maxRecDepth 100000 in
theorem sick_any(l:List GInc)(A:Option Addr)(n c:Nat)(id:Int)(w:World)(hs:Sl Ty.inc w (all_ w) A n c l)(hl:l.length≤1000000) :
 Calls Tryz.prog 30 #[.slice A n c,.int .i64 id] w (OwnPost Ty.shift 57 (sickOf l id) w):=by
 have hn1:n≤l.length:=Nat.le_of_eq hs.len;have hn2:l.length≤n:=Nat.le_of_eq hs.len.symm;have HS:Hid (∀ V,Below w.heap.size w V→Sl Ty.inc V (all_ w) A n c l):=fun V hV=>hs.keep (all_keep hV)
 clear hs
 go_enter Tryz.func30,Tryz.ntmps30
 go_wp2_with fail
 go_loopw [5,10] (fun v s wr => ∃ k:Nat,k≤n∧s=.int .i64 k∧Below w.heap.size w wr∧Own Ty.shift 57 wr w.heap.size v (sickOf (l.take k) id)) (fun _ s _=>n-(intOf s).toNat)
 case atStart=>exact⟨0,Nat.zero_le _,rfl,Below.refl _ _,Own.nil⟩
 case round =>
  obtain⟨k,hk,rfl,hbr,hown⟩:=hrel;have hle6:n≤1000000:=by omega
  by_cases hlt:k<n
  ·have hks:k<l.length:=by omega
   obtain⟨b,o,rfl,hbS,hat⟩:=(HS.out wr hbr).inc_at hks;have HY:=Lib.hid (sick_yes (id:=id) hks);have HNO:=Lib.hid (sick_no (id:=id) hks);have hsl:=sick_len (l.take k) id;rw[List.length_take]at hsl;have z0:=hat 0 _ rfl;rw[Nat.add_zero]at z0;have z1:=hat 1 _ rfl;have z2:=hat 2 _ rfl;have z3:=hat 3 _ rfl;have z4:=hat 4 _ rfl;have z5:=hat 5 _ rfl;have z6:=hat 6 _ rfl;clear hat;generalize l.getD k noInc=x at*;obtain⟨kind,fl,mi,ai,pe,⟨s1,s2⟩⟩:=x;simp only at z0 z1 z2 z3 z4 z5 z6;have HOW:=Lib.hid hown;have HBR:=Lib.hid hbr;obtain⟨A9,c9,rfl, -⟩:=hown.sl;generalize sickOf (l.take k) id=ys at*
   by_cases hc:kind=4∧pe=id
   ·obtain⟨rfl,rfl⟩:=hc;have HE:=Lib.hid (HY.out rfl rfl);have HOA:Hid (∀ oo pp,Own Ty.shift 57 ((wr.alloc oo).alloc pp) w.heap.size (.slice A9 ys.length c9) ys):=fun oo pp=>(HOW.out.alloc oo).alloc pp
    have HBA:Hid (∀ oo pp,Below w.heap.size w ((wr.alloc oo).alloc pp)):=fun oo pp=>(HBR.out.alloc hbr.size oo).alloc (by have:=hbr.size;simp;omega) pp
    have HAT:Hid (∀ oo,At ((wr.alloc oo).alloc (.cells #[.int .i64 s1,.int .i64 s2] 57)) (wr.heap.size+1) 0 [.int .i64 s1,.int .i64 s2]):=fun oo=>At.of_block (heap_alloc2_new _ _ _)
    have hszr:=hbr.size;clear hown hbr HOW HBR HY HNO;go_wp2_with (at_builtin;refine wpList_push (t:=Ty.shift) rfl _ _ _ rfl 16 elem_span rfl (HOA.out _ _) (wr.heap.size+1) ⟨s1,s2⟩ (fun _=>False) rfl ⟨[.int .i64 s1,.int .i64 s2],rfl,HAT.out _⟩ (fun _ h=>h.elim) ?c1 (by decide) ?c2 ?_)
    case c1=>omega
    case c2=>omega
    intro v' w7 hown7 hg7;have hb7:=(HBA.out _ _).grown hg7 (by simp;omega) (fun j hj=>(HOA.out (.cells #[] 0) (.cells #[] 0)).lt j hj |>.1);rw[←HE.out]at hown7;clear HOA HBA HAT;go_wp2_with fail
    go_roundw
    case rel=>exact⟨k+1,by omega,by go_num,hb7,hown7⟩
    case measure=>simp[intOf];omega
   ·have HE:=Lib.hid (HNO.out hc);have HFB:Hid (∀ oo,Below w.heap.size w (wr.alloc oo)):=fun oo=>HBR.out.alloc hbr.size oo
    have HFO:Hid (∀ oo,Own Ty.shift 57 (wr.alloc oo) w.heap.size (.slice A9 ys.length c9) ys):=fun oo=>HOW.out.alloc oo
    have hc':(kind==4)=false∨((kind==4)=true∧(pe==id)=false):=by
     by_cases h4:kind=4
     ·exact .inr ⟨by simpa using h4,by simpa using fun e=>hc ⟨h4,e⟩⟩
     ·exact .inl (by simpa using h4)
    clear hc hown hbr HY HNO;rcases hc' with h4|⟨h4,h5⟩
    all_goals
     go_wp2_with fail
     go_roundw
     case rel=>exact⟨k+1,by omega,by go_num,HFB.out _,by rw[HE.out];exact HFO.out _⟩
     case measure=>simp[intOf];omega
  ·have hkn:k=l.length:=by omega
   subst hkn;rw[List.take_length]at hown;have HOW:=Lib.hid hown;have HBR:=Lib.hid hbr;clear hown hbr;go_wp2_with fail
   go_ret
   exact⟨_,rfl,HOW.out,HBR.out⟩
set_option maxRecDepth 100000 in
theorem sickR_any(l:List GInc)(A:Option Addr)(n c:Nat)(id:Int)(w:World)(hs:Sl Ty.inc w (all_ w) A n c l)(hl:l.length≤1000000) :
 Calls Tryz.prog 31 #[.slice A n c,.int .i64 id] w (OwnPost Ty.shift 57 (sickOf l id) w):=by
 have hn1:n≤l.length:=Nat.le_of_eq hs.len;have hn2:l.length≤n:=Nat.le_of_eq hs.len.symm;have HS:Hid (∀ V,Below w.heap.size w V→Sl Ty.inc V (all_ w) A n c l):=fun V hV=>hs.keep (all_keep hV)
 clear hs
 go_enter Tryz.func31,Tryz.ntmps31
 go_wp2_with fail
 go_loopw [5,6] (fun v s wr => ∃ k:Nat,k≤n∧s=.int .i64 k∧Below w.heap.size w wr∧Own Ty.shift 57 wr w.heap.size v (sickOf (l.take k) id)) (fun _ s _=>n-(intOf s).toNat)
 case atStart=>exact⟨0,Nat.zero_le _,rfl,Below.refl _ _,Own.nil⟩
 case round =>
  obtain⟨k,hk,rfl,hbr,hown⟩:=hrel;have hle6:n≤1000000:=by omega
  by_cases hlt:k<n
  ·have hks:k<l.length:=by omega
   obtain⟨b,o,rfl,hbS,hat⟩:=(HS.out wr hbr).inc_at hks;have HY:=Lib.hid (sick_yes (id:=id) hks);have HNO:=Lib.hid (sick_no (id:=id) hks);have hsl:=sick_len (l.take k) id;rw[List.length_take]at hsl;have z0:=hat 0 _ rfl;rw[Nat.add_zero]at z0;have z1:=hat 1 _ rfl;have z2:=hat 2 _ rfl;have z3:=hat 3 _ rfl;have z4:=hat 4 _ rfl;have z5:=hat 5 _ rfl;have z6:=hat 6 _ rfl;clear hat;generalize l.getD k noInc=x at*;obtain⟨kind,fl,mi,ai,pe,⟨s1,s2⟩⟩:=x;simp only at z0 z1 z2 z3 z4 z5 z6;have HOW:=Lib.hid hown;have HBR:=Lib.hid hbr;obtain⟨A9,c9,rfl, -⟩:=hown.sl;generalize sickOf (l.take k) id=ys at*
   by_cases hc:kind=4∧pe=id
   ·obtain⟨rfl,rfl⟩:=hc;have HE:=Lib.hid (HY.out rfl rfl);have HOA:Hid (∀ oo,Own Ty.shift 57 (wr.alloc oo) w.heap.size (.slice A9 ys.length c9) ys):=fun oo=>HOW.out.alloc oo
    have HBA:Hid (∀ oo,Below w.heap.size w (wr.alloc oo)):=fun oo=>HBR.out.alloc hbr.size oo
    have HAT:Hid (At (wr.alloc (.cells #[.int .i64 s1,.int .i64 s2] 57)) wr.heap.size 0 [.int .i64 s1,.int .i64 s2]):=At.of_block (heap_alloc_new _ _);have hszr:=hbr.size;clear hown hbr HOW HBR HY HNO;go_wp2_with (at_builtin;refine wpList_push (t:=Ty.shift) rfl _ _ _ rfl 16 elem_span rfl (HOA.out _) wr.heap.size ⟨s1,s2⟩ (fun _=>False) rfl ⟨[.int .i64 s1,.int .i64 s2],rfl,HAT.out⟩ (fun _ h=>h.elim) ?c1 (by decide) ?c2 ?_)
    case c1=>omega
    case c2=>omega
    intro v' w7 hown7 hg7;have hb7:=(HBA.out _).grown hg7 (by simp;omega) (fun j hj=>(HOA.out (.cells #[] 0)).lt j hj |>.1);rw[←HE.out]at hown7;clear HOA HBA HAT;go_wp2_with fail
    go_roundw
    case rel=>exact⟨k+1,by omega,by go_num,hb7,hown7⟩
    case measure=>simp[intOf];omega
   ·have HE:=Lib.hid (HNO.out hc);have hc':(kind==4)=false∨((kind==4)=true∧(pe==id)=false):=by
     by_cases h4:kind=4
     ·exact .inr ⟨by simpa using h4,by simpa using fun e=>hc ⟨h4,e⟩⟩
     ·exact .inl (by simpa using h4)
    clear hc hown hbr HY HNO;rcases hc' with h4|⟨h4,h5⟩
    all_goals
     go_wp2_with fail
     go_roundw
     case rel=>exact⟨k+1,by omega,by go_num,HBR.out,by rw[HE.out];exact HOW.out⟩
     case measure=>simp[intOf];omega
  ·have hkn:k=l.length:=by omega
   subst hkn;rw[List.take_length]at hown;have HOW:=Lib.hid hown;have HBR:=Lib.hid hbr;clear hown hbr;go_wp2_with fail
   go_ret
   exact⟨_,rfl,HOW.out,HBR.out⟩
end Go.Proofs.YtifconapjfdkcaaGreatDoor
namespace Go.Proofs.YtifconapjfdkcaaGreatDoor
set_option linter.unusedSimpArgs false
set_option linter.unusedVariables false
open Go.RowKit
set_option maxRecDepth 100000 in
set_option maxHeartbeats 1600000 in
theorem lawSick_any(l m a:List Int)(n0:Int)(A Am Aa:Option Addr)(n c nm cm na ca:Nat)(w:World)(h:Sl (Ty.int .i64) w (all_ w) A n c l)(hm:Sl (Ty.int .i64) w (all_ w) Am nm cm m)(ha:Sl (Ty.int .i64) w (all_ w) Aa na ca a)(hpw:Pow10 w)(hg:Glo w):Calls Tryz.prog 10 #[.slice A n c,.slice Am nm cm,.slice Aa na ca,.int .i64 n0] w (TruePost w):=by
 have HPW:Hid (∀ V,Below w.heap.size w V→Pow10 V):=fun V hV=>hpw.next hV
 have HGL:Hid (∀ V,Below w.heap.size w V→Glo V):=fun V hV=>hg.next hV
 have HSL:=Lib.hid h;have HSM:Hid (∀ V,Below w.heap.size w V→Sl (Ty.int .i64) V (all_ V) Am nm cm m):=fun V hV=>hm.next hV
 have HSA:Hid (∀ V,Below w.heap.size w V→Sl (Ty.int .i64) V (all_ V) Aa na ca a):=fun V hV=>ha.next hV
 clear hpw hg h hm ha
 go_enter Tryz.func10,Tryz.ntmps10
 go_upto_region 1 with (fail)
 refine wp_region_lit ?_;refine wpList_plain rfl fun K9 hK9 =>?_
 go_simp
 refine hK9 _ _ ?_;clear hK9;refine wpList_plain rfl fun K9 hK9 =>?_
 go_simp
 go_at_call 11
 refine(problem_any l A n c w HSL.out).mono ?_;rintro e w1 ⟨cells,rfl,hpi,hb1⟩;obtain⟨v,cs,Ab,nb,cb,Ao,no,co,bs,os,hh,pp,rfl,htt,hcs,hbs,hos,ho0,ho5,hb2⟩:=hpi;have htt':=htt;obtain⟨A1,n1,d1,A2,n2,d2,A3,n3,d3,rfl, -, -, -⟩:=htt';obtain⟨k0,k1,k2,k3,k4,k5,k6,k7,k8,k9,k10,k11,k12,k13,rfl⟩:=list14 hcs.1;have HCS:=Lib.hid hcs;have HTT1:=Lib.hid htt.fl;have HB1:=Lib.hid hb1;have HBS:=Lib.hid hbs;have HOS:=Lib.hid hos;clear htt hcs hb1 hbs hos;refine hK9 _ _ ?_;clear hK9;refine wpList_plain rfl fun K9 hK9 =>?_
 go_simp
 refine hK9 _ _ ?_;clear hK9;refine wpList_plain rfl fun K9 hK9 =>?_
 go_simp
 go_at_call 12
 refine(people_any m Am nm cm w1 (HSM.out w1 HB1.out)).mono ?_;rintro e w1b ⟨A4,n4,c4,rfl,hs4,hb4⟩;have HSP:=Lib.hid hs4;have HTT2:Hid (Sl Ty.zone w1b (all_ w1b) A1 n1 d1 (probTT l).zones∧Sl Ty.airport w1b (all_ w1b) A2 n2 d2 (probTT l).airports∧Sl Ty.flight w1b (all_ w1b) A3 n3 d3 (probTT l).flights):=⟨HTT1.out.1.next hb4,HTT1.out.2.1.next hb4,HTT1.out.2.2.next hb4⟩
 have HB1b:Hid (Below w.heap.size w w1b):=HB1.out.trans (hb4.mono HB1.out.size);have HTT1b:=HTT2;clear hs4 hb4 HTT1 HB1 HTT2;refine hK9 _ _ ?_;clear hK9;refine wpList_plain rfl fun K9 hK9 =>?_
 go_simp
 refine hK9 _ _ ?_;clear hK9;have HXP:=Lib.hid (heap_alloc_new w1b (.cells zProb 38));have HK1:Hid (∀ q,q<w1b.heap.size→(w1b.alloc (.cells zProb 38)).heap[q]? = w1b.heap[q]?):=fun q hq=>Below.heap_alloc _ _ _ hq
 have HB7:Hid (Below w.heap.size w (w1b.alloc (.cells zProb 38))):=HB1b.out.alloc HB1b.out.size _;have hz7:(w1b.alloc (.cells zProb 38)).heap.size=w1b.heap.size+1:=by simp
 have hone:((#[.slice A1 n1 d1,.slice A2 n2 d2,.slice A3 n3 d3,k0,k1,k2,k3,k4,k5,k6,k7,k8,k9,k10,k11,k12,k13,.slice Ab nb cb,.slice Ao no co,.int .i64 hh,.int .i64 pp]:Array Value)).all (·.oneCell')=true:=by
  have h14:=HCS.out.2;rw[Array.all_eq_true];intro i hi;have hmem:((#[.slice A1 n1 d1,.slice A2 n2 d2,.slice A3 n3 d3,k0,k1,k2,k3,k4,k5,k6,k7,k8,k9,k10,k11,k12,k13,.slice Ab nb cb,.slice Ao no co,.int .i64 hh,.int .i64 pp]:Array Value))[i]∈(#[.slice A1 n1 d1,.slice A2 n2 d2,.slice A3 n3 d3,k0,k1,k2,k3,k4,k5,k6,k7,k8,k9,k10,k11,k12,k13,.slice Ab nb cb,.slice Ao no co,.int .i64 hh,.int .i64 pp]:Array Value).toList:=by simp
  have hcs2 : ∀ u∈([.slice A1 n1 d1,.slice A2 n2 d2,.slice A3 n3 d3]++([k0,k1,k2,k3,k4,k5,k6,k7,k8,k9,k10,k11,k12,k13]++[.slice Ab nb cb,.slice Ao no co,.int .i64 hh,.int .i64 pp]):List Value),u.oneCell'=true:=fun u hu=>by
   rcases List.mem_append.1 hu with h|h
   ·simp at h;rcases h with rfl|rfl|rfl <;> rfl
   ·rcases List.mem_append.1 h with h|h
    ·exact h14 u h
    ·simp at h;rcases h with rfl|rfl|rfl|rfl <;> rfl
  exact hcs2 _ hmem
 change wpList _ _ _ _ _ (w1b.alloc (.cells zProb 38));generalize w1b.alloc (.cells zProb 38)=w7 at*;refine wpList_store_row rfl _ _ _ rfl w1b.heap.size #[.slice A1 n1 d1,.slice A2 n2 d2,.slice A3 n3 d3,k0,k1,k2,k3,k4,k5,k6,k7,k8,k9,k10,k11,k12,k13,.slice Ab nb cb,.slice Ao no co,.int .i64 hh,.int .i64 pp] (by simp[Act.eval,Act.put]) (by simp[Act.eval,Act.put]) _ _ HXP.out (by kernel_rfl) rfl hone ?_;clear hone;have HBX:Hid ((w7.setRow w1b.heap.size #[.slice A1 n1 d1,.slice A2 n2 d2,.slice A3 n3 d3,k0,k1,k2,k3,k4,k5,k6,k7,k8,k9,k10,k11,k12,k13,.slice Ab nb cb,.slice Ao no co,.int .i64 hh,.int .i64 pp]).heap[w1b.heap.size]? = some (.cells #[.slice A1 n1 d1,.slice A2 n2 d2,.slice A3 n3 d3,k0,k1,k2,k3,k4,k5,k6,k7,k8,k9,k10,k11,k12,k13,.slice Ab nb cb,.slice Ao no co,.int .i64 hh,.int .i64 pp] 38 (0,0))):=setRow_heap _ _ _ _ _ _ HXP.out;have hk : ∀ q,q<w1b.heap.size→(w7.setRow w1b.heap.size #[.slice A1 n1 d1,.slice A2 n2 d2,.slice A3 n3 d3,k0,k1,k2,k3,k4,k5,k6,k7,k8,k9,k10,k11,k12,k13,.slice Ab nb cb,.slice Ao no co,.int .i64 hh,.int .i64 pp]).heap[q]? = w1b.heap[q]? :=fun q hq=>(setRow_other _ _ _ _ (by omega)).trans (HK1.out q hq)
 have hzz:(w7.setRow w1b.heap.size #[.slice A1 n1 d1,.slice A2 n2 d2,.slice A3 n3 d3,k0,k1,k2,k3,k4,k5,k6,k7,k8,k9,k10,k11,k12,k13,.slice Ab nb cb,.slice Ao no co,.int .i64 hh,.int .i64 pp]).heap.size=w7.heap.size:=by simp
 have HT:Hid (Sl Ty.zone (w7.setRow w1b.heap.size #[.slice A1 n1 d1,.slice A2 n2 d2,.slice A3 n3 d3,k0,k1,k2,k3,k4,k5,k6,k7,k8,k9,k10,k11,k12,k13,.slice Ab nb cb,.slice Ao no co,.int .i64 hh,.int .i64 pp]) (all_ (w7.setRow w1b.heap.size #[.slice A1 n1 d1,.slice A2 n2 d2,.slice A3 n3 d3,k0,k1,k2,k3,k4,k5,k6,k7,k8,k9,k10,k11,k12,k13,.slice Ab nb cb,.slice Ao no co,.int .i64 hh,.int .i64 pp])) A1 n1 d1 (probTT l).zones∧Sl Ty.airport (w7.setRow w1b.heap.size #[.slice A1 n1 d1,.slice A2 n2 d2,.slice A3 n3 d3,k0,k1,k2,k3,k4,k5,k6,k7,k8,k9,k10,k11,k12,k13,.slice Ab nb cb,.slice Ao no co,.int .i64 hh,.int .i64 pp]) (all_ (w7.setRow w1b.heap.size #[.slice A1 n1 d1,.slice A2 n2 d2,.slice A3 n3 d3,k0,k1,k2,k3,k4,k5,k6,k7,k8,k9,k10,k11,k12,k13,.slice Ab nb cb,.slice Ao no co,.int .i64 hh,.int .i64 pp])) A2 n2 d2 (probTT l).airports∧Sl Ty.flight (w7.setRow w1b.heap.size #[.slice A1 n1 d1,.slice A2 n2 d2,.slice A3 n3 d3,k0,k1,k2,k3,k4,k5,k6,k7,k8,k9,k10,k11,k12,k13,.slice Ab nb cb,.slice Ao no co,.int .i64 hh,.int .i64 pp]) (all_ (w7.setRow w1b.heap.size #[.slice A1 n1 d1,.slice A2 n2 d2,.slice A3 n3 d3,k0,k1,k2,k3,k4,k5,k6,k7,k8,k9,k10,k11,k12,k13,.slice Ab nb cb,.slice Ao no co,.int .i64 hh,.int .i64 pp])) A3 n3 d3 (probTT l).flights) :=
  ⟨(HTT1b.out.1.keep fun b hb=>hk b hb).more fun b hb=>(by show b<_;have:b<w1b.heap.size:=hb;omega),(HTT1b.out.2.1.keep fun b hb=>hk b hb).more fun b hb=>(by show b<_;have:b<w1b.heap.size:=hb;omega),(HTT1b.out.2.2.keep fun b hb=>hk b hb).more fun b hb=>(by show b<_;have:b<w1b.heap.size:=hb;omega)⟩
 have HS4:Hid (Sl Ty.person (w7.setRow w1b.heap.size #[.slice A1 n1 d1,.slice A2 n2 d2,.slice A3 n3 d3,k0,k1,k2,k3,k4,k5,k6,k7,k8,k9,k10,k11,k12,k13,.slice Ab nb cb,.slice Ao no co,.int .i64 hh,.int .i64 pp]) (all_ (w7.setRow w1b.heap.size #[.slice A1 n1 d1,.slice A2 n2 d2,.slice A3 n3 d3,k0,k1,k2,k3,k4,k5,k6,k7,k8,k9,k10,k11,k12,k13,.slice Ab nb cb,.slice Ao no co,.int .i64 hh,.int .i64 pp])) A4 n4 c4 (dPeople m)):=(HSP.out.keep fun b hb=>hk b hb).more fun b hb=>(by show b<_;have:b<w1b.heap.size:=hb;omega)
 have HB2:Hid (Below w.heap.size w (w7.setRow w1b.heap.size #[.slice A1 n1 d1,.slice A2 n2 d2,.slice A3 n3 d3,k0,k1,k2,k3,k4,k5,k6,k7,k8,k9,k10,k11,k12,k13,.slice Ab nb cb,.slice Ao no co,.int .i64 hh,.int .i64 pp])):=below_setRowD HB7.out HB1b.out.size;generalize w7.setRow w1b.heap.size #[.slice A1 n1 d1,.slice A2 n2 d2,.slice A3 n3 d3,k0,k1,k2,k3,k4,k5,k6,k7,k8,k9,k10,k11,k12,k13,.slice Ab nb cb,.slice Ao no co,.int .i64 hh,.int .i64 pp]=w2 at*;generalize w1b.heap.size=P at*;clear HXP HK1 HB7 hz7 hk hzz HTT1b HB1b HSP;have HBW2:=HB2;have HBX2:=HBX;have HT2:=HT;clear HB2 HBX HT HCS HBS HOS ho0 ho5 hb2 HSL HSM;have hdc:=dCount_range l;have hpc:=pCount_range m;have y0:=block_cell HBX2.out 0;have y1:=block_cell HBX2.out 1;have y2:=block_cell HBX2.out 2;have HIN:=Lib.hid (incs_any (probTT l) (dPeople m) a A1 A2 A3 A4 Aa n1 n2 n3 n4 na d1 d2 d3 c4 ca w2 (HSA.out w2 HBW2.out) HT2.out.2.2 HS4.out (by rw[probTT_len];omega) (by rw[dPeople_len];omega) (probTT_dep l));have hn4:n4=pCount m:=by rw[HS4.out.len,dPeople_len]
 have hn9:n4≤9:=by omega
 have hn2:2≤n4:=by omega
 clear hdc hpc hn4;go_upto_region 3 with (go_at_call 13;refine HIN.out.mono ?_;rintro e w6 ⟨Ax,nx,cx,rfl,hsx,hb26⟩)
 have HBW6:Hid (Below w.heap.size w w6):=HBW2.out.trans (hb26.mono HBW2.out.size);have HS6:=Lib.hid (HS4.out.next hb26);have hx3:(dIncs (probTT l) (dPeople m) a).length≤1000000:=by rw[dIncs_len];have:=iCount_range a;omega
 have HSX:=Lib.hid hsx;have HX3:=Lib.hid hx3;clear hsx hb26 HIN y0 y1 y2 HBX2 HT2 HBW2 HS4 HSA hx3;obtain⟨pi,hpi⟩ : ∃ pi:Nat,n0%8%(n4:Int)=(pi:Int):=⟨(n0%8%(n4:Int)).toNat,by
  have:=Int.emod_nonneg (n0%8) (show(n4:Int)≠0 by omega);omega⟩
 have hpl:pi<n4:=by
  have:=Int.emod_lt_of_pos (n0%8) (show(0:Int)<(n4:Int) by omega);omega
 have hpl':(pi:Int)<(n4:Int):=by omega
 have hp0:(0:Int)≤(pi:Int):=by omega
 have hm0 : ¬(n4:Int)=0:=by omega
 have hm3p:(0:Int)<(n4:Int):=by omega
 have hm0':((n4:Int)==0)=false:=by simpa using hm0
 have g1:=and_7 n0;have g4:(n0%8).tmod (n4:Int)=(pi:Int):=by rw[Int.tmod_eq_emod_of_nonneg (by omega)];exact hpi
 obtain⟨pb,po,E1,m1,e1,E2,m2,e2,rfl, -,hat9, -, -⟩:=HS6.out.person_at (k:=pi) (by rw[←HS6.out.len];exact hpl);have ypi:=hat9 0 _ rfl;rw[Nat.add_zero]at ypi;clear hpi hat9;generalize ((dPeople m).getD pi noPerson).id=pid at*;go_upto_region 4 with (fail)
 have HC1:=Lib.hid (sick_any (dIncs (probTT l) (dPeople m) a) Ax nx cx pid w6 HSX.out HX3.out);clear ypi g1 g4 hm0 hm0' hm3p;generalize dIncs (probTT l) (dPeople m) a=xs at*;go_upto_region 5 with (first
  | (go_at_call 30;refine HC1.out.mono ?_;rintro e w7 ⟨v7,rfl,ho7,hb7⟩)
  | (go_at_call 31;refine(sickR_any xs Ax nx cx pid w7 (HSX.out.next hb7) HX3.out).mono ?_;rintro e w8 ⟨v8,rfl,ho8,hb8⟩))
 obtain⟨A7,c7,rfl,hs7⟩:=ho7.sl;obtain⟨A8,c8,rfl,hs8⟩:=ho8.sl;have hb78:Below w7.heap.size w7 w8:=hb8;have HBW8:Hid (Below w.heap.size w w8):=(HBW6.out.trans (hb7.mono HBW6.out.size)).trans (hb8.mono (HBW6.out.trans (hb7.mono HBW6.out.size)).size);have h7:Sl Ty.shift w8 (all_ w8) A7 (sickOf xs pid).length c7 (sickOf xs pid):=(hs7.keep fun b hb=>hb8.block b hb.2).more fun b hb=>Nat.lt_of_lt_of_le hb.2 hb8.size
 have h8:Sl Ty.shift w8 (all_ w8) A8 (sickOf xs pid).length c8 (sickOf xs pid):=hs8.more fun b hb=>hb.2
 have HLE:Hid ((sickOf xs pid).length≤1000000):=Nat.le_trans (sick_len _ _) HX3.out;have H7:Hid (∀ V,Below w8.heap.size w8 V→Sl Ty.shift V (all_ V) A7 (sickOf xs pid).length c7 (sickOf xs pid)∧Sl Ty.shift V (all_ V) A8 (sickOf xs pid).length c8 (sickOf xs pid)):=fun V hV=>⟨h7.next hV,h8.next hV⟩
 clear ho7 ho8 hs7 hs8 hb7 hb8 hb78 h7 h8 HC1 HSX HX3 HS6 HBW6;generalize sickOf xs pid=ys at*;have HYL:Hid (ys.length=ys.length):=rfl;generalize hyl:ys.length=ny at*;have HNY:=Lib.hid hyl;have hny:=HLE.out;clear hyl HYL;go_wp2_with fail
 go_loopw [15] (fun s wr => ∃ k:Nat,k≤ny∧s=.int .i64 k∧Below w8.heap.size w8 wr) (fun s _=>ny-(intOf s).toNat)
 case atStart=>exact⟨0,Nat.zero_le _,rfl,Below.refl _ _⟩
 case round =>
  obtain⟨k,hk,rfl,hbr⟩:=hrel
  by_cases hlt:k<ny
  ·have hlt':(k:Int)<(ny:Int):=by omega
   obtain⟨ha,hb⟩:=H7.out wr hbr;obtain⟨b1,o1,rfl, -,u0,u1⟩:=ha.shift_at (k:=k) (by rw[HNY.out];exact hlt);obtain⟨b2,o2,rfl, -,v0,v1⟩:=hb.shift_at (k:=k) (by rw[HNY.out];exact hlt);generalize (ys.getD k noShift).at_=t1 at*;generalize (ys.getD k noShift).off=t2 at*;have HBR:=Lib.hid hbr;clear ha hb hbr;go_upto_region 10 with (fail)
   go_quiet (fail)
   go_wp2_with fail
   go_roundw
   case rel=>exact⟨k+1,by omega,by go_num,below_drewN HBR.out _⟩
   case measure=>simp[intOf];omega
  ·have hge : ¬(k:Int)<(ny:Int):=by omega
   have HBZ:Hid (Below w.heap.size w wr):=HBW8.out.trans (hbr.mono HBW8.out.size);clear hbr;go_wp2_with (go_at_call 18;refine(known_any wr (HPW.out wr HBZ.out) (HGL.out wr HBZ.out)).mono ?_;rintro e wy ⟨rfl,hby⟩)
   go_ret
   exact⟨rfl,HBZ.out.trans (hby.mono HBZ.out.size)⟩
end Go.Proofs.YtifconapjfdkcaaGreatDoor
