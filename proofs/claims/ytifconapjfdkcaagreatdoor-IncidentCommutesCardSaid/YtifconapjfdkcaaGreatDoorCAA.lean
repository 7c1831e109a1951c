/-
  Joined texts: PeoplePlain; IncPlain; Sorts; Law40Plain; Same40; DataOk; LawCommutes. What each proves stands ahead of it, with its conditions.
-/
import Derived.Test.YtifconapjfdkcaaGreatDoorProg
import Derived.WalkKit
import Derived.WalkLawsBesides
import Derived.WalkSpells
import Derived.Lib.Hide
import Derived.Maps.AppendAt
import Derived.ProofKit
import Derived.Deep.Slices
import Derived.Lib.SplitLaws
import Derived.Lib.IndexMore
import Derived.Lib.Strings
import Derived.Lib.AppendStr
import Derived.Laws.Rows
import Derived.Laws.Tables
import Derived.Deep.RegionWith
import Derived.BigQuiet
import Derived.Deep.QuietTactic
import Derived.Ground.SlsfProg
import Derived.Shelf.SlSortCmp.Insertion
import Derived.Sort.LotA
import Derived.Sort.Walk0
import Derived.Lib.ItoaNum
import Derived.IntWalk
import Derived.Maps.OwnOps
import Derived.Maps.Views
import Derived.StillTailTactics
import Derived.ChangeKeysEq
import Derived.Deep.AppendLies
import Derived.Deep.RegionLaw
import Derived.StillTail
import Derived.RegionTactic
import Derived.Deep.DeepCutAuto
import Derived.Shelf.Strings.Builder1
import Derived.Shelf.Strings.Builder2
import Derived.Shelf.Small.Strs
import Derived.Shelf.Strings.BuilderF
import Derived.Shelf.Strconv.Itoa0
import Derived.Shelf.Strconv.Itoa1
import Derived.Shelf.LaysM
import Derived.Shelf.Strconv.Itoa2
import Derived.Shelf.Strconv.Itoa3
import Derived.Shelf.Strings.Search1
import Derived.Shelf.Strings.Search2
import Derived.Shelf.Strings.Search3
import Derived.Shelf.Strings.Cut
import Derived.Shelf.Strings.Count
import Derived.Shelf.Strings.Shaped
import Derived.Shelf.Strings.Prefix
import Derived.Shelf.Strings.Split
import Derived.Shelf.Strings.SplitShaped
import Derived.Shelf.Bits.Mul64
import Derived.Shelf.Strings.Repeat
import Derived.Shelf.Unicode.DecodeSlow
import Derived.Shelf.SlSortCmp.Insertion1
import Derived.Lib.Bytealg
import Derived.Sort.OwnSortedInts
import Derived.Sort.WalkA
import Derived.Deep.OwnRows
import Derived.Laws.Strings
import Derived.Scope
import Derived.Laws.Sem
import Derived.Deep.CutBlock
import Derived.Laws.Externs
import Derived.OwnWalk
import Derived.Sort.Grow
import Derived.Test.YtifconapjfdkcaaGreatDoorBAA
import Derived.Test.YtifconapjfdkcaaGreatDoorBAB
import Derived.Test.YtifconapjfdkcaaGreatDoorBAC
import Derived.Test.YtifconapjfdkcaaGreatDoorBAD
import Derived.Test.YtifconapjfdkcaaGreatDoorBAE
import Derived.Test.YtifconapjfdkcaaGreatDoorBAF
import Derived.Test.YtifconapjfdkcaaGreatDoorBAG
import Derived.Test.YtifconapjfdkcaaGreatDoorBAH
import Derived.Test.YtifconapjfdkcaaGreatDoorBAI
import Derived.Test.YtifconapjfdkcaaGreatDoorBAJ
import Derived.Test.YtifconapjfdkcaaGreatDoorBAK
import Derived.Test.YtifconapjfdkcaaGreatDoorBAL
import Derived.Test.YtifconapjfdkcaaGreatDoorBAM
import Derived.Test.YtifconapjfdkcaaGreatDoorBAN
import Derived.Test.YtifconapjfdkcaaGreatDoorBAO
import Derived.Test.YtifconapjfdkcaaGreatDoorBAP
import Derived.Test.YtifconapjfdkcaaGreatDoorBAQ
import Derived.Test.YtifconapjfdkcaaGreatDoorBAR
import Derived.Test.YtifconapjfdkcaaGreatDoorBAS
import Derived.Test.YtifconapjfdkcaaGreatDoorBAT
import Derived.Test.YtifconapjfdkcaaGreatDoorBAU
import Derived.Test.YtifconapjfdkcaaGreatDoorBAV
import Derived.Test.YtifconapjfdkcaaGreatDoorBAW
import Derived.Test.YtifconapjfdkcaaGreatDoorBAX
import Derived.Test.YtifconapjfdkcaaGreatDoorBAY
import Derived.Test.YtifconapjfdkcaaGreatDoorBAZ
import Derived.Test.YtifconapjfdkcaaGreatDoorBBA
import Derived.Test.YtifconapjfdkcaaGreatDoorBBB
import Derived.Test.YtifconapjfdkcaaGreatDoorBBC
import Derived.Test.YtifconapjfdkcaaGreatDoorBBD
import Derived.Test.YtifconapjfdkcaaGreatDoorBBE
import Derived.Test.YtifconapjfdkcaaGreatDoorBBF
import Derived.Test.YtifconapjfdkcaaGreatDoorBBG
import Derived.Test.YtifconapjfdkcaaGreatDoorBBH
import Derived.Test.YtifconapjfdkcaaGreatDoorBBI
import Derived.Test.YtifconapjfdkcaaGreatDoorBBJ
import Derived.Test.YtifconapjfdkcaaGreatDoorBBK
import Derived.Test.YtifconapjfdkcaaGreatDoorBBL
import Derived.Test.YtifconapjfdkcaaGreatDoorBBM
import Derived.Test.YtifconapjfdkcaaGreatDoorBBN
import Derived.Test.YtifconapjfdkcaaGreatDoorBBO
import Derived.Test.YtifconapjfdkcaaGreatDoorBBP
import Derived.Test.YtifconapjfdkcaaGreatDoorBBQ
import Derived.Test.YtifconapjfdkcaaGreatDoorBBR
import Derived.Test.YtifconapjfdkcaaGreatDoorBBS
import Derived.Test.YtifconapjfdkcaaGreatDoorBBT
import Derived.Test.YtifconapjfdkcaaGreatDoorBBU
import Derived.Test.YtifconapjfdkcaaGreatDoorBBV
import Derived.Test.YtifconapjfdkcaaGreatDoorBBW
namespace Go.Proofs.YtifconapjfdkcaaGreatDoor
set_option linter.unusedSimpArgs false
set_option linter.unusedVariables false
open Go
theorem dPeople_len(l:List Int):(dPeople l).length=pCount l:=dPeopleN_len _ _
end Go.Proofs.YtifconapjfdkcaaGreatDoor
namespace Go.Proofs.YtifconapjfdkcaaGreatDoor
set_option linter.unusedSimpArgs false
set_option linter.unusedVariables false
open Go Go.RowKit
theorem dIncs_len(t:GTT)(ps:List GPerson)(l:List Int):(dIncs t ps l).length=iCount l:=by unfold dIncs;simp
theorem dAir_ok(k:Int){src:ByteArray}(hs:src=dCode 0∨src=dCode 1∨src=dCode 2):hasB (aCodes dAirports) (dAir k src)=true∧dAir k src≠src:=by
 have h3:(k/32%3).toNat=0∨(k/32%3).toNat=1∨(k/32%3).toNat=2:=by omega
 unfold dAir;rcases h3 with h|h|h <;> rcases hs with rfl|rfl|rfl <;> rw[h] <;> decide +kernel
theorem hasI_mem{l:List Int}{a:Int}(h:a∈l):hasI l a=true:=by
 unfold hasI;rw[List.any_eq_true];exact⟨a,h,by simp⟩
theorem dFlight_src(n clock:Int)(i:Nat):(dFlight n clock i).src=dCode 0∨(dFlight n clock i).src=dCode 1∨(dFlight n clock i).src=dCode 2:=by
 show dCode (dFrom (dRoute n i))=_∨dCode (dFrom (dRoute n i))=_∨dCode (dFrom (dRoute n i))=_;have h:=dRoute_lt n i;generalize dRoute n i=r at*;have:r=0∨r=1∨r=2∨r=3∨r=4∨r=5:=by omega
 rcases this with rfl|rfl|rfl|rfl|rfl|rfl <;> decide +kernel
theorem incE1_flight{t:GTT}{ps:List GPerson}{x:GInc}(hk:x.kind=1∨x.kind=2∨x.kind=3)(hz:flightIncE t x=0)(hs:shapedI x=true):incE1 t ps x=0:=by
 unfold incE1;rw[if_neg (by omega),if_neg (by omega),if_neg (by rw[hz];simp),if_neg (by rw[hs];simp)]
theorem dInc_ok(l m:List Int)(k:Int)(hk:0≤k):incE1 (probTT l) (dPeople m) (dInc (probTT l) (dPeople m) k)=0:=by
 have hn:=dCount_range l;have hfl:=probTT_len l;have hp:=pCount_range m;have hpl:=dPeople_len m;have hf0:0≤k/4%((probTT l).flights.length:Int):=Int.emod_nonneg _ (by omega);have hf1:k/4%((probTT l).flights.length:Int)<(probTT l).flights.length:=Int.emod_lt_of_pos _ (by omega);have hp0:0≤k/4%((dPeople m).length:Int):=Int.emod_nonneg _ (by omega);have hp1:k/4%((dPeople m).length:Int)<(dPeople m).length:=Int.emod_lt_of_pos _ (by omega);have hsrc : ∀ i:Nat,i<(probTT l).flights.length→((probTT l).flights.getD i noFlight).src=dCode 0∨((probTT l).flights.getD i noFlight).src=dCode 1∨((probTT l).flights.getD i noFlight).src=dCode 2:=fun i hi=>by
  have g:(probTT l).flights.getD i noFlight=_:=dSt_get (l.drop 1) (dCount l) i (by omega);rw[g];exact dFlight_src _ _ _
 have ha:(probTT l).airports=dAirports:=rfl;generalize hF:k/4%((probTT l).flights.length:Int)=F at*;generalize hG:k/4%((dPeople m).length:Int)=G at*;have hmem:((dPeople m).getD G.toNat noPerson).id∈pIds (dPeople m):=by
  unfold pIds;rw[List.mem_map];exact⟨_,getD_in (by omega) _,rfl⟩
 unfold dInc;rw[hF,hG];split
 ·have hz:flightIncE (probTT l) ⟨1,F,1+k/32%128,noStr,0,noShift⟩=0:=by
   unfold flightIncE;rw[if_neg (show ¬(F<0∨_≤F) by omega),if_pos rfl,if_neg (show ¬(1+k/32%128<1∨1440<1+k/32%128) by omega)]
  exact incE1_flight (.inl rfl) hz rfl
 split
 ·have hz:flightIncE (probTT l) ⟨2,F,0,noStr,0,noShift⟩=0:=by
   unfold flightIncE;rw[if_neg (show ¬(F<0∨_≤F) by omega),if_neg (show ¬(2:Int)=1 by decide),if_neg (show ¬(2:Int)=3 by decide)]
  exact incE1_flight (.inr (.inl rfl)) hz rfl
 split
 ·obtain⟨h1,h2⟩:=dAir_ok k (hsrc F.toNat (by omega));have hz:flightIncE (probTT l) ⟨3,F,k/128%64,dAir k ((probTT l).flights.getD F.toNat noFlight).src,0,noShift⟩=0:=by
   unfold flightIncE;rw[ha,if_neg (show ¬(F<0∨_≤F) by omega),if_neg (show ¬(3:Int)=1 by decide),if_pos rfl,if_neg (by rw[h1];simp),if_neg h2,if_neg (show ¬(k/128%64<0∨720<k/128%64) by omega)]
  exact incE1_flight (.inr (.inr rfl)) hz rfl
 ·unfold incE1;rw[if_neg (show ¬((4:Int)<1∨4<(4:Int)) by decide),if_pos rfl,if_neg (by rw[hasI_mem hmem];simp),if_neg ?_,if_neg (by show ¬(true:Bool)=false;decide)];unfold vacOk;simp only[Bool.and_eq_false_iff,decide_eq_false_iff_not];omega
end Go.Proofs.YtifconapjfdkcaaGreatDoor
namespace Go.Proofs
open Go.Shelf
def Tryz.laysSlF20_sort_ren:Go.Shelf.Ren:=⟨fun|20=>156|n=>n,fun|24=>3|22=>22|3=>3|25=>139|4=>4|0=>0|n=>n,fun|n=>n⟩
theorem Tryz.laysSlF20_sort:Go.Proofs.SlLaysF.n20 Tryz.prog Tryz.laysSlF20_sort_ren:={
 mixed:=by kernel_rfl
 f20:=⟨Tryz.f156.name,by decide,Tryz.func156.trans (congrArg some (by kernel_rfl))⟩
 t0:=Tryz.underlying0
 a0:=Tryz.isAgg0
 z0:=Tryz.sizeOf0
 v0:=Tryz.zeroValue0
 t3:=Tryz.underlying3
 a3:=Tryz.isAgg3
 z3:=Tryz.sizeOf3
 v3:=Tryz.zeroValue3
 t4:=Tryz.underlying4
 a4:=Tryz.isAgg4
 z4:=Tryz.sizeOf4
 v4:=Tryz.zeroValue4
 t22:=Tryz.underlying22
 a22:=Tryz.isAgg22
 z22:=Tryz.sizeOf22
 v22:=Tryz.zeroValue22
 a24:=Tryz.isAgg3
 z24:=Tryz.sizeOf3
 t25:=Tryz.underlying139
 a25:=Tryz.isAgg139
 z25:=Tryz.sizeOf139
 v25:=Tryz.zeroValue139 }
end Go.Proofs
namespace Go.Proofs.YtifconapjfdkcaaGreatDoor
set_option linter.unusedSimpArgs false
set_option linter.unusedVariables false
open Go Go.RowKit
theorem appSt_comm(s:List GFlight×List Bool)(x y:GInc)(h:x.kind=4∨y.kind=4∨x.flight.toNat≠y.flight.toNat):appSt (appSt s x) y=appSt (appSt s y) x:=by
 by_cases hx:x.kind=4
 ·have e : ∀ s,appSt s x=s:=fun s=>by unfold appSt;rw[if_pos (.inl hx)]
  rw[e,e]
 by_cases hy:y.kind=4
 ·have e : ∀ s,appSt s y=s:=fun s=>by unfold appSt;rw[if_pos (.inl hy)]
  rw[e,e]
 have hne:x.flight.toNat≠y.flight.toNat:=by
  rcases h with h|h|h
  ·exact absurd h hx
  ·exact absurd h hy
  ·exact h
 have hne':=hne.symm;obtain⟨fl,go⟩:=s;unfold appSt;simp only[hx,hy,false_or];generalize x.flight.toNat=i at*;generalize y.flight.toNat=j at*
 by_cases gx:go.getD i false=true <;> by_cases gy:go.getD j false=true <;> by_cases kx1:x.kind=1 <;> by_cases kx2:x.kind=2 <;> by_cases ky1:y.kind=1 <;> by_cases ky2:y.kind=2 <;>
  simp only[gx,gy,kx1,kx2,ky1,ky2,if_true,if_false,getD_set_ne hne,getD_set_ne hne',reduceCtorEq,Bool.false_eq_true,Int.reduceEq] <;> (try rw[List.set_comm _ _ hne])
theorem appAll_rev(t:GTT)(l:List GInc)(h : ∀ i k,i<k→k<l.length→(l.getD i noInc).kind=4∨(l.getD k noInc).kind=4∨(l.getD i noInc).flight.toNat≠(l.getD k noInc).flight.toNat):appAll t l.reverse=appAll t l:=by
 unfold appAll;refine List.Perm.foldl_eq' l.reverse_perm (fun x hx y hy z =>?_) _;rw[List.mem_reverse]at hx hy;obtain⟨i,hi,rfl⟩:=mem_getD hx noInc;obtain⟨k,hk,rfl⟩:=mem_getD hy noInc;rcases Nat.lt_trichotomy i k with h1|rfl|h1
 ·exact appSt_comm _ _ _ (h i k h1 hk)
 ·rfl
 ·refine(appSt_comm _ _ _ ?_).symm;exact h k i h1 hi
theorem firstErr_all{α : Type}{l:List α}{d : α}{f : α → Int}(h : ∀ x∈l,f x=0):firstErr (fun i=>f (l.getD i d)) l.length=0:=firstErr_none fun j hj=>h _ (by
 rw[List.getD_eq_getElem?_getD,List.getElem?_eq_getElem hj];exact List.getElem_mem hj)
theorem applyP_rev(t:GTT)(l:List GInc)(hz : ∀ x∈l,(if x.kind<1∨4<x.kind then 5 else if x.kind=4 then 0 else flightIncE t x)=0)(h : ∀ i k,i<k→k<l.length→(l.getD i noInc).kind=4∨(l.getD k noInc).kind=4∨(l.getD i noInc).flight.toNat≠(l.getD k noInc).flight.toNat) :
 applyP t l.reverse=applyP t l:=by
 unfold applyP;rw[firstErr_all (f:=fun x:GInc=>if x.kind<1∨4<x.kind then 5 else if x.kind=4 then 0 else flightIncE t x) hz,
  firstErr_all (f:=fun x:GInc=>if x.kind<1∨4<x.kind then 5 else if x.kind=4 then 0 else flightIncE t x) (fun x hx=>hz x (List.mem_reverse.1 hx)),appAll_rev t l h]
end Go.Proofs.YtifconapjfdkcaaGreatDoor
namespace Go.Proofs.YtifconapjfdkcaaGreatDoor
set_option linter.unusedSimpArgs false
set_option linter.unusedVariables false
open Go.RowKit
theorem need_eq(a b c:Int)(d:Nat)(w:World):(Op.equalIn (d+1+1) 60 (.agg #[.int .i64 a,.int .i64 b,.int .i64 c]) (.agg #[.int .i64 a,.int .i64 b,.int .i64 c])).run Tryz.prog w=.ok true w:=by
 rw[run_equalIn_array (P:=Tryz.prog) w (d+1) (t:=60) (e:=3) (n:=3) (i:=(Tryz.prog.info? 3).get (by kernel_rfl)) _ _ Tryz.underlying60 (by kernel_rfl)];have hc:Tryz.prog.cellsOf 3=1:=by kernel_rfl
 have h1 : ∀ x:Int,(Op.equalIn (d+1) 3 (.int .i64 x) (.int .i64 x)).run Tryz.prog w=.ok true w:=fun x=>by
  rw[run_equalIn_int w d _ _ .i64 _ _ Tryz.underlying3];simp
 have e:List.range 3=[0,1,2]:=rfl;rw[hc,e];have p0 : ∀ u v x:Int,(part 3 #[.int .i64 u,.int .i64 v,.int .i64 x] 0).run Tryz.prog w=.ok (.int .i64 u) w:=fun _ _ _=>by kernel_rfl
 have p1 : ∀ u v x:Int,(part 3 #[.int .i64 u,.int .i64 v,.int .i64 x] 1).run Tryz.prog w=.ok (.int .i64 v) w:=fun _ _ _=>by kernel_rfl
 have p2 : ∀ u v x:Int,(part 3 #[.int .i64 u,.int .i64 v,.int .i64 x] 2).run Tryz.prog w=.ok (.int .i64 x) w:=fun _ _ _=>by kernel_rfl
 simp only[Op.eqItems,Sem.run_bind,Nat.zero_mul,Nat.one_mul,Nat.mul_one,p0,p1,p2,h1,Result.andThen_ok,Bool.not_true,Bool.false_eq_true,if_false,Sem.run_pure]
set_option maxRecDepth 100000 in
theorem sameInts_any(xs:List Int)(A B:Option Addr)(n m c d:Nat)(w:World)(ha:Sl (Ty.int .i64) w (all_ w) A n c xs)(hb:Sl (Ty.int .i64) w (all_ w) B m d xs) :
 Calls Tryz.prog 21 #[.slice A n c,.slice B m d] w (TruePost w):=by
 have hn1:n=xs.length:=ha.len;have hm1:m=xs.length:=hb.len;subst hn1 hm1;have hle:=ha.le;unfold maxLen at hle;have hnn:(((xs.length:Nat):Int) != ((xs.length:Nat):Int))=false:=by simp
 have HA:Hid (∀ V,Below w.heap.size w V→Sl (Ty.int .i64) V (all_ w) A xs.length c xs∧Sl (Ty.int .i64) V (all_ w) B xs.length d xs):=fun V hV=>⟨ha.keep (all_keep hV),hb.keep (all_keep hV)⟩
 clear ha hb
 go_enter Tryz.func21,Tryz.ntmps21
 go_wp2_with fail
 go_loopw [5] (fun s wr => ∃ k:Nat,k≤xs.length∧s=.int .i64 k∧Below w.heap.size w wr) (fun s _=>xs.length-(intOf s).toNat)
 case atStart=>exact⟨0,Nat.zero_le _,rfl,Below.refl _ _⟩
 case round =>
  obtain⟨k,hk,rfl,hbr⟩:=hrel
  by_cases hlt:k<xs.length
  ·obtain⟨ha,hb⟩:=HA.out wr hbr;obtain⟨b1,o1,rfl, -,y0⟩:=ha.int_at hlt;obtain⟨b2,o2,rfl, -,z0⟩:=hb.int_at hlt;generalize xs[k]=x at*;have hlt':(k:Int)<(xs.length:Int):=by omega
   clear ha hb;go_wp2_with fail
   go_quiet (fail)
   go_wp2_with fail
   go_roundw
   case rel=>exact⟨k+1,by omega,by go_num,below_drewN hbr _⟩
   case measure=>simp[intOf];omega
  ·have hge : ¬(k:Int)<(xs.length:Int):=by omega
   go_wp2_with fail
   go_ret
   exact⟨rfl,hbr⟩
set_option maxRecDepth 100000 in
theorem sameFlights_any(xs:List GFlight)(A B:Option Addr)(n m c d:Nat)(w:World)(ha:Sl Ty.flight w (all_ w) A n c xs)(hb:Sl Ty.flight w (all_ w) B m d xs) :
 Calls Tryz.prog 22 #[.slice A n c,.slice B m d] w (TruePost w):=by
 have hn1:n=xs.length:=ha.len;have hm1:m=xs.length:=hb.len;subst hn1 hm1;have hle:=ha.le;unfold maxLen at hle;have hnn:(((xs.length:Nat):Int) != ((xs.length:Nat):Int))=false:=by simp
 have HA:Hid (∀ V,Below w.heap.size w V→Sl Ty.flight V (all_ w) A xs.length c xs∧Sl Ty.flight V (all_ w) B xs.length d xs):=fun V hV=>⟨ha.keep (all_keep hV),hb.keep (all_keep hV)⟩
 clear ha hb
 go_enter Tryz.func22,Tryz.ntmps22
 go_wp2_with fail
 go_loopw [5] (fun s wr => ∃ k:Nat,k≤xs.length∧s=.int .i64 k∧Below w.heap.size w wr) (fun s _=>xs.length-(intOf s).toNat)
 case atStart=>exact⟨0,Nat.zero_le _,rfl,Below.refl _ _⟩
 case round =>
  obtain⟨k,hk,rfl,hbr⟩:=hrel
  by_cases hlt:k<xs.length
  ·obtain⟨ha,hb⟩:=HA.out wr hbr;obtain⟨b1,o1,rfl, -,hat1⟩:=ha.flight_at hlt;obtain⟨b2,o2,rfl, -,hat2⟩:=hb.flight_at hlt;generalize xs.getD k noFlight=x at*;have hlt':(k:Int)<(xs.length:Int):=by omega
   obtain⟨f0,f1,f2,f3,f4,f5,f6,f7,f8⟩:=x;have y0:=hat1 0 _ rfl;rw[Nat.add_zero]at y0;have y1:=hat1 1 _ rfl;have y2:=hat1 2 _ rfl;have y3:=hat1 3 _ rfl;have y4:=hat1 4 _ rfl;have y5:=hat1 5 _ rfl;have y6:=hat1 6 _ rfl;have y7:=hat1 7 _ rfl;have y8:=hat1 8 _ rfl;have z0:=hat2 0 _ rfl;rw[Nat.add_zero]at z0;have z1:=hat2 1 _ rfl;have z2:=hat2 2 _ rfl;have z3:=hat2 3 _ rfl;have z4:=hat2 4 _ rfl;have z5:=hat2 5 _ rfl;have z6:=hat2 6 _ rfl;have z7:=hat2 7 _ rfl;have z8:=hat2 8 _ rfl;simp only at y0 y1 y2 y3 y4 y5 y6 y7 y8 z0 z1 z2 z3 z4 z5 z6 z7 z8;clear ha hb hat1 hat2;have hNE:=need_eq f6 f7 f8;go_wp2_with fail
   go_quiet (fail)
   go_wp2_with fail
   go_roundw
   case rel=>exact⟨k+1,by omega,by go_num,below_drewN hbr _⟩
   case measure=>simp[intOf];omega
  ·have hge : ¬(k:Int)<(xs.length:Int):=by omega
   go_wp2_with fail
   go_ret
   exact⟨rfl,hbr⟩
end Go.Proofs.YtifconapjfdkcaaGreatDoor
namespace Go.Proofs.YtifconapjfdkcaaGreatDoor
set_option linter.unusedSimpArgs false
set_option linter.unusedVariables false
open Go Go.RowKit
theorem probTT_dep(l:List Int) : ∀ f∈(probTT l).flights,0<f.dep:=fun f hf=>by
 obtain⟨i,hi,rfl⟩:=dTT_mem _ _ hf;have:=dSt_range (l.drop 1) i;show 0<(dSt (l.drop 1) i).1;omega
end Go.Proofs.YtifconapjfdkcaaGreatDoor
namespace Go.Proofs.YtifconapjfdkcaaGreatDoor
set_option linter.unusedSimpArgs false
set_option linter.unusedVariables false
open Go.RowKit
theorem incE1_check{t:GTT}{ps:List GPerson}{x:GInc}(h:incE1 t ps x=0):(if x.kind<1∨4<x.kind then 5 else if x.kind=4 then 0 else flightIncE t x)=0:=by
 unfold incE1 at h;split at h
 ·cases h
 ·rename_i h1;rw[if_neg h1];split at h
  ·rename_i h2;rw[if_pos h2]
  ·rename_i h2;rw[if_neg h2];split at h
   ·exact h
   ·rename_i h3;exact Classical.not_not.1 h3
theorem dIncs_mem{l m a:List Int}{x:GInc}(h:x∈dIncs (probTT l) (dPeople m) a):incE1 (probTT l) (dPeople m) x=0∧0≤x.flight:=by
 unfold dIncs at h;rw[List.mem_map]at h;obtain⟨i, -,rfl⟩:=h;refine⟨dInc_ok l m _ (atL_range a (1+i)).1, ?_⟩;unfold dInc;have hf0:0≤atL a (1+i)/4%((probTT l).flights.length:Int):=Int.emod_nonneg _ (by have:=dCount_range l;rw[probTT_len];omega);split
 ·exact hf0
 split
 ·exact hf0
 split
 ·exact hf0
 ·exact Int.le_refl 0
def apartTo(x:List GInc)(i:Nat):Prop := ∀ p q,p<q→q<i→(x.getD p noInc).kind=4∨(x.getD q noInc).kind=4∨(x.getD p noInc).flight≠(x.getD q noInc).flight
theorem commutes{l m a:List Int}(h:apartTo (dIncs (probTT l) (dPeople m) a) (dIncs (probTT l) (dPeople m) a).length):applyP (probTT l) (dIncs (probTT l) (dPeople m) a).reverse=applyP (probTT l) (dIncs (probTT l) (dPeople m) a) :=
 applyP_rev _ _ (fun x hx=>incE1_check (dIncs_mem hx).1) fun i k hik hk=>by
  have h1:=(dIncs_mem (getD_in (Nat.lt_trans hik hk) noInc)).2;have h2:=(dIncs_mem (getD_in hk noInc)).2;rcases h i k hik hk with h9|h9|h9
  ·exact .inl h9
  ·exact .inr (.inl h9)
  ·exact .inr (.inr (by omega))
theorem take_rev(x:List GInc){i:Nat}(h:i<x.length):(x.take (i+1)).reverse=[x.getD i noInc]++(x.take i).reverse:=by
 rw[List.take_succ_eq_append_getElem h,List.reverse_append];rw[List.getD_eq_getElem?_getD,List.getElem?_eq_getElem h];rfl
theorem own_one(w:World)(x:GInc):Own Ty.inc 59 (w.alloc (.cells (incCells x).toArray 59)) w.heap.size (.slice (some ⟨w.heap.size,0,none⟩) 1 1) [x]:=by
 refine⟨incCells x,⟨rfl,.inr ⟨_,1,_,rfl,Nat.le_refl _,heap_alloc_new _ _,Nat.le_refl 1,show 1≤maxLen by decide,rfl,rfl⟩⟩,rfl,fun i y hi =>?_⟩;have:i=0:=by
  have:=(List.getElem?_eq_some_iff.1 hi).1;have:i<1:=this;omega
 subst this;injection hi with hi
 subst hi;rfl
set_option maxRecDepth 100000 in
set_option maxHeartbeats 1600000 in
theorem lawCommutes_any(l m a:List Int)(A Am Aa:Option Addr)(n c nm cm na ca:Nat)(w:World)(h:Sl (Ty.int .i64) w (all_ w) A n c l)(hm:Sl (Ty.int .i64) w (all_ w) Am nm cm m)(ha:Sl (Ty.int .i64) w (all_ w) Aa na ca a)(hpw:Pow10 w)(hg:Glo w):Calls Tryz.prog 7 #[.slice A n c,.slice Am nm cm,.slice Aa na ca] w (TruePost w):=by
 have HPW:Hid (∀ V,Below w.heap.size w V→Pow10 V):=fun V hV=>hpw.next hV
 have HGL:Hid (∀ V,Below w.heap.size w V→Glo V):=fun V hV=>hg.next hV
 have HSL:=Lib.hid h;have HSM:Hid (∀ V,Below w.heap.size w V→Sl (Ty.int .i64) V (all_ V) Am nm cm m):=fun V hV=>hm.next hV
 have HSA:Hid (∀ V,Below w.heap.size w V→Sl (Ty.int .i64) V (all_ V) Aa na ca a):=fun V hV=>ha.next hV
 clear hpw hg h hm ha
 go_enter Tryz.func7,Tryz.ntmps7
 go_upto_region 1 with (fail)
 refine wp_region_lit ?_;refine wpList_plain rfl fun K9 hK9 =>?_
 go_simp
 refine hK9 _ _ ?_;clear hK9;refine wpList_plain rfl fun K9 hK9 =>?_
 go_simp
 go_at_call 11
 refine(problem_any l A n c w HSL.out).mono ?_;rintro e w1 ⟨cells,rfl,hpi,hb1⟩;obtain⟨v,cs,Ab,nb,cb,Ao,no,co,bs,os,hh,pp,rfl,htt,hcs,hbs,hos,ho0,ho5,hb2⟩:=hpi;have htt':=htt;obtain⟨A1,n1,d1,A2,n2,d2,A3,n3,d3,rfl, -, -, -⟩:=htt';obtain⟨k0,k1,k2,k3,k4,k5,k6,k7,k8,k9,k10,k11,k12,k13,rfl⟩:=list14 hcs.1;have HCS:=Lib.hid hcs;have HTT1:=Lib.hid htt.fl;have HB1:=Lib.hid hb1;have HBS:=Lib.hid hbs;have HOS:=Lib.hid hos;clear htt hcs hb1 hbs hos;refine hK9 _ _ ?_;clear hK9;refine wpList_plain rfl fun K9 hK9 =>?_
 go_simp
 refine hK9 _ _ ?_;clear hK9;refine wpList_plain rfl fun K9 hK9 =>?_
 go_simp
 go_at_call 12
 refine(people_any m Am nm cm w1 (HSM.out w1 HB1.out)).mono ?_;rintro e w1b ⟨A4,n4,c4,rfl,hs4,hb4⟩;have HSP:=Lib.hid hs4;have HTT2:Hid (Sl Ty.zone w1b (all_ w1b) A1 n1 d1 (probTT l).zones∧Sl Ty.airport w1b (all_ w1b) A2 n2 d2 (probTT l).airports∧Sl Ty.flight w1b (all_ w1b) A3 n3 d3 (probTT l).flights):=⟨HTT1.out.1.next hb4,HTT1.out.2.1.next hb4,HTT1.out.2.2.next hb4⟩
 have HB1b:Hid (Below w.heap.size w w1b):=HB1.out.trans (hb4.mono HB1.out.size);have HTT1b:=HTT2;clear hs4 hb4 HTT1 HB1 HTT2;refine hK9 _ _ ?_;clear hK9;refine wpList_plain rfl fun K9 hK9 =>?_
 go_simp
 refine hK9 _ _ ?_;clear hK9;have HXP:=Lib.hid (heap_alloc_new w1b (.cells zProb 38));have HK1:Hid (∀ q,q<w1b.heap.size→(w1b.alloc (.cells zProb 38)).heap[q]? = w1b.heap[q]?):=fun q hq=>Below.heap_alloc _ _ _ hq
 have HB7:Hid (Below w.heap.size w (w1b.alloc (.cells zProb 38))):=HB1b.out.alloc HB1b.out.size _;have hz7:(w1b.alloc (.cells zProb 38)).heap.size=w1b.heap.size+1:=by simp
 have hone:((#[.slice A1 n1 d1,.slice A2 n2 d2,.slice A3 n3 d3,k0,k1,k2,k3,k4,k5,k6,k7,k8,k9,k10,k11,k12,k13,.slice Ab nb cb,.slice Ao no co,.int .i64 hh,.int .i64 pp]:Array Value)).all (·.oneCell')=true:=by
  have h14:=HCS.out.2;rw[Array.all_eq_true];intro i hi;have hmem:((#[.slice A1 n1 d1,.slice A2 n2 d2,.slice A3 n3 d3,k0,k1,k2,k3,k4,k5,k6,k7,k8,k9,k10,k11,k12,k13,.slice Ab nb cb,.slice Ao no co,.int .i64 hh,.int .i64 pp]:Array Value))[i]∈(#[.slice A1 n1 d1,.slice A2 n2 d2,.slice A3 n3 d3,k0,k1,k2,k3,k4,k5,k6,k7,k8,k9,k10,k11,k12,k13,.slice Ab nb cb,.slice Ao no co,.int .i64 hh,.int .i64 pp]:Array Value).toList:=by simp
  have hcs2 : ∀ u∈([.slice A1 n1 d1,.slice A2 n2 d2,.slice A3 n3 d3]++([k0,k1,k2,k3,k4,k5,k6,k7,k8,k9,k10,k11,k12,k13]++[.slice Ab nb cb,.slice Ao no co,.int .i64 hh,.int .i64 pp]):List Value),u.oneCell'=true:=fun u hu=>by
   rcases List.mem_append.1 hu with h|h
   ·simp at h;rcases h with rfl|rfl|rfl <;> rfl
   ·rcases List.mem_append.1 h with h|h
    ·exact h14 u h
    ·simp at h;rcases h with rfl|rfl|rfl|rfl <;> rfl
  exact hcs2 _ hmem
 change wpList _ _ _ _ _ (w1b.alloc (.cells zProb 38));generalize w1b.alloc (.cells zProb 38)=w7 at*;refine wpList_store_row rfl _ _ _ rfl w1b.heap.size #[.slice A1 n1 d1,.slice A2 n2 d2,.slice A3 n3 d3,k0,k1,k2,k3,k4,k5,k6,k7,k8,k9,k10,k11,k12,k13,.slice Ab nb cb,.slice Ao no co,.int .i64 hh,.int .i64 pp] (by simp[Act.eval,Act.put]) (by simp[Act.eval,Act.put]) _ _ HXP.out (by kernel_rfl) rfl hone ?_;clear hone;have HBX:Hid ((w7.setRow w1b.heap.size #[.slice A1 n1 d1,.slice A2 n2 d2,.slice A3 n3 d3,k0,k1,k2,k3,k4,k5,k6,k7,k8,k9,k10,k11,k12,k13,.slice Ab nb cb,.slice Ao no co,.int .i64 hh,.int .i64 pp]).heap[w1b.heap.size]? = some (.cells #[.slice A1 n1 d1,.slice A2 n2 d2,.slice A3 n3 d3,k0,k1,k2,k3,k4,k5,k6,k7,k8,k9,k10,k11,k12,k13,.slice Ab nb cb,.slice Ao no co,.int .i64 hh,.int .i64 pp] 38 (0,0))):=setRow_heap _ _ _ _ _ _ HXP.out;have hk : ∀ q,q<w1b.heap.size→(w7.setRow w1b.heap.size #[.slice A1 n1 d1,.slice A2 n2 d2,.slice A3 n3 d3,k0,k1,k2,k3,k4,k5,k6,k7,k8,k9,k10,k11,k12,k13,.slice Ab nb cb,.slice Ao no co,.int .i64 hh,.int .i64 pp]).heap[q]? = w1b.heap[q]? :=fun q hq=>(setRow_other _ _ _ _ (by omega)).trans (HK1.out q hq)
 have hzz:(w7.setRow w1b.heap.size #[.slice A1 n1 d1,.slice A2 n2 d2,.slice A3 n3 d3,k0,k1,k2,k3,k4,k5,k6,k7,k8,k9,k10,k11,k12,k13,.slice Ab nb cb,.slice Ao no co,.int .i64 hh,.int .i64 pp]).heap.size=w7.heap.size:=by simp
 have HT:Hid (Sl Ty.zone (w7.setRow w1b.heap.size #[.slice A1 n1 d1,.slice A2 n2 d2,.slice A3 n3 d3,k0,k1,k2,k3,k4,k5,k6,k7,k8,k9,k10,k11,k12,k13,.slice Ab nb cb,.slice Ao no co,.int .i64 hh,.int .i64 pp]) (all_ (w7.setRow w1b.heap.size #[.slice A1 n1 d1,.slice A2 n2 d2,.slice A3 n3 d3,k0,k1,k2,k3,k4,k5,k6,k7,k8,k9,k10,k11,k12,k13,.slice Ab nb cb,.slice Ao no co,.int .i64 hh,.int .i64 pp])) A1 n1 d1 (probTT l).zones∧Sl Ty.airport (w7.setRow w1b.heap.size #[.slice A1 n1 d1,.slice A2 n2 d2,.slice A3 n3 d3,k0,k1,k2,k3,k4,k5,k6,k7,k8,k9,k10,k11,k12,k13,.slice Ab nb cb,.slice Ao no co,.int .i64 hh,.int .i64 pp]) (all_ (w7.setRow w1b.heap.size #[.slice A1 n1 d1,.slice A2 n2 d2,.slice A3 n3 d3,k0,k1,k2,k3,k4,k5,k6,k7,k8,k9,k10,k11,k12,k13,.slice Ab nb cb,.slice Ao no co,.int .i64 hh,.int .i64 pp])) A2 n2 d2 (probTT l).airports∧Sl Ty.flight (w7.setRow w1b.heap.size #[.slice A1 n1 d1,.slice A2 n2 d2,.slice A3 n3 d3,k0,k1,k2,k3,k4,k5,k6,k7,k8,k9,k10,k11,k12,k13,.slice Ab nb cb,.slice Ao no co,.int .i64 hh,.int .i64 pp]) (all_ (w7.setRow w1b.heap.size #[.slice A1 n1 d1,.slice A2 n2 d2,.slice A3 n3 d3,k0,k1,k2,k3,k4,k5,k6,k7,k8,k9,k10,k11,k12,k13,.slice Ab nb cb,.slice Ao no co,.int .i64 hh,.int .i64 pp])) A3 n3 d3 (probTT l).flights) :=
  ⟨(HTT1b.out.1.keep fun b hb=>hk b hb).more fun b hb=>(by show b<_;have:b<w1b.heap.size:=hb;omega),(HTT1b.out.2.1.keep fun b hb=>hk b hb).more fun b hb=>(by show b<_;have:b<w1b.heap.size:=hb;omega),(HTT1b.out.2.2.keep fun b hb=>hk b hb).more fun b hb=>(by show b<_;have:b<w1b.heap.size:=hb;omega)⟩
 have HS4:Hid (Sl Ty.person (w7.setRow w1b.heap.size #[.slice A1 n1 d1,.slice A2 n2 d2,.slice A3 n3 d3,k0,k1,k2,k3,k4,k5,k6,k7,k8,k9,k10,k11,k12,k13,.slice Ab nb cb,.slice Ao no co,.int .i64 hh,.int .i64 pp]) (all_ (w7.setRow w1b.heap.size #[.slice A1 n1 d1,.slice A2 n2 d2,.slice A3 n3 d3,k0,k1,k2,k3,k4,k5,k6,k7,k8,k9,k10,k11,k12,k13,.slice Ab nb cb,.slice Ao no co,.int .i64 hh,.int .i64 pp])) A4 n4 c4 (dPeople m)):=(HSP.out.keep fun b hb=>hk b hb).more fun b hb=>(by show b<_;have:b<w1b.heap.size:=hb;omega)
 have HB2:Hid (Below w.heap.size w (w7.setRow w1b.heap.size #[.slice A1 n1 d1,.slice A2 n2 d2,.slice A3 n3 d3,k0,k1,k2,k3,k4,k5,k6,k7,k8,k9,k10,k11,k12,k13,.slice Ab nb cb,.slice Ao no co,.int .i64 hh,.int .i64 pp])):=below_setRowD HB7.out HB1b.out.size;generalize w7.setRow w1b.heap.size #[.slice A1 n1 d1,.slice A2 n2 d2,.slice A3 n3 d3,k0,k1,k2,k3,k4,k5,k6,k7,k8,k9,k10,k11,k12,k13,.slice Ab nb cb,.slice Ao no co,.int .i64 hh,.int .i64 pp]=w2 at*;generalize w1b.heap.size=P at*;clear HXP HK1 HB7 hz7 hk hzz HTT1b HB1b HSP;have HBW2:=HB2;have HBX2:=HBX;have HT2:=HT;clear HB2 HBX HT HCS HBS HOS ho0 ho5 hb2 HSL HSM;have hdc:=dCount_range l;have hpc:=pCount_range m;have y0:=block_cell HBX2.out 0;have y1:=block_cell HBX2.out 1;have y2:=block_cell HBX2.out 2;have HIN:=Lib.hid (incs_any (probTT l) (dPeople m) a A1 A2 A3 A4 Aa n1 n2 n3 n4 na d1 d2 d3 c4 ca w2 (HSA.out w2 HBW2.out) HT2.out.2.2 HS4.out (by rw[probTT_len];omega) (by rw[dPeople_len];omega) (probTT_dep l));clear hdc hpc;go_upto_region 3 with (go_at_call 13;refine HIN.out.mono ?_;rintro e w6 ⟨Ax,nx,cx,rfl,hsx,hb26⟩)
 have HBX6:Hid (w6.heap[P]? = _):=(hb26.block _ (Array.getElem?_eq_some_iff.1 HBX2.out).1).trans HBX2.out;have HT6:Hid (Sl Ty.zone w6 (all_ w6) A1 n1 d1 (probTT l).zones∧Sl Ty.airport w6 (all_ w6) A2 n2 d2 (probTT l).airports∧Sl Ty.flight w6 (all_ w6) A3 n3 d3 (probTT l).flights):=⟨HT2.out.1.next hb26,HT2.out.2.1.next hb26,HT2.out.2.2.next hb26⟩
 have HBW6:Hid (Below w.heap.size w w6):=HBW2.out.trans (hb26.mono HBW2.out.size);have HSX:Hid (∀ V,Below w6.heap.size w6 V→Sl Ty.inc V (all_ V) Ax nx cx (dIncs (probTT l) (dPeople m) a)):=fun V hV=>hsx.next hV
 have hnx:nx=(dIncs (probTT l) (dPeople m) a).length:=hsx.len;have hx3:nx≤3:=by rw[hnx,dIncs_len];exact iCount_range a
 have HNX:=Lib.hid hnx;have HCOM:Hid (apartTo (dIncs (probTT l) (dPeople m) a) nx→applyP (probTT l) (dIncs (probTT l) (dPeople m) a).reverse=applyP (probTT l) (dIncs (probTT l) (dPeople m) a)):=fun h9=>commutes (by rw[←hnx];exact h9)
 clear hsx hb26 HIN y0 y1 y2 HBX2 HT2 HBW2 HS4 HSA hnx;generalize dIncs (probTT l) (dPeople m) a=xs at*;go_wp2_with fail
 go_loopw [10,11] (fun s10 s11 wr => ∃ i:Nat,i≤nx∧s11=.int .i64 i∧Below w6.heap.size w6 wr∧(∃ B k d,s10=.slice B k d∧Sl Ty.inc wr (all_ wr) B k d (xs.take i).reverse∧(i=0→B=none∧d=0)∧(0<i→B≠none))∧Hid (apartTo xs i)) (fun _ s11 _=>nx-(intOf s11).toNat)
 case atStart=>exact⟨0,Nat.zero_le _,rfl,Below.refl _ _,⟨none,0,0,rfl,Sl.nil0,fun _=>⟨rfl,rfl⟩,fun h=>absurd h (by omega)⟩,fun p q h1 h2=>absurd h2 (by omega)⟩
 case round =>
  obtain⟨i,hi,rfl,hbr,⟨B,k,d,rfl,hsy,hB0,hB1⟩,HAP⟩:=hrel;have hk:k=i:=by
   have:=hsy.len;rw[List.length_reverse,List.length_take]at this;have:=HNX.out;omega
  subst hk;obtain⟨V0,rfl⟩ : ∃ x:World,x=wr:=⟨_,rfl⟩
  have HSY:Hid (∀ V,Below V0.heap.size V0 V→Sl Ty.inc V (all_ V) B k d (xs.take k).reverse):=fun V hV=>hsy.next hV
  have HBR:=Lib.hid hbr;have HB:=Lib.hid (And.intro hB0 hB1);clear hsy hbr hB0 hB1
  by_cases hlt:k<nx
  ·have hlt':(k:Int)<(nx:Int):=by omega
   have hk0:(0:Int)≤(k:Int):=by omega
   go_wp2_with fail
   go_loopw [12] (fun s12 wx => ∃ p:Nat,p≤k∧s12=.int .i64 p∧Below V0.heap.size V0 wx∧Hid (∀ q,q<p→(xs.getD q noInc).kind=4∨(xs.getD k noInc).kind=4∨(xs.getD q noInc).flight≠(xs.getD k noInc).flight)) (fun s12 _=>k-(intOf s12).toNat)
   case atStart=>exact⟨0,Nat.zero_le _,rfl,Below.refl _ _,fun q hq=>absurd hq (by omega)⟩
   case round =>
    obtain⟨p,hp,rfl,hbx,HQ⟩:=hrel
    by_cases hltp:p<k
    ·have hltp':(p:Int)<(k:Int):=by omega
     have hp0:(0:Int)≤(p:Int):=by omega
     have hpn:(p:Int)<(nx:Int):=by omega
     have hb6:=HBR.out.trans (hbx.mono HBR.out.size);obtain⟨b,o,rfl, -,hat1⟩:=(HSX.out _ hb6).inc_at (k:=p) (by have:=HNX.out;omega);obtain⟨b',o',e0, -,hat2⟩:=(HSX.out _ hb6).inc_at (k:=k) (by have:=HNX.out;omega);injection e0 with e0
     injection e0 with e1 e2
     subst e1 e2;have y0:=hat1 0 _ rfl;have y1:=hat1 1 _ rfl;have z0:=hat2 0 _ rfl;have z1:=hat2 1 _ rfl;rw[Nat.add_zero]at y0 z0;have HBX:=Lib.hid hbx;have HQ2:Hid (((xs.getD p noInc).kind=4∨(xs.getD k noInc).kind=4∨(xs.getD p noInc).flight≠(xs.getD k noInc).flight) → ∀ q,q<p+1→(xs.getD q noInc).kind=4∨(xs.getD k noInc).kind=4∨(xs.getD q noInc).flight≠(xs.getD k noInc).flight):=fun h9 q hq=>by
      rcases Nat.lt_or_eq_of_le (Nat.le_of_lt_succ hq) with h|h
      ·exact HQ.out q h
      ·rw[h];exact h9
     clear hat1 hat2 hbx hb6;generalize hkp:(xs.getD p noInc).kind=kp at*;generalize hki:(xs.getD k noInc).kind=ki at*;generalize hfp:(xs.getD p noInc).flight=fp at*;generalize hfk:(xs.getD k noInc).flight=fk at*;clear hkp hfp
     by_cases c1:kp=4
     ·have hH:=HQ2.out (.inl c1);have c1':(kp != 4)=false:=by simpa using c1
      have HH:=Lib.hid hH;clear hH HQ2 hki hfk c1;go_upto_region 10 with (fail)
      go_quiet (fail)
      go_wp2_with fail
      go_roundw
      case rel=>exact⟨p+1,by omega,by go_num,below_drewN HBX.out _,HH⟩
      case measure=>simp[intOf];omega
     have c1':(kp != 4)=true:=by simpa using c1
     by_cases c2:ki=4
     ·have hH:=HQ2.out (.inr (.inl c2));have c2':(ki != 4)=false:=by simpa using c2
      have HH:=Lib.hid hH;clear hH HQ2 hki hfk c1 c2;go_upto_region 10 with (fail)
      go_quiet (fail)
      go_wp2_with fail
      go_roundw
      case rel=>exact⟨p+1,by omega,by go_num,below_drewN HBX.out _,HH⟩
      case measure=>simp[intOf];omega
     have c2':(ki != 4)=true:=by simpa using c2
     by_cases c3:fp=fk
     ·have c3':(fp==fk)=true:=by simpa using c3
      have HBD:Hid (∀ j,Below w.heap.size w (wr.drewN j)):=fun j=>below_drewN ((HBW6.out.trans (HBR.out.mono HBW6.out.size)).trans (HBX.out.mono (HBW6.out.trans (HBR.out.mono HBW6.out.size)).size)) j
      clear HQ2 hki hfk c1 c2 c3;go_upto_region 10 with (fail)
      go_quiet (fail)
      go_wp2_with (go_at_call 18;refine(known_any _ (HPW.out _ (HBD.out _)) (HGL.out _ (HBD.out _))).mono ?_;rintro e wy ⟨rfl,hby⟩)
      go_ret
      exact⟨rfl,(HBD.out _).trans (hby.mono (HBD.out _).size)⟩
     ·have c3':(fp==fk)=false:=by simpa using c3
      have hH:=HQ2.out (.inr (.inr c3));have HH:=Lib.hid hH;clear hH HQ2 hki hfk c1 c2 c3;go_upto_region 10 with (fail)
      go_quiet (fail)
      go_wp2_with fail
      go_roundw
      case rel=>exact⟨p+1,by omega,by go_num,below_drewN HBX.out _,HH⟩
      case measure=>simp[intOf];omega
    ·have hpk:p=k:=by omega
     subst hpk;have hge : ¬(p:Int)<(p:Int):=by omega
     have HB6:Hid (Below w6.heap.size w6 wr):=HBR.out.trans (hbx.mono HBR.out.size);have HSY2:=Lib.hid (HSY.out wr hbx);have HAP2:Hid (apartTo xs (p+1)):=fun i j hij hj=>by
      rcases Nat.lt_or_eq_of_le (Nat.le_of_lt_succ hj) with h|h
      ·exact HAP.out i j hij h
      ·subst h;exact HQ.out i hij
     obtain⟨b,o,rfl, -,hat⟩:=(HSX.out wr HB6.out).inc_at (k:=p) (by have:=HNX.out;omega);have HTR:Hid ((xs.take (p+1)).reverse=[xs.getD p noInc]++(xs.take p).reverse):=take_rev xs (by have:=HNX.out;omega);generalize xs.getD p noInc=xk at*;obtain⟨kd,xf,mi,ai,pe,⟨s1,s2⟩⟩:=xk;have y0:=hat 0 _ rfl;have y1:=hat 1 _ rfl;have y2:=hat 2 _ rfl;have y3:=hat 3 _ rfl;have y4:=hat 4 _ rfl;have y5:=hat 5 _ rfl;have y6:=hat 6 _ rfl;rw[Nat.add_zero]at y0;simp only at y0 y1 y2 y3 y4 y5 y6;have HOW:Hid (Own Ty.inc 59 (wr.alloc (.cells #[.int .i64 kd,.int .i64 xf,.int .i64 mi,.string ai,.int .i64 pe,.int .i64 s1,.int .i64 s2] 59)) wr.heap.size (.slice (some ⟨wr.heap.size,0,none⟩) 1 1) [⟨kd,xf,mi,ai,pe,⟨s1,s2⟩⟩]):=own_one wr ⟨kd,xf,mi,ai,pe,⟨s1,s2⟩⟩;have hba:=(Below.refl wr.heap.size wr).alloc (Nat.le_refl _) (.cells #[.int .i64 kd,.int .i64 xf,.int .i64 mi,.string ai,.int .i64 pe,.int .i64 s1,.int .i64 s2] 59);have HBA:=Lib.hid hba;clear hat hbx HQ hba HSY
     cases B with
     | none =>
      have hp0:p=0:=by
       rcases Nat.eq_zero_or_pos p with h|h
       ·exact h
       ·exact absurd rfl (HB.out.2 h)
      subst hp0;rw[Nat.zero_mul,Nat.add_zero]at y0 y1 y2 y3 y4 y5 y6;obtain⟨-,rfl⟩:=HB.out.1 rfl;obtain⟨A9,c9,e9,hs9⟩:=HOW.out.sl;injection e9 with e1 e2 e3
      subst e1 e3;have HS9:Hid (Sl Ty.inc (wr.alloc (.cells #[.int .i64 kd,.int .i64 xf,.int .i64 mi,.string ai,.int .i64 pe,.int .i64 s1,.int .i64 s2] 59)) (all_ (wr.alloc (.cells #[.int .i64 kd,.int .i64 xf,.int .i64 mi,.string ai,.int .i64 pe,.int .i64 s1,.int .i64 s2] 59))) (some ⟨wr.heap.size,0,none⟩) 1 1 (xs.take 1).reverse):=by
       rw[show(xs.take 1).reverse=_ from HTR.out];exact hs9.more fun b hb=>hb.2
      have HL:=Lib.hid hlt;clear hs9 e2 hi hlt hlt' hk0 hp hltp hge HAP HTR HOW HSY2 hx3;go_wp2_with fail
      go_roundw
      case rel=>exact⟨1,HL.out,rfl,HB6.out.trans (HBA.out.mono HB6.out.size),⟨_,_,_,rfl,HS9.out,fun h=>absurd h (by decide),fun _ h=>by cases h⟩,HAP2⟩
      case measure=>simp[intOf];omega
     | some ad =>
      go_wp2_with (at_builtin;refine wpList_concat (t:=Ty.inc) (S:=all_ (wr.alloc (.cells #[.int .i64 kd,.int .i64 xf,.int .i64 mi,.string ai,.int .i64 pe,.int .i64 s1,.int .i64 s2] 59))) (ys:=(xs.take p).reverse) (fun h=>h) rfl _ _ rfl 64 elem_inc rfl HOW.out ad p d rfl (HSY2.out.next HBA.out) ?c1 (by decide) ?c2 ?_)
      case c1=>first|omega|(simp;omega)
      try (case c2=>first|omega|simp)
      intro v9 w9 hown9 hgr9;have hown9:Own Ty.inc 59 w9 wr.heap.size v9 (xs.take (p+1)).reverse:=by rw[HTR.out];exact hown9
      have hl9:(xs.take (p+1)).reverse.length=p+1:=by rw[List.length_reverse,List.length_take];have:=HNX.out;omega
      obtain⟨g9,c9,cur9,rfl, -, -, -⟩:=OwnS.ownAt (S:=fun b=>wr.heap.size≤b∧b<w9.heap.size∧some b≠v9.ownBlock) hown9 (by omega);obtain⟨A9,c9',e9,hs9⟩:=hown9.sl;injection e9 with e1 e2 e3
      subst e1 e3;rw[hl9]at hs9 ⊢;have HS9:Hid (Sl Ty.inc w9 (all_ w9) (some ⟨g9,0,none⟩) (p+1) c9 (xs.take (p+1)).reverse):=hs9.more fun b hb=>hb.2
      have HB9:Hid (Below w6.heap.size w6 w9):=(HB6.out.alloc HB6.out.size _).grown hgr9 (by simp;have:=HB6.out.size;omega) fun j hj=>by
       have:=(HOW.out.lt j hj).1;have:=HB6.out.size;omega
      clear hs9 hown9 hgr9 hl9 y0 y1 y2 y3 y4 y5 y6 HOW HBA HSY2;go_wp2_with fail
      go_roundw
      case rel=>exact⟨p+1,by omega,by go_num,HB9.out,⟨_,_,_,rfl,HS9.out,fun h=>absurd h (by omega),fun _ h=>by cases h⟩,HAP2⟩
      case measure=>simp[intOf];omega
  ·have hkn:k=nx:=by omega
   subst hkn;have hge : ¬(k:Int)<(k:Int):=by omega
   have HE:=Lib.hid (HCOM.out HAP.out);have hbr:=HBR.out;have HBX2:Hid (V0.heap[P]? = _):=(hbr.block _ (Array.getElem?_eq_some_iff.1 HBX6.out).1).trans HBX6.out;have HT2:Hid (Sl Ty.zone V0 (all_ V0) A1 n1 d1 (probTT l).zones∧Sl Ty.airport V0 (all_ V0) A2 n2 d2 (probTT l).airports∧Sl Ty.flight V0 (all_ V0) A3 n3 d3 (probTT l).flights):=⟨HT6.out.1.next hbr,HT6.out.2.1.next hbr,HT6.out.2.2.next hbr⟩
   have HBW2:Hid (Below w.heap.size w V0):=HBW6.out.trans (hbr.mono HBW6.out.size);have HSX2:=Lib.hid (HSX.out V0 hbr);have hsy2:=HSY.out V0 (Below.refl _ _);rw[List.take_of_length_le (by have:=HNX.out;omega)]at hsy2;have HSY2:=Lib.hid hsy2;have hdc:=dCount_range l;have HLN:Hid (0<(probTT l).flights.length∧(probTT l).flights.length≤19):=by rw[probTT_len];exact⟨by omega,by omega⟩
   have HXL:Hid (xs.length≤1000000∧xs.reverse.length≤1000000):=by have:=HNX.out;exact⟨by omega,by rw[List.length_reverse];omega⟩
   clear hbr HBX6 HT6 HBW6 HSX HSY HB HAP HBR hsy2 hdc HCOM;have y0:=block_cell HBX2.out 0;have y1:=block_cell HBX2.out 1;have y2:=block_cell HBX2.out 2;have HAP:=Lib.hid (apply_any (probTT l) xs A1 A2 A3 Ax n1 n2 n3 k d1 d2 d3 cx V0 (probTT_ok l) HT2.out.1 HT2.out.2.1 HT2.out.2.2 HSX2.out HLN.out.1 HLN.out.2 HXL.out.1 (show 2≤1000 by decide) (show 3≤1000 by decide) (probTT_shifts _));have HAR:Hid (∀ (V:World),Below V0.heap.size V0 V→Calls Tryz.prog 19 #[.agg #[.slice A1 n1 d1,.slice A2 n2 d2,.slice A3 n3 d3],.slice B k d] V (ApplyPost (applyP (probTT l) xs) V)):=fun V hV=>by
    rw[←HE.out];exact apply_any (probTT l) xs.reverse A1 A2 A3 B n1 n2 n3 k d1 d2 d3 d V (probTT_ok l) (HT2.out.1.next hV) (HT2.out.2.1.next hV) (HT2.out.2.2.next hV) (HSY2.out.next hV) HLN.out.1 HLN.out.2 HXL.out.2 (show 2≤1000 by decide) (show 3≤1000 by decide) (probTT_shifts _)
   clear HE HSX2 HSY2;generalize applyP (probTT l) xs=R at*;go_upto_region 14 with (go_at_call 19;refine HAP.out.mono ?_;rintro e w5 ⟨B1,m1,e1,B2,m2,e2,B3,m3,e3,B4,m4,e4,rfl,t1,t2,t3,t4,hb5⟩)
   have hb56:=(Below.refl w5.heap.size w5).alloc (Nat.le_refl _) (.cells #[.slice B1 m1 e1,.slice B2 m2 e2,.slice B3 m3 e3] 27);have HTB:Hid ((w5.alloc (.cells #[.slice B1 m1 e1,.slice B2 m2 e2,.slice B3 m3 e3] 27)).heap[w5.heap.size]? = _):=heap_alloc_new _ _;have HF6:=Lib.hid (t3.next hb56);have HI6:=Lib.hid (t4.next hb56);have hb26:=hb5.trans (hb56.mono hb5.size);clear t1 t2 t3 t4 hb5 hb56 HAP y0 y1 y2;generalize w5.alloc (.cells #[.slice B1 m1 e1,.slice B2 m2 e2,.slice B3 m3 e3] 27)=w6' at*;generalize w5.heap.size=tb at*;have HBX6:Hid (w6'.heap[P]? = _):=(hb26.block _ (Array.getElem?_eq_some_iff.1 HBX2.out).1).trans HBX2.out;have HBW6:Hid (Below w.heap.size w w6'):=HBW2.out.trans (hb26.mono HBW2.out.size);have HAP:=Lib.hid (HAR.out w6' hb26);clear HBX2 HBW2 hb26 HAR HT2;have y0:=block_cell HBX6.out 0;have y1:=block_cell HBX6.out 1;have y2:=block_cell HBX6.out 2;go_upto_region 15 with (go_at_call 19;refine HAP.out.mono ?_;rintro e w7 ⟨C1,q1,f1,C2,q2,f2,C3,q3,f3,C4,q4,f4,rfl,t1,t2,t3,t4,hb7⟩)
   have hb78:=(Below.refl w7.heap.size w7).alloc (Nat.le_refl _) (.cells #[.slice C1 q1 f1,.slice C2 q2 f2,.slice C3 q3 f3] 27);have HTB2:Hid ((w7.alloc (.cells #[.slice C1 q1 f1,.slice C2 q2 f2,.slice C3 q3 f3] 27)).heap[w7.heap.size]? = _):=heap_alloc_new _ _;have HF8':=Lib.hid (t3.next hb78);have HI8':=Lib.hid (t4.next hb78);have hb68:=hb7.trans (hb78.mono hb7.size);clear t1 t2 t3 t4 hb7 hb78 HAP y0 y1 y2;generalize w7.alloc (.cells #[.slice C1 q1 f1,.slice C2 q2 f2,.slice C3 q3 f3] 27)=w8 at*;generalize w7.heap.size=tb2 at*;have HBW8:Hid (Below w.heap.size w w8):=HBW6.out.trans (hb68.mono HBW6.out.size);have HTB8:Hid (w8.heap[tb]? = _):=(hb68.block _ (Array.getElem?_eq_some_iff.1 HTB.out).1).trans HTB.out;have HF8:=Lib.hid (HF6.out.next hb68);have HI8:=Lib.hid (HI6.out.next hb68);clear hb68 HF6 HI6 HTB HBX6 HBW6;have HC1:=Lib.hid (sameInts_any R.2.1 B4 C4 m4 q4 e4 f4 w8 HI8.out HI8'.out);go_wp2_with (first
    | (go_at_call 21;refine HC1.out.mono ?_;rintro e w9 ⟨rfl,hb9⟩
       have x1:=cell_kept (block_cell HTB8.out 2) hb9;have x2:=cell_kept (block_cell HTB2.out 2) hb9;have HF9:=Lib.hid (HF8.out.next hb9);have HF9':=Lib.hid (HF8'.out.next hb9);have HBW9:Hid (Below w.heap.size w w9):=HBW8.out.trans (hb9.mono HBW8.out.size);clear HC1 hb9)
    | (go_at_call 22;refine(sameFlights_any R.1.flights B3 C3 m3 q3 e3 f3 w9 HF9.out HF9'.out).mono ?_;rintro e wz ⟨rfl,hbz⟩
       have HBWz:Hid (Below w.heap.size w wz):=HBW9.out.trans (hbz.mono HBW9.out.size);clear hbz)
    | (go_at_call 18;refine(known_any wz (HPW.out wz HBWz.out) (HGL.out wz HBWz.out)).mono ?_;rintro e wy ⟨rfl,hby⟩
       have HBWy:Hid (Below w.heap.size w wy):=HBWz.out.trans (hby.mono HBWz.out.size)))
   go_ret
   exact⟨rfl,HBWy.out⟩
end Go.Proofs.YtifconapjfdkcaaGreatDoor
