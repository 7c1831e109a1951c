/-
  Joined texts: RefInc; RefInc2; RegionD; RegionW. What each proves stands ahead of it, with its conditions.
-/
import Derived.Test.YtifconapjfdkcaaGreatDoorGAB
import Derived.Test.YtifconapjfdkcaaGreatDoorGAA
import Derived.Test.YtifconapjfdkcaaGreatDoorGAC
import Derived.Deep.QuietTactic
import Derived.Test.YtifconapjfdkcaaGreatDoorProg
import Derived.WalkKit
import Derived.WalkLawsBesides
import Derived.WalkSpells
import Derived.Lib.Hide
import Derived.Maps.AppendAt
import Derived.ProofKit
import Derived.Deep.Slices
import Derived.Lib.SplitLaws
import Derived.Lib.IndexMore
import Derived.Lib.Strings
import Derived.BigQuiet
import Derived.IntWalk
import Derived.Maps.OwnOps
import Derived.Maps.Views
import Derived.StillTailTactics
import Derived.Deep.RegionWith
import Derived.Lib.AppendStr
import Derived.Laws.Rows
import Derived.Laws.Tables
import Derived.Deep.AppendLies
import Derived.Deep.RegionLaw
import Derived.StillTail
import Derived.RegionTactic
import Derived.Test.YtifconapjfdkcaaGreatDoorDAA
import Derived.Test.YtifconapjfdkcaaGreatDoorDAB
import Derived.Test.YtifconapjfdkcaaGreatDoorDAC
import Derived.Test.YtifconapjfdkcaaGreatDoorDAD
import Derived.Test.YtifconapjfdkcaaGreatDoorDAE
import Derived.Test.YtifconapjfdkcaaGreatDoorDAF
import Derived.Test.YtifconapjfdkcaaGreatDoorDAG
import Derived.Test.YtifconapjfdkcaaGreatDoorDAH
import Derived.Test.YtifconapjfdkcaaGreatDoorDAI
import Derived.Test.YtifconapjfdkcaaGreatDoorDAJ
import Derived.Test.YtifconapjfdkcaaGreatDoorDAK
import Derived.Test.YtifconapjfdkcaaGreatDoorDAL
import Derived.Test.YtifconapjfdkcaaGreatDoorDAM
import Derived.Test.YtifconapjfdkcaaGreatDoorDAN
import Derived.Test.YtifconapjfdkcaaGreatDoorDAO
import Derived.Test.YtifconapjfdkcaaGreatDoorDAP
import Derived.Test.YtifconapjfdkcaaGreatDoorDAQ
import Derived.Test.YtifconapjfdkcaaGreatDoorDAR
import Derived.Test.YtifconapjfdkcaaGreatDoorDAS
import Derived.Test.YtifconapjfdkcaaGreatDoorDAT
import Derived.Test.YtifconapjfdkcaaGreatDoorDAU
import Derived.Test.YtifconapjfdkcaaGreatDoorDAV
import Derived.Test.YtifconapjfdkcaaGreatDoorDAW
import Derived.Test.YtifconapjfdkcaaGreatDoorDAX
import Derived.Test.YtifconapjfdkcaaGreatDoorDAY
import Derived.Test.YtifconapjfdkcaaGreatDoorDAZ
import Derived.Test.YtifconapjfdkcaaGreatDoorDBA
import Derived.Test.YtifconapjfdkcaaGreatDoorDBB
import Derived.Test.YtifconapjfdkcaaGreatDoorDBC
import Derived.Test.YtifconapjfdkcaaGreatDoorDBD
import Derived.Test.YtifconapjfdkcaaGreatDoorDBE
import Derived.Test.YtifconapjfdkcaaGreatDoorDBF
import Derived.Test.YtifconapjfdkcaaGreatDoorDBG
import Derived.Test.YtifconapjfdkcaaGreatDoorDBH
import Derived.Test.YtifconapjfdkcaaGreatDoorDBI
import Derived.Test.YtifconapjfdkcaaGreatDoorDBJ
set_option linter.unusedSimpArgs false
set_option linter.unusedVariables false
set_option maxRecDepth 100000
set_option maxHeartbeats 12800000
namespace Go.Proofs.YtifconapjfdkcaaGreatDoor
section
open Go.RowKit
theorem span40_any(s1 s2:Int)(w:World):Calls Tryz.prog 43 #[.agg #[.int .i64 s1,.int .i64 s2]] w (BoolPost (vacOk ⟨s1,s2⟩) w):=by
 have HB:Hid (∀ o,Below w.heap.size w (w.alloc o)):=fun o=>(qC _ _).alloc (qD _) o
 have HV:Hid (vacOk ⟨s1,s2⟩=(decide (0≤s1)&&decide (s1<s2)&&decide (s2≤52596000))):=rfl
 by_cases h1:0≤s1
 ·by_cases h2:s1<s2
  ·by_cases h3:s2≤52596000
   ·have HE:Hid (vacOk ⟨s1,s2⟩=true):=by show _=_;rw[HV.out];simp[h1,h2,h3]
    go_enter Tryz.func43,Tryz.ntmps43
    go_wp2_with fail
    go_ret
    exact⟨ret_bool HE.out.symm,HB.out _⟩
   ·have HE:Hid (vacOk ⟨s1,s2⟩=false):=by show _=_;rw[HV.out];simp[h3]
    go_enter Tryz.func43,Tryz.ntmps43
    go_wp2_with fail
    go_ret
    exact⟨ret_bool HE.out.symm,HB.out _⟩
  ·have HE:Hid (vacOk ⟨s1,s2⟩=false):=by show _=_;rw[HV.out];simp[h2]
   go_enter Tryz.func43,Tryz.ntmps43
   go_wp2_with fail
   go_ret
   exact⟨ret_bool HE.out.symm,HB.out _⟩
 ·have HE:Hid (vacOk ⟨s1,s2⟩=false):=by show _=_;rw[HV.out];simp[h1]
  go_enter Tryz.func43,Tryz.ntmps43
  go_wp2_with fail
  go_ret
  exact⟨ret_bool HE.out.symm,HB.out _⟩
def PixPost(l:List GPerson)(id:Int)(w:World)(e:Ending)(w':World):Prop := ∃ x:Int,e=.returned (.int .i64 x)∧(hasI (pIds l) id=true→0≤x)∧(hasI (pIds l) id=false→x = -1)∧w'=w
theorem personIndex_any(l:List GPerson)(A:Option Addr)(n c:Nat)(id:Int)(S:Nat→Prop)(w:World)(hs:Sl Ty.person w S A n c l) :
 Calls Tryz.prog 42 #[.slice A n c,.int .i64 id] w (PixPost l id w):=by
 have hn1:n≤l.length:=Nat.le_of_eq hs.len;have hn2:l.length≤n:=Nat.le_of_eq hs.len.symm;have hle:=hs.le;unfold maxLen at hle;have HS:=qH hs;clear hs
 go_enter Tryz.func42,Tryz.ntmps42
 go_wp2_with fail
 go_loopw [5] (fun s wr => ∃ k:Nat,k≤n∧s=.int .i64 k∧wr=w∧Hid (∀ j,j<k→(l.getD j noPerson).id≠id)) (fun s _=>n-(intOf s).toNat)
 case atStart=>exact⟨0,qV _,rfl,rfl,fun j hj=>absurd hj (by omega)⟩
 case round =>
  obtain⟨k,hk,rfl,rfl,HK⟩:=hrel
  by_cases hlt:k<n
  ·have hks:k<l.length:=by omega
   obtain⟨b,o,A1,n1,c1,A2,n2,c2,rfl,hbS,hat, -, -⟩:=HS.out.person_at hks;have z0:=hat 0 _ rfl;rw[Nat.add_zero]at z0;have HH:Hid ((l.getD k noPerson).id=id→hasI (pIds l) id=true):=fun e=>(hasI_ids l id).2 ⟨k,hks,e⟩
   clear hat;generalize hp:(l.getD k noPerson).id=pid at*;have HP:=qH hp;clear hp
   by_cases he:pid=id
   ·subst he;have HF:=qH (HH.out rfl);clear HH;go_wp2_with fail
    go_ret
    exact⟨k,rfl,fun _=>by omega,(fun h=>by rw[HF.out]at h;cases h),rfl⟩
   ·have HM:Hid (∀ j,j<k+1→(l.getD j noPerson).id≠id):=fun j hj=>by
     rcases Nat.lt_or_eq_of_le (Nat.le_of_lt_succ hj) with h1|rfl
     ·exact HK.out j h1
     ·rw[HP.out];exact he
    go_wp2_with fail
    go_roundw
    case rel=>exact⟨k+1,by omega,by go_num,by first|trivial|rfl,HM⟩
    case measure=>simp[intOf];omega
  ·have HF:Hid (hasI (pIds l) id=false):=by
    show _=_
    cases hh:hasI (pIds l) id with
    | false=>rfl
    | true =>
     obtain⟨j,hj,e⟩:=(hasI_ids l id).1 hh;exact absurd e (HK.out j (by omega))
   go_wp2_with fail
   go_ret
   exact⟨-1,rfl,(fun h=>by rw[HF.out]at h;cases h),fun _=>rfl,rfl⟩
theorem flight40_any(t:GTT)(x:GInc)(A1 A2 A3:Option Addr)(n1 n2 n3 c1 c2 c3:Nat)(w:World)(hs2:Sl Ty.airport w (all_ w) A2 n2 c2 t.airports)(hs3:Sl Ty.flight w (all_ w) A3 n3 c3 t.flights) :
 Calls Tryz.prog 41 #[.agg #[.slice A1 n1 c1,.slice A2 n2 c2,.slice A3 n3 c3],incVal x] w (ErrPost (incE2 t x) w):=by
 have hn1:n3≤t.flights.length:=Nat.le_of_eq hs3.len;have hn2:t.flights.length≤n3:=Nat.le_of_eq hs3.len.symm;have hle:=hs3.le;unfold maxLen at hle;have HA:Hid (∀ o p,Below w.heap.size w ((w.alloc o).alloc p)):=fun o p=>((qC _ _).alloc (qD _) o).alloc (by simp) p
 unfold incVal;obtain⟨kind,fl,mi,ai,pe,⟨s1,s2⟩⟩:=x;simp only
 by_cases hk:kind<1∨4<kind
 ·have HR:Hid (incE2 t ⟨kind,fl,mi,ai,pe,⟨s1,s2⟩⟩=5):=by show _=_;unfold incE2;exact qR hk
  have hk':kind<1∨(¬kind<1∧4<kind):=by omega
  have h1 : ¬kind=1:=by omega
  have h2 : ¬kind=2:=by omega
  have h3 : ¬kind=3:=by omega
  clear hk hs2 hs3;rcases hk' with h|⟨h,h'⟩
  all_goals
   go_enter Tryz.func41,Tryz.ntmps41
   go_wp2_with fail
   go_ret
   exact⟨by rw[HR.out];rfl,HA.out _ _⟩
 by_cases hk4:kind=4
 ·subst hk4;have HR:Hid (incE2 t ⟨4,fl,mi,ai,pe,⟨s1,s2⟩⟩=0):=by show _=_;unfold incE2;rw[qN hk,qR rfl]
  clear hk hs2 hs3
  go_enter Tryz.func41,Tryz.ntmps41
  go_wp2_with fail
  go_quiet (fail)
  go_wp2_with fail
  go_ret
  exact⟨by rw[HR.out];rfl,below_drewN (HA.out _ _) _⟩
 have HE2:Hid (incE2 t ⟨kind,fl,mi,ai,pe,⟨s1,s2⟩⟩=flightIncE t ⟨kind,fl,mi,ai,pe,⟨s1,s2⟩⟩):=by show _=_;unfold incE2;rw[qN hk,qN hk4]
 have hk':kind=1∨kind=2∨kind=3:=by omega
 clear hk
 by_cases hf:fl<0∨(t.flights.length:Int)≤fl
 ·have HR:Hid (incE2 t ⟨kind,fl,mi,ai,pe,⟨s1,s2⟩⟩=6):=by show _=_;rw[HE2.out];unfold flightIncE;exact qR hf
  have hf':fl<0∨(¬fl<0∧(n3:Int)≤fl):=by omega
  clear hf hs2 hs3 hk4;rcases hk' with rfl|rfl|rfl
  all_goals rcases hf' with h|⟨h,h'⟩
  all_goals
   go_enter Tryz.func41,Tryz.ntmps41
   go_wp2_with fail
   go_ret
   exact⟨by rw[HR.out];rfl,HA.out _ _⟩
 have hf0:0≤fl:=by omega
 have hf1:fl<(n3:Int):=by omega
 rcases hk' with rfl|rfl|rfl
 ·have HR:Hid (incE2 t ⟨1,fl,mi,ai,pe,⟨s1,s2⟩⟩=if mi<1∨1440<mi then 5 else 0):=by show _=_;rw[HE2.out];unfold flightIncE;rw[qN hf,qR rfl]
  clear hf hs2 hs3
  by_cases hm:mi<1∨1440<mi
  ·rw[qR hm]at HR;have hm':mi<1∨(¬mi<1∧1440<mi):=by omega
   clear hm;rcases hm' with h|⟨h,h'⟩
   all_goals
    go_enter Tryz.func41,Tryz.ntmps41
    go_wp2_with fail
    go_ret
    exact⟨by rw[HR.out];rfl,HA.out _ _⟩
  ·rw[qN hm]at HR;have h1 : ¬mi<1:=by omega
   have h2 : ¬1440<mi:=by omega
   clear hm
   go_enter Tryz.func41,Tryz.ntmps41
   go_wp2_with fail
   go_quiet (fail)
   go_wp2_with fail
   go_ret
   exact⟨by rw[HR.out];rfl,below_drewN (HA.out _ _) _⟩
 ·have HR:Hid (incE2 t ⟨2,fl,mi,ai,pe,⟨s1,s2⟩⟩=0):=by show _=_;rw[HE2.out];unfold flightIncE;rw[qN hf,qN (show ¬(2:Int)=1 by decide),qN (show ¬(2:Int)=3 by decide)]
  clear hf hs2 hs3
  go_enter Tryz.func41,Tryz.ntmps41
  go_wp2_with fail
  go_quiet (fail)
  go_wp2_with fail
  go_ret
  exact⟨by rw[HR.out];rfl,below_drewN (HA.out _ _) _⟩
 ·have HR:Hid (incE2 t ⟨3,fl,mi,ai,pe,⟨s1,s2⟩⟩=if hasB (aCodes t.airports) ai=false then 6 else if ai=(t.flights.getD fl.toNat noFlight).src then 14 else if mi<0∨720<mi then 5 else 0):=by show _=_;rw[HE2.out];unfold flightIncE;rw[qN hf,qN (show ¬(3:Int)=1 by decide),qR rfl]
  have hA0:=HA.out (.cells #[.slice A1 n1 c1,.slice A2 n2 c2,.slice A3 n3 c3] 27) (.cells #[.int .i64 3,.int .i64 fl,.int .i64 mi,.string ai,.int .i64 pe,.int .i64 s1,.int .i64 s2] 59);have HC:=qH (airportIndex_any t.airports ai A2 n2 c2 (all_ w) _ (hs2.keep (all_keep hA0)));have HS:=qH (hs3.keep (all_keep hA0));have g0:((w.alloc (.cells #[.slice A1 n1 c1,.slice A2 n2 c2,.slice A3 n3 c3] 27)).alloc (.cells #[.int .i64 3,.int .i64 fl,.int .i64 mi,.string ai,.int .i64 pe,.int .i64 s1,.int .i64 s2] 59)).heap[w.heap.size]? = some (.cells #[.slice A1 n1 c1,.slice A2 n2 c2,.slice A3 n3 c3] 27 (0,0)):=heap_alloc2_old _ _ _;have g1:((w.alloc (.cells #[.slice A1 n1 c1,.slice A2 n2 c2,.slice A3 n3 c3] 27)).alloc (.cells #[.int .i64 3,.int .i64 fl,.int .i64 mi,.string ai,.int .i64 pe,.int .i64 s1,.int .i64 s2] 59)).heap[w.heap.size+1]? = some (.cells #[.int .i64 3,.int .i64 fl,.int .i64 mi,.string ai,.int .i64 pe,.int .i64 s1,.int .i64 s2] 59 (0,0)):=heap_alloc2_new _ _ _;have HIN:=qH (idxOf_neg (aCodes t.airports) ai);have HA1:=qH hA0;have G0:=qH g0;have G1:=qH g1;clear hf hs2 hs3 g0 g1 hA0 HA;generalize idxOf (aCodes t.airports) ai=ix at*;generalize hasB (aCodes t.airports) ai=hb at*
  go_enter Tryz.func41,Tryz.ntmps41
  go_wp2_with fail
  refine HC.out.mono ?_;clear HC;generalize (w.alloc (.cells #[.slice A1 n1 c1,.slice A2 n2 c2,.slice A3 n3 c3] 27)).alloc (.cells #[.int .i64 3,.int .i64 fl,.int .i64 mi,.string ai,.int .i64 pe,.int .i64 s1,.int .i64 s2] 59)=W at*;rintro e w9 ⟨rfl,hX⟩;rw[←hX];clear hX w9;have y0:=fun j=>block_cell G0.out j
  have y1:=fun j=>block_cell G1.out j
  have x1:=y0 1;have x2:=y0 2;have q0:=y1 0;have q1:=y1 1;have q2:=y1 2;have q3:=y1 3;obtain⟨b,o,rfl,hbS,hfl⟩:=HS.out.flight_at (k:=fl.toNat) (by omega);have z6:W.cell? ⟨b,o+fl.toNat*9+1,none⟩=some (.string (t.flights.getD fl.toNat noFlight).src):=hfl 1 _ rfl;generalize (t.flights.getD fl.toNat noFlight).src=src at*;clear y0 y1 hfl HS
  cases hb with
  | false =>
   have hix:ix<0:=by have:=HIN.out;simpa using this
   rw[qR rfl]at HR;go_wp2_with fail
   go_ret
   exact⟨by rw[HR.out];rfl,HA1.out⟩
  | true =>
   have hix : ¬ix<0:=by have:=HIN.out;simpa using this
   rw[qN (by simp)]at HR;have HSB:=qH (str_beq src ai)
   by_cases he:ai=src
   ·rw[qR he]at HR;have hs:(src.toList==ai.toList)=true:=by rw[HSB.out];simpa using he.symm
    clear he;go_wp2_with fail
    go_quiet (fail)
    go_wp2_with fail
    go_ret
    exact⟨by rw[HR.out];rfl,below_drewN HA1.out _⟩
   ·rw[qN he]at HR;have hs:(src.toList==ai.toList)=false:=by rw[HSB.out];simpa using fun e=>he e.symm
    clear he
    by_cases hm:mi<0∨720<mi
    ·rw[qR hm]at HR;have hm':mi<0∨(¬mi<0∧720<mi):=by omega
     clear hm;rcases hm' with h|⟨h,h'⟩
     all_goals
      go_wp2_with fail
      go_quiet (fail)
      go_wp2_with fail
      go_ret
      exact⟨by rw[HR.out];rfl,below_drewN HA1.out _⟩
    ·rw[qN hm]at HR;have h1 : ¬mi<0:=by omega
     have h2 : ¬720<mi:=by omega
     clear hm;go_wp2_with fail
     go_quiet (fail)
     go_wp2_with fail
     go_ret
     exact⟨by rw[HR.out];rfl,below_drewN HA1.out _⟩
end
section
open Go.RowKit
theorem empty_beq(a:ByteArray):(a.toList==[])=decide (a=noStr):=by
 rw[Bool.eq_iff_iff,beq_iff_eq,qL,noStr_iff]
theorem incE1_of2{t:GTT}{ps:List GPerson}{x:GInc}(h:incE2 t x≠0):incE1 t ps x=incE2 t x:=by
 unfold incE2 incE1 at*;split
 ·rfl
 rename_i hk;rw[qN hk]at h;split
 ·rename_i h4;rw[qR h4]at h;exact absurd rfl h
 ·rename_i h4;rw[qN h4]at h;rw[qR h]
theorem validate40_any(t:GTT)(ps:List GPerson)(l:List GInc)(A1 A2 A3 A4 A5:Option Addr)(n1 n2 n3 n4 n5 c1 c2 c3 c4 c5:Nat)(w:World)(ht:t.ok)(hp : ∀ p∈ps,p.ok)(hs1:Sl Ty.zone w (all_ w) A1 n1 c1 t.zones)(hs2:Sl Ty.airport w (all_ w) A2 n2 c2 t.airports)(hs3:Sl Ty.flight w (all_ w) A3 n3 c3 t.flights)(hs4:Sl Ty.person w (all_ w) A4 n4 c4 ps)(hs5:Sl Ty.inc w (all_ w) A5 n5 c5 l) :
 Calls Tryz.prog 17 #[.agg #[.slice A1 n1 c1,.slice A2 n2 c2,.slice A3 n3 c3],.slice A4 n4 c4,.slice A5 n5 c5] w (ErrPost (incE t ps l) w):=by
 have hn1:n5≤l.length:=Nat.le_of_eq hs5.len;have hn2:l.length≤n5:=Nat.le_of_eq hs5.len.symm;have hle:=hs5.le;unfold maxLen at hle;have hb0:=(qC w.heap.size w).alloc (qD _) (.cells #[.slice A1 n1 c1,.slice A2 n2 c2,.slice A3 n3 c3] 27);have hr0:=qK w (.cells #[.slice A1 n1 c1,.slice A2 n2 c2,.slice A3 n3 c3] 27);have hz0:(w.alloc (.cells #[.slice A1 n1 c1,.slice A2 n2 c2,.slice A3 n3 c3] 27)).heap.size=w.heap.size+1:=by simp
 have HV:=qH (validateCrewR_any t ps A1 A2 A3 A4 n1 n2 n3 n4 c1 c2 c3 c4 _ ht hp (hs1.next hb0) (hs2.next hb0) (hs3.next hb0) (hs4.next hb0));have HS2:Hid (∀ V,Below w.heap.size w V→Sl Ty.airport V (all_ V) A2 n2 c2 t.airports):=fun V hV=>hs2.next hV
 have HS3:Hid (∀ V,Below w.heap.size w V→Sl Ty.flight V (all_ V) A3 n3 c3 t.flights):=fun V hV=>hs3.next hV
 have HS4:Hid (∀ V,Below w.heap.size w V→Sl Ty.person V (all_ V) A4 n4 c4 ps):=fun V hV=>hs4.next hV
 have HS5:Hid (∀ V,Below w.heap.size w V→Sl Ty.inc V (all_ w) A5 n5 c5 l):=fun V hV=>hs5.keep (all_keep hV)
 have HB0:=qH hb0;have HR0:=qH hr0;have HZ0:=qH hz0;have HR:Hid ((crewE t ps≠0→incE t ps l=crewE t ps)∧(crewE t ps=0→32<l.length→incE t ps l=10) ∧
  (crewE t ps=0→l.length≤32 → ∀ k,k<l.length→zeroTo (fun i=>incE1 t ps (l.getD i noInc)) k→incE1 t ps (l.getD k noInc)≠0→incE t ps l=incE1 t ps (l.getD k noInc)) ∧
  (crewE t ps=0→l.length≤32→zeroTo (fun i=>incE1 t ps (l.getD i noInc)) l.length→incE t ps l=0)) :=
  ⟨fun h=>by unfold incE;exact qR h,fun h h2=>by unfold incE;rw[qN (by rw[h];simp),qR h2],fun h0 h1 k hk hz hv=>incE_hit h0 h1 hk hz hv,fun h0 h1 hz=>incE_none h0 h1 hz⟩
 clear hs1 hs2 hs3 hs4 hs5 hb0 hr0 hz0 ht hp;generalize incE t ps l=res at*;generalize hce:crewE t ps=ce at*
 go_enter Tryz.func17,Tryz.ntmps17
 go_wp2_with fail
 generalize w.alloc (.cells #[.slice A1 n1 c1,.slice A2 n2 c2,.slice A3 n3 c3] 27)=W at*;refine HV.out.mono ?_;clear HV;rintro e w1 ⟨rfl,hb1⟩;have hw1:Below w.heap.size w w1:=HB0.out.trans (hb1.mono (by have:=HZ0.out;omega));have HT1:Hid (w1.heap[w.heap.size]? = some (.cells #[.slice A1 n1 c1,.slice A2 n2 c2,.slice A3 n3 c3] 27 (0,0))):=(hb1.block _ (by have:=HZ0.out;omega)).trans HR0.out;have hsz1:w.heap.size<w1.heap.size:=by have:=HZ0.out;have:=hb1.size;omega
 have HW1:=qH hw1;clear hb1 HB0 HR0 HZ0 hw1
 by_cases hc:ce=0
 case neg =>
  have hc':(ce != 0)=true:=by simpa using hc
  have HF:=qH (HR.out.1 hc);clear hc;go_wp2_with fail
  go_ret
  exact⟨by rw[HF.out];rfl,HW1.out⟩
 have hc':(ce != 0)=false:=by simpa using hc
 have HR2:Hid _:=HR.out.2.1 hc;have HR3:Hid _:=HR.out.2.2.1 hc;have HR4:Hid _:=HR.out.2.2.2 hc;subst hc;clear HR
 by_cases hlen:32<n5
 ·have HF:=qH (HR2.out (by omega));go_wp2_with fail
  go_ret
  exact⟨by rw[HF.out];rfl,HW1.out⟩
 have HR3':Hid _:=HR3.out (by omega);have HR4':Hid _:=HR4.out (by omega);clear HR2 HR3 HR4;go_wp2_with fail
 go_loopw [8] (fun s wr => ∃ k:Nat,k≤n5∧s=.int .i64 k∧Below w.heap.size w wr∧w.heap.size<wr.heap.size∧Hid (wr.heap[w.heap.size]? = some (.cells #[.slice A1 n1 c1,.slice A2 n2 c2,.slice A3 n3 c3] 27 (0,0)))∧Hid (zeroTo (fun i=>incE1 t ps (l.getD i noInc)) k)) (fun s _=>n5-(intOf s).toNat)
 case atStart=>exact⟨0,qV _,rfl,HW1.out,hsz1,HT1,zeroTo_zero _⟩
 case round =>
  obtain⟨k,hk,rfl,hbr,hsz,HT,HK⟩:=hrel;clear HW1 HT1 hsz1
  by_cases hlt:k<n5
  ·have hks:k<l.length:=by omega
   obtain⟨b,o,rfl,hbS,hat⟩:=(HS5.out wr hbr).inc_at hks;have HE:Hid (incE1 t ps (l.getD k noInc)≠0→res=incE1 t ps (l.getD k noInc)):=fun h=>HR3'.out k hks HK.out h
   have HM:Hid (incE1 t ps (l.getD k noInc)=0→zeroTo (fun i=>incE1 t ps (l.getD i noInc)) (k+1)):=fun h=>zeroTo_succ HK.out h
   have z0:=hat 0 _ rfl;rw[Nat.add_zero]at z0;have z1:=hat 1 _ rfl;have z2:=hat 2 _ rfl;have z3:=hat 3 _ rfl;have z4:=hat 4 _ rfl;have z5:=hat 5 _ rfl;have z6:=hat 6 _ rfl;clear hat HK;generalize l.getD k noInc=x at*;obtain⟨kind,fl,mi,ai,pe,⟨s1,s2⟩⟩:=x;simp only at z0 z1 z2 z3 z4 z5 z6;have hbx:=(qC wr.heap.size wr).alloc (qD _) (.cells #[.int .i64 kind,.int .i64 fl,.int .i64 mi,.string ai,.int .i64 pe,.int .i64 s1,.int .i64 s2] 59);have hrx:=qK wr (.cells #[.int .i64 kind,.int .i64 fl,.int .i64 mi,.string ai,.int .i64 pe,.int .i64 s1,.int .i64 s2] 59);have hzx:(wr.alloc (.cells #[.int .i64 kind,.int .i64 fl,.int .i64 mi,.string ai,.int .i64 pe,.int .i64 s1,.int .i64 s2] 59)).heap.size=wr.heap.size+1:=by simp
   have htx:=(Below.heap_alloc wr (.cells #[.int .i64 kind,.int .i64 fl,.int .i64 mi,.string ai,.int .i64 pe,.int .i64 s1,.int .i64 s2] 59) _ hsz).trans HT.out;have hwx:Below w.heap.size w (wr.alloc (.cells #[.int .i64 kind,.int .i64 fl,.int .i64 mi,.string ai,.int .i64 pe,.int .i64 s1,.int .i64 s2] 59)):=hbr.trans (hbx.mono hbr.size);have HRX:=qH hrx;have HZX:=qH hzx;have HTX:=qH htx;have HWX:=qH hwx;have x0:=block_cell htx 0;have x1:=block_cell htx 1;have x2:=block_cell htx 2;clear hbx hrx hzx htx hwx;have HE5:Hid (∀ v:Int,incE1 t ps ⟨kind,fl,mi,ai,pe,⟨s1,s2⟩⟩=v→v≠0→res=v):=fun v h1 h2=>by rw[←h1];exact HE.out (by rw[h1];exact h2)
   have HF4:=qH (flight40_any t ⟨kind,fl,mi,ai,pe,⟨s1,s2⟩⟩ A1 A2 A3 n1 n2 n3 c1 c2 c3 _ (HS2.out _ HWX.out) (HS3.out _ HWX.out));have HEE:=qH (incE1_of2 (t:=t) (ps:=ps) (x:=⟨kind,fl,mi,ai,pe,⟨s1,s2⟩⟩));have HE0:=qH (incE2_flight (t:=t) (x:=⟨kind,fl,mi,ai,pe,⟨s1,s2⟩⟩));clear HE;generalize hfe:incE2 t ⟨kind,fl,mi,ai,pe,⟨s1,s2⟩⟩=fe at*;go_wp2_with fail
   clear z0 z1 z2 z3 z4 z5 z6 x0 x1 x2;generalize wr.alloc (.cells #[.int .i64 kind,.int .i64 fl,.int .i64 mi,.string ai,.int .i64 pe,.int .i64 s1,.int .i64 s2] 59)=X at*;refine HF4.out.mono ?_;rintro e w2 ⟨rfl,hb2⟩;have HW2:Hid (Below w.heap.size w w2):=HWX.out.trans (hb2.mono HWX.out.size);have hz2:=hb2.size;have hzx:=HZX.out;have HR2:Hid (w2.heap[wr.heap.size]? = _):=(hb2.block _ (by omega)).trans HRX.out;have HT2:Hid (w2.heap[w.heap.size]? = _):=(hb2.block _ (by omega)).trans HTX.out;have hsz2:w.heap.size<w2.heap.size:=by omega
   clear HF4 hb2 HRX HTX HWX HZX hzx hz2
   by_cases hfz:fe=0
   case neg =>
    have hfe':(fe != 0)=true:=by simpa using hfz
    have HF:Hid (res=fe):=HE5.out fe (HEE.out hfz) hfz;clear hfz;go_wp2_with fail
    go_ret
    exact⟨by rw[HF.out];rfl,HW2.out⟩
   have hfe':(fe != 0)=false:=by simpa using hfz
   subst hfz;obtain⟨hk1,hk2,hk3⟩:=HE0.out rfl
   try simp only at hk1 hk2 hk3
   clear HEE HE0 hfe;have y0:=block_cell HR2.out 0;have y1:=block_cell HR2.out 1;have y2:=block_cell HR2.out 2;have y3:=block_cell HR2.out 3;have y4:=block_cell HR2.out 4;have y5:=block_cell HR2.out 5;have y6:=block_cell HR2.out 6;have HEB:=qH (empty_beq ai);have HSP:=qH (span40_any s1 s2);have HPI:=qH (fun V hV=>personIndex_any ps A4 n4 c4 pe (all_ V) V (HS4.out V hV))
   by_cases hk4:kind=4
   case pos =>
    subst hk4;have HI:Hid (incE1 t ps ⟨4,fl,mi,ai,pe,⟨s1,s2⟩⟩=if hasI (pIds ps) pe=false then 6 else if vacOk ⟨s1,s2⟩=false then 5 else if shapedI ⟨4,fl,mi,ai,pe,⟨s1,s2⟩⟩=false then 12 else 0):=by
     show _=_;unfold incE1;rw[qN (show ¬((4:Int)<1∨4<(4:Int)) by decide),qR rfl]
    clear hk3;go_wp2_with fail
    go_quiet (fail)
    go_wp2_with fail
    refine(HPI.out _ (below_drewN HW2.out _)).mono ?_;rintro e w9 ⟨ix,rfl,hp1,hp2,hX⟩;rw[hX];clear hX w9;generalize hhi:hasI (pIds ps) pe=hi at*
    cases hi with
    | false =>
     obtain rfl:=hp2 rfl;have HF:Hid (res=6):=HE5.out 6 (by rw[HI.out];exact qR rfl) (by decide);clear hp1 hp2;go_wp2_with fail
     go_ret
     exact⟨by rw[HF.out];rfl,below_drewN HW2.out _⟩
    | true =>
     have hix:=hp1 rfl;have hix' : ¬ix<0:=by omega
     clear hp1 hp2;rw[qN (by decide)]at HI;go_wp2_with fail
     refine(span40_any s1 s2 _).mono ?_;rintro e w3 ⟨rfl,hb3⟩;have HW3:Hid (Below w.heap.size w w3):=(below_drewN HW2.out _).trans (hb3.mono HW2.out.size);have HR3:Hid (w3.heap[wr.heap.size]? = _):=(hb3.block _ (Array.getElem?_eq_some_iff.1 HR2.out).1).trans HR2.out;have HT3:Hid (w3.heap[w.heap.size]? = _):=(hb3.block _ hsz2).trans HT2.out;have hsz3:w.heap.size<w3.heap.size:=Nat.lt_of_lt_of_le hsz2 hb3.size;clear y0 y1 y2 y3 y4 y5 y6 hb3;have y0:=block_cell HR3.out 0;have y1:=block_cell HR3.out 1;have y2:=block_cell HR3.out 2;have y3:=block_cell HR3.out 3;have y4:=block_cell HR3.out 4;have y5:=block_cell HR3.out 5;have y6:=block_cell HR3.out 6;generalize hvo:vacOk ⟨s1,s2⟩=vo at*
     cases vo with
     | false =>
      have HF:Hid (res=5):=HE5.out 5 (by rw[HI.out];exact qR rfl) (by decide);go_wp2_with fail
      go_ret
      exact⟨by rw[HF.out];rfl,HW3.out⟩
     | true =>
      rw[qN (by decide)]at HI;have HSH:Hid (shapedI ⟨4,fl,mi,ai,pe,⟨s1,s2⟩⟩=(decide (fl=0)&&decide (mi=0)&&decide (ai=noStr))):=rfl
      by_cases hsh:fl=0∧mi=0∧ai=noStr
      ·obtain⟨rfl,rfl,h3⟩:=hsh;have hem:(ai.toList==[])=true:=by rw[HEB.out];simpa using h3
       have HM2:=qH (HM.out (by rw[HI.out,HSH.out,h3];rfl));clear h3;go_wp2_with fail
       go_roundw
       case rel=>exact⟨k+1,by omega,by go_num,HW3.out,hsz3,HT3,HM2⟩
       case measure=>simp[intOf];omega
      ·have HF:Hid (res=12):=HE5.out 12 (by
        rw[HI.out,qR];rw[HSH.out];simp only[Bool.and_eq_false_iff,qU]
        by_cases h1:fl=0
        ·by_cases h2:mi=0
         ·exact .inr fun h3=>hsh ⟨h1,h2,h3⟩
         ·exact .inl (.inr h2)
        ·exact .inl (.inl h1)) (by decide)
       have hd : ¬fl=0∨(fl=0 ∧ ¬mi=0)∨(fl=0∧mi=0∧(ai.toList==[])=false):=by
        by_cases h1:fl=0
        ·by_cases h2:mi=0
         ·exact .inr (.inr ⟨h1,h2,by rw[HEB.out];simpa using fun h3=>hsh ⟨h1,h2,h3⟩⟩)
         ·exact .inr (.inl ⟨h1,h2⟩)
        ·exact .inl h1
       clear hsh;rcases hd with h1|⟨rfl,h2⟩|⟨rfl,rfl,h3⟩
       all_goals
        go_wp2_with fail
        go_ret
        exact⟨by rw[HF.out];rfl,HW3.out⟩
   case neg =>
    have HI:Hid (incE1 t ps ⟨kind,fl,mi,ai,pe,⟨s1,s2⟩⟩=if shapedI ⟨kind,fl,mi,ai,pe,⟨s1,s2⟩⟩=false then 12 else 0):=by
     show _=_;unfold incE1;rw[qN (show ¬(kind<1∨4<kind) by omega),qN hk4,qN (by rw[hk3 hk4];simp)]
    have hkk:kind=1∨kind=2∨kind=3:=by omega
    clear hk3 hk4 hk1 hk2;rcases hkk with rfl|rfl|rfl
    ·have HSH:Hid (shapedI ⟨1,fl,mi,ai,pe,⟨s1,s2⟩⟩=(decide (ai=noStr)&&decide (pe=0)&&decide (s1=0)&&decide (s2=0))):=rfl
     by_cases hsh:pe=0∧s1=0∧s2=0∧ai=noStr
     ·obtain⟨rfl,rfl,rfl,h3⟩:=hsh;have hem:(ai.toList==[])=true:=by rw[HEB.out];simpa using h3
      have HM2:=qH (HM.out (by rw[HI.out,HSH.out,h3];rfl));clear h3;go_wp2_with fail
      go_quiet (fail)
      go_wp2_with fail
      go_roundw
      case rel=>exact⟨k+1,by omega,by go_num,below_drewN HW2.out _,hsz2,HT2,HM2⟩
      case measure=>simp[intOf];omega
     ·have HF:Hid (res=12):=HE5.out 12 (by
       rw[HI.out,qR];rw[HSH.out]
       cases hh:(decide (ai=noStr)&&decide (pe=0)&&decide (s1=0)&&decide (s2=0)) with
       | false=>rfl
       | true =>
        exfalso;simp only[qI,qL]at hh;exact hsh (by simp only[hh,and_self])) (by decide)
      have hd:(¬pe=0)∨(pe=0 ∧ ¬s1=0)∨(pe=0∧s1=0 ∧ ¬s2=0)∨(pe=0∧s1=0∧s2=0∧(ai.toList==[])=false):=by
       rw[HEB.out]
       try simp only[qL,qU]
       by_cases gpe:pe=0 <;> by_cases gs1:s1=0 <;> by_cases gs2:s2=0 <;> by_cases gai:ai=noStr <;> simp_all
      clear hsh;rcases hd with hn|⟨rfl,hn⟩|⟨rfl,rfl,hn⟩|⟨rfl,rfl,rfl,hn⟩
      all_goals
       go_wp2_with fail
       go_quiet (fail)
       go_wp2_with fail
       go_ret
       exact⟨by rw[HF.out];rfl,below_drewN HW2.out _⟩
    ·have HSH:Hid (shapedI ⟨2,fl,mi,ai,pe,⟨s1,s2⟩⟩=(decide (mi=0)&&decide (ai=noStr)&&decide (pe=0)&&decide (s1=0)&&decide (s2=0))):=rfl
     by_cases hsh:pe=0∧s1=0∧s2=0∧ai=noStr∧mi=0
     ·obtain⟨rfl,rfl,rfl,h3,rfl⟩:=hsh;have hem:(ai.toList==[])=true:=by rw[HEB.out];simpa using h3
      have HM2:=qH (HM.out (by rw[HI.out,HSH.out,h3];rfl));clear h3;go_wp2_with fail
      go_quiet (fail)
      go_wp2_with fail
      go_roundw
      case rel=>exact⟨k+1,by omega,by go_num,below_drewN HW2.out _,hsz2,HT2,HM2⟩
      case measure=>simp[intOf];omega
     ·have HF:Hid (res=12):=HE5.out 12 (by
       rw[HI.out,qR];rw[HSH.out]
       cases hh:(decide (mi=0)&&decide (ai=noStr)&&decide (pe=0)&&decide (s1=0)&&decide (s2=0)) with
       | false=>rfl
       | true =>
        exfalso;simp only[qI,qL]at hh;exact hsh (by simp only[hh,and_self])) (by decide)
      have hd:(¬pe=0)∨(pe=0 ∧ ¬s1=0)∨(pe=0∧s1=0 ∧ ¬s2=0)∨(pe=0∧s1=0∧s2=0∧(ai.toList==[])=false)∨(pe=0∧s1=0∧s2=0∧(ai.toList==[])=true ∧ ¬mi=0):=by
       rw[HEB.out]
       try simp only[qL,qU]
       by_cases gpe:pe=0 <;> by_cases gs1:s1=0 <;> by_cases gs2:s2=0 <;> by_cases gai:ai=noStr <;> by_cases gmi:mi=0 <;> simp_all
      clear hsh;rcases hd with hn|⟨rfl,hn⟩|⟨rfl,rfl,hn⟩|⟨rfl,rfl,rfl,hn⟩|⟨rfl,rfl,rfl,hem,hn⟩
      all_goals
       go_wp2_with fail
       go_quiet (fail)
       go_wp2_with fail
       go_ret
       exact⟨by rw[HF.out];rfl,below_drewN HW2.out _⟩
    ·have HSH:Hid (shapedI ⟨3,fl,mi,ai,pe,⟨s1,s2⟩⟩=(decide (pe=0)&&decide (s1=0)&&decide (s2=0))):=rfl
     by_cases hsh:pe=0∧s1=0∧s2=0
     ·obtain⟨rfl,rfl,rfl⟩:=hsh;have HM2:=qH (HM.out (by rw[HI.out,HSH.out];rfl));go_wp2_with fail
      go_quiet (fail)
      go_wp2_with fail
      go_roundw
      case rel=>exact⟨k+1,by omega,by go_num,below_drewN HW2.out _,hsz2,HT2,HM2⟩
      case measure=>simp[intOf];omega
     ·have HF:Hid (res=12):=HE5.out 12 (by
       rw[HI.out,qR];rw[HSH.out]
       cases hh:(decide (pe=0)&&decide (s1=0)&&decide (s2=0)) with
       | false=>rfl
       | true =>
        exfalso;simp only[qI,qL]at hh;exact hsh (by simp only[hh,and_self])) (by decide)
      have hd:(¬pe=0)∨(pe=0 ∧ ¬s1=0)∨(pe=0∧s1=0 ∧ ¬s2=0):=by
       try simp only[qL,qU]
       by_cases gpe:pe=0 <;> by_cases gs1:s1=0 <;> by_cases gs2:s2=0 <;> simp_all
      clear hsh;rcases hd with hn|⟨rfl,hn⟩|⟨rfl,rfl,hn⟩
      all_goals
       go_wp2_with fail
       go_quiet (fail)
       go_wp2_with fail
       go_ret
       exact⟨by rw[HF.out];rfl,below_drewN HW2.out _⟩
  ·have HF:=qH (HR4'.out (by
    have:=HK.out;intro j hj;exact this j (by omega)))
   go_wp2_with fail
   go_ret
   exact⟨by rw[HF.out];rfl,hbr⟩
end
section
open Go.RowKit Go
def bindsOf(o:Oper):List Nat:=(o.after.toList.filter fun e=>Region.binds .any e).map (·.on)
theorem bindsOf_mem{o:Oper}{j:Nat}:j∈bindsOf o ↔ ∃ e∈o.after,Region.binds .any e=true∧e.on=j:=by
 unfold bindsOf;simp only[List.mem_map,List.mem_filter,Array.mem_toList_iff];exact⟨fun⟨e,⟨h1,h2⟩,h3⟩=>⟨e,h1,h2,h3⟩,fun⟨e,h1,h2,h3⟩=>⟨e,⟨h1,h2⟩,h3⟩⟩
def cloFromD(ops:Array Oper)(t:Nat):List Nat :=
 (List.range (t+1)).reverse.foldl (fun acc i=>if acc.contains i then acc++(match ops[i]? with
  | some o=>bindsOf o
  | none=>[]) else acc) [t]
theorem cloFromD_listed{ops:Array Oper}{t:Nat}{L:Nat→Prop}(h : ∀ i o,ops[i]? = some o→(i=t∨L i) → ∀ e∈o.after,Region.binds .any e=true→L e.on) : ∀ x∈cloFromD ops t,x=t∨L x:=by
 unfold cloFromD;have key : ∀ (l:List Nat) (acc:List Nat),(∀ x∈acc,x=t∨L x) → ∀ x∈l.foldl (fun acc i=>if acc.contains i then acc++(match ops[i]? with
  | some o=>bindsOf o
  | none=>[]) else acc) acc,x=t∨L x:=by
  intro l
  induction l with
  | nil=>intro acc h1 x hx;exact h1 x hx
  | cons i l ih =>
   intro acc h1 x hx;rw[List.foldl_cons]at hx;refine ih _ ?_ x hx;intro y hy;split at hy
   ·rename_i hc;rw[List.mem_append]at hy;rcases hy with hy|hy
    ·exact h1 y hy
    ·cases ho:ops[i]? with
     | none=>rw[ho]at hy;cases hy
     | some o =>
      rw[ho]at hy;obtain⟨e,he,hb,rfl⟩:=bindsOf_mem.1 hy;exact .inr (h i o ho (h1 i (by simpa using hc)) e he hb)
   ·exact h1 y hy
 exact key _ _ fun x hx=>by
  rw[List.mem_singleton]at hx;exact .inl hx
def slotOf(ops:Array Oper)(a:Act)(i:Nat):Value:=match dstOf ops i with
 | some d=>a.tmps.getD d undef
 | none=>undef
structure HID(R:World→World→Prop)(ops:Array Oper)(n:Nat)(a:Act)(W:World)(F:Nat→Value→World→Prop)(listed:Array Bool)(a':Act)(w':World):Prop where
 lsize:listed.size=ops.size
 tail : ∀ t,n≤t→listed.getD t false=false
 defers:a'.defers=a.defers
 size:a'.tmps.size=a.tmps.size
 out : ∀ s,(∀ j,j<n→dstOf ops j≠some s)→a'.tmps[s]? = a.tmps[s]?
 facts : ∀ i,i<n→listed.getD i false=true→F i (slotOf ops a' i) w'
 grow:R W w'
 closed : ∀ i o,ops[i]? = some o→listed.getD i false=true → ∀ e∈o.after,Region.binds .any e=true→listed.getD e.on false=true
section
variable {R:World→World→Prop} {P:Program} {ops:Array Oper} {Q:Exit→Act→World→Prop} {n:Nat} {a:Act} {W:World} {F:Nat→Value→World→Prop}
def putLo(us:Nat→Value):Act→List (Option Nat)→Nat→Act
 | a,[],_=>a
 | a,d::ds,k=>putLo us (a.put d (us k)) ds (k+1)
theorem putLo_snoc(us:Nat→Value)(d:Option Nat) : ∀ (ds:List (Option Nat)) (a:Act) (k:Nat),putLo us a (ds++[d]) k=(putLo us a ds k).put d (us (k+ds.length))
 | [],a,k=>rfl
 | x::ds,a,k=>by
  rw[List.cons_append,putLo,putLo,putLo_snoc us d ds];simp only[List.length_cons];rw[show k+1+ds.length=k+(ds.length+1) by omega]
theorem putAll_eqD{ops:Array Oper}{a:Act}{us:Nat→Value}{ds:List (Option Nat)} : ∀ (n:Nat),n≤ds.length→(∀ i,i<n→some (dstOf ops i)=ds[i]?)→putAll ops a us n=putLo us a (ds.take n) 0
 | 0,_,_=>by rw[List.take_zero];rfl
 | n+1,hn,h=>by
  have h9:=h n (by omega);rw[qG (by omega)]at h9;injection h9 with h9
  rw[putAll,putAll_eqD n (by omega) fun i hi=>h i (by omega),h9,List.take_succ_eq_append_getElem (by omega),putLo_snoc,List.length_take];rw[Nat.min_eq_left (by omega),Nat.zero_add]
end
end
section
open Go.RowKit Go
def headOkW(ops:Array Oper)(n size:Nat):Bool :=
 (List.range n).all (fun i=>match dstOf ops i with
  | some d=>decide (d<size)&&(List.range i).all (fun j=>dstOf ops j != some d)
  | none=>true) &&
 (List.range n).all (fun i=>match ops[i]? with
  | some o=>(match o.guard with|none=>true|some (g,_)=>(bindsOf o).contains g)&&(bindsOf o).all (fun j=>decide (j<i))
  | none=>false) &&
 (List.range ops.size).all (fun t=>decide (t<n)||(List.range n).all fun i=>(cloFromD ops t).contains i)&&decide (n≤ops.size)
structure HeadFactsW(ops:Array Oper)(n size:Nat):Prop where
 dst : ∀ i d,i<n→dstOf ops i=some d→d<size
 inj : ∀ i j d,i<n→j<n→dstOf ops i=some d→dstOf ops j=some d→i=j
 guard : ∀ i o g b,i<n→ops[i]? = some o→o.guard=some (g,b)→g∈bindsOf o
 back : ∀ i o,i<n→ops[i]? = some o → ∀ e∈o.after,Region.binds .any e=true→e.on<i
 cover : ∀ t o,n≤t→ops[t]? = some o → ∀ i,i<n→i∈cloFromD ops t
 le:n≤ops.size
theorem headFactsW{ops:Array Oper}{n size:Nat}(h:headOkW ops n size=true):HeadFactsW ops n size:=by
 unfold headOkW at h;simp only[qI,List.all_eq_true,List.mem_range,qL]at h;obtain⟨⟨⟨h1,h2⟩,h3⟩,h4⟩:=h;have h1' : ∀ i d,i<n→dstOf ops i=some d→d<size ∧ ∀ j,j<i→dstOf ops j≠some d:=fun i d hi hd=>by
  have:=h1 i hi;rw[hd]at this;simp only[qI,qL,List.all_eq_true,List.mem_range,bne_iff_ne]at this;exact this
 refine⟨fun i d hi hd=>(h1' i d hi hd).1,fun i j d hi hj e1 e2 =>?_,fun i o g b hi ho hgd =>?_,fun i o hi ho e he hbe =>?_,fun t o ht ho i hi =>?_,h4⟩
 ·rcases Nat.lt_trichotomy i j with hlt|rfl|hlt
  ·exact absurd e1 ((h1' j d hj e2).2 i hlt)
  ·rfl
  ·exact absurd e2 ((h1' i d hi e1).2 j hlt)
 ·have:=h2 i hi;rw[ho]at this;simp only[hgd,qI,List.contains_iff_mem]at this;exact this.1
 ·have:=h2 i hi;rw[ho]at this;simp only[qI,List.all_eq_true,qL]at this;exact this.2 _ (bindsOf_mem.2 ⟨e,he,hbe,rfl⟩)
 ·have hts:t<ops.size:=(Array.getElem?_eq_some_iff.1 ho).1;have:=h3 t hts;simp only[Bool.or_eq_true,qL,List.all_eq_true,List.mem_range,List.contains_iff_mem]at this;rcases this with h|h
  ·omega
  ·exact h i hi
def boolIs(v:Value)(b:Bool):Bool:=match v with
 | .bool c=>c==b
 | _=>false
theorem yielded_is(ops:Array Oper)(a:Act)(g:Nat)(b:Bool):(yielded ops a.tmps g==some b)=boolIs (slotOf ops a g) b:=by
 unfold yielded slotOf dstOf
 cases hd:(ops[g]?).bind (·.dst) with
 | none=>rfl
 | some d =>
  simp only[Option.bind_some,qA]
  cases ht:a.tmps[d]? with
  | none=>rfl
  | some v=>cases v <;> simp[boolIs]
structure HIW(R:World→World→Prop)(ops:Array Oper)(n:Nat)(a:Act)(W:World)(F:Nat→Value→World→Prop)(listed:Array Bool)(a':Act)(w':World):Prop where
 lsize:listed.size=ops.size
 tail : ∀ t,n≤t→listed.getD t false=false
 defers:a'.defers=a.defers
 size:a'.tmps.size=a.tmps.size
 out : ∀ s,(∀ j,j<n→dstOf ops j≠some s)→a'.tmps[s]? = a.tmps[s]?
 facts : ∀ i,i<n→listed.getD i false=true→F i (slotOf ops a' i) w'
 grow:R W w'
 closed : ∀ i o,ops[i]? = some o→listed.getD i false=true → ∀ e∈o.after,Region.binds .any e=true→listed.getD e.on false=true
section
variable {R:World→World→Prop} {P:Program} {ops:Array Oper} {Q:Exit→Act→World→Prop} {n:Nat} {a:Act} {W:World} {F:Nat→Value→World→Prop}
theorem wpAny_factsW(hRt : ∀ {x y z:World},R x y→R y z→R x z){l:List Oper}(hl:l.toArray=ops)(hh:HeadFactsW ops n a.tmps.size)(hseq:Region.seqB .any ops (ops.size-n) n (headListed ops n)=true)
 (run:Nat→Bool) (hF : ∀ i v w w',F i v w→R w w'→F i v w')
 (hg : ∀ i o g b,i<n→ops[i]? = some o→o.guard=some (g,b) → ∀ v w,F g v w→boolIs v b=run i) (hrn : ∀ i o,i<n→ops[i]? = some o→o.guard=none→run i=true) (hsk : ∀ i w,i<n→run i=false→F i undef w)
 (hstep : ∀ i o,i<n→run i=true→ops[i]? = some o → ∀ a' w',R W w'→(∀ s,(∀ j,j<n→dstOf ops j≠some s)→a'.tmps[s]? = a.tmps[s]?) →
  (∀ e∈o.after,Region.binds .any e=true→F e.on (slotOf ops a' e.on) w') → ∀ K:Act→World→Prop,(∀ v w'',F i (match o.dst with|some _=>v|none=>undef) w''→R w' w''→K (a'.put o.dst v) w'')→o.wp P a' w' K Q)
 (hfin : ∀ us w',R W w'→(∀ i,i<n→F i (us i) w')→wpList P ops Q (l.drop n) (putAll ops a us n) w') :
 ∀ (f:Nat) (listed:Array Bool) (a':Act) (w':World),left n listed=f→HIW R ops n a W F listed a' w'→wpAny P .any ops Q (f+(ops.size-n)) listed a' w':=by
 have hdl:(l.drop n).length=ops.size-n:=by rw[List.length_drop, ←hl];simp
 intro f
 induction f with
 | zero =>
  intro listed a' w' hlf hi;have hall:=left_zero hlf;have e1:listed=headListed ops n:=by
   apply Array.ext
   ·rw[hi.lsize];simp[headListed]
   ·intro k h1 h2;have hk:k<ops.size:=by rw[←hi.lsize];exact h1
    have e3:(headListed ops n)[k]=decide (k<n):=by simp[headListed]
    rw[e3]
    by_cases hkn:k<n
    ·have:=hall k hkn;simp[h1]at this;rw[this];simp[hkn]
    ·have:=hi.tail k (by omega);simp[h1]at this;rw[this];simp[hkn]
  have e2:a'=putAll ops a (slotOf ops a') n:=by
   have es:a'.tmps=(putAll ops a (slotOf ops a') n).tmps:=by
    apply Array.ext_getElem?;intro s
    by_cases hs : ∃ i,i<n∧dstOf ops i=some s
    ·obtain⟨i,hin,hd⟩:=hs;have hlt:=hh.dst i s hin hd;rw[putAll_in hlt hd hin fun j hj hji e=>hji (hh.inj j i s hj hin e hd)];have:s<a'.tmps.size:=by rw[hi.size];exact hlt
     simp[slotOf,hd,this]
    ·rw[putAll_out fun j hj e=>hs ⟨j,hj,e⟩];exact hi.out s fun j hj e=>hs ⟨j,hj,e⟩
   have ed:a'.defers=(putAll ops a (slotOf ops a') n).defers:=by rw[putAll_defers];exact hi.defers
   cases ha:a' with
   | mk t d =>
    rw[ha]at es ed
    cases hp:putAll ops a (slotOf ops (Act.mk t d)) n with
    | mk t2 d2 =>
     rw[hp]at es ed;simp only at es ed;rw[es,ed]
  rw[Nat.zero_add, ←hdl];subst e1;refine wpAny_of_seq (l.drop n) n _ a' w' (fun j=>by rw[List.getElem?_drop, ←hl];simp) (by rw[hdl];exact hseq) ?_;rw[e2];exact hfin _ w' hi.grow fun i hin=>hi.facts i hin (hall i hin)
 | succ f ih =>
  intro listed a' w' hlf hi;rw[show f+1+(ops.size-n)=(f+(ops.size-n))+1 by omega];have hle:=hh.le;refine⟨fun h0 =>?_,fun i hr =>?_⟩
  ·exfalso;have hex : ∃ i,i<n∧listed.getD i false=false:=by
    have hne:(List.range n).filter (fun i => !listed.getD i false)≠[]:=fun e=>by
     unfold left at hlf;rw[e]at hlf
     cases hlf
    obtain⟨i,hi'⟩:=List.exists_mem_of_ne_nil _ hne;rw[List.mem_filter,List.mem_range]at hi';exact⟨i,hi'.1,by simpa using hi'.2⟩
   have key : ∀ i,i<n→listed.getD i false=true:=by
    intro i
    induction i using Nat.strongRecOn with
    | _ i ihi =>
     intro hin
     cases hli:listed.getD i false with
     | true=>rfl
     | false =>
      exfalso;have hil:i<listed.size:=by rw[hi.lsize];omega
      have hmem:i∈Region.ready .any ops listed:=by
       rw[mem_ready];have hio:i<ops.size:=by omega
       refine⟨Go.getD_in hil hli,ops[i],by simp[hio],fun e he hbe =>?_⟩;have hlt:=hh.back i _ hin (by simp[hio]) e he hbe;exact ihi e.on hlt (by omega)
      rw[h0]at hmem
      cases hmem
   obtain⟨i,hin,hlf'⟩:=hex;rw[key i hin]at hlf'
   cases hlf'
  ·obtain⟨hun,o,ho,hall⟩:=mem_ready.1 hr;have hun':=getD_both hun;have hio:i<ops.size:=(Array.getElem?_eq_some_iff.1 ho).1;have hin:i<n:=by
    rcases Nat.lt_or_ge i n with h|h
    ·exact h
    ·exfalso;have hz:left n listed=0:=by
      unfold left;rw[List.length_eq_zero_iff,List.filter_eq_nil_iff];intro j hj;have hjn:=List.mem_range.1 hj;have hcl:=cloFromD_listed (t:=i) (L:=fun x=>listed.getD x false=true) (fun k ok hok hk e he hbe=>by
       rcases hk with rfl|hk
       ·rw[ho]at hok;obtain rfl:=qB hok;exact hall e he hbe
       ·exact hi.closed k ok hok hk e he hbe) j (hh.cover i o h ho j hjn)
      rcases hcl with h9|h9
      ·omega
      ·rw[h9];simp
     omega
   have hil:i<listed.size:=by rw[hi.lsize];exact hio
   unfold wpOp;rw[ho];have hod:dstOf ops i=o.dst:=by unfold dstOf;rw[ho];rfl
   have hwant:Region.wanted o (yielded ops a'.tmps)=run i:=by
    cases hgd:o.guard with
    | none=>rw[hrn i o hin ho hgd];simp[Region.wanted,hgd]
    | some gb =>
     obtain⟨g,b⟩:=gb;obtain⟨e,he,hbe,heg⟩:=bindsOf_mem.1 (hh.guard i o g b hin ho hgd);have hgi:=hh.back i o hin ho e he hbe;have hv:=hg i o g b hin ho hgd _ _ (hi.facts e.on (by omega) (hall e he hbe) |> fun h=>by rw[heg]at h;exact h);rw[←hv];unfold Region.wanted;rw[hgd];exact yielded_is ops a' g b
   have cont : ∀ v w'',F i (match o.dst with|some _=>v|none=>undef) w''→R W w''→(∀ j u,F j u w'→F j u w'')→wpAny P .any ops Q (f+(ops.size-n)) (listed.setIfInBounds i true) (a'.put o.dst v) w'':=fun v w'' hfv hgr hFj=>by
    have hmon : ∀ x,listed.getD x false=true→(listed.setIfInBounds i true).getD x false=true:=fun x hx=>by
     by_cases hxi:x=i
     ·subst hxi;simp[hil]
     ·rw[Go.getD_set_ne false (fun e=>hxi e.symm)];exact hx
    refine ih _ _ _ ?_ ⟨by simpa using hi.lsize,fun t ht=>by rw[Go.getD_set_ne false (by omega)];exact hi.tail t ht, ?_, ?_,fun s hs =>?_,fun j hj hlj =>?_,hgr,fun k ok hok hk e he hbe =>?_⟩
    ·have:=left_set hin hil hun';omega
    ·unfold Act.put;split <;> exact hi.defers
    ·unfold Act.put;split
     ·simpa using hi.size
     ·exact hi.size
    ·unfold Act.put;split
     ·rename_i d hd;simp only;rw[Array.getElem?_setIfInBounds_ne (fun e=>hs i hin (by rw[hod,hd,e]))];exact hi.out s hs
     ·exact hi.out s hs
    ·by_cases hji:j=i
     ·subst hji;unfold slotOf;rw[hod]
      cases hd:o.dst with
      | none =>
       simp only;exact(show F j (match o.dst with|some _=>v|none=>undef) w'' from hfv) |> fun h=>by rw[hd]at h;exact h
      | some d =>
       have hdl':=hh.dst j d hin (by rw[hod,hd]);have:d<a'.tmps.size:=by rw[hi.size];exact hdl'
       have h9:F j (match o.dst with|some _=>v|none=>undef) w'':=hfv;rw[hd]at h9;simp only[Act.put];simpa[this] using h9
     ·rw[Go.getD_set_ne false (fun e=>hji e.symm)]at hlj;have h9:=hFj j _ (hi.facts j hj hlj);unfold slotOf at h9 ⊢;unfold Act.put
      cases hd:o.dst with
      | none=>simpa[hd] using h9
      | some d =>
       cases hdj:dstOf ops j with
       | none=>rw[hdj]at h9;simpa using h9
       | some d' =>
        have hne:d≠d':=fun e=>hji (hh.inj j i d' hj hin hdj (by rw[hod,hd,e]))
        rw[hdj]at h9;simp only at h9 ⊢;simpa[Array.getElem?_setIfInBounds_ne hne] using h9
    ·by_cases hki:k=i
     ·subst hki;rw[ho]at hok;obtain rfl:=qB hok;exact hmon _ (hall e he hbe)
     ·rw[Go.getD_set_ne false (fun e=>hki e.symm)]at hk;exact hmon _ (hi.closed k ok hok hk e he hbe)
   cases hr9:run i with
   | false =>
    rw[hr9]at hwant;simp only[hwant];refine cont undef w' ?_ hi.grow fun j u h=>h
    have:=hsk i w' hin hr9
    cases o.dst <;> exact this
   | true =>
    rw[hr9]at hwant;simp only[hwant,if_true];exact .inl (hstep i o hin hr9 ho a' w' hi.grow hi.out (fun e he hbe=>hi.facts e.on (Nat.lt_trans (hh.back i o hin ho e he hbe) hin) (hall e he hbe)) _ fun v w'' hfv hbl=>cont v w'' hfv (hRt hi.grow hbl) fun j u h=>hF j u _ _ h hbl)
theorem wp_region_factsW(R:World→World→Prop)(hRt : ∀ {x y z:World},R x y→R y z→R x z){id:Nat}{l:List Oper}{w:World}(n:Nat)(ds:List (Option Nat))(F:Nat→Value→World→Prop)(hD:R w { w with drawn:=w.drawn+1 })(hm:P.follows .mixedOrders=true)(hok:headOkW l.toArray n a.tmps.size=true)(hds:((List.range n).map (dstOf l.toArray)==ds)=true)(hseq:Region.seqB .any l.toArray (l.toArray.size-n) n (headListed l.toArray n)=true)
 (run:Nat→Bool) (hg : ∀ i o g b,i<n→l[i]? = some o→o.guard=some (g,b) → ∀ v w,F g v w→boolIs v b=run i) (hrn : ∀ i o,i<n→l[i]? = some o→o.guard=none→run i=true) (hsk : ∀ i w,i<n→run i=false→F i undef w)
 (hF : ∀ i v w w',F i v w→R w w'→F i v w')
 (hstep : ∀ i o,i<n→run i=true→l[i]? = some o → ∀ a' w',R w w'→(∀ s,some s ∉ ds→a'.tmps[s]? = a.tmps[s]?) →
  (∀ e∈o.after,Region.binds .any e=true → ∀ d,ds[e.on]? = some (some d)→F e.on (a'.tmps.getD d undef) w') → ∀ K:Act→World→Prop,(∀ v w'',F i (match o.dst with|some _=>v|none=>undef) w''→R w' w''→K (a'.put o.dst v) w'')→o.wp P a' w' K Q)
 (hfin : ∀ us w',R w w'→(∀ i,i<n→F i (us i) w')→wpList P l.toArray Q (l.drop n) (putLo us a ds 0) w'):(Code.region id l.toArray true).wp P Q a w:=by
 have hh:=headFactsW hok;have hdl:=beq_iff_eq.1 hds;have hlen:ds.length=n:=by
  have:=congrArg List.length hdl;simpa using this.symm
 have hdi : ∀ i,i<n→some (dstOf l.toArray i)=ds[i]? :=fun i hi=>by
  have:=congrArg (·[i]?) hdl;simpa only [List.getElem?_map,List.getElem?_range hi,Option.map_some] using this
 refine wp_region_any hm ?_;have hl0:left n (Array.replicate l.toArray.size false)=n:=by
  unfold left;rw[List.filter_eq_self.2 fun i _=>by rw[getD_replicate_false];rfl,List.length_range]
 have hsz:l.toArray.size=n+(l.toArray.size-n):=by have:=hh.le;omega
 have key:=wpAny_factsW (P:=P) (Q:=Q) (ops:=l.toArray) (n:=n) (a:=a) (W:=w) (F:=F) (R:=R) hRt rfl hh hseq run hF (fun i o g b hi ho=>hg i o g b hi (by simpa using ho)) (fun i o hi ho=>hrn i o hi (by simpa using ho)) hsk
  (fun i o hi hr9 ho a' w' hb' hout hpre=>hstep i o hi hr9 (by simpa using ho) a' w' hb'
   (fun s hs=>hout s fun j hj e=>hs (by have:=hdi j hj;rw[e]at this;exact List.mem_of_getElem? this.symm))
   (fun e he hbe d hd=>by
    have hlt:=hh.back i o hi ho e he hbe;have h9:=hdi e.on (by omega);rw[hd]at h9;injection h9 with h9
    have:=hpre e he hbe;unfold slotOf at this;rw[h9]at this;exact this))
  (fun us w' hb' hf=>by
   have:=hfin us w' hb' hf;rw[←List.take_of_length_le (l:=ds) (i:=n) (by omega)]at this;rw[putAll_eqD n (by omega) hdi];exact this) n (Array.replicate l.toArray.size false) a { w with drawn:=w.drawn+1 } hl0
  ⟨by simp,fun t _=>getD_replicate_false _ _,rfl,rfl,fun _ _=>rfl,fun i _ h=>(by rw[getD_replicate_false]at h;cases h),hD,fun i o _ h=>(by rw[getD_replicate_false]at h;cases h)⟩
 rw[←hsz]at key;exact key
def runV(l:List Oper)(V:Nat→Value)(i:Nat):Bool:=match (l[i]?).bind (·.guard) with
 | none=>true
 | some (g,b)=>boolIs (V g) b
def putV:Act→List Nat→List Value→Act
 | a,d::ds,v::vs=>putV (a.put (some d) v) ds vs
 | a,_,_=>a
theorem putLo_V{us:Nat→Value} : ∀ (ds:List Nat) (vs:List Value) (a:Act) (k:Nat),ds.length=vs.length→(∀ i,i<ds.length→us (k+i)=vs.getD i undef)→putLo us a (ds.map some) k=putV a ds vs
 | [],[],_,_,_,_=>rfl
 | d::ds,v::vs,a,k,hl,h=>by
  rw[List.map_cons,putLo,putV];have h0:=h 0 (by simp);rw[Nat.add_zero]at h0;rw[h0];refine putLo_V ds vs _ _ (by simpa using hl) fun i hi =>?_
  have:=h (i+1) (by simpa using hi);rw[show k+(i+1)=k+1+i by omega]at this;exact this
theorem wp_region_vals(R:World→World→Prop)(hRt : ∀ {x y z:World},R x y→R y z→R x z){id:Nat}{l:List Oper}{w:World}(n:Nat)(ds:List Nat)(vs:List Value)(hvl:(vs.length==n)=true)(hD:R w { w with drawn:=w.drawn+1 })(hm:P.follows .mixedOrders=true)(hok:headOkW l.toArray n a.tmps.size=true)(hds:((List.range n).map (dstOf l.toArray)==ds.map some)=true)(hseq:Region.seqB .any l.toArray (l.toArray.size-n) n (headListed l.toArray n)=true)
 (hsk : ∀ i,i<n→runV l (fun i=>vs.getD i undef) i=false→vs.getD i undef=undef)
 (hstep : ∀ i o,i<n→runV l (fun i=>vs.getD i undef) i=true→l[i]? = some o → ∀ a' w',R w w'→(∀ s,s ∉ ds→a'.tmps[s]? = a.tmps[s]?) →
  (∀ e∈o.after,Region.binds .any e=true → ∀ d,ds[e.on]? = some d→a'.tmps.getD d undef=vs.getD e.on undef) → ∀ K:Act→World→Prop,(∀ w'',R w' w''→K (a'.put o.dst (vs.getD i undef)) w'')→o.wp P a' w' K Q)
 (hfin : ∀ w',R w w'→wpList P l.toArray Q (l.drop n) (putV a ds vs) w'):(Code.region id l.toArray true).wp P Q a w:=by
 have hdl:=beq_iff_eq.1 hds;have hlen:ds.length=n:=by
  have:=congrArg List.length hdl;simpa using this.symm
 have hdi : ∀ i,i<n → ∃ d,dstOf l.toArray i=some d:=fun i hi=>by
  have:=congrArg (·[i]?) hdl;simp only[List.getElem?_map,List.getElem?_range hi,Option.map_some]at this;rw[qG (by omega)]at this;exact⟨_,by simpa using this⟩
 refine wp_region_factsW R hRt n (ds.map some) (fun i v _=>v=vs.getD i undef) hD hm hok hds hseq (runV l fun i=>vs.getD i undef) (fun i o g b hi ho hgd v w h =>?_) (fun i o hi ho hgd =>?_) (fun i w hi h=>(hsk i hi h).symm) (fun _ _ _ _ h _=>h) (fun i o hi hr ho a' w' hb hout hpre K hK =>?_) fun us w' hb hf =>?_
 ·rw[h];unfold runV;rw[ho];simp only[Option.bind_some,hgd]
 ·unfold runV;rw[ho];simp only[Option.bind_some,hgd]
 ·refine hstep i o hi hr ho a' w' hb (fun s hs=>hout s (by simpa using hs)) (fun e he hbe d hd=>hpre e he hbe d (by rw[List.getElem?_map,hd];rfl)) K fun w'' hw=>hK (vs.getD i undef) w'' ?_ hw
  obtain⟨d,hd⟩:=hdi i hi;have:o.dst=some d:=by
   unfold dstOf at hd;rw[List.getElem?_toArray,ho]at hd;exact hd
  rw[this]
 ·rw[putLo_V ds vs a 0 (by rw[hlen];exact(beq_iff_eq.1 hvl).symm) fun i hi=>by rw[Nat.zero_add];exact hf i (by omega)];exact hfin w' hb
end
end
end Go.Proofs.YtifconapjfdkcaaGreatDoor
