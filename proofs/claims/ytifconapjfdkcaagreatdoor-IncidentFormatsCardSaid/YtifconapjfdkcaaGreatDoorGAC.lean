/-
  Joined texts: FmtRef; FmtRef2; CrewRef; CrewVR. What each proves stands ahead of it, with its conditions.
-/
import Derived.Lib.SplitLaws
import Derived.Lib.IndexMore
import Derived.Lib.Strings
import Derived.WalkKit
import Derived.WalkLawsBesides
import Derived.WalkSpells
import Derived.Lib.Hide
import Derived.Maps.AppendAt
import Derived.Test.YtifconapjfdkcaaGreatDoorProg
import Derived.Lib.ItoaNum
import Derived.ProofKit
import Derived.Deep.Slices
import Derived.Lib.AppendStr
import Derived.Laws.Rows
import Derived.Laws.Tables
import Derived.Deep.RegionWith
import Derived.BigQuiet
import Derived.Deep.QuietTactic
import Derived.StillTail
import Derived.RegionTactic
import Derived.Deep.RegionLaw
import Derived.Test.YtifconapjfdkcaaGreatDoorGAB
import Derived.Deep.DeepCutAuto
import Derived.Test.YtifconapjfdkcaaGreatDoorGAA
import Derived.IntWalk
import Derived.Maps.OwnOps
import Derived.Maps.Views
import Derived.StillTailTactics
import Derived.Test.YtifconapjfdkcaaGreatDoorDAA
import Derived.Test.YtifconapjfdkcaaGreatDoorDAB
import Derived.Test.YtifconapjfdkcaaGreatDoorDAC
import Derived.Test.YtifconapjfdkcaaGreatDoorDAD
import Derived.Test.YtifconapjfdkcaaGreatDoorDAE
import Derived.Test.YtifconapjfdkcaaGreatDoorDAF
import Derived.Test.YtifconapjfdkcaaGreatDoorDAG
import Derived.Test.YtifconapjfdkcaaGreatDoorDAH
import Derived.Test.YtifconapjfdkcaaGreatDoorDAI
import Derived.Test.YtifconapjfdkcaaGreatDoorDAJ
import Derived.Test.YtifconapjfdkcaaGreatDoorDAK
import Derived.Test.YtifconapjfdkcaaGreatDoorDAL
import Derived.Test.YtifconapjfdkcaaGreatDoorDAM
import Derived.Test.YtifconapjfdkcaaGreatDoorDAN
import Derived.Test.YtifconapjfdkcaaGreatDoorDAO
import Derived.Test.YtifconapjfdkcaaGreatDoorDAP
import Derived.Test.YtifconapjfdkcaaGreatDoorDAQ
import Derived.Test.YtifconapjfdkcaaGreatDoorDAR
import Derived.Test.YtifconapjfdkcaaGreatDoorDAS
import Derived.Test.YtifconapjfdkcaaGreatDoorDAT
import Derived.Test.YtifconapjfdkcaaGreatDoorDAU
import Derived.Test.YtifconapjfdkcaaGreatDoorDAV
import Derived.Test.YtifconapjfdkcaaGreatDoorDAW
import Derived.Test.YtifconapjfdkcaaGreatDoorDAX
import Derived.Test.YtifconapjfdkcaaGreatDoorDAY
import Derived.Test.YtifconapjfdkcaaGreatDoorDAZ
import Derived.Test.YtifconapjfdkcaaGreatDoorDBA
import Derived.Test.YtifconapjfdkcaaGreatDoorDBB
import Derived.Test.YtifconapjfdkcaaGreatDoorDBC
import Derived.Test.YtifconapjfdkcaaGreatDoorDBD
import Derived.Test.YtifconapjfdkcaaGreatDoorDBE
import Derived.Test.YtifconapjfdkcaaGreatDoorDBF
import Derived.Test.YtifconapjfdkcaaGreatDoorDBG
import Derived.Test.YtifconapjfdkcaaGreatDoorDBH
import Derived.Test.YtifconapjfdkcaaGreatDoorDBI
import Derived.Test.YtifconapjfdkcaaGreatDoorDBJ
set_option linter.unusedSimpArgs false
set_option linter.unusedVariables false
set_option maxRecDepth 100000
set_option maxHeartbeats 12800000
namespace Go.Proofs.YtifconapjfdkcaaGreatDoor
section
open Go.RowKit
theorem twoR_any(n d:Int)(w:World)(h0:0≤n)(h1:n≤9999)(hd:d≤((numS n).size:Int)+1)(hd0:0≤d)(hp:Pow10 w) :
 Calls Tryz.prog 165 #[.int .i64 n,.int .i64 d] w (StrB (padB n d.toNat) w):=by
 have HF:Hid (Calls Tryz.prog 58 #[.int .i64 n] w fun e w'=>e=.returned (.string (numS n))∧Below w.heap.size w w'):=formatIntR_any n w (by omega) (by omega) hp;have hz:=numS_size h0 h1;have HP:Hid (padB n d.toNat=if (numS n).size<d.toNat then zS++numS n else numS n):=rfl;generalize numS n=s at*
 go_enter Tryz.func165,Tryz.ntmps165
 go_wp2_with fail
 refine HF.out.mono ?_;rintro e w1 ⟨rfl,hb1⟩;have HB1:=qH hb1;clear hb1 HF;go_wp2_with fail
 go_loop [5] (fun sv => ∃ x:ByteArray,sv=.string x∧(x=s∨(x=zS++s∧(s.size:Int)<d))∧s.size≤x.size∧x.size≤s.size+1) (fun sv=>100-(match sv with | .string x=>x.size|_=>0))
 case atStart=>exact⟨s,rfl,.inl rfl,qD _,by omega⟩
 case round =>
  obtain⟨x,rfl,hx,hx1,hx2⟩:=hrel
  by_cases hlt:(x.size:Int)<d
  ·have hxs:x=s:=by
    rcases hx with h|⟨h,_⟩
    ·exact h
    ·exfalso;have:x.size=s.size+1:=by rw[h,qJ,show zS.size=1 from rfl];omega
     omega
   subst hxs;have q3 : ¬9223372036854775807<1+x.size:=by omega
   have hzz:(zS++x).size=x.size+1:=by rw[qJ,show zS.size=1 from rfl];omega
   have HZZ:=qH hzz;clear hx hzz;go_wp2_with fail
   go_round
   case rel=>exact⟨zS++x,rfl,.inr ⟨rfl,hlt⟩,by have:=HZZ.out;omega,by have:=HZZ.out;omega⟩
   case measure =>
    have:=HZZ.out;show 100-(zS++x).size<100-x.size;omega
  ·have HR:Hid (padB n d.toNat=x):=by
    show _=_;rw[HP.out];rcases hx with h|⟨h,h2⟩
    ·rw[qN (by subst h;omega),h]
    ·rw[qR (by omega),h]
   clear hx;go_wp2_with fail
   go_ret
   exact⟨by rw[HR.out];rfl,HB1.out⟩
theorem floorR_any(t:Int)(w:World)(h0:0≤t)(h1:t<52596000):Calls Tryz.prog 162 #[.int .i64 t,.int .i64 1440] w fun e w'=>e=.returned (.int .i64 (t/1440))∧w=w':=by
 have q1:t.tdiv 1440=t/1440:=Int.tdiv_eq_ediv_of_nonneg h0;have q2:t.tmod 1440=t%1440:=qQ h0;have q3:IntKind.i64.wrap (t/1440)=t/1440:=qM _ (by omega);have q4:IntKind.i64.wrap (t%1440)=t%1440:=qM _ (by omega);have q5 : ¬t%1440<0:=by omega
 go_enter Tryz.func162,Tryz.ntmps162
 go_wp2_with fail
 go_ret
 exact⟨rfl,rfl⟩
theorem splitMinuteR_any(t:Int)(w:World)(h0:0≤t)(h1:t<52596000):Calls Tryz.prog 123 #[.int .i64 t] w fun e w'=>e=.returned (.tuple #[.int .i64 (t/1440),.int .i64 (t%1440)])∧w=w':=by
 have HF:=qH (floorR_any t w h0 h1);have q1:IntKind.i64.wrap (1440*(t/1440))=1440*(t/1440):=qM _ (by omega);have q2:t-1440*(t/1440)=t%1440:=by omega
 have q3:IntKind.i64.wrap (t%1440)=t%1440:=qM _ (by omega)
 go_enter Tryz.func123,Tryz.ntmps123
 go_wp2_with fail
 refine HF.out.mono ?_;rintro e w' ⟨rfl,rfl⟩;go_wp2_with fail
 go_ret2
 exact⟨rfl,rfl⟩
theorem dayN_last:dayN 2100 12 31=(36889,0):=by decide +kernel
theorem dateOfR_any(day:Int)(w:World)(h0:0≤day)(h1:day≤36889):Calls Tryz.prog 124 #[.int .i64 day] w (DayPost day w):=by
 have hb0:=(qC w.heap.size w).alloc (qD _) (.cells #[.int .i64 0,.int .i64 0,.int .i64 0] 145);have hr0:=qK w (.cells #[.int .i64 0,.int .i64 0,.int .i64 0] 145);have hz0:w.heap.size<(w.alloc (.cells #[.int .i64 0,.int .i64 0,.int .i64 0] 145)).heap.size:=by simp
 have HB0:=qH hb0;have HR0:=qH hr0;have HZ0:=qH hz0;clear hb0 hr0 hz0;have c1 : ¬day < -365:=by omega
 have c2 : ¬(36889:Int)<day:=by omega
 have c3:IntKind.i64.wrap (day+365)=day+365:=qM _ (by omega)
 go_enter Tryz.func124,Tryz.ntmps124
 go_wp2_with fail
 generalize w.alloc (.cells #[.int .i64 0,.int .i64 0,.int .i64 0] 145)=W at*;refine(dayNumberR_any 2100 12 31 W ⟨by decide,by decide⟩).mono ?_;rw[dayN_last];rintro e w1 ⟨rfl,hb1⟩;have hbw:Below w.heap.size w w1:=HB0.out.trans (hb1.mono HB0.out.size);have hr1:=(hb1.block w.heap.size HZ0.out).trans HR0.out;have HBW:=qH hbw;have HR1:=qH hr1;clear hb1 hbw hr1 HB0 HR0 HZ0;go_wp2_with fail
 go_loop [6,7,8,9,10] (fun r y _ _ _ => ∃ k:Nat,k≤102∧r=.int .i64 (day+365-yearSum k)∧y=.int .i64 (1999+k)∧0≤day+365-yearSum k) (fun _ y _ _ _=>2200-(intOf y).toNat)
 case atStart=>exact⟨0,by omega,by simp[yearSum,sumTo],rfl,by simp[yearSum,sumTo];omega⟩
 case round =>
  obtain⟨k,hk,rfl,rfl,hr⟩:=hrel;have hk2:k<102:=by
   rcases Nat.lt_or_ge k 102 with h|h
   ·exact h
   ·exfalso;have e:k=102:=by omega
    subst e;rw[yearSum_last]at hr;omega
  have l1:1999+(k:Int)≤2100:=by omega
  have HS:Hid (yearSum (k+1)=yearSum k+yDays (1999+k)):=rfl;have hbs:=yearSum_bd k;have HYV:Hid (yDays (1999+k)=monSum (1999+k) 12):=(monSum_year _).symm;have HDB:Hid (∀ (j:Nat) (d:Int),dayB (1999+k) (1+j) d = -365+yearSum k+monSum (1999+k) j+d-1):=fun j d=>by
   unfold dayB;have e1:(1999+(k:Int)-1999).toNat=k:=by omega
   have e2:(1+(j:Int)-1).toNat=j:=by omega
   rw[e1,e2]
  have HVB:Hid (∀ (j:Nat) (d:Int),j≤11→1≤d→d≤mDays (1999+k) (1+j)→validB (1999+k) (1+j) d=true):=fun j d hj a b=>validB_iff.2 ⟨⟨by omega,by omega⟩,⟨by omega,by omega⟩,a,b⟩
  have HDM:Hid (∀ j:Nat,j≤11→Calls Tryz.prog 163 #[.int .i64 (1999+k),.int .i64 (1+j)] w1 fun e w'=>e=.returned (.tuple #[.int .i64 (mDays (1999+k) (1+j)),.int .i64 0])∧w1=w'):=fun j hj=>by
   have:=daysInMonthR_any (1999+k) (1+j) w1;have e:dimB (1999+k) (1+j)=(mDays (1999+k) (1+j),0):=by unfold dimB;rw[qN (by omega)]
   rw[e]at this;exact this
  have q9:IntKind.i64.wrap (1999+(k:Int)+1)=1999+(k:Int)+1:=qM _ (by omega);have HNX:Hid (day+365-yearSum k-monSum (1999+k) 12=day+365-yearSum (k+1)):=by show _=_;rw[HS.out,HYV.out];omega
  obtain⟨ys,hys⟩ : ∃ ys,yearSum k=ys:=⟨_,rfl⟩
  rw[hys]at hr hbs HDB HNX ⊢;obtain⟨yy,hyy⟩ : ∃ yy:Int,1999+(k:Int)=yy:=⟨_,rfl⟩
  have HYY:=qH hyy;rw[hyy]at HDB HVB HDM HNX l1 q9 ⊢;have hyb:0≤yy∧yy≤100000:=by omega
  clear hys HS HYV hyy;go_wp2_with fail
  go_loop [6,8,9,10] (fun r m _ _ => ∃ j:Nat,j≤12∧r=.int .i64 (day+365-ys-monSum yy j)∧m=.int .i64 (1+j)∧0≤day+365-ys-monSum yy j) (fun _ m _ _=>100-(intOf m).toNat)
  case atStart=>exact⟨0,by omega,by simp[monSum,sumTo],rfl,by simp[monSum,sumTo];omega⟩
  case round =>
   obtain⟨j,hj,rfl,rfl,hr2⟩:=hrel
   by_cases hj2:j≤11
   ·have m1:1+(j:Int)≤12:=by omega
    have HM:=qH (HDM.out j hj2);have HS:Hid (monSum yy (j+1)=monSum yy j+mDays yy (1+j)):=rfl;have hmb:=monSum_bd yy j;have hmd:=mDays_bd yy (1+j);have HDB2:=qH (HDB.out j (day+365-ys-monSum yy j+1));have HVB2:=qH (HVB.out j (day+365-ys-monSum yy j+1) hj2)
    by_cases hlt:day+365-ys-monSum yy j<mDays yy (1+j)
    ·have q1:IntKind.i64.wrap (day+365-ys-monSum yy j+1)=day+365-ys-monSum yy j+1:=qM _ (by omega);have HV3:Hid (validB yy (1+j) (day+365-ys-monSum yy j+1)=true):=HVB2.out (by omega) (by omega);have HD3:Hid (dayB yy (1+j) (day+365-ys-monSum yy j+1)=day):=by show _=_;rw[HDB2.out];omega
     have hr3:=HR1.out;have z0:=block_cell hr3 0;have z1:=block_cell hr3 1;have z2:=block_cell hr3 2;have f0:=block_free hr3 0;have f1:=block_free hr3 1;have f2:=block_free hr3 2;clear HVB HDB HVB2 HDB2 HS hr3;generalize mDays yy (1+j)=md at*;generalize hms:monSum yy j=ms at*;obtain⟨dd,hdd⟩ : ∃ dd:Int,day+365-ys-ms+1=dd:=⟨_,rfl⟩
     rw[hdd]at q1 HV3 HD3;clear hms;go_wp2_with fail
     refine HM.out.mono ?_;rintro e w' ⟨rfl,rfl⟩;go_wp2_with fail
     refine bodyPost_ret (v:=.tuple #[.agg #[.int .i64 yy,.int .i64 (1+j),.int .i64 dd],.int .i64 0]) (by simp[results,Tryz.results124,go_sem,z0,z1,z2]) rfl ?_;exact⟨yy,1+j,dd,rfl,HV3.out,HD3.out,((HBW.out.setCell (qD _) _).setCell (qD _) _).setCell (qD _) _⟩
    ·have q1:IntKind.i64.wrap (day+365-ys-monSum yy j-mDays yy (1+j))=day+365-ys-monSum yy j-mDays yy (1+j):=qM _ (by omega);have q2:IntKind.i64.wrap (1+(j:Int)+1)=1+(j:Int)+1:=qM _ (by omega);have HE:Hid (day+365-ys-monSum yy j-mDays yy (1+j)=day+365-ys-monSum yy (j+1)):=by show _=_;rw[HS.out];omega
     clear HVB2 HDB2 HS;generalize mDays yy (1+j)=md at*;generalize hms:monSum yy j=ms at*;go_wp2_with fail
     refine HM.out.mono ?_;rintro e w' ⟨rfl,rfl⟩;go_wp2_with fail
     go_round
     case rel=>exact⟨j+1,by omega,by rw[HE.out],by go_num,by rw[←HE.out];omega⟩
     case measure=>simp[intOf];omega
   ·have e:j=12:=by omega
    subst e;have m1 : ¬(1+((12:Nat):Int))≤12:=by decide
    rw[HNX.out]at hr2 ⊢;have HR2:=qH hr2;clear hr2;generalize hyn:yearSum (k+1)=yn at*;go_wp2_with fail
    go_round
    case rel=>exact⟨k+1,by omega,by rw[hyn],by rw[←HYY.out];go_num,by rw[hyn];exact HR2.out⟩
    case measure=>have:=HYY.out;simp[intOf];omega
end
section
open Go.RowKit
theorem formatDateR_any(y m d:Int)(w:World)(hv:validB y m d=true)(hp:Pow10 w):Calls Tryz.prog 125 #[.agg #[.int .i64 y,.int .i64 m,.int .i64 d]] w (TxtB (fmtDate y m d) w):=by
 obtain⟨v1,v2,v3,v4⟩:=validB_iff.1 hv;have v5:=mDays_bd y m;have hb0:=(qC w.heap.size w).alloc (qD _) (.cells #[.int .i64 y,.int .i64 m,.int .i64 d] 145);have hr0:=qK w (.cells #[.int .i64 y,.int .i64 m,.int .i64 d] 145);have HB0:=qH hb0;have HR0:=qH hr0;have HPW:Hid (∀ V,Below w.heap.size w V→Pow10 V):=fun V hV=>hp.next hV
 have n1:((numS y).size:Int)=4:=by
  have e:=numS_four (n:=y.toNat) (by omega) (by omega);rw[show((y.toNat:Nat):Int)=y by omega]at e;rw[e,bs_size];rfl
 have n2:=numS_size (n:=m) (by omega) (by omega);have n3:=numS_size (n:=d) (by omega) (by omega);have HP1:Hid (∀ V,Below w.heap.size w V→Calls Tryz.prog 165 #[.int .i64 y,.int .i64 4] V (StrB (padB y 4) V)):=fun V hV=>twoR_any y 4 V (by omega) (by omega) (by omega) (by omega) (HPW.out V hV)
 have HP2:Hid (∀ V,Below w.heap.size w V→Calls Tryz.prog 165 #[.int .i64 m,.int .i64 2] V (StrB (padB m 2) V)):=fun V hV=>twoR_any m 2 V (by omega) (by omega) (by omega) (by omega) (HPW.out V hV)
 have HP3:Hid (∀ V,Below w.heap.size w V→Calls Tryz.prog 165 #[.int .i64 d,.int .i64 2] V (StrB (padB d 2) V)):=fun V hV=>twoR_any d 2 V (by omega) (by omega) (by omega) (by omega) (HPW.out V hV)
 have s1:=padB_size (n:=y) (d:=4) (by omega) (by omega);have s2:=padB_size (n:=m) (d:=2) (by omega) (by omega);have s3:=padB_size (n:=d) (d:=2) (by omega) (by omega);have HQ:Hid (fmtDate y m d=padB y 4++dashS++padB m 2++dashS++padB d 2):=rfl;rw[HQ.out];have HV:=qH hv;generalize padB y 4=P1 at*;generalize padB m 2=P2 at*;generalize padB d 2=P3 at*;obtain⟨X3,hX3⟩ : ∃ X,P1++dashS=X:=⟨_,rfl⟩
 obtain⟨X7,hX7⟩ : ∃ X,X3++P2=X:=⟨_,rfl⟩
 obtain⟨X8,hX8⟩ : ∃ X,X7++dashS=X:=⟨_,rfl⟩
 obtain⟨X12,hX12⟩ : ∃ X,X8++P3=X:=⟨_,rfl⟩
 have t3:X3.size≤30:=by rw[←hX3,qJ,show dashS.size=1 from rfl];omega
 have t7:X7.size≤60:=by rw[←hX7,qJ];omega
 have t8:X8.size≤61:=by rw[←hX8,qJ,show dashS.size=1 from rfl];omega
 rw[hX3,hX7,hX8,hX12];have HX3:=qH hX3;have HX7:=qH hX7;have HX8:=qH hX8;have HX12:=qH hX12;have q1 : ¬9223372036854775807<P1.size+1:=by omega
 have q2 : ¬9223372036854775807<X3.size+P2.size:=by omega
 have q3 : ¬9223372036854775807<X7.size+1:=by omega
 have q4 : ¬9223372036854775807<X8.size+P3.size:=by omega
 clear hb0 hr0 hX3 hX7 hX8 hX12 hv HQ v1 v2 v3 v4 v5 n1 n2 n3
 go_enter Tryz.func125,Tryz.ntmps125
 go_wp2_with fail
 generalize w.alloc (.cells #[.int .i64 y,.int .i64 m,.int .i64 d] 145)=W at*;refine(isDateR_any y m d W).mono ?_;rw[HV.out];rintro e w1 ⟨rfl,hb1⟩;have hWp:Below w.heap.size w w1:=HB0.out.trans (hb1.mono HB0.out.size);have hr1:=(hb1.block w.heap.size (Array.getElem?_eq_some_iff.1 HR0.out).1).trans HR0.out;obtain⟨B,hB⟩ : ∃ B,w.heap.size=B:=⟨_,rfl⟩
 rw[hB]at hr1;have z0:=block_cell hr1 0;have z1:=block_cell hr1 1;have z2:=block_cell hr1 2;rw[hB];clear hr1 hb1 hB;go_upto_region 3 with (fail)
 refine wp_region_facts 13 [7,8,9,10,11,12,13,14,15,16,17,18,19] (fun i v _=>([(.pointer (some ⟨B,0,none⟩):Value),(.int .i64 y:Value),(.string P1:Value),(.string X3:Value),(.pointer (some ⟨B,1,none⟩):Value),(.int .i64 m:Value),(.string P2:Value),(.string X7:Value),(.string X8:Value),(.pointer (some ⟨B,2,none⟩):Value),(.int .i64 d:Value),(.string P3:Value),(.string X12:Value)]:List Value)[i]? = some v) (by kernel_rfl) (by kernel_rfl) (by kernel_rfl) (by kernel_rfl) (by kernel_rfl) (fun _ _ _ _ h _=>h) ?_ ?_
 ·intro q o' hq ho a' w' hb' hout hpre K hK;have hq':q=0∨q=1∨q=2∨q=3∨q=4∨q=5∨q=6∨q=7∨q=8∨q=9∨q=10∨q=11∨q=12:=by omega
  rcases hq' with rfl|rfl|rfl|rfl|rfl|rfl|rfl|rfl|rfl|rfl|rfl|rfl|rfl
  ·obtain rfl:=qB ho;have e1:a'.tmps[1]? = some (.pointer (some ⟨B,0,none⟩)):=hout 1 (by decide);go_simp
   exact hK (.pointer (some ⟨B,0,none⟩)) w' rfl (qC _ _)
  ·obtain rfl:=qB ho;have p0:a'.tmps.getD 7 undef=.pointer (some ⟨B,0,none⟩):=(qB (hpre ⟨0,.data⟩ (by simp) 7 rfl)).symm;simp only[qA]at p0;have c0:=cell_kept z0 hb';go_simp
   exact hK (.int .i64 y) w' rfl (qC _ _)
  ·obtain rfl:=qB ho;have p1:a'.tmps.getD 8 undef=.int .i64 y:=(qB (hpre ⟨1,.data⟩ (by simp) 8 rfl)).symm;simp only[qA]at p1;go_simp
   go_at_call 165
   refine(HP1.out w' (hWp.trans (hb'.mono hWp.size))).mono ?_;rintro e w'' ⟨rfl,hb''⟩;exact hK _ _ rfl hb''
  ·obtain rfl:=qB ho;have p2:a'.tmps.getD 9 undef=.string P1:=(qB (hpre ⟨2,.data⟩ (by simp) 9 rfl)).symm;simp only[qA]at p2;go_simp
   exact hK _ _ (congrArg (fun x=>some (Value.string x)) HX3.out.symm) (qC _ _)
  ·obtain rfl:=qB ho;have e1:a'.tmps[1]? = some (.pointer (some ⟨B,0,none⟩)):=hout 1 (by decide);go_simp
   exact hK (.pointer (some ⟨B,1,none⟩)) w' rfl (qC _ _)
  ·obtain rfl:=qB ho;have p4:a'.tmps.getD 11 undef=.pointer (some ⟨B,1,none⟩):=(qB (hpre ⟨4,.data⟩ (by simp) 11 rfl)).symm;simp only[qA]at p4;have c1:=cell_kept z1 hb';go_simp
   exact hK (.int .i64 m) w' rfl (qC _ _)
  ·obtain rfl:=qB ho;have p5:a'.tmps.getD 12 undef=.int .i64 m:=(qB (hpre ⟨5,.data⟩ (by simp) 12 rfl)).symm;simp only[qA]at p5;go_simp
   go_at_call 165
   refine(HP2.out w' (hWp.trans (hb'.mono hWp.size))).mono ?_;rintro e w'' ⟨rfl,hb''⟩;exact hK _ _ rfl hb''
  ·obtain rfl:=qB ho;have p3:a'.tmps.getD 10 undef=.string X3:=(qB (hpre ⟨3,.data⟩ (by simp) 10 rfl)).symm;simp only[qA]at p3;have p6:a'.tmps.getD 13 undef=.string P2:=(qB (hpre ⟨6,.data⟩ (by simp) 13 rfl)).symm;simp only[qA]at p6;go_simp
   exact hK _ _ (congrArg (fun x=>some (Value.string x)) HX7.out.symm) (qC _ _)
  ·obtain rfl:=qB ho;have p7:a'.tmps.getD 14 undef=.string X7:=(qB (hpre ⟨7,.data⟩ (by simp) 14 rfl)).symm;simp only[qA]at p7;go_simp
   exact hK _ _ (congrArg (fun x=>some (Value.string x)) HX8.out.symm) (qC _ _)
  ·obtain rfl:=qB ho;have e1:a'.tmps[1]? = some (.pointer (some ⟨B,0,none⟩)):=hout 1 (by decide);go_simp
   exact hK (.pointer (some ⟨B,2,none⟩)) w' rfl (qC _ _)
  ·obtain rfl:=qB ho;have p9:a'.tmps.getD 16 undef=.pointer (some ⟨B,2,none⟩):=(qB (hpre ⟨9,.data⟩ (by simp) 16 rfl)).symm;simp only[qA]at p9;have c2:=cell_kept z2 hb';go_simp
   exact hK (.int .i64 d) w' rfl (qC _ _)
  ·obtain rfl:=qB ho;have p10:a'.tmps.getD 17 undef=.int .i64 d:=(qB (hpre ⟨10,.data⟩ (by simp) 17 rfl)).symm;simp only[qA]at p10;go_simp
   go_at_call 165
   refine(HP3.out w' (hWp.trans (hb'.mono hWp.size))).mono ?_;rintro e w'' ⟨rfl,hb''⟩;exact hK _ _ rfl hb''
  ·obtain rfl:=qB ho;have p8:a'.tmps.getD 15 undef=.string X8:=(qB (hpre ⟨8,.data⟩ (by simp) 15 rfl)).symm;simp only[qA]at p8;have p11:a'.tmps.getD 18 undef=.string P3:=(qB (hpre ⟨11,.data⟩ (by simp) 18 rfl)).symm;simp only[qA]at p11;go_simp
   exact hK _ _ (congrArg (fun x=>some (Value.string x)) HX12.out.symm) (qC _ _)
 ·intro us w' hb' hfacts;have h12:us 12=.string X12:=(qB (hfacts 12 (by decide))).symm;have hfin:Below w.heap.size w w':=hWp.trans (hb'.mono hWp.size);simp only[putL,Act.put,List.setIfInBounds_toArray,List.set_cons_zero,List.set_cons_succ];generalize us 12=x12 at*;subst h12;simp only[List.drop_succ_cons,List.drop_zero];clear hb' hfacts;go_wp2_with fail
  go_ret2
  exact⟨rfl,hfin⟩
theorem formatClockR_any(c:Int)(w:World)(h0:0≤c)(h1:c<1440)(hp:Pow10 w):Calls Tryz.prog 126 #[.int .i64 c] w (TxtB (fmtClock c) w):=by
 have HPW:Hid (∀ V,Below w.heap.size w V→Pow10 V):=fun V hV=>hp.next hV
 have n2:=numS_size (n:=c/60) (by omega) (by omega);have n3:=numS_size (n:=c%60) (by omega) (by omega);have HP2:Hid (∀ V,Below w.heap.size w V→Calls Tryz.prog 165 #[.int .i64 (c/60),.int .i64 2] V (StrB (padB (c/60) 2) V)):=fun V hV=>twoR_any (c/60) 2 V (by omega) (by omega) (by omega) (by omega) (HPW.out V hV)
 have HP3:Hid (∀ V,Below w.heap.size w V→Calls Tryz.prog 165 #[.int .i64 (c%60),.int .i64 2] V (StrB (padB (c%60) 2) V)):=fun V hV=>twoR_any (c%60) 2 V (by omega) (by omega) (by omega) (by omega) (HPW.out V hV)
 have s2:=padB_size (n:=c/60) (d:=2) (by omega) (by omega);have s3:=padB_size (n:=c%60) (d:=2) (by omega) (by omega);have HQ:Hid (fmtClock c=padB (c/60) 2++colS++padB (c%60) 2):=rfl;rw[HQ.out];generalize padB (c/60) 2=P2 at*;generalize padB (c%60) 2=P3 at*;have u1:c.tdiv 60=c/60:=Int.tdiv_eq_ediv_of_nonneg h0;have u2:c.tmod 60=c%60:=qQ h0;have u3:IntKind.i64.wrap (c/60)=c/60:=qM _ (by omega);have u4:IntKind.i64.wrap (c%60)=c%60:=qM _ (by omega);have u5 : ¬c<0:=by omega
 have u6 : ¬(1440:Int)≤c:=by omega
 have u7 : ¬(1439:Int)<c:=by omega
 have q1 : ¬9223372036854775807<P2.size+1:=by omega
 have q2 : ¬9223372036854775807<P2.size+1+P3.size:=by omega
 have q3 : ¬9223372036854775807<(P2++(⟨#[58]⟩:ByteArray)).size+P3.size:=by rw[qJ,show(⟨#[58]⟩:ByteArray).size=1 from rfl];omega
 go_enter Tryz.func126,Tryz.ntmps126
 go_wp2_with fail
 refine(HP2.out w (qC _ _)).mono ?_;rintro e w1 ⟨rfl,hb1⟩;go_wp2_with fail
 refine(HP3.out w1 hb1).mono ?_;rintro e w2 ⟨rfl,hb2⟩;have hfin:Below w.heap.size w w2:=hb1.trans (hb2.mono hb1.size);go_wp2_with fail
 go_ret2
 exact⟨rfl,hfin⟩
theorem formatInstantR_any(t:Int)(w:World)(h0:0≤t)(h1:t<52596000)(hp:Pow10 w):Calls Tryz.prog 94 #[.int .i64 t] w (InsPost t w):=by
 have HPW:Hid (∀ V,Below w.heap.size w V→Pow10 V):=fun V hV=>hp.next hV
 have u5 : ¬t<0:=by omega
 have u6 : ¬(52596000:Int)≤t:=by omega
 have HSP:=qH (splitMinuteR_any t w h0 h1);have HDO:=qH (dateOfR_any (t/1440) w (by omega) (by omega));have HCL:Hid (∀ V,Below w.heap.size w V→Calls Tryz.prog 126 #[.int .i64 (t%1440)] V (TxtB (fmtClock (t%1440)) V)):=fun V hV=>formatClockR_any (t%1440) V (by omega) (by omega) (HPW.out V hV)
 have hcs:=fmtClock_size (c:=t%1440) (by omega) (by omega);have HIS:Hid (∀ y m d,validB y m d=true→dayB y m d=t/1440→IsIns t (fmtDate y m d++blankS++fmtClock (t%1440))):=fun y m d a b=>⟨y,m,d,a,b,rfl⟩
 generalize fmtClock (t%1440)=C at*
 go_enter Tryz.func94,Tryz.ntmps94
 go_wp2_with fail
 refine HSP.out.mono ?_;rintro e w' ⟨rfl,rfl⟩;go_wp2_with fail
 refine HDO.out.mono ?_;rintro e w1 ⟨y,m,d,rfl,hv,hd,hb1⟩;have HI:=qH (HIS.out y m d hv hd);have hds:=fmtDate_size hv;have hb2:Below w.heap.size w (w1.alloc (.cells #[.int .i64 y,.int .i64 m,.int .i64 d] 145)):=hb1.alloc hb1.size _;have hr2:=qK w1 (.cells #[.int .i64 y,.int .i64 m,.int .i64 d] 145);have HFD:=qH (formatDateR_any y m d (w1.alloc (.cells #[.int .i64 y,.int .i64 m,.int .i64 d] 145)) hv (HPW.out _ hb2));have HB2:=qH hb2;generalize fmtDate y m d=D at*;have q1 : ¬9223372036854775807<D.size+1:=by omega
 have q2 : ¬9223372036854775807<D.size+1+C.size:=by omega
 have q3 : ¬9223372036854775807<(D++(⟨#[32]⟩:ByteArray)).size+C.size:=by rw[qJ,show(⟨#[32]⟩:ByteArray).size=1 from rfl];omega
 have z0:=block_cell hr2 0;have z1:=block_cell hr2 1;have z2:=block_cell hr2 2;clear hb1 hv hd hb2 hr2 HIS HSP HDO;go_wp2_with fail
 refine HFD.out.mono ?_;rintro e w2 ⟨rfl,hb3⟩;have hb4:Below w.heap.size w w2:=HB2.out.trans (hb3.mono HB2.out.size);clear HFD hb3 z0 z1 z2;go_wp2_with fail
 refine(HCL.out w2 hb4).mono ?_;rintro e w3 ⟨rfl,hb5⟩;have HB6:Hid (Below w.heap.size w w3):=hb4.trans (hb5.mono hb4.size);clear hb4 hb5;go_wp2_with fail
 go_ret2
 exact⟨_,rfl,HI.out,HB6.out⟩
end
section
open Go.RowKit
theorem hasI_hit{l:List GPerson}{i k:Nat}{s:Int}(hk:k<i)(hl:k<l.length)(h:(l.getD k noPerson).sen=s):hasI (sens (l.take i)) s=true:=by
 unfold hasI sens;rw[List.any_eq_true];refine⟨s, ?_,by simp⟩;rw[List.mem_map];refine⟨l.getD k noPerson, ?_,h⟩;rw[qF,qG hl];exact List.mem_take_iff_getElem.2 ⟨k,by omega,rfl⟩
theorem hasI_next{l:List GPerson}{k:Nat}{s:Int}(hl:k<l.length)(h0:hasI (sens (l.take k)) s=false)(h : ¬(l.getD k noPerson).sen=s):hasI (sens (l.take (k+1))) s=false:=by
 rw[take_getD hl noPerson];unfold sens;rw[List.map_append];show hasI (sens (l.take k)++[(l.getD k noPerson).sen]) s=false;rw[hasI_snoc,h0,decide_eq_false (fun e=>h e.symm)];rfl
theorem personR_any(t:GTT)(l:List GPerson)(i:Nat)(A1 A2 A3 A4:Option Addr)(n1 n2 n3 n4 c1 c2 c3 c4:Nat)(w:World)(hl : ∀ p∈l,p.ok)(hs2:Sl Ty.airport w (all_ w) A2 n2 c2 t.airports)(hs4:Sl Ty.person w (all_ w) A4 n4 c4 l)(hi:i<n4) :
 Calls Tryz.prog 73 #[.agg #[.slice A1 n1 c1,.slice A2 n2 c2,.slice A3 n3 c3],.slice A4 n4 c4,.int .i64 i] w (ErrPost (pErr (aCodes t.airports) l i) w):=by
 have l4:n4≤l.length:=Nat.le_of_eq hs4.len;have l4':l.length≤n4:=Nat.le_of_eq hs4.len.symm;have m4:=hs4.le;unfold maxLen at m4;obtain⟨b,o,B1,k1,d1,B2,k2,d2,rfl,hbS,hat,hsT,hsV⟩:=hs4.person_at (k:=i) (by omega);have hpok:=hl _ (getD_in (show i<l.length by omega) noPerson);have HERR:=qH (pErr_at (aCodes t.airports) l i);have hbl:b<w.heap.size:=hbS;have hbne:b≠w.heap.size:=by omega
 have hprev : ∀ k,k<n4 → ∀ j u,([.int .i64 (l.getD k noPerson).id,.string (l.getD k noPerson).name,.string (l.getD k noPerson).base,.int .i64 (l.getD k noPerson).rank,.int .i64 (l.getD k noPerson).sen]:List Value)[j]? = some u→w.cell? ⟨b,o+k*7+j,none⟩=some u:=fun k hk j u hu=>by
  obtain⟨b',o',_,_,_,_,_,_,e',_,hat',_,_⟩:=hs4.person_at (k:=k) (by omega);simp only[Option.some.injEq,Addr.mk.injEq,and_true]at e';obtain⟨rfl,rfl⟩:=e';refine hat' j u ?_;rcases j with _|_|_|_|_|j
  all_goals first|exact hu|(simp at hu)
 generalize hz:l.getD i noPerson=p at*;have y0:w.cell? ⟨b,o+i*7,none⟩=some (.int .i64 p.id):=hat 0 _ rfl;have y1:=hat 1 _ rfl;have y2:=hat 2 _ rfl;have y3:=hat 3 _ rfl;have y4:=hat 4 _ rfl;have y5:=hat 5 _ rfl;have y6:=hat 6 _ rfl;have hW1:((w.alloc (.cells #[.slice A1 n1 c1,.slice A2 n2 c2,.slice A3 n3 c3] 27)).alloc (.cells #[.int .i64 p.id,.string p.name,.string p.base,.int .i64 p.rank,.int .i64 p.sen,.slice B1 k1 d1,.slice B2 k2 d2] 75)).heap[w.heap.size]? = some (.cells #[.slice A1 n1 c1,.slice A2 n2 c2,.slice A3 n3 c3] 27):=heap_alloc2_old _ _ _;have hW2:((w.alloc (.cells #[.slice A1 n1 c1,.slice A2 n2 c2,.slice A3 n3 c3] 27)).alloc (.cells #[.int .i64 p.id,.string p.name,.string p.base,.int .i64 p.rank,.int .i64 p.sen,.slice B1 k1 d1,.slice B2 k2 d2] 75)).heap[w.heap.size+1]? = some (.cells #[.int .i64 p.id,.string p.name,.string p.base,.int .i64 p.rank,.int .i64 p.sen,.slice B1 k1 d1,.slice B2 k2 d2] 75):=heap_alloc2_new _ _ _;have hWb:Below w.heap.size w ((w.alloc (.cells #[.slice A1 n1 c1,.slice A2 n2 c2,.slice A3 n3 c3] 27)).alloc (.cells #[.int .i64 p.id,.string p.name,.string p.base,.int .i64 p.rank,.int .i64 p.sen,.slice B1 k1 d1,.slice B2 k2 d2] 75)):=((qC _ _).alloc (qD _) _).alloc (by simp) _;have hWs:((w.alloc (.cells #[.slice A1 n1 c1,.slice A2 n2 c2,.slice A3 n3 c3] 27)).alloc (.cells #[.int .i64 p.id,.string p.name,.string p.base,.int .i64 p.rank,.int .i64 p.sen,.slice B1 k1 d1,.slice B2 k2 d2] 75)).heap.size=w.heap.size+2:=by simp
 have HW1:=qH hW1;have HW2:=qH hW2;have HWB:=qH hWb;have HWS:=qH hWs;have HP:=qH hprev;have HPOK:=qH hpok;have HS2:=qH hs2;have HT:=qH hsT;have HV:=qH hsV;have HZ:=qH hz;clear hl hs2 hs4 hat hsT hsV hpok hprev hbS hz hW1 hW2 hWb hWs
 go_enter Tryz.func73,Tryz.ntmps73
 go_upto_region 2 with (fail)
 clear y0 y1 y2 y3 y4 y5 y6 hbne;generalize ((w.alloc (.cells #[.slice A1 n1 c1,.slice A2 n2 c2,.slice A3 n3 c3] 27)).alloc (.cells #[.int .i64 p.id,.string p.name,.string p.base,.int .i64 p.rank,.int .i64 p.sen,.slice B1 k1 d1,.slice B2 k2 d2] 75))=W at*;have HK:Hid (∀ V,Below (w.heap.size+2) W V→(∀ j u,(#[.int .i64 p.id,.string p.name,.string p.base,.int .i64 p.rank,.int .i64 p.sen,.slice B1 k1 d1,.slice B2 k2 d2]:Array Value)[j]? = some u→V.cell? ⟨w.heap.size+1,j,none⟩=some u)∧V.cell? ⟨w.heap.size,1,none⟩=some (.slice A2 n2 c2)∧Below w.heap.size w V∧w.heap.size+2≤V.heap.size):=fun V hV=>by
  have h0:=HWS.out;have hs:=hV.size;refine⟨fun j u hu =>?_, ?_,HWB.out.trans (hV.mono (by omega)),by omega⟩
  ·rw[hV.cell (by simp),block_cell HW2.out];exact hu
  ·rw[hV.cell (by simp),block_cell HW1.out];rfl
 have hW0:Below (w.heap.size+2) W W:=qC _ _;have z0:W.cell? ⟨w.heap.size+1,0,none⟩=some (.int .i64 p.id):=(HK.out W hW0).1 0 _ rfl;have hbW:=(HK.out W hW0).2.2.1;clear HW1 HW2 HWB
 by_cases ha:idOk p.id=true
 case neg =>
  have ha':idOk p.id=false:=by simpa using ha
  have HF:Hid (pErr (aCodes t.airports) l i=5):=by show _=_;rw[HERR.out,qR ha']
  have h3:=idOk_false ha';clear ha ha';rcases h3 with h|⟨h,h'⟩
  all_goals
   go_wp2_with fail
   go_ret
   exact⟨by rw[HF.out];rfl,hbW⟩
 obtain⟨ha1,ha2⟩:=idOk_true ha;go_upto_region 4 with (fail)
 generalize hpid:(l.getD (i-1) noPerson).id=pid at*;generalize hB:decide (0<i∧p.id≤pid)=B at*;have HB:=qH hB;have hp0:0<i→W.cell? ⟨b,o+(i-1)*7,none⟩=some (.int .i64 pid):=fun h0=>by
  rw[hbW.cell (by simp;omega)];have:=HP.out (i-1) (by omega) 0 _ rfl;rw[hpid]at this;exact this
 clear hB hpid;go_cut [36] (fun c wx=>c=.bool B∧Below (w.heap.size+2) W wx)
 case first =>
  rcases Nat.eq_zero_or_pos i with rfl|h0
  ·have e:B=false:=by rw[←HB.out];simp
   subst e;clear hp0;go_quiet (fail)
   go_wp2_with fail
   go_meet
   exact⟨rfl,below_drewN hW0 _⟩
  ·have hq:=hp0 h0;clear hp0;have wr1:IntKind.i64.wrap ((i:Int)-1)=(i:Int)-1:=qM _ (by omega);have wr2:0≤(i:Int)-1:=by omega
   have wr3:(i:Int)-1<(n4:Int):=by omega
   have wr4:((i:Int)-1).toNat=i-1:=by omega
   by_cases hle:p.id≤pid
   ·have e:B=true:=by rw[←HB.out];simp[h0,hle]
    subst e;go_quiet (fail)
    go_wp2_with fail
    go_meet
    exact⟨rfl,below_drewN hW0 _⟩
   ·have e:B=false:=by rw[←HB.out];simp[hle]
    subst e;go_quiet (fail)
    go_wp2_with fail
    go_meet
    exact⟨rfl,below_drewN hW0 _⟩
 case rest =>
  obtain⟨rfl,hWX⟩:=hcut;clear hp0;obtain⟨hcX,x1,hbX,hszX⟩:=HK.out wc hWX
  cases B with
  | true =>
   have ho:=of_decide_eq_true HB.out;have HF:Hid (pErr (aCodes t.airports) l i=8):=by show _=_;rw[HERR.out,qN (by rw[ha];decide),qR ho]
   clear hcX ho;go_wp2_with fail
   go_ret
   exact⟨by rw[HF.out];rfl,hbX⟩
  | false =>
   have HO:Hid (¬(0<i∧p.id≤pid)):=of_decide_eq_false HB.out;clear hW0 z0 hbW ha1 ha2;have z1:=hcX 1 _ rfl;have z2:=hcX 2 _ rfl;have z3:=hcX 3 _ rfl;have z4:=hcX 4 _ rfl;have z5:=hcX 5 _ rfl;have z6:=hcX 6 _ rfl;clear hcX;go_wp2_with fail
   refine(isNameR_any p.name _ HPOK.out.2.1).mono ?_;rintro e w' ⟨rfl,rfl⟩
   by_cases hn:isNameB p.name=true
   case neg =>
    have hn':isNameB p.name=false:=by simpa using hn
    have HF:Hid (pErr (aCodes t.airports) l i=1):=by show _=_;rw[HERR.out,qN (by rw[ha];decide),qN HO.out,qR hn']
    rw[hn'];clear hn;go_wp2_with fail
    go_ret
    exact⟨by rw[HF.out];rfl,hbX⟩
   rw[hn];go_wp2_with fail
   refine(airportIndex_any t.airports p.base _ _ _ _ _ (HS2.out.keep (all_keep hbX))).mono ?_;rintro e w' ⟨rfl,rfl⟩
   by_cases hbs:hasB (aCodes t.airports) p.base=true
   case neg =>
    have hbs':hasB (aCodes t.airports) p.base=false:=by simpa using hbs
    have HF:Hid (pErr (aCodes t.airports) l i=6):=by show _=_;rw[HERR.out,qN (by rw[ha];decide),qN HO.out,qN (by rw[hn];decide),qR hbs']
    rw[idxOf_none hbs'];clear hbs hbs';go_wp2_with fail
    go_ret
    exact⟨by rw[HF.out];rfl,hbX⟩
   have hge3:0≤idxOf (aCodes t.airports) p.base:=by
    have:=idxOf_neg (aCodes t.airports) p.base;rw[hbs]at this;simpa using this
   generalize idxOf (aCodes t.airports) p.base=ix at*
   by_cases hrk:rankOk p.rank=false∨idOk p.sen=false
   case pos =>
    have HF:Hid (pErr (aCodes t.airports) l i=5):=by show _=_;rw[HERR.out,qN (by rw[ha];decide),qN HO.out,qN (by rw[hn];decide),qN (by rw[hbs];decide),qR hrk]
    have h3:=rs_false hrk;clear hrk hbs;rcases h3 with h|⟨h,h1⟩|⟨h,h1,h2⟩|⟨h,h1,h2,h3⟩
    all_goals
     go_wp2_with fail
     go_ret
     exact⟨by rw[HF.out];rfl,hbX⟩
   obtain⟨q1,q2,q3,q4⟩:=rs_true hrk;have HRK:=qH hrk;clear hrk;go_wp2_with fail
   clear q1 q2 q3 q4 hge3 z1 z2 z3 z5 z6 z4 x1;have hk0:Hid (Below (w.heap.size+2) W wc):=hWX;clear hWX hszX;go_loopw [6,8] (fun _ r wr => ∃ k:Nat,k≤i∧r=.int .i64 k∧Below (w.heap.size+2) W wr∧Hid (hasI (sens (l.take k)) p.sen=false)) (fun _ r _=>i-(intOf r).toNat)
   case atStart=>exact⟨0,qV _,rfl,hk0.out,rfl⟩
   case round =>
    obtain⟨k,hk,rfl,hbr,HS⟩:=hrel;clear hk0 hbX;obtain⟨hcR,x1,hbR,hszR⟩:=HK.out wr hbr
    by_cases hlt:k<i
    ·have y4:wr.cell? ⟨b,o+k*7+4,none⟩=some (.int .i64 (l.getD k noPerson).sen):=by
      rw[hbR.cell (by simp;omega)];exact HP.out k (by omega) 4 _ rfl
     have z4:=hcR 4 _ rfl;have HD:=qH (show ∀ m,Below (w.heap.size+2) W (wr.drewN m) from fun m=>below_drewN hbr m);have HD2:=qH (show ∀ m,Below w.heap.size w (wr.drewN m) from fun m=>below_drewN hbR m);have HH:Hid ((l.getD k noPerson).sen=p.sen→hasI (sens (l.take i)) p.sen=true):=fun h=>hasI_hit hlt (by omega) h
     have HN:Hid (¬(l.getD k noPerson).sen=p.sen→hasI (sens (l.take (k+1))) p.sen=false):=fun h=>hasI_next (by omega) HS.out h
     generalize (l.getD k noPerson).sen=ks at*;have t1:(0:Int)≤(k:Int):=by omega
     have t2:(k:Int)<(n4:Int):=by omega
     clear hcR x1 hbr hbR;go_wp2_with fail
     go_quiet (fail)
     by_cases hq:ks=p.sen
     ·have hqb:(ks==p.sen)=true:=by simpa using hq
      have HF:Hid (pErr (aCodes t.airports) l i=7):=by show _=_;rw[HERR.out,qN (by rw[ha];decide),qN HO.out,qN (by rw[hn];decide),qN (by rw[hbs];decide),qN HRK.out,qR (HH.out hq)]
      clear hq;go_wp2_with fail
      go_ret
      exact⟨by rw[HF.out];rfl,HD2.out _⟩
     ·have hqb:(ks==p.sen)=false:=by simpa using hq
      have HS2:=qH (HN.out hq);clear hq;go_wp2_with fail
      go_roundw
      case rel=>exact⟨k+1,by omega,by go_num,HD.out _,HS2⟩
      case measure=>simp[intOf];omega
    ·have hki:k=i:=by omega
     subst hki;have hdup:hasI (sens (l.take k)) p.sen=false:=HS.out;have z5:=hcR 5 _ rfl;have z6:=hcR 6 _ rfl;have lt1:k1≤p.types.length:=Nat.le_of_eq HT.out.len;have lt1':p.types.length≤k1:=Nat.le_of_eq HT.out.len.symm;have lt2:k2≤p.vacs.length:=Nat.le_of_eq HV.out.len;have lt2':p.vacs.length≤k2:=Nat.le_of_eq HV.out.len.symm;clear hcR x1 hlt hk
     by_cases hlg:8<p.types.length∨8<p.vacs.length
     case pos =>
      have HF:Hid (pErr (aCodes t.airports) l k=10):=by show _=_;rw[HERR.out,qN (by rw[ha];decide),qN HO.out,qN (by rw[hn];decide),qN (by rw[hbs];decide),qN HRK.out,qN (by rw[hdup];decide),qR hlg]
      have h3:8<k1∨(k1≤8∧8<k2):=by omega
      clear hlg lt1 lt1' lt2 lt2' hdup;rcases h3 with h|⟨h,h'⟩
      all_goals
       go_wp2_with fail
       go_ret
       exact⟨by rw[HF.out];rfl,hbR⟩
     have h81:k1≤8:=by omega
     have h82:k2≤8:=by omega
     have HPE:Hid (pErr (aCodes t.airports) l k=if firstErr (typeErr p.types) p.types.length≠0 then firstErr (typeErr p.types) p.types.length else firstErr (vacErr p.vacs) p.vacs.length):=by
      show _=_;rw[HERR.out,qN (by rw[ha];decide),qN HO.out,qN (by rw[hn];decide),qN (by rw[hbs];decide),qN HRK.out,qN (by rw[hdup];decide),qN hlg];rfl
     clear hlg hdup hbs hn ha;go_wp2_with fail
     have hk1:Hid (Below (w.heap.size+2) W wr):=hbr;clear hbr hbR z5 z6 hszR HERR HP HO HRK HB HS;generalize hwo:wr=wo at*;clear hwo;go_loopw [6,9] (fun _ r wr => ∃ q:Nat,q≤k1∧r=.int .i64 q∧Below (w.heap.size+2) W wr∧Hid (zeroTo (typeErr p.types) q)) (fun _ r _=>k1-(intOf r).toNat)
     case atStart=>exact⟨0,qV _,rfl,hk1.out,zeroTo_zero _⟩
     case round =>
      obtain⟨q,hq,rfl,hbr,HZ⟩:=hrel;clear hk1;obtain⟨hcR,x1,hbR,hszR⟩:=HK.out wr hbr;have z5:=hcR 5 _ rfl
      by_cases hlt:q<k1
      ·have hTR:=HT.out.keep (w':=wr) (all_keep hbR);obtain⟨bt,ot,rfl,hbS,hc⟩:=hTR.name_at (k:=q) (by omega);have hsz:=HPOK.out.2.2.2.2.2.1 _ (getD_in (show q<p.types.length by omega) noStr);have HTE:Hid (typeErr p.types q=if isNameB (p.types.getD q noStr)=false then 1 else if 0<q∧leB (p.types.getD q noStr) (p.types.getD (q-1) noStr)=true then 8 else 0):=rfl;have hpv:0<q→wr.cell? ⟨bt,ot+(q-1),none⟩=some (.string (p.types.getD (q-1) noStr)):=fun h0=>by
        obtain⟨b',o',e',_,hc'⟩:=hTR.name_at (k:=q-1) (by omega);simp only[Option.some.injEq,Addr.mk.injEq,and_true]at e';obtain⟨rfl,rfl⟩:=e';exact hc'
       generalize p.types.getD q noStr=s at*;generalize p.types.getD (q-1) noStr=sp at*;have HSZ:=qH hsz;have HD:=qH (show ∀ m,Below (w.heap.size+2) W (wr.drewN m) from fun m=>below_drewN hbr m);have HD2:=qH (show ∀ m,Below w.heap.size w (wr.drewN m) from fun m=>below_drewN hbR m);have HBR:=qH hbR;clear hTR hsz hcR x1 hbr hbR;go_wp2_with fail
       refine(isNameR_any s _ HSZ.out).mono ?_;rintro e w' ⟨rfl,rfl⟩
       by_cases hn:isNameB s=true
       case neg =>
        have hn':isNameB s=false:=by simpa using hn
        have HF:Hid (pErr (aCodes t.airports) l k=1):=by
         have h9:typeErr p.types q=1:=by rw[HTE.out,qR hn']
         have h8:firstErr (typeErr p.types) p.types.length=1:=by rw[firstErr_hit HZ.out (by rw[h9];decide) (by omega),h9]
         show _=_;rw[HPE.out,h8,qR (by decide)]
        rw[hn'];clear hn hn' hpv;go_wp2_with fail
        go_ret
        exact⟨by rw[HF.out];rfl,HBR.out⟩
       rw[hn];rcases Nat.eq_zero_or_pos q with rfl|hq0
       ·have HZ2:Hid (zeroTo (typeErr p.types) (0+1)):=zeroTo_succ HZ.out (by rw[HTE.out,qN (by rw[hn];decide),qN (fun h=>absurd h.1 (by omega))]);clear hpv hn;simp only[Nat.add_zero]at hc;go_wp2_with fail
        go_quiet (fail)
        go_wp2_with fail
        go_roundw
        case rel=>exact⟨0+1,by omega,rfl,HD.out _,HZ2⟩
        case measure=>simp[intOf];omega
       ·have hq':=hpv hq0;clear hpv;have wr1:IntKind.i64.wrap ((q:Int)-1)=(q:Int)-1:=qM _ (by omega);have wr2:0≤(q:Int)-1:=by omega
        have wr3:(q:Int)-1<(k1:Int):=by omega
        have wr4:((q:Int)-1).toNat=q-1:=by omega
        by_cases hle:leB s sp=true
        ·have HF:Hid (pErr (aCodes t.airports) l k=8):=by
          have h9:typeErr p.types q=8:=by rw[HTE.out,qN (by rw[hn];decide),qR ⟨hq0,hle⟩]
          have h8:firstErr (typeErr p.types) p.types.length=8:=by rw[firstErr_hit HZ.out (by rw[h9];decide) (by omega),h9]
          show _=_;rw[HPE.out,h8,qR (by decide)]
         rcases leB_true hle with h1|⟨h1,h2⟩
         all_goals
          clear hle hn;go_wp2_with fail
          go_quiet (fail)
          go_wp2_with fail
          go_ret
          exact⟨by rw[HF.out];rfl,HD2.out _⟩
        ·have hle':leB s sp=false:=by simpa using hle
         have HZ2:Hid (zeroTo (typeErr p.types) (q+1)):=zeroTo_succ HZ.out (by rw[HTE.out,qN (by rw[hn];decide),qN (fun h=>hle h.2)]);obtain⟨h1,h2⟩:=leB_false hle';clear hle hle' hn;go_wp2_with fail
         go_quiet (fail)
         go_wp2_with fail
         go_roundw
         case rel=>exact⟨q+1,by omega,by go_num,HD.out _,HZ2⟩
         case measure=>simp[intOf];omega
      ·have HT0:Hid (firstErr (typeErr p.types) p.types.length=0):=firstErr_none (by rw[show p.types.length=q by omega];exact HZ.out);clear HZ hcR x1;go_wp2_with fail
       have hk1:Hid (Below (w.heap.size+2) W wr):=hbr;clear hbr hbR z5 hszR hlt;generalize hwo:wr=wo2 at*;clear hwo;go_loopw [6,10,11] (fun _ r _ wr => ∃ q:Nat,q≤k2∧r=.int .i64 q∧Below (w.heap.size+2) W wr∧Hid (zeroTo (vacErr p.vacs) q)) (fun _ r _ _=>k2-(intOf r).toNat)
       case atStart=>exact⟨0,qV _,rfl,hk1.out,zeroTo_zero _⟩
       case round =>
        obtain⟨r,hr,rfl,hbr,HZ⟩:=hrel;clear hk1;obtain⟨hcR,x1,hbR,hszR⟩:=HK.out wr hbr;have z6:=hcR 6 _ rfl
        by_cases hlt:r<k2
        ·have hVR:=HV.out.keep (w':=wr) (all_keep hbR);obtain⟨bt,ot,rfl,hbS,hc0,hc1⟩:=hVR.shift_at (k:=r) (by omega);have hbl2:bt<wr.heap.size:=by unfold all_ at hbS;omega
         have hwl:w.heap.size+1<wr.heap.size:=by omega
         have hbne:bt≠wr.heap.size:=by omega
         have HVE:Hid (vacErr p.vacs r=if vacOk (p.vacs.getD r noShift)=false then 5 else if 0<r∧(p.vacs.getD r noShift).at_<(p.vacs.getD (r-1) noShift).off then 8 else 0):=rfl;have hpv:0<r→wr.cell? ⟨bt,ot+(r-1)*2+1,none⟩=some (.int .i64 (p.vacs.getD (r-1) noShift).off):=fun h0=>by
          obtain⟨b',o',e',_,_,hc'⟩:=hVR.shift_at (k:=r-1) (by omega);simp only[Option.some.injEq,Addr.mk.injEq,and_true]at e';obtain⟨rfl,rfl⟩:=e';exact hc'
         generalize p.vacs.getD r noShift=s at*;generalize p.vacs.getD (r-1) noShift=sp at*;have hbox0:(wr.alloc (.cells #[.int .i64 s.at_,.int .i64 s.off] 57)).cell? ⟨wr.heap.size,0,none⟩=some (.int .i64 s.at_):=by rw[World.cell?_alloc_at _ _ _ _ rfl];rfl
         have hbox1:(wr.alloc (.cells #[.int .i64 s.at_,.int .i64 s.off] 57)).cell? ⟨wr.heap.size,1,none⟩=some (.int .i64 s.off):=by rw[World.cell?_alloc_at _ _ _ _ rfl];rfl
         have HBA:Hid (∀ m,Below w.heap.size w ((wr.alloc (.cells #[.int .i64 s.at_,.int .i64 s.off] 57)).drewN m)):=fun m=>below_drewN (hbR.alloc (by omega) _) m
         have HBB:Hid (∀ m,Below (w.heap.size+2) W ((wr.alloc (.cells #[.int .i64 s.at_,.int .i64 s.off] 57)).drewN m)):=fun m=>below_drewN (hbr.alloc (by omega) _) m
         clear hVR hcR x1 hbr hbR
         by_cases hv:vacOk s=true
         case neg =>
          have hv':vacOk s=false:=by simpa using hv
          have HF:Hid (pErr (aCodes t.airports) l k=5):=by
           have h9:vacErr p.vacs r=5:=by rw[HVE.out,qR hv']
           have h8:firstErr (vacErr p.vacs) p.vacs.length=5:=by rw[firstErr_hit HZ.out (by rw[h9];decide) (by omega),h9]
           show _=_;rw[HPE.out,HT0.out,h8];rfl
          have h3:s.at_<0∨(¬s.at_<0∧s.off≤s.at_)∨(¬s.at_<0 ∧ ¬s.off≤s.at_∧52596000<s.off):=by
           unfold vacOk at hv';simp only[Bool.and_eq_false_iff,qU]at hv';omega
          clear hv hv' hpv;rcases h3 with h|⟨h,h'⟩|⟨h,h',h''⟩
          all_goals
           go_wp2_with fail
           go_ret
           exact⟨by rw[HF.out];rfl,HBA.out 0⟩
         have hv1:0≤s.at_∧s.at_<s.off∧s.off≤52596000:=by
          have hv2:=hv;unfold vacOk at hv2;simp only[qI,qL]at hv2;omega
         obtain⟨hv1,hv2,hv3⟩:=hv1;rcases Nat.eq_zero_or_pos r with rfl|hr0
         ·have HZ2:Hid (zeroTo (vacErr p.vacs) (0+1)):=zeroTo_succ HZ.out (by rw[HVE.out,qN (by rw[hv];decide),qN (fun h=>absurd h.1 (by omega))]);clear hpv hv;simp only[Nat.zero_mul,Nat.add_zero]at hc0 hc1;go_wp2_with fail
          go_quiet (fail)
          go_wp2_with fail
          go_roundw
          case rel=>exact⟨0+1,by omega,rfl,HBB.out _,HZ2⟩
          case measure=>simp[intOf];omega
         ·have hq':=hpv hr0;clear hpv;have wr1:IntKind.i64.wrap ((r:Int)-1)=(r:Int)-1:=qM _ (by omega);have wr2:0≤(r:Int)-1:=by omega
          have wr3:(r:Int)-1<(k2:Int):=by omega
          have wr4:((r:Int)-1).toNat=r-1:=by omega
          go_wp2_with fail
          go_quiet (fail)
          clear wr1 wr2 wr3 wr4
          by_cases hle:s.at_<sp.off
          ·have HF:Hid (pErr (aCodes t.airports) l k=8):=by
            have h9:vacErr p.vacs r=8:=by rw[HVE.out,qN (by rw[hv];decide),qR ⟨hr0,hle⟩]
            have h8:firstErr (vacErr p.vacs) p.vacs.length=8:=by rw[firstErr_hit HZ.out (by rw[h9];decide) (by omega),h9]
            show _=_;rw[HPE.out,HT0.out,h8];rfl
           go_wp2_with fail
           go_ret
           exact⟨by rw[HF.out];rfl,HBA.out _⟩
          ·have HZ2:Hid (zeroTo (vacErr p.vacs) (r+1)):=zeroTo_succ HZ.out (by rw[HVE.out,qN (by rw[hv];decide),qN (fun h=>hle h.2)]);go_wp2_with fail
           go_roundw
           case rel=>exact⟨r+1,by omega,by go_num,HBB.out _,HZ2⟩
           case measure=>simp[intOf];omega
        ·have HF:Hid (pErr (aCodes t.airports) l k=0):=by
          have h8:firstErr (vacErr p.vacs) p.vacs.length=0:=firstErr_none (by rw[show p.vacs.length=r by omega];exact HZ.out);show _=_;rw[HPE.out,HT0.out,h8];rfl
         clear hcR x1;go_wp2_with fail
         go_ret
         exact⟨by rw[HF.out];rfl,hbR⟩
end
section
open Go.RowKit
theorem validateCrewR_any(t:GTT)(l:List GPerson)(A1 A2 A3 A4:Option Addr)(n1 n2 n3 n4 c1 c2 c3 c4:Nat)(w:World)(ht:t.ok)(hl : ∀ p∈l,p.ok)(hs1:Sl Ty.zone w (all_ w) A1 n1 c1 t.zones)(hs2:Sl Ty.airport w (all_ w) A2 n2 c2 t.airports)(hs3:Sl Ty.flight w (all_ w) A3 n3 c3 t.flights)(hs4:Sl Ty.person w (all_ w) A4 n4 c4 l) :
 Calls Tryz.prog 40 #[.agg #[.slice A1 n1 c1,.slice A2 n2 c2,.slice A3 n3 c3],.slice A4 n4 c4] w (ErrPost (crewE t l) w):=by
 have l4:n4≤l.length:=Nat.le_of_eq hs4.len;have l4':l.length≤n4:=Nat.le_of_eq hs4.len.symm;have m4:=hs4.le;unfold maxLen at m4;have HS:Hid (∀ V,Below w.heap.size w V→Sl Ty.zone V (all_ V) A1 n1 c1 t.zones∧Sl Ty.airport V (all_ V) A2 n2 c2 t.airports∧Sl Ty.flight V (all_ V) A3 n3 c3 t.flights∧Sl Ty.person V (all_ V) A4 n4 c4 l):=fun V hV=>⟨hs1.next hV,hs2.next hV,hs3.next hV,hs4.next hV⟩
 have ha:=(qC w.heap.size w).alloc (qD _) (.cells #[.slice A1 n1 c1,.slice A2 n2 c2,.slice A3 n3 c3] 27);have hx0:=qK w (.cells #[.slice A1 n1 c1,.slice A2 n2 c2,.slice A3 n3 c3] 27);have hz0:(w.alloc (.cells #[.slice A1 n1 c1,.slice A2 n2 c2,.slice A3 n3 c3] 27)).heap.size=w.heap.size+1:=by simp
 have HA:=qH ha;have HX0:=qH hx0;have HZ0:=qH hz0;have HTO:=qH ht;have HLO:=qH hl;have HR:Hid (crewE t l=if ttE t≠0 then ttE t else if 64<l.length then 10 else firstErr (pErr (aCodes t.airports) l) l.length):=rfl;clear hs1 hs2 hs3 hs4 ha hx0 hz0 ht hl
 go_enter Tryz.func40,Tryz.ntmps40
 go_wp2_with fail
 generalize w.alloc (.cells #[.slice A1 n1 c1,.slice A2 n2 c2,.slice A3 n3 c3] 27)=W at*;refine(validateR_any t A1 A2 A3 n1 n2 n3 c1 c2 c3 W HTO.out (HS.out W HA.out).1 (HS.out W HA.out).2.1 (HS.out W HA.out).2.2.1).mono ?_;rintro e w1 ⟨rfl,hb1⟩;have hbw1:Below w.heap.size w w1:=HA.out.trans (hb1.mono HA.out.size)
 by_cases h0:ttE t=0
 case neg =>
  have hne:(ttE t != 0)=true:=by simpa using h0
  have HF:Hid (crewE t l=ttE t):=by show _=_;rw[HR.out,qR h0]
  clear h0;go_wp2_with fail
  go_ret
  exact⟨by rw[HF.out];rfl,hbw1⟩
 rw[h0]
 by_cases hbig:64<n4
 ·have HF:Hid (crewE t l=10):=by show _=_;rw[HR.out,qN (fun h=>h h0),qR (by omega)]
  go_wp2_with fail
  go_ret
  exact⟨by rw[HF.out];rfl,hbw1⟩
 have HRR:Hid (crewE t l=firstErr (pErr (aCodes t.airports) l) l.length):=by show _=_;rw[HR.out,qN (fun h=>h h0),qN (by omega)]
 have b4:n4≤64:=by omega
 have HX1:Hid (w1.heap[w.heap.size]? = some (.cells #[.slice A1 n1 c1,.slice A2 n2 c2,.slice A3 n3 c3] 27)):=(hb1.block _ (by have:=HZ0.out;omega)).trans HX0.out;have hz1:w.heap.size+1≤w1.heap.size:=by have:=hb1.size;have:=HZ0.out;omega
 have HB1:=qH hbw1;clear hb1 HX0 HZ0 HA h0 hbig HR hbw1;go_wp2_with fail
 go_loopw [4,6,7] (fun _ i _ wr => ∃ k:Nat,k≤n4∧i=.int .i64 k∧Below (w.heap.size+1) w1 wr∧Hid (zeroTo (pErr (aCodes t.airports) l) k)) (fun _ i _ _=>n4-(intOf i).toNat)
 case atStart=>exact⟨0,qV _,rfl,qC _ _,zeroTo_zero _⟩
 case round =>
  obtain⟨k,hk,rfl,hbr,HK⟩:=hrel;have hbw:Below w.heap.size w wr:=HB1.out.trans (hbr.mono (by omega));have hX:=(hbr.block w.heap.size (by omega)).trans HX1.out;have x0:wr.cell? ⟨w.heap.size,0,none⟩=some (.slice A1 n1 c1):=block_cell hX 0;have x1:wr.cell? ⟨w.heap.size,1,none⟩=some (.slice A2 n2 c2):=block_cell hX 1;have x2:wr.cell? ⟨w.heap.size,2,none⟩=some (.slice A3 n3 c3):=block_cell hX 2;have hwl:=hbr.size
  by_cases hlt:k<n4
  ·have HP:=qH (personR_any t l k A1 A2 A3 A4 n1 n2 n3 n4 c1 c2 c3 c4 wr HLO.out (HS.out wr hbw).2.1 (HS.out wr hbw).2.2.2 hlt);clear hX;go_wp2_with fail
   refine HP.out.mono ?_;rintro e w2 ⟨rfl,hb2⟩;have hb3:Below (w.heap.size+1) w1 w2:=hbr.trans (hb2.mono (by omega));have hb4:Below w.heap.size w w2:=hbw.trans (hb2.mono (by omega));clear x0 x1 x2 HP hb2
   by_cases he:pErr (aCodes t.airports) l k=0
   ·have HZ:Hid (zeroTo (pErr (aCodes t.airports) l) (k+1)):=zeroTo_succ HK.out he;rw[he];clear he;go_wp2_with fail
    go_roundw
    case rel=>exact⟨k+1,by omega,by go_num,hb3,HZ⟩
    case measure=>simp[intOf];omega
   ·have hne:(pErr (aCodes t.airports) l k != 0)=true:=by simpa using he
    have HF:Hid (crewE t l=pErr (aCodes t.airports) l k):=by
     show _=_;rw[HRR.out,firstErr_hit HK.out he (by omega)]
    clear he;go_wp2_with fail
    go_ret
    exact⟨by rw[HF.out];rfl,hb4⟩
  ·have HF:Hid (crewE t l=0):=by
    have h8:firstErr (pErr (aCodes t.airports) l) l.length=0:=firstErr_none (by rw[show l.length=k by omega];exact HK.out);show _=_;rw[HRR.out,h8]
   clear hX x0 x1 x2;go_wp2_with fail
   go_ret
   exact⟨by rw[HF.out];rfl,hbw⟩
end
end Go.Proofs.YtifconapjfdkcaaGreatDoor
