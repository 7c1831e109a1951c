/-
  Joined texts: CalRef; CalRef2; CalRef3; RegionD; RegionW. What each proves stands ahead of it, with its conditions.
-/
import Derived.Test.YtifconapjfdkcaaGreatDoorQAB
import Derived.Test.YtifconapjfdkcaaGreatDoorProg
import Derived.WalkKit
import Derived.WalkLawsBesides
import Derived.WalkSpells
import Derived.Lib.Hide
import Derived.Maps.AppendAt
import Derived.ProofKit
import Derived.Deep.Slices
import Derived.Test.YtifconapjfdkcaaGreatDoorQAA
import Derived.Lib.AppendStr
import Derived.Laws.Rows
import Derived.Laws.Tables
import Derived.Deep.RegionWith
import Derived.BigQuiet
import Derived.Deep.QuietTactic
import Derived.StillTail
import Derived.RegionTactic
import Derived.Deep.RegionLaw
import Derived.Deep.DeepCutAuto
import Derived.Test.YtifconapjfdkcaaGreatDoorDAA
import Derived.Test.YtifconapjfdkcaaGreatDoorDAB
import Derived.Test.YtifconapjfdkcaaGreatDoorDAC
import Derived.Test.YtifconapjfdkcaaGreatDoorDAD
import Derived.Test.YtifconapjfdkcaaGreatDoorDAE
import Derived.Test.YtifconapjfdkcaaGreatDoorDAF
import Derived.Test.YtifconapjfdkcaaGreatDoorDAG
import Derived.Test.YtifconapjfdkcaaGreatDoorDAH
import Derived.Test.YtifconapjfdkcaaGreatDoorDAI
import Derived.Test.YtifconapjfdkcaaGreatDoorDAJ
import Derived.Test.YtifconapjfdkcaaGreatDoorDAK
import Derived.Test.YtifconapjfdkcaaGreatDoorDAL
import Derived.Test.YtifconapjfdkcaaGreatDoorDAM
import Derived.Test.YtifconapjfdkcaaGreatDoorDAN
import Derived.Test.YtifconapjfdkcaaGreatDoorDAO
import Derived.Test.YtifconapjfdkcaaGreatDoorDAP
import Derived.Test.YtifconapjfdkcaaGreatDoorDAQ
import Derived.Test.YtifconapjfdkcaaGreatDoorDAR
import Derived.Test.YtifconapjfdkcaaGreatDoorDAS
import Derived.Test.YtifconapjfdkcaaGreatDoorDAT
import Derived.Test.YtifconapjfdkcaaGreatDoorDAU
import Derived.Test.YtifconapjfdkcaaGreatDoorDAV
import Derived.Test.YtifconapjfdkcaaGreatDoorDAW
import Derived.Test.YtifconapjfdkcaaGreatDoorDAX
import Derived.Test.YtifconapjfdkcaaGreatDoorDAY
import Derived.Test.YtifconapjfdkcaaGreatDoorDAZ
import Derived.Test.YtifconapjfdkcaaGreatDoorDBA
import Derived.Test.YtifconapjfdkcaaGreatDoorDBB
import Derived.Test.YtifconapjfdkcaaGreatDoorDBC
import Derived.Test.YtifconapjfdkcaaGreatDoorDBD
import Derived.Test.YtifconapjfdkcaaGreatDoorDBE
import Derived.Test.YtifconapjfdkcaaGreatDoorDBF
import Derived.Test.YtifconapjfdkcaaGreatDoorDBG
import Derived.Test.YtifconapjfdkcaaGreatDoorDBH
import Derived.Test.YtifconapjfdkcaaGreatDoorDBI
import Derived.Test.YtifconapjfdkcaaGreatDoorDBJ
set_option linter.unusedSimpArgs false
set_option linter.unusedVariables false
set_option maxRecDepth 100000
set_option maxHeartbeats 12800000
namespace Go.Proofs.YtifconapjfdkcaaGreatDoor
section
open Go.RowKit
theorem leapR_any(y:Int)(w:World)(h0:0≤y)(h1:y≤100000):Calls Tryz.prog 173 #[.int .i64 y] w fun e w'=>e=.returned (.bool (leapB y))∧w=w':=by
 have HL:Hid (leapB y=(decide (y%4=0)&&(decide (y%100≠0)||decide (y%400=0)))):=rfl
 by_cases a:y%4=0
 ·have a':(y%4==0)=true:=by simpa using a
  by_cases b:y%100=0
  ·have b':(y%100 != 0)=false:=by simpa using b
   by_cases c:y%400=0
   ·have c':(y%400==0)=true:=by simpa using c
    have HR:Hid (leapB y=true):=by show _=_;rw[HL.out];simp[a,b,c]
    clear a b c
    go_enter Tryz.func173,Tryz.ntmps173
    go_wp2_with fail
    go_ret
    exact⟨ret_bool HR.out.symm,rfl⟩
   ·have c':(y%400==0)=false:=by simpa using c
    have HR:Hid (leapB y=false):=by show _=_;rw[HL.out];simp[a,b,c]
    clear a b c
    go_enter Tryz.func173,Tryz.ntmps173
    go_wp2_with fail
    go_ret
    exact⟨ret_bool HR.out.symm,rfl⟩
  ·have b':(y%100 != 0)=true:=by simpa using b
   have HR:Hid (leapB y=true):=by show _=_;rw[HL.out];simp[a,b]
   clear a b
   go_enter Tryz.func173,Tryz.ntmps173
   go_wp2_with fail
   go_ret
   exact⟨ret_bool HR.out.symm,rfl⟩
 ·have a':(y%4==0)=false:=by simpa using a
  have c : ¬y%400=0:=by omega
  have c':(y%400==0)=false:=by simpa using c
  have HR:Hid (leapB y=false):=by show _=_;rw[HL.out];simp[a]
  clear a c
  go_enter Tryz.func173,Tryz.ntmps173
  go_wp2_with fail
  go_ret
  exact⟨ret_bool HR.out.symm,rfl⟩
def dimB(y m:Int):Int×Int:=if y<1999∨2100<y∨m<1∨12<m then (0,5) else (mDays y m,0)
theorem daysInMonthR_any(y m:Int)(w:World):Calls Tryz.prog 163 #[.int .i64 y,.int .i64 m] w fun e w'=>e=.returned (.tuple #[.int .i64 (dimB y m).1,.int .i64 (dimB y m).2])∧w=w':=by
 by_cases hb:y<1999∨2100<y∨m<1∨12<m
 ·have HR:Hid (dimB y m=(0,5)):=by show _=_;unfold dimB;rw[qR hb]
  have hc:y<1999∨(¬y<1999∧2100<y)∨(¬y<1999 ∧ ¬2100<y∧m<1)∨(¬y<1999 ∧ ¬2100<y ∧ ¬m<1∧12<m):=by omega
  clear hb;rcases hc with h|⟨h,h1⟩|⟨h,h1,h2⟩|⟨h,h1,h2,h3⟩
  all_goals
   go_enter Tryz.func163,Tryz.ntmps163
   go_wp2_with fail
   go_ret2
   exact⟨by rw[HR.out];rfl,rfl⟩
 have HR:Hid (dimB y m=(mDays y m,0)):=by show _=_;unfold dimB;rw[qN hb]
 have h1 : ¬y<1999:=by omega
 have h2 : ¬2100<y:=by omega
 have HC:=qH (leapR_any y w (by omega) (by omega));have hm:m=1∨m=2∨m=3∨m=4∨m=5∨m=6∨m=7∨m=8∨m=9∨m=10∨m=11∨m=12:=by omega
 have HM:Hid (mDays y m=if m=2∧leapB y=true then 29 else mTab.getD (m-1).toNat 0):=rfl;clear hb;rcases hm with rfl|rfl|rfl|rfl|rfl|rfl|rfl|rfl|rfl|rfl|rfl|rfl
 case inr.inl =>
  go_enter Tryz.func163,Tryz.ntmps163
  go_wp2_with fail
  refine HC.out.mono ?_;rintro e w' ⟨rfl,rfl⟩
  cases hl:leapB y
  ·have HR2:Hid (mDays y 2=28):=by show _=_;rw[HM.out,hl];rfl
   rw[HR2.out]at HR;go_wp2_with fail
   go_ret2
   exact⟨by rw[HR.out];rfl,rfl⟩
  ·have HR2:Hid (mDays y 2=29):=by show _=_;rw[HM.out,hl];rfl
   rw[HR2.out]at HR;go_wp2_with fail
   go_ret2
   exact⟨by rw[HR.out];rfl,rfl⟩
 all_goals
  rw[HM.out,qN (fun h=>absurd h.1 (by decide))]at HR
  go_enter Tryz.func163,Tryz.ntmps163
  go_wp2_with fail
  go_ret2
  exact⟨by rw[HR.out];rfl,rfl⟩
theorem isDateR_any(y m d:Int)(w:World):Calls Tryz.prog 164 #[.agg #[.int .i64 y,.int .i64 m,.int .i64 d]] w (BoolPostC (validB y m d) w):=by
 have hb0:=(qC w.heap.size w).alloc (qD _) (.cells #[.int .i64 y,.int .i64 m,.int .i64 d] 145);have hr0:=qK w (.cells #[.int .i64 y,.int .i64 m,.int .i64 d] 145);have HB:=qH hb0;have HC:=qH (daysInMonthR_any y m (w.alloc (.cells #[.int .i64 y,.int .i64 m,.int .i64 d] 145)));have x0:=block_cell hr0 0;have x1:=block_cell hr0 1;have x2:=block_cell hr0 2;have HV:Hid (validB y m d=true↔(1999≤y∧y≤2100)∧(1≤m∧m≤12)∧1≤d∧d≤mDays y m):=validB_iff;have HDM:Hid (dimB y m=if y<1999∨2100<y∨m<1∨12<m then (0,5) else (mDays y m,0)):=rfl;clear hb0 hr0
 go_enter Tryz.func164,Tryz.ntmps164
 go_wp2_with fail
 refine HC.out.mono ?_;rintro e w' ⟨rfl,rfl⟩;generalize w.alloc (.cells #[.int .i64 y,.int .i64 m,.int .i64 d] 145)=W at*;clear HC
 by_cases hb:y<1999∨2100<y∨m<1∨12<m
 ·rw[HDM.out,qR hb];have HR:Hid (validB y m d=false):=by
   show _=_
   cases hv:validB y m d
   ·rfl
   ·have:=HV.out.1 hv;omega
  clear hb;go_wp2_with fail
  go_ret
  exact⟨ret_bool HR.out.symm,HB.out⟩
 rw[HDM.out,qN hb];generalize mDays y m=md at*
 by_cases h1:1≤d
 ·by_cases h2:d≤md
  ·have HR:Hid (validB y m d=true):=HV.out.2 (by omega);clear hb;go_wp2_with fail
   go_ret
   exact⟨ret_bool HR.out.symm,HB.out⟩
  ·have HR:Hid (validB y m d=false):=by
    show _=_
    cases hv:validB y m d
    ·rfl
    ·have:=HV.out.1 hv;omega
   clear hb;go_wp2_with fail
   go_ret
   exact⟨ret_bool ((decide_eq_false (Int.not_le.2 h2)).trans HR.out.symm),HB.out⟩
 ·have HR:Hid (validB y m d=false):=by
   show _=_
   cases hv:validB y m d
   ·rfl
   ·have:=HV.out.1 hv;omega
  clear hb;go_wp2_with fail
  go_ret
  exact⟨ret_bool HR.out.symm,HB.out⟩
theorem yDays_leap(y:Int):yDays y=if leapB y=true then 366 else 365:=rfl
theorem dayNumberR_any(y m d:Int)(w:World)(hd : -1000000≤d∧d≤1000000):Calls Tryz.prog 137 #[.agg #[.int .i64 y,.int .i64 m,.int .i64 d]] w (NumPost (dayN y m d) w):=by
 have hb0:=(qC w.heap.size w).alloc (qD _) (.cells #[.int .i64 y,.int .i64 m,.int .i64 d] 145);have hr0:=qK w (.cells #[.int .i64 y,.int .i64 m,.int .i64 d] 145);have hz0:(w.alloc (.cells #[.int .i64 y,.int .i64 m,.int .i64 d] 145)).heap.size=w.heap.size+1:=by simp
 have HB0:=qH hb0;have HR0:=qH hr0;have HZ0:=qH hz0;have HD:Hid (dayN y m d=if validB y m d=true then (dayB y m d,0) else (0,5)):=rfl;clear hb0 hr0 hz0
 go_enter Tryz.func137,Tryz.ntmps137
 go_wp2_with fail
 generalize w.alloc (.cells #[.int .i64 y,.int .i64 m,.int .i64 d] 145)=W at*;refine(isDateR_any y m d W).mono ?_;rintro e w1 ⟨rfl,hb1⟩;have hbw1:Below w.heap.size w w1:=HB0.out.trans (hb1.mono HB0.out.size);have hr1:=(hb1.block w.heap.size (by have:=HZ0.out;omega)).trans HR0.out;clear hb1
 cases hv:validB y m d
 ·have HR:Hid (dayN y m d=(0,5)):=by show _=_;rw[HD.out,hv];rfl
  clear hr1;go_wp2_with fail
  go_ret2
  exact⟨by rw[HR.out];rfl,hbw1⟩
 obtain⟨⟨y1,y2⟩,⟨m1,m2⟩,d1,d2⟩:=validB_iff.1 hv;have HR:Hid (dayN y m d=(-365+yearSum (y-1999).toNat+monSum y (m-1).toNat+d-1,0)):=by show _=_;rw[HD.out,hv];rfl
 obtain⟨Y,hY⟩:=Int.eq_ofNat_of_zero_le (show 0≤y-1999 by omega);obtain⟨M,hM⟩:=Int.eq_ofNat_of_zero_le (show 0≤m-1 by omega);rw[hY,hM,Int.toNat_natCast,Int.toNat_natCast]at HR;obtain rfl:y=1999+Y:=by omega
 obtain rfl:m=1+M:=by omega
 have hYl:Y≤101:=by omega
 have hMl:M≤11:=by omega
 have x0:=block_cell hr1 0;have x1:=block_cell hr1 1;have x2:=block_cell hr1 2;have HY0:Hid ((-365:Int) = -365+yearSum 0):=rfl;clear hr1 hY hM hv HD;go_wp2_with fail
 go_loop [4,5] (fun nv yv => ∃ k:Nat,k≤Y∧yv=.int .i64 (1999+k)∧nv=.int .i64 (-365+yearSum k)) (fun _ yv=>Y-(intOf yv-1999).toNat)
 case atStart=>exact⟨0,qV _,rfl,by rw[←HY0.out]⟩
 case round =>
  obtain⟨k,hk,rfl,rfl⟩:=hrel;have hyb:=yearSum_bd k
  by_cases hlt:k<Y
  ·have HS:=qH (yearSum_succ k);have HYL:=qH (yDays_leap (1999+k));have HC:=qH (leapR_any (1999+k) w1 (by omega) (by omega));have hlt':(1999:Int)+k<1999+Y:=by omega
   generalize yearSum k=ys at*;generalize yDays (1999+k)=yd at*;go_wp2_with fail
   refine HC.out.mono ?_;rintro e w' ⟨rfl,rfl⟩
   cases hl:leapB (1999+k)
   ·rw[hl]at HYL;have e9:yd=365:=HYL.out;go_wp2_with fail
    go_round
    case rel=>exact⟨k+1,by omega,by go_num,by rw[HS.out];congr 1;omega⟩
    case measure=>simp[intOf];omega
   ·rw[hl]at HYL;have e9:yd=366:=HYL.out;go_wp2_with fail
    go_round
    case rel=>exact⟨k+1,by omega,by go_num,by rw[HS.out];congr 1;omega⟩
    case measure=>simp[intOf];omega
  ·have hkY:k=Y:=by omega
   subst hkY;have hnl : ¬(1999:Int)+k<1999+k:=by omega
   have HM0:Hid ((-365:Int)+yearSum k = -365+yearSum k+monSum (1999+k) 0):=by show _=_;rw[show monSum (1999+k) 0=0 from rfl];omega
   go_wp2_with fail
   go_loop [4,6,7,8] (fun nv mv _ _ => ∃ q:Nat,q≤M∧mv=.int .i64 (1+q)∧nv=.int .i64 (-365+yearSum k+monSum (1999+k) q)) (fun _ mv _ _=>M-(intOf mv-1).toNat)
   case atStart=>exact⟨0,qV _,rfl,by rw[←HM0.out]⟩
   case round =>
    obtain⟨q,hq,rfl,rfl⟩:=hrel;have hmb:=monSum_bd (1999+k) q
    by_cases hltq:q<M
    ·have HS:=qH (monSum_succ (1999+k) q);have hyd:=mDays_bd (1999+k) (1+q);have HC:=qH (daysInMonthR_any (1999+k) (1+q) w1);have HDE:Hid (dimB (1999+k) (1+q)=(mDays (1999+k) (1+q),0)):=by show _=_;unfold dimB;rw[qN (by omega)]
     rw[HDE.out]at HC;have hlt':(1:Int)+q<1+M:=by omega
     generalize monSum (1999+k) q=ms at*;generalize mDays (1999+k) (1+q)=md at*;generalize yearSum k=ys at*;go_wp2_with fail
     refine HC.out.mono ?_;rintro e w' ⟨rfl,rfl⟩;go_wp2_with fail
     go_round
     case rel=>exact⟨q+1,by omega,by go_num,by rw[HS.out];congr 1;omega⟩
     case measure=>simp[intOf];omega
    ·have hqM:q=M:=by omega
     subst hqM;have hnl2 : ¬(1:Int)+q<1+q:=by omega
     generalize hms:monSum (1999+k) q=ms at*;generalize hys:yearSum k=ys at*;clear hms hys;go_wp2_with fail
     go_ret2
     exact⟨by rw[HR.out];rfl,hbw1⟩
theorem digits_sub{s:ByteArray}{a b n:Nat}(h:b≤s.size)(hn:b-a=n):digitsB (s.extract a b) n n=if digOn s a n=true then (subN s a b,true) else (0,false):=by
 unfold digitsB;rw[dig_sub h,hn];have hz:(s.extract a b).size=n:=by rw[size_sub h,hn]
 rw[qN (by rw[hz];omega)]
 cases digOn s a n <;> rfl
end
section
open Go.RowKit
theorem dateB_size{s:ByteArray}(h : ¬s.size=10):dateB s=((0,0,0),1):=by
 unfold dateB;rw[matchD_iff,decide_eq_false h];rfl
theorem dateB_b4{s:ByteArray}(h : ¬byteAt s 4=45):dateB s=((0,0,0),1):=by
 unfold dateB;rw[matchD_iff,decide_eq_false h];simp
theorem dateB_b7{s:ByteArray}(h : ¬byteAt s 7=45):dateB s=((0,0,0),1):=by
 unfold dateB;rw[matchD_iff,decide_eq_false h];simp
theorem dateB_dig{s:ByteArray}(h : ¬(digOn s 0 4=true∧digOn s 5 2=true∧digOn s 8 2=true)):dateB s=((0,0,0),1):=by
 unfold dateB;rw[matchD_iff];rw[qR];generalize digOn s 0 4=a at*;generalize digOn s 5 2=b at*;generalize digOn s 8 2=c at*
 cases a <;> cases b <;> cases c <;> simp at h ⊢
theorem dateB_ok{s:ByteArray}(h0:s.size=10)(h4:byteAt s 4=45)(h7:byteAt s 7=45)(hd:digOn s 0 4=true∧digOn s 5 2=true∧digOn s 8 2=true) :
 dateB s=if validB (subN s 0 4) (subN s 5 7) (subN s 8 s.size)=false then ((0,0,0),5) else ((subN s 0 4,subN s 5 7,subN s 8 s.size),0):=by
 have hm:matchB s patD=true:=by
  rw[matchD_iff,hd.1,hd.2.1,hd.2.2,decide_eq_true h0,decide_eq_true h4,decide_eq_true h7];rfl
 unfold dateB;rw[qN (by rw[hm];decide)]
theorem parseDateR_any(s:ByteArray)(w:World)(hs:s.size≤maxLen):Calls Tryz.prog 135 #[.string s] w (DatePost (dateB s) w):=by
 have hb0:=(qC w.heap.size w).alloc (qD _) (.cells #[.int .i64 0,.int .i64 0,.int .i64 0] 145);have hr0:=qK w (.cells #[.int .i64 0,.int .i64 0,.int .i64 0] 145);have hz0:(w.alloc (.cells #[.int .i64 0,.int .i64 0,.int .i64 0] 145)).heap.size=w.heap.size+1:=by simp
 unfold maxLen at hs;have z0:=block_cell hr0 0;have z1:=block_cell hr0 1;have z2:=block_cell hr0 2;have f0:=block_free hr0 0;have f1:=block_free hr0 1;have f2:=block_free hr0 2;have HB0:=qH hb0;have HR0:=qH hr0;have HZ0:=qH hz0;clear hb0 hr0 hz0
 by_cases hsz:s.size=10
 case neg =>
  have hz':((s.size:Int) != 10)=true:=by simp;omega
  have HR:=qH (dateB_size hsz);clear hsz
  go_enter Tryz.func135,Tryz.ntmps135
  go_wp2_with fail
  generalize w.alloc (.cells #[.int .i64 0,.int .i64 0,.int .i64 0] 145)=W at*;refine bodyPost_ret (v:=.tuple #[.agg #[.int .i64 0,.int .i64 0,.int .i64 0],.int .i64 1]) (by simp[results,Tryz.results135,go_sem,z0,z1,z2]) rfl ?_
  first|exact⟨by rw[HR.out],HB0.out⟩|exact⟨by rw[HR.out],((HB0.out.setCell (qD _) _).setCell (qD _) _).setCell (qD _) _⟩
 have hz':((s.size:Int) != 10)=false:=by simp;omega
 have l4:4<s.size:=by omega
 have l7:7<s.size:=by omega
 have l4':(4:Int)<(s.size:Int):=by omega
 have l7':(7:Int)<(s.size:Int):=by omega
 have HB4:=qH (byteAt_eq s 4 l4);have HB7:=qH (byteAt_eq s 7 l7);have HSZ:=qH hsz;clear hsz
 by_cases h4:byteAt s 4=45
 case neg =>
  have h4':((s[4].toNat:Int) != 45)=true:=by rw[HB4.out];simpa using h4
  have HR:=qH (dateB_b4 h4);clear h4
  go_enter Tryz.func135,Tryz.ntmps135
  go_wp2_with fail
  generalize w.alloc (.cells #[.int .i64 0,.int .i64 0,.int .i64 0] 145)=W at*;refine bodyPost_ret (v:=.tuple #[.agg #[.int .i64 0,.int .i64 0,.int .i64 0],.int .i64 1]) (by simp[results,Tryz.results135,go_sem,z0,z1,z2]) rfl ?_
  first|exact⟨by rw[HR.out],HB0.out⟩|exact⟨by rw[HR.out],((HB0.out.setCell (qD _) _).setCell (qD _) _).setCell (qD _) _⟩
 have h4':((s[4].toNat:Int) != 45)=false:=by rw[HB4.out];simpa using h4
 by_cases h7:byteAt s 7=45
 case neg =>
  have h7':((s[7].toNat:Int) != 45)=true:=by rw[HB7.out];simpa using h7
  have HR:=qH (dateB_b7 h7);clear h4 h7
  go_enter Tryz.func135,Tryz.ntmps135
  go_wp2_with fail
  generalize w.alloc (.cells #[.int .i64 0,.int .i64 0,.int .i64 0] 145)=W at*;refine bodyPost_ret (v:=.tuple #[.agg #[.int .i64 0,.int .i64 0,.int .i64 0],.int .i64 1]) (by simp[results,Tryz.results135,go_sem,z0,z1,z2]) rfl ?_
  first|exact⟨by rw[HR.out],HB0.out⟩|exact⟨by rw[HR.out],((HB0.out.setCell (qD _) _).setCell (qD _) _).setCell (qD _) _⟩
 have h7':((s[7].toNat:Int) != 45)=false:=by rw[HB7.out];simpa using h7
 have HC1:Hid (∀ V:World,Calls Tryz.prog 138 #[.string (s.extract 0 4),.int .i64 4,.int .i64 4] V (DigitsPost (s.extract 0 4) 4 4 V)):=fun V=>digits_any _ 4 4 V (by decide)
 have HC2:Hid (∀ V:World,Calls Tryz.prog 138 #[.string (s.extract 5 7),.int .i64 2,.int .i64 2] V (DigitsPost (s.extract 5 7) 2 2 V)):=fun V=>digits_any _ 2 2 V (by decide)
 have HC3:Hid (∀ V:World,Calls Tryz.prog 138 #[.string (s.extract 8 s.size),.int .i64 2,.int .i64 2] V (DigitsPost (s.extract 8 s.size) 2 2 V)):=fun V=>digits_any _ 2 2 V (by decide)
 unfold DigitsPost at HC1 HC2 HC3;have E1:=digits_sub (s:=s) (a:=0) (b:=4) (n:=4) (by omega) (by omega);have E2:=digits_sub (s:=s) (a:=5) (b:=7) (n:=2) (by omega) (by omega);have E3:=digits_sub (s:=s) (a:=8) (b:=s.size) (n:=2) (qD _) (by have:=HSZ.out;omega);rw[show digitsB (s.extract 0 4) 4 4=digitsB (s.extract 0 4) ((4:Nat):Int) ((4:Nat):Int) from rfl,E1]at HC1;rw[show digitsB (s.extract 5 7) 2 2=digitsB (s.extract 5 7) ((2:Nat):Int) ((2:Nat):Int) from rfl,E2]at HC2;rw[show digitsB (s.extract 8 s.size) 2 2=digitsB (s.extract 8 s.size) ((2:Nat):Int) ((2:Nat):Int) from rfl,E3]at HC3;clear E1 E2 E3;have HOK:=qH (dateB_ok HSZ.out h4 h7);have HNO:=qH (dateB_dig (s:=s));have tz5:(5:Int)≤(s.size:Int):=by omega
 have tz8:(8:Int)≤(s.size:Int):=by omega
 have tz4:(4:Int)≤(s.size:Int):=by omega
 have tz7:(7:Int)≤(s.size:Int):=by omega
 clear h4 h7 HB4 HB7 HSZ;generalize digOn s 0 4=a at*;generalize digOn s 5 2=b at*;generalize digOn s 8 2=c at*
 by_cases habc:a=true∧b=true∧c=true
 case neg =>
  have HR:=qH (HNO.out habc);clear HNO HOK
  cases a <;> cases b <;> cases c <;> first
   | exact absurd ⟨rfl,rfl,rfl⟩ habc
   | (clear habc
      simp only[if_true,Bool.false_eq_true,if_false]at HC1 HC2 HC3
      go_enter Tryz.func135,Tryz.ntmps135
      go_wp2_with fail
      generalize w.alloc (.cells #[.int .i64 0,.int .i64 0,.int .i64 0] 145)=W at*;refine(HC1.out _).mono ?_;rintro e w' ⟨rfl,rfl⟩;go_wp2_with fail
      refine(HC2.out _).mono ?_;rintro e w' ⟨rfl,rfl⟩;go_wp2_with fail
      refine(HC3.out _).mono ?_;rintro e w' ⟨rfl,rfl⟩;go_wp2_with fail
      refine bodyPost_ret (v:=.tuple #[.agg #[.int .i64 0,.int .i64 0,.int .i64 0],.int .i64 1]) (by simp[results,Tryz.results135,go_sem,z0,z1,z2]) rfl ?_
      first|exact⟨by rw[HR.out],HB0.out⟩|exact⟨by rw[HR.out],((HB0.out.setCell (qD _) _).setCell (qD _) _).setCell (qD _) _⟩)
 have HR:=qH (HOK.out habc);obtain⟨rfl,rfl,rfl⟩:=habc;simp only[if_true]at HC1 HC2 HC3;clear HNO HOK;generalize subN s 0 4=y at*;generalize subN s 5 7=m at*;generalize subN s 8 s.size=d at*
 go_enter Tryz.func135,Tryz.ntmps135
 go_wp2_with fail
 generalize w.alloc (.cells #[.int .i64 0,.int .i64 0,.int .i64 0] 145)=W at*;refine(HC1.out _).mono ?_;rintro e w' ⟨rfl,rfl⟩;go_wp2_with fail
 refine(HC2.out _).mono ?_;rintro e w' ⟨rfl,rfl⟩;go_wp2_with fail
 refine(HC3.out _).mono ?_;rintro e w' ⟨rfl,rfl⟩;have hbA:=HB0.out.alloc HB0.out.size (.cells #[.int .i64 y,.int .i64 m,.int .i64 d] 145);have hbB:=(qC W.heap.size W).alloc (qD _) (.cells #[.int .i64 y,.int .i64 m,.int .i64 d] 145);have hrA:=qK W (.cells #[.int .i64 y,.int .i64 m,.int .i64 d] 145);have hzA:(W.alloc (.cells #[.int .i64 y,.int .i64 m,.int .i64 d] 145)).heap.size=W.heap.size+1:=by simp
 have x0:=block_cell hrA 0;have x1:=block_cell hrA 1;have x2:=block_cell hrA 2;have HBA:=qH hbA;have HRA:=qH hrA;have HZA:=qH hzA;have HBB:=qH hbB;clear hbA hrA hzA hbB HC1 HC2 HC3 z0 z1 z2 f0 f1 f2;go_wp2_with fail
 generalize W.alloc (.cells #[.int .i64 y,.int .i64 m,.int .i64 d] 145)=V at*;refine(isDateR_any y m d V).mono ?_;rintro e w2 ⟨rfl,hb2⟩;have hbw2:Below w.heap.size w w2:=HBA.out.trans (hb2.mono HBA.out.size);have hr2:=(hb2.block w.heap.size (by have:=HZA.out;have:=HZ0.out;omega)).trans ((HBB.out.block w.heap.size (by have:=HZ0.out;omega)).trans HR0.out);have hp2:=(hb2.block W.heap.size (by have:=HZA.out;omega)).trans HRA.out;have z0:=block_cell hr2 0;have z1:=block_cell hr2 1;have z2:=block_cell hr2 2;have f0:=block_free hr2 0;have f1:=block_free hr2 1;have f2:=block_free hr2 2;have y0:=block_cell hp2 0;have y1:=block_cell hp2 1;have y2:=block_cell hp2 2;have hpw:W.heap.size≠w.heap.size:=by have:=HZ0.out;omega
 clear hr2 hp2 hb2 x0 x1 x2
 cases hv:validB y m d
 ·have HR:Hid (dateB s=((0,0,0),5)):=by show _=_;rw[HR.out,qR hv]
  go_wp2_with fail
  refine bodyPost_ret (v:=.tuple #[.agg #[.int .i64 0,.int .i64 0,.int .i64 0],.int .i64 5]) (by simp[results,Tryz.results135,go_sem,z0,z1,z2]) rfl ?_;exact⟨by rw[HR.out],((hbw2.setCell (qD _) _).setCell (qD _) _).setCell (qD _) _⟩
 ·have HR:Hid (dateB s=((y,m,d),0)):=by show _=_;rw[HR.out,qN (by rw[hv];decide)]
  go_wp2_with fail
  refine bodyPost_ret (v:=.tuple #[.agg #[.int .i64 y,.int .i64 m,.int .i64 d],.int .i64 0]) (by simp[results,Tryz.results135,go_sem,z0,z1,z2]) rfl ?_;exact⟨by rw[HR.out],((hbw2.setCell (qD _) _).setCell (qD _) _).setCell (qD _) _⟩
theorem clockB_size{s:ByteArray}(h : ¬s.size=5):clockB s=(0,1):=by
 unfold clockB;rw[matchC_iff,decide_eq_false h];rfl
theorem clockB_b2{s:ByteArray}(h : ¬byteAt s 2=58):clockB s=(0,1):=by
 unfold clockB;rw[matchC_iff,decide_eq_false h];simp
theorem clockB_dig{s:ByteArray}(h : ¬(digOn s 0 2=true∧digOn s 3 2=true)):clockB s=(0,1):=by
 unfold clockB;rw[matchC_iff];rw[qR];generalize digOn s 0 2=a at*;generalize digOn s 3 2=b at*
 cases a <;> cases b <;> simp at h ⊢
theorem clockB_ok{s:ByteArray}(h0:s.size=5)(h2:byteAt s 2=58)(hd:digOn s 0 2=true∧digOn s 3 2=true) :
 clockB s=(if 23<subN s 0 2∨59<subN s 3 s.size then (0,5) else (subN s 0 2*60+subN s 3 s.size,0))∧(0≤subN s 0 2∧subN s 0 2≤99)∧(0≤subN s 3 s.size∧subN s 3 s.size≤99):=by
 have hm:matchB s patC=true:=by
  rw[matchC_iff,hd.1,hd.2,decide_eq_true h0,decide_eq_true h2];rfl
 refine⟨?_, ?_, ?_⟩
 ·unfold clockB;rw[qN (by rw[hm];decide)]
 ·have n1:=numTo_bd (s.extract 0 2) (s.extract 0 2).size (by rw[dig_sub (by omega)];exact hd.1);have b1:bnd (s.extract 0 2).size=99:=by rw[size_sub (show 2≤s.size by omega)];rfl
  rw[b1]at n1;exact n1
 ·have n2:=numTo_bd (s.extract 3 s.size) (s.extract 3 s.size).size (by rw[dig_sub (qD _),h0];exact hd.2);have b2:bnd (s.extract 3 s.size).size=99:=by rw[size_sub (qD s.size),h0];rfl
  rw[b2]at n2;exact n2
theorem parseClockR_any(s:ByteArray)(w:World)(hs:s.size≤maxLen):Calls Tryz.prog 136 #[.string s] w (NumPost (clockB s) w):=by
 unfold maxLen at hs;have HB0:=qH (qC w.heap.size w)
 by_cases hsz:s.size=5
 case neg =>
  have hz':((s.size:Int) != 5)=true:=by simp;omega
  have HR:=qH (clockB_size hsz);clear hsz
  go_enter Tryz.func136,Tryz.ntmps136
  go_wp2_with fail
  go_ret2
  exact⟨by rw[HR.out];rfl,HB0.out⟩
 have hz':((s.size:Int) != 5)=false:=by simp;omega
 have l2:2<s.size:=by omega
 have l2':(2:Int)<(s.size:Int):=by omega
 have HB2:=qH (byteAt_eq s 2 l2);have HSZ:=qH hsz;clear hsz
 by_cases h2:byteAt s 2=58
 case neg =>
  have h2':((s[2].toNat:Int) != 58)=true:=by rw[HB2.out];simpa using h2
  have HR:=qH (clockB_b2 h2);clear h2
  go_enter Tryz.func136,Tryz.ntmps136
  go_wp2_with fail
  go_ret2
  exact⟨by rw[HR.out];rfl,HB0.out⟩
 have h2':((s[2].toNat:Int) != 58)=false:=by rw[HB2.out];simpa using h2
 have HC1:Hid (∀ V:World,Calls Tryz.prog 138 #[.string (s.extract 0 2),.int .i64 2,.int .i64 2] V (DigitsPost (s.extract 0 2) 2 2 V)):=fun V=>digits_any _ 2 2 V (by decide)
 have HC2:Hid (∀ V:World,Calls Tryz.prog 138 #[.string (s.extract 3 s.size),.int .i64 2,.int .i64 2] V (DigitsPost (s.extract 3 s.size) 2 2 V)):=fun V=>digits_any _ 2 2 V (by decide)
 unfold DigitsPost at HC1 HC2;have E1:=digits_sub (s:=s) (a:=0) (b:=2) (n:=2) (by omega) (by omega);have E2:=digits_sub (s:=s) (a:=3) (b:=s.size) (n:=2) (qD _) (by have:=HSZ.out;omega);rw[show digitsB (s.extract 0 2) 2 2=digitsB (s.extract 0 2) ((2:Nat):Int) ((2:Nat):Int) from rfl,E1]at HC1;rw[show digitsB (s.extract 3 s.size) 2 2=digitsB (s.extract 3 s.size) ((2:Nat):Int) ((2:Nat):Int) from rfl,E2]at HC2;clear E1 E2;have HOK:=qH (clockB_ok HSZ.out h2);have HNO:=qH (clockB_dig (s:=s));have tz2:(2:Int)≤(s.size:Int):=by omega
 have tz3:(3:Int)≤(s.size:Int):=by omega
 clear h2 HB2 HSZ;generalize digOn s 0 2=a at*;generalize digOn s 3 2=b at*
 by_cases habc:a=true∧b=true
 case neg =>
  have HR:=qH (HNO.out habc);clear HNO HOK
  cases a <;> cases b <;> first
   | exact absurd ⟨rfl,rfl⟩ habc
   | (clear habc
      simp only[if_true,Bool.false_eq_true,if_false]at HC1 HC2
      go_enter Tryz.func136,Tryz.ntmps136
      go_wp2_with fail
      refine(HC1.out _).mono ?_;rintro e w' ⟨rfl,rfl⟩;go_wp2_with fail
      refine(HC2.out _).mono ?_;rintro e w' ⟨rfl,rfl⟩;go_wp2_with fail
      go_ret2
      exact⟨by rw[HR.out];rfl,HB0.out⟩)
 obtain⟨hR,⟨k1,k2⟩,k3,k4⟩:=HOK.out habc;have HR:=qH hR;obtain⟨rfl,rfl⟩:=habc;simp only[if_true]at HC1 HC2;clear HNO HOK hR;generalize subN s 0 2=hh at*;generalize subN s 3 s.size=mm at*
 go_enter Tryz.func136,Tryz.ntmps136
 go_wp2_with fail
 refine(HC1.out _).mono ?_;rintro e w' ⟨rfl,rfl⟩;go_wp2_with fail
 refine(HC2.out _).mono ?_;rintro e w' ⟨rfl,rfl⟩
 by_cases h1:23<hh
 ·have HR:Hid (clockB s=(0,5)):=by show _=_;rw[HR.out,qR (.inl h1)]
  go_wp2_with fail
  go_ret2
  exact⟨by rw[HR.out];rfl,HB0.out⟩
 by_cases h2:59<mm
 ·have HR:Hid (clockB s=(0,5)):=by show _=_;rw[HR.out,qR (.inr h2)]
  go_wp2_with fail
  go_ret2
  exact⟨by rw[HR.out];rfl,HB0.out⟩
 have HR:Hid (clockB s=(60*hh+mm,0)):=by show _=_;rw[HR.out,qN (by rintro (h|h);exact h1 h;exact h2 h),Int.mul_comm]
 go_wp2_with fail
 go_ret2
 exact⟨by rw[HR.out];rfl,HB0.out⟩
end
section
open Go.RowKit
theorem parseInstantR_any(s:ByteArray)(w:World)(hs:s.size≤maxLen):Calls Tryz.prog 103 #[.string s] w (NumPost (insB s) w):=by
 unfold maxLen at hs;have HD:=qH (insB_ref s);have HB0:=qH (qC w.heap.size w)
 by_cases hsz:s.size=16
 case neg =>
  have hz':((s.size:Int) != 16)=true:=by simp;omega
  have HR:Hid (insB s=(0,1)):=by show _=_;rw[HD.out,qR (.inl hsz)]
  clear hsz HD
  go_enter Tryz.func103,Tryz.ntmps103
  go_wp2_with fail
  go_ret2
  exact⟨by rw[HR.out];rfl,HB0.out⟩
 have hz':((s.size:Int) != 16)=false:=by simp;omega
 have l2:10<s.size:=by omega
 have l2':(10:Int)<(s.size:Int):=by omega
 have t1:10≤s.size:=by omega
 have t2:11≤s.size:=by omega
 have t1':(10:Int)≤(s.size:Int):=by omega
 have t2':(11:Int)≤(s.size:Int):=by omega
 have HB2:=qH (byteAt_eq s 10 l2);have HSZ:=qH hsz;clear hsz
 by_cases h2:byteAt s 10=32
 case neg =>
  have h2':((s[10].toNat:Int) != 32)=true:=by rw[HB2.out];simpa using h2
  have HR:Hid (insB s=(0,1)):=by show _=_;rw[HD.out,qR (.inr h2)]
  clear h2 HD
  go_enter Tryz.func103,Tryz.ntmps103
  go_wp2_with fail
  go_ret2
  exact⟨by rw[HR.out];rfl,HB0.out⟩
 have h2':((s[10].toNat:Int) != 32)=false:=by rw[HB2.out];simpa using h2
 rw[qN (by rintro (h|h);exact h HSZ.out;exact h h2)]at HD;have HPDt:=qH (parseDateR_any (s.extract 0 10) w (by rw[size_sub t1];unfold maxLen;omega));have HPC:Hid (∀ V:World,Calls Tryz.prog 136 #[.string (s.extract 11 s.size)] V (NumPost (clockB (s.extract 11 s.size)) V)):=fun V=>parseClockR_any _ V (by rw[size_sub (qD _)];unfold maxLen;omega)
 have HVD:=qH (dateB_valid (s:=s.extract 0 10));have hcb:=clockB_bd (s.extract 11 s.size);generalize dateB (s.extract 0 10)=D at*;generalize clockB (s.extract 11 s.size)=C at*;obtain⟨⟨y,m,d⟩,e0⟩:=D;obtain⟨cl,f0⟩:=C;simp only at HD HPDt HPC HVD hcb;clear h2 HB2 HSZ
 go_enter Tryz.func103,Tryz.ntmps103
 go_wp2_with fail
 refine HPDt.out.mono ?_;rintro e w2 ⟨rfl,hbw2⟩;clear HPDt;have hbA:=hbw2.alloc hbw2.size (.cells #[.int .i64 y,.int .i64 m,.int .i64 d] 145);have hrA:=qK w2 (.cells #[.int .i64 y,.int .i64 m,.int .i64 d] 145);have hzA:(w2.alloc (.cells #[.int .i64 y,.int .i64 m,.int .i64 d] 145)).heap.size=w2.heap.size+1:=by simp
 have HBA:=qH hbA;have HRA:=qH hrA;have HZA:=qH hzA;clear hbA hrA hzA;go_wp2_with fail
 generalize w2.alloc (.cells #[.int .i64 y,.int .i64 m,.int .i64 d] 145)=V at*;refine(HPC.out V).mono ?_;rintro e w3 ⟨rfl,hb3⟩;have hbw3:Below w.heap.size w w3:=HBA.out.trans (hb3.mono HBA.out.size);have hr3:=(hb3.block w2.heap.size (by have:=HZA.out;omega)).trans HRA.out;clear HPC hb3
 by_cases he:e0=1
 ·have he':(e0==1)=true:=by simpa using he
  have HR:Hid (insB s=(0,1)):=by show _=_;rw[HD.out,qR (.inl he)]
  clear he HD hr3;go_wp2_with fail
  go_ret2
  exact⟨by rw[HR.out];rfl,hbw3⟩
 have he':(e0==1)=false:=by simpa using he
 by_cases hf:f0=1
 ·have hf':(f0==1)=true:=by simpa using hf
  have HR:Hid (insB s=(0,1)):=by show _=_;rw[HD.out,qR (.inr hf)]
  clear he hf HD hr3;go_wp2_with fail
  go_ret2
  exact⟨by rw[HR.out];rfl,hbw3⟩
 have hf':(f0==1)=false:=by simpa using hf
 rw[qN (by rintro (h|h);exact he h;exact hf h)]at HD
 by_cases he2:e0=0
 case neg =>
  have he2':(e0 != 0)=true:=by simpa using he2
  have HR:Hid (insB s=(0,5)):=by show _=_;rw[HD.out,qR (.inl he2)]
  clear he2 he hf HD hr3;go_wp2_with fail
  go_ret2
  exact⟨by rw[HR.out];rfl,hbw3⟩
 by_cases hf2:f0=0
 case neg =>
  subst he2;have hf2':(f0 != 0)=true:=by simpa using hf2
  have HR:Hid (insB s=(0,5)):=by show _=_;rw[HD.out,qR (.inr hf2)]
  clear hf2 he hf HD hr3;go_wp2_with fail
  go_ret2
  exact⟨by rw[HR.out];rfl,hbw3⟩
 subst he2 hf2;rw[qN (by simp)]at HD;have hdv:=HVD.out rfl;have hdb:=dayB_bd hdv;obtain⟨⟨v1,v2⟩,⟨v3,v4⟩,v5,v6⟩:=validB_iff.1 hdv;have hmd:=mDays_bd y m;have x0:=block_cell hr3 0;have x1:=block_cell hr3 1;have x2:=block_cell hr3 2;have HDN:=qH (dayNumberR_any y m d w3 (by omega));have HDE:Hid (dayN y m d=(dayB y m d,0)):=by show _=_;unfold dayN;rw[qR hdv]
 rw[HDE.out]at HDN;generalize dayB y m d=dn at*;clear hr3 hdv HVD;go_wp2_with fail
 refine HDN.out.mono ?_;rintro e w4 ⟨rfl,hb4⟩;have hbw4:Below w.heap.size w w4:=hbw3.trans (hb4.mono hbw3.size);clear HDN hb4 x0 x1 x2
 by_cases h1:1440*dn+cl<0
 ·have HR:Hid (insB s=(0,5)):=by show _=_;rw[HD.out,qR (.inl h1)]
  go_wp2_with fail
  go_ret2
  exact⟨by rw[HR.out];rfl,hbw4⟩
 by_cases h2:52596000≤1440*dn+cl
 ·have HR:Hid (insB s=(0,5)):=by show _=_;rw[HD.out,qR (.inr h2)]
  go_wp2_with fail
  go_ret2
  exact⟨by rw[HR.out];rfl,hbw4⟩
 have HR:Hid (insB s=(1440*dn+cl,0)):=by show _=_;rw[HD.out,qN (by rintro (h|h);exact h1 h;exact h2 h)]
 go_wp2_with fail
 go_ret2
 exact⟨by rw[HR.out];rfl,hbw4⟩
end
section
open Go.RowKit Go
def bindsOf(o:Oper):List Nat:=(o.after.toList.filter fun e=>Region.binds .any e).map (·.on)
theorem bindsOf_mem{o:Oper}{j:Nat}:j∈bindsOf o ↔ ∃ e∈o.after,Region.binds .any e=true∧e.on=j:=by
 unfold bindsOf;simp only[List.mem_map,List.mem_filter,Array.mem_toList_iff];exact⟨fun⟨e,⟨h1,h2⟩,h3⟩=>⟨e,h1,h2,h3⟩,fun⟨e,h1,h2,h3⟩=>⟨e,⟨h1,h2⟩,h3⟩⟩
def cloFromD(ops:Array Oper)(t:Nat):List Nat :=
 (List.range (t+1)).reverse.foldl (fun acc i=>if acc.contains i then acc++(match ops[i]? with
  | some o=>bindsOf o
  | none=>[]) else acc) [t]
theorem cloFromD_listed{ops:Array Oper}{t:Nat}{L:Nat→Prop}(h : ∀ i o,ops[i]? = some o→(i=t∨L i) → ∀ e∈o.after,Region.binds .any e=true→L e.on) : ∀ x∈cloFromD ops t,x=t∨L x:=by
 unfold cloFromD;have key : ∀ (l:List Nat) (acc:List Nat),(∀ x∈acc,x=t∨L x) → ∀ x∈l.foldl (fun acc i=>if acc.contains i then acc++(match ops[i]? with
  | some o=>bindsOf o
  | none=>[]) else acc) acc,x=t∨L x:=by
  intro l
  induction l with
  | nil=>intro acc h1 x hx;exact h1 x hx
  | cons i l ih =>
   intro acc h1 x hx;rw[List.foldl_cons]at hx;refine ih _ ?_ x hx;intro y hy;split at hy
   ·rename_i hc;rw[List.mem_append]at hy;rcases hy with hy|hy
    ·exact h1 y hy
    ·cases ho:ops[i]? with
     | none=>rw[ho]at hy;cases hy
     | some o =>
      rw[ho]at hy;obtain⟨e,he,hb,rfl⟩:=bindsOf_mem.1 hy;exact .inr (h i o ho (h1 i (by simpa using hc)) e he hb)
   ·exact h1 y hy
 exact key _ _ fun x hx=>by
  rw[List.mem_singleton]at hx;exact .inl hx
def slotOf(ops:Array Oper)(a:Act)(i:Nat):Value:=match dstOf ops i with
 | some d=>a.tmps.getD d undef
 | none=>undef
structure HID(R:World→World→Prop)(ops:Array Oper)(n:Nat)(a:Act)(W:World)(F:Nat→Value→World→Prop)(listed:Array Bool)(a':Act)(w':World):Prop where
 lsize:listed.size=ops.size
 tail : ∀ t,n≤t→listed.getD t false=false
 defers:a'.defers=a.defers
 size:a'.tmps.size=a.tmps.size
 out : ∀ s,(∀ j,j<n→dstOf ops j≠some s)→a'.tmps[s]? = a.tmps[s]?
 facts : ∀ i,i<n→listed.getD i false=true→F i (slotOf ops a' i) w'
 grow:R W w'
 closed : ∀ i o,ops[i]? = some o→listed.getD i false=true → ∀ e∈o.after,Region.binds .any e=true→listed.getD e.on false=true
section
variable {R:World→World→Prop} {P:Program} {ops:Array Oper} {Q:Exit→Act→World→Prop} {n:Nat} {a:Act} {W:World} {F:Nat→Value→World→Prop}
def putLo(us:Nat→Value):Act→List (Option Nat)→Nat→Act
 | a,[],_=>a
 | a,d::ds,k=>putLo us (a.put d (us k)) ds (k+1)
theorem putLo_snoc(us:Nat→Value)(d:Option Nat) : ∀ (ds:List (Option Nat)) (a:Act) (k:Nat),putLo us a (ds++[d]) k=(putLo us a ds k).put d (us (k+ds.length))
 | [],a,k=>rfl
 | x::ds,a,k=>by
  rw[List.cons_append,putLo,putLo,putLo_snoc us d ds];simp only[List.length_cons];rw[show k+1+ds.length=k+(ds.length+1) by omega]
theorem putAll_eqD{ops:Array Oper}{a:Act}{us:Nat→Value}{ds:List (Option Nat)} : ∀ (n:Nat),n≤ds.length→(∀ i,i<n→some (dstOf ops i)=ds[i]?)→putAll ops a us n=putLo us a (ds.take n) 0
 | 0,_,_=>by rw[List.take_zero];rfl
 | n+1,hn,h=>by
  have h9:=h n (by omega);rw[qG (by omega)]at h9;injection h9 with h9
  rw[putAll,putAll_eqD n (by omega) fun i hi=>h i (by omega),h9,List.take_succ_eq_append_getElem (by omega),putLo_snoc,List.length_take];rw[Nat.min_eq_left (by omega),Nat.zero_add]
end
end
section
open Go.RowKit Go
def headOkW(ops:Array Oper)(n size:Nat):Bool :=
 (List.range n).all (fun i=>match dstOf ops i with
  | some d=>decide (d<size)&&(List.range i).all (fun j=>dstOf ops j != some d)
  | none=>true) &&
 (List.range n).all (fun i=>match ops[i]? with
  | some o=>(match o.guard with|none=>true|some (g,_)=>(bindsOf o).contains g)&&(bindsOf o).all (fun j=>decide (j<i))
  | none=>false) &&
 (List.range ops.size).all (fun t=>decide (t<n)||(List.range n).all fun i=>(cloFromD ops t).contains i)&&decide (n≤ops.size)
structure HeadFactsW(ops:Array Oper)(n size:Nat):Prop where
 dst : ∀ i d,i<n→dstOf ops i=some d→d<size
 inj : ∀ i j d,i<n→j<n→dstOf ops i=some d→dstOf ops j=some d→i=j
 guard : ∀ i o g b,i<n→ops[i]? = some o→o.guard=some (g,b)→g∈bindsOf o
 back : ∀ i o,i<n→ops[i]? = some o → ∀ e∈o.after,Region.binds .any e=true→e.on<i
 cover : ∀ t o,n≤t→ops[t]? = some o → ∀ i,i<n→i∈cloFromD ops t
 le:n≤ops.size
theorem headFactsW{ops:Array Oper}{n size:Nat}(h:headOkW ops n size=true):HeadFactsW ops n size:=by
 unfold headOkW at h;simp only[qI,List.all_eq_true,List.mem_range,qL]at h;obtain⟨⟨⟨h1,h2⟩,h3⟩,h4⟩:=h;have h1' : ∀ i d,i<n→dstOf ops i=some d→d<size ∧ ∀ j,j<i→dstOf ops j≠some d:=fun i d hi hd=>by
  have:=h1 i hi;rw[hd]at this;simp only[qI,qL,List.all_eq_true,List.mem_range,bne_iff_ne]at this;exact this
 refine⟨fun i d hi hd=>(h1' i d hi hd).1,fun i j d hi hj e1 e2 =>?_,fun i o g b hi ho hgd =>?_,fun i o hi ho e he hbe =>?_,fun t o ht ho i hi =>?_,h4⟩
 ·rcases Nat.lt_trichotomy i j with hlt|rfl|hlt
  ·exact absurd e1 ((h1' j d hj e2).2 i hlt)
  ·rfl
  ·exact absurd e2 ((h1' i d hi e1).2 j hlt)
 ·have:=h2 i hi;rw[ho]at this;simp only[hgd,qI,List.contains_iff_mem]at this;exact this.1
 ·have:=h2 i hi;rw[ho]at this;simp only[qI,List.all_eq_true,qL]at this;exact this.2 _ (bindsOf_mem.2 ⟨e,he,hbe,rfl⟩)
 ·have hts:t<ops.size:=(Array.getElem?_eq_some_iff.1 ho).1;have:=h3 t hts;simp only[Bool.or_eq_true,qL,List.all_eq_true,List.mem_range,List.contains_iff_mem]at this;rcases this with h|h
  ·omega
  ·exact h i hi
def boolIs(v:Value)(b:Bool):Bool:=match v with
 | .bool c=>c==b
 | _=>false
theorem yielded_is(ops:Array Oper)(a:Act)(g:Nat)(b:Bool):(yielded ops a.tmps g==some b)=boolIs (slotOf ops a g) b:=by
 unfold yielded slotOf dstOf
 cases hd:(ops[g]?).bind (·.dst) with
 | none=>rfl
 | some d =>
  simp only[Option.bind_some,qA]
  cases ht:a.tmps[d]? with
  | none=>rfl
  | some v=>cases v <;> simp[boolIs]
structure HIW(R:World→World→Prop)(ops:Array Oper)(n:Nat)(a:Act)(W:World)(F:Nat→Value→World→Prop)(listed:Array Bool)(a':Act)(w':World):Prop where
 lsize:listed.size=ops.size
 tail : ∀ t,n≤t→listed.getD t false=false
 defers:a'.defers=a.defers
 size:a'.tmps.size=a.tmps.size
 out : ∀ s,(∀ j,j<n→dstOf ops j≠some s)→a'.tmps[s]? = a.tmps[s]?
 facts : ∀ i,i<n→listed.getD i false=true→F i (slotOf ops a' i) w'
 grow:R W w'
 closed : ∀ i o,ops[i]? = some o→listed.getD i false=true → ∀ e∈o.after,Region.binds .any e=true→listed.getD e.on false=true
section
variable {R:World→World→Prop} {P:Program} {ops:Array Oper} {Q:Exit→Act→World→Prop} {n:Nat} {a:Act} {W:World} {F:Nat→Value→World→Prop}
theorem wpAny_factsW(hRt : ∀ {x y z:World},R x y→R y z→R x z){l:List Oper}(hl:l.toArray=ops)(hh:HeadFactsW ops n a.tmps.size)(hseq:Region.seqB .any ops (ops.size-n) n (headListed ops n)=true)
 (run:Nat→Bool) (hF : ∀ i v w w',F i v w→R w w'→F i v w')
 (hg : ∀ i o g b,i<n→ops[i]? = some o→o.guard=some (g,b) → ∀ v w,F g v w→boolIs v b=run i) (hrn : ∀ i o,i<n→ops[i]? = some o→o.guard=none→run i=true) (hsk : ∀ i w,i<n→run i=false→F i undef w)
 (hstep : ∀ i o,i<n→run i=true→ops[i]? = some o → ∀ a' w',R W w'→(∀ s,(∀ j,j<n→dstOf ops j≠some s)→a'.tmps[s]? = a.tmps[s]?) →
  (∀ e∈o.after,Region.binds .any e=true→F e.on (slotOf ops a' e.on) w') → ∀ K:Act→World→Prop,(∀ v w'',F i (match o.dst with|some _=>v|none=>undef) w''→R w' w''→K (a'.put o.dst v) w'')→o.wp P a' w' K Q)
 (hfin : ∀ us w',R W w'→(∀ i,i<n→F i (us i) w')→wpList P ops Q (l.drop n) (putAll ops a us n) w') :
 ∀ (f:Nat) (listed:Array Bool) (a':Act) (w':World),left n listed=f→HIW R ops n a W F listed a' w'→wpAny P .any ops Q (f+(ops.size-n)) listed a' w':=by
 have hdl:(l.drop n).length=ops.size-n:=by rw[List.length_drop, ←hl];simp
 intro f
 induction f with
 | zero =>
  intro listed a' w' hlf hi;have hall:=left_zero hlf;have e1:listed=headListed ops n:=by
   apply Array.ext
   ·rw[hi.lsize];simp[headListed]
   ·intro k h1 h2;have hk:k<ops.size:=by rw[←hi.lsize];exact h1
    have e3:(headListed ops n)[k]=decide (k<n):=by simp[headListed]
    rw[e3]
    by_cases hkn:k<n
    ·have:=hall k hkn;simp[h1]at this;rw[this];simp[hkn]
    ·have:=hi.tail k (by omega);simp[h1]at this;rw[this];simp[hkn]
  have e2:a'=putAll ops a (slotOf ops a') n:=by
   have es:a'.tmps=(putAll ops a (slotOf ops a') n).tmps:=by
    apply Array.ext_getElem?;intro s
    by_cases hs : ∃ i,i<n∧dstOf ops i=some s
    ·obtain⟨i,hin,hd⟩:=hs;have hlt:=hh.dst i s hin hd;rw[putAll_in hlt hd hin fun j hj hji e=>hji (hh.inj j i s hj hin e hd)];have:s<a'.tmps.size:=by rw[hi.size];exact hlt
     simp[slotOf,hd,this]
    ·rw[putAll_out fun j hj e=>hs ⟨j,hj,e⟩];exact hi.out s fun j hj e=>hs ⟨j,hj,e⟩
   have ed:a'.defers=(putAll ops a (slotOf ops a') n).defers:=by rw[putAll_defers];exact hi.defers
   cases ha:a' with
   | mk t d =>
    rw[ha]at es ed
    cases hp:putAll ops a (slotOf ops (Act.mk t d)) n with
    | mk t2 d2 =>
     rw[hp]at es ed;simp only at es ed;rw[es,ed]
  rw[Nat.zero_add, ←hdl];subst e1;refine wpAny_of_seq (l.drop n) n _ a' w' (fun j=>by rw[List.getElem?_drop, ←hl];simp) (by rw[hdl];exact hseq) ?_;rw[e2];exact hfin _ w' hi.grow fun i hin=>hi.facts i hin (hall i hin)
 | succ f ih =>
  intro listed a' w' hlf hi;rw[show f+1+(ops.size-n)=(f+(ops.size-n))+1 by omega];have hle:=hh.le;refine⟨fun h0 =>?_,fun i hr =>?_⟩
  ·exfalso;have hex : ∃ i,i<n∧listed.getD i false=false:=by
    have hne:(List.range n).filter (fun i => !listed.getD i false)≠[]:=fun e=>by
     unfold left at hlf;rw[e]at hlf
     cases hlf
    obtain⟨i,hi'⟩:=List.exists_mem_of_ne_nil _ hne;rw[List.mem_filter,List.mem_range]at hi';exact⟨i,hi'.1,by simpa using hi'.2⟩
   have key : ∀ i,i<n→listed.getD i false=true:=by
    intro i
    induction i using Nat.strongRecOn with
    | _ i ihi =>
     intro hin
     cases hli:listed.getD i false with
     | true=>rfl
     | false =>
      exfalso;have hil:i<listed.size:=by rw[hi.lsize];omega
      have hmem:i∈Region.ready .any ops listed:=by
       rw[mem_ready];have hio:i<ops.size:=by omega
       refine⟨Go.getD_in hil hli,ops[i],by simp[hio],fun e he hbe =>?_⟩;have hlt:=hh.back i _ hin (by simp[hio]) e he hbe;exact ihi e.on hlt (by omega)
      rw[h0]at hmem
      cases hmem
   obtain⟨i,hin,hlf'⟩:=hex;rw[key i hin]at hlf'
   cases hlf'
  ·obtain⟨hun,o,ho,hall⟩:=mem_ready.1 hr;have hun':=getD_both hun;have hio:i<ops.size:=(Array.getElem?_eq_some_iff.1 ho).1;have hin:i<n:=by
    rcases Nat.lt_or_ge i n with h|h
    ·exact h
    ·exfalso;have hz:left n listed=0:=by
      unfold left;rw[List.length_eq_zero_iff,List.filter_eq_nil_iff];intro j hj;have hjn:=List.mem_range.1 hj;have hcl:=cloFromD_listed (t:=i) (L:=fun x=>listed.getD x false=true) (fun k ok hok hk e he hbe=>by
       rcases hk with rfl|hk
       ·rw[ho]at hok;obtain rfl:=qB hok;exact hall e he hbe
       ·exact hi.closed k ok hok hk e he hbe) j (hh.cover i o h ho j hjn)
      rcases hcl with h9|h9
      ·omega
      ·rw[h9];simp
     omega
   have hil:i<listed.size:=by rw[hi.lsize];exact hio
   unfold wpOp;rw[ho];have hod:dstOf ops i=o.dst:=by unfold dstOf;rw[ho];rfl
   have hwant:Region.wanted o (yielded ops a'.tmps)=run i:=by
    cases hgd:o.guard with
    | none=>rw[hrn i o hin ho hgd];simp[Region.wanted,hgd]
    | some gb =>
     obtain⟨g,b⟩:=gb;obtain⟨e,he,hbe,heg⟩:=bindsOf_mem.1 (hh.guard i o g b hin ho hgd);have hgi:=hh.back i o hin ho e he hbe;have hv:=hg i o g b hin ho hgd _ _ (hi.facts e.on (by omega) (hall e he hbe) |> fun h=>by rw[heg]at h;exact h);rw[←hv];unfold Region.wanted;rw[hgd];exact yielded_is ops a' g b
   have cont : ∀ v w'',F i (match o.dst with|some _=>v|none=>undef) w''→R W w''→(∀ j u,F j u w'→F j u w'')→wpAny P .any ops Q (f+(ops.size-n)) (listed.setIfInBounds i true) (a'.put o.dst v) w'':=fun v w'' hfv hgr hFj=>by
    have hmon : ∀ x,listed.getD x false=true→(listed.setIfInBounds i true).getD x false=true:=fun x hx=>by
     by_cases hxi:x=i
     ·subst hxi;simp[hil]
     ·rw[Go.getD_set_ne false (fun e=>hxi e.symm)];exact hx
    refine ih _ _ _ ?_ ⟨by simpa using hi.lsize,fun t ht=>by rw[Go.getD_set_ne false (by omega)];exact hi.tail t ht, ?_, ?_,fun s hs =>?_,fun j hj hlj =>?_,hgr,fun k ok hok hk e he hbe =>?_⟩
    ·have:=left_set hin hil hun';omega
    ·unfold Act.put;split <;> exact hi.defers
    ·unfold Act.put;split
     ·simpa using hi.size
     ·exact hi.size
    ·unfold Act.put;split
     ·rename_i d hd;simp only;rw[Array.getElem?_setIfInBounds_ne (fun e=>hs i hin (by rw[hod,hd,e]))];exact hi.out s hs
     ·exact hi.out s hs
    ·by_cases hji:j=i
     ·subst hji;unfold slotOf;rw[hod]
      cases hd:o.dst with
      | none =>
       simp only;exact(show F j (match o.dst with|some _=>v|none=>undef) w'' from hfv) |> fun h=>by rw[hd]at h;exact h
      | some d =>
       have hdl':=hh.dst j d hin (by rw[hod,hd]);have:d<a'.tmps.size:=by rw[hi.size];exact hdl'
       have h9:F j (match o.dst with|some _=>v|none=>undef) w'':=hfv;rw[hd]at h9;simp only[Act.put];simpa[this] using h9
     ·rw[Go.getD_set_ne false (fun e=>hji e.symm)]at hlj;have h9:=hFj j _ (hi.facts j hj hlj);unfold slotOf at h9 ⊢;unfold Act.put
      cases hd:o.dst with
      | none=>simpa[hd] using h9
      | some d =>
       cases hdj:dstOf ops j with
       | none=>rw[hdj]at h9;simpa using h9
       | some d' =>
        have hne:d≠d':=fun e=>hji (hh.inj j i d' hj hin hdj (by rw[hod,hd,e]))
        rw[hdj]at h9;simp only at h9 ⊢;simpa[Array.getElem?_setIfInBounds_ne hne] using h9
    ·by_cases hki:k=i
     ·subst hki;rw[ho]at hok;obtain rfl:=qB hok;exact hmon _ (hall e he hbe)
     ·rw[Go.getD_set_ne false (fun e=>hki e.symm)]at hk;exact hmon _ (hi.closed k ok hok hk e he hbe)
   cases hr9:run i with
   | false =>
    rw[hr9]at hwant;simp only[hwant];refine cont undef w' ?_ hi.grow fun j u h=>h
    have:=hsk i w' hin hr9
    cases o.dst <;> exact this
   | true =>
    rw[hr9]at hwant;simp only[hwant,if_true];exact .inl (hstep i o hin hr9 ho a' w' hi.grow hi.out (fun e he hbe=>hi.facts e.on (Nat.lt_trans (hh.back i o hin ho e he hbe) hin) (hall e he hbe)) _ fun v w'' hfv hbl=>cont v w'' hfv (hRt hi.grow hbl) fun j u h=>hF j u _ _ h hbl)
theorem wp_region_factsW(R:World→World→Prop)(hRt : ∀ {x y z:World},R x y→R y z→R x z){id:Nat}{l:List Oper}{w:World}(n:Nat)(ds:List (Option Nat))(F:Nat→Value→World→Prop)(hD:R w { w with drawn:=w.drawn+1 })(hm:P.follows .mixedOrders=true)(hok:headOkW l.toArray n a.tmps.size=true)(hds:((List.range n).map (dstOf l.toArray)==ds)=true)(hseq:Region.seqB .any l.toArray (l.toArray.size-n) n (headListed l.toArray n)=true)
 (run:Nat→Bool) (hg : ∀ i o g b,i<n→l[i]? = some o→o.guard=some (g,b) → ∀ v w,F g v w→boolIs v b=run i) (hrn : ∀ i o,i<n→l[i]? = some o→o.guard=none→run i=true) (hsk : ∀ i w,i<n→run i=false→F i undef w)
 (hF : ∀ i v w w',F i v w→R w w'→F i v w')
 (hstep : ∀ i o,i<n→run i=true→l[i]? = some o → ∀ a' w',R w w'→(∀ s,some s ∉ ds→a'.tmps[s]? = a.tmps[s]?) →
  (∀ e∈o.after,Region.binds .any e=true → ∀ d,ds[e.on]? = some (some d)→F e.on (a'.tmps.getD d undef) w') → ∀ K:Act→World→Prop,(∀ v w'',F i (match o.dst with|some _=>v|none=>undef) w''→R w' w''→K (a'.put o.dst v) w'')→o.wp P a' w' K Q)
 (hfin : ∀ us w',R w w'→(∀ i,i<n→F i (us i) w')→wpList P l.toArray Q (l.drop n) (putLo us a ds 0) w'):(Code.region id l.toArray true).wp P Q a w:=by
 have hh:=headFactsW hok;have hdl:=beq_iff_eq.1 hds;have hlen:ds.length=n:=by
  have:=congrArg List.length hdl;simpa using this.symm
 have hdi : ∀ i,i<n→some (dstOf l.toArray i)=ds[i]? :=fun i hi=>by
  have:=congrArg (·[i]?) hdl;simpa only [List.getElem?_map,List.getElem?_range hi,Option.map_some] using this
 refine wp_region_any hm ?_;have hl0:left n (Array.replicate l.toArray.size false)=n:=by
  unfold left;rw[List.filter_eq_self.2 fun i _=>by rw[getD_replicate_false];rfl,List.length_range]
 have hsz:l.toArray.size=n+(l.toArray.size-n):=by have:=hh.le;omega
 have key:=wpAny_factsW (P:=P) (Q:=Q) (ops:=l.toArray) (n:=n) (a:=a) (W:=w) (F:=F) (R:=R) hRt rfl hh hseq run hF (fun i o g b hi ho=>hg i o g b hi (by simpa using ho)) (fun i o hi ho=>hrn i o hi (by simpa using ho)) hsk
  (fun i o hi hr9 ho a' w' hb' hout hpre=>hstep i o hi hr9 (by simpa using ho) a' w' hb'
   (fun s hs=>hout s fun j hj e=>hs (by have:=hdi j hj;rw[e]at this;exact List.mem_of_getElem? this.symm))
   (fun e he hbe d hd=>by
    have hlt:=hh.back i o hi ho e he hbe;have h9:=hdi e.on (by omega);rw[hd]at h9;injection h9 with h9
    have:=hpre e he hbe;unfold slotOf at this;rw[h9]at this;exact this))
  (fun us w' hb' hf=>by
   have:=hfin us w' hb' hf;rw[←List.take_of_length_le (l:=ds) (i:=n) (by omega)]at this;rw[putAll_eqD n (by omega) hdi];exact this) n (Array.replicate l.toArray.size false) a { w with drawn:=w.drawn+1 } hl0
  ⟨by simp,fun t _=>getD_replicate_false _ _,rfl,rfl,fun _ _=>rfl,fun i _ h=>(by rw[getD_replicate_false]at h;cases h),hD,fun i o _ h=>(by rw[getD_replicate_false]at h;cases h)⟩
 rw[←hsz]at key;exact key
def runV(l:List Oper)(V:Nat→Value)(i:Nat):Bool:=match (l[i]?).bind (·.guard) with
 | none=>true
 | some (g,b)=>boolIs (V g) b
def putV:Act→List Nat→List Value→Act
 | a,d::ds,v::vs=>putV (a.put (some d) v) ds vs
 | a,_,_=>a
theorem putLo_V{us:Nat→Value} : ∀ (ds:List Nat) (vs:List Value) (a:Act) (k:Nat),ds.length=vs.length→(∀ i,i<ds.length→us (k+i)=vs.getD i undef)→putLo us a (ds.map some) k=putV a ds vs
 | [],[],_,_,_,_=>rfl
 | d::ds,v::vs,a,k,hl,h=>by
  rw[List.map_cons,putLo,putV];have h0:=h 0 (by simp);rw[Nat.add_zero]at h0;rw[h0];refine putLo_V ds vs _ _ (by simpa using hl) fun i hi =>?_
  have:=h (i+1) (by simpa using hi);rw[show k+(i+1)=k+1+i by omega]at this;exact this
theorem wp_region_vals(R:World→World→Prop)(hRt : ∀ {x y z:World},R x y→R y z→R x z){id:Nat}{l:List Oper}{w:World}(n:Nat)(ds:List Nat)(vs:List Value)(hvl:(vs.length==n)=true)(hD:R w { w with drawn:=w.drawn+1 })(hm:P.follows .mixedOrders=true)(hok:headOkW l.toArray n a.tmps.size=true)(hds:((List.range n).map (dstOf l.toArray)==ds.map some)=true)(hseq:Region.seqB .any l.toArray (l.toArray.size-n) n (headListed l.toArray n)=true)
 (hsk : ∀ i,i<n→runV l (fun i=>vs.getD i undef) i=false→vs.getD i undef=undef)
 (hstep : ∀ i o,i<n→runV l (fun i=>vs.getD i undef) i=true→l[i]? = some o → ∀ a' w',R w w'→(∀ s,s ∉ ds→a'.tmps[s]? = a.tmps[s]?) →
  (∀ e∈o.after,Region.binds .any e=true → ∀ d,ds[e.on]? = some d→a'.tmps.getD d undef=vs.getD e.on undef) → ∀ K:Act→World→Prop,(∀ w'',R w' w''→K (a'.put o.dst (vs.getD i undef)) w'')→o.wp P a' w' K Q)
 (hfin : ∀ w',R w w'→wpList P l.toArray Q (l.drop n) (putV a ds vs) w'):(Code.region id l.toArray true).wp P Q a w:=by
 have hdl:=beq_iff_eq.1 hds;have hlen:ds.length=n:=by
  have:=congrArg List.length hdl;simpa using this.symm
 have hdi : ∀ i,i<n → ∃ d,dstOf l.toArray i=some d:=fun i hi=>by
  have:=congrArg (·[i]?) hdl;simp only[List.getElem?_map,List.getElem?_range hi,Option.map_some]at this;rw[qG (by omega)]at this;exact⟨_,by simpa using this⟩
 refine wp_region_factsW R hRt n (ds.map some) (fun i v _=>v=vs.getD i undef) hD hm hok hds hseq (runV l fun i=>vs.getD i undef) (fun i o g b hi ho hgd v w h =>?_) (fun i o hi ho hgd =>?_) (fun i w hi h=>(hsk i hi h).symm) (fun _ _ _ _ h _=>h) (fun i o hi hr ho a' w' hb hout hpre K hK =>?_) fun us w' hb hf =>?_
 ·rw[h];unfold runV;rw[ho];simp only[Option.bind_some,hgd]
 ·unfold runV;rw[ho];simp only[Option.bind_some,hgd]
 ·refine hstep i o hi hr ho a' w' hb (fun s hs=>hout s (by simpa using hs)) (fun e he hbe d hd=>hpre e he hbe d (by rw[List.getElem?_map,hd];rfl)) K fun w'' hw=>hK (vs.getD i undef) w'' ?_ hw
  obtain⟨d,hd⟩:=hdi i hi;have:o.dst=some d:=by
   unfold dstOf at hd;rw[List.getElem?_toArray,ho]at hd;exact hd
  rw[this]
 ·rw[putLo_V ds vs a 0 (by rw[hlen];exact(beq_iff_eq.1 hvl).symm) fun i hi=>by rw[Nat.zero_add];exact hf i (by omega)];exact hfin w' hb
end
end
end Go.Proofs.YtifconapjfdkcaaGreatDoor
