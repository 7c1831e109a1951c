/-
  Joined texts: DataPlain; PeoplePlain; IncPlain; NamesRef; ZoneRef; IndexRef; FlightRef; ValidateRef; Sorts. What each proves stands ahead of it, with its conditions.
-/
import Derived.Test.YtifconapjfdkcaaGreatDoorProg
import Derived.WalkKit
import Derived.WalkLawsBesides
import Derived.WalkSpells
import Derived.Lib.Hide
import Derived.Maps.AppendAt
import Derived.ProofKit
import Derived.Deep.Slices
import Derived.Lib.SplitLaws
import Derived.Lib.IndexMore
import Derived.Lib.Strings
import Derived.Lib.AppendStr
import Derived.Laws.Rows
import Derived.Laws.Tables
import Derived.Deep.RegionWith
import Derived.BigQuiet
import Derived.Deep.QuietTactic
import Derived.IntWalk
import Derived.Maps.OwnOps
import Derived.Maps.Views
import Derived.Sort.Walk0
import Derived.Ground.SlsfProg
import Derived.Shelf.SlSortCmp.Insertion
import Derived.Test.YtifconapjfdkcaaGreatDoorBAA
import Derived.Test.YtifconapjfdkcaaGreatDoorBAB
import Derived.Test.YtifconapjfdkcaaGreatDoorBAC
import Derived.Test.YtifconapjfdkcaaGreatDoorBAD
import Derived.Test.YtifconapjfdkcaaGreatDoorBAE
import Derived.Test.YtifconapjfdkcaaGreatDoorBAF
import Derived.Test.YtifconapjfdkcaaGreatDoorBAG
import Derived.Test.YtifconapjfdkcaaGreatDoorBAH
import Derived.Test.YtifconapjfdkcaaGreatDoorBAI
import Derived.Test.YtifconapjfdkcaaGreatDoorBAJ
import Derived.Test.YtifconapjfdkcaaGreatDoorBAK
import Derived.Test.YtifconapjfdkcaaGreatDoorBAL
import Derived.Test.YtifconapjfdkcaaGreatDoorBAM
import Derived.Test.YtifconapjfdkcaaGreatDoorBAN
import Derived.Test.YtifconapjfdkcaaGreatDoorBAO
import Derived.Test.YtifconapjfdkcaaGreatDoorBAP
import Derived.Test.YtifconapjfdkcaaGreatDoorBAQ
import Derived.Test.YtifconapjfdkcaaGreatDoorBAR
import Derived.Test.YtifconapjfdkcaaGreatDoorBAS
import Derived.Test.YtifconapjfdkcaaGreatDoorBAT
import Derived.Test.YtifconapjfdkcaaGreatDoorBAU
import Derived.Test.YtifconapjfdkcaaGreatDoorBAV
import Derived.Test.YtifconapjfdkcaaGreatDoorBAW
import Derived.Test.YtifconapjfdkcaaGreatDoorBAX
import Derived.Test.YtifconapjfdkcaaGreatDoorBAY
import Derived.Test.YtifconapjfdkcaaGreatDoorBAZ
import Derived.Test.YtifconapjfdkcaaGreatDoorBBA
import Derived.Test.YtifconapjfdkcaaGreatDoorBBB
import Derived.Test.YtifconapjfdkcaaGreatDoorBBC
import Derived.Test.YtifconapjfdkcaaGreatDoorBBD
import Derived.Test.YtifconapjfdkcaaGreatDoorBBE
import Derived.Test.YtifconapjfdkcaaGreatDoorBBF
import Derived.Test.YtifconapjfdkcaaGreatDoorBBG
import Derived.Test.YtifconapjfdkcaaGreatDoorBBH
import Derived.Test.YtifconapjfdkcaaGreatDoorBBI
import Derived.Test.YtifconapjfdkcaaGreatDoorBBJ
import Derived.Test.YtifconapjfdkcaaGreatDoorBBK
import Derived.Test.YtifconapjfdkcaaGreatDoorBBL
import Derived.Test.YtifconapjfdkcaaGreatDoorBBM
import Derived.Test.YtifconapjfdkcaaGreatDoorBBN
import Derived.Test.YtifconapjfdkcaaGreatDoorBBO
import Derived.Test.YtifconapjfdkcaaGreatDoorBBP
import Derived.Test.YtifconapjfdkcaaGreatDoorBBQ
import Derived.Test.YtifconapjfdkcaaGreatDoorBBR
import Derived.Test.YtifconapjfdkcaaGreatDoorBBS
import Derived.Test.YtifconapjfdkcaaGreatDoorBBT
import Derived.Test.YtifconapjfdkcaaGreatDoorBBU
import Derived.Test.YtifconapjfdkcaaGreatDoorBBV
import Derived.Test.YtifconapjfdkcaaGreatDoorBBW
namespace Go.Proofs.YtifconapjfdkcaaGreatDoor
set_option linter.unusedSimpArgs false
set_option linter.unusedVariables false
open Go
theorem route_ends : ∀ r:Nat,r<6→hasB (aCodes dAirports) (dCode (dFrom r))=true∧hasB (aCodes dAirports) (dCode (dTo r))=true∧dCode (dFrom r)≠dCode (dTo r):=by
 intro r hr;have:r=0∨r=1∨r=2∨r=3∨r=4∨r=5:=by omega
 rcases this with rfl|rfl|rfl|rfl|rfl|rfl <;> decide +kernel
theorem dNum_code : ∀ i:Nat,i<9→isCodeB (dNum i)=true:=by
 intro i hi;have:i=0∨i=1∨i=2∨i=3∨i=4∨i=5∨i=6∨i=7∨i=8:=by omega
 rcases this with rfl|rfl|rfl|rfl|rfl|rfl|rfl|rfl|rfl <;> decide +kernel
theorem dKind_name(n:Int):isNameB (if n/128%8=7 then a320S else b737S)=true:=by split <;> decide +kernel
theorem d_flight(n clock:Int)(i:Nat)(hi:i<9)(h1:2880≤clock)(h2:clock+90≤52593120):flightE (aCodes dAirports) (dFlight n clock i)=0:=by
 obtain⟨ha,hb,hne⟩:=route_ends (dRoute n i) (dRoute_lt n i);unfold flightE dFlight;simp only;rw[if_neg (by rw[dNum_code i hi,dKind_name];simp),if_neg (by rw[ha,hb];simp),if_neg hne,if_neg (by omega),if_neg ?_];split <;> decide
theorem dTT_valid(l:List Int)(n:Nat)(hn:n≤9):(dTT l n).valid:=by
 have hlen:=(dSt_range l n).2.2;refine⟨by show dZones.length≤16;decide,by show dAirports.length≤64;decide, ?_, ?_, ?_,fun i hi =>?_⟩
 ·show(dSt l n).2.length≤200;omega
 ·have : ∀ j:Nat,j<2→zErr dZones j=0:=by decide +kernel
  exact this
 ·have : ∀ j:Nat,j<3→aErr dZones dAirports j=0:=by decide +kernel
  exact this
 ·have hi':i<n:=by
   have:i<(dSt l n).2.length:=hi;omega
  have hr:=dSt_range l i;unfold fErr;have g:(dTT l n).flights.getD i noFlight=_:=dSt_get l n i hi';rw[g];have hz:=d_flight (atL l i) (dSt l i).1 i (by omega) (by omega) (by omega);have hz':flightE (aCodes (dTT l n).airports) (dFlight (atL l i) (dSt l i).1 i)=0:=hz;rw[if_neg (by rw[hz'];simp),if_neg ?_];rintro⟨h0,h1⟩;obtain⟨j,rfl⟩ : ∃ j,i=j+1:=⟨i-1,by omega⟩
  have g2:(dTT l n).flights.getD j noFlight=_:=dSt_get l n j (by omega);rw[Nat.add_sub_cancel,g2]at h1;have ho:=dClock_range (atL l j) (dSt l j).1;have e1:(dFlight (atL l j) (dSt l j).1 j).dep=(dSt l j).1:=rfl;have e2:(dFlight (atL l (j+1)) (dSt l (j+1)).1 (j+1)).dep=dClock (atL l j) (dSt l j).1:=rfl;unfold beforeB at h1;rw[e1,e2,if_neg (by omega)]at h1;simp at h1;omega
theorem probTT_valid(l:List Int):(probTT l).valid:=dTT_valid _ _ (by have:=dCount_range l;omega)
end Go.Proofs.YtifconapjfdkcaaGreatDoor
namespace Go.Proofs.YtifconapjfdkcaaGreatDoor
set_option linter.unusedSimpArgs false
set_option linter.unusedVariables false
open Go
theorem dPeople_len(l:List Int):(dPeople l).length=pCount l:=dPeopleN_len _ _
end Go.Proofs.YtifconapjfdkcaaGreatDoor
namespace Go.Proofs.YtifconapjfdkcaaGreatDoor
set_option linter.unusedSimpArgs false
set_option linter.unusedVariables false
open Go Go.RowKit
theorem dIncs_len(t:GTT)(ps:List GPerson)(l:List Int):(dIncs t ps l).length=iCount l:=by unfold dIncs;simp
end Go.Proofs.YtifconapjfdkcaaGreatDoor
namespace Go.Proofs.YtifconapjfdkcaaGreatDoor
set_option linter.unusedSimpArgs false
set_option linter.unusedVariables false
open Go.RowKit
theorem lower_any(c:Int)(w:World) :
 Calls Tryz.prog 154 #[.int .u8 c] w fun e w'=>e=.returned (.bool (lowerI c))∧w=w':=by
 go_enter Tryz.func154,Tryz.ntmps154
 go_wp2
 all_goals go_ret
 all_goals exact⟨ret_bool (by unfold lowerI;grind),rfl⟩
theorem upper_any(c:Int)(w:World) :
 Calls Tryz.prog 115 #[.int .u8 c] w fun e w'=>e=.returned (.bool (upperI c))∧w=w':=by
 go_enter Tryz.func115,Tryz.ntmps115
 go_wp2
 all_goals go_ret
 all_goals exact⟨ret_bool (by unfold upperI;grind),rfl⟩
theorem number_any(c:Int)(w:World) :
 Calls Tryz.prog 155 #[.int .u8 c] w fun e w'=>e=.returned (.bool (numberI c))∧w=w':=by
 go_enter Tryz.func155,Tryz.ntmps155
 go_wp2
 all_goals go_ret
 all_goals exact⟨ret_bool (by unfold numberI;grind),rfl⟩
theorem isNameR_any(s:ByteArray)(w:World)(hs:s.size≤maxLen) :
 Calls Tryz.prog 110 #[.string s] w fun e w'=>e=.returned (.bool (isNameB s))∧w=w':=by
 unfold maxLen at hs
 by_cases h1:s.size<1
 ·have hf:isNameB s=false:=by simp[isNameB];omega
  have HF:=Lib.hid hf;clear hf
  go_enter Tryz.func110,Tryz.ntmps110
  go_wp2_with fail
  go_ret
  exact⟨by rw[HF.out];rfl,rfl⟩
 ·by_cases h2:16<s.size
  ·have hf:isNameB s=false:=by simp[isNameB];omega
   have HF:=Lib.hid hf;clear hf
   go_enter Tryz.func110,Tryz.ntmps110
   go_wp2_with fail
   go_ret
   exact⟨by rw[HF.out];rfl,rfl⟩
  ·have hf:isNameB s=allTo (nmAt s) s.size:=by simp[isNameB];omega
   have HB0:=Lib.hid (byteAt_eq s 0 (by omega));have HF:=Lib.hid hf;clear hf
   by_cases h0:lowerI (byteAt s 0)=true
   ·have hl:lowerI (s[0].toNat:Int)=true:=by rw[HB0.out];exact h0
    have H0:=Lib.hid h0;clear h0
    go_enter Tryz.func110,Tryz.ntmps110
    go_wp2_with (go_at_call 154;refine(lower_any _ _).mono ?_;rintro e w' ⟨rfl,rfl⟩)
    go_loop [3] (fun i => ∃ k:Nat,k≤s.size∧i=.int .i64 k∧Hid (allTo (nmAt s) k=true)) (fun i=>s.size-(intOf i).toNat)
    case atStart=>exact⟨0,Nat.zero_le _,rfl,rfl⟩
    case round =>
     obtain⟨k,hk,rfl,HA⟩:=hrel;clear hl
     by_cases hlt:k<s.size
     ·have HB:=Lib.hid (byteAt_eq s k hlt);go_wp2_with (first
       | (go_at_call 154;refine(lower_any _ _).mono ?_;rintro e w' ⟨rfl,rfl⟩)
       | (go_at_call 155;refine(number_any _ _).mono ?_;rintro e w' ⟨rfl,rfl⟩))
      all_goals
       have HB':=HB.out;have H0':=H0.out
       first
       | (have hv:nmAt s k=true:=by
           unfold nmAt;rcases Nat.eq_zero_or_pos k with h00|h00
           ·subst h00;simp[H0']
           ·grind
          go_round
          case rel=>exact⟨k+1,by omega,by go_num,by show allTo _ _=true;rw[allTo_succ,HA.out,hv];rfl⟩
          case measure=>simp[intOf];omega)
       | (have hv:nmAt s k=false:=by unfold nmAt;grind
          go_ret
          exact⟨by rw[HF.out,allTo_false hlt hv];rfl,rfl⟩)
     ·go_wp2_with fail
      go_ret
      exact⟨ret_bool (by rw[HF.out,show s.size=k by omega,HA.out]),rfl⟩
   ·have hl:lowerI (s[0].toNat:Int)=false:=by rw[HB0.out];simpa using h0
    have hv:Hid (nmAt s 0=false):=by show nmAt s 0=false;unfold nmAt;simp;simpa using h0
    clear h0
    go_enter Tryz.func110,Tryz.ntmps110
    go_wp2_with (go_at_call 154;refine(lower_any _ _).mono ?_;rintro e w' ⟨rfl,rfl⟩)
    go_ret
    exact⟨by rw[HF.out,allTo_false (by omega) hv.out];rfl,rfl⟩
theorem isCodeR_any(s:ByteArray)(w:World)(hs:s.size≤maxLen) :
 Calls Tryz.prog 116 #[.string s] w fun e w'=>e=.returned (.bool (isCodeB s))∧w=w':=by
 unfold maxLen at hs
 go_enter Tryz.func116,Tryz.ntmps116
 go_wp2_with fail
 go_loop [3] (fun i => ∃ k:Nat,k≤s.size∧i=.int .i64 k∧Hid (allTo (cdAt s) k=true)) (fun i=>s.size-(intOf i).toNat)
 case atStart=>exact⟨0,Nat.zero_le _,rfl,rfl⟩
 case round =>
  obtain⟨k,hk,rfl,HA⟩:=hrel
  by_cases hlt:k<s.size
  ·have HB:=Lib.hid (byteAt_eq s k hlt);go_wp2_with (first
    | (go_at_call 115;refine(upper_any _ _).mono ?_;rintro e w' ⟨rfl,rfl⟩)
    | (go_at_call 155;refine(number_any _ _).mono ?_;rintro e w' ⟨rfl,rfl⟩))
   all_goals
    have HB':=HB.out
    first
    | (have hv:cdAt s k=true:=by unfold cdAt;grind
       go_round
       case rel=>exact⟨k+1,by omega,by go_num,by show allTo _ _=true;rw[allTo_succ,HA.out,hv];rfl⟩
       case measure=>simp[intOf];omega)
    | (have hv:cdAt s k=false:=by unfold cdAt;grind
       go_ret
       exact⟨ret_bool (by unfold isCodeB;rw[allTo_false hlt hv];simp),rfl⟩)
  ·go_wp2_with fail
   all_goals go_ret
   all_goals exact⟨ret_bool (by unfold isCodeB;rw[show s.size=k by omega,HA.out];grind),rfl⟩
theorem isAirportR_any(s:ByteArray)(w:World)(hs:s.size≤maxLen) :
 Calls Tryz.prog 83 #[.string s] w fun e w'=>e=.returned (.bool (isAirportB s))∧w=w':=by
 unfold maxLen at hs
 by_cases h1:s.size=3
 ·have hf:isAirportB s=allTo (upAt s) 3:=by simp[isAirportB,h1]
  have HF:=Lib.hid hf;clear hf;have hb:((s.size:Int)==3)=true:=by simp;omega
  have hs3:s.size≤3:=by omega
  have hs3':3≤s.size:=by omega
  clear h1;have HB0:=Lib.hid (byteAt_eq s 0 (by omega));have HB1:=Lib.hid (byteAt_eq s 1 (by omega));have HB2:=Lib.hid (byteAt_eq s 2 (by omega))
  go_enter Tryz.func83,Tryz.ntmps83
  go_wp2_with (go_at_call 115;refine(upper_any _ _).mono ?_;rintro e w' ⟨rfl,rfl⟩)
  all_goals go_ret
  all_goals
   have HB0':=HB0.out;have HB1':=HB1.out;have HB2':=HB2.out;exact⟨ret_bool (by rw[HF.out];simp only[allTo,List.range,List.range.loop,List.all_cons,List.all_nil,upAt];grind),rfl⟩
 ·have hf:isAirportB s=false:=by simp[isAirportB,h1]
  have HF:=Lib.hid hf;clear hf;have hb:((s.size:Int)==3)=false:=by simp;omega
  clear h1
  go_enter Tryz.func83,Tryz.ntmps83
  go_wp2_with fail
  go_ret
  exact⟨by rw[HF.out];rfl,rfl⟩
end Go.Proofs.YtifconapjfdkcaaGreatDoor
namespace Go.Proofs.YtifconapjfdkcaaGreatDoor
set_option linter.unusedSimpArgs false
set_option linter.unusedVariables false
open Go.RowKit
theorem offsetR_any(n:Int)(w:World):Calls Tryz.prog 113 #[.int .i64 n] w fun e w'=>e=.returned (.bool (offOk n))∧w=w':=by
 go_enter Tryz.func113,Tryz.ntmps113
 go_wp2
 all_goals go_ret
 all_goals exact⟨ret_bool (by unfold offOk;grind),rfl⟩
theorem instantR_any(n:Int)(w:World):Calls Tryz.prog 114 #[.int .i64 n] w fun e w'=>e=.returned (.bool (insOk n))∧w=w':=by
 go_enter Tryz.func114,Tryz.ntmps114
 go_wp2
 all_goals go_ret
 all_goals exact⟨ret_bool (by unfold insOk;grind),rfl⟩
set_option maxHeartbeats 800000 in
theorem zoneValidateR_any(z:GZone)(A:Option Addr)(n c:Nat)(w:World)(hz:z.ok)(hsl:Sl Ty.shift w (all_ w) A n c z.shifts) :
 Calls Tryz.prog 81 #[.agg #[.string z.name,.int .i64 z.off,.slice A n c]] w (ErrPost (zoneE z) w):=by
 obtain⟨hz1,hz2,hz3⟩:=hz;have hn:=hsl.len;have hnl:=hsl.le;unfold maxLen at hnl;subst hn;have HZ1:=Lib.hid hz1;clear hz1 hz3
 by_cases h1:isNameB z.name=true
 case neg =>
  have h1':isNameB z.name=false:=by simpa using h1
  have HE:Hid (zoneE z=1):=by show _=_;unfold zoneE;rw[if_pos h1']
  go_enter Tryz.func81,Tryz.ntmps81
  go_wp2_with (go_at_call 110;refine(isNameR_any z.name _ HZ1.out).mono ?_;rintro e w' ⟨rfl,rfl⟩;rw[h1'])
  go_ret
  exact⟨by rw[HE.out];rfl,(Below.refl _ _).alloc (Nat.le_refl _) _⟩
 by_cases h2:offOk z.off=true
 case neg =>
  have h2':offOk z.off=false:=by simpa using h2
  have HE:Hid (zoneE z=5):=by show _=_;unfold zoneE;rw[if_neg (by rw[h1];decide),if_pos h2']
  go_enter Tryz.func81,Tryz.ntmps81
  go_wp2_with (first
   | (go_at_call 110;refine(isNameR_any z.name _ HZ1.out).mono ?_;rintro e w' ⟨rfl,rfl⟩;rw[h1])
   | (go_at_call 113;refine(offsetR_any _ _).mono ?_;rintro e w' ⟨rfl,rfl⟩;rw[h2']))
  go_ret
  exact⟨by rw[HE.out];rfl,(Below.refl _ _).alloc (Nat.le_refl _) _⟩
 by_cases h3:16<z.shifts.length
 case pos =>
  have HE:Hid (zoneE z=10):=by show _=_;unfold zoneE;rw[if_neg (by rw[h1];decide),if_neg (by rw[h2];decide),if_pos h3]
  go_enter Tryz.func81,Tryz.ntmps81
  go_wp2_with (first
   | (go_at_call 110;refine(isNameR_any z.name _ HZ1.out).mono ?_;rintro e w' ⟨rfl,rfl⟩;rw[h1])
   | (go_at_call 113;refine(offsetR_any _ _).mono ?_;rintro e w' ⟨rfl,rfl⟩;rw[h2]))
  go_ret
  exact⟨by rw[HE.out];rfl,(Below.refl _ _).alloc (Nat.le_refl _) _⟩
 have HE:Hid (zoneE z=firstErr (shiftErr z.shifts) z.shifts.length):=by show _=_;unfold zoneE;rw[if_neg (by rw[h1];decide),if_neg (by rw[h2];decide),if_neg h3]
 have hb0:Below w.heap.size w (w.alloc (.cells #[.string z.name,.int .i64 z.off,.slice A z.shifts.length c] 98)):=(Below.refl _ _).alloc (Nat.le_refl _) _;have hbx:(w.alloc (.cells #[.string z.name,.int .i64 z.off,.slice A z.shifts.length c] 98)).cell? ⟨w.heap.size,2,none⟩=some (.slice A z.shifts.length c):=by
  rw[World.cell?_alloc_at _ _ _ _ rfl];rfl
 go_enter Tryz.func81,Tryz.ntmps81
 go_wp2_with (first
  | (go_at_call 110;refine(isNameR_any z.name _ HZ1.out).mono ?_;rintro e w' ⟨rfl,rfl⟩;rw[h1])
  | (go_at_call 113;refine(offsetR_any _ _).mono ?_;rintro e w' ⟨rfl,rfl⟩;rw[h2]))
 generalize hW:w.alloc (.cells #[.string z.name,.int .i64 z.off,.slice A z.shifts.length c] 98)=W at*;have HSL:=Lib.hid (hsl.keep (all_keep hb0));clear hsl hW;go_loopw [2,3] (fun _ i wr => ∃ k m:Nat,k≤z.shifts.length∧i=.int .i64 k∧wr=W.drewN m∧Hid (zeroTo (shiftErr z.shifts) k)) (fun _ i _=>z.shifts.length-(intOf i).toNat)
 case atStart=>exact⟨0,0,Nat.zero_le _,rfl,rfl,zeroTo_zero _⟩
 case round =>
  obtain⟨k,m,hk,rfl,rfl,HK⟩:=hrel
  by_cases hlt:k<z.shifts.length
  ·obtain⟨b,o,rfl,hbS,hc0,hc1⟩:=HSL.out.shift_at hlt;have HERR:Hid (shiftErr z.shifts k=if insOk (z.shifts.getD k noShift).at_=false∨offOk (z.shifts.getD k noShift).off=false then 5 else if 0<k∧(z.shifts.getD k noShift).at_≤(z.shifts.getD (k-1) noShift).at_ then 8 else 0):=rfl;generalize hs:z.shifts.getD k noShift=s at*;clear hs
   by_cases hi:insOk s.at_=true
   case neg =>
    have hi':insOk s.at_=false:=by simpa using hi
    have HF:Hid (zoneE z=5):=by
     have h9:shiftErr z.shifts k=5:=by rw[HERR.out,if_pos (.inl hi')]
     rw[HE.out,firstErr_hit HK.out (by rw[h9];decide) hlt,h9];rfl
    clear hi;go_wp2_with (go_at_call 114;refine(instantR_any _ _).mono ?_;rintro e w' ⟨rfl,rfl⟩;rw[hi'])
    go_ret
    exact⟨by rw[HF.out];rfl,below_drewN hb0 _⟩
   by_cases ho:offOk s.off=true
   case neg =>
    have ho':offOk s.off=false:=by simpa using ho
    have HF:Hid (zoneE z=5):=by
     have h9:shiftErr z.shifts k=5:=by rw[HERR.out,if_pos (.inr ho')]
     rw[HE.out,firstErr_hit HK.out (by rw[h9];decide) hlt,h9];rfl
    clear ho;go_wp2_with (first
     | (go_at_call 114;refine(instantR_any _ _).mono ?_;rintro e w' ⟨rfl,rfl⟩;rw[hi])
     | (go_at_call 113;refine(offsetR_any _ _).mono ?_;rintro e w' ⟨rfl,rfl⟩;rw[ho']))
    go_ret
    exact⟨by rw[HF.out];rfl,below_drewN hb0 _⟩
   rcases Nat.eq_zero_or_pos k with rfl|hk0
   ·have HZ:Hid (zeroTo (shiftErr z.shifts) (0+1)):=zeroTo_succ HK.out (by rw[HERR.out,if_neg (by rw[hi,ho];simp),if_neg (fun h=>absurd h.1 (by omega))]);simp only[Nat.zero_mul,Nat.add_zero]at hc0 hc1;go_wp2_with (first
     | (go_at_call 114;refine(instantR_any _ _).mono ?_;rintro e w' ⟨rfl,rfl⟩;rw[hi])
     | (go_at_call 113;refine(offsetR_any _ _).mono ?_;rintro e w' ⟨rfl,rfl⟩;rw[ho]))
    go_quiet (fail)
    go_wp2_with fail
    go_roundw
    case rel=>exact⟨0+1,_,by omega,rfl,rfl,HZ⟩
    case measure=>simp[intOf];omega
   ·obtain⟨b',o',e',_,hp0,_⟩:=HSL.out.shift_at (k:=k-1) (by omega);simp only[Option.some.injEq,Addr.mk.injEq,and_true]at e';obtain⟨rfl,rfl⟩:=e';generalize hp:z.shifts.getD (k-1) noShift=p at*;clear hp;go_wp2_with (first
     | (go_at_call 114;refine(instantR_any _ _).mono ?_;rintro e w' ⟨rfl,rfl⟩;rw[hi])
     | (go_at_call 113;refine(offsetR_any _ _).mono ?_;rintro e w' ⟨rfl,rfl⟩;rw[ho]))
    have wr1:IntKind.i64.wrap ((k:Int)-1)=(k:Int)-1:=IntWalk.i64_in _ (by omega);have wr2:0≤(k:Int)-1:=by omega
    have wr3:(k:Int)-1<(z.shifts.length:Int):=by omega
    have wr4:((k:Int)-1).toNat=k-1:=by omega
    have wr5:(k:Int)<(z.shifts.length:Int):=by omega
    have wr6:0≤(k:Int):=by omega
    go_quiet (fail)
    clear wr1 wr2 wr3 wr4 wr5 wr6
    by_cases hle:s.at_≤p.at_
    ·have HF:Hid (zoneE z=8):=by
      have h9:shiftErr z.shifts k=8:=by rw[HERR.out,if_neg (by rw[hi,ho];simp),if_pos ⟨hk0,hle⟩]
      rw[HE.out,firstErr_hit HK.out (by rw[h9];decide) hlt,h9];rfl
     go_wp2_with fail
     go_ret
     exact⟨by rw[HF.out];rfl,below_drewN (below_drewN hb0 _) _⟩
    ·have HZ:Hid (zeroTo (shiftErr z.shifts) (k+1)):=zeroTo_succ HK.out (by rw[HERR.out,if_neg (by rw[hi,ho];simp),if_neg (fun h=>hle h.2)]);go_wp2_with fail
     go_roundw
     case rel=>exact⟨k+1,_,by omega,by go_num,rfl,HZ⟩
     case measure=>simp[intOf];omega
  ·have HF:Hid (zoneE z=0):=by rw[HE.out];exact firstErr_none (by rw[show z.shifts.length=k by omega];exact HK.out)
   go_wp2_with fail
   go_ret
   exact⟨by rw[HF.out];rfl,below_drewN hb0 _⟩
end Go.Proofs.YtifconapjfdkcaaGreatDoor
namespace Go.Proofs.YtifconapjfdkcaaGreatDoor
set_option linter.unusedSimpArgs false
set_option linter.unusedVariables false
open Go.RowKit
def idxOf(l:List ByteArray)(a:ByteArray):Int:=if hasB l a=true then ((l.findIdx fun b=>decide (a=b):Nat):Int) else -1
theorem idxOf_none{l:List ByteArray}{a:ByteArray}(h:hasB l a=false):idxOf l a = -1:=by unfold idxOf;rw[if_neg (by rw[h];decide)]
theorem idxOf_hit{l:List ByteArray}{a:ByteArray}{k:Nat}(hk:k<l.length)(h0:hasB (l.take k) a=false)(h1:l[k]=a):idxOf l a=k:=by
 have hm:hasB l a=true:=(hasB_iff l a).2 (h1▸List.getElem_mem hk);unfold idxOf;rw[if_pos hm]
 congr 1
 rw[List.findIdx_eq hk];refine⟨by rw[h1];simp,fun j hj =>?_⟩;rw[decide_eq_false_iff_not];intro e;have:hasB (l.take k) a=true:=(hasB_iff _ a).2 (by rw[e];exact List.mem_take_iff_getElem.2 ⟨j,by omega,rfl⟩);rw[h0]at this
 cases this
theorem idxOf_hit'{l:List ByteArray}{a:ByteArray}{k:Nat}(h0:hasB (l.take k) a=false)(h1:l[k]? = some a):idxOf l a=k:=by
 obtain⟨hk,h2⟩:=List.getElem?_eq_some_iff.1 h1;exact idxOf_hit hk h0 h2
theorem hasB_next{l:List ByteArray}{a x:ByteArray}{k:Nat}(h0:hasB (l.take k) a=false)(h1:l[k]? = some x)(hne : ¬x=a):hasB (l.take (k+1)) a=false:=by
 obtain⟨hk,h2⟩:=List.getElem?_eq_some_iff.1 h1;rw[List.take_succ_eq_append_getElem hk,hasB_snoc,h0,h2,decide_eq_false (fun e=>hne e.symm)];rfl
theorem idxOf_neg(l:List ByteArray)(a:ByteArray):decide (idxOf l a<0) = !hasB l a:=by
 unfold idxOf
 cases h:hasB l a
 ·rfl
 ·simp
theorem Sl.take{α : Type}{t:Ty α}{w:World}{S:Nat→Prop}{A:Option Addr}{n c:Nat}{xs:List α}(h:Sl t w S A n c xs){k:Nat}(hk:k≤n):Sl t w S A k c (xs.take k):=by
 obtain⟨h1,h2,h3,h4⟩:=h;refine⟨by rw[List.length_take];omega,by omega,h3,fun h0 =>?_⟩;obtain⟨b,o,e,hs,hx⟩:=h4 (by omega);refine⟨b,o,e,hs,fun i x hi=>hx i x ?_⟩;rw[List.getElem?_take]at hi;split at hi
 ·exact hi
 ·cases hi
theorem zoneIndex_any(zs:List GZone)(a:ByteArray)(A:Option Addr)(n c:Nat)(S:Nat→Prop)(w:World)(hsl:Sl Ty.zone w S A n c zs) :
 Calls Tryz.prog 82 #[.slice A n c,.string a] w fun e w'=>e=.returned (.int .i64 (idxOf (zNames zs) a))∧w=w':=by
 have hn:=hsl.len;have hnl:=hsl.le;unfold maxLen at hnl;subst hn;have HSL:=Lib.hid hsl;clear hsl
 go_enter Tryz.func82,Tryz.ntmps82
 go_wp2_with fail
 go_loop [4,5] (fun _ i => ∃ k:Nat,k≤zs.length∧i=.int .i64 k∧Hid (hasB ((zNames zs).take k) a=false)) (fun _ i=>zs.length-(intOf i).toNat)
 case atStart=>exact⟨0,Nat.zero_le _,rfl,rfl⟩
 case round =>
  obtain⟨k,hk,rfl,HK⟩:=hrel;have hzl:(zNames zs).length=zs.length:=by unfold zNames;rw[List.length_map]
  by_cases hlt:k<zs.length
  ·obtain⟨b,o,A',n',c',rfl,hbS,hc0,_,_,_⟩:=HSL.out.zone_at hlt;have he:(zNames zs)[k]? = some (zs.getD k noZone).name:=by
    unfold zNames;rw[List.getElem?_map,List.getD_eq_getElem?_getD,List.getElem?_eq_getElem hlt];rfl
   generalize hz:(zs.getD k noZone).name=nm at*;have HE:=Lib.hid he;clear hz hzl he
   by_cases hq:nm=a
   ·have hb:(nm.toList==a.toList)=true:=by rw[str_beq,decide_eq_true hq]
    have HR:Hid (idxOf (zNames zs) a=k):=idxOf_hit' HK.out (by rw[HE.out,hq]);clear hq;go_wp2_with fail
    go_ret
    exact⟨ret_int HR.out.symm,rfl⟩
   ·have hb:(nm.toList==a.toList)=false:=by rw[str_beq,decide_eq_false hq]
    have HN:Hid (hasB ((zNames zs).take (k+1)) a=false):=hasB_next HK.out HE.out hq;clear hq;go_wp2_with fail
    go_round
    case rel=>exact⟨k+1,by omega,by go_num,HN⟩
    case measure=>simp[intOf];omega
  ·have HR:Hid (idxOf (zNames zs) a = -1):=idxOf_none (by
    have:=HK.out
    rwa [List.take_of_length_le (by omega)]at this)
   clear hzl;go_wp2_with fail
   go_ret
   exact⟨ret_int HR.out.symm,rfl⟩
theorem airportIndex_any(l:List GAirport)(a:ByteArray)(A:Option Addr)(n c:Nat)(S:Nat→Prop)(w:World)(hsl:Sl Ty.airport w S A n c l) :
 Calls Tryz.prog 74 #[.slice A n c,.string a] w fun e w'=>e=.returned (.int .i64 (idxOf (aCodes l) a))∧w=w':=by
 have hn:=hsl.len;have hnl:=hsl.le;unfold maxLen at hnl;subst hn;have HSL:=Lib.hid hsl;clear hsl
 go_enter Tryz.func74,Tryz.ntmps74
 go_wp2_with fail
 go_loop [4,5] (fun _ i => ∃ k:Nat,k≤l.length∧i=.int .i64 k∧Hid (hasB ((aCodes l).take k) a=false)) (fun _ i=>l.length-(intOf i).toNat)
 case atStart=>exact⟨0,Nat.zero_le _,rfl,rfl⟩
 case round =>
  obtain⟨k,hk,rfl,HK⟩:=hrel;have hzl:(aCodes l).length=l.length:=by unfold aCodes;rw[List.length_map]
  by_cases hlt:k<l.length
  ·obtain⟨b,o,rfl,hbS,hc0,_⟩:=HSL.out.airport_at hlt;have he:(aCodes l)[k]? = some (l.getD k noAirport).code:=by
    unfold aCodes;rw[List.getElem?_map,List.getD_eq_getElem?_getD,List.getElem?_eq_getElem hlt];rfl
   generalize hz:(l.getD k noAirport).code=nm at*;have HE:=Lib.hid he;clear hz hzl he
   by_cases hq:nm=a
   ·have hb:(nm.toList==a.toList)=true:=by rw[str_beq,decide_eq_true hq]
    have HR:Hid (idxOf (aCodes l) a=k):=idxOf_hit' HK.out (by rw[HE.out,hq]);clear hq;go_wp2_with fail
    go_ret
    exact⟨ret_int HR.out.symm,rfl⟩
   ·have hb:(nm.toList==a.toList)=false:=by rw[str_beq,decide_eq_false hq]
    have HN:Hid (hasB ((aCodes l).take (k+1)) a=false):=hasB_next HK.out HE.out hq;clear hq;go_wp2_with fail
    go_round
    case rel=>exact⟨k+1,by omega,by go_num,HN⟩
    case measure=>simp[intOf];omega
  ·have HR:Hid (idxOf (aCodes l) a = -1):=idxOf_none (by
    have:=HK.out
    rwa [List.take_of_length_le (by omega)]at this)
   clear hzl;go_wp2_with fail
   go_ret
   exact⟨ret_int HR.out.symm,rfl⟩
end Go.Proofs.YtifconapjfdkcaaGreatDoor
namespace Go.Proofs.YtifconapjfdkcaaGreatDoor
set_option linter.unusedSimpArgs false
set_option linter.unusedVariables false
open Go.RowKit
theorem bytesLess_total(a b:List UInt8):Op.bytesLess a b=false↔Op.bytesLess b a=true∨b=a:=by
 induction a generalizing b with
 | nil=>cases b <;> simp[Op.bytesLess]
 | cons x a ih =>
  cases b with
  | nil=>simp[Op.bytesLess]
  | cons y b =>
   simp only[Op.bytesLess,Bool.or_eq_false_iff,decide_eq_false_iff_not,Bool.and_eq_false_iff,beq_eq_false_iff_ne,Bool.or_eq_true,decide_eq_true_eq,Bool.and_eq_true,beq_iff_eq,List.cons.injEq];have ih':=ih b
   by_cases hxy:x=y
   ·subst hxy;simp only[UInt8.lt_irrefl,not_false_eq_true,true_and,ne_eq,not_true_eq_false,false_or];exact ih'
   ·have h1:x<y∨y<x:=by
     rcases Nat.lt_trichotomy x.toNat y.toNat with h|h|h
     ·left;exact h
     ·exact absurd (UInt8.toNat.inj h) hxy
     ·right;exact h
    have h2 : ¬(x<y∧y<x):=by
     rintro⟨h,h'⟩;have a1:x.toNat<y.toNat:=h;have a2:y.toNat<x.toNat:=h';omega
    constructor
    ·rintro⟨h3,_⟩;left;left
     rcases h1 with h1|h1
     ·exact absurd h1 h3
     ·exact h1
    ·rintro ((h3|⟨h3,_⟩)|⟨h3,_⟩)
     ·exact⟨fun h4=>h2 ⟨h4,h3⟩,.inl hxy⟩
     ·exact absurd h3.symm hxy
     ·exact absurd h3.symm hxy
theorem before_ref(g f:GFlight):beforeB g f=false↔f.dep<g.dep∨(f.dep=g.dep∧(Op.bytesLess f.number.toList g.number.toList=true∨f.number.toList=g.number.toList)):=by
 unfold beforeB
 by_cases h:g.dep=f.dep
 ·rw[if_pos h,bytesLess_total];constructor
  ·intro h1;exact .inr ⟨h.symm,h1⟩
  ·rintro (h1|⟨_,h1⟩)
   ·omega
   ·exact h1
 ·rw[if_neg h,decide_eq_false_iff_not];constructor
  ·intro h1;left;omega
  ·rintro (h1|⟨h1,_⟩) <;> omega
set_option maxRecDepth 100000 in
set_option maxHeartbeats 3200000 in
theorem flightR_any(t:GTT)(i:Nat)(A1 A2 A3:Option Addr)(n1 n2 n3 c1 c2 c3:Nat)(w:World)(ht:t.ok)(hs2:Sl Ty.airport w (all_ w) A2 n2 c2 t.airports)(hs3:Sl Ty.flight w (all_ w) A3 n3 c3 t.flights)(hi:i<n3) :
 Calls Tryz.prog 84 #[.agg #[.slice A1 n1 c1,.slice A2 n2 c2,.slice A3 n3 c3],.int .i64 i] w (ErrPost (fErr (aCodes t.airports) t.flights i) w):=by
 have e3:=hs3.len;have m3:=hs3.le;unfold maxLen at m3;obtain⟨b,o,rfl,hbS,hat⟩:=hs3.flight_at (k:=i) (by omega);have hfok:=ht.2.2 _ (getD_mem0 (show i<t.flights.length by omega) noFlight);have HERR:Hid (fErr (aCodes t.airports) t.flights i=if flightE (aCodes t.airports) (t.flights.getD i noFlight)≠0 then flightE (aCodes t.airports) (t.flights.getD i noFlight) else if 0<i∧beforeB (t.flights.getD (i-1) noFlight) (t.flights.getD i noFlight)=false then 8 else 0):=rfl;have hb0 : ∀ o1,Below w.heap.size w (w.alloc o1):=fun o1=>(Below.refl _ _).alloc (Nat.le_refl _) _
 have hb1 : ∀ o1 o2,Below w.heap.size w ((w.alloc o1).alloc o2):=fun o1 o2=>(hb0 o1).alloc (by simp) _
 have HS2:Hid (∀ o1 o2,Sl Ty.airport ((w.alloc o1).alloc o2) (all_ ((w.alloc o1).alloc o2)) A2 n2 c2 t.airports):=fun o1 o2=>hs2.next (hb1 o1 o2)
 generalize hz:t.flights.getD i noFlight=f at*;obtain⟨q1,q2,q3,q4,⟨d1,d2⟩,⟨a1,a2⟩,x0,x1,x2⟩:=hfok;have y0:w.cell? ⟨b,o+i*9,none⟩=some (.string f.number):=hat 0 _ rfl;have y1:=hat 1 _ rfl;have y2:=hat 2 _ rfl;have y3:=hat 3 _ rfl;have y4:=hat 4 _ rfl;have y5:=hat 5 _ rfl;have y6:=hat 6 _ rfl;have y7:=hat 7 _ rfl;have y8:=hat 8 _ rfl;have hbl:b<w.heap.size:=hbS;have hbne:b≠w.heap.size:=by omega
 have Q1:=Lib.hid q1;have Q4:=Lib.hid q4;have HB1:=Lib.hid hb1;clear q1 q2 q3 q4 x0 x1 x2 hz hat e3 hb0 hb1
 go_enter Tryz.func84,Tryz.ntmps84
 have hsl3:=hs3.next ((Below.refl _ _).alloc (Nat.le_refl _) (.cells #[.slice A1 n1 c1,.slice A2 n2 c2,.slice (some ⟨b,o,none⟩) n3 c3] 27));have hz1 : ∀ j,((w.alloc (.cells #[.slice A1 n1 c1,.slice A2 n2 c2,.slice (some ⟨b,o,none⟩) n3 c3] 27)).alloc (.cells #[.string f.number,.string f.src,.string f.dst,.int .i64 f.dep,.int .i64 f.arr,.string f.kind,.int .i64 f.n0,.int .i64 f.n1,.int .i64 f.n2] 62)).cell? ⟨w.heap.size+1,j,none⟩=(#[.string f.number,.string f.src,.string f.dst,.int .i64 f.dep,.int .i64 f.arr,.string f.kind,.int .i64 f.n0,.int .i64 f.n1,.int .i64 f.n2]:Array Value)[j]? :=fun j=>by rw[World.cell?_alloc_at _ _ _ _ (by simp)]
 have hz2:((w.alloc (.cells #[.slice A1 n1 c1,.slice A2 n2 c2,.slice (some ⟨b,o,none⟩) n3 c3] 27)).alloc (.cells #[.string f.number,.string f.src,.string f.dst,.int .i64 f.dep,.int .i64 f.arr,.string f.kind,.int .i64 f.n0,.int .i64 f.n1,.int .i64 f.n2] 62)).cell? ⟨w.heap.size,1,none⟩=some (.slice A2 n2 c2):=by rw[World.cell?_alloc_past _ _ _ (by simp),World.cell?_alloc_at _ _ _ _ rfl];rfl
 have hz3:((w.alloc (.cells #[.slice A1 n1 c1,.slice A2 n2 c2,.slice (some ⟨b,o,none⟩) n3 c3] 27)).alloc (.cells #[.string f.number,.string f.src,.string f.dst,.int .i64 f.dep,.int .i64 f.arr,.string f.kind,.int .i64 f.n0,.int .i64 f.n1,.int .i64 f.n2] 62)).cell? ⟨w.heap.size,2,none⟩=some (.slice (some ⟨b,o,none⟩) n3 c3):=by rw[World.cell?_alloc_past _ _ _ (by simp),World.cell?_alloc_at _ _ _ _ rfl];rfl
 have hsw:((w.alloc (.cells #[.slice A1 n1 c1,.slice A2 n2 c2,.slice (some ⟨b,o,none⟩) n3 c3] 27)).alloc (.cells #[.string f.number,.string f.src,.string f.dst,.int .i64 f.dep,.int .i64 f.arr,.string f.kind,.int .i64 f.n0,.int .i64 f.n1,.int .i64 f.n2] 62)).heap.size=w.heap.size+2:=by simp
 go_wp2_with fail
 have hbw:=HB1.out (.cells #[.slice A1 n1 c1,.slice A2 n2 c2,.slice (some ⟨b,o,none⟩) n3 c3] 27) (.cells #[.string f.number,.string f.src,.string f.dst,.int .i64 f.dep,.int .i64 f.arr,.string f.kind,.int .i64 f.n0,.int .i64 f.n1,.int .i64 f.n2] 62);have hs2w:=HS2.out (.cells #[.slice A1 n1 c1,.slice A2 n2 c2,.slice (some ⟨b,o,none⟩) n3 c3] 27) (.cells #[.string f.number,.string f.src,.string f.dst,.int .i64 f.dep,.int .i64 f.arr,.string f.kind,.int .i64 f.n0,.int .i64 f.n1,.int .i64 f.n2] 62);have hs3w:=hs3.next hbw;generalize hW:((w.alloc (.cells #[.slice A1 n1 c1,.slice A2 n2 c2,.slice (some ⟨b,o,none⟩) n3 c3] 27)).alloc (.cells #[.string f.number,.string f.src,.string f.dst,.int .i64 f.dep,.int .i64 f.arr,.string f.kind,.int .i64 f.n0,.int .i64 f.n1,.int .i64 f.n2] 62))=W at*;have HB:=Lib.hid hbw;have HS3:=Lib.hid hs3w;have HA:=Lib.hid hs2w;have z0:=hz1 0;have z1:=hz1 1;have z2:=hz1 2;have z3:=hz1 3;have z4:=hz1 4;have z5:=hz1 5;have z6:=hz1 6;have z7:=hz1 7;have z8:=hz1 8;simp only[List.getElem?_toArray,List.getElem?_cons_zero,List.getElem?_cons_succ]at z0 z1 z2 z3 z4 z5 z6 z7 z8;have HSW:=Lib.hid hsw;clear hW hs2 hs3 hsl3 hs2w hs3w hbw hz1 y0 y1 y2 y3 y4 y5 y6 y7 y8 HS2 HB1 hsw hbne;refine(isCodeR_any f.number _ Q1.out).mono ?_;rintro e w' ⟨rfl,rfl⟩
 by_cases h1:isCodeB f.number=true
 case neg =>
  have h1':isCodeB f.number=false:=by simpa using h1
  have HR:Hid (fErr (aCodes t.airports) t.flights i=1):=by
   have h9:flightE (aCodes t.airports) f=1:=by unfold flightE;rw[if_pos (.inl h1')]
   rw[HERR.out,h9];rfl
  rw[h1'];clear h1;go_wp2_with fail
  go_ret
  exact⟨by rw[HR.out];rfl,HB.out⟩
 rw[h1];go_wp2_with fail
 refine(isNameR_any f.kind _ Q4.out).mono ?_;rintro e w' ⟨rfl,rfl⟩
 by_cases h2:isNameB f.kind=true
 case neg =>
  have h2':isNameB f.kind=false:=by simpa using h2
  have HR:Hid (fErr (aCodes t.airports) t.flights i=1):=by
   have h9:flightE (aCodes t.airports) f=1:=by unfold flightE;rw[if_pos (.inr h2')]
   rw[HERR.out,h9];rfl
  rw[h2'];clear h2;go_wp2_with fail
  go_ret
  exact⟨by rw[HR.out];rfl,HB.out⟩
 rw[h2];go_wp2_with fail
 refine(airportIndex_any t.airports f.src _ _ _ _ _ HA.out).mono ?_;rintro e w' ⟨rfl,rfl⟩
 by_cases h3:hasB (aCodes t.airports) f.src=true
 case neg =>
  have h3':hasB (aCodes t.airports) f.src=false:=by simpa using h3
  have HR:Hid (fErr (aCodes t.airports) t.flights i=6):=by
   have h9:flightE (aCodes t.airports) f=6:=by unfold flightE;rw[if_neg (by rw[h1,h2];simp),if_pos (.inl h3')]
   rw[HERR.out,h9];rfl
  rw[idxOf_none h3'];clear h3 h3';go_wp2_with fail
  go_ret
  exact⟨by rw[HR.out];rfl,HB.out⟩
 have hge3:0≤idxOf (aCodes t.airports) f.src:=by
  have:=idxOf_neg (aCodes t.airports) f.src;rw[h3]at this;simpa using this
 generalize idxOf (aCodes t.airports) f.src=ix at*;go_wp2_with fail
 refine(airportIndex_any t.airports f.dst _ _ _ _ _ HA.out).mono ?_;rintro e w' ⟨rfl,rfl⟩
 by_cases h4:hasB (aCodes t.airports) f.dst=true
 case neg =>
  have h4':hasB (aCodes t.airports) f.dst=false:=by simpa using h4
  have HR:Hid (fErr (aCodes t.airports) t.flights i=6):=by
   have h9:flightE (aCodes t.airports) f=6:=by unfold flightE;rw[if_neg (by rw[h1,h2];simp),if_pos (.inr h4')]
   rw[HERR.out,h9];rfl
  rw[idxOf_none h4'];clear h4 h4';go_wp2_with fail
  go_ret
  exact⟨by rw[HR.out];rfl,HB.out⟩
 have hge4:0≤idxOf (aCodes t.airports) f.dst:=by
  have:=idxOf_neg (aCodes t.airports) f.dst;rw[h4]at this;simpa using this
 generalize idxOf (aCodes t.airports) f.dst=iy at*
 by_cases h5:f.src=f.dst
 case pos =>
  have HR:Hid (fErr (aCodes t.airports) t.flights i=14):=by
   have h9:flightE (aCodes t.airports) f=14:=by unfold flightE;rw[if_neg (by rw[h1,h2];simp),if_neg (by rw[h3,h4];simp),if_pos h5]
   rw[HERR.out,h9];rfl
  have e5:(f.src.toList==f.dst.toList)=true:=by rw[str_beq,decide_eq_true h5]
  clear h5;go_wp2_with fail
  go_ret
  exact⟨by rw[HR.out];rfl,HB.out⟩
 have e5:(f.src.toList==f.dst.toList)=false:=by rw[str_beq,decide_eq_false h5]
 by_cases h6:f.dep<2880∨52593120<f.arr∨f.arr≤f.dep∨1440<f.arr-f.dep
 case pos =>
  have HR:Hid (fErr (aCodes t.airports) t.flights i=5):=by
   have h9:flightE (aCodes t.airports) f=5:=by unfold flightE;rw[if_neg (by rw[h1,h2];simp),if_neg (by rw[h3,h4];simp),if_neg h5,if_pos h6]
   rw[HERR.out,h9];rfl
  have h6':f.dep<2880∨(¬f.dep<2880∧52593120<f.arr)∨(¬f.dep<2880 ∧ ¬52593120<f.arr∧f.arr≤f.dep)∨(¬f.dep<2880 ∧ ¬52593120<f.arr ∧ ¬f.arr≤f.dep∧1440<f.arr-f.dep):=by omega
  clear h5 h6;rcases h6' with h|⟨h,h'⟩|⟨h,h',h''⟩|⟨h,h',h'',h3'⟩
  all_goals
   go_wp2_with fail
   go_ret
   exact⟨by rw[HR.out];rfl,HB.out⟩
 have HFE:Hid (flightE (aCodes t.airports) f=if needOk f.n0=false∨needOk f.n1=false∨needOk f.n2=false then 5 else 0):=by show _=_;unfold flightE;rw[if_neg (by rw[h1,h2];simp),if_neg (by rw[h3,h4];simp),if_neg h5,if_neg h6]
 have r1:2880≤f.dep:=by omega
 have r2:f.arr≤52593120:=by omega
 have r3:f.dep<f.arr:=by omega
 have r4:f.arr-f.dep≤1440:=by omega
 clear h5 h6;go_wp2_with fail
 go_loop [4,6] (fun _ r => ∃ k:Nat,k≤3∧r=.int .i64 k∧Hid ((1≤k→needOk f.n0=true)∧(2≤k→needOk f.n1=true)∧(3≤k→needOk f.n2=true))) (fun _ r=>3-(intOf r).toNat)
 case atStart=>exact⟨0,by omega,rfl,fun h=>absurd h (by omega),fun h=>absurd h (by omega),fun h=>absurd h (by omega)⟩
 case round =>
  obtain⟨k,hk,rfl,HK⟩:=hrel;have hk':k=0∨k=1∨k=2∨k=3:=by omega
  rcases hk' with rfl|rfl|rfl|rfl
  ·by_cases hn:needOk f.n0=true
   ·have hn':=hn;unfold needOk at hn';simp only[Bool.and_eq_true,decide_eq_true_eq]at hn';have HN:=Lib.hid hn;clear hn;obtain⟨s1,s2⟩:=hn';go_wp2_with fail
    go_round
    case rel=>exact⟨0+1,by omega,rfl,fun _=>HN.out,fun h=>absurd h (by omega),fun h=>absurd h (by omega)⟩
    case measure=>simp[intOf]
   ·have hn':needOk f.n0=false:=by simpa using hn
    have HR:Hid (fErr (aCodes t.airports) t.flights i=5):=by
     have h9:flightE (aCodes t.airports) f=5:=by rw[HFE.out,if_pos (.inl hn')]
     rw[HERR.out,h9];rfl
    unfold needOk at hn';simp only[Bool.and_eq_false_iff,decide_eq_false_iff_not]at hn';clear hn;have hn2:f.n0<0∨(¬f.n0<0∧8<f.n0):=by omega
    clear hn';rcases hn2 with h|⟨h,h'⟩
    all_goals
     go_wp2_with fail
     go_ret
     exact⟨by rw[HR.out];rfl,HB.out⟩
  ·by_cases hn:needOk f.n1=true
   ·have hn':=hn;unfold needOk at hn';simp only[Bool.and_eq_true,decide_eq_true_eq]at hn';have HN:=Lib.hid hn;clear hn;obtain⟨s1,s2⟩:=hn';go_wp2_with fail
    go_round
    case rel=>exact⟨1+1,by omega,rfl,fun _=>HK.out.1 (by omega),fun _=>HN.out,fun h=>absurd h (by omega)⟩
    case measure=>simp[intOf]
   ·have hn':needOk f.n1=false:=by simpa using hn
    have HR:Hid (fErr (aCodes t.airports) t.flights i=5):=by
     have h9:flightE (aCodes t.airports) f=5:=by rw[HFE.out,if_pos (.inr (.inl hn'))]
     rw[HERR.out,h9];rfl
    unfold needOk at hn';simp only[Bool.and_eq_false_iff,decide_eq_false_iff_not]at hn';clear hn;have hn2:f.n1<0∨(¬f.n1<0∧8<f.n1):=by omega
    clear hn';rcases hn2 with h|⟨h,h'⟩
    all_goals
     go_wp2_with fail
     go_ret
     exact⟨by rw[HR.out];rfl,HB.out⟩
  ·by_cases hn:needOk f.n2=true
   ·have hn':=hn;unfold needOk at hn';simp only[Bool.and_eq_true,decide_eq_true_eq]at hn';have HN:=Lib.hid hn;clear hn;obtain⟨s1,s2⟩:=hn';go_wp2_with fail
    go_round
    case rel=>exact⟨2+1,by omega,rfl,fun _=>HK.out.1 (by omega),fun _=>HK.out.2.1 (by omega),fun _=>HN.out⟩
    case measure=>simp[intOf]
   ·have hn':needOk f.n2=false:=by simpa using hn
    have HR:Hid (fErr (aCodes t.airports) t.flights i=5):=by
     have h9:flightE (aCodes t.airports) f=5:=by rw[HFE.out,if_pos (.inr (.inr hn'))]
     rw[HERR.out,h9];rfl
    unfold needOk at hn';simp only[Bool.and_eq_false_iff,decide_eq_false_iff_not]at hn';clear hn;have hn2:f.n2<0∨(¬f.n2<0∧8<f.n2):=by omega
    clear hn';rcases hn2 with h|⟨h,h'⟩
    all_goals
     go_wp2_with fail
     go_ret
     exact⟨by rw[HR.out];rfl,HB.out⟩
  ·have HF0:Hid (flightE (aCodes t.airports) f=0):=by
    obtain⟨g1,g2,g3⟩:=HK.out;rw[HFE.out,if_neg (by rw[g1 (by omega),g2 (by omega),g3 (by omega)];simp)];rfl
   clear HK HFE;rcases Nat.eq_zero_or_pos i with rfl|hi0
   ·have HR:Hid (fErr (aCodes t.airports) t.flights 0=0):=by rw[HERR.out,HF0.out];rfl
    go_wp2_with fail
    go_ret
    exact⟨by rw[HR.out];rfl,HB.out⟩
   ·obtain⟨b',o',e',_,hat⟩:=HS3.out.flight_at (k:=i-1) (by have:=HS3.out.len;omega);simp only[Option.some.injEq,Addr.mk.injEq,and_true]at e';obtain⟨rfl,rfl⟩:=e';have HBEF:=Lib.hid (before_ref (t.flights.getD (i-1) noFlight) f);generalize hp:t.flights.getD (i-1) noFlight=p at*;have y0:W.cell? ⟨b,o+(i-1)*9,none⟩=some (.string p.number):=hat 0 _ rfl;have y1:=hat 1 _ rfl;have y2:=hat 2 _ rfl;have y3:=hat 3 _ rfl;have y4:=hat 4 _ rfl;have y5:=hat 5 _ rfl;have y6:=hat 6 _ rfl;have y7:=hat 7 _ rfl;have y8:=hat 8 _ rfl;have hbl2:b<W.heap.size:=by have:=HSW.out;omega
    have hbne2:b≠W.heap.size:=by omega
    have hwl:w.heap.size+1<W.heap.size:=by have:=HSW.out;omega
    have zz0:(W.alloc (.cells #[.string p.number,.string p.src,.string p.dst,.int .i64 p.dep,.int .i64 p.arr,.string p.kind,.int .i64 p.n0,.int .i64 p.n1,.int .i64 p.n2] 62)).cell? ⟨w.heap.size+1,0,none⟩=some (.string f.number):=by rw[World.cell?_alloc_past _ _ _ hwl];exact z0
    have zz3:(W.alloc (.cells #[.string p.number,.string p.src,.string p.dst,.int .i64 p.dep,.int .i64 p.arr,.string p.kind,.int .i64 p.n0,.int .i64 p.n1,.int .i64 p.n2] 62)).cell? ⟨w.heap.size+1,3,none⟩=some (.int .i64 f.dep):=by rw[World.cell?_alloc_past _ _ _ hwl];exact z3
    have HBX:Hid (∀ ob,Below w.heap.size w (W.alloc ob)):=fun ob=>HB.out.alloc (by have:=HSW.out;omega) _
    clear hp hat
    by_cases hd1:f.dep<p.dep
    ·have HR:Hid (fErr (aCodes t.airports) t.flights i=8):=by rw[HERR.out,HF0.out,if_neg (by simp),if_pos ⟨hi0,HBEF.out.2 (.inl hd1)⟩];rfl
     go_wp2_with fail
     go_ret
     exact⟨by rw[HR.out];rfl,HBX.out _⟩
    by_cases hd2:f.dep=p.dep
    ·have hdb:(f.dep==p.dep)=true:=by simpa using hd2
     have hdl:f.dep≤p.dep:=by omega
     by_cases hl:Op.bytesLess f.number.toList p.number.toList=true
     ·have HR:Hid (fErr (aCodes t.airports) t.flights i=8):=by rw[HERR.out,HF0.out,if_neg (by simp),if_pos ⟨hi0,HBEF.out.2 (.inr ⟨hd2,.inl hl⟩)⟩];rfl
      clear hd2;go_wp2_with fail
      go_ret
      exact⟨by rw[HR.out];rfl,HBX.out _⟩
     ·have hl':Op.bytesLess f.number.toList p.number.toList=false:=by simpa using hl
      by_cases hq:f.number.toList=p.number.toList
      ·have hqb:(f.number.toList==p.number.toList)=true:=by simpa using hq
       have HR:Hid (fErr (aCodes t.airports) t.flights i=8):=by rw[HERR.out,HF0.out,if_neg (by simp),if_pos ⟨hi0,HBEF.out.2 (.inr ⟨hd2,.inr hq⟩)⟩];rfl
       clear hd2 hl hq;go_wp2_with fail
       go_ret
       exact⟨by rw[HR.out];rfl,HBX.out _⟩
      ·have hqb:(f.number.toList==p.number.toList)=false:=by simpa using hq
       have HR:Hid (fErr (aCodes t.airports) t.flights i=0):=by
        rw[HERR.out,HF0.out,if_neg (by simp),if_neg]
        ·rfl
        ·rintro⟨_,h⟩;rcases HBEF.out.1 h with h|⟨_,h|h⟩
         ·exact hd1 h
         ·exact hl h
         ·exact hq h
       clear hd2 hl hq;go_wp2_with fail
       go_ret
       exact⟨by rw[HR.out];rfl,HBX.out _⟩
    ·have hdb:(f.dep==p.dep)=false:=by simpa using hd2
     have HR:Hid (fErr (aCodes t.airports) t.flights i=0):=by
      rw[HERR.out,HF0.out,if_neg (by simp),if_neg]
      ·rfl
      ·rintro⟨_,h⟩;rcases HBEF.out.1 h with h|⟨h,_⟩
       ·exact hd1 h
       ·exact hd2 h
     clear hd2;go_wp2_with fail
     go_ret
     exact⟨by rw[HR.out];rfl,HBX.out _⟩
end Go.Proofs.YtifconapjfdkcaaGreatDoor
namespace Go.Proofs.YtifconapjfdkcaaGreatDoor
set_option linter.unusedSimpArgs false
set_option linter.unusedVariables false
open Go.RowKit
theorem Sl.drewN{α : Type}{t:Ty α}{w:World}{S:Nat→Prop}{A:Option Addr}{n c:Nat}{xs:List α}(h:Sl t w S A n c xs)(m:Nat):Sl t (w.drewN m) S A n c xs:=h.keep fun _ _=>rfl
set_option maxRecDepth 100000 in
set_option maxHeartbeats 3200000 in
theorem validateR_any(t:GTT)(A1 A2 A3:Option Addr)(n1 n2 n3 c1 c2 c3:Nat)(w:World)(ht:t.ok)(hs1:Sl Ty.zone w (all_ w) A1 n1 c1 t.zones)(hs2:Sl Ty.airport w (all_ w) A2 n2 c2 t.airports)(hs3:Sl Ty.flight w (all_ w) A3 n3 c3 t.flights) :
 Calls Tryz.prog 47 #[.agg #[.slice A1 n1 c1,.slice A2 n2 c2,.slice A3 n3 c3]] w (ErrPost (ttE t) w):=by
 have HT:=Lib.hid ht;obtain⟨ok1,ok2,ok3⟩:=ht;have e1:=hs1.len;have e2:=hs2.len;have e3:=hs3.len;have m1:=hs1.le;have m2:=hs2.le;have m3:=hs3.le;have q1:=hs1.2.1;have q2:=hs2.2.1;unfold maxLen at m1 m2 m3;have HB1:Hid (∀ o1,Below w.heap.size w (w.alloc o1)):=fun o1=>(Below.refl _ _).alloc (Nat.le_refl _) _
 by_cases hbig:16<n1∨64<n2∨200<n3
 case pos =>
  have HR:Hid (ttE t=10):=by show _=_;unfold ttE;rw[if_pos (by omega)]
  have hb':16<n1∨(¬16<n1∧64<n2)∨(¬16<n1 ∧ ¬64<n2∧200<n3):=by omega
  clear hbig e1 e2 e3 hs1 hs2 hs3 ok1 ok2 ok3;rcases hb' with h|⟨h,h'⟩|⟨h,h',h''⟩
  all_goals
   go_enter Tryz.func47,Tryz.ntmps47
   go_wp2_with fail
   go_ret
   exact⟨by rw[HR.out];rfl,HB1.out _⟩
 have b1:n1≤16:=by omega
 have b2:n2≤64:=by omega
 have b3:n3≤200:=by omega
 have HR:Hid (ttE t=if firstErr (zErr t.zones) t.zones.length≠0 then firstErr (zErr t.zones) t.zones.length else
  if firstErr (aErr t.zones t.airports) t.airports.length≠0 then firstErr (aErr t.zones t.airports) t.airports.length else firstErr (fErr (aCodes t.airports) t.flights) t.flights.length):=by show _=_;unfold ttE;rw[if_neg (by omega)]
 have l1:n1≤t.zones.length:=by omega
 have l1':t.zones.length≤n1:=by omega
 have l2:n2≤t.airports.length:=by omega
 have l2':t.airports.length≤n2:=by omega
 have l3:n3≤t.flights.length:=by omega
 have l3':t.flights.length≤n3:=by omega
 clear hbig e1 e2 e3;have OK1:=Lib.hid ok1;have OK2:=Lib.hid ok2;clear ok1 ok2 ok3
 go_enter Tryz.func47,Tryz.ntmps47
 go_wp2_with fail
 have hb0:=HB1.out (.cells #[.slice A1 n1 c1,.slice A2 n2 c2,.slice A3 n3 c3] 27);have hx0 : ∀ j,(w.alloc (.cells #[.slice A1 n1 c1,.slice A2 n2 c2,.slice A3 n3 c3] 27)).cell? ⟨w.heap.size,j,none⟩=(#[Value.slice A1 n1 c1,.slice A2 n2 c2,.slice A3 n3 c3])[j]? :=fun j=>by
  rw[World.cell?_alloc_at _ _ _ _ rfl]
 have hsw:(w.alloc (.cells #[.slice A1 n1 c1,.slice A2 n2 c2,.slice A3 n3 c3] 27)).heap.size=w.heap.size+1:=by simp
 generalize hW:w.alloc (.cells #[.slice A1 n1 c1,.slice A2 n2 c2,.slice A3 n3 c3] 27)=W at*;have HX0:Hid (W.cell? ⟨w.heap.size,0,none⟩=some (.slice A1 n1 c1)):=hx0 0;have HX1:Hid (W.cell? ⟨w.heap.size,1,none⟩=some (.slice A2 n2 c2)):=hx0 1;have HX2:Hid (W.cell? ⟨w.heap.size,2,none⟩=some (.slice A3 n3 c3)):=hx0 2;have HS1:=Lib.hid (hs1.next hb0);have HS2:=Lib.hid (hs2.next hb0);have HS3:=Lib.hid (hs3.next hb0);have HW:=Lib.hid hsw;have HB0:=Lib.hid hb0;clear hs1 hs2 hs3 hW hx0 hsw hb0 HB1;go_loopw [2,3] (fun _ i wr => ∃ k:Nat,k≤n1∧i=.int .i64 k∧Below W.heap.size W wr∧Hid (zeroTo (zErr t.zones) k)) (fun _ i _=>n1-(intOf i).toNat)
 case atStart=>exact⟨0,Nat.zero_le _,rfl,Below.refl _ _,zeroTo_zero _⟩
 case round =>
  obtain⟨k,hk,rfl,hbr,HK⟩:=hrel;have hx0:wr.cell? ⟨w.heap.size,0,none⟩=some (.slice A1 n1 c1):=(hbr.cell (by have:=HW.out;simp;omega)).trans HX0.out;have hsz:w.heap.size+1≤wr.heap.size:=by have:=hbr.size;have:=HW.out;omega
  by_cases hlt:k<n1
  ·have hsr:=HS1.out.next hbr;obtain⟨b,o,A',n',c',rfl,hbS,hc0,hc1,hc2,hsh⟩:=hsr.zone_at (k:=k) (by omega);have hzok:=OK1.out _ (getD_mem0 (show k<t.zones.length by omega) noZone);have HERR:Hid (zErr t.zones k=if zoneE (t.zones.getD k noZone)≠0 then zoneE (t.zones.getD k noZone) else if hasB (zNames (t.zones.take k)) (t.zones.getD k noZone).name=true then 7 else 0):=rfl;generalize hz:t.zones.getD k noZone=z at*;have HZC:=Lib.hid (zoneValidateR_any z A' n' c' _ hzok hsh);have HSR:=Lib.hid hsr;have HC:=Lib.hid hc0;clear hz hsh hzok hsr;go_wp2_with fail
   refine HZC.out.mono ?_;rintro e w2 ⟨rfl,hb2⟩;have hc02:=cell_kept HC.out hb2;have hx02:=cell_kept hx0 hb2;have HB2:=Lib.hid (hbr.trans (hb2.mono hbr.size));have HS2':=Lib.hid ((HSR.out.next hb2).take hk);clear hc0 hc1 hc2 hx0 HZC
   by_cases hz0:zoneE z=0
   ·rw[hz0];have t1:(0:Int)≤(k:Int):=by omega
    have t2:(k:Int)≤(n1:Int):=by omega
    have t3:(k:Int)≤(c1:Int):=by omega
    have t4:k≤c1:=by omega
    by_cases hdup:hasB (zNames (t.zones.take k)) z.name=true
    ·have hge:0≤idxOf (zNames (t.zones.take k)) z.name:=by
      have:=idxOf_neg (zNames (t.zones.take k)) z.name;rw[hdup]at this;simpa using this
     have HF:Hid (ttE t=7):=by
      have h9:zErr t.zones k=7:=by rw[HERR.out,if_neg (by simp[hz0]),if_pos hdup]
      have h8:firstErr (zErr t.zones) t.zones.length=7:=by rw[firstErr_hit HK.out (by rw[h9];decide) (by omega),h9]
      rw[HR.out,h8,if_pos (by decide)];rfl
     go_wp2_with fail
     go_quiet ((go_at_call 82;exact quiet_left (zoneIndex_any (t.zones.take k) z.name _ _ _ _ _ (HS2'.out.drewN _))))
     go_wp2_with fail
     go_ret
     exact⟨by rw[HF.out];rfl,below_drewN (HB0.out.trans (HB2.out.mono (by have:=HW.out;omega))) _⟩
    ·have hdup':hasB (zNames (t.zones.take k)) z.name=false:=by simpa using hdup
     have HZ:Hid (zeroTo (zErr t.zones) (k+1)):=zeroTo_succ HK.out (by rw[HERR.out,if_neg (by simp[hz0]),if_neg hdup]);have hn1:=idxOf_none hdup';clear hdup hdup';go_wp2_with fail
     go_quiet ((go_at_call 82;exact quiet_left (zoneIndex_any (t.zones.take k) z.name _ _ _ _ _ (HS2'.out.drewN _))))
     go_wp2_with fail
     go_roundw
     case rel=>exact⟨k+1,by omega,by go_num,below_drewN HB2.out _,HZ⟩
     case measure=>simp[intOf];omega
   ·have hne:(zoneE z != 0)=true:=by simpa using hz0
    have HF:Hid (ttE t=zoneE z):=by
     have h9:zErr t.zones k=zoneE z:=by rw[HERR.out,if_pos hz0]
     have h8:firstErr (zErr t.zones) t.zones.length=zoneE z:=by rw[firstErr_hit HK.out (by rw[h9];exact hz0) (by omega),h9]
     rw[HR.out,h8,if_pos hz0];rfl
    clear hz0;go_wp2_with fail
    go_ret
    exact⟨by rw[HF.out];rfl,HB0.out.trans (HB2.out.mono (by have:=HW.out;omega))⟩
  ·have HZ0:Hid (firstErr (zErr t.zones) t.zones.length=0):=firstErr_none (by rw[show t.zones.length=k by omega];exact HK.out);go_wp2_with fail
   generalize hV:wr=V at*;have HBV:=Lib.hid (HB0.out.trans (hbr.mono (by have:=HW.out;omega)));have HVW:=Lib.hid hbr;have HSV1:=Lib.hid (HS1.out.next hbr);have HSV2:=Lib.hid (HS2.out.next hbr);have HSV3:=Lib.hid (HS3.out.next hbr);have HY1:=Lib.hid ((hbr.cell (by have:=HW.out;simp;omega)).trans HX1.out);have HY2:=Lib.hid ((hbr.cell (by have:=HW.out;simp;omega)).trans HX2.out);have HY0:=Lib.hid hx0;clear HX0 HX1 HX2 HS1 HS2 HS3 hV hx0 hbr HK HVW;have HVS:Hid (w.heap.size+1≤V.heap.size):=hsz;go_loopw [2,5] (fun _ i wr => ∃ k:Nat,k≤n2∧i=.int .i64 k∧Below V.heap.size V wr∧Hid (zeroTo (aErr t.zones t.airports) k)) (fun _ i _=>n2-(intOf i).toNat)
   case atStart=>exact⟨0,Nat.zero_le _,rfl,Below.refl _ _,zeroTo_zero _⟩
   case round =>
    obtain⟨q,hq,rfl,hbr,HK⟩:=hrel;have hx1:wr.cell? ⟨w.heap.size,1,none⟩=some (.slice A2 n2 c2):=(hbr.cell (by have:=HVS.out;simp;omega)).trans HY1.out;have hsz2:w.heap.size+1≤wr.heap.size:=by have:=hbr.size;omega
    by_cases hlt2:q<n2
    ·have hsr:=HSV2.out.next hbr;obtain⟨b,o,rfl,hbS,hc0,hc1⟩:=hsr.airport_at (k:=q) (by omega);have haok:=OK2.out _ (getD_mem0 (show q<t.airports.length by omega) noAirport);have HERR:Hid (aErr t.zones t.airports q=if isAirportB (t.airports.getD q noAirport).code=false then 1 else if hasB (aCodes (t.airports.take q)) (t.airports.getD q noAirport).code=true then 7 else if hasB (zNames t.zones) (t.airports.getD q noAirport).zone=false then 6 else 0):=rfl;have hbl:b<wr.heap.size:=by unfold all_ at hbS;omega
     have hbne:b≠wr.heap.size:=by omega
     generalize hz:t.airports.getD q noAirport=a at*;have hba:Below wr.heap.size wr (wr.alloc (.cells #[.string a.code,.string a.zone] 101)):=(Below.refl _ _).alloc (Nat.le_refl _) _;have HSA:=Lib.hid ((hsr.next hba).take hq);have HSZ:=Lib.hid ((HSV1.out.next hbr).next hba);have HBA:=Lib.hid (hbr.trans (hba.mono hbr.size));have g1:(wr.alloc (.cells #[.string a.code,.string a.zone] 101)).cell? ⟨wr.heap.size,0,none⟩=some (.string a.code):=by rw[World.cell?_alloc_at _ _ _ _ rfl];rfl
     have g2:(wr.alloc (.cells #[.string a.code,.string a.zone] 101)).cell? ⟨wr.heap.size,1,none⟩=some (.string a.zone):=by rw[World.cell?_alloc_at _ _ _ _ rfl];rfl
     have g3:=cell_kept hx1 hba;have hx0:wr.cell? ⟨w.heap.size,0,none⟩=some (.slice A1 n1 c1):=(hbr.cell (by have:=HVS.out;simp;omega)).trans HY0.out;have g4:=cell_kept hx0 hba;have HNM:=Lib.hid haok.1;clear hz haok hsr hba hx0;go_wp2_with fail
     refine(isAirportR_any a.code _ HNM.out).mono ?_;rintro e w' ⟨rfl,rfl⟩;generalize hW1:wr.alloc (.cells #[.string a.code,.string a.zone] 101)=W1 at*;clear hW1 hc0 hc1 hx1
     by_cases ha1:isAirportB a.code=true
     case neg =>
      have ha1':isAirportB a.code=false:=by simpa using ha1
      have HF:Hid (ttE t=1):=by
       have h9:aErr t.zones t.airports q=1:=by rw[HERR.out,if_pos ha1']
       have h8:firstErr (aErr t.zones t.airports) t.airports.length=1:=by rw[firstErr_hit HK.out (by rw[h9];decide) (by omega),h9]
       rw[HR.out,HZ0.out,h8];rfl
      rw[ha1'];clear ha1;go_wp2_with fail
      go_ret
      exact⟨by rw[HF.out];rfl,HBV.out.trans (HBA.out.mono (by have:=HVS.out;omega))⟩
     rw[ha1];have t1:(0:Int)≤(q:Int):=by omega
     have t2:(q:Int)≤(n2:Int):=by omega
     have t3:(q:Int)≤(c2:Int):=by omega
     have t4:q≤c2:=by omega
     by_cases ha2:hasB (aCodes (t.airports.take q)) a.code=true
     case pos =>
      have hge:0≤idxOf (aCodes (t.airports.take q)) a.code:=by
       have:=idxOf_neg (aCodes (t.airports.take q)) a.code;rw[ha2]at this;simpa using this
      have HF:Hid (ttE t=7):=by
       have h9:aErr t.zones t.airports q=7:=by rw[HERR.out,if_neg (by rw[ha1];decide),if_pos ha2]
       have h8:firstErr (aErr t.zones t.airports) t.airports.length=7:=by rw[firstErr_hit HK.out (by rw[h9];decide) (by omega),h9]
       rw[HR.out,HZ0.out,h8];rfl
      go_wp2_with fail
      go_quiet ((go_at_call 74;exact quiet_left (airportIndex_any (t.airports.take q) a.code _ _ _ _ _ (HSA.out.drewN _))))
      go_wp2_with fail
      go_ret
      exact⟨by rw[HF.out];rfl,below_drewN (HBV.out.trans (HBA.out.mono (by have:=HVS.out;omega))) _⟩
     have ha2':hasB (aCodes (t.airports.take q)) a.code=false:=by simpa using ha2
     have hn1:=idxOf_none ha2';clear ha2;go_wp2_with fail
     go_quiet ((go_at_call 74;exact quiet_left (airportIndex_any (t.airports.take q) a.code _ _ _ _ _ (HSA.out.drewN _))))
     go_wp2_with fail
     refine(zoneIndex_any t.zones a.zone _ _ _ _ _ (HSZ.out.drewN _)).mono ?_;rintro e w' ⟨rfl,rfl⟩
     by_cases ha3:hasB (zNames t.zones) a.zone=true
     case neg =>
      have ha3':hasB (zNames t.zones) a.zone=false:=by simpa using ha3
      have HF:Hid (ttE t=6):=by
       have h9:aErr t.zones t.airports q=6:=by rw[HERR.out,if_neg (by rw[ha1];decide),if_neg (by rw[ha2'];decide),if_pos ha3']
       have h8:firstErr (aErr t.zones t.airports) t.airports.length=6:=by rw[firstErr_hit HK.out (by rw[h9];decide) (by omega),h9]
       rw[HR.out,HZ0.out,h8];rfl
      rw[idxOf_none ha3'];clear ha3 ha3';go_wp2_with fail
      go_ret
      exact⟨by rw[HF.out];rfl,below_drewN (HBV.out.trans (HBA.out.mono (by have:=HVS.out;omega))) _⟩
     have hge3:0≤idxOf (zNames t.zones) a.zone:=by
      have:=idxOf_neg (zNames t.zones) a.zone;rw[ha3]at this;simpa using this
     have HZ:Hid (zeroTo (aErr t.zones t.airports) (q+1)):=zeroTo_succ HK.out (by rw[HERR.out,if_neg (by rw[ha1];decide),if_neg (by rw[ha2'];decide),if_neg (by rw[ha3];decide)]);clear ha3;go_wp2_with fail
     go_roundw
     case rel=>exact⟨q+1,by omega,by go_num,below_drewN HBA.out _,HZ⟩
     case measure=>simp[intOf];omega
    ·have HA0:Hid (firstErr (aErr t.zones t.airports) t.airports.length=0):=firstErr_none (by rw[show t.airports.length=q by omega];exact HK.out);go_wp2_with fail
     generalize hU:wr=U at*;have HBU:=Lib.hid (HBV.out.trans (hbr.mono (by have:=HVS.out;omega)));have HSU1:=Lib.hid (HSV1.out.next hbr);have HSU2:=Lib.hid (HSV2.out.next hbr);have HSU3:=Lib.hid (HSV3.out.next hbr);have HZY0:=Lib.hid ((hbr.cell (by have:=HVS.out;simp;omega)).trans HY0.out);have HZY1:=Lib.hid hx1;have HZY2:=Lib.hid ((hbr.cell (by have:=HVS.out;simp;omega)).trans HY2.out);have HUS:Hid (w.heap.size+1≤U.heap.size):=hsz2;clear HY0 HY1 HY2 HSV1 HSV2 HSV3 hU hx1 hbr HK HBV;go_loopw [2,7] (fun _ i wr => ∃ k:Nat,k≤n3∧i=.int .i64 k∧Below U.heap.size U wr∧Hid (zeroTo (fErr (aCodes t.airports) t.flights) k)) (fun _ i _=>n3-(intOf i).toNat)
     case atStart=>exact⟨0,Nat.zero_le _,rfl,Below.refl _ _,zeroTo_zero _⟩
     case round =>
      obtain⟨r,hr,rfl,hbr,HK⟩:=hrel;have hx2:wr.cell? ⟨w.heap.size,2,none⟩=some (.slice A3 n3 c3):=(hbr.cell (by have:=HUS.out;simp;omega)).trans HZY2.out;have hx1:wr.cell? ⟨w.heap.size,1,none⟩=some (.slice A2 n2 c2):=(hbr.cell (by have:=HUS.out;simp;omega)).trans HZY1.out;have hx0:wr.cell? ⟨w.heap.size,0,none⟩=some (.slice A1 n1 c1):=(hbr.cell (by have:=HUS.out;simp;omega)).trans HZY0.out
      by_cases hlt3:r<n3
      ·have HC:=Lib.hid (flightR_any t r A1 A2 A3 n1 n2 n3 c1 c2 c3 wr HT.out (HSU2.out.next hbr) (HSU3.out.next hbr) hlt3);go_wp2_with fail
       refine HC.out.mono ?_;rintro e w2 ⟨rfl,hb2⟩;have HB2:=Lib.hid (hbr.trans (hb2.mono hbr.size));clear hx0 hx1 hx2 HC
       by_cases hz0:fErr (aCodes t.airports) t.flights r=0
       ·rw[hz0];have HZ:Hid (zeroTo (fErr (aCodes t.airports) t.flights) (r+1)):=zeroTo_succ HK.out hz0;clear hz0;go_wp2_with fail
        go_roundw
        case rel=>exact⟨r+1,by omega,by go_num,HB2.out,HZ⟩
        case measure=>simp[intOf];omega
       ·have hne:(fErr (aCodes t.airports) t.flights r != 0)=true:=by simpa using hz0
        have HF:Hid (ttE t=fErr (aCodes t.airports) t.flights r):=by
         have h8:firstErr (fErr (aCodes t.airports) t.flights) t.flights.length=fErr (aCodes t.airports) t.flights r:=firstErr_hit HK.out hz0 (by omega);rw[HR.out,HZ0.out,HA0.out,h8];rfl
        clear hz0;go_wp2_with fail
        go_ret
        exact⟨by rw[HF.out];rfl,HBU.out.trans (HB2.out.mono (by have:=HUS.out;omega))⟩
      ·have HF0:Hid (ttE t=0):=by
        have h8:firstErr (fErr (aCodes t.airports) t.flights) t.flights.length=0:=firstErr_none (by rw[show t.flights.length=r by omega];exact HK.out);rw[HR.out,HZ0.out,HA0.out,h8];rfl
       go_wp2_with fail
       go_ret
       exact⟨by rw[HF0.out];rfl,HBU.out.trans (hbr.mono (by have:=HUS.out;omega))⟩
end Go.Proofs.YtifconapjfdkcaaGreatDoor
namespace Go.Proofs
open Go.Shelf
def Tryz.laysSlF20_sort_ren:Go.Shelf.Ren:=⟨fun|20=>156|n=>n,fun|24=>3|22=>22|3=>3|25=>139|4=>4|0=>0|n=>n,fun|n=>n⟩
theorem Tryz.laysSlF20_sort:Go.Proofs.SlLaysF.n20 Tryz.prog Tryz.laysSlF20_sort_ren:={
 mixed:=by kernel_rfl
 f20:=⟨Tryz.f156.name,by decide,Tryz.func156.trans (congrArg some (by kernel_rfl))⟩
 t0:=Tryz.underlying0
 a0:=Tryz.isAgg0
 z0:=Tryz.sizeOf0
 v0:=Tryz.zeroValue0
 t3:=Tryz.underlying3
 a3:=Tryz.isAgg3
 z3:=Tryz.sizeOf3
 v3:=Tryz.zeroValue3
 t4:=Tryz.underlying4
 a4:=Tryz.isAgg4
 z4:=Tryz.sizeOf4
 v4:=Tryz.zeroValue4
 t22:=Tryz.underlying22
 a22:=Tryz.isAgg22
 z22:=Tryz.sizeOf22
 v22:=Tryz.zeroValue22
 a24:=Tryz.isAgg3
 z24:=Tryz.sizeOf3
 t25:=Tryz.underlying139
 a25:=Tryz.isAgg139
 z25:=Tryz.sizeOf139
 v25:=Tryz.zeroValue139 }
end Go.Proofs
