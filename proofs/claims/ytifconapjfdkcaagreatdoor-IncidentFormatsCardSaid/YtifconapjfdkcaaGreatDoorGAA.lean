/-
  Joined texts: DataPlain; PeoplePlain; IncPlain; NamesRef; ZoneRef; IndexRef; FlightRef. What each proves stands ahead of it, with its conditions.
-/
import Derived.Test.YtifconapjfdkcaaGreatDoorProg
import Derived.WalkKit
import Derived.WalkLawsBesides
import Derived.WalkSpells
import Derived.Lib.Hide
import Derived.Maps.AppendAt
import Derived.ProofKit
import Derived.Deep.Slices
import Derived.Lib.SplitLaws
import Derived.Lib.IndexMore
import Derived.Lib.Strings
import Derived.Lib.AppendStr
import Derived.Laws.Rows
import Derived.Laws.Tables
import Derived.Deep.RegionWith
import Derived.BigQuiet
import Derived.Deep.QuietTactic
import Derived.IntWalk
import Derived.Maps.OwnOps
import Derived.Maps.Views
import Derived.Sort.Walk0
import Derived.Test.YtifconapjfdkcaaGreatDoorDAA
import Derived.Test.YtifconapjfdkcaaGreatDoorDAB
import Derived.Test.YtifconapjfdkcaaGreatDoorDAC
import Derived.Test.YtifconapjfdkcaaGreatDoorDAD
import Derived.Test.YtifconapjfdkcaaGreatDoorDAE
import Derived.Test.YtifconapjfdkcaaGreatDoorDAF
import Derived.Test.YtifconapjfdkcaaGreatDoorDAG
import Derived.Test.YtifconapjfdkcaaGreatDoorDAH
import Derived.Test.YtifconapjfdkcaaGreatDoorDAI
import Derived.Test.YtifconapjfdkcaaGreatDoorDAJ
import Derived.Test.YtifconapjfdkcaaGreatDoorDAK
import Derived.Test.YtifconapjfdkcaaGreatDoorDAL
import Derived.Test.YtifconapjfdkcaaGreatDoorDAM
import Derived.Test.YtifconapjfdkcaaGreatDoorDAN
import Derived.Test.YtifconapjfdkcaaGreatDoorDAO
import Derived.Test.YtifconapjfdkcaaGreatDoorDAP
import Derived.Test.YtifconapjfdkcaaGreatDoorDAQ
import Derived.Test.YtifconapjfdkcaaGreatDoorDAR
import Derived.Test.YtifconapjfdkcaaGreatDoorDAS
import Derived.Test.YtifconapjfdkcaaGreatDoorDAT
import Derived.Test.YtifconapjfdkcaaGreatDoorDAU
import Derived.Test.YtifconapjfdkcaaGreatDoorDAV
import Derived.Test.YtifconapjfdkcaaGreatDoorDAW
import Derived.Test.YtifconapjfdkcaaGreatDoorDAX
import Derived.Test.YtifconapjfdkcaaGreatDoorDAY
import Derived.Test.YtifconapjfdkcaaGreatDoorDAZ
import Derived.Test.YtifconapjfdkcaaGreatDoorDBA
import Derived.Test.YtifconapjfdkcaaGreatDoorDBB
import Derived.Test.YtifconapjfdkcaaGreatDoorDBC
import Derived.Test.YtifconapjfdkcaaGreatDoorDBD
import Derived.Test.YtifconapjfdkcaaGreatDoorDBE
import Derived.Test.YtifconapjfdkcaaGreatDoorDBF
import Derived.Test.YtifconapjfdkcaaGreatDoorDBG
import Derived.Test.YtifconapjfdkcaaGreatDoorDBH
import Derived.Test.YtifconapjfdkcaaGreatDoorDBI
import Derived.Test.YtifconapjfdkcaaGreatDoorDBJ
set_option linter.unusedSimpArgs false
set_option linter.unusedVariables false
set_option maxRecDepth 100000
set_option maxHeartbeats 12800000
namespace Go.Proofs.YtifconapjfdkcaaGreatDoor
section
open Go
theorem route_ends : ∀ r:Nat,r<6→hasB (aCodes dAirports) (dCode (dFrom r))=true∧hasB (aCodes dAirports) (dCode (dTo r))=true∧dCode (dFrom r)≠dCode (dTo r):=by
 intro r hr;have:r=0∨r=1∨r=2∨r=3∨r=4∨r=5:=by omega
 rcases this with rfl|rfl|rfl|rfl|rfl|rfl <;> decide +kernel
theorem dNum_code : ∀ i:Nat,i<9→isCodeB (dNum i)=true:=by
 intro i hi;have:i=0∨i=1∨i=2∨i=3∨i=4∨i=5∨i=6∨i=7∨i=8:=by omega
 rcases this with rfl|rfl|rfl|rfl|rfl|rfl|rfl|rfl|rfl <;> decide +kernel
theorem dKind_name(n:Int):isNameB (if n/128%8=7 then a320S else b737S)=true:=by split <;> decide +kernel
theorem d_flight(n clock:Int)(i:Nat)(hi:i<9)(h1:2880≤clock)(h2:clock+90≤52593120):flightE (aCodes dAirports) (dFlight n clock i)=0:=by
 obtain⟨ha,hb,hne⟩:=route_ends (dRoute n i) (dRoute_lt n i);unfold flightE dFlight;simp only;rw[qN (by rw[dNum_code i hi,dKind_name];simp),qN (by rw[ha,hb];simp),qN hne,qN (by omega),qN ?_];split <;> decide
theorem dTT_valid(l:List Int)(n:Nat)(hn:n≤9):(dTT l n).valid:=by
 have hlen:=(dSt_range l n).2.2;refine⟨by show dZones.length≤16;decide,by show dAirports.length≤64;decide, ?_, ?_, ?_,fun i hi =>?_⟩
 ·show(dSt l n).2.length≤200;omega
 ·have : ∀ j:Nat,j<2→zErr dZones j=0:=by decide +kernel
  exact this
 ·have : ∀ j:Nat,j<3→aErr dZones dAirports j=0:=by decide +kernel
  exact this
 ·have hi':i<n:=by
   have:i<(dSt l n).2.length:=hi;omega
  have hr:=dSt_range l i;unfold fErr;have g:(dTT l n).flights.getD i noFlight=_:=dSt_get l n i hi';rw[g];have hz:=d_flight (atL l i) (dSt l i).1 i (by omega) (by omega) (by omega);have hz':flightE (aCodes (dTT l n).airports) (dFlight (atL l i) (dSt l i).1 i)=0:=hz;rw[qN (by rw[hz'];simp),qN ?_];rintro⟨h0,h1⟩;obtain⟨j,rfl⟩ : ∃ j,i=j+1:=⟨i-1,by omega⟩
  have g2:(dTT l n).flights.getD j noFlight=_:=dSt_get l n j (by omega);rw[Nat.add_sub_cancel,g2]at h1;have ho:=dClock_range (atL l j) (dSt l j).1;have e1:(dFlight (atL l j) (dSt l j).1 j).dep=(dSt l j).1:=rfl;have e2:(dFlight (atL l (j+1)) (dSt l (j+1)).1 (j+1)).dep=dClock (atL l j) (dSt l j).1:=rfl;unfold beforeB at h1;rw[e1,e2,qN (by omega)]at h1;simp at h1;omega
theorem probTT_valid(l:List Int):(probTT l).valid:=dTT_valid _ _ (by have:=dCount_range l;omega)
end
section
open Go
theorem dPeople_len(l:List Int):(dPeople l).length=pCount l:=dPeopleN_len _ _
theorem dSens_mem(l:List Int) : ∀ (n:Nat) (x:Int),x∈dSens l n→1≤x∧x<20+(n:Int)
 | 0,x,h=>by simp[dSens]at h
 | n+1,x,h=>by
  have e:dSens l (n+1)=dSens l n++[if hasI (dSens l n) (dSen0 (atL l (1+n)) n)=true then 20+(n:Int) else dSen0 (atL l (1+n)) n]:=rfl;rw[e,List.mem_append,List.mem_singleton]at h;rcases h with h|h
  ·have:=dSens_mem l n x h;omega
  ·have:=dSen0_range (atL l (1+n)) n;split at h <;> omega
theorem hasI_false{l:List Int}{a:Int}(h : ∀ x∈l,x≠a):hasI l a=false:=by
 unfold hasI;rw[List.any_eq_false];intro x hx;have:=h x hx;simpa using fun e=>this e.symm
theorem dPeopleN_get(l:List Int){n i:Nat}(h:i<n):(dPeopleN l n).getD i noPerson=dPerson (atL l (1+i)) i ((dSens l n).getD i 0):=by
 unfold dPeopleN;rw[qF,List.getElem?_map,List.getElem?_range h];rfl
theorem sens_take(l:List Int){n i:Nat}(h:i≤n):sens ((dPeopleN l n).take i)=dSens l i:=by
 rw[←dSens_take l h];apply List.ext_getElem?;intro j;unfold sens;rw[List.getElem?_map,List.getElem?_take,List.getElem?_take]
 by_cases hj:j<i
 ·rw[qR hj,qR hj];unfold dPeopleN;rw[List.getElem?_map,List.getElem?_range (by omega)];have:(dSens l n)[j]? = some ((dSens l n).getD j 0):=by
   rw[qF,qG (by rw[dSens_len];omega)];rfl
  rw[this];rfl
 ·rw[qN hj,qN hj];rfl
theorem dTypes_ok(k:Int):firstErr (typeErr (dTypes k)) (dTypes k).length=0∧(dTypes k).length≤8:=by
 unfold dTypes;split
 ·exact⟨rfl,by decide⟩
 ·split
  ·exact⟨by decide +kernel,by decide⟩
  ·exact⟨by decide +kernel,by decide⟩
theorem dVacs_ok(k:Int):firstErr (vacErr (dVacs k)) (dVacs k).length=0∧(dVacs k).length≤8:=by
 unfold dVacs;split
 ·refine⟨?_,by show 1≤8;decide⟩;have h:vacErr [⟨12960360+60*(k%16),12960360+60*(k%16)+300⟩] 0=0:=by
   unfold vacErr vacOk;rw[qN,qN]
   ·simp
   ·simp only[List.getD_cons_zero];simp;omega
  exact firstErr_none fun j hj=>by
   have hj':j<1:=hj;obtain rfl:j=0:=by omega
   exact h
 ·exact⟨rfl,by decide⟩
theorem person_good(l:List Int){n i:Nat}(hn:n≤4)(hi:i<n):pErr (aCodes dAirports) (dPeopleN l n) i=0:=by
 have hg:=dPeopleN_get l hi;have hs:=dSens_get l hi;have h0:=dSen0_range (atL l (1+i)) i;have hsr:1≤(dSens l n).getD i 0∧(dSens l n).getD i 0≤24:=by rw[hs];split <;> omega
 have hno:hasI (dSens l i) ((dSens l n).getD i 0)=false:=by
  rw[hs];split
  ·exact hasI_false fun x hx e=>by have:=dSens_mem l i x hx;omega
  ·rename_i h;simpa using h
 unfold pErr;rw[hg,sens_take l (by omega)];have e1:(dPerson (atL l (1+i)) i ((dSens l n).getD i 0)).id=1+3*i+atL l (1+i)%2:=rfl;have e2:(dPerson (atL l (1+i)) i ((dSens l n).getD i 0)).name=dName i:=rfl;have e3:(dPerson (atL l (1+i)) i ((dSens l n).getD i 0)).base=if atL l (1+i)/8%8=7 then dCode 1 else dCode 0:=rfl
 have e4:(dPerson (atL l (1+i)) i ((dSens l n).getD i 0)).rank=(i:Int)%2:=rfl;have e5:(dPerson (atL l (1+i)) i ((dSens l n).getD i 0)).sen=(dSens l n).getD i 0:=rfl;have e6:(dPerson (atL l (1+i)) i ((dSens l n).getD i 0)).types=dTypes (atL l (1+i)):=rfl;have e7:(dPerson (atL l (1+i)) i ((dSens l n).getD i 0)).vacs=dVacs (atL l (1+i)):=rfl;have hl:listsE (dPerson (atL l (1+i)) i ((dSens l n).getD i 0))=0:=by
  unfold listsE;rw[e6,e7,(dTypes_ok _).1,(dVacs_ok _).1];rfl
 rw[hl,e1,e2,e3,e4,e5,e6,e7];clear hs e1 e2 e3 e4 e5 e6 e7 hl;generalize (dSens l n).getD i 0=sn at*;rw[qN (by unfold idOk;simp;omega),qN ?_,qN ?_,qN ?_,qN ?_,qN (by rw[hno];simp),qN ?_]
 ·have:=(dTypes_ok (atL l (1+i))).2;have:=(dVacs_ok (atL l (1+i))).2;omega
 ·unfold rankOk idOk;simp;omega
 ·split <;> decide +kernel
 ·have:i=0∨i=1∨i=2∨i=3:=by omega
  rcases this with rfl|rfl|rfl|rfl <;> decide +kernel
 ·rintro⟨hp,hle⟩;obtain⟨j,rfl⟩ : ∃ j,i=j+1:=⟨i-1,by omega⟩
  rw[Nat.add_sub_cancel,dPeopleN_get l (show j<n by omega)]at hle;have e:(dPerson (atL l (1+j)) j ((dSens l n).getD j 0)).id=1+3*j+atL l (1+j)%2:=rfl;rw[e]at hle;omega
theorem crew_good{t:GTT}(ht:t.valid)(ha:t.airports=dAirports)(l:List Int):crewE t (dPeople l)=0:=by
 have hc:=pCount_range l;unfold crewE;rw[qN (by rw[ttE_zero.2 ht];simp),qN (by rw[dPeople_len];omega),ha];exact firstErr_none fun i hi=>by
  rw[dPeople_len]at hi;exact person_good l (by omega) hi
end
section
open Go Go.RowKit
theorem dIncs_len(t:GTT)(ps:List GPerson)(l:List Int):(dIncs t ps l).length=iCount l:=by unfold dIncs;simp
theorem dIncs_get(t:GTT)(ps:List GPerson)(l:List Int){i:Nat}(h:i<iCount l):(dIncs t ps l).getD i noInc=dInc t ps (atL l (1+i)):=by
 unfold dIncs;rw[qF,List.getElem?_map,List.getElem?_range h];rfl
theorem dAir_ok(k:Int){src:ByteArray}(hs:src=dCode 0∨src=dCode 1∨src=dCode 2):hasB (aCodes dAirports) (dAir k src)=true∧dAir k src≠src:=by
 have h3:(k/32%3).toNat=0∨(k/32%3).toNat=1∨(k/32%3).toNat=2:=by omega
 unfold dAir;rcases h3 with h|h|h <;> rcases hs with rfl|rfl|rfl <;> rw[h] <;> decide +kernel
theorem hasI_mem{l:List Int}{a:Int}(h:a∈l):hasI l a=true:=by
 unfold hasI;rw[List.any_eq_true];exact⟨a,h,by simp⟩
theorem dFlight_src(n clock:Int)(i:Nat):(dFlight n clock i).src=dCode 0∨(dFlight n clock i).src=dCode 1∨(dFlight n clock i).src=dCode 2:=by
 show dCode (dFrom (dRoute n i))=_∨dCode (dFrom (dRoute n i))=_∨dCode (dFrom (dRoute n i))=_;have h:=dRoute_lt n i;generalize dRoute n i=r at*;have:r=0∨r=1∨r=2∨r=3∨r=4∨r=5:=by omega
 rcases this with rfl|rfl|rfl|rfl|rfl|rfl <;> decide +kernel
theorem incE1_flight{t:GTT}{ps:List GPerson}{x:GInc}(hk:x.kind=1∨x.kind=2∨x.kind=3)(hz:flightIncE t x=0)(hs:shapedI x=true):incE1 t ps x=0:=by
 unfold incE1;rw[qN (by omega),qN (by omega),qN (by rw[hz];simp),qN (by rw[hs];simp)]
theorem dInc_ok(l m:List Int)(k:Int)(hk:0≤k):incE1 (probTT l) (dPeople m) (dInc (probTT l) (dPeople m) k)=0:=by
 have hn:=dCount_range l;have hfl:=probTT_len l;have hp:=pCount_range m;have hpl:=dPeople_len m;have hf0:0≤k/4%((probTT l).flights.length:Int):=Int.emod_nonneg _ (by omega);have hf1:k/4%((probTT l).flights.length:Int)<(probTT l).flights.length:=Int.emod_lt_of_pos _ (by omega);have hp0:0≤k/4%((dPeople m).length:Int):=Int.emod_nonneg _ (by omega);have hp1:k/4%((dPeople m).length:Int)<(dPeople m).length:=Int.emod_lt_of_pos _ (by omega);have hsrc : ∀ i:Nat,i<(probTT l).flights.length→((probTT l).flights.getD i noFlight).src=dCode 0∨((probTT l).flights.getD i noFlight).src=dCode 1∨((probTT l).flights.getD i noFlight).src=dCode 2:=fun i hi=>by
  have g:(probTT l).flights.getD i noFlight=_:=dSt_get (l.drop 1) (dCount l) i (by omega);rw[g];exact dFlight_src _ _ _
 have ha:(probTT l).airports=dAirports:=rfl;generalize hF:k/4%((probTT l).flights.length:Int)=F at*;generalize hG:k/4%((dPeople m).length:Int)=G at*;have hmem:((dPeople m).getD G.toNat noPerson).id∈pIds (dPeople m):=by
  unfold pIds;rw[List.mem_map];exact⟨_,getD_in (by omega) _,rfl⟩
 unfold dInc;rw[hF,hG];split
 ·have hz:flightIncE (probTT l) ⟨1,F,1+k/32%128,noStr,0,noShift⟩=0:=by
   unfold flightIncE;rw[qN (show ¬(F<0∨_≤F) by omega),qR rfl,qN (show ¬(1+k/32%128<1∨1440<1+k/32%128) by omega)]
  exact incE1_flight (.inl rfl) hz rfl
 split
 ·have hz:flightIncE (probTT l) ⟨2,F,0,noStr,0,noShift⟩=0:=by
   unfold flightIncE;rw[qN (show ¬(F<0∨_≤F) by omega),qN (show ¬(2:Int)=1 by decide),qN (show ¬(2:Int)=3 by decide)]
  exact incE1_flight (.inr (.inl rfl)) hz rfl
 split
 ·obtain⟨h1,h2⟩:=dAir_ok k (hsrc F.toNat (by omega));have hz:flightIncE (probTT l) ⟨3,F,k/128%64,dAir k ((probTT l).flights.getD F.toNat noFlight).src,0,noShift⟩=0:=by
   unfold flightIncE;rw[ha,qN (show ¬(F<0∨_≤F) by omega),qN (show ¬(3:Int)=1 by decide),qR rfl,qN (by rw[h1];simp),qN h2,qN (show ¬(k/128%64<0∨720<k/128%64) by omega)]
  exact incE1_flight (.inr (.inr rfl)) hz rfl
 ·unfold incE1;rw[qN (show ¬((4:Int)<1∨4<(4:Int)) by decide),qR rfl,qN (by rw[hasI_mem hmem];simp),qN ?_,qN (by show ¬(true:Bool)=false;decide)];unfold vacOk;simp only[Bool.and_eq_false_iff,qU];omega
theorem dIncs_ok(l m a:List Int):incE (probTT l) (dPeople m) (dIncs (probTT l) (dPeople m) a)=0:=by
 have hc:=iCount_range a;unfold incE;rw[qN (by rw[crew_good (probTT_valid l) rfl m];simp),qN (by rw[dIncs_len];omega)];exact firstErr_none fun i hi=>by
  rw[dIncs_len]at hi;show incE1 _ _ ((dIncs (probTT l) (dPeople m) a).getD i noInc)=0;rw[dIncs_get _ _ _ hi];exact dInc_ok l m _ (atL_range a (1+i)).1
end
section
open Go.RowKit
theorem lower_any(c:Int)(w:World) :
 Calls Tryz.prog 154 #[.int .u8 c] w fun e w'=>e=.returned (.bool (lowerI c))∧w=w':=by
 go_enter Tryz.func154,Tryz.ntmps154
 go_wp2
 all_goals go_ret
 all_goals exact⟨ret_bool (by unfold lowerI;grind),rfl⟩
theorem upper_any(c:Int)(w:World) :
 Calls Tryz.prog 115 #[.int .u8 c] w fun e w'=>e=.returned (.bool (upperI c))∧w=w':=by
 go_enter Tryz.func115,Tryz.ntmps115
 go_wp2
 all_goals go_ret
 all_goals exact⟨ret_bool (by unfold upperI;grind),rfl⟩
theorem number_any(c:Int)(w:World) :
 Calls Tryz.prog 155 #[.int .u8 c] w fun e w'=>e=.returned (.bool (numberI c))∧w=w':=by
 go_enter Tryz.func155,Tryz.ntmps155
 go_wp2
 all_goals go_ret
 all_goals exact⟨ret_bool (by unfold numberI;grind),rfl⟩
theorem isNameR_any(s:ByteArray)(w:World)(hs:s.size≤maxLen) :
 Calls Tryz.prog 110 #[.string s] w fun e w'=>e=.returned (.bool (isNameB s))∧w=w':=by
 unfold maxLen at hs
 by_cases h1:s.size<1
 ·have hf:isNameB s=false:=by simp[isNameB];omega
  have HF:=qH hf;clear hf
  go_enter Tryz.func110,Tryz.ntmps110
  go_wp2_with fail
  go_ret
  exact⟨by rw[HF.out];rfl,rfl⟩
 ·by_cases h2:16<s.size
  ·have hf:isNameB s=false:=by simp[isNameB];omega
   have HF:=qH hf;clear hf
   go_enter Tryz.func110,Tryz.ntmps110
   go_wp2_with fail
   go_ret
   exact⟨by rw[HF.out];rfl,rfl⟩
  ·have hf:isNameB s=allTo (nmAt s) s.size:=by simp[isNameB];omega
   have HB0:=qH (byteAt_eq s 0 (by omega));have HF:=qH hf;clear hf
   by_cases h0:lowerI (byteAt s 0)=true
   ·have hl:lowerI (s[0].toNat:Int)=true:=by rw[HB0.out];exact h0
    have H0:=qH h0;clear h0
    go_enter Tryz.func110,Tryz.ntmps110
    go_wp2_with (go_at_call 154;refine(lower_any _ _).mono ?_;rintro e w' ⟨rfl,rfl⟩)
    go_loop [3] (fun i => ∃ k:Nat,k≤s.size∧i=.int .i64 k∧Hid (allTo (nmAt s) k=true)) (fun i=>s.size-(intOf i).toNat)
    case atStart=>exact⟨0,qV _,rfl,rfl⟩
    case round =>
     obtain⟨k,hk,rfl,HA⟩:=hrel;clear hl
     by_cases hlt:k<s.size
     ·have HB:=qH (byteAt_eq s k hlt);go_wp2_with (first
       | (go_at_call 154;refine(lower_any _ _).mono ?_;rintro e w' ⟨rfl,rfl⟩)
       | (go_at_call 155;refine(number_any _ _).mono ?_;rintro e w' ⟨rfl,rfl⟩))
      all_goals
       have HB':=HB.out;have H0':=H0.out
       first
       | (have hv:nmAt s k=true:=by
           unfold nmAt;rcases Nat.eq_zero_or_pos k with h00|h00
           ·subst h00;simp[H0']
           ·grind
          go_round
          case rel=>exact⟨k+1,by omega,by go_num,by show allTo _ _=true;rw[allTo_succ,HA.out,hv];rfl⟩
          case measure=>simp[intOf];omega)
       | (have hv:nmAt s k=false:=by unfold nmAt;grind
          go_ret
          exact⟨by rw[HF.out,allTo_false hlt hv];rfl,rfl⟩)
     ·go_wp2_with fail
      go_ret
      exact⟨ret_bool (by rw[HF.out,show s.size=k by omega,HA.out]),rfl⟩
   ·have hl:lowerI (s[0].toNat:Int)=false:=by rw[HB0.out];simpa using h0
    have hv:Hid (nmAt s 0=false):=by show nmAt s 0=false;unfold nmAt;simp;simpa using h0
    clear h0
    go_enter Tryz.func110,Tryz.ntmps110
    go_wp2_with (go_at_call 154;refine(lower_any _ _).mono ?_;rintro e w' ⟨rfl,rfl⟩)
    go_ret
    exact⟨by rw[HF.out,allTo_false (by omega) hv.out];rfl,rfl⟩
theorem isCodeR_any(s:ByteArray)(w:World)(hs:s.size≤maxLen) :
 Calls Tryz.prog 116 #[.string s] w fun e w'=>e=.returned (.bool (isCodeB s))∧w=w':=by
 unfold maxLen at hs
 go_enter Tryz.func116,Tryz.ntmps116
 go_wp2_with fail
 go_loop [3] (fun i => ∃ k:Nat,k≤s.size∧i=.int .i64 k∧Hid (allTo (cdAt s) k=true)) (fun i=>s.size-(intOf i).toNat)
 case atStart=>exact⟨0,qV _,rfl,rfl⟩
 case round =>
  obtain⟨k,hk,rfl,HA⟩:=hrel
  by_cases hlt:k<s.size
  ·have HB:=qH (byteAt_eq s k hlt);go_wp2_with (first
    | (go_at_call 115;refine(upper_any _ _).mono ?_;rintro e w' ⟨rfl,rfl⟩)
    | (go_at_call 155;refine(number_any _ _).mono ?_;rintro e w' ⟨rfl,rfl⟩))
   all_goals
    have HB':=HB.out
    first
    | (have hv:cdAt s k=true:=by unfold cdAt;grind
       go_round
       case rel=>exact⟨k+1,by omega,by go_num,by show allTo _ _=true;rw[allTo_succ,HA.out,hv];rfl⟩
       case measure=>simp[intOf];omega)
    | (have hv:cdAt s k=false:=by unfold cdAt;grind
       go_ret
       exact⟨ret_bool (by unfold isCodeB;rw[allTo_false hlt hv];simp),rfl⟩)
  ·go_wp2_with fail
   all_goals go_ret
   all_goals exact⟨ret_bool (by unfold isCodeB;rw[show s.size=k by omega,HA.out];grind),rfl⟩
theorem isAirportR_any(s:ByteArray)(w:World)(hs:s.size≤maxLen) :
 Calls Tryz.prog 83 #[.string s] w fun e w'=>e=.returned (.bool (isAirportB s))∧w=w':=by
 unfold maxLen at hs
 by_cases h1:s.size=3
 ·have hf:isAirportB s=allTo (upAt s) 3:=by simp[isAirportB,h1]
  have HF:=qH hf;clear hf;have hb:((s.size:Int)==3)=true:=by simp;omega
  have hs3:s.size≤3:=by omega
  have hs3':3≤s.size:=by omega
  clear h1;have HB0:=qH (byteAt_eq s 0 (by omega));have HB1:=qH (byteAt_eq s 1 (by omega));have HB2:=qH (byteAt_eq s 2 (by omega))
  go_enter Tryz.func83,Tryz.ntmps83
  go_wp2_with (go_at_call 115;refine(upper_any _ _).mono ?_;rintro e w' ⟨rfl,rfl⟩)
  all_goals go_ret
  all_goals
   have HB0':=HB0.out;have HB1':=HB1.out;have HB2':=HB2.out;exact⟨ret_bool (by rw[HF.out];simp only[allTo,List.range,List.range.loop,List.all_cons,List.all_nil,upAt];grind),rfl⟩
 ·have hf:isAirportB s=false:=by simp[isAirportB,h1]
  have HF:=qH hf;clear hf;have hb:((s.size:Int)==3)=false:=by simp;omega
  clear h1
  go_enter Tryz.func83,Tryz.ntmps83
  go_wp2_with fail
  go_ret
  exact⟨by rw[HF.out];rfl,rfl⟩
end
section
open Go.RowKit
theorem offsetR_any(n:Int)(w:World):Calls Tryz.prog 113 #[.int .i64 n] w fun e w'=>e=.returned (.bool (offOk n))∧w=w':=by
 go_enter Tryz.func113,Tryz.ntmps113
 go_wp2
 all_goals go_ret
 all_goals exact⟨ret_bool (by unfold offOk;grind),rfl⟩
theorem instantR_any(n:Int)(w:World):Calls Tryz.prog 114 #[.int .i64 n] w fun e w'=>e=.returned (.bool (insOk n))∧w=w':=by
 go_enter Tryz.func114,Tryz.ntmps114
 go_wp2
 all_goals go_ret
 all_goals exact⟨ret_bool (by unfold insOk;grind),rfl⟩
theorem zoneValidateR_any(z:GZone)(A:Option Addr)(n c:Nat)(w:World)(hz:z.ok)(hsl:Sl Ty.shift w (all_ w) A n c z.shifts) :
 Calls Tryz.prog 81 #[.agg #[.string z.name,.int .i64 z.off,.slice A n c]] w (ErrPost (zoneE z) w):=by
 obtain⟨hz1,hz2,hz3⟩:=hz;have hn:=hsl.len;have hnl:=hsl.le;unfold maxLen at hnl;subst hn;have HZ1:=qH hz1;clear hz1 hz3
 by_cases h1:isNameB z.name=true
 case neg =>
  have h1':isNameB z.name=false:=by simpa using h1
  have HE:Hid (zoneE z=1):=by show _=_;unfold zoneE;rw[qR h1']
  go_enter Tryz.func81,Tryz.ntmps81
  go_wp2_with (go_at_call 110;refine(isNameR_any z.name _ HZ1.out).mono ?_;rintro e w' ⟨rfl,rfl⟩;rw[h1'])
  go_ret
  exact⟨by rw[HE.out];rfl,(qC _ _).alloc (qD _) _⟩
 by_cases h2:offOk z.off=true
 case neg =>
  have h2':offOk z.off=false:=by simpa using h2
  have HE:Hid (zoneE z=5):=by show _=_;unfold zoneE;rw[qN (by rw[h1];decide),qR h2']
  go_enter Tryz.func81,Tryz.ntmps81
  go_wp2_with (first
   | (go_at_call 110;refine(isNameR_any z.name _ HZ1.out).mono ?_;rintro e w' ⟨rfl,rfl⟩;rw[h1])
   | (go_at_call 113;refine(offsetR_any _ _).mono ?_;rintro e w' ⟨rfl,rfl⟩;rw[h2']))
  go_ret
  exact⟨by rw[HE.out];rfl,(qC _ _).alloc (qD _) _⟩
 by_cases h3:16<z.shifts.length
 case pos =>
  have HE:Hid (zoneE z=10):=by show _=_;unfold zoneE;rw[qN (by rw[h1];decide),qN (by rw[h2];decide),qR h3]
  go_enter Tryz.func81,Tryz.ntmps81
  go_wp2_with (first
   | (go_at_call 110;refine(isNameR_any z.name _ HZ1.out).mono ?_;rintro e w' ⟨rfl,rfl⟩;rw[h1])
   | (go_at_call 113;refine(offsetR_any _ _).mono ?_;rintro e w' ⟨rfl,rfl⟩;rw[h2]))
  go_ret
  exact⟨by rw[HE.out];rfl,(qC _ _).alloc (qD _) _⟩
 have HE:Hid (zoneE z=firstErr (shiftErr z.shifts) z.shifts.length):=by show _=_;unfold zoneE;rw[qN (by rw[h1];decide),qN (by rw[h2];decide),qN h3]
 have hb0:Below w.heap.size w (w.alloc (.cells #[.string z.name,.int .i64 z.off,.slice A z.shifts.length c] 98)):=(qC _ _).alloc (qD _) _;have hbx:(w.alloc (.cells #[.string z.name,.int .i64 z.off,.slice A z.shifts.length c] 98)).cell? ⟨w.heap.size,2,none⟩=some (.slice A z.shifts.length c):=by
  rw[World.cell?_alloc_at _ _ _ _ rfl];rfl
 go_enter Tryz.func81,Tryz.ntmps81
 go_wp2_with (first
  | (go_at_call 110;refine(isNameR_any z.name _ HZ1.out).mono ?_;rintro e w' ⟨rfl,rfl⟩;rw[h1])
  | (go_at_call 113;refine(offsetR_any _ _).mono ?_;rintro e w' ⟨rfl,rfl⟩;rw[h2]))
 generalize hW:w.alloc (.cells #[.string z.name,.int .i64 z.off,.slice A z.shifts.length c] 98)=W at*;have HSL:=qH (hsl.keep (all_keep hb0));clear hsl hW;go_loopw [2,3] (fun _ i wr => ∃ k m:Nat,k≤z.shifts.length∧i=.int .i64 k∧wr=W.drewN m∧Hid (zeroTo (shiftErr z.shifts) k)) (fun _ i _=>z.shifts.length-(intOf i).toNat)
 case atStart=>exact⟨0,0,qV _,rfl,rfl,zeroTo_zero _⟩
 case round =>
  obtain⟨k,m,hk,rfl,rfl,HK⟩:=hrel
  by_cases hlt:k<z.shifts.length
  ·obtain⟨b,o,rfl,hbS,hc0,hc1⟩:=HSL.out.shift_at hlt;have HERR:Hid (shiftErr z.shifts k=if insOk (z.shifts.getD k noShift).at_=false∨offOk (z.shifts.getD k noShift).off=false then 5 else if 0<k∧(z.shifts.getD k noShift).at_≤(z.shifts.getD (k-1) noShift).at_ then 8 else 0):=rfl;generalize hs:z.shifts.getD k noShift=s at*;clear hs
   by_cases hi:insOk s.at_=true
   case neg =>
    have hi':insOk s.at_=false:=by simpa using hi
    have HF:Hid (zoneE z=5):=by
     have h9:shiftErr z.shifts k=5:=by rw[HERR.out,qR (.inl hi')]
     rw[HE.out,firstErr_hit HK.out (by rw[h9];decide) hlt,h9];rfl
    clear hi;go_wp2_with (go_at_call 114;refine(instantR_any _ _).mono ?_;rintro e w' ⟨rfl,rfl⟩;rw[hi'])
    go_ret
    exact⟨by rw[HF.out];rfl,below_drewN hb0 _⟩
   by_cases ho:offOk s.off=true
   case neg =>
    have ho':offOk s.off=false:=by simpa using ho
    have HF:Hid (zoneE z=5):=by
     have h9:shiftErr z.shifts k=5:=by rw[HERR.out,qR (.inr ho')]
     rw[HE.out,firstErr_hit HK.out (by rw[h9];decide) hlt,h9];rfl
    clear ho;go_wp2_with (first
     | (go_at_call 114;refine(instantR_any _ _).mono ?_;rintro e w' ⟨rfl,rfl⟩;rw[hi])
     | (go_at_call 113;refine(offsetR_any _ _).mono ?_;rintro e w' ⟨rfl,rfl⟩;rw[ho']))
    go_ret
    exact⟨by rw[HF.out];rfl,below_drewN hb0 _⟩
   rcases Nat.eq_zero_or_pos k with rfl|hk0
   ·have HZ:Hid (zeroTo (shiftErr z.shifts) (0+1)):=zeroTo_succ HK.out (by rw[HERR.out,qN (by rw[hi,ho];simp),qN (fun h=>absurd h.1 (by omega))]);simp only[Nat.zero_mul,Nat.add_zero]at hc0 hc1;go_wp2_with (first
     | (go_at_call 114;refine(instantR_any _ _).mono ?_;rintro e w' ⟨rfl,rfl⟩;rw[hi])
     | (go_at_call 113;refine(offsetR_any _ _).mono ?_;rintro e w' ⟨rfl,rfl⟩;rw[ho]))
    go_quiet (fail)
    go_wp2_with fail
    go_roundw
    case rel=>exact⟨0+1,_,by omega,rfl,rfl,HZ⟩
    case measure=>simp[intOf];omega
   ·obtain⟨b',o',e',_,hp0,_⟩:=HSL.out.shift_at (k:=k-1) (by omega);simp only[Option.some.injEq,Addr.mk.injEq,and_true]at e';obtain⟨rfl,rfl⟩:=e';generalize hp:z.shifts.getD (k-1) noShift=p at*;clear hp;go_wp2_with (first
     | (go_at_call 114;refine(instantR_any _ _).mono ?_;rintro e w' ⟨rfl,rfl⟩;rw[hi])
     | (go_at_call 113;refine(offsetR_any _ _).mono ?_;rintro e w' ⟨rfl,rfl⟩;rw[ho]))
    have wr1:IntKind.i64.wrap ((k:Int)-1)=(k:Int)-1:=qM _ (by omega);have wr2:0≤(k:Int)-1:=by omega
    have wr3:(k:Int)-1<(z.shifts.length:Int):=by omega
    have wr4:((k:Int)-1).toNat=k-1:=by omega
    have wr5:(k:Int)<(z.shifts.length:Int):=by omega
    have wr6:0≤(k:Int):=by omega
    go_quiet (fail)
    clear wr1 wr2 wr3 wr4 wr5 wr6
    by_cases hle:s.at_≤p.at_
    ·have HF:Hid (zoneE z=8):=by
      have h9:shiftErr z.shifts k=8:=by rw[HERR.out,qN (by rw[hi,ho];simp),qR ⟨hk0,hle⟩]
      rw[HE.out,firstErr_hit HK.out (by rw[h9];decide) hlt,h9];rfl
     go_wp2_with fail
     go_ret
     exact⟨by rw[HF.out];rfl,below_drewN (below_drewN hb0 _) _⟩
    ·have HZ:Hid (zeroTo (shiftErr z.shifts) (k+1)):=zeroTo_succ HK.out (by rw[HERR.out,qN (by rw[hi,ho];simp),qN (fun h=>hle h.2)]);go_wp2_with fail
     go_roundw
     case rel=>exact⟨k+1,_,by omega,by go_num,rfl,HZ⟩
     case measure=>simp[intOf];omega
  ·have HF:Hid (zoneE z=0):=by rw[HE.out];exact firstErr_none (by rw[show z.shifts.length=k by omega];exact HK.out)
   go_wp2_with fail
   go_ret
   exact⟨by rw[HF.out];rfl,below_drewN hb0 _⟩
end
section
open Go.RowKit
def idxOf(l:List ByteArray)(a:ByteArray):Int:=if hasB l a=true then ((l.findIdx fun b=>decide (a=b):Nat):Int) else -1
theorem idxOf_none{l:List ByteArray}{a:ByteArray}(h:hasB l a=false):idxOf l a = -1:=by unfold idxOf;rw[qN (by rw[h];decide)]
theorem idxOf_hit{l:List ByteArray}{a:ByteArray}{k:Nat}(hk:k<l.length)(h0:hasB (l.take k) a=false)(h1:l[k]=a):idxOf l a=k:=by
 have hm:hasB l a=true:=(hasB_iff l a).2 (h1▸List.getElem_mem hk);unfold idxOf;rw[qR hm]
 congr 1
 rw[List.findIdx_eq hk];refine⟨by rw[h1];simp,fun j hj =>?_⟩;rw[qU];intro e;have:hasB (l.take k) a=true:=(hasB_iff _ a).2 (by rw[e];exact List.mem_take_iff_getElem.2 ⟨j,by omega,rfl⟩);rw[h0]at this
 cases this
theorem idxOf_hit'{l:List ByteArray}{a:ByteArray}{k:Nat}(h0:hasB (l.take k) a=false)(h1:l[k]? = some a):idxOf l a=k:=by
 obtain⟨hk,h2⟩:=List.getElem?_eq_some_iff.1 h1;exact idxOf_hit hk h0 h2
theorem hasB_next{l:List ByteArray}{a x:ByteArray}{k:Nat}(h0:hasB (l.take k) a=false)(h1:l[k]? = some x)(hne : ¬x=a):hasB (l.take (k+1)) a=false:=by
 obtain⟨hk,h2⟩:=List.getElem?_eq_some_iff.1 h1;rw[List.take_succ_eq_append_getElem hk,hasB_snoc,h0,h2,decide_eq_false (fun e=>hne e.symm)];rfl
theorem idxOf_neg(l:List ByteArray)(a:ByteArray):decide (idxOf l a<0) = !hasB l a:=by
 unfold idxOf
 cases h:hasB l a
 ·rfl
 ·simp
theorem Sl.take{α : Type}{t:Ty α}{w:World}{S:Nat→Prop}{A:Option Addr}{n c:Nat}{xs:List α}(h:Sl t w S A n c xs){k:Nat}(hk:k≤n):Sl t w S A k c (xs.take k):=by
 obtain⟨h1,h2,h3,h4⟩:=h;refine⟨by rw[List.length_take];omega,by omega,h3,fun h0 =>?_⟩;obtain⟨b,o,e,hs,hx⟩:=h4 (by omega);refine⟨b,o,e,hs,fun i x hi=>hx i x ?_⟩;rw[List.getElem?_take]at hi;split at hi
 ·exact hi
 ·cases hi
theorem zoneIndex_any(zs:List GZone)(a:ByteArray)(A:Option Addr)(n c:Nat)(S:Nat→Prop)(w:World)(hsl:Sl Ty.zone w S A n c zs) :
 Calls Tryz.prog 82 #[.slice A n c,.string a] w fun e w'=>e=.returned (.int .i64 (idxOf (zNames zs) a))∧w=w':=by
 have hn:=hsl.len;have hnl:=hsl.le;unfold maxLen at hnl;subst hn;have HSL:=qH hsl;clear hsl
 go_enter Tryz.func82,Tryz.ntmps82
 go_wp2_with fail
 go_loop [4,5] (fun _ i => ∃ k:Nat,k≤zs.length∧i=.int .i64 k∧Hid (hasB ((zNames zs).take k) a=false)) (fun _ i=>zs.length-(intOf i).toNat)
 case atStart=>exact⟨0,qV _,rfl,rfl⟩
 case round =>
  obtain⟨k,hk,rfl,HK⟩:=hrel;have hzl:(zNames zs).length=zs.length:=by unfold zNames;rw[List.length_map]
  by_cases hlt:k<zs.length
  ·obtain⟨b,o,A',n',c',rfl,hbS,hc0,_,_,_⟩:=HSL.out.zone_at hlt;have he:(zNames zs)[k]? = some (zs.getD k noZone).name:=by
    unfold zNames;rw[List.getElem?_map,qF,qG hlt];rfl
   generalize hz:(zs.getD k noZone).name=nm at*;have HE:=qH he;clear hz hzl he
   by_cases hq:nm=a
   ·have hb:(nm.toList==a.toList)=true:=by rw[str_beq,decide_eq_true hq]
    have HR:Hid (idxOf (zNames zs) a=k):=idxOf_hit' HK.out (by rw[HE.out,hq]);clear hq;go_wp2_with fail
    go_ret
    exact⟨ret_int HR.out.symm,rfl⟩
   ·have hb:(nm.toList==a.toList)=false:=by rw[str_beq,decide_eq_false hq]
    have HN:Hid (hasB ((zNames zs).take (k+1)) a=false):=hasB_next HK.out HE.out hq;clear hq;go_wp2_with fail
    go_round
    case rel=>exact⟨k+1,by omega,by go_num,HN⟩
    case measure=>simp[intOf];omega
  ·have HR:Hid (idxOf (zNames zs) a = -1):=idxOf_none (by
    have:=HK.out
    rwa [List.take_of_length_le (by omega)]at this)
   clear hzl;go_wp2_with fail
   go_ret
   exact⟨ret_int HR.out.symm,rfl⟩
theorem airportIndex_any(l:List GAirport)(a:ByteArray)(A:Option Addr)(n c:Nat)(S:Nat→Prop)(w:World)(hsl:Sl Ty.airport w S A n c l) :
 Calls Tryz.prog 74 #[.slice A n c,.string a] w fun e w'=>e=.returned (.int .i64 (idxOf (aCodes l) a))∧w=w':=by
 have hn:=hsl.len;have hnl:=hsl.le;unfold maxLen at hnl;subst hn;have HSL:=qH hsl;clear hsl
 go_enter Tryz.func74,Tryz.ntmps74
 go_wp2_with fail
 go_loop [4,5] (fun _ i => ∃ k:Nat,k≤l.length∧i=.int .i64 k∧Hid (hasB ((aCodes l).take k) a=false)) (fun _ i=>l.length-(intOf i).toNat)
 case atStart=>exact⟨0,qV _,rfl,rfl⟩
 case round =>
  obtain⟨k,hk,rfl,HK⟩:=hrel;have hzl:(aCodes l).length=l.length:=by unfold aCodes;rw[List.length_map]
  by_cases hlt:k<l.length
  ·obtain⟨b,o,rfl,hbS,hc0,_⟩:=HSL.out.airport_at hlt;have he:(aCodes l)[k]? = some (l.getD k noAirport).code:=by
    unfold aCodes;rw[List.getElem?_map,qF,qG hlt];rfl
   generalize hz:(l.getD k noAirport).code=nm at*;have HE:=qH he;clear hz hzl he
   by_cases hq:nm=a
   ·have hb:(nm.toList==a.toList)=true:=by rw[str_beq,decide_eq_true hq]
    have HR:Hid (idxOf (aCodes l) a=k):=idxOf_hit' HK.out (by rw[HE.out,hq]);clear hq;go_wp2_with fail
    go_ret
    exact⟨ret_int HR.out.symm,rfl⟩
   ·have hb:(nm.toList==a.toList)=false:=by rw[str_beq,decide_eq_false hq]
    have HN:Hid (hasB ((aCodes l).take (k+1)) a=false):=hasB_next HK.out HE.out hq;clear hq;go_wp2_with fail
    go_round
    case rel=>exact⟨k+1,by omega,by go_num,HN⟩
    case measure=>simp[intOf];omega
  ·have HR:Hid (idxOf (aCodes l) a = -1):=idxOf_none (by
    have:=HK.out
    rwa [List.take_of_length_le (by omega)]at this)
   clear hzl;go_wp2_with fail
   go_ret
   exact⟨ret_int HR.out.symm,rfl⟩
end
section
open Go.RowKit
theorem bytesLess_total(a b:List UInt8):Op.bytesLess a b=false↔Op.bytesLess b a=true∨b=a:=by
 induction a generalizing b with
 | nil=>cases b <;> simp[Op.bytesLess]
 | cons x a ih =>
  cases b with
  | nil=>simp[Op.bytesLess]
  | cons y b =>
   simp only[Op.bytesLess,Bool.or_eq_false_iff,qU,Bool.and_eq_false_iff,beq_eq_false_iff_ne,Bool.or_eq_true,qL,qI,beq_iff_eq,List.cons.injEq];have ih':=ih b
   by_cases hxy:x=y
   ·subst hxy;simp only[UInt8.lt_irrefl,not_false_eq_true,true_and,ne_eq,not_true_eq_false,false_or];exact ih'
   ·have h1:x<y∨y<x:=by
     rcases Nat.lt_trichotomy x.toNat y.toNat with h|h|h
     ·left;exact h
     ·exact absurd (UInt8.toNat.inj h) hxy
     ·right;exact h
    have h2 : ¬(x<y∧y<x):=by
     rintro⟨h,h'⟩;have a1:x.toNat<y.toNat:=h;have a2:y.toNat<x.toNat:=h';omega
    constructor
    ·rintro⟨h3,_⟩;left;left
     rcases h1 with h1|h1
     ·exact absurd h1 h3
     ·exact h1
    ·rintro ((h3|⟨h3,_⟩)|⟨h3,_⟩)
     ·exact⟨fun h4=>h2 ⟨h4,h3⟩,.inl hxy⟩
     ·exact absurd h3.symm hxy
     ·exact absurd h3.symm hxy
theorem before_ref(g f:GFlight):beforeB g f=false↔f.dep<g.dep∨(f.dep=g.dep∧(Op.bytesLess f.number.toList g.number.toList=true∨f.number.toList=g.number.toList)):=by
 unfold beforeB
 by_cases h:g.dep=f.dep
 ·rw[qR h,bytesLess_total];constructor
  ·intro h1;exact .inr ⟨h.symm,h1⟩
  ·rintro (h1|⟨_,h1⟩)
   ·omega
   ·exact h1
 ·rw[qN h,qU];constructor
  ·intro h1;left;omega
  ·rintro (h1|⟨h1,_⟩) <;> omega
theorem flightR_any(t:GTT)(i:Nat)(A1 A2 A3:Option Addr)(n1 n2 n3 c1 c2 c3:Nat)(w:World)(ht:t.ok)(hs2:Sl Ty.airport w (all_ w) A2 n2 c2 t.airports)(hs3:Sl Ty.flight w (all_ w) A3 n3 c3 t.flights)(hi:i<n3) :
 Calls Tryz.prog 84 #[.agg #[.slice A1 n1 c1,.slice A2 n2 c2,.slice A3 n3 c3],.int .i64 i] w (ErrPost (fErr (aCodes t.airports) t.flights i) w):=by
 have e3:=hs3.len;have m3:=hs3.le;unfold maxLen at m3;obtain⟨b,o,rfl,hbS,hat⟩:=hs3.flight_at (k:=i) (by omega);have hfok:=ht.2.2 _ (getD_mem0 (show i<t.flights.length by omega) noFlight);have HERR:Hid (fErr (aCodes t.airports) t.flights i=if flightE (aCodes t.airports) (t.flights.getD i noFlight)≠0 then flightE (aCodes t.airports) (t.flights.getD i noFlight) else if 0<i∧beforeB (t.flights.getD (i-1) noFlight) (t.flights.getD i noFlight)=false then 8 else 0):=rfl;have hb0 : ∀ o1,Below w.heap.size w (w.alloc o1):=fun o1=>(qC _ _).alloc (qD _) _
 have hb1 : ∀ o1 o2,Below w.heap.size w ((w.alloc o1).alloc o2):=fun o1 o2=>(hb0 o1).alloc (by simp) _
 have HS2:Hid (∀ o1 o2,Sl Ty.airport ((w.alloc o1).alloc o2) (all_ ((w.alloc o1).alloc o2)) A2 n2 c2 t.airports):=fun o1 o2=>hs2.next (hb1 o1 o2)
 generalize hz:t.flights.getD i noFlight=f at*;obtain⟨q1,q2,q3,q4,⟨d1,d2⟩,⟨a1,a2⟩,x0,x1,x2⟩:=hfok;have y0:w.cell? ⟨b,o+i*9,none⟩=some (.string f.number):=hat 0 _ rfl;have y1:=hat 1 _ rfl;have y2:=hat 2 _ rfl;have y3:=hat 3 _ rfl;have y4:=hat 4 _ rfl;have y5:=hat 5 _ rfl;have y6:=hat 6 _ rfl;have y7:=hat 7 _ rfl;have y8:=hat 8 _ rfl;have hbl:b<w.heap.size:=hbS;have hbne:b≠w.heap.size:=by omega
 have Q1:=qH q1;have Q4:=qH q4;have HB1:=qH hb1;clear q1 q2 q3 q4 x0 x1 x2 hz hat e3 hb0 hb1
 go_enter Tryz.func84,Tryz.ntmps84
 have hsl3:=hs3.next ((qC _ _).alloc (qD _) (.cells #[.slice A1 n1 c1,.slice A2 n2 c2,.slice (some ⟨b,o,none⟩) n3 c3] 27));have hz1 : ∀ j,((w.alloc (.cells #[.slice A1 n1 c1,.slice A2 n2 c2,.slice (some ⟨b,o,none⟩) n3 c3] 27)).alloc (.cells #[.string f.number,.string f.src,.string f.dst,.int .i64 f.dep,.int .i64 f.arr,.string f.kind,.int .i64 f.n0,.int .i64 f.n1,.int .i64 f.n2] 62)).cell? ⟨w.heap.size+1,j,none⟩=(#[.string f.number,.string f.src,.string f.dst,.int .i64 f.dep,.int .i64 f.arr,.string f.kind,.int .i64 f.n0,.int .i64 f.n1,.int .i64 f.n2]:Array Value)[j]? :=fun j=>by rw[World.cell?_alloc_at _ _ _ _ (by simp)]
 have hz2:((w.alloc (.cells #[.slice A1 n1 c1,.slice A2 n2 c2,.slice (some ⟨b,o,none⟩) n3 c3] 27)).alloc (.cells #[.string f.number,.string f.src,.string f.dst,.int .i64 f.dep,.int .i64 f.arr,.string f.kind,.int .i64 f.n0,.int .i64 f.n1,.int .i64 f.n2] 62)).cell? ⟨w.heap.size,1,none⟩=some (.slice A2 n2 c2):=by rw[World.cell?_alloc_past _ _ _ (by simp),World.cell?_alloc_at _ _ _ _ rfl];rfl
 have hz3:((w.alloc (.cells #[.slice A1 n1 c1,.slice A2 n2 c2,.slice (some ⟨b,o,none⟩) n3 c3] 27)).alloc (.cells #[.string f.number,.string f.src,.string f.dst,.int .i64 f.dep,.int .i64 f.arr,.string f.kind,.int .i64 f.n0,.int .i64 f.n1,.int .i64 f.n2] 62)).cell? ⟨w.heap.size,2,none⟩=some (.slice (some ⟨b,o,none⟩) n3 c3):=by rw[World.cell?_alloc_past _ _ _ (by simp),World.cell?_alloc_at _ _ _ _ rfl];rfl
 have hsw:((w.alloc (.cells #[.slice A1 n1 c1,.slice A2 n2 c2,.slice (some ⟨b,o,none⟩) n3 c3] 27)).alloc (.cells #[.string f.number,.string f.src,.string f.dst,.int .i64 f.dep,.int .i64 f.arr,.string f.kind,.int .i64 f.n0,.int .i64 f.n1,.int .i64 f.n2] 62)).heap.size=w.heap.size+2:=by simp
 go_wp2_with fail
 have hbw:=HB1.out (.cells #[.slice A1 n1 c1,.slice A2 n2 c2,.slice (some ⟨b,o,none⟩) n3 c3] 27) (.cells #[.string f.number,.string f.src,.string f.dst,.int .i64 f.dep,.int .i64 f.arr,.string f.kind,.int .i64 f.n0,.int .i64 f.n1,.int .i64 f.n2] 62);have hs2w:=HS2.out (.cells #[.slice A1 n1 c1,.slice A2 n2 c2,.slice (some ⟨b,o,none⟩) n3 c3] 27) (.cells #[.string f.number,.string f.src,.string f.dst,.int .i64 f.dep,.int .i64 f.arr,.string f.kind,.int .i64 f.n0,.int .i64 f.n1,.int .i64 f.n2] 62);have hs3w:=hs3.next hbw;generalize hW:((w.alloc (.cells #[.slice A1 n1 c1,.slice A2 n2 c2,.slice (some ⟨b,o,none⟩) n3 c3] 27)).alloc (.cells #[.string f.number,.string f.src,.string f.dst,.int .i64 f.dep,.int .i64 f.arr,.string f.kind,.int .i64 f.n0,.int .i64 f.n1,.int .i64 f.n2] 62))=W at*;have HB:=qH hbw;have HS3:=qH hs3w;have HA:=qH hs2w;have z0:=hz1 0;have z1:=hz1 1;have z2:=hz1 2;have z3:=hz1 3;have z4:=hz1 4;have z5:=hz1 5;have z6:=hz1 6;have z7:=hz1 7;have z8:=hz1 8;simp only[List.getElem?_toArray,List.getElem?_cons_zero,List.getElem?_cons_succ]at z0 z1 z2 z3 z4 z5 z6 z7 z8;have HSW:=qH hsw;clear hW hs2 hs3 hsl3 hs2w hs3w hbw hz1 y0 y1 y2 y3 y4 y5 y6 y7 y8 HS2 HB1 hsw hbne;refine(isCodeR_any f.number _ Q1.out).mono ?_;rintro e w' ⟨rfl,rfl⟩
 by_cases h1:isCodeB f.number=true
 case neg =>
  have h1':isCodeB f.number=false:=by simpa using h1
  have HR:Hid (fErr (aCodes t.airports) t.flights i=1):=by
   have h9:flightE (aCodes t.airports) f=1:=by unfold flightE;rw[qR (.inl h1')]
   rw[HERR.out,h9];rfl
  rw[h1'];clear h1;go_wp2_with fail
  go_ret
  exact⟨by rw[HR.out];rfl,HB.out⟩
 rw[h1];go_wp2_with fail
 refine(isNameR_any f.kind _ Q4.out).mono ?_;rintro e w' ⟨rfl,rfl⟩
 by_cases h2:isNameB f.kind=true
 case neg =>
  have h2':isNameB f.kind=false:=by simpa using h2
  have HR:Hid (fErr (aCodes t.airports) t.flights i=1):=by
   have h9:flightE (aCodes t.airports) f=1:=by unfold flightE;rw[qR (.inr h2')]
   rw[HERR.out,h9];rfl
  rw[h2'];clear h2;go_wp2_with fail
  go_ret
  exact⟨by rw[HR.out];rfl,HB.out⟩
 rw[h2];go_wp2_with fail
 refine(airportIndex_any t.airports f.src _ _ _ _ _ HA.out).mono ?_;rintro e w' ⟨rfl,rfl⟩
 by_cases h3:hasB (aCodes t.airports) f.src=true
 case neg =>
  have h3':hasB (aCodes t.airports) f.src=false:=by simpa using h3
  have HR:Hid (fErr (aCodes t.airports) t.flights i=6):=by
   have h9:flightE (aCodes t.airports) f=6:=by unfold flightE;rw[qN (by rw[h1,h2];simp),qR (.inl h3')]
   rw[HERR.out,h9];rfl
  rw[idxOf_none h3'];clear h3 h3';go_wp2_with fail
  go_ret
  exact⟨by rw[HR.out];rfl,HB.out⟩
 have hge3:0≤idxOf (aCodes t.airports) f.src:=by
  have:=idxOf_neg (aCodes t.airports) f.src;rw[h3]at this;simpa using this
 generalize idxOf (aCodes t.airports) f.src=ix at*;go_wp2_with fail
 refine(airportIndex_any t.airports f.dst _ _ _ _ _ HA.out).mono ?_;rintro e w' ⟨rfl,rfl⟩
 by_cases h4:hasB (aCodes t.airports) f.dst=true
 case neg =>
  have h4':hasB (aCodes t.airports) f.dst=false:=by simpa using h4
  have HR:Hid (fErr (aCodes t.airports) t.flights i=6):=by
   have h9:flightE (aCodes t.airports) f=6:=by unfold flightE;rw[qN (by rw[h1,h2];simp),qR (.inr h4')]
   rw[HERR.out,h9];rfl
  rw[idxOf_none h4'];clear h4 h4';go_wp2_with fail
  go_ret
  exact⟨by rw[HR.out];rfl,HB.out⟩
 have hge4:0≤idxOf (aCodes t.airports) f.dst:=by
  have:=idxOf_neg (aCodes t.airports) f.dst;rw[h4]at this;simpa using this
 generalize idxOf (aCodes t.airports) f.dst=iy at*
 by_cases h5:f.src=f.dst
 case pos =>
  have HR:Hid (fErr (aCodes t.airports) t.flights i=14):=by
   have h9:flightE (aCodes t.airports) f=14:=by unfold flightE;rw[qN (by rw[h1,h2];simp),qN (by rw[h3,h4];simp),qR h5]
   rw[HERR.out,h9];rfl
  have e5:(f.src.toList==f.dst.toList)=true:=by rw[str_beq,decide_eq_true h5]
  clear h5;go_wp2_with fail
  go_ret
  exact⟨by rw[HR.out];rfl,HB.out⟩
 have e5:(f.src.toList==f.dst.toList)=false:=by rw[str_beq,decide_eq_false h5]
 by_cases h6:f.dep<2880∨52593120<f.arr∨f.arr≤f.dep∨1440<f.arr-f.dep
 case pos =>
  have HR:Hid (fErr (aCodes t.airports) t.flights i=5):=by
   have h9:flightE (aCodes t.airports) f=5:=by unfold flightE;rw[qN (by rw[h1,h2];simp),qN (by rw[h3,h4];simp),qN h5,qR h6]
   rw[HERR.out,h9];rfl
  have h6':f.dep<2880∨(¬f.dep<2880∧52593120<f.arr)∨(¬f.dep<2880 ∧ ¬52593120<f.arr∧f.arr≤f.dep)∨(¬f.dep<2880 ∧ ¬52593120<f.arr ∧ ¬f.arr≤f.dep∧1440<f.arr-f.dep):=by omega
  clear h5 h6;rcases h6' with h|⟨h,h'⟩|⟨h,h',h''⟩|⟨h,h',h'',h3'⟩
  all_goals
   go_wp2_with fail
   go_ret
   exact⟨by rw[HR.out];rfl,HB.out⟩
 have HFE:Hid (flightE (aCodes t.airports) f=if needOk f.n0=false∨needOk f.n1=false∨needOk f.n2=false then 5 else 0):=by show _=_;unfold flightE;rw[qN (by rw[h1,h2];simp),qN (by rw[h3,h4];simp),qN h5,qN h6]
 have r1:2880≤f.dep:=by omega
 have r2:f.arr≤52593120:=by omega
 have r3:f.dep<f.arr:=by omega
 have r4:f.arr-f.dep≤1440:=by omega
 clear h5 h6;go_wp2_with fail
 go_loop [4,6] (fun _ r => ∃ k:Nat,k≤3∧r=.int .i64 k∧Hid ((1≤k→needOk f.n0=true)∧(2≤k→needOk f.n1=true)∧(3≤k→needOk f.n2=true))) (fun _ r=>3-(intOf r).toNat)
 case atStart=>exact⟨0,by omega,rfl,fun h=>absurd h (by omega),fun h=>absurd h (by omega),fun h=>absurd h (by omega)⟩
 case round =>
  obtain⟨k,hk,rfl,HK⟩:=hrel;have hk':k=0∨k=1∨k=2∨k=3:=by omega
  rcases hk' with rfl|rfl|rfl|rfl
  ·by_cases hn:needOk f.n0=true
   ·have hn':=hn;unfold needOk at hn';simp only[qI,qL]at hn';have HN:=qH hn;clear hn;obtain⟨s1,s2⟩:=hn';go_wp2_with fail
    go_round
    case rel=>exact⟨0+1,by omega,rfl,fun _=>HN.out,fun h=>absurd h (by omega),fun h=>absurd h (by omega)⟩
    case measure=>simp[intOf]
   ·have hn':needOk f.n0=false:=by simpa using hn
    have HR:Hid (fErr (aCodes t.airports) t.flights i=5):=by
     have h9:flightE (aCodes t.airports) f=5:=by rw[HFE.out,qR (.inl hn')]
     rw[HERR.out,h9];rfl
    unfold needOk at hn';simp only[Bool.and_eq_false_iff,qU]at hn';clear hn;have hn2:f.n0<0∨(¬f.n0<0∧8<f.n0):=by omega
    clear hn';rcases hn2 with h|⟨h,h'⟩
    all_goals
     go_wp2_with fail
     go_ret
     exact⟨by rw[HR.out];rfl,HB.out⟩
  ·by_cases hn:needOk f.n1=true
   ·have hn':=hn;unfold needOk at hn';simp only[qI,qL]at hn';have HN:=qH hn;clear hn;obtain⟨s1,s2⟩:=hn';go_wp2_with fail
    go_round
    case rel=>exact⟨1+1,by omega,rfl,fun _=>HK.out.1 (by omega),fun _=>HN.out,fun h=>absurd h (by omega)⟩
    case measure=>simp[intOf]
   ·have hn':needOk f.n1=false:=by simpa using hn
    have HR:Hid (fErr (aCodes t.airports) t.flights i=5):=by
     have h9:flightE (aCodes t.airports) f=5:=by rw[HFE.out,qR (.inr (.inl hn'))]
     rw[HERR.out,h9];rfl
    unfold needOk at hn';simp only[Bool.and_eq_false_iff,qU]at hn';clear hn;have hn2:f.n1<0∨(¬f.n1<0∧8<f.n1):=by omega
    clear hn';rcases hn2 with h|⟨h,h'⟩
    all_goals
     go_wp2_with fail
     go_ret
     exact⟨by rw[HR.out];rfl,HB.out⟩
  ·by_cases hn:needOk f.n2=true
   ·have hn':=hn;unfold needOk at hn';simp only[qI,qL]at hn';have HN:=qH hn;clear hn;obtain⟨s1,s2⟩:=hn';go_wp2_with fail
    go_round
    case rel=>exact⟨2+1,by omega,rfl,fun _=>HK.out.1 (by omega),fun _=>HK.out.2.1 (by omega),fun _=>HN.out⟩
    case measure=>simp[intOf]
   ·have hn':needOk f.n2=false:=by simpa using hn
    have HR:Hid (fErr (aCodes t.airports) t.flights i=5):=by
     have h9:flightE (aCodes t.airports) f=5:=by rw[HFE.out,qR (.inr (.inr hn'))]
     rw[HERR.out,h9];rfl
    unfold needOk at hn';simp only[Bool.and_eq_false_iff,qU]at hn';clear hn;have hn2:f.n2<0∨(¬f.n2<0∧8<f.n2):=by omega
    clear hn';rcases hn2 with h|⟨h,h'⟩
    all_goals
     go_wp2_with fail
     go_ret
     exact⟨by rw[HR.out];rfl,HB.out⟩
  ·have HF0:Hid (flightE (aCodes t.airports) f=0):=by
    obtain⟨g1,g2,g3⟩:=HK.out;rw[HFE.out,qN (by rw[g1 (by omega),g2 (by omega),g3 (by omega)];simp)];rfl
   clear HK HFE;rcases Nat.eq_zero_or_pos i with rfl|hi0
   ·have HR:Hid (fErr (aCodes t.airports) t.flights 0=0):=by rw[HERR.out,HF0.out];rfl
    go_wp2_with fail
    go_ret
    exact⟨by rw[HR.out];rfl,HB.out⟩
   ·obtain⟨b',o',e',_,hat⟩:=HS3.out.flight_at (k:=i-1) (by have:=HS3.out.len;omega);simp only[Option.some.injEq,Addr.mk.injEq,and_true]at e';obtain⟨rfl,rfl⟩:=e';have HBEF:=qH (before_ref (t.flights.getD (i-1) noFlight) f);generalize hp:t.flights.getD (i-1) noFlight=p at*;have y0:W.cell? ⟨b,o+(i-1)*9,none⟩=some (.string p.number):=hat 0 _ rfl;have y1:=hat 1 _ rfl;have y2:=hat 2 _ rfl;have y3:=hat 3 _ rfl;have y4:=hat 4 _ rfl;have y5:=hat 5 _ rfl;have y6:=hat 6 _ rfl;have y7:=hat 7 _ rfl;have y8:=hat 8 _ rfl;have hbl2:b<W.heap.size:=by have:=HSW.out;omega
    have hbne2:b≠W.heap.size:=by omega
    have hwl:w.heap.size+1<W.heap.size:=by have:=HSW.out;omega
    have zz0:(W.alloc (.cells #[.string p.number,.string p.src,.string p.dst,.int .i64 p.dep,.int .i64 p.arr,.string p.kind,.int .i64 p.n0,.int .i64 p.n1,.int .i64 p.n2] 62)).cell? ⟨w.heap.size+1,0,none⟩=some (.string f.number):=by rw[World.cell?_alloc_past _ _ _ hwl];exact z0
    have zz3:(W.alloc (.cells #[.string p.number,.string p.src,.string p.dst,.int .i64 p.dep,.int .i64 p.arr,.string p.kind,.int .i64 p.n0,.int .i64 p.n1,.int .i64 p.n2] 62)).cell? ⟨w.heap.size+1,3,none⟩=some (.int .i64 f.dep):=by rw[World.cell?_alloc_past _ _ _ hwl];exact z3
    have HBX:Hid (∀ ob,Below w.heap.size w (W.alloc ob)):=fun ob=>HB.out.alloc (by have:=HSW.out;omega) _
    clear hp hat
    by_cases hd1:f.dep<p.dep
    ·have HR:Hid (fErr (aCodes t.airports) t.flights i=8):=by rw[HERR.out,HF0.out,qN (by simp),qR ⟨hi0,HBEF.out.2 (.inl hd1)⟩];rfl
     go_wp2_with fail
     go_ret
     exact⟨by rw[HR.out];rfl,HBX.out _⟩
    by_cases hd2:f.dep=p.dep
    ·have hdb:(f.dep==p.dep)=true:=by simpa using hd2
     have hdl:f.dep≤p.dep:=by omega
     by_cases hl:Op.bytesLess f.number.toList p.number.toList=true
     ·have HR:Hid (fErr (aCodes t.airports) t.flights i=8):=by rw[HERR.out,HF0.out,qN (by simp),qR ⟨hi0,HBEF.out.2 (.inr ⟨hd2,.inl hl⟩)⟩];rfl
      clear hd2;go_wp2_with fail
      go_ret
      exact⟨by rw[HR.out];rfl,HBX.out _⟩
     ·have hl':Op.bytesLess f.number.toList p.number.toList=false:=by simpa using hl
      by_cases hq:f.number.toList=p.number.toList
      ·have hqb:(f.number.toList==p.number.toList)=true:=by simpa using hq
       have HR:Hid (fErr (aCodes t.airports) t.flights i=8):=by rw[HERR.out,HF0.out,qN (by simp),qR ⟨hi0,HBEF.out.2 (.inr ⟨hd2,.inr hq⟩)⟩];rfl
       clear hd2 hl hq;go_wp2_with fail
       go_ret
       exact⟨by rw[HR.out];rfl,HBX.out _⟩
      ·have hqb:(f.number.toList==p.number.toList)=false:=by simpa using hq
       have HR:Hid (fErr (aCodes t.airports) t.flights i=0):=by
        rw[HERR.out,HF0.out,qN (by simp),qN]
        ·rfl
        ·rintro⟨_,h⟩;rcases HBEF.out.1 h with h|⟨_,h|h⟩
         ·exact hd1 h
         ·exact hl h
         ·exact hq h
       clear hd2 hl hq;go_wp2_with fail
       go_ret
       exact⟨by rw[HR.out];rfl,HBX.out _⟩
    ·have hdb:(f.dep==p.dep)=false:=by simpa using hd2
     have HR:Hid (fErr (aCodes t.airports) t.flights i=0):=by
      rw[HERR.out,HF0.out,qN (by simp),qN]
      ·rfl
      ·rintro⟨_,h⟩;rcases HBEF.out.1 h with h|⟨h,_⟩
       ·exact hd1 h
       ·exact hd2 h
     clear hd2;go_wp2_with fail
     go_ret
     exact⟨by rw[HR.out];rfl,HBX.out _⟩
end
end Go.Proofs.YtifconapjfdkcaaGreatDoor
