/-
  Joined texts: TextPlain; NamesRef; Find; ZoneRef; IndexRef; FlightRef. What each proves stands ahead of it, with its conditions.
-/
import Derived.Lib.SplitLaws
import Derived.Lib.IndexMore
import Derived.Lib.Strings
import Derived.WalkKit
import Derived.WalkLawsBesides
import Derived.WalkSpells
import Derived.Lib.Hide
import Derived.Maps.AppendAt
import Derived.Test.YtifconapjfdkcaaGreatDoorProg
import Derived.ProofKit
import Derived.Deep.Slices
import Derived.Deep.QuietTactic
import Derived.BigQuiet
import Derived.IntWalk
import Derived.Maps.OwnOps
import Derived.Maps.Views
import Derived.StillTailTactics
import Derived.Deep.RegionWith
import Derived.Sort.Walk0
import Derived.Test.YtifconapjfdkcaaGreatDoorDAA
import Derived.Test.YtifconapjfdkcaaGreatDoorDAB
import Derived.Test.YtifconapjfdkcaaGreatDoorDAC
import Derived.Test.YtifconapjfdkcaaGreatDoorDAD
import Derived.Test.YtifconapjfdkcaaGreatDoorDAE
import Derived.Test.YtifconapjfdkcaaGreatDoorDAF
import Derived.Test.YtifconapjfdkcaaGreatDoorDAG
import Derived.Test.YtifconapjfdkcaaGreatDoorDAH
import Derived.Test.YtifconapjfdkcaaGreatDoorDAI
import Derived.Test.YtifconapjfdkcaaGreatDoorDAJ
import Derived.Test.YtifconapjfdkcaaGreatDoorDAK
import Derived.Test.YtifconapjfdkcaaGreatDoorDAL
import Derived.Test.YtifconapjfdkcaaGreatDoorDAM
import Derived.Test.YtifconapjfdkcaaGreatDoorDAN
import Derived.Test.YtifconapjfdkcaaGreatDoorDAO
import Derived.Test.YtifconapjfdkcaaGreatDoorDAP
import Derived.Test.YtifconapjfdkcaaGreatDoorDAQ
import Derived.Test.YtifconapjfdkcaaGreatDoorDAR
import Derived.Test.YtifconapjfdkcaaGreatDoorDAS
import Derived.Test.YtifconapjfdkcaaGreatDoorDAT
import Derived.Test.YtifconapjfdkcaaGreatDoorDAU
import Derived.Test.YtifconapjfdkcaaGreatDoorDAV
import Derived.Test.YtifconapjfdkcaaGreatDoorDAW
import Derived.Test.YtifconapjfdkcaaGreatDoorDAX
import Derived.Test.YtifconapjfdkcaaGreatDoorDAY
import Derived.Test.YtifconapjfdkcaaGreatDoorDAZ
import Derived.Test.YtifconapjfdkcaaGreatDoorDBA
import Derived.Test.YtifconapjfdkcaaGreatDoorDBB
import Derived.Test.YtifconapjfdkcaaGreatDoorDBC
import Derived.Test.YtifconapjfdkcaaGreatDoorDBD
import Derived.Test.YtifconapjfdkcaaGreatDoorDBE
import Derived.Test.YtifconapjfdkcaaGreatDoorDBF
import Derived.Test.YtifconapjfdkcaaGreatDoorDBG
import Derived.Test.YtifconapjfdkcaaGreatDoorDBH
import Derived.Test.YtifconapjfdkcaaGreatDoorDBI
import Derived.Test.YtifconapjfdkcaaGreatDoorDBJ
set_option linter.unusedSimpArgs false
set_option linter.unusedVariables false
set_option maxRecDepth 100000
set_option maxHeartbeats 12800000
namespace Go.Proofs.YtifconapjfdkcaaGreatDoor
section
open Go
theorem linesL_length(l:List UInt8):(linesL l).length≤l.length+1:=by
 have h1:=splitL_length 10 l;have h2:=List.count_le_length (a:=(10:UInt8)) (l:=l);unfold linesL;split
 ·rw[List.length_dropLast];omega
 ·omega
def RF(s:ByteArray)(k:Nat)(fr:Int)(l:List ByteArray):Prop :=
 (k≤s.size∧35 ∉ s.data.toList.take k ∧ ∃ ps cur,splitL 32 (s.data.toList.take k)=ps++[cur]∧l=(ps.filter (fun f => !f.isEmpty)).map bs ∧
  ((fr = -1∧cur=[])∨(∃ f:Nat,fr=f∧f<k∧cur=(s.data.toList.take k).drop f))) ∨
 (k=s.size+1∧fr = -1∧l=fieldsB s)
theorem RF.start(s:ByteArray):RF s 0 (-1) []:=.inl ⟨qV _,by simp,[],[],rfl,rfl,.inl ⟨rfl,rfl⟩⟩
theorem take_byte(s:ByteArray)(k:Nat)(h:k<s.size):s.data.toList.take (k+1)=s.data.toList.take k++[s[k]]:=by
 rw[List.take_succ_eq_append_getElem (by simpa using h)];rfl
theorem RF.bd{s:ByteArray}{k:Nat}{fr:Int}{l:List ByteArray}(h:RF s k fr l):k≤s.size+1 ∧ -1≤fr∧fr<k:=by
 rcases h with ⟨h1,_,ps,cur,_,_,h2⟩|⟨rfl,rfl,_⟩
 ·rcases h2 with ⟨rfl,_⟩|⟨f,rfl,hf,_⟩ <;> omega
 ·omega
theorem RF.len{s:ByteArray}{k:Nat}{fr:Int}{l:List ByteArray}(h:RF s k fr l):l.length≤s.size+1:=by
 rcases h with ⟨h1,_,ps,cur,h2,rfl,_⟩|⟨rfl,rfl,rfl⟩
 ·rw[List.length_map];refine Nat.le_trans (List.length_filter_le _ _) ?_;have h3:=congrArg List.length h2;rw[splitL_length,List.length_append,List.length_singleton]at h3;have h4:=List.count_le_length (a:=(32:UInt8)) (l:=s.data.toList.take k);rw[List.length_take]at h4;omega
 ·unfold fieldsB fieldsL;rw[List.length_map];refine Nat.le_trans (List.length_filter_le _ _) ?_;rw[splitL_length];have h4:=List.count_le_length (a:=(32:UInt8)) (l:=s.data.toList.takeWhile (fun b=>b != 35));have h5:=(List.takeWhile_prefix (p:=fun b:UInt8=>b != 35) (l:=s.data.toList)).length_le;have h6:=Lib.size_eq s;omega
theorem RF.blank{s:ByteArray}{k:Nat}{fr:Int}{l:List ByteArray}(h:RF s k fr l)(hk:k<s.size)(hb:s[k]=32) :
 RF s (k+1) (-1) (if 0≤fr then l++[s.extract fr.toNat k] else l):=by
 rcases h with ⟨h1,h35,ps,cur,h2,rfl,h3⟩|⟨h1,_⟩
 ·have h4:=splitL_snoc (b:=s[k]) h2;rw[←take_byte s k hk,qR hb]at h4;refine .inl ⟨hk, ?_,ps++[cur],[],h4, ?_,.inl ⟨rfl,rfl⟩⟩
  ·rw[take_byte s k hk,hb];simp[h35]
  ·rcases h3 with ⟨rfl,rfl⟩|⟨f,rfl,hf,rfl⟩
   ·simp
   ·have hne:((List.take k s.data.toList).drop f).isEmpty=false:=by
     have:((List.take k s.data.toList).drop f).length≠0:=by
      rw[List.length_drop,List.length_take];have:=Lib.size_eq s;omega
     cases hh:(List.take k s.data.toList).drop f with
     | nil=>rw[hh]at this;simp at this
     | cons _ _=>rfl
    rw[qR (by omega),List.filter_append,List.map_append,extract_take,Int.toNat_natCast];simp[hne]
 ·omega
theorem RF.byte{s:ByteArray}{k:Nat}{fr:Int}{l:List ByteArray}(h:RF s k fr l)(hk:k<s.size)(hb:s[k]≠32)(hb':s[k]≠35) :
 RF s (k+1) (if fr<0 then (k:Int) else fr) l:=by
 rcases h with ⟨h1,h35,ps,cur,h2,rfl,h3⟩|⟨h1,_⟩
 ·have h4:=splitL_snoc (b:=s[k]) h2;rw[←take_byte s k hk,qN hb]at h4;refine .inl ⟨hk, ?_,ps,cur++[s[k]],h4,rfl, ?_⟩
  ·rw[take_byte s k hk];simp only[List.mem_append,List.mem_singleton,not_or];exact⟨h35,fun e=>hb' e.symm⟩
  ·have hsz:=Lib.size_eq s;rcases h3 with ⟨rfl,rfl⟩|⟨f,rfl,hf,rfl⟩
   ·refine .inr ⟨k,by rw[qR (by omega)],by omega, ?_⟩;rw[take_byte s k hk,List.drop_append_of_le_length (by rw[List.length_take];omega),List.drop_eq_nil_of_le (by rw[List.length_take];omega)]
   ·refine .inr ⟨f,by rw[qN (by omega)],by omega, ?_⟩;rw[take_byte s k hk,List.drop_append_of_le_length (by rw[List.length_take];omega)]
 ·omega
theorem takeWhile_of{p:UInt8→Bool} : ∀ {l:List UInt8} {k:Nat},(∀ b∈l.take k,p b=true)→(∀ b,l[k]? = some b→p b=false)→l.takeWhile p=l.take k:=by
 intro l
 induction l with
 | nil=>intro k _ _;simp
 | cons a l ih =>
  intro k h1 h2
  cases k with
  | zero=>simp only[List.take_zero];rw[List.takeWhile_cons,qN (by simp[h2 a rfl])]
  | succ k =>
   rw[List.takeWhile_cons,qR (h1 a (by simp)),List.take_succ_cons,ih (k:=k) (fun b hb=>h1 b (by simp[hb])) (fun b hb=>h2 b (by simpa using hb))]
theorem RF.stop{s:ByteArray}{k:Nat}{fr:Int}{l:List ByteArray}(h:RF s k fr l)(hk:k=s.size ∨ ∃ h:k<s.size,s[k]=35) :
 (if 0≤fr then l++[s.extract fr.toNat k] else l)=fieldsB s:=by
 have hsz:=Lib.size_eq s;rcases h with ⟨h1,h35,ps,cur,h2,rfl,h3⟩|⟨h1,_⟩
 ·have ht:s.data.toList.takeWhile (fun b=>b != 35)=s.data.toList.take k:=by
   refine takeWhile_of (fun b hb =>?_) (fun b hb =>?_)
   ·have:b≠35:=fun e=>h35 (e▸hb)
    simpa using this
   ·rcases hk with rfl|⟨hk,e⟩
    ·rw[List.getElem?_eq_none (by omega)]at hb;cases hb
    ·rw[qG (by omega)]at hb;have e2:s.data.toList[k]=s[k]:=rfl;rw[e2,e]at hb;injection hb with hb
     subst hb;rfl
  unfold fieldsB fieldsL;rw[ht,h2];rcases h3 with ⟨rfl,rfl⟩|⟨f,rfl,hf,rfl⟩
  ·simp
  ·have hne:((List.take k s.data.toList).drop f).isEmpty=false:=by
    have:((List.take k s.data.toList).drop f).length≠0:=by
     rw[List.length_drop,List.length_take];omega
    cases hh:(List.take k s.data.toList).drop f with
    | nil=>rw[hh]at this;simp at this
    | cons _ _=>rfl
   rw[qR (by omega),List.filter_append,List.map_append,extract_take,Int.toNat_natCast];simp[hne]
 ·rcases hk with h|⟨h,_⟩ <;> omega
theorem RF.done{s:ByteArray}:RF s (s.size+1) (-1) (fieldsB s):=.inr ⟨rfl,rfl,rfl⟩
theorem RF.end_{s:ByteArray}{k:Nat}{fr:Int}{l:List ByteArray}(h:RF s k fr l)(hk:s.size<k):l=fieldsB s:=by
 rcases h with ⟨h1,_⟩|⟨_,_,h⟩
 ·omega
 ·exact h
def RL(s:ByteArray)(k fr:Nat)(l:List ByteArray):Prop :=
 k≤s.size∧fr≤k ∧ ∃ ps,splitL 10 (s.data.toList.take k)=ps++[(s.data.toList.take k).drop fr]∧l=ps.map bs
theorem RL.start(s:ByteArray):RL s 0 0 []:=⟨qV _,qD _,[],rfl,rfl⟩
theorem RL.line{s:ByteArray}{k fr:Nat}{l:List ByteArray}(h:RL s k fr l)(hk:k<s.size)(hb:s[k]=10):RL s (k+1) (k+1) (l++[s.extract fr k]):=by
 obtain⟨h1,h2,ps,h3,rfl⟩:=h;have h4:=splitL_snoc (b:=s[k]) h3;rw[←take_byte s k hk,qR hb]at h4;refine⟨hk,qD _,ps++[List.drop fr (List.take k s.data.toList)], ?_, ?_⟩
 ·rw[h4,List.drop_eq_nil_of_le («as»:=List.take (k+1) s.data.toList) (i:=k+1) (by rw[List.length_take];omega)]
 ·rw[List.map_append,extract_take];rfl
theorem RL.byte{s:ByteArray}{k fr:Nat}{l:List ByteArray}(h:RL s k fr l)(hk:k<s.size)(hb:s[k]≠10):RL s (k+1) fr l:=by
 obtain⟨h1,h2,ps,h3,rfl⟩:=h;have h4:=splitL_snoc (b:=s[k]) h3;rw[←take_byte s k hk,qN hb]at h4;refine⟨hk,by omega,ps, ?_,rfl⟩;have hsz:=Lib.size_eq s;rw[h4]
 congr 2
 conv=>rhs;rw[take_byte s k hk]
 rw[List.drop_append_of_le_length (by rw[List.length_take];omega)]
theorem RL.len{s:ByteArray}{k fr:Nat}{l:List ByteArray}(h:RL s k fr l):l.length≤s.size:=by
 obtain⟨h1,h2,ps,h3,rfl⟩:=h;have h4:=congrArg List.length h3;rw[splitL_length,List.length_append,List.length_singleton]at h4;have h5:=List.count_le_length (a:=(10:UInt8)) (l:=s.data.toList.take k);rw[List.length_take]at h5;rw[List.length_map];omega
theorem RL.stop{s:ByteArray}{fr:Nat}{l:List ByteArray}(h:RL s s.size fr l) :
 (if fr<s.size then l++[s.extract fr s.size] else l)=(linesL s.data.toList).map bs:=by
 obtain⟨h1,h2,ps,h3,rfl⟩:=h;have hsz:=Lib.size_eq s;rw[hsz,List.take_length]at h3;rw[linesL_of h3,extract_take,hsz,List.take_length]
 by_cases hf:fr<s.data.toList.length
 ·rw[qR hf,qN (by intro e;have:=congrArg List.length e;rw[List.length_drop]at this;simp at this;omega),List.map_append];rfl
 ·rw[qN hf,qR (List.drop_eq_nil_of_le (by omega))]
end
section
open Go.RowKit
theorem lower_any(c:Int)(w:World) :
 Calls Tryz.prog 154 #[.int .u8 c] w fun e w'=>e=.returned (.bool (lowerI c))∧w=w':=by
 go_enter Tryz.func154,Tryz.ntmps154
 go_wp2
 all_goals go_ret
 all_goals exact⟨ret_bool (by unfold lowerI;grind),rfl⟩
theorem upper_any(c:Int)(w:World) :
 Calls Tryz.prog 115 #[.int .u8 c] w fun e w'=>e=.returned (.bool (upperI c))∧w=w':=by
 go_enter Tryz.func115,Tryz.ntmps115
 go_wp2
 all_goals go_ret
 all_goals exact⟨ret_bool (by unfold upperI;grind),rfl⟩
theorem number_any(c:Int)(w:World) :
 Calls Tryz.prog 155 #[.int .u8 c] w fun e w'=>e=.returned (.bool (numberI c))∧w=w':=by
 go_enter Tryz.func155,Tryz.ntmps155
 go_wp2
 all_goals go_ret
 all_goals exact⟨ret_bool (by unfold numberI;grind),rfl⟩
theorem isNameR_any(s:ByteArray)(w:World)(hs:s.size≤maxLen) :
 Calls Tryz.prog 110 #[.string s] w fun e w'=>e=.returned (.bool (isNameB s))∧w=w':=by
 unfold maxLen at hs
 by_cases h1:s.size<1
 ·have hf:isNameB s=false:=by simp[isNameB];omega
  have HF:=qH hf;clear hf
  go_enter Tryz.func110,Tryz.ntmps110
  go_wp2_with fail
  go_ret
  exact⟨by rw[HF.out];rfl,rfl⟩
 ·by_cases h2:16<s.size
  ·have hf:isNameB s=false:=by simp[isNameB];omega
   have HF:=qH hf;clear hf
   go_enter Tryz.func110,Tryz.ntmps110
   go_wp2_with fail
   go_ret
   exact⟨by rw[HF.out];rfl,rfl⟩
  ·have hf:isNameB s=allTo (nmAt s) s.size:=by simp[isNameB];omega
   have HB0:=qH (byteAt_eq s 0 (by omega));have HF:=qH hf;clear hf
   by_cases h0:lowerI (byteAt s 0)=true
   ·have hl:lowerI (s[0].toNat:Int)=true:=by rw[HB0.out];exact h0
    have H0:=qH h0;clear h0
    go_enter Tryz.func110,Tryz.ntmps110
    go_wp2_with (go_at_call 154;refine(lower_any _ _).mono ?_;rintro e w' ⟨rfl,rfl⟩)
    go_loop [3] (fun i => ∃ k:Nat,k≤s.size∧i=.int .i64 k∧Hid (allTo (nmAt s) k=true)) (fun i=>s.size-(intOf i).toNat)
    case atStart=>exact⟨0,qV _,rfl,rfl⟩
    case round =>
     obtain⟨k,hk,rfl,HA⟩:=hrel;clear hl
     by_cases hlt:k<s.size
     ·have HB:=qH (byteAt_eq s k hlt);go_wp2_with (first
       | (go_at_call 154;refine(lower_any _ _).mono ?_;rintro e w' ⟨rfl,rfl⟩)
       | (go_at_call 155;refine(number_any _ _).mono ?_;rintro e w' ⟨rfl,rfl⟩))
      all_goals
       have HB':=HB.out;have H0':=H0.out
       first
       | (have hv:nmAt s k=true:=by
           unfold nmAt;rcases Nat.eq_zero_or_pos k with h00|h00
           ·subst h00;simp[H0']
           ·grind
          go_round
          case rel=>exact⟨k+1,by omega,by go_num,by show allTo _ _=true;rw[allTo_succ,HA.out,hv];rfl⟩
          case measure=>simp[intOf];omega)
       | (have hv:nmAt s k=false:=by unfold nmAt;grind
          go_ret
          exact⟨by rw[HF.out,allTo_false hlt hv];rfl,rfl⟩)
     ·go_wp2_with fail
      go_ret
      exact⟨ret_bool (by rw[HF.out,show s.size=k by omega,HA.out]),rfl⟩
   ·have hl:lowerI (s[0].toNat:Int)=false:=by rw[HB0.out];simpa using h0
    have hv:Hid (nmAt s 0=false):=by show nmAt s 0=false;unfold nmAt;simp;simpa using h0
    clear h0
    go_enter Tryz.func110,Tryz.ntmps110
    go_wp2_with (go_at_call 154;refine(lower_any _ _).mono ?_;rintro e w' ⟨rfl,rfl⟩)
    go_ret
    exact⟨by rw[HF.out,allTo_false (by omega) hv.out];rfl,rfl⟩
theorem isCodeR_any(s:ByteArray)(w:World)(hs:s.size≤maxLen) :
 Calls Tryz.prog 116 #[.string s] w fun e w'=>e=.returned (.bool (isCodeB s))∧w=w':=by
 unfold maxLen at hs
 go_enter Tryz.func116,Tryz.ntmps116
 go_wp2_with fail
 go_loop [3] (fun i => ∃ k:Nat,k≤s.size∧i=.int .i64 k∧Hid (allTo (cdAt s) k=true)) (fun i=>s.size-(intOf i).toNat)
 case atStart=>exact⟨0,qV _,rfl,rfl⟩
 case round =>
  obtain⟨k,hk,rfl,HA⟩:=hrel
  by_cases hlt:k<s.size
  ·have HB:=qH (byteAt_eq s k hlt);go_wp2_with (first
    | (go_at_call 115;refine(upper_any _ _).mono ?_;rintro e w' ⟨rfl,rfl⟩)
    | (go_at_call 155;refine(number_any _ _).mono ?_;rintro e w' ⟨rfl,rfl⟩))
   all_goals
    have HB':=HB.out
    first
    | (have hv:cdAt s k=true:=by unfold cdAt;grind
       go_round
       case rel=>exact⟨k+1,by omega,by go_num,by show allTo _ _=true;rw[allTo_succ,HA.out,hv];rfl⟩
       case measure=>simp[intOf];omega)
    | (have hv:cdAt s k=false:=by unfold cdAt;grind
       go_ret
       exact⟨ret_bool (by unfold isCodeB;rw[allTo_false hlt hv];simp),rfl⟩)
  ·go_wp2_with fail
   all_goals go_ret
   all_goals exact⟨ret_bool (by unfold isCodeB;rw[show s.size=k by omega,HA.out];grind),rfl⟩
theorem isAirportR_any(s:ByteArray)(w:World)(hs:s.size≤maxLen) :
 Calls Tryz.prog 83 #[.string s] w fun e w'=>e=.returned (.bool (isAirportB s))∧w=w':=by
 unfold maxLen at hs
 by_cases h1:s.size=3
 ·have hf:isAirportB s=allTo (upAt s) 3:=by simp[isAirportB,h1]
  have HF:=qH hf;clear hf;have hb:((s.size:Int)==3)=true:=by simp;omega
  have hs3:s.size≤3:=by omega
  have hs3':3≤s.size:=by omega
  clear h1;have HB0:=qH (byteAt_eq s 0 (by omega));have HB1:=qH (byteAt_eq s 1 (by omega));have HB2:=qH (byteAt_eq s 2 (by omega))
  go_enter Tryz.func83,Tryz.ntmps83
  go_wp2_with (go_at_call 115;refine(upper_any _ _).mono ?_;rintro e w' ⟨rfl,rfl⟩)
  all_goals go_ret
  all_goals
   have HB0':=HB0.out;have HB1':=HB1.out;have HB2':=HB2.out;exact⟨ret_bool (by rw[HF.out];simp only[allTo,List.range,List.range.loop,List.all_cons,List.all_nil,upAt];grind),rfl⟩
 ·have hf:isAirportB s=false:=by simp[isAirportB,h1]
  have HF:=qH hf;clear hf;have hb:((s.size:Int)==3)=false:=by simp;omega
  clear h1
  go_enter Tryz.func83,Tryz.ntmps83
  go_wp2_with fail
  go_ret
  exact⟨by rw[HF.out];rfl,rfl⟩
end
section
open Go.RowKit
def fMatch(num:ByteArray)(dep:Int)(f:GFlight):Bool:=decide (f.number=num)&&decide (f.dep=dep)
def findR(t:GTT)(num:ByteArray)(dep:Int):Int×Int :=
 if ttE t≠0 then (0,ttE t) else match firstHit (fun i=>fMatch num dep (t.flights.getD i noFlight)) t.flights.length with
  | some i=>((i:Int),0)
  | none=>(0,6)
def PairPost(r:Int×Int)(w:World)(e:Ending)(w':World):Prop:=e=.returned (.tuple #[.int .i64 r.1,.int .i64 r.2])∧Below w.heap.size w w'
end
section
open Go.RowKit
theorem offsetR_any(n:Int)(w:World):Calls Tryz.prog 113 #[.int .i64 n] w fun e w'=>e=.returned (.bool (offOk n))∧w=w':=by
 go_enter Tryz.func113,Tryz.ntmps113
 go_wp2
 all_goals go_ret
 all_goals exact⟨ret_bool (by unfold offOk;grind),rfl⟩
theorem instantR_any(n:Int)(w:World):Calls Tryz.prog 114 #[.int .i64 n] w fun e w'=>e=.returned (.bool (insOk n))∧w=w':=by
 go_enter Tryz.func114,Tryz.ntmps114
 go_wp2
 all_goals go_ret
 all_goals exact⟨ret_bool (by unfold insOk;grind),rfl⟩
theorem zoneValidateR_any(z:GZone)(A:Option Addr)(n c:Nat)(w:World)(hz:z.ok)(hsl:Sl Ty.shift w (all_ w) A n c z.shifts) :
 Calls Tryz.prog 81 #[.agg #[.string z.name,.int .i64 z.off,.slice A n c]] w (ErrPost (zoneE z) w):=by
 obtain⟨hz1,hz2,hz3⟩:=hz;have hn:=hsl.len;have hnl:=hsl.le;unfold maxLen at hnl;subst hn;have HZ1:=qH hz1;clear hz1 hz3
 by_cases h1:isNameB z.name=true
 case neg =>
  have h1':isNameB z.name=false:=by simpa using h1
  have HE:Hid (zoneE z=1):=by show _=_;unfold zoneE;rw[qR h1']
  go_enter Tryz.func81,Tryz.ntmps81
  go_wp2_with (go_at_call 110;refine(isNameR_any z.name _ HZ1.out).mono ?_;rintro e w' ⟨rfl,rfl⟩;rw[h1'])
  go_ret
  exact⟨by rw[HE.out];rfl,(qC _ _).alloc (qD _) _⟩
 by_cases h2:offOk z.off=true
 case neg =>
  have h2':offOk z.off=false:=by simpa using h2
  have HE:Hid (zoneE z=5):=by show _=_;unfold zoneE;rw[qN (by rw[h1];decide),qR h2']
  go_enter Tryz.func81,Tryz.ntmps81
  go_wp2_with (first
   | (go_at_call 110;refine(isNameR_any z.name _ HZ1.out).mono ?_;rintro e w' ⟨rfl,rfl⟩;rw[h1])
   | (go_at_call 113;refine(offsetR_any _ _).mono ?_;rintro e w' ⟨rfl,rfl⟩;rw[h2']))
  go_ret
  exact⟨by rw[HE.out];rfl,(qC _ _).alloc (qD _) _⟩
 by_cases h3:16<z.shifts.length
 case pos =>
  have HE:Hid (zoneE z=10):=by show _=_;unfold zoneE;rw[qN (by rw[h1];decide),qN (by rw[h2];decide),qR h3]
  go_enter Tryz.func81,Tryz.ntmps81
  go_wp2_with (first
   | (go_at_call 110;refine(isNameR_any z.name _ HZ1.out).mono ?_;rintro e w' ⟨rfl,rfl⟩;rw[h1])
   | (go_at_call 113;refine(offsetR_any _ _).mono ?_;rintro e w' ⟨rfl,rfl⟩;rw[h2]))
  go_ret
  exact⟨by rw[HE.out];rfl,(qC _ _).alloc (qD _) _⟩
 have HE:Hid (zoneE z=firstErr (shiftErr z.shifts) z.shifts.length):=by show _=_;unfold zoneE;rw[qN (by rw[h1];decide),qN (by rw[h2];decide),qN h3]
 have hb0:Below w.heap.size w (w.alloc (.cells #[.string z.name,.int .i64 z.off,.slice A z.shifts.length c] 98)):=(qC _ _).alloc (qD _) _;have hbx:(w.alloc (.cells #[.string z.name,.int .i64 z.off,.slice A z.shifts.length c] 98)).cell? ⟨w.heap.size,2,none⟩=some (.slice A z.shifts.length c):=by
  rw[World.cell?_alloc_at _ _ _ _ rfl];rfl
 go_enter Tryz.func81,Tryz.ntmps81
 go_wp2_with (first
  | (go_at_call 110;refine(isNameR_any z.name _ HZ1.out).mono ?_;rintro e w' ⟨rfl,rfl⟩;rw[h1])
  | (go_at_call 113;refine(offsetR_any _ _).mono ?_;rintro e w' ⟨rfl,rfl⟩;rw[h2]))
 generalize hW:w.alloc (.cells #[.string z.name,.int .i64 z.off,.slice A z.shifts.length c] 98)=W at*;have HSL:=qH (hsl.keep (all_keep hb0));clear hsl hW;go_loopw [2,3] (fun _ i wr => ∃ k m:Nat,k≤z.shifts.length∧i=.int .i64 k∧wr=W.drewN m∧Hid (zeroTo (shiftErr z.shifts) k)) (fun _ i _=>z.shifts.length-(intOf i).toNat)
 case atStart=>exact⟨0,0,qV _,rfl,rfl,zeroTo_zero _⟩
 case round =>
  obtain⟨k,m,hk,rfl,rfl,HK⟩:=hrel
  by_cases hlt:k<z.shifts.length
  ·obtain⟨b,o,rfl,hbS,hc0,hc1⟩:=HSL.out.shift_at hlt;have HERR:Hid (shiftErr z.shifts k=if insOk (z.shifts.getD k noShift).at_=false∨offOk (z.shifts.getD k noShift).off=false then 5 else if 0<k∧(z.shifts.getD k noShift).at_≤(z.shifts.getD (k-1) noShift).at_ then 8 else 0):=rfl;generalize hs:z.shifts.getD k noShift=s at*;clear hs
   by_cases hi:insOk s.at_=true
   case neg =>
    have hi':insOk s.at_=false:=by simpa using hi
    have HF:Hid (zoneE z=5):=by
     have h9:shiftErr z.shifts k=5:=by rw[HERR.out,qR (.inl hi')]
     rw[HE.out,firstErr_hit HK.out (by rw[h9];decide) hlt,h9];rfl
    clear hi;go_wp2_with (go_at_call 114;refine(instantR_any _ _).mono ?_;rintro e w' ⟨rfl,rfl⟩;rw[hi'])
    go_ret
    exact⟨by rw[HF.out];rfl,below_drewN hb0 _⟩
   by_cases ho:offOk s.off=true
   case neg =>
    have ho':offOk s.off=false:=by simpa using ho
    have HF:Hid (zoneE z=5):=by
     have h9:shiftErr z.shifts k=5:=by rw[HERR.out,qR (.inr ho')]
     rw[HE.out,firstErr_hit HK.out (by rw[h9];decide) hlt,h9];rfl
    clear ho;go_wp2_with (first
     | (go_at_call 114;refine(instantR_any _ _).mono ?_;rintro e w' ⟨rfl,rfl⟩;rw[hi])
     | (go_at_call 113;refine(offsetR_any _ _).mono ?_;rintro e w' ⟨rfl,rfl⟩;rw[ho']))
    go_ret
    exact⟨by rw[HF.out];rfl,below_drewN hb0 _⟩
   rcases Nat.eq_zero_or_pos k with rfl|hk0
   ·have HZ:Hid (zeroTo (shiftErr z.shifts) (0+1)):=zeroTo_succ HK.out (by rw[HERR.out,qN (by rw[hi,ho];simp),qN (fun h=>absurd h.1 (by omega))]);simp only[Nat.zero_mul,Nat.add_zero]at hc0 hc1;go_wp2_with (first
     | (go_at_call 114;refine(instantR_any _ _).mono ?_;rintro e w' ⟨rfl,rfl⟩;rw[hi])
     | (go_at_call 113;refine(offsetR_any _ _).mono ?_;rintro e w' ⟨rfl,rfl⟩;rw[ho]))
    go_quiet (fail)
    go_wp2_with fail
    go_roundw
    case rel=>exact⟨0+1,_,by omega,rfl,rfl,HZ⟩
    case measure=>simp[intOf];omega
   ·obtain⟨b',o',e',_,hp0,_⟩:=HSL.out.shift_at (k:=k-1) (by omega);simp only[Option.some.injEq,Addr.mk.injEq,and_true]at e';obtain⟨rfl,rfl⟩:=e';generalize hp:z.shifts.getD (k-1) noShift=p at*;clear hp;go_wp2_with (first
     | (go_at_call 114;refine(instantR_any _ _).mono ?_;rintro e w' ⟨rfl,rfl⟩;rw[hi])
     | (go_at_call 113;refine(offsetR_any _ _).mono ?_;rintro e w' ⟨rfl,rfl⟩;rw[ho]))
    have wr1:IntKind.i64.wrap ((k:Int)-1)=(k:Int)-1:=qM _ (by omega);have wr2:0≤(k:Int)-1:=by omega
    have wr3:(k:Int)-1<(z.shifts.length:Int):=by omega
    have wr4:((k:Int)-1).toNat=k-1:=by omega
    have wr5:(k:Int)<(z.shifts.length:Int):=by omega
    have wr6:0≤(k:Int):=by omega
    go_quiet (fail)
    clear wr1 wr2 wr3 wr4 wr5 wr6
    by_cases hle:s.at_≤p.at_
    ·have HF:Hid (zoneE z=8):=by
      have h9:shiftErr z.shifts k=8:=by rw[HERR.out,qN (by rw[hi,ho];simp),qR ⟨hk0,hle⟩]
      rw[HE.out,firstErr_hit HK.out (by rw[h9];decide) hlt,h9];rfl
     go_wp2_with fail
     go_ret
     exact⟨by rw[HF.out];rfl,below_drewN (below_drewN hb0 _) _⟩
    ·have HZ:Hid (zeroTo (shiftErr z.shifts) (k+1)):=zeroTo_succ HK.out (by rw[HERR.out,qN (by rw[hi,ho];simp),qN (fun h=>hle h.2)]);go_wp2_with fail
     go_roundw
     case rel=>exact⟨k+1,_,by omega,by go_num,rfl,HZ⟩
     case measure=>simp[intOf];omega
  ·have HF:Hid (zoneE z=0):=by rw[HE.out];exact firstErr_none (by rw[show z.shifts.length=k by omega];exact HK.out)
   go_wp2_with fail
   go_ret
   exact⟨by rw[HF.out];rfl,below_drewN hb0 _⟩
end
section
open Go.RowKit
def idxOf(l:List ByteArray)(a:ByteArray):Int:=if hasB l a=true then ((l.findIdx fun b=>decide (a=b):Nat):Int) else -1
theorem idxOf_none{l:List ByteArray}{a:ByteArray}(h:hasB l a=false):idxOf l a = -1:=by unfold idxOf;rw[qN (by rw[h];decide)]
theorem idxOf_hit{l:List ByteArray}{a:ByteArray}{k:Nat}(hk:k<l.length)(h0:hasB (l.take k) a=false)(h1:l[k]=a):idxOf l a=k:=by
 have hm:hasB l a=true:=(hasB_iff l a).2 (h1▸List.getElem_mem hk);unfold idxOf;rw[qR hm]
 congr 1
 rw[List.findIdx_eq hk];refine⟨by rw[h1];simp,fun j hj =>?_⟩;rw[qU];intro e;have:hasB (l.take k) a=true:=(hasB_iff _ a).2 (by rw[e];exact List.mem_take_iff_getElem.2 ⟨j,by omega,rfl⟩);rw[h0]at this
 cases this
theorem idxOf_hit'{l:List ByteArray}{a:ByteArray}{k:Nat}(h0:hasB (l.take k) a=false)(h1:l[k]? = some a):idxOf l a=k:=by
 obtain⟨hk,h2⟩:=List.getElem?_eq_some_iff.1 h1;exact idxOf_hit hk h0 h2
theorem hasB_next{l:List ByteArray}{a x:ByteArray}{k:Nat}(h0:hasB (l.take k) a=false)(h1:l[k]? = some x)(hne : ¬x=a):hasB (l.take (k+1)) a=false:=by
 obtain⟨hk,h2⟩:=List.getElem?_eq_some_iff.1 h1;rw[List.take_succ_eq_append_getElem hk,hasB_snoc,h0,h2,decide_eq_false (fun e=>hne e.symm)];rfl
theorem idxOf_neg(l:List ByteArray)(a:ByteArray):decide (idxOf l a<0) = !hasB l a:=by
 unfold idxOf
 cases h:hasB l a
 ·rfl
 ·simp
theorem Sl.take{α : Type}{t:Ty α}{w:World}{S:Nat→Prop}{A:Option Addr}{n c:Nat}{xs:List α}(h:Sl t w S A n c xs){k:Nat}(hk:k≤n):Sl t w S A k c (xs.take k):=by
 obtain⟨h1,h2,h3,h4⟩:=h;refine⟨by rw[List.length_take];omega,by omega,h3,fun h0 =>?_⟩;obtain⟨b,o,e,hs,hx⟩:=h4 (by omega);refine⟨b,o,e,hs,fun i x hi=>hx i x ?_⟩;rw[List.getElem?_take]at hi;split at hi
 ·exact hi
 ·cases hi
theorem zoneIndex_any(zs:List GZone)(a:ByteArray)(A:Option Addr)(n c:Nat)(S:Nat→Prop)(w:World)(hsl:Sl Ty.zone w S A n c zs) :
 Calls Tryz.prog 82 #[.slice A n c,.string a] w fun e w'=>e=.returned (.int .i64 (idxOf (zNames zs) a))∧w=w':=by
 have hn:=hsl.len;have hnl:=hsl.le;unfold maxLen at hnl;subst hn;have HSL:=qH hsl;clear hsl
 go_enter Tryz.func82,Tryz.ntmps82
 go_wp2_with fail
 go_loop [4,5] (fun _ i => ∃ k:Nat,k≤zs.length∧i=.int .i64 k∧Hid (hasB ((zNames zs).take k) a=false)) (fun _ i=>zs.length-(intOf i).toNat)
 case atStart=>exact⟨0,qV _,rfl,rfl⟩
 case round =>
  obtain⟨k,hk,rfl,HK⟩:=hrel;have hzl:(zNames zs).length=zs.length:=by unfold zNames;rw[List.length_map]
  by_cases hlt:k<zs.length
  ·obtain⟨b,o,A',n',c',rfl,hbS,hc0,_,_,_⟩:=HSL.out.zone_at hlt;have he:(zNames zs)[k]? = some (zs.getD k noZone).name:=by
    unfold zNames;rw[List.getElem?_map,qF,qG hlt];rfl
   generalize hz:(zs.getD k noZone).name=nm at*;have HE:=qH he;clear hz hzl he
   by_cases hq:nm=a
   ·have hb:(nm.toList==a.toList)=true:=by rw[str_beq,decide_eq_true hq]
    have HR:Hid (idxOf (zNames zs) a=k):=idxOf_hit' HK.out (by rw[HE.out,hq]);clear hq;go_wp2_with fail
    go_ret
    exact⟨ret_int HR.out.symm,rfl⟩
   ·have hb:(nm.toList==a.toList)=false:=by rw[str_beq,decide_eq_false hq]
    have HN:Hid (hasB ((zNames zs).take (k+1)) a=false):=hasB_next HK.out HE.out hq;clear hq;go_wp2_with fail
    go_round
    case rel=>exact⟨k+1,by omega,by go_num,HN⟩
    case measure=>simp[intOf];omega
  ·have HR:Hid (idxOf (zNames zs) a = -1):=idxOf_none (by
    have:=HK.out
    rwa [List.take_of_length_le (by omega)]at this)
   clear hzl;go_wp2_with fail
   go_ret
   exact⟨ret_int HR.out.symm,rfl⟩
theorem airportIndex_any(l:List GAirport)(a:ByteArray)(A:Option Addr)(n c:Nat)(S:Nat→Prop)(w:World)(hsl:Sl Ty.airport w S A n c l) :
 Calls Tryz.prog 74 #[.slice A n c,.string a] w fun e w'=>e=.returned (.int .i64 (idxOf (aCodes l) a))∧w=w':=by
 have hn:=hsl.len;have hnl:=hsl.le;unfold maxLen at hnl;subst hn;have HSL:=qH hsl;clear hsl
 go_enter Tryz.func74,Tryz.ntmps74
 go_wp2_with fail
 go_loop [4,5] (fun _ i => ∃ k:Nat,k≤l.length∧i=.int .i64 k∧Hid (hasB ((aCodes l).take k) a=false)) (fun _ i=>l.length-(intOf i).toNat)
 case atStart=>exact⟨0,qV _,rfl,rfl⟩
 case round =>
  obtain⟨k,hk,rfl,HK⟩:=hrel;have hzl:(aCodes l).length=l.length:=by unfold aCodes;rw[List.length_map]
  by_cases hlt:k<l.length
  ·obtain⟨b,o,rfl,hbS,hc0,_⟩:=HSL.out.airport_at hlt;have he:(aCodes l)[k]? = some (l.getD k noAirport).code:=by
    unfold aCodes;rw[List.getElem?_map,qF,qG hlt];rfl
   generalize hz:(l.getD k noAirport).code=nm at*;have HE:=qH he;clear hz hzl he
   by_cases hq:nm=a
   ·have hb:(nm.toList==a.toList)=true:=by rw[str_beq,decide_eq_true hq]
    have HR:Hid (idxOf (aCodes l) a=k):=idxOf_hit' HK.out (by rw[HE.out,hq]);clear hq;go_wp2_with fail
    go_ret
    exact⟨ret_int HR.out.symm,rfl⟩
   ·have hb:(nm.toList==a.toList)=false:=by rw[str_beq,decide_eq_false hq]
    have HN:Hid (hasB ((aCodes l).take (k+1)) a=false):=hasB_next HK.out HE.out hq;clear hq;go_wp2_with fail
    go_round
    case rel=>exact⟨k+1,by omega,by go_num,HN⟩
    case measure=>simp[intOf];omega
  ·have HR:Hid (idxOf (aCodes l) a = -1):=idxOf_none (by
    have:=HK.out
    rwa [List.take_of_length_le (by omega)]at this)
   clear hzl;go_wp2_with fail
   go_ret
   exact⟨ret_int HR.out.symm,rfl⟩
end
section
open Go.RowKit
theorem bytesLess_total(a b:List UInt8):Op.bytesLess a b=false↔Op.bytesLess b a=true∨b=a:=by
 induction a generalizing b with
 | nil=>cases b <;> simp[Op.bytesLess]
 | cons x a ih =>
  cases b with
  | nil=>simp[Op.bytesLess]
  | cons y b =>
   simp only[Op.bytesLess,Bool.or_eq_false_iff,qU,Bool.and_eq_false_iff,beq_eq_false_iff_ne,Bool.or_eq_true,qL,qI,beq_iff_eq,List.cons.injEq];have ih':=ih b
   by_cases hxy:x=y
   ·subst hxy;simp only[UInt8.lt_irrefl,not_false_eq_true,true_and,ne_eq,not_true_eq_false,false_or];exact ih'
   ·have h1:x<y∨y<x:=by
     rcases Nat.lt_trichotomy x.toNat y.toNat with h|h|h
     ·left;exact h
     ·exact absurd (UInt8.toNat.inj h) hxy
     ·right;exact h
    have h2 : ¬(x<y∧y<x):=by
     rintro⟨h,h'⟩;have a1:x.toNat<y.toNat:=h;have a2:y.toNat<x.toNat:=h';omega
    constructor
    ·rintro⟨h3,_⟩;left;left
     rcases h1 with h1|h1
     ·exact absurd h1 h3
     ·exact h1
    ·rintro ((h3|⟨h3,_⟩)|⟨h3,_⟩)
     ·exact⟨fun h4=>h2 ⟨h4,h3⟩,.inl hxy⟩
     ·exact absurd h3.symm hxy
     ·exact absurd h3.symm hxy
theorem before_ref(g f:GFlight):beforeB g f=false↔f.dep<g.dep∨(f.dep=g.dep∧(Op.bytesLess f.number.toList g.number.toList=true∨f.number.toList=g.number.toList)):=by
 unfold beforeB
 by_cases h:g.dep=f.dep
 ·rw[qR h,bytesLess_total];constructor
  ·intro h1;exact .inr ⟨h.symm,h1⟩
  ·rintro (h1|⟨_,h1⟩)
   ·omega
   ·exact h1
 ·rw[qN h,qU];constructor
  ·intro h1;left;omega
  ·rintro (h1|⟨h1,_⟩) <;> omega
theorem flightR_any(t:GTT)(i:Nat)(A1 A2 A3:Option Addr)(n1 n2 n3 c1 c2 c3:Nat)(w:World)(ht:t.ok)(hs2:Sl Ty.airport w (all_ w) A2 n2 c2 t.airports)(hs3:Sl Ty.flight w (all_ w) A3 n3 c3 t.flights)(hi:i<n3) :
 Calls Tryz.prog 84 #[.agg #[.slice A1 n1 c1,.slice A2 n2 c2,.slice A3 n3 c3],.int .i64 i] w (ErrPost (fErr (aCodes t.airports) t.flights i) w):=by
 have e3:=hs3.len;have m3:=hs3.le;unfold maxLen at m3;obtain⟨b,o,rfl,hbS,hat⟩:=hs3.flight_at (k:=i) (by omega);have hfok:=ht.2.2 _ (getD_mem0 (show i<t.flights.length by omega) noFlight);have HERR:Hid (fErr (aCodes t.airports) t.flights i=if flightE (aCodes t.airports) (t.flights.getD i noFlight)≠0 then flightE (aCodes t.airports) (t.flights.getD i noFlight) else if 0<i∧beforeB (t.flights.getD (i-1) noFlight) (t.flights.getD i noFlight)=false then 8 else 0):=rfl;have hb0 : ∀ o1,Below w.heap.size w (w.alloc o1):=fun o1=>(qC _ _).alloc (qD _) _
 have hb1 : ∀ o1 o2,Below w.heap.size w ((w.alloc o1).alloc o2):=fun o1 o2=>(hb0 o1).alloc (by simp) _
 have HS2:Hid (∀ o1 o2,Sl Ty.airport ((w.alloc o1).alloc o2) (all_ ((w.alloc o1).alloc o2)) A2 n2 c2 t.airports):=fun o1 o2=>hs2.next (hb1 o1 o2)
 generalize hz:t.flights.getD i noFlight=f at*;obtain⟨q1,q2,q3,q4,⟨d1,d2⟩,⟨a1,a2⟩,x0,x1,x2⟩:=hfok;have y0:w.cell? ⟨b,o+i*9,none⟩=some (.string f.number):=hat 0 _ rfl;have y1:=hat 1 _ rfl;have y2:=hat 2 _ rfl;have y3:=hat 3 _ rfl;have y4:=hat 4 _ rfl;have y5:=hat 5 _ rfl;have y6:=hat 6 _ rfl;have y7:=hat 7 _ rfl;have y8:=hat 8 _ rfl;have hbl:b<w.heap.size:=hbS;have hbne:b≠w.heap.size:=by omega
 have Q1:=qH q1;have Q4:=qH q4;have HB1:=qH hb1;clear q1 q2 q3 q4 x0 x1 x2 hz hat e3 hb0 hb1
 go_enter Tryz.func84,Tryz.ntmps84
 have hsl3:=hs3.next ((qC _ _).alloc (qD _) (.cells #[.slice A1 n1 c1,.slice A2 n2 c2,.slice (some ⟨b,o,none⟩) n3 c3] 27));have hz1 : ∀ j,((w.alloc (.cells #[.slice A1 n1 c1,.slice A2 n2 c2,.slice (some ⟨b,o,none⟩) n3 c3] 27)).alloc (.cells #[.string f.number,.string f.src,.string f.dst,.int .i64 f.dep,.int .i64 f.arr,.string f.kind,.int .i64 f.n0,.int .i64 f.n1,.int .i64 f.n2] 62)).cell? ⟨w.heap.size+1,j,none⟩=(#[.string f.number,.string f.src,.string f.dst,.int .i64 f.dep,.int .i64 f.arr,.string f.kind,.int .i64 f.n0,.int .i64 f.n1,.int .i64 f.n2]:Array Value)[j]? :=fun j=>by rw[World.cell?_alloc_at _ _ _ _ (by simp)]
 have hz2:((w.alloc (.cells #[.slice A1 n1 c1,.slice A2 n2 c2,.slice (some ⟨b,o,none⟩) n3 c3] 27)).alloc (.cells #[.string f.number,.string f.src,.string f.dst,.int .i64 f.dep,.int .i64 f.arr,.string f.kind,.int .i64 f.n0,.int .i64 f.n1,.int .i64 f.n2] 62)).cell? ⟨w.heap.size,1,none⟩=some (.slice A2 n2 c2):=by rw[World.cell?_alloc_past _ _ _ (by simp),World.cell?_alloc_at _ _ _ _ rfl];rfl
 have hz3:((w.alloc (.cells #[.slice A1 n1 c1,.slice A2 n2 c2,.slice (some ⟨b,o,none⟩) n3 c3] 27)).alloc (.cells #[.string f.number,.string f.src,.string f.dst,.int .i64 f.dep,.int .i64 f.arr,.string f.kind,.int .i64 f.n0,.int .i64 f.n1,.int .i64 f.n2] 62)).cell? ⟨w.heap.size,2,none⟩=some (.slice (some ⟨b,o,none⟩) n3 c3):=by rw[World.cell?_alloc_past _ _ _ (by simp),World.cell?_alloc_at _ _ _ _ rfl];rfl
 have hsw:((w.alloc (.cells #[.slice A1 n1 c1,.slice A2 n2 c2,.slice (some ⟨b,o,none⟩) n3 c3] 27)).alloc (.cells #[.string f.number,.string f.src,.string f.dst,.int .i64 f.dep,.int .i64 f.arr,.string f.kind,.int .i64 f.n0,.int .i64 f.n1,.int .i64 f.n2] 62)).heap.size=w.heap.size+2:=by simp
 go_wp2_with fail
 have hbw:=HB1.out (.cells #[.slice A1 n1 c1,.slice A2 n2 c2,.slice (some ⟨b,o,none⟩) n3 c3] 27) (.cells #[.string f.number,.string f.src,.string f.dst,.int .i64 f.dep,.int .i64 f.arr,.string f.kind,.int .i64 f.n0,.int .i64 f.n1,.int .i64 f.n2] 62);have hs2w:=HS2.out (.cells #[.slice A1 n1 c1,.slice A2 n2 c2,.slice (some ⟨b,o,none⟩) n3 c3] 27) (.cells #[.string f.number,.string f.src,.string f.dst,.int .i64 f.dep,.int .i64 f.arr,.string f.kind,.int .i64 f.n0,.int .i64 f.n1,.int .i64 f.n2] 62);have hs3w:=hs3.next hbw;generalize hW:((w.alloc (.cells #[.slice A1 n1 c1,.slice A2 n2 c2,.slice (some ⟨b,o,none⟩) n3 c3] 27)).alloc (.cells #[.string f.number,.string f.src,.string f.dst,.int .i64 f.dep,.int .i64 f.arr,.string f.kind,.int .i64 f.n0,.int .i64 f.n1,.int .i64 f.n2] 62))=W at*;have HB:=qH hbw;have HS3:=qH hs3w;have HA:=qH hs2w;have z0:=hz1 0;have z1:=hz1 1;have z2:=hz1 2;have z3:=hz1 3;have z4:=hz1 4;have z5:=hz1 5;have z6:=hz1 6;have z7:=hz1 7;have z8:=hz1 8;simp only[List.getElem?_toArray,List.getElem?_cons_zero,List.getElem?_cons_succ]at z0 z1 z2 z3 z4 z5 z6 z7 z8;have HSW:=qH hsw;clear hW hs2 hs3 hsl3 hs2w hs3w hbw hz1 y0 y1 y2 y3 y4 y5 y6 y7 y8 HS2 HB1 hsw hbne;refine(isCodeR_any f.number _ Q1.out).mono ?_;rintro e w' ⟨rfl,rfl⟩
 by_cases h1:isCodeB f.number=true
 case neg =>
  have h1':isCodeB f.number=false:=by simpa using h1
  have HR:Hid (fErr (aCodes t.airports) t.flights i=1):=by
   have h9:flightE (aCodes t.airports) f=1:=by unfold flightE;rw[qR (.inl h1')]
   rw[HERR.out,h9];rfl
  rw[h1'];clear h1;go_wp2_with fail
  go_ret
  exact⟨by rw[HR.out];rfl,HB.out⟩
 rw[h1];go_wp2_with fail
 refine(isNameR_any f.kind _ Q4.out).mono ?_;rintro e w' ⟨rfl,rfl⟩
 by_cases h2:isNameB f.kind=true
 case neg =>
  have h2':isNameB f.kind=false:=by simpa using h2
  have HR:Hid (fErr (aCodes t.airports) t.flights i=1):=by
   have h9:flightE (aCodes t.airports) f=1:=by unfold flightE;rw[qR (.inr h2')]
   rw[HERR.out,h9];rfl
  rw[h2'];clear h2;go_wp2_with fail
  go_ret
  exact⟨by rw[HR.out];rfl,HB.out⟩
 rw[h2];go_wp2_with fail
 refine(airportIndex_any t.airports f.src _ _ _ _ _ HA.out).mono ?_;rintro e w' ⟨rfl,rfl⟩
 by_cases h3:hasB (aCodes t.airports) f.src=true
 case neg =>
  have h3':hasB (aCodes t.airports) f.src=false:=by simpa using h3
  have HR:Hid (fErr (aCodes t.airports) t.flights i=6):=by
   have h9:flightE (aCodes t.airports) f=6:=by unfold flightE;rw[qN (by rw[h1,h2];simp),qR (.inl h3')]
   rw[HERR.out,h9];rfl
  rw[idxOf_none h3'];clear h3 h3';go_wp2_with fail
  go_ret
  exact⟨by rw[HR.out];rfl,HB.out⟩
 have hge3:0≤idxOf (aCodes t.airports) f.src:=by
  have:=idxOf_neg (aCodes t.airports) f.src;rw[h3]at this;simpa using this
 generalize idxOf (aCodes t.airports) f.src=ix at*;go_wp2_with fail
 refine(airportIndex_any t.airports f.dst _ _ _ _ _ HA.out).mono ?_;rintro e w' ⟨rfl,rfl⟩
 by_cases h4:hasB (aCodes t.airports) f.dst=true
 case neg =>
  have h4':hasB (aCodes t.airports) f.dst=false:=by simpa using h4
  have HR:Hid (fErr (aCodes t.airports) t.flights i=6):=by
   have h9:flightE (aCodes t.airports) f=6:=by unfold flightE;rw[qN (by rw[h1,h2];simp),qR (.inr h4')]
   rw[HERR.out,h9];rfl
  rw[idxOf_none h4'];clear h4 h4';go_wp2_with fail
  go_ret
  exact⟨by rw[HR.out];rfl,HB.out⟩
 have hge4:0≤idxOf (aCodes t.airports) f.dst:=by
  have:=idxOf_neg (aCodes t.airports) f.dst;rw[h4]at this;simpa using this
 generalize idxOf (aCodes t.airports) f.dst=iy at*
 by_cases h5:f.src=f.dst
 case pos =>
  have HR:Hid (fErr (aCodes t.airports) t.flights i=14):=by
   have h9:flightE (aCodes t.airports) f=14:=by unfold flightE;rw[qN (by rw[h1,h2];simp),qN (by rw[h3,h4];simp),qR h5]
   rw[HERR.out,h9];rfl
  have e5:(f.src.toList==f.dst.toList)=true:=by rw[str_beq,decide_eq_true h5]
  clear h5;go_wp2_with fail
  go_ret
  exact⟨by rw[HR.out];rfl,HB.out⟩
 have e5:(f.src.toList==f.dst.toList)=false:=by rw[str_beq,decide_eq_false h5]
 by_cases h6:f.dep<2880∨52593120<f.arr∨f.arr≤f.dep∨1440<f.arr-f.dep
 case pos =>
  have HR:Hid (fErr (aCodes t.airports) t.flights i=5):=by
   have h9:flightE (aCodes t.airports) f=5:=by unfold flightE;rw[qN (by rw[h1,h2];simp),qN (by rw[h3,h4];simp),qN h5,qR h6]
   rw[HERR.out,h9];rfl
  have h6':f.dep<2880∨(¬f.dep<2880∧52593120<f.arr)∨(¬f.dep<2880 ∧ ¬52593120<f.arr∧f.arr≤f.dep)∨(¬f.dep<2880 ∧ ¬52593120<f.arr ∧ ¬f.arr≤f.dep∧1440<f.arr-f.dep):=by omega
  clear h5 h6;rcases h6' with h|⟨h,h'⟩|⟨h,h',h''⟩|⟨h,h',h'',h3'⟩
  all_goals
   go_wp2_with fail
   go_ret
   exact⟨by rw[HR.out];rfl,HB.out⟩
 have HFE:Hid (flightE (aCodes t.airports) f=if needOk f.n0=false∨needOk f.n1=false∨needOk f.n2=false then 5 else 0):=by show _=_;unfold flightE;rw[qN (by rw[h1,h2];simp),qN (by rw[h3,h4];simp),qN h5,qN h6]
 have r1:2880≤f.dep:=by omega
 have r2:f.arr≤52593120:=by omega
 have r3:f.dep<f.arr:=by omega
 have r4:f.arr-f.dep≤1440:=by omega
 clear h5 h6;go_wp2_with fail
 go_loop [4,6] (fun _ r => ∃ k:Nat,k≤3∧r=.int .i64 k∧Hid ((1≤k→needOk f.n0=true)∧(2≤k→needOk f.n1=true)∧(3≤k→needOk f.n2=true))) (fun _ r=>3-(intOf r).toNat)
 case atStart=>exact⟨0,by omega,rfl,fun h=>absurd h (by omega),fun h=>absurd h (by omega),fun h=>absurd h (by omega)⟩
 case round =>
  obtain⟨k,hk,rfl,HK⟩:=hrel;have hk':k=0∨k=1∨k=2∨k=3:=by omega
  rcases hk' with rfl|rfl|rfl|rfl
  ·by_cases hn:needOk f.n0=true
   ·have hn':=hn;unfold needOk at hn';simp only[qI,qL]at hn';have HN:=qH hn;clear hn;obtain⟨s1,s2⟩:=hn';go_wp2_with fail
    go_round
    case rel=>exact⟨0+1,by omega,rfl,fun _=>HN.out,fun h=>absurd h (by omega),fun h=>absurd h (by omega)⟩
    case measure=>simp[intOf]
   ·have hn':needOk f.n0=false:=by simpa using hn
    have HR:Hid (fErr (aCodes t.airports) t.flights i=5):=by
     have h9:flightE (aCodes t.airports) f=5:=by rw[HFE.out,qR (.inl hn')]
     rw[HERR.out,h9];rfl
    unfold needOk at hn';simp only[Bool.and_eq_false_iff,qU]at hn';clear hn;have hn2:f.n0<0∨(¬f.n0<0∧8<f.n0):=by omega
    clear hn';rcases hn2 with h|⟨h,h'⟩
    all_goals
     go_wp2_with fail
     go_ret
     exact⟨by rw[HR.out];rfl,HB.out⟩
  ·by_cases hn:needOk f.n1=true
   ·have hn':=hn;unfold needOk at hn';simp only[qI,qL]at hn';have HN:=qH hn;clear hn;obtain⟨s1,s2⟩:=hn';go_wp2_with fail
    go_round
    case rel=>exact⟨1+1,by omega,rfl,fun _=>HK.out.1 (by omega),fun _=>HN.out,fun h=>absurd h (by omega)⟩
    case measure=>simp[intOf]
   ·have hn':needOk f.n1=false:=by simpa using hn
    have HR:Hid (fErr (aCodes t.airports) t.flights i=5):=by
     have h9:flightE (aCodes t.airports) f=5:=by rw[HFE.out,qR (.inr (.inl hn'))]
     rw[HERR.out,h9];rfl
    unfold needOk at hn';simp only[Bool.and_eq_false_iff,qU]at hn';clear hn;have hn2:f.n1<0∨(¬f.n1<0∧8<f.n1):=by omega
    clear hn';rcases hn2 with h|⟨h,h'⟩
    all_goals
     go_wp2_with fail
     go_ret
     exact⟨by rw[HR.out];rfl,HB.out⟩
  ·by_cases hn:needOk f.n2=true
   ·have hn':=hn;unfold needOk at hn';simp only[qI,qL]at hn';have HN:=qH hn;clear hn;obtain⟨s1,s2⟩:=hn';go_wp2_with fail
    go_round
    case rel=>exact⟨2+1,by omega,rfl,fun _=>HK.out.1 (by omega),fun _=>HK.out.2.1 (by omega),fun _=>HN.out⟩
    case measure=>simp[intOf]
   ·have hn':needOk f.n2=false:=by simpa using hn
    have HR:Hid (fErr (aCodes t.airports) t.flights i=5):=by
     have h9:flightE (aCodes t.airports) f=5:=by rw[HFE.out,qR (.inr (.inr hn'))]
     rw[HERR.out,h9];rfl
    unfold needOk at hn';simp only[Bool.and_eq_false_iff,qU]at hn';clear hn;have hn2:f.n2<0∨(¬f.n2<0∧8<f.n2):=by omega
    clear hn';rcases hn2 with h|⟨h,h'⟩
    all_goals
     go_wp2_with fail
     go_ret
     exact⟨by rw[HR.out];rfl,HB.out⟩
  ·have HF0:Hid (flightE (aCodes t.airports) f=0):=by
    obtain⟨g1,g2,g3⟩:=HK.out;rw[HFE.out,qN (by rw[g1 (by omega),g2 (by omega),g3 (by omega)];simp)];rfl
   clear HK HFE;rcases Nat.eq_zero_or_pos i with rfl|hi0
   ·have HR:Hid (fErr (aCodes t.airports) t.flights 0=0):=by rw[HERR.out,HF0.out];rfl
    go_wp2_with fail
    go_ret
    exact⟨by rw[HR.out];rfl,HB.out⟩
   ·obtain⟨b',o',e',_,hat⟩:=HS3.out.flight_at (k:=i-1) (by have:=HS3.out.len;omega);simp only[Option.some.injEq,Addr.mk.injEq,and_true]at e';obtain⟨rfl,rfl⟩:=e';have HBEF:=qH (before_ref (t.flights.getD (i-1) noFlight) f);generalize hp:t.flights.getD (i-1) noFlight=p at*;have y0:W.cell? ⟨b,o+(i-1)*9,none⟩=some (.string p.number):=hat 0 _ rfl;have y1:=hat 1 _ rfl;have y2:=hat 2 _ rfl;have y3:=hat 3 _ rfl;have y4:=hat 4 _ rfl;have y5:=hat 5 _ rfl;have y6:=hat 6 _ rfl;have y7:=hat 7 _ rfl;have y8:=hat 8 _ rfl;have hbl2:b<W.heap.size:=by have:=HSW.out;omega
    have hbne2:b≠W.heap.size:=by omega
    have hwl:w.heap.size+1<W.heap.size:=by have:=HSW.out;omega
    have zz0:(W.alloc (.cells #[.string p.number,.string p.src,.string p.dst,.int .i64 p.dep,.int .i64 p.arr,.string p.kind,.int .i64 p.n0,.int .i64 p.n1,.int .i64 p.n2] 62)).cell? ⟨w.heap.size+1,0,none⟩=some (.string f.number):=by rw[World.cell?_alloc_past _ _ _ hwl];exact z0
    have zz3:(W.alloc (.cells #[.string p.number,.string p.src,.string p.dst,.int .i64 p.dep,.int .i64 p.arr,.string p.kind,.int .i64 p.n0,.int .i64 p.n1,.int .i64 p.n2] 62)).cell? ⟨w.heap.size+1,3,none⟩=some (.int .i64 f.dep):=by rw[World.cell?_alloc_past _ _ _ hwl];exact z3
    have HBX:Hid (∀ ob,Below w.heap.size w (W.alloc ob)):=fun ob=>HB.out.alloc (by have:=HSW.out;omega) _
    clear hp hat
    by_cases hd1:f.dep<p.dep
    ·have HR:Hid (fErr (aCodes t.airports) t.flights i=8):=by rw[HERR.out,HF0.out,qN (by simp),qR ⟨hi0,HBEF.out.2 (.inl hd1)⟩];rfl
     go_wp2_with fail
     go_ret
     exact⟨by rw[HR.out];rfl,HBX.out _⟩
    by_cases hd2:f.dep=p.dep
    ·have hdb:(f.dep==p.dep)=true:=by simpa using hd2
     have hdl:f.dep≤p.dep:=by omega
     by_cases hl:Op.bytesLess f.number.toList p.number.toList=true
     ·have HR:Hid (fErr (aCodes t.airports) t.flights i=8):=by rw[HERR.out,HF0.out,qN (by simp),qR ⟨hi0,HBEF.out.2 (.inr ⟨hd2,.inl hl⟩)⟩];rfl
      clear hd2;go_wp2_with fail
      go_ret
      exact⟨by rw[HR.out];rfl,HBX.out _⟩
     ·have hl':Op.bytesLess f.number.toList p.number.toList=false:=by simpa using hl
      by_cases hq:f.number.toList=p.number.toList
      ·have hqb:(f.number.toList==p.number.toList)=true:=by simpa using hq
       have HR:Hid (fErr (aCodes t.airports) t.flights i=8):=by rw[HERR.out,HF0.out,qN (by simp),qR ⟨hi0,HBEF.out.2 (.inr ⟨hd2,.inr hq⟩)⟩];rfl
       clear hd2 hl hq;go_wp2_with fail
       go_ret
       exact⟨by rw[HR.out];rfl,HBX.out _⟩
      ·have hqb:(f.number.toList==p.number.toList)=false:=by simpa using hq
       have HR:Hid (fErr (aCodes t.airports) t.flights i=0):=by
        rw[HERR.out,HF0.out,qN (by simp),qN]
        ·rfl
        ·rintro⟨_,h⟩;rcases HBEF.out.1 h with h|⟨_,h|h⟩
         ·exact hd1 h
         ·exact hl h
         ·exact hq h
       clear hd2 hl hq;go_wp2_with fail
       go_ret
       exact⟨by rw[HR.out];rfl,HBX.out _⟩
    ·have hdb:(f.dep==p.dep)=false:=by simpa using hd2
     have HR:Hid (fErr (aCodes t.airports) t.flights i=0):=by
      rw[HERR.out,HF0.out,qN (by simp),qN]
      ·rfl
      ·rintro⟨_,h⟩;rcases HBEF.out.1 h with h|⟨h,_⟩
       ·exact hd1 h
       ·exact hd2 h
     clear hd2;go_wp2_with fail
     go_ret
     exact⟨by rw[HR.out];rfl,HBX.out _⟩
end
end Go.Proofs.YtifconapjfdkcaaGreatDoor
