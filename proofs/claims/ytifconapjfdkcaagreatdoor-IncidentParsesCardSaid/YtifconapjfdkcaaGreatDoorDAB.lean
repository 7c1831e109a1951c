/-
  Contracts of text.IsName, IsCode, IsAirport and of their references: each returns a plain Bool function of the string and leaves the world as it was.
  Condition: the string's length fits an int.
-/
import Derived.Test.YtifconapjfdkcaaGreatDoorProg
import Derived.Test.YtifconapjfdkcaaGreatDoorDAA
set_option linter.unusedSimpArgs false
set_option linter.unusedVariables false
set_option maxRecDepth 100000
set_option maxHeartbeats 12800000
namespace Go.Proofs.YtifconapjfdkcaaGreatDoor
open Go.RowKit
def lowerI(c:Int):Bool:=decide (97≤c)&&decide (c≤122)
def upperI(c:Int):Bool:=decide (65≤c)&&decide (c≤90)
def numberI(c:Int):Bool:=decide (48≤c)&&decide (c≤57)
def nmAt(s:ByteArray)(i:Nat):Bool:=lowerI (byteAt s i)||(decide (0<i)&&(numberI (byteAt s i)||byteAt s i==95))
def isNameB(s:ByteArray):Bool:=decide (1≤s.size)&&decide (s.size≤16)&&allTo (nmAt s) s.size
def cdAt(s:ByteArray)(i:Nat):Bool:=upperI (byteAt s i)||numberI (byteAt s i)
def isCodeB(s:ByteArray):Bool:=decide (1≤s.size)&&decide (s.size≤8)&&allTo (cdAt s) s.size
def upAt(s:ByteArray)(i:Nat):Bool:=upperI (byteAt s i)
def isAirportB(s:ByteArray):Bool:=(s.size==3)&&allTo (upAt s) s.size
theorem isName_any(s:ByteArray)(w:World)(hs:s.size≤maxLen) :
 Calls Tryz.prog 67 #[.string s] w fun e w'=>e=.returned (.bool (isNameB s))∧w=w':=by
 unfold maxLen at hs
 by_cases h1:s.size<1
 ·have hf:isNameB s=false:=by simp[isNameB];omega
  have HF:=qH hf;clear hf
  go_enter Tryz.func67,Tryz.ntmps67
  go_wp2
  go_ret
  exact⟨by rw[HF.out];rfl,rfl⟩
 ·by_cases h2:16<s.size
  ·have hf:isNameB s=false:=by simp[isNameB];omega
   have HF:=qH hf;clear hf
   go_enter Tryz.func67,Tryz.ntmps67
   go_wp2
   go_ret
   exact⟨by rw[HF.out];rfl,rfl⟩
  ·have hf:isNameB s=allTo (nmAt s) s.size:=by simp[isNameB];omega
   have HF:=qH hf;clear hf
   go_enter Tryz.func67,Tryz.ntmps67
   go_wp2
   go_loop [15] (fun i => ∃ k:Nat,k≤s.size∧i=.int .i64 k∧Hid (allTo (nmAt s) k=true)) (fun i=>s.size-(intOf i).toNat)
   case atStart=>exact⟨0,qV _,rfl,rfl⟩
   case round =>
    obtain⟨k,hk,rfl,HA⟩:=hrel
    by_cases hlt:k<s.size
    ·have HB:=qH (byteAt_eq s k hlt)
     go_wp2
     all_goals
      have HB':=HB.out
      first
      | (have hv:nmAt s k=true:=by unfold nmAt lowerI numberI;grind
         go_round
         case rel=>exact⟨k+1,by omega,by go_num,by show allTo _ _=true;rw[allTo_succ,HA.out,hv];rfl⟩
         case measure=>simp[intOf];omega)
      | (have hv:nmAt s k=false:=by unfold nmAt lowerI numberI;grind
         go_ret
         exact⟨by rw[HF.out,allTo_false hlt hv];rfl,rfl⟩)
    ·go_wp2
     go_ret
     exact⟨by rw[HF.out,show s.size=k by omega,HA.out];rfl,rfl⟩
theorem isCode_any(s:ByteArray)(w:World)(hs:s.size≤maxLen) :
 Calls Tryz.prog 87 #[.string s] w fun e w'=>e=.returned (.bool (isCodeB s))∧w=w':=by
 unfold maxLen at hs
 by_cases h1:s.size<1
 ·have hf:isCodeB s=false:=by simp[isCodeB];omega
  have HF:=qH hf;clear hf
  go_enter Tryz.func87,Tryz.ntmps87
  go_wp2
  go_ret
  exact⟨by rw[HF.out];rfl,rfl⟩
 ·by_cases h2:8<s.size
  ·have hf:isCodeB s=false:=by simp[isCodeB];omega
   have HF:=qH hf;clear hf
   go_enter Tryz.func87,Tryz.ntmps87
   go_wp2
   go_ret
   exact⟨by rw[HF.out];rfl,rfl⟩
  ·have hf:isCodeB s=allTo (cdAt s) s.size:=by simp[isCodeB];omega
   have HF:=qH hf;clear hf
   go_enter Tryz.func87,Tryz.ntmps87
   go_wp2
   go_loop [15] (fun i => ∃ k:Nat,k≤s.size∧i=.int .i64 k∧Hid (allTo (cdAt s) k=true)) (fun i=>s.size-(intOf i).toNat)
   case atStart=>exact⟨0,qV _,rfl,rfl⟩
   case round =>
    obtain⟨k,hk,rfl,HA⟩:=hrel
    by_cases hlt:k<s.size
    ·have HB:=qH (byteAt_eq s k hlt)
     go_wp2
     all_goals
      have HB':=HB.out
      first
      | (have hv:cdAt s k=true:=by unfold cdAt upperI numberI;grind
         go_round
         case rel=>exact⟨k+1,by omega,by go_num,by show allTo _ _=true;rw[allTo_succ,HA.out,hv];rfl⟩
         case measure=>simp[intOf];omega)
      | (have hv:cdAt s k=false:=by unfold cdAt upperI numberI;grind
         go_ret
         exact⟨by rw[HF.out,allTo_false hlt hv];rfl,rfl⟩)
    ·go_wp2
     go_ret
     exact⟨by rw[HF.out,show s.size=k by omega,HA.out];rfl,rfl⟩
theorem isAirport_any(s:ByteArray)(w:World)(hs:s.size≤maxLen) :
 Calls Tryz.prog 50 #[.string s] w fun e w'=>e=.returned (.bool (isAirportB s))∧w=w':=by
 unfold maxLen at hs
 by_cases h1:s.size=3
 ·have hf:isAirportB s=allTo (upAt s) 3:=by simp[isAirportB,h1]
  have HF:=qH hf;clear hf;have hb:((s.size:Int) != 3)=false:=by simp;omega
  have hs3:s.size≤3:=by omega
  have hs3':3≤s.size:=by omega
  clear h1
  go_enter Tryz.func50,Tryz.ntmps50
  go_wp2
  go_loop [9] (fun i => ∃ k:Nat,k≤s.size∧i=.int .i64 k∧Hid (allTo (upAt s) k=true)) (fun i=>s.size-(intOf i).toNat)
  case atStart=>exact⟨0,qV _,rfl,rfl⟩
  case round =>
   obtain⟨k,hk,rfl,HA⟩:=hrel
   by_cases hlt:k<s.size
   ·have HB:=qH (byteAt_eq s k hlt)
    go_wp2
    all_goals
     have HB':=HB.out
     first
     | (have hv:upAt s k=true:=by unfold upAt upperI;grind
        go_round
        case rel=>exact⟨k+1,by omega,by go_num,by show allTo _ _=true;rw[allTo_succ,HA.out,hv];rfl⟩
        case measure=>simp[intOf];omega)
     | (have hv:upAt s k=false:=by unfold upAt upperI;grind
        go_ret
        exact⟨by rw[HF.out,allTo_false (by omega) hv];rfl,rfl⟩)
   ·go_wp2
    go_ret
    exact⟨by rw[HF.out,show 3=k by omega,HA.out];rfl,rfl⟩
 ·have hf:isAirportB s=false:=by simp[isAirportB,h1]
  have HF:=qH hf;clear hf;have hb:((s.size:Int) != 3)=true:=by simp;omega
  clear h1
  go_enter Tryz.func50,Tryz.ntmps50
  go_wp2
  go_ret
  exact⟨by rw[HF.out];rfl,rfl⟩
end Go.Proofs.YtifconapjfdkcaaGreatDoor
