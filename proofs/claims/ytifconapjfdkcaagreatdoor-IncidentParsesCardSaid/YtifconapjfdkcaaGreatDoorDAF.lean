/-
  Contract of zone.Validate.
  Condition: the zone's data are well formed.
-/
import Derived.Test.YtifconapjfdkcaaGreatDoorDAA
import Derived.Test.YtifconapjfdkcaaGreatDoorDAC
import Derived.Test.YtifconapjfdkcaaGreatDoorProg
import Derived.Test.YtifconapjfdkcaaGreatDoorDAB
import Derived.Deep.QuietTactic
import Derived.BigQuiet
import Derived.IntWalk
set_option linter.unusedSimpArgs false
set_option linter.unusedVariables false
set_option maxRecDepth 100000
set_option maxHeartbeats 12800000
namespace Go.Proofs.YtifconapjfdkcaaGreatDoor
open Go.RowKit
theorem offset_any(n:Int)(w:World):Calls Tryz.prog 85 #[.int .i64 n] w fun e w'=>e=.returned (.bool (offOk n))∧w=w':=by
 go_enter Tryz.func85,Tryz.ntmps85
 go_wp2
 all_goals go_ret
 all_goals exact⟨ret_bool (by unfold offOk;grind),rfl⟩
theorem instant_any(n:Int)(w:World):Calls Tryz.prog 86 #[.int .i64 n] w fun e w'=>e=.returned (.bool (insOk n))∧w=w':=by
 go_enter Tryz.func86,Tryz.ntmps86
 go_wp2
 all_goals go_ret
 all_goals exact⟨ret_bool (by unfold insOk;grind),rfl⟩
def ErrPost(v:Int)(w:World)(e:Ending)(w':World):Prop:=e=.returned (.int .i64 v)∧Below w.heap.size w w'
theorem zoneValidate_any(z:GZone)(A:Option Addr)(n c:Nat)(w:World)(hz:z.ok)(hsl:Sl Ty.shift w (all_ w) A n c z.shifts) :
 Calls Tryz.prog 49 #[.agg #[.string z.name,.int .i64 z.off,.slice A n c]] w (ErrPost (zoneE z) w):=by
 have hE:zoneE z=zoneE z:=rfl;obtain⟨hz1,hz2,hz3⟩:=hz;have hn:=hsl.len;have hnl:=hsl.le;unfold maxLen at hnl;subst hn;have HZ1:=qH hz1;have HZ3:=qH hz3;clear hz1 hz3
 by_cases h1:isNameB z.name=true
 ·go_enter Tryz.func49,Tryz.ntmps49
  go_wp2_with fail
  refine(isName_any z.name _ HZ1.out).mono ?_;rintro e w' ⟨rfl,rfl⟩;rw[h1];go_wp2_with fail
  refine(offset_any z.off _).mono ?_;rintro e w' ⟨rfl,rfl⟩
  by_cases h2:offOk z.off=true
  ·rw[h2]
   by_cases h3:16<z.shifts.length
   ·have HE:Hid (zoneE z=10):=by show _=_;unfold zoneE;rw[qN (by rw[h1];decide),qN (by rw[h2];decide),qR h3]
    go_wp2_with fail
    go_ret
    exact⟨by rw[HE.out];rfl,(qC _ _).alloc (qD _) _⟩
   ·have HE:Hid (zoneE z=firstErr (shiftErr z.shifts) z.shifts.length):=by show _=_;unfold zoneE;rw[qN (by rw[h1];decide),qN (by rw[h2];decide),qN h3]
    have hb0:Below w.heap.size w (w.alloc (.cells #[.string z.name,.int .i64 z.off,.slice A z.shifts.length c] 98)):=(qC _ _).alloc (qD _) _;have hbx:(w.alloc (.cells #[.string z.name,.int .i64 z.off,.slice A z.shifts.length c] 98)).cell? ⟨w.heap.size,2,none⟩=some (.slice A z.shifts.length c):=by
     rw[World.cell?_alloc_at _ _ _ _ rfl];rfl
    have hsw:(w.alloc (.cells #[.string z.name,.int .i64 z.off,.slice A z.shifts.length c] 98)).heap.size=w.heap.size+1:=by simp
    go_wp2_with fail
    generalize hW:w.alloc (.cells #[.string z.name,.int .i64 z.off,.slice A z.shifts.length c] 98)=W at*;have HSL:=qH (hsl.keep (all_keep hb0));clear hsl hW;have HW:=qH hsw;clear hsw;go_loopw [3,4,20] (fun _ _ i wr => ∃ k:Nat,k≤z.shifts.length∧i=.int .i64 k∧Below (w.heap.size+1) W wr∧Hid (zeroTo (shiftErr z.shifts) k)) (fun _ _ i _=>z.shifts.length-(intOf i).toNat)
    case atStart=>exact⟨0,qV _,rfl,qC _ _,zeroTo_zero _⟩
    case round =>
     obtain⟨k,hk,rfl,hbr,HK⟩:=hrel;have hbx':wr.cell? ⟨w.heap.size,2,none⟩=some (.slice A z.shifts.length c):=(hbr.cell (by simp)).trans hbx;have hsl':=HSL.out.keep (w':=wr) fun b hb=>hbr.block b (by unfold all_ at hb;omega)
     by_cases hlt:k<z.shifts.length
     ·obtain⟨b,o,rfl,hbS,hc0,hc1⟩:=hsl'.shift_at hlt;have hbl:b<wr.heap.size:=by unfold all_ at hbS;have:=hbr.size;have:=HW.out;omega
      have hwl:w.heap.size<wr.heap.size:=by have:=hbr.size;have:=HW.out;omega
      have hbne:b≠wr.heap.size:=by omega
      have HERR:Hid (shiftErr z.shifts k=if insOk (z.shifts.getD k noShift).at_=false∨offOk (z.shifts.getD k noShift).off=false then 5 else if 0<k∧(z.shifts.getD k noShift).at_≤(z.shifts.getD (k-1) noShift).at_ then 8 else 0):=rfl;generalize hs:z.shifts.getD k noShift=s at*;clear hbx hs
      by_cases hi:insOk s.at_=true
      ·by_cases ho:offOk s.off=true
       ·have hbox:(wr.alloc (.cells #[.int .i64 s.at_,.int .i64 s.off] 122)).cell? ⟨wr.heap.size,0,none⟩=some (.int .i64 s.at_):=by rw[World.cell?_alloc_at _ _ _ _ rfl];rfl
        rcases Nat.eq_zero_or_pos k with rfl|hk0
        case' inr =>
         obtain⟨b',o',e',_,hp0,_⟩:=hsl'.shift_at (k:=k-1) (by omega);simp only[Option.some.injEq,Addr.mk.injEq,and_true]at e';obtain⟨rfl,rfl⟩:=e';generalize hp:z.shifts.getD (k-1) noShift=p at*;clear hp;go_wp2_with (first
          | (go_at_call 86;refine(instant_any _ _).mono ?_;rintro e w' ⟨rfl,rfl⟩;rw[hi])
          | (go_at_call 85;refine(offset_any _ _).mono ?_;rintro e w' ⟨rfl,rfl⟩;rw[ho]))
         have wr1:IntKind.i64.wrap ((k:Int)-1)=(k:Int)-1:=qM _ (by omega);have wr2:0≤(k:Int)-1:=by omega
         have wr3:(k:Int)-1<(z.shifts.length:Int):=by omega
         have wr4:((k:Int)-1).toNat=k-1:=by omega
         go_quiet (fail)
         clear wr1 wr2 wr3 wr4
         by_cases hle:s.at_≤p.at_
         ·have HF:Hid (firstErr (shiftErr z.shifts) z.shifts.length=8):=by
           have h9:shiftErr z.shifts k=8:=by rw[HERR.out,qN (by rw[hi,ho];simp),qR ⟨hk0,hle⟩]
           rw[firstErr_hit HK.out (by rw[h9];decide) hlt,h9];rfl
          go_wp2_with fail
          go_ret
          exact⟨by rw[HE.out,HF.out];rfl,below_drewN (hb0.trans ((hbr.mono (by omega)).alloc (by omega) _)) _⟩
         ·have HZ:Hid (zeroTo (shiftErr z.shifts) (k+1)):=zeroTo_succ HK.out (by rw[HERR.out,qN (by rw[hi,ho];simp),qN (fun h=>hle h.2)]);go_wp2_with fail
          go_roundw
          case rel=>exact⟨k+1,by omega,by go_num,below_drewN (hbr.alloc (by omega) _) _,HZ⟩
          case measure=>simp[intOf];omega
        ·have HZ:Hid (zeroTo (shiftErr z.shifts) (0+1)):=zeroTo_succ HK.out (by rw[HERR.out,qN (by rw[hi,ho];simp),qN (fun h=>absurd h.1 (by omega))]);simp only[Nat.zero_mul,Nat.add_zero]at hc0 hc1;go_wp2_with (first
          | (go_at_call 86;refine(instant_any _ _).mono ?_;rintro e w' ⟨rfl,rfl⟩;rw[hi])
          | (go_at_call 85;refine(offset_any _ _).mono ?_;rintro e w' ⟨rfl,rfl⟩;rw[ho]))
         go_quiet (fail)
         go_wp2_with fail
         go_roundw
         case rel=>exact⟨0+1,by omega,rfl,below_drewN (hbr.alloc (by omega) _) _,HZ⟩
         case measure=>simp[intOf];omega
       ·have ho':offOk s.off=false:=by simpa using ho
        have HF:Hid (firstErr (shiftErr z.shifts) z.shifts.length=5):=by
         have h9:shiftErr z.shifts k=5:=by rw[HERR.out,qR (.inr ho')]
         rw[firstErr_hit HK.out (by rw[h9];decide) hlt,h9];rfl
        clear ho;go_wp2_with (first
         | (go_at_call 86;refine(instant_any _ _).mono ?_;rintro e w' ⟨rfl,rfl⟩;rw[hi])
         | (go_at_call 85;refine(offset_any _ _).mono ?_;rintro e w' ⟨rfl,rfl⟩;rw[ho']))
        go_ret
        exact⟨by rw[HE.out,HF.out];rfl,hb0.trans ((hbr.mono (by omega)).alloc (by omega) _)⟩
      ·have hi':insOk s.at_=false:=by simpa using hi
       have HF:Hid (firstErr (shiftErr z.shifts) z.shifts.length=5):=by
        have h9:shiftErr z.shifts k=5:=by rw[HERR.out,qR (.inl hi')]
        rw[firstErr_hit HK.out (by rw[h9];decide) hlt,h9];rfl
       clear hi;go_wp2_with (go_at_call 86;refine(instant_any _ _).mono ?_;rintro e w' ⟨rfl,rfl⟩;rw[hi'])
       go_ret
       exact⟨by rw[HE.out,HF.out];rfl,hb0.trans ((hbr.mono (by omega)).alloc (by omega) _)⟩
     ·have HF:Hid (firstErr (shiftErr z.shifts) z.shifts.length=0):=firstErr_none (by rw[show z.shifts.length=k by omega];exact HK.out);clear hbx;go_wp2_with fail
      go_ret
      exact⟨by rw[HE.out,HF.out];rfl,hb0.trans (hbr.mono (by omega))⟩
  ·have h2':offOk z.off=false:=by simpa using h2
   have HE:Hid (zoneE z=5):=by show _=_;unfold zoneE;rw[qN (by rw[h1];decide),qR h2']
   rw[h2'];go_wp2_with fail
   go_ret
   exact⟨by rw[HE.out];rfl,(qC _ _).alloc (qD _) _⟩
 ·have h1':isNameB z.name=false:=by simpa using h1
  have HE:Hid (zoneE z=1):=by show _=_;unfold zoneE;rw[qR h1']
  go_enter Tryz.func49,Tryz.ntmps49
  go_wp2_with fail
  refine(isName_any z.name _ HZ1.out).mono ?_;rintro e w' ⟨rfl,rfl⟩;rw[h1'];go_wp2_with fail
  go_ret
  exact⟨by rw[HE.out];rfl,(qC _ _).alloc (qD _) _⟩
end Go.Proofs.YtifconapjfdkcaaGreatDoor
