/-
  Joined texts: Find; IncFlight. What each proves stands ahead of it, with its conditions.
-/
import Derived.Test.YtifconapjfdkcaaGreatDoorDAA
import Derived.Test.YtifconapjfdkcaaGreatDoorDAQ
import Derived.Test.YtifconapjfdkcaaGreatDoorDAK
import Derived.Test.YtifconapjfdkcaaGreatDoorDAS
import Derived.Test.YtifconapjfdkcaaGreatDoorDAJ
import Derived.Test.YtifconapjfdkcaaGreatDoorDAI
import Derived.Test.YtifconapjfdkcaaGreatDoorDAV
import Derived.Deep.QuietTactic
set_option linter.unusedSimpArgs false
set_option linter.unusedVariables false
set_option maxRecDepth 100000
set_option maxHeartbeats 12800000
namespace Go.Proofs.YtifconapjfdkcaaGreatDoor
section
open Go.RowKit
def firstHit(p:Nat→Bool)(n:Nat):Option Nat:=(List.range n).find? p
theorem firstHit_none{p:Nat→Bool}{n:Nat}(h : ∀ j,j<n→p j=false):firstHit p n=none:=by
 unfold firstHit;rw[List.find?_eq_none];intro x hx;rw[h x (List.mem_range.1 hx)];simp
theorem firstHit_some{p:Nat→Bool}{n k:Nat}(hk:k<n)(h : ∀ j,j<k→p j=false)(hp:p k=true):firstHit p n=some k:=by
 unfold firstHit;rw[List.find?_range_eq_some];exact⟨hp,List.mem_range.2 hk,fun j hj=>by rw[h j hj];rfl⟩
end
section
open Go.RowKit
theorem codeIs_any(a:GAirport)(g:Nat)(code:ByteArray)(w:World)(h:w.cell? ⟨g,3,none⟩=some (.string code)) :
 Calls Tryz.prog 71 #[.agg #[.string a.code,.string a.zone],.pointer (some ⟨g,0,none⟩)] w fun e w'=>e=.returned (.bool (decide (a.code=code)))∧Below w.heap.size w w':=by
 have hg:g<w.heap.size:=World.block_lt_of_cell? w _ h;have hc : ∀ o,(w.alloc o).cell? ⟨g,3,none⟩=some (.string code):=fun o=>(World.cell?_alloc_past _ _ _ hg).trans h
 have HSB:=qH (str_beq a.code code);have HA:Hid (∀ o,Below w.heap.size w (w.alloc o)):=fun o=>(qC _ _).alloc (qD _) o
 by_cases he:a.code=code
 ·have hs:(a.code.toList==code.toList)=true:=by rw[HSB.out];simpa using he
  have HE:Hid (decide (a.code=code)=true):=by show _=_;simpa using he
  clear he
  go_enter Tryz.func71,Tryz.ntmps71
  go_wp2_with fail
  go_ret
  exact⟨by rw[HE.out];rfl,HA.out _⟩
 ·have hs:(a.code.toList==code.toList)=false:=by rw[HSB.out];simpa using he
  have HE:Hid (decide (a.code=code)=false):=by show _=_;simpa using he
  clear he
  go_enter Tryz.func71,Tryz.ntmps71
  go_wp2_with fail
  go_ret
  exact⟨by rw[HE.out];rfl,HA.out _⟩
def aHit(l:List GAirport)(code:ByteArray)(i:Nat):Bool:=decide ((l.getD i noAirport).code=code)
def ixOpt(o:Option Nat):Int:=match o with|some i=>(i:Int)|none => -1
def IxPost(x:Int)(w:World)(e:Ending)(w':World):Prop:=e=.returned (.int .i64 x)∧Below w.heap.size w w'
theorem indexFunc_any(l:List GAirport)(A:Option Addr)(n c g:Nat)(code:ByteArray)(w:World)(hs:Sl Ty.airport w (all_ w) A n c l)(h:w.cell? ⟨g,3,none⟩=some (.string code)) :
 Calls Tryz.prog 109 #[.slice A n c,.func (.func 71) #[] #[.pointer (some ⟨g,0,none⟩)]] w (IxPost (ixOpt (firstHit (aHit l code) l.length)) w):=by
 have hn1:n≤l.length:=Nat.le_of_eq hs.len;have hn2:l.length≤n:=Nat.le_of_eq hs.len.symm;have hle:=hs.le;unfold maxLen at hle;have HS:=qH hs;have HG:=qH h;clear hs h
 go_enter Tryz.func109,Tryz.ntmps109
 go_wp2_with fail
 go_loopw [5,8] (fun _ s wr => ∃ k:Nat,k≤n∧s=.int .i64 k∧Below w.heap.size w wr∧Hid (∀ j,j<k→aHit l code j=false)) (fun _ s _=>n-(intOf s).toNat)
 case atStart=>exact⟨0,qV _,rfl,qC _ _,fun j hj=>absurd hj (by omega)⟩
 case round =>
  obtain⟨k,hk,rfl,hbr,HK⟩:=hrel
  by_cases hlt:k<n
  ·have hks:k<l.length:=by omega
   obtain⟨b,o,rfl,hbS,y0,y1⟩:=(HS.out.keep (all_keep hbr)).airport_at hks;have HAH:Hid (aHit l code k=decide ((l.getD k noAirport).code=code)):=rfl;generalize l.getD k noAirport=a at*;have HC:=qH (codeIs_any a g code wr (cell_kept HG.out hbr));go_wp2_with fail
   refine HC.out.mono ?_;rintro e w1 ⟨rfl,hb1⟩;clear HC y0 y1;have hw1:Below w.heap.size w w1:=hbr.trans (hb1.mono hbr.size);rw[←HAH.out];rcases Bool.eq_false_or_eq_true (aHit l code k) with hh|hh
   ·have HF:Hid (ixOpt (firstHit (aHit l code) l.length)=(k:Int)):=by show _=_;rw[firstHit_some hks HK.out hh];rfl
    rw[hh];clear hh;go_wp2_with fail
    go_ret
    exact⟨by rw[HF.out];rfl,hw1⟩
   ·have HM:Hid (∀ j,j<k+1→aHit l code j=false):=fun j hj=>by
     rcases Nat.lt_or_eq_of_le (Nat.le_of_lt_succ hj) with h1|rfl
     ·exact HK.out j h1
     ·exact hh
    rw[hh];clear hh;go_wp2_with fail
    go_roundw
    case rel=>exact⟨k+1,by omega,by go_num,hw1,HM⟩
    case measure=>simp[intOf];omega
  ·have HF:Hid (ixOpt (firstHit (aHit l code) l.length) = -1):=by
    show _=_;rw[firstHit_none (fun j hj=>HK.out j (by omega))];rfl
   go_wp2_with fail
   go_ret
   exact⟨by rw[HF.out];rfl,hbr⟩
def BoolPost(x:Bool)(w:World)(e:Ending)(w':World):Prop:=e=.returned (.bool x)∧Below w.heap.size w w'
theorem containsFunc_any(l:List GAirport)(A:Option Addr)(n c g:Nat)(code:ByteArray)(w:World)(hs:Sl Ty.airport w (all_ w) A n c l)(h:w.cell? ⟨g,3,none⟩=some (.string code)) :
 Calls Tryz.prog 72 #[.slice A n c,.func (.func 71) #[] #[.pointer (some ⟨g,0,none⟩)]] w (BoolPost (firstHit (aHit l code) l.length).isSome w):=by
 have HC:=qH (indexFunc_any l A n c g code w hs h);clear hs h
 cases hf:firstHit (aHit l code) l.length with
 | none =>
  rw[hf]at HC;have HC':Hid (Calls Tryz.prog 109 #[.slice A n c,.func (.func 71) #[] #[.pointer (some ⟨g,0,none⟩)]] w (IxPost (-1) w)):=HC;clear HC hf
  go_enter Tryz.func72,Tryz.ntmps72
  go_wp2_with fail
  refine HC'.out.mono ?_;rintro e w1 ⟨rfl,hb1⟩;go_wp2_with fail
  go_ret
  exact⟨rfl,hb1⟩
 | some i =>
  rw[hf]at HC;have HC':Hid (Calls Tryz.prog 109 #[.slice A n c,.func (.func 71) #[] #[.pointer (some ⟨g,0,none⟩)]] w (IxPost (i:Int) w)):=HC;have hd:decide ((0:Int)≤(i:Int))=true:=by simp
  clear HC hf
  go_enter Tryz.func72,Tryz.ntmps72
  go_wp2_with fail
  refine HC'.out.mono ?_;rintro e w1 ⟨rfl,hb1⟩;go_wp2_with fail
  go_ret
  exact⟨by simp,hb1⟩
theorem known_has(l:List GAirport)(code:ByteArray):(firstHit (aHit l code) l.length).isSome=hasB (aCodes l) code:=by
 unfold firstHit;rw[Bool.eq_iff_iff,List.find?_isSome,hasB_iff];unfold aCodes;rw[List.mem_map];constructor
 ·rintro⟨x,hx,hp⟩;have hx':=List.mem_range.1 hx;unfold aHit at hp;exact⟨l.getD x noAirport,getD_mem0 hx' noAirport,of_decide_eq_true hp⟩
 ·rintro⟨a,ha,rfl⟩;obtain⟨i,hi,e⟩:=mem_getD ha noAirport;exact⟨i,List.mem_range.2 hi,by unfold aHit;rw[e];simp⟩
theorem incFlight_any(t:GTT)(x:GInc)(A1 A2 A3:Option Addr)(n1 n2 n3 c1 c2 c3:Nat)(w:World)(hs2:Sl Ty.airport w (all_ w) A2 n2 c2 t.airports)(hs3:Sl Ty.flight w (all_ w) A3 n3 c3 t.flights)(hk:1≤x.kind∧x.kind≤3) :
 Calls Tryz.prog 38 #[.agg #[.slice A1 n1 c1,.slice A2 n2 c2,.slice A3 n3 c3],incVal x] w (ErrPost (flightIncE t x) w):=by
 have hn1:n3≤t.flights.length:=Nat.le_of_eq hs3.len;have hn2:t.flights.length≤n3:=Nat.le_of_eq hs3.len.symm;have hle:=hs3.le;unfold maxLen at hle;have HA:Hid (∀ o p,Below w.heap.size w ((w.alloc o).alloc p)):=fun o p=>((qC _ _).alloc (qD _) o).alloc (by simp) p
 unfold incVal;obtain⟨kind,fl,mi,ai,pe,⟨s1,s2⟩⟩:=x;simp only at hk ⊢
 by_cases hf:fl<0∨(t.flights.length:Int)≤fl
 ·have HR:Hid (flightIncE t ⟨kind,fl,mi,ai,pe,⟨s1,s2⟩⟩=6):=by show _=_;unfold flightIncE;exact qR hf
  have hf':fl<0∨(¬fl<0∧(n3:Int)≤fl):=by omega
  clear hf hs2 hs3;rcases hf' with h|⟨h,h'⟩
  all_goals
   go_enter Tryz.func38,Tryz.ntmps38
   go_wp2_with fail
   go_ret
   exact⟨by rw[HR.out];rfl,HA.out _ _⟩
 have hf0:0≤fl:=by omega
 have hf1:fl<(n3:Int):=by omega
 have hk':kind=1∨kind=2∨kind=3:=by omega
 rcases hk' with rfl|rfl|rfl
 ·have HR:Hid (flightIncE t ⟨1,fl,mi,ai,pe,⟨s1,s2⟩⟩=if mi<1∨1440<mi then 5 else 0):=by show _=_;unfold flightIncE;rw[qN hf,qR rfl]
  clear hf hs2 hs3
  by_cases hm:mi<1∨1440<mi
  ·rw[qR hm]at HR;have hm':mi<1∨(¬mi<1∧1440<mi):=by omega
   clear hm;rcases hm' with h|⟨h,h'⟩
   all_goals
    go_enter Tryz.func38,Tryz.ntmps38
    go_wp2_with fail
    go_ret
    exact⟨by rw[HR.out];rfl,HA.out _ _⟩
  ·rw[qN hm]at HR;have h1 : ¬mi<1:=by omega
   have h2 : ¬1440<mi:=by omega
   clear hm
   go_enter Tryz.func38,Tryz.ntmps38
   go_wp2_with fail
   go_ret
   exact⟨by rw[HR.out];rfl,HA.out _ _⟩
 ·have HR:Hid (flightIncE t ⟨2,fl,mi,ai,pe,⟨s1,s2⟩⟩=0):=by show _=_;unfold flightIncE;rw[qN hf,qN (show ¬(2:Int)=1 by decide),qN (show ¬(2:Int)=3 by decide)]
  clear hf hs2 hs3
  go_enter Tryz.func38,Tryz.ntmps38
  go_wp2_with fail
  go_ret
  exact⟨by rw[HR.out];rfl,HA.out _ _⟩
 ·have HR:Hid (flightIncE t ⟨3,fl,mi,ai,pe,⟨s1,s2⟩⟩=if hasB (aCodes t.airports) ai=false then 6 else if ai=(t.flights.getD fl.toNat noFlight).src then 14 else if mi<0∨720<mi then 5 else 0):=by show _=_;unfold flightIncE;rw[qN hf,qN (show ¬(3:Int)=1 by decide),qR rfl]
  have hA0:=HA.out (.cells #[.slice A1 n1 c1,.slice A2 n2 c2,.slice A3 n3 c3] 27) (.cells #[.int .i64 3,.int .i64 fl,.int .i64 mi,.string ai,.int .i64 pe,.int .i64 s1,.int .i64 s2] 59);have HC:=qH (containsFunc_any t.airports A2 n2 c2 (w.heap.size+1) ai _ (hs2.next hA0) (block_cell (heap_alloc2_new _ _ _) 3));rw[known_has]at HC;have HS:Hid (∀ V,Below w.heap.size w V→Sl Ty.flight V (all_ w) A3 n3 c3 t.flights):=fun V hV=>hs3.keep (all_keep hV)
  have HA1:=qH hA0;have g0:((w.alloc (.cells #[.slice A1 n1 c1,.slice A2 n2 c2,.slice A3 n3 c3] 27)).alloc (.cells #[.int .i64 3,.int .i64 fl,.int .i64 mi,.string ai,.int .i64 pe,.int .i64 s1,.int .i64 s2] 59)).heap[w.heap.size]? = some (.cells #[.slice A1 n1 c1,.slice A2 n2 c2,.slice A3 n3 c3] 27 (0,0)):=heap_alloc2_old _ _ _;have g1:((w.alloc (.cells #[.slice A1 n1 c1,.slice A2 n2 c2,.slice A3 n3 c3] 27)).alloc (.cells #[.int .i64 3,.int .i64 fl,.int .i64 mi,.string ai,.int .i64 pe,.int .i64 s1,.int .i64 s2] 59)).heap[w.heap.size+1]? = some (.cells #[.int .i64 3,.int .i64 fl,.int .i64 mi,.string ai,.int .i64 pe,.int .i64 s1,.int .i64 s2] 59 (0,0)):=heap_alloc2_new _ _ _;have HZ:Hid (w.heap.size+2≤((w.alloc (.cells #[.slice A1 n1 c1,.slice A2 n2 c2,.slice A3 n3 c3] 27)).alloc (.cells #[.int .i64 3,.int .i64 fl,.int .i64 mi,.string ai,.int .i64 pe,.int .i64 s1,.int .i64 s2] 59)).heap.size):=by show _≤_;simp
  have G0:=qH g0;have G1:=qH g1;clear hf hs2 hs3 g0 g1 hA0 HA
  go_enter Tryz.func38,Tryz.ntmps38
  go_wp2_with fail
  refine HC.out.mono ?_;clear HC;generalize (w.alloc (.cells #[.slice A1 n1 c1,.slice A2 n2 c2,.slice A3 n3 c3] 27)).alloc (.cells #[.int .i64 3,.int .i64 fl,.int .i64 mi,.string ai,.int .i64 pe,.int .i64 s1,.int .i64 s2] 59)=W at*;rintro e w1 ⟨rfl,hb1⟩;have hw1:=HA1.out.trans (hb1.mono (by have:=HZ.out;omega));have k0:w1.heap[w.heap.size]? = _:=(hb1.block _ (by have:=HZ.out;omega)).trans G0.out;have k1:w1.heap[w.heap.size+1]? = _:=(hb1.block _ (by have:=HZ.out;omega)).trans G1.out;have y0:=fun j=>block_cell k0 j
  have y1:=fun j=>block_cell k1 j
  have z1:=y0 1;have z2:=y0 2;have z3:=y1 1;have z4:=y1 2;have z5:=y1 3;obtain⟨b,o,rfl,hbS,hfl⟩:=(HS.out w1 hw1).flight_at (k:=fl.toNat) (by omega);have z6:w1.cell? ⟨b,o+fl.toNat*9+1,none⟩=some (.string (t.flights.getD fl.toNat noFlight).src):=hfl 1 _ rfl;generalize (t.flights.getD fl.toNat noFlight).src=src at*;have HW1:=qH hw1;clear k0 k1 y0 y1 hfl HS hb1 hw1 G0 G1;rcases Bool.eq_false_or_eq_true (hasB (aCodes t.airports) ai) with hh|hh
  case inr =>
   rw[hh]at HR ⊢;clear hh;rw[qR rfl]at HR;go_wp2_with fail
   go_ret
   exact⟨by rw[HR.out];rfl,HW1.out⟩
  case inl =>
   rw[hh]at HR ⊢;clear hh;rw[qN (by simp)]at HR;have HSB:=qH (str_beq ai src)
   by_cases he:ai=src
   ·rw[qR he]at HR;have hs:(ai.toList==src.toList)=true:=by rw[HSB.out];simpa using he
    clear he;go_wp2_with fail
    go_quiet (fail)
    go_wp2_with fail
    go_ret
    exact⟨by rw[HR.out];rfl,below_drewN HW1.out _⟩
   ·rw[qN he]at HR;have hs:(ai.toList==src.toList)=false:=by rw[HSB.out];simpa using he
    clear he
    by_cases hm:mi<0∨720<mi
    ·rw[qR hm]at HR;have hm':mi<0∨(¬mi<0∧720<mi):=by omega
     clear hm;rcases hm' with h|⟨h,h'⟩
     all_goals
      go_wp2_with fail
      go_quiet (fail)
      go_wp2_with fail
      go_ret
      exact⟨by rw[HR.out];rfl,below_drewN HW1.out _⟩
    ·rw[qN hm]at HR;have h1 : ¬mi<0:=by omega
     have h2 : ¬720<mi:=by omega
     clear hm;go_wp2_with fail
     go_quiet (fail)
     go_wp2_with fail
     go_ret
     exact⟨by rw[HR.out];rfl,below_drewN HW1.out _⟩
end
end Go.Proofs.YtifconapjfdkcaaGreatDoor
