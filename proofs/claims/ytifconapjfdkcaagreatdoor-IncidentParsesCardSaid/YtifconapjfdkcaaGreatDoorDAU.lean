/-
  Joined texts: Cal; Cal2; Cal3; IncSickP. What each proves stands ahead of it, with its conditions.
-/
import Derived.Test.YtifconapjfdkcaaGreatDoorDAA
import Derived.Test.YtifconapjfdkcaaGreatDoorDAM
import Derived.Test.YtifconapjfdkcaaGreatDoorDAJ
import Derived.Test.YtifconapjfdkcaaGreatDoorDAT
import Derived.Deep.RegionLaw
import Derived.Deep.RegionWith
import Derived.Test.YtifconapjfdkcaaGreatDoorDAV
import Derived.Deep.DeepCutAuto
import Derived.Test.YtifconapjfdkcaaGreatDoorDAE
import Derived.Test.YtifconapjfdkcaaGreatDoorDAS
set_option linter.unusedSimpArgs false
set_option linter.unusedVariables false
set_option maxRecDepth 100000
set_option maxHeartbeats 12800000
namespace Go.Proofs.YtifconapjfdkcaaGreatDoor
section
open Go.RowKit
theorem leap_any(y:Int)(w:World)(h0:0≤y)(h1:y≤100000):Calls Tryz.prog 159 #[.int .i64 y] w fun e w'=>e=.returned (.bool (leapB y))∧w=w':=by
 have HL:Hid (leapB y=(decide (y%4=0)&&(decide (y%100≠0)||decide (y%400=0)))):=rfl
 by_cases a:y%4=0
 ·have a':(y%4==0)=true:=by simpa using a
  by_cases b:y%100=0
  ·have b':(y%100 != 0)=false:=by simpa using b
   by_cases c:y%400=0
   ·have c':(y%400==0)=true:=by simpa using c
    have HR:Hid (leapB y=true):=by show _=_;rw[HL.out];simp[a,b,c]
    clear a b c
    go_enter Tryz.func159,Tryz.ntmps159
    go_wp2_with fail
    go_ret
    exact⟨ret_bool HR.out.symm,rfl⟩
   ·have c':(y%400==0)=false:=by simpa using c
    have HR:Hid (leapB y=false):=by show _=_;rw[HL.out];simp[a,b,c]
    clear a b c
    go_enter Tryz.func159,Tryz.ntmps159
    go_wp2_with fail
    go_ret
    exact⟨ret_bool HR.out.symm,rfl⟩
  ·have b':(y%100 != 0)=true:=by simpa using b
   have HR:Hid (leapB y=true):=by show _=_;rw[HL.out];simp[a,b]
   clear a b
   go_enter Tryz.func159,Tryz.ntmps159
   go_wp2_with fail
   go_ret
   exact⟨ret_bool HR.out.symm,rfl⟩
 ·have a':(y%4==0)=false:=by simpa using a
  have HR:Hid (leapB y=false):=by show _=_;rw[HL.out];simp[a]
  clear a
  go_enter Tryz.func159,Tryz.ntmps159
  go_wp2_with fail
  go_ret
  exact⟨ret_bool HR.out.symm,rfl⟩
theorem yearDays_any(y:Int)(w:World)(h0:0≤y)(h1:y≤100000):Calls Tryz.prog 117 #[.int .i64 y] w fun e w'=>e=.returned (.int .i64 (yDays y))∧w=w':=by
 have HC:=qH (leap_any y w h0 h1);have HY:Hid (yDays y=if leapB y=true then 366 else 365):=rfl
 go_enter Tryz.func117,Tryz.ntmps117
 go_wp2_with fail
 refine HC.out.mono ?_;rintro e w' ⟨rfl,rfl⟩
 cases hl:leapB y
 ·have HR:Hid (yDays y=365):=by show _=_;rw[HY.out,hl];rfl
  go_wp2_with fail
  go_ret
  exact⟨ret_int HR.out.symm,rfl⟩
 ·have HR:Hid (yDays y=366):=by show _=_;rw[HY.out,hl];rfl
  go_wp2_with fail
  go_ret
  exact⟨ret_int HR.out.symm,rfl⟩
def monCells:Array Value := #[.int .i64 31,.int .i64 28,.int .i64 31,.int .i64 30,.int .i64 31,.int .i64 30,.int .i64 31,.int .i64 31,.int .i64 30,.int .i64 31,.int .i64 30,.int .i64 31]
theorem mon_cell(k:Nat)(h:k<12):monCells[k]? = some (.int .i64 (mTab.getD k 0)):=by
 have:k=0∨k=1∨k=2∨k=3∨k=4∨k=5∨k=6∨k=7∨k=8∨k=9∨k=10∨k=11:=by omega
 rcases this with rfl|rfl|rfl|rfl|rfl|rfl|rfl|rfl|rfl|rfl|rfl|rfl <;> rfl
theorem monthDays_any(y m:Int)(w:World)(h0:0≤y)(h1:y≤100000)(m0:1≤m)(m1:m≤12):Calls Tryz.prog 118 #[.int .i64 y,.int .i64 m] w (IntPost (mDays y m) w):=by
 have hb0:=(qC w.heap.size w).alloc (qD _) (.cells monCells 210);have hr0:=qK w (.cells monCells 210);have hc:(w.alloc (.cells monCells 210)).cell? ⟨w.heap.size,(m-1).toNat,none⟩=some (.int .i64 (mTab.getD (m-1).toNat 0)):=(block_cell hr0 _).trans (mon_cell _ (by omega));have hme:(m-1).toNat=m.toNat-1:=by omega
 have hc2:(w.alloc (.cells monCells 210)).cell? ⟨w.heap.size,m.toNat-1,none⟩=some (.int .i64 (mTab.getD (m-1).toNat 0)):=by rw[←hme];exact hc
 have hc3:monCells[m.toNat-1]? = some (.int .i64 (mTab.getD (m-1).toNat 0)):=by rw[←hme];exact mon_cell _ (by omega)
 have HB:=qH hb0;have HM:Hid (mDays y m=if m=2∧leapB y=true then 29 else mTab.getD (m-1).toNat 0):=rfl;have HC:=qH (leap_any y (w.alloc (.cells monCells 210)) h0 h1);unfold monCells at hc hc2 hc3 HB HC;have q1:IntKind.i64.wrap (m-1)=m-1:=qM _ (by omega);have q2:0≤m-1:=by omega
 have q3:m-1<12:=by omega
 clear hb0 hr0 hme
 go_enter Tryz.func118,Tryz.ntmps118
 by_cases hm:m=2
 ·subst hm;go_wp2_with fail
  refine HC.out.mono ?_;rintro e w' ⟨rfl,rfl⟩
  cases hl:leapB y
  ·have HR:Hid (mDays y 2=28):=by show _=_;rw[HM.out,hl];rfl
   go_wp2_with fail
   go_ret
   exact⟨ret_int HR.out.symm,HB.out⟩
  ·have HR:Hid (mDays y 2=29):=by show _=_;rw[HM.out,hl];simp
   go_wp2_with fail
   go_ret
   exact⟨ret_int HR.out.symm,HB.out⟩
 ·have hm':(m==2)=false:=by simpa using hm
  have HR:Hid (mDays y m=mTab.getD (m-1).toNat 0):=by show _=_;rw[HM.out,qN (fun h=>hm h.1)]
  generalize mTab.getD (m-1).toNat 0=md at*;clear hm;go_wp2_with fail
  go_ret
  exact⟨ret_int HR.out.symm,HB.out⟩
def valF(w:World)(y m d md:Int)(R:Bool)(k:Nat)(v:Value)(_:World):Prop:=([.pointer (some ⟨w.heap.size,0,none⟩),.int .i64 y,.bool true,.bool true,.pointer (some ⟨w.heap.size,0,none⟩),.int .i64 y,.bool true,.bool true,.bool true,.pointer (some ⟨w.heap.size,1,none⟩),.int .i64 m,.bool true,.bool true,.bool true,.pointer (some ⟨w.heap.size,1,none⟩),.int .i64 m,.bool true,.bool true,.bool true,.pointer (some ⟨w.heap.size,2,none⟩),.int .i64 d,.bool true,.bool true,.bool true,.pointer (some ⟨w.heap.size,2,none⟩),.int .i64 d,.pointer (some ⟨w.heap.size,0,none⟩),.int .i64 y,.pointer (some ⟨w.heap.size,1,none⟩),.int .i64 m,.int .i64 md,.bool R,.bool R]:List Value)[k]? = some v
def BoolPostC(x:Bool)(w:World)(e:Ending)(w':World):Prop:=e=.returned (.bool x)∧Below w.heap.size w w'
theorem valid_any(y m d:Int)(w:World):Calls Tryz.prog 119 #[.agg #[.int .i64 y,.int .i64 m,.int .i64 d]] w (BoolPostC (validB y m d) w):=by
 have hb0:=(qC w.heap.size w).alloc (qD _) (.cells #[.int .i64 y,.int .i64 m,.int .i64 d] 145);have hr0:=qK w (.cells #[.int .i64 y,.int .i64 m,.int .i64 d] 145);have HB:=qH hb0;have HBD:Hid (∀ q,Below w.heap.size w ((w.alloc (.cells #[.int .i64 y,.int .i64 m,.int .i64 d] 145)).drewN q)):=fun q=>below_drewN hb0 q
 have HC:Hid (0≤y→y≤100000→1≤m→m≤12 → ∀ q,Calls Tryz.prog 118 #[.int .i64 y,.int .i64 m] ((w.alloc (.cells #[.int .i64 y,.int .i64 m,.int .i64 d] 145)).drewN q) (IntPost (mDays y m) ((w.alloc (.cells #[.int .i64 y,.int .i64 m,.int .i64 d] 145)).drewN q))):=fun h0 h1 h2 h3 q=>monthDays_any y m _ h0 h1 h2 h3
 have HV:Hid (validB y m d=(decide (1999≤y)&&decide (y≤2100)&&decide (1≤m)&&decide (m≤12)&&decide (1≤d)&&decide (d≤mDays y m))):=rfl;have x0:=block_cell hr0 0;have x1:=block_cell hr0 1;have x2:=block_cell hr0 2;generalize validB y m d=V at*;clear hb0 hr0
 go_enter Tryz.func119,Tryz.ntmps119
 go_wp2_with fail
 have HBW:=qH HB.out;generalize w.alloc (.cells #[.int .i64 y,.int .i64 m,.int .i64 d] 145)=W at*
 by_cases a1:1999≤y
 case neg =>
  have HR:Hid (V=false):=by show _=_;rw[HV.out,decide_eq_false a1];simp
  go_quiet (fail)
  go_wp2_with fail
  go_ret
  exact⟨ret_bool HR.out.symm,HBD.out _⟩
 by_cases a2:y≤2100
 case neg =>
  have HR:Hid (V=false):=by show _=_;rw[HV.out,decide_eq_false a2];simp
  go_quiet (fail)
  go_wp2_with fail
  go_ret
  exact⟨ret_bool HR.out.symm,HBD.out _⟩
 by_cases a3:1≤m
 case neg =>
  have HR:Hid (V=false):=by show _=_;rw[HV.out,decide_eq_false a3];simp
  go_quiet (fail)
  go_wp2_with fail
  go_ret
  exact⟨ret_bool HR.out.symm,HBD.out _⟩
 by_cases a4:m≤12
 case neg =>
  have HR:Hid (V=false):=by show _=_;rw[HV.out,decide_eq_false a4];simp
  go_quiet (fail)
  go_wp2_with fail
  go_ret
  exact⟨ret_bool HR.out.symm,HBD.out _⟩
 by_cases a5:1≤d
 case neg =>
  have HR:Hid (V=false):=by show _=_;rw[HV.out,decide_eq_false a5];simp
  go_quiet (fail)
  go_wp2_with fail
  go_ret
  exact⟨ret_bool HR.out.symm,HBD.out _⟩
 have HR:Hid (V=decide (d≤mDays y m)):=by show _=_;rw[HV.out,decide_eq_true a1,decide_eq_true a2,decide_eq_true a3,decide_eq_true a4,decide_eq_true a5];simp
 have HCC:Hid (∀ V:World,Calls Tryz.prog 118 #[.int .i64 y,.int .i64 m] V (IntPost (mDays y m) V)):=fun V=>monthDays_any y m V (by omega) (by omega) a3 a4
 generalize mDays y m=md at*;generalize hR:decide (d≤md)=R at*;have hdl:(d≤md) ∨ ¬(d≤md):=Classical.em _;refine wp_region_factsG 33 [3,4,5,6,7,8,9,10,11,12,13,14,15,16,17,18,19,20,21,22,23,24,25,26,27,28,29,30,31,32,33,34,35] (valF w y m d md R) (by kernel_rfl) (by kernel_rfl) (by kernel_rfl) (by kernel_rfl) (by kernel_rfl) ?gd (fun _ _ _ _ h _=>h) ?_ ?_
 case gd =>
  intro i o j b hi ho hg v ww hv;have hi':i=0∨i=1∨i=2∨i=3∨i=4∨i=5∨i=6∨i=7∨i=8∨i=9∨i=10∨i=11∨i=12∨i=13∨i=14∨i=15∨i=16∨i=17∨i=18∨i=19∨i=20∨i=21∨i=22∨i=23∨i=24∨i=25∨i=26∨i=27∨i=28∨i=29∨i=30∨i=31∨i=32:=by omega
  rcases hi' with rfl|rfl|rfl|rfl|rfl|rfl|rfl|rfl|rfl|rfl|rfl|rfl|rfl|rfl|rfl|rfl|rfl|rfl|rfl|rfl|rfl|rfl|rfl|rfl|rfl|rfl|rfl|rfl|rfl|rfl|rfl|rfl|rfl
  all_goals
   obtain rfl:=qB ho
   first
    | (cases hg;exact(qB hv).symm)
    | (cases hg)
 ·intro q o hq ho a' w' hb' hout hpre K hK;clear HV HR HBD HB HC;have hq':q=0∨q=1∨q=2∨q=3∨q=4∨q=5∨q=6∨q=7∨q=8∨q=9∨q=10∨q=11∨q=12∨q=13∨q=14∨q=15∨q=16∨q=17∨q=18∨q=19∨q=20∨q=21∨q=22∨q=23∨q=24∨q=25∨q=26∨q=27∨q=28∨q=29∨q=30∨q=31∨q=32:=by omega
  rcases hq' with rfl|rfl|rfl|rfl|rfl|rfl|rfl|rfl|rfl|rfl|rfl|rfl|rfl|rfl|rfl|rfl|rfl|rfl|rfl|rfl|rfl|rfl|rfl|rfl|rfl|rfl|rfl|rfl|rfl|rfl|rfl|rfl|rfl
  ·obtain rfl:=qB ho;have e1:a'.tmps[1]? = some (.pointer (some ⟨w.heap.size,0,none⟩)):=hout 1 (by decide);go_simp
   exact hK (.pointer (some ⟨w.heap.size,0,none⟩)) w' rfl (qC _ _)
  ·obtain rfl:=qB ho;have p0:a'.tmps.getD 3 undef=.pointer (some ⟨w.heap.size,0,none⟩):=(qB (hpre ⟨0,.data⟩ (by simp) 3 rfl)).symm;simp only[qA]at p0;have hx:=(hb'.cell (World.block_lt_of_cell? _ _ x0)).trans x0;go_simp
   exact hK (.int .i64 y) w' rfl (qC _ _)
  ·obtain rfl:=qB ho;have p1:a'.tmps.getD 4 undef=.int .i64 y:=(qB (hpre ⟨1,.data⟩ (by simp) 4 rfl)).symm;simp only[qA]at p1;go_simp
   exact hK (.bool true) w' rfl (qC _ _)
  ·obtain rfl:=qB ho;have p2:a'.tmps.getD 5 undef=.bool true:=(qB (hpre ⟨2,.data⟩ (by simp) 5 rfl)).symm;simp only[qA]at p2;go_simp
   exact hK (.bool true) w' rfl (qC _ _)
  ·obtain rfl:=qB ho;have e1:a'.tmps[1]? = some (.pointer (some ⟨w.heap.size,0,none⟩)):=hout 1 (by decide);go_simp
   exact hK (.pointer (some ⟨w.heap.size,0,none⟩)) w' rfl (qC _ _)
  ·obtain rfl:=qB ho;have p4:a'.tmps.getD 7 undef=.pointer (some ⟨w.heap.size,0,none⟩):=(qB (hpre ⟨4,.data⟩ (by simp) 7 rfl)).symm;simp only[qA]at p4;have hx:=(hb'.cell (World.block_lt_of_cell? _ _ x0)).trans x0;go_simp
   exact hK (.int .i64 y) w' rfl (qC _ _)
  ·obtain rfl:=qB ho;have p5:a'.tmps.getD 8 undef=.int .i64 y:=(qB (hpre ⟨5,.data⟩ (by simp) 8 rfl)).symm;simp only[qA]at p5;go_simp
   exact hK (.bool true) w' rfl (qC _ _)
  ·obtain rfl:=qB ho;have p3:a'.tmps.getD 6 undef=.bool true:=(qB (hpre ⟨3,.data⟩ (by simp) 6 rfl)).symm;simp only[qA]at p3;have p6:a'.tmps.getD 9 undef=.bool true:=(qB (hpre ⟨6,.data⟩ (by simp) 9 rfl)).symm;simp only[qA]at p6;go_simp
   exact hK (.bool true) w' rfl (qC _ _)
  ·obtain rfl:=qB ho;have p7:a'.tmps.getD 10 undef=.bool true:=(qB (hpre ⟨7,.data⟩ (by simp) 10 rfl)).symm;simp only[qA]at p7;go_simp
   exact hK (.bool true) w' rfl (qC _ _)
  ·obtain rfl:=qB ho;have e1:a'.tmps[1]? = some (.pointer (some ⟨w.heap.size,0,none⟩)):=hout 1 (by decide);go_simp
   exact hK (.pointer (some ⟨w.heap.size,1,none⟩)) w' rfl (qC _ _)
  ·obtain rfl:=qB ho;have p9:a'.tmps.getD 12 undef=.pointer (some ⟨w.heap.size,1,none⟩):=(qB (hpre ⟨9,.data⟩ (by simp) 12 rfl)).symm;simp only[qA]at p9;have hx:=(hb'.cell (World.block_lt_of_cell? _ _ x1)).trans x1;go_simp
   exact hK (.int .i64 m) w' rfl (qC _ _)
  ·obtain rfl:=qB ho;have p10:a'.tmps.getD 13 undef=.int .i64 m:=(qB (hpre ⟨10,.data⟩ (by simp) 13 rfl)).symm;simp only[qA]at p10;go_simp
   exact hK (.bool true) w' rfl (qC _ _)
  ·obtain rfl:=qB ho;have p8:a'.tmps.getD 11 undef=.bool true:=(qB (hpre ⟨8,.data⟩ (by simp) 11 rfl)).symm;simp only[qA]at p8;have p11:a'.tmps.getD 14 undef=.bool true:=(qB (hpre ⟨11,.data⟩ (by simp) 14 rfl)).symm;simp only[qA]at p11;go_simp
   exact hK (.bool true) w' rfl (qC _ _)
  ·obtain rfl:=qB ho;have p12:a'.tmps.getD 15 undef=.bool true:=(qB (hpre ⟨12,.data⟩ (by simp) 15 rfl)).symm;simp only[qA]at p12;go_simp
   exact hK (.bool true) w' rfl (qC _ _)
  ·obtain rfl:=qB ho;have e1:a'.tmps[1]? = some (.pointer (some ⟨w.heap.size,0,none⟩)):=hout 1 (by decide);go_simp
   exact hK (.pointer (some ⟨w.heap.size,1,none⟩)) w' rfl (qC _ _)
  ·obtain rfl:=qB ho;have p14:a'.tmps.getD 17 undef=.pointer (some ⟨w.heap.size,1,none⟩):=(qB (hpre ⟨14,.data⟩ (by simp) 17 rfl)).symm;simp only[qA]at p14;have hx:=(hb'.cell (World.block_lt_of_cell? _ _ x1)).trans x1;go_simp
   exact hK (.int .i64 m) w' rfl (qC _ _)
  ·obtain rfl:=qB ho;have p15:a'.tmps.getD 18 undef=.int .i64 m:=(qB (hpre ⟨15,.data⟩ (by simp) 18 rfl)).symm;simp only[qA]at p15;go_simp
   exact hK (.bool true) w' rfl (qC _ _)
  ·obtain rfl:=qB ho;have p13:a'.tmps.getD 16 undef=.bool true:=(qB (hpre ⟨13,.data⟩ (by simp) 16 rfl)).symm;simp only[qA]at p13;have p16:a'.tmps.getD 19 undef=.bool true:=(qB (hpre ⟨16,.data⟩ (by simp) 19 rfl)).symm;simp only[qA]at p16;go_simp
   exact hK (.bool true) w' rfl (qC _ _)
  ·obtain rfl:=qB ho;have p17:a'.tmps.getD 20 undef=.bool true:=(qB (hpre ⟨17,.data⟩ (by simp) 20 rfl)).symm;simp only[qA]at p17;go_simp
   exact hK (.bool true) w' rfl (qC _ _)
  ·obtain rfl:=qB ho;have e1:a'.tmps[1]? = some (.pointer (some ⟨w.heap.size,0,none⟩)):=hout 1 (by decide);go_simp
   exact hK (.pointer (some ⟨w.heap.size,2,none⟩)) w' rfl (qC _ _)
  ·obtain rfl:=qB ho;have p19:a'.tmps.getD 22 undef=.pointer (some ⟨w.heap.size,2,none⟩):=(qB (hpre ⟨19,.data⟩ (by simp) 22 rfl)).symm;simp only[qA]at p19;have hx:=(hb'.cell (World.block_lt_of_cell? _ _ x2)).trans x2;go_simp
   exact hK (.int .i64 d) w' rfl (qC _ _)
  ·obtain rfl:=qB ho;have p20:a'.tmps.getD 23 undef=.int .i64 d:=(qB (hpre ⟨20,.data⟩ (by simp) 23 rfl)).symm;simp only[qA]at p20;go_simp
   exact hK (.bool true) w' rfl (qC _ _)
  ·obtain rfl:=qB ho;have p18:a'.tmps.getD 21 undef=.bool true:=(qB (hpre ⟨18,.data⟩ (by simp) 21 rfl)).symm;simp only[qA]at p18;have p21:a'.tmps.getD 24 undef=.bool true:=(qB (hpre ⟨21,.data⟩ (by simp) 24 rfl)).symm;simp only[qA]at p21;go_simp
   exact hK (.bool true) w' rfl (qC _ _)
  ·obtain rfl:=qB ho;have p22:a'.tmps.getD 25 undef=.bool true:=(qB (hpre ⟨22,.data⟩ (by simp) 25 rfl)).symm;simp only[qA]at p22;go_simp
   exact hK (.bool true) w' rfl (qC _ _)
  ·obtain rfl:=qB ho;have e1:a'.tmps[1]? = some (.pointer (some ⟨w.heap.size,0,none⟩)):=hout 1 (by decide);go_simp
   exact hK (.pointer (some ⟨w.heap.size,2,none⟩)) w' rfl (qC _ _)
  ·obtain rfl:=qB ho;have p24:a'.tmps.getD 27 undef=.pointer (some ⟨w.heap.size,2,none⟩):=(qB (hpre ⟨24,.data⟩ (by simp) 27 rfl)).symm;simp only[qA]at p24;have hx:=(hb'.cell (World.block_lt_of_cell? _ _ x2)).trans x2;go_simp
   exact hK (.int .i64 d) w' rfl (qC _ _)
  ·obtain rfl:=qB ho;have e1:a'.tmps[1]? = some (.pointer (some ⟨w.heap.size,0,none⟩)):=hout 1 (by decide);go_simp
   exact hK (.pointer (some ⟨w.heap.size,0,none⟩)) w' rfl (qC _ _)
  ·obtain rfl:=qB ho;have p26:a'.tmps.getD 29 undef=.pointer (some ⟨w.heap.size,0,none⟩):=(qB (hpre ⟨26,.data⟩ (by simp) 29 rfl)).symm;simp only[qA]at p26;have hx:=(hb'.cell (World.block_lt_of_cell? _ _ x0)).trans x0;go_simp
   exact hK (.int .i64 y) w' rfl (qC _ _)
  ·obtain rfl:=qB ho;have e1:a'.tmps[1]? = some (.pointer (some ⟨w.heap.size,0,none⟩)):=hout 1 (by decide);go_simp
   exact hK (.pointer (some ⟨w.heap.size,1,none⟩)) w' rfl (qC _ _)
  ·obtain rfl:=qB ho;have p28:a'.tmps.getD 31 undef=.pointer (some ⟨w.heap.size,1,none⟩):=(qB (hpre ⟨28,.data⟩ (by simp) 31 rfl)).symm;simp only[qA]at p28;have hx:=(hb'.cell (World.block_lt_of_cell? _ _ x1)).trans x1;go_simp
   exact hK (.int .i64 m) w' rfl (qC _ _)
  ·obtain rfl:=qB ho;have p27:a'.tmps.getD 30 undef=.int .i64 y:=(qB (hpre ⟨27,.data⟩ (by simp) 30 rfl)).symm;simp only[qA]at p27;have p29:a'.tmps.getD 32 undef=.int .i64 m:=(qB (hpre ⟨29,.data⟩ (by simp) 32 rfl)).symm;simp only[qA]at p29;go_simp
   go_at_call 118
   refine(HCC.out w').mono ?_;rintro e w'' ⟨rfl,hb1⟩;exact hK _ _ rfl hb1
  ·obtain rfl:=qB ho;have p25:a'.tmps.getD 28 undef=.int .i64 d:=(qB (hpre ⟨25,.data⟩ (by simp) 28 rfl)).symm;simp only[qA]at p25;have p30:a'.tmps.getD 33 undef=.int .i64 md:=(qB (hpre ⟨30,.data⟩ (by simp) 33 rfl)).symm;simp only[qA]at p30;go_simp
   exact hK (.bool R) w' rfl (qC _ _)
  ·obtain rfl:=qB ho;have p23:a'.tmps.getD 26 undef=.bool true:=(qB (hpre ⟨23,.data⟩ (by simp) 26 rfl)).symm;simp only[qA]at p23;have p31:a'.tmps.getD 34 undef=.bool R:=(qB (hpre ⟨31,.data⟩ (by simp) 34 rfl)).symm;simp only[qA]at p31;go_simp
   exact hK (.bool R) w' rfl (qC _ _)
 ·intro us w' hb' hfacts;have h32:us 32=.bool R:=qB (hfacts 32 (by decide)).symm;have HFIN:Hid (Below w.heap.size w w'):=HBW.out.trans (hb'.mono HBW.out.size);clear hfacts;simp only[putL,Act.put,List.setIfInBounds_toArray,List.set_cons_zero,List.set_cons_succ];generalize us 32=x32 at*;subst h32;simp only[List.drop_succ_cons,List.drop_zero];go_wp2_with fail
  go_ret
  exact⟨ret_bool (by rw[HR.out]),HFIN.out⟩
end
section
open Go.RowKit
def NumPost(x:Int×Int)(w:World)(e:Ending)(w':World):Prop:=e=.returned (.tuple #[.int .i64 x.1,.int .i64 x.2])∧Below w.heap.size w w'
def dayN(y m d:Int):Int×Int:=if validB y m d=true then (dayB y m d,0) else (0,5)
theorem yearSum_succ(k:Nat):yearSum (k+1)=yearSum k+yDays (1999+k):=rfl
theorem monSum_succ(y:Int)(k:Nat):monSum y (k+1)=monSum y k+mDays y (1+k):=rfl
theorem dayNumber_any(y m d:Int)(w:World)(hd : -1000000≤d∧d≤1000000):Calls Tryz.prog 133 #[.agg #[.int .i64 y,.int .i64 m,.int .i64 d]] w (NumPost (dayN y m d) w):=by
 have hb0:=(qC w.heap.size w).alloc (qD _) (.cells #[.int .i64 y,.int .i64 m,.int .i64 d] 145);have hr0:=qK w (.cells #[.int .i64 y,.int .i64 m,.int .i64 d] 145);have hz0:(w.alloc (.cells #[.int .i64 y,.int .i64 m,.int .i64 d] 145)).heap.size=w.heap.size+1:=by simp
 have HB0:=qH hb0;have HR0:=qH hr0;have HZ0:=qH hz0;have HD:Hid (dayN y m d=if validB y m d=true then (dayB y m d,0) else (0,5)):=rfl;clear hb0 hr0 hz0
 go_enter Tryz.func133,Tryz.ntmps133
 go_wp2_with fail
 generalize w.alloc (.cells #[.int .i64 y,.int .i64 m,.int .i64 d] 145)=W at*;refine(valid_any y m d W).mono ?_;rintro e w1 ⟨rfl,hb1⟩;have hbw1:Below w.heap.size w w1:=HB0.out.trans (hb1.mono HB0.out.size);have hr1:=(hb1.block w.heap.size (by have:=HZ0.out;omega)).trans HR0.out;have hs1:w.heap.size+1≤w1.heap.size:=by have:=hb1.size;have:=HZ0.out;omega
 clear hb1
 cases hv:validB y m d
 ·have HR:Hid (dayN y m d=(0,5)):=by show _=_;rw[HD.out,hv];rfl
  clear hr1;go_wp2_with fail
  go_ret2
  exact⟨by rw[HR.out];rfl,hbw1⟩
 obtain⟨⟨y1,y2⟩,⟨m1,m2⟩,d1,d2⟩:=validB_iff.1 hv;have hmd:=mDays_bd y m;have HR:Hid (dayN y m d=(-365+yearSum (y-1999).toNat+monSum y (m-1).toNat+d-1,0)):=by show _=_;rw[HD.out,hv];rfl
 obtain⟨Y,hY⟩:=Int.eq_ofNat_of_zero_le (show 0≤y-1999 by omega);obtain⟨M,hM⟩:=Int.eq_ofNat_of_zero_le (show 0≤m-1 by omega);rw[hY,hM,Int.toNat_natCast,Int.toNat_natCast]at HR;obtain rfl:y=1999+Y:=by omega
 obtain rfl:m=1+M:=by omega
 have hYl:Y≤101:=by omega
 have hMl:M≤11:=by omega
 have x0:=block_cell hr1 0;have x1:=block_cell hr1 1;have x2:=block_cell hr1 2;have HR1:=qH hr1;have HY0:Hid ((-365:Int) = -365+yearSum 0):=rfl;clear hr1 hY hM hv hmd HD;go_wp2_with fail
 go_loop [4,5] (fun nv yv => ∃ k:Nat,k≤Y∧yv=.int .i64 (1999+k)∧nv=.int .i64 (-365+yearSum k)) (fun _ yv=>Y-(intOf yv-1999).toNat)
 case atStart=>exact⟨0,qV _,rfl,by rw[←HY0.out]⟩
 case round =>
  obtain⟨k,hk,rfl,rfl⟩:=hrel;have hyb:=yearSum_bd k
  by_cases hlt:k<Y
  ·have HS:=qH (yearSum_succ k);have hyd:=yDays_bd (1999+k);have HC:=qH (yearDays_any (1999+k) w1 (by omega) (by omega));have hlt':(1999:Int)+k<1999+Y:=by omega
   generalize yearSum k=ys at*;generalize yDays (1999+k)=yd at*;go_wp2_with fail
   refine HC.out.mono ?_;rintro e w' ⟨rfl,rfl⟩;go_wp2_with fail
   go_round
   case rel=>exact⟨k+1,by omega,by go_num,by rw[HS.out];congr 1;omega⟩
   case measure=>simp[intOf];omega
  ·have hkY:k=Y:=by omega
   subst hkY;have hnl : ¬(1999:Int)+k<1999+k:=by omega
   have HM0:Hid ((-365:Int)+yearSum k = -365+yearSum k+monSum (1999+k) 0):=by show _=_;rw[show monSum (1999+k) 0=0 from rfl];omega
   go_wp2_with fail
   go_loopw [4,6] (fun nv mv wr => ∃ q:Nat,q≤M∧mv=.int .i64 (1+q)∧nv=.int .i64 (-365+yearSum k+monSum (1999+k) q)∧Below (w.heap.size+1) w1 wr) (fun _ mv _=>M-(intOf mv-1).toNat)
   case atStart=>exact⟨0,qV _,rfl,by rw[←HM0.out],qC _ _⟩
   case round =>
    obtain⟨q,hq,rfl,rfl,hbr⟩:=hrel;have hmb:=monSum_bd (1999+k) q;have hr2:=(hbr.block w.heap.size (by omega)).trans HR1.out;have z0:=block_cell hr2 0;have z1:=block_cell hr2 1;have z2:=block_cell hr2 2;have hszr:=hbr.size;clear hr2
    by_cases hltq:q<M
    ·have HS:=qH (monSum_succ (1999+k) q);have hyd:=mDays_bd (1999+k) (1+q);have HC:=qH (monthDays_any (1999+k) (1+q) wr (by omega) (by omega) (by omega) (by omega));have hlt':(1:Int)+q<1+M:=by omega
     generalize monSum (1999+k) q=ms at*;generalize mDays (1999+k) (1+q)=md at*;generalize yearSum k=ys at*;go_wp2_with fail
     refine HC.out.mono ?_;rintro e w5 ⟨rfl,hb5⟩;have hbr5:Below (w.heap.size+1) w1 w5:=hbr.trans (hb5.mono (by omega));clear hb5;go_wp2_with fail
     go_roundw
     case rel=>exact⟨q+1,by omega,by go_num,by rw[HS.out];congr 1;omega,hbr5⟩
     case measure=>simp[intOf];omega
    ·have hqM:q=M:=by omega
     subst hqM;have hnl2 : ¬(1:Int)+q<1+q:=by omega
     have hbF:Below w.heap.size w wr:=hbw1.trans (hbr.mono (by omega));generalize hms:monSum (1999+k) q=ms at*;generalize hys:yearSum k=ys at*;clear hms hys;go_wp2_with fail
     go_ret2
     exact⟨by rw[HR.out];rfl,hbF⟩
theorem mAt_eq(s p:ByteArray)(i:Nat):mAt s p i=if byteAt p i=48 then digAt s i else decide (byteAt s i=byteAt p i):=rfl
theorem matches_any(s p:ByteArray)(w:World)(hs:s.size≤maxLen):Calls Tryz.prog 130 #[.string s,.string p] w (BoolPostC (matchB s p) w):=by
 unfold maxLen at hs;have HM:Hid (matchB s p=(decide (s.size=p.size)&&allTo (mAt s p) s.size)):=rfl
 by_cases hz:s.size=p.size
 case neg =>
  have hz':((s.size:Int) != (p.size:Int))=true:=by simp;omega
  have HR:Hid (matchB s p=false):=by show _=_;rw[HM.out,decide_eq_false hz];rfl
  clear hz
  go_enter Tryz.func130,Tryz.ntmps130
  go_wp2_with fail
  go_ret
  exact⟨ret_bool HR.out.symm,qC _ _⟩
 have hz':((s.size:Int) != (p.size:Int))=false:=by simp;omega
 have HR:Hid (matchB s p=allTo (mAt s p) s.size):=by show _=_;rw[HM.out,decide_eq_true hz];rfl
 have HZ:=qH hz;clear hz HM
 go_enter Tryz.func130,Tryz.ntmps130
 go_wp2_with fail
 go_loopw [4,5,13] (fun _ _ i wr => ∃ k:Nat,k≤s.size∧i=.int .i64 k∧Below w.heap.size w wr∧Hid (allTo (mAt s p) k=true)) (fun _ _ i _=>s.size-(intOf i).toNat)
 case atStart=>exact⟨0,qV _,rfl,qC _ _,allTo_zero _⟩
 case round =>
  obtain⟨k,hk,rfl,hbr,HK⟩:=hrel
  by_cases hlt:k<s.size
  ·have hkp:k<p.size:=by have:=HZ.out;omega
   have HBS:=qH (byteAt_eq s k hlt);have HBP:=qH (byteAt_eq p k hkp);have HMA:=qH (mAt_eq s p k);have HD:Hid (∀ q,Below w.heap.size w (wr.drewN q)):=fun q=>below_drewN hbr q
   have HN:Hid (mAt s p k=true→allTo (mAt s p) (k+1)=true):=fun h=>by rw[allTo_succ,HK.out,h];rfl
   have HF:Hid (mAt s p k=false→matchB s p=false):=fun h=>by rw[HR.out];exact allTo_false hlt h
   have hks:(k:Int)<(s.size:Int):=by omega
   have hkp':(k:Int)<(p.size:Int):=by omega
   have hk0:(0:Int)≤(k:Int):=by omega
   by_cases hp:byteAt p k=48
   ·have hp':((p[k].toNat:Int)==48)=true:=by rw[HBP.out];simpa using hp
    rw[qR hp]at HMA
    by_cases hdg:digAt s k=true
    ·have hdd:=hdg;unfold digAt numberI at hdd;simp only[qI,qL]at hdd;have l1:48≤(s[k].toNat:Int):=by rw[HBS.out];exact hdd.1
     have l2:(s[k].toNat:Int)≤57:=by rw[HBS.out];exact hdd.2
     have HN2:=qH (HN.out (by rw[HMA.out];exact hdg));clear hdd hdg hp;go_wp2_with fail
     go_roundw
     case rel=>exact⟨k+1,by omega,by go_num,hbr,HN2⟩
     case measure=>simp[intOf];omega
    ·have hdd:digAt s k=false:=by simpa using hdg
     have HF2:=qH (HF.out (by rw[HMA.out];exact hdd));unfold digAt numberI at hdd;rw[←HBS.out]at hdd;simp only[Bool.and_eq_false_iff,qU]at hdd;have hcs:(s[k].toNat:Int)<48∨(¬(s[k].toNat:Int)<48∧57<(s[k].toNat:Int)):=by omega
     clear hdd hdg hp;rcases hcs with h|⟨h,h'⟩
     all_goals
      go_wp2_with fail
      go_ret
      exact⟨ret_bool HF2.out.symm,hbr⟩
   ·have hp':((p[k].toNat:Int)==48)=false:=by rw[HBP.out];simpa using hp
    rw[qN hp]at HMA
    by_cases hq:byteAt s k=byteAt p k
    ·have hq':((s[k].toNat:Int) != (p[k].toNat:Int))=false:=by rw[HBS.out,HBP.out];simpa using hq
     have HN2:=qH (HN.out (by rw[HMA.out];exact decide_eq_true hq));clear hq hp;go_wp2_with fail
     go_quiet (fail)
     go_wp2_with fail
     go_roundw
     case rel=>exact⟨k+1,by omega,by go_num,HD.out _,HN2⟩
     case measure=>simp[intOf];omega
    ·have hq':((s[k].toNat:Int) != (p[k].toNat:Int))=true:=by rw[HBS.out,HBP.out];simpa using hq
     have HF2:=qH (HF.out (by rw[HMA.out];exact decide_eq_false hq));clear hq hp;go_wp2_with fail
     go_quiet (fail)
     go_wp2_with fail
     go_ret
     exact⟨ret_bool HF2.out.symm,HD.out _⟩
  ·have hks:k=s.size:=by omega
   subst hks;have HF2:Hid (matchB s p=true):=by show _=_;rw[HR.out];exact HK.out
   go_wp2_with fail
   go_ret
   exact⟨ret_bool HF2.out.symm,hbr⟩
theorem calNumber_any(s:ByteArray)(w:World)(hs:s.size≤11)(hd:allTo (digAt s) s.size=true):Calls Tryz.prog 171 #[.string s] w fun e w'=>e=.returned (.int .i64 (numTo s s.size))∧w=w':=by
 have HDG:=qH (allTo_iff.1 hd);clear hd
 go_enter Tryz.func171,Tryz.ntmps171
 go_wp2_with fail
 go_loop [3,4,7] (fun n _ i => ∃ k:Nat,k≤s.size∧n=.int .i64 (numTo s k)∧i=.int .i64 k) (fun _ _ i=>s.size-(intOf i).toNat)
 case atStart=>exact⟨0,by omega,rfl,rfl⟩
 case round =>
  obtain⟨k,hk,rfl,rfl⟩:=hrel;obtain⟨hn1,hn2⟩:=numTo_bd s k (allTo_iff.2 fun i hi=>HDG.out i (by omega));have hb:bnd k≤99999999999:=bnd_mono (k:=11) (by omega)
  by_cases hlt:k<s.size
  ·have HB:=qH (byteAt_eq s k hlt);have hdd:=HDG.out k hlt;unfold digAt numberI at hdd;simp only[qI,qL]at hdd;have l1:48≤(s[k].toNat:Int):=by rw[HB.out];exact hdd.1
   have l2:(s[k].toNat:Int)≤57:=by rw[HB.out];exact hdd.2
   have HN:Hid (numTo s (k+1)=10*numTo s k+((s[k].toNat:Int)-48)):=by show _=_;rw[HB.out];rfl
   clear hdd;go_wp2_with fail
   go_round
   case rel=>exact⟨k+1,by omega,by rw[HN.out],by go_num⟩
   case measure=>simp[intOf];omega
  ·obtain rfl:k=s.size:=by omega
   go_wp2_with fail
   go_ret
   exact⟨rfl,rfl⟩
end
section
open Go.RowKit
def DatePost(x:(Int×Int×Int)×Int)(w:World)(e:Ending)(w':World):Prop:=e=.returned (.tuple #[.agg #[.int .i64 x.1.1,.int .i64 x.1.2.1,.int .i64 x.1.2.2],.int .i64 x.2])∧Below w.heap.size w w'
def datF(s:ByteArray)(H:Nat):Nat→Value→World→Prop
 | 0,v,_=>v=.string s
 | 1,v,_=>v=.string (s.extract 0 4)
 | 2,v,_=>v=.int .i64 (subN s 0 4)
 | 3,v,_=>v=.string s
 | 4,v,_=>v=.string (s.extract 5 7)
 | 5,v,_=>v=.int .i64 (subN s 5 7)
 | 6,v,_=>v=.string s
 | 7,v,_=>v=.string (s.extract 8 s.size)
 | 8,v,_=>v=.int .i64 (subN s 8 s.size)
 | 9,v,_=>v=.agg #[.int .i64 (subN s 0 4),.int .i64 (subN s 5 7),.int .i64 (subN s 8 s.size)]
 | 10,v,w => ∃ b,v=.pointer (some ⟨b,0,none⟩)∧H≤b∧w.heap[b]? = some (.cells #[.int .i64 0,.int .i64 0,.int .i64 0] 145 (0,0))
 | _,_,_=>True
theorem datF_keep{s:ByteArray}{H:Nat} : ∀ (i:Nat) (v:Value) (w w':World),datF s H i v w→Below w.heap.size w w'→datF s H i v w':=by
 intro i v w w' h hb;unfold datF at h ⊢;split at h <;> try exact h
 obtain⟨b,e,hH,hc⟩:=h;exact⟨b,e,hH,(hb.block b (Array.getElem?_eq_some_iff.1 hc).1).trans hc⟩
theorem date_info:(Tryz.prog.info? 145).map (·.size)=some 3:=by kernel_rfl
theorem below_setRowc{w0 w:World}{B b:Nat}{cs:Array Value}(h:Below B w0 w)(hb:B≤b):Below B w0 (w.setRow b cs) :=
 ⟨h.os,h.tape,h.output,by simpa using h.size,fun q hq=>(setRow_other _ _ _ _ (by omega)).trans (h.block q hq)⟩
theorem parseDate_any(s:ByteArray)(w:World)(hs:s.size≤maxLen):Calls Tryz.prog 131 #[.string s] w (DatePost (dateB s) w):=by
 have HS:=qH hs;have hb0:=(qC w.heap.size w).alloc (qD _) (.cells #[.int .i64 0,.int .i64 0,.int .i64 0] 145);have hr0:=qK w (.cells #[.int .i64 0,.int .i64 0,.int .i64 0] 145);have hz0:(w.alloc (.cells #[.int .i64 0,.int .i64 0,.int .i64 0] 145)).heap.size=w.heap.size+1:=by simp
 have HB0:=qH hb0;have HR0:=qH hr0;have HZ0:=qH hz0;have HD:Hid (dateB s=if matchB s patD=false then ((0,0,0),1) else if validB (subN s 0 4) (subN s 5 7) (subN s 8 s.size)=false then ((0,0,0),5) else ((subN s 0 4,subN s 5 7,subN s 8 s.size),0)):=rfl;have HPD:Hid (patD=⟨#[48,48,48,48,45,48,48,45,48,48]⟩):=rfl;clear hb0 hr0 hz0;unfold maxLen at hs
 go_enter Tryz.func131,Tryz.ntmps131
 go_wp2_with fail
 generalize w.alloc (.cells #[.int .i64 0,.int .i64 0,.int .i64 0] 145)=W at*;rw[←HPD.out];refine(matches_any s patD W HS.out).mono ?_;rintro e w1 ⟨rfl,hb1⟩;have hbw1:Below w.heap.size w w1:=HB0.out.trans (hb1.mono HB0.out.size);have hr1:=(hb1.block w.heap.size (by have:=HZ0.out;omega)).trans HR0.out;have hs1:w.heap.size+1≤w1.heap.size:=by have:=hb1.size;have:=HZ0.out;omega
 have HR1:=qH hr1;clear hb1 HR0
 cases hm:matchB s patD
 ·have HR:Hid (dateB s=((0,0,0),1)):=by show _=_;rw[HD.out,qR hm]
  have z0:=block_cell hr1 0;have z1:=block_cell hr1 1;have z2:=block_cell hr1 2;have f0:=block_free hr1 0;have f1:=block_free hr1 1;have f2:=block_free hr1 2;clear hr1 hm;go_wp2_with fail
  refine bodyPost_ret (v:=.tuple #[.agg #[.int .i64 0,.int .i64 0,.int .i64 0],.int .i64 1]) (by simp[results,Tryz.results131,go_sem,z0,z1,z2]) rfl ?_;exact⟨by rw[HR.out],((hbw1.setCell (qD _) _).setCell (qD _) _).setCell (qD _) _⟩
 rw[qN (by rw[hm];decide)]at HD;have hm2:=hm;rw[matchD_iff]at hm2;simp only[qI,qL]at hm2;obtain⟨hsz,⟨⟨⟨hd1, -⟩,hd2⟩, -⟩,hd3⟩:=hm2;have HC1:Hid (∀ V:World,Calls Tryz.prog 171 #[.string (s.extract 0 4)] V fun e w'=>e=.returned (.int .i64 (subN s 0 4))∧V=w'):=fun V=>calNumber_any _ V (by rw[size_sub (by omega)];omega) (by rw[dig_sub (by omega)];exact hd1)
 have HC2:Hid (∀ V:World,Calls Tryz.prog 171 #[.string (s.extract 5 7)] V fun e w'=>e=.returned (.int .i64 (subN s 5 7))∧V=w'):=fun V=>calNumber_any _ V (by rw[size_sub (by omega)];omega) (by rw[dig_sub (by omega)];exact hd2)
 have HC3:Hid (∀ V:World,Calls Tryz.prog 171 #[.string (s.extract 8 s.size)] V fun e w'=>e=.returned (.int .i64 (subN s 8 s.size))∧V=w'):=fun V=>calNumber_any _ V (by rw[size_sub (qD _)];omega) (by rw[dig_sub (qD _),hsz];exact hd3)
 have tz4:(4:Int)≤(s.size:Int):=by omega
 have tz7:(7:Int)≤(s.size:Int):=by omega
 have tz8:(8:Int)≤(s.size:Int):=by omega
 clear hr1 hm hd1 hd2 hd3 hsz;go_upto_region 3 with (fail)
 refine wp_region_facts 11 [9,10,11,12,13,14,15,16,17,18,4] (datF s w1.heap.size) (by kernel_rfl) (by kernel_rfl) (by kernel_rfl) (by kernel_rfl) (by kernel_rfl) datF_keep ?_ ?_
 ·intro q o hq ho a' w' hb' hout hpre K hK;have hq':q=0∨q=1∨q=2∨q=3∨q=4∨q=5∨q=6∨q=7∨q=8∨q=9∨q=10:=by omega
  clear HD HR1 HB0 HZ0 hbw1;rcases hq' with rfl|rfl|rfl|rfl|rfl|rfl|rfl|rfl|rfl|rfl|rfl
  ·obtain rfl:=qB ho;have e0:a'.tmps[0]? = some (.string s):=hout 0 (by decide);go_simp
   exact hK (.string s) w' rfl (qC _ _)
  ·obtain rfl:=qB ho;have p0:a'.tmps.getD 9 undef=.string s:=hpre ⟨0,.data⟩ (by simp) 9 rfl;simp only[qA]at p0;go_simp
   exact hK (.string (s.extract 0 4)) w' rfl (qC _ _)
  ·obtain rfl:=qB ho;have p1:a'.tmps.getD 10 undef=.string (s.extract 0 4):=hpre ⟨1,.data⟩ (by simp) 10 rfl;simp only[qA]at p1;go_simp
   go_at_call 171
   refine(HC1.out w').mono ?_;rintro e w'' ⟨rfl,rfl⟩;exact hK _ _ rfl (qC _ _)
  ·obtain rfl:=qB ho;have e0:a'.tmps[0]? = some (.string s):=hout 0 (by decide);go_simp
   exact hK (.string s) w' rfl (qC _ _)
  ·obtain rfl:=qB ho;have p3:a'.tmps.getD 12 undef=.string s:=hpre ⟨3,.data⟩ (by simp) 12 rfl;simp only[qA]at p3;go_simp
   exact hK (.string (s.extract 5 7)) w' rfl (qC _ _)
  ·obtain rfl:=qB ho;have p4:a'.tmps.getD 13 undef=.string (s.extract 5 7):=hpre ⟨4,.data⟩ (by simp) 13 rfl;simp only[qA]at p4;go_simp
   go_at_call 171
   refine(HC2.out w').mono ?_;rintro e w'' ⟨rfl,rfl⟩;exact hK _ _ rfl (qC _ _)
  ·obtain rfl:=qB ho;have e0:a'.tmps[0]? = some (.string s):=hout 0 (by decide);go_simp
   exact hK (.string s) w' rfl (qC _ _)
  ·obtain rfl:=qB ho;have p6:a'.tmps.getD 15 undef=.string s:=hpre ⟨6,.data⟩ (by simp) 15 rfl;simp only[qA]at p6;go_simp
   exact hK (.string (s.extract 8 s.size)) w' rfl (qC _ _)
  ·obtain rfl:=qB ho;have p7:a'.tmps.getD 16 undef=.string (s.extract 8 s.size):=hpre ⟨7,.data⟩ (by simp) 16 rfl;simp only[qA]at p7;go_simp
   go_at_call 171
   refine(HC3.out w').mono ?_;rintro e w'' ⟨rfl,rfl⟩;exact hK _ _ rfl (qC _ _)
  ·obtain rfl:=qB ho;have p2:a'.tmps.getD 11 undef=.int .i64 (subN s 0 4):=hpre ⟨2,.data⟩ (by simp) 11 rfl;have p5:a'.tmps.getD 14 undef=.int .i64 (subN s 5 7):=hpre ⟨5,.data⟩ (by simp) 14 rfl;have p8:a'.tmps.getD 17 undef=.int .i64 (subN s 8 s.size):=hpre ⟨8,.data⟩ (by simp) 17 rfl;simp only[qA]at p2 p5 p8;go_simp
   exact hK _ _ rfl (qC _ _)
  ·obtain rfl:=qB ho;go_simp
   exact hK _ _ ⟨w'.heap.size,rfl,hb'.size,qK _ _⟩ ((qC _ _).alloc (qD _) _)
 ·intro us w' hb' hfacts;have h9:us 9=.agg #[.int .i64 (subN s 0 4),.int .i64 (subN s 5 7),.int .i64 (subN s 8 s.size)]:=hfacts 9 (by decide);obtain⟨pb,h10,hpH,hpb⟩:=hfacts 10 (by decide);clear hfacts HC1 HC2 HC3;generalize subN s 0 4=y at*;generalize subN s 5 7=m at*;generalize subN s 8 s.size=d at*;simp only[putL,Act.put,List.setIfInBounds_toArray,List.set_cons_zero,List.set_cons_succ];generalize us 10=x10 at*;generalize us 9=x9 at*;subst h10 h9;have HPB:=qH hpb;have hfb:=below_setRowc (cs := #[.int .i64 y,.int .i64 m,.int .i64 d]) hb' hpH;have hrow:=setRow_heap w' pb _ #[.int .i64 y,.int .i64 m,.int .i64 d] _ _ hpb;clear hpb;simp only[List.drop_succ_cons,List.drop_zero];refine wpList_store_row rfl _ _ _ rfl pb #[.int .i64 y,.int .i64 m,.int .i64 d] rfl rfl _ _ HPB.out date_info rfl (by simp[Value.oneCell']) ?_;generalize w'.setRow pb #[.int .i64 y,.int .i64 m,.int .i64 d]=V at*;have hplt:pb<V.heap.size:=(Array.getElem?_eq_some_iff.1 hrow).1;have x0:=block_cell hrow 0;have x1:=block_cell hrow 1;have x2:=block_cell hrow 2;have hbV:Below w.heap.size w V:=hbw1.trans (hfb.mono (by omega));have hrV:=(hfb.block w.heap.size (by omega)).trans HR1.out;have HRW:=qH hrow;clear hrow hb';go_wp2_with fail
  refine(valid_any y m d V).mono ?_;rintro e w2 ⟨rfl,hb2⟩;have hbw2:Below w.heap.size w w2:=hbV.trans (hb2.mono hbV.size);have hsv:=hfb.size;have hr2:=(hb2.block w.heap.size (by omega)).trans hrV;have hp2:=(hb2.block pb hplt).trans HRW.out;have z0:=block_cell hr2 0;have z1:=block_cell hr2 1;have z2:=block_cell hr2 2;have f0:=block_free hr2 0;have f1:=block_free hr2 1;have f2:=block_free hr2 2;have y0:=block_cell hp2 0;have y1:=block_cell hp2 1;have y2:=block_cell hp2 2;have hpw:pb≠w.heap.size:=by omega
  clear hr2 hp2 hrV hb2 x0 x1 x2
  cases hv:validB y m d
  ·have HR:Hid (dateB s=((0,0,0),5)):=by show _=_;rw[HD.out,qR hv]
   go_wp2_with fail
   refine bodyPost_ret (v:=.tuple #[.agg #[.int .i64 0,.int .i64 0,.int .i64 0],.int .i64 5]) (by simp[results,Tryz.results131,go_sem,z0,z1,z2]) rfl ?_;exact⟨by rw[HR.out],((hbw2.setCell (qD _) _).setCell (qD _) _).setCell (qD _) _⟩
  ·have HR:Hid (dateB s=((y,m,d),0)):=by show _=_;rw[HD.out,qN (by rw[hv];decide)]
   go_wp2_with fail
   refine bodyPost_ret (v:=.tuple #[.agg #[.int .i64 y,.int .i64 m,.int .i64 d],.int .i64 0]) (by simp[results,Tryz.results131,go_sem,z0,z1,z2]) rfl ?_;exact⟨by rw[HR.out],((hbw2.setCell (qD _) _).setCell (qD _) _).setCell (qD _) _⟩
theorem parseClock_any(s:ByteArray)(w:World)(hs:s.size≤maxLen):Calls Tryz.prog 132 #[.string s] w (NumPost (clockB s) w):=by
 have HS:=qH hs;have HD:Hid (clockB s=if matchB s patC=false then (0,1) else if 23<subN s 0 2∨59<subN s 3 s.size then (0,5) else (subN s 0 2*60+subN s 3 s.size,0)):=rfl;have HPD:Hid (patC=⟨#[48,48,58,48,48]⟩):=rfl;unfold maxLen at hs
 go_enter Tryz.func132,Tryz.ntmps132
 go_wp2_with fail
 rw[←HPD.out];refine(matches_any s patC w HS.out).mono ?_;rintro e w1 ⟨rfl,hb1⟩
 cases hm:matchB s patC
 ·have HR:Hid (clockB s=(0,1)):=by show _=_;rw[HD.out,qR hm]
  clear hm;go_wp2_with fail
  go_ret2
  exact⟨by rw[HR.out];rfl,hb1⟩
 rw[qN (by rw[hm];decide)]at HD;have hm2:=hm;rw[matchC_iff]at hm2;simp only[qI,qL]at hm2;obtain⟨hsz,⟨hd1, -⟩,hd2⟩:=hm2;have n1:=numTo_bd (s.extract 0 2) (s.extract 0 2).size (by rw[dig_sub (by omega)];exact hd1);have n2:=numTo_bd (s.extract 3 s.size) (s.extract 3 s.size).size (by rw[dig_sub (qD _),hsz];exact hd2);have HC1:Hid (∀ V:World,Calls Tryz.prog 171 #[.string (s.extract 0 2)] V fun e w'=>e=.returned (.int .i64 (subN s 0 2))∧V=w'):=fun V=>calNumber_any _ V (by rw[size_sub (by omega)];omega) (by rw[dig_sub (by omega)];exact hd1)
 have HC2:Hid (∀ V:World,Calls Tryz.prog 171 #[.string (s.extract 3 s.size)] V fun e w'=>e=.returned (.int .i64 (subN s 3 s.size))∧V=w'):=fun V=>calNumber_any _ V (by rw[size_sub (qD _)];omega) (by rw[dig_sub (qD _),hsz];exact hd2)
 have b1:bnd (s.extract 0 2).size=99:=by rw[size_sub (show 2≤s.size by omega)];rfl
 have b2:bnd (s.extract 3 s.size).size=99:=by rw[size_sub (qD s.size),hsz];rfl
 rw[b1]at n1;rw[b2]at n2;have k1:0≤subN s 0 2∧subN s 0 2≤99:=n1;have k2:0≤subN s 3 s.size∧subN s 3 s.size≤99:=n2;have t1:2≤s.size:=by omega
 have t2:3≤s.size:=by omega
 have t1':(2:Int)≤(s.size:Int):=by omega
 have t2':(3:Int)≤(s.size:Int):=by omega
 have HBD:Hid (∀ q,Below w.heap.size w (w1.drewN q)):=fun q=>below_drewN hb1 q
 generalize subN s 0 2=hh at*;generalize subN s 3 s.size=mm at*;clear n1 n2 hd1 hd2 hm hb1 b1 b2 hsz;go_wp2_with fail
 go_quiet (first
  | (go_at_call 171;with_reducible exact quiet_left (HC1.out _))
  | (go_at_call 171;with_reducible exact quiet_left (HC2.out _)))
 by_cases h1:23<hh
 ·have HR:Hid (clockB s=(0,5)):=by show _=_;rw[HD.out,qR (.inl h1)]
  go_wp2_with fail
  go_ret2
  exact⟨by rw[HR.out];rfl,HBD.out _⟩
 by_cases h2:59<mm
 ·have HR:Hid (clockB s=(0,5)):=by show _=_;rw[HD.out,qR (.inr h2)]
  go_wp2_with fail
  go_ret2
  exact⟨by rw[HR.out];rfl,HBD.out _⟩
 have HR:Hid (clockB s=(hh*60+mm,0)):=by show _=_;rw[HD.out,qN (by rintro (h|h);exact h1 h;exact h2 h)]
 go_wp2_with fail
 go_ret2
 exact⟨by rw[HR.out];rfl,HBD.out _⟩
theorem parseInstant_any(s:ByteArray)(w:World)(hs:s.size≤maxLen):Calls Tryz.prog 99 #[.string s] w (NumPost (insB s) w):=by
 have HS:=qH hs;have HD:Hid (insB s=if matchB s patI=false then (0,1) else
  if (dateB (s.extract 0 10)).2≠0 then (0,(dateB (s.extract 0 10)).2) else
   if (clockB (s.extract 11 s.size)).2≠0 then (0,(clockB (s.extract 11 s.size)).2) else
    if dayB (dateB (s.extract 0 10)).1.1 (dateB (s.extract 0 10)).1.2.1 (dateB (s.extract 0 10)).1.2.2*1440+(clockB (s.extract 11 s.size)).1<0∨52596000≤dayB (dateB (s.extract 0 10)).1.1 (dateB (s.extract 0 10)).1.2.1 (dateB (s.extract 0 10)).1.2.2*1440+(clockB (s.extract 11 s.size)).1 then (0,5) else
     (dayB (dateB (s.extract 0 10)).1.1 (dateB (s.extract 0 10)).1.2.1 (dateB (s.extract 0 10)).1.2.2*1440+(clockB (s.extract 11 s.size)).1,0)):=rfl
 have HPD:Hid (patI=⟨#[48,48,48,48,45,48,48,45,48,48,32,48,48,58,48,48]⟩):=rfl;unfold maxLen at hs
 go_enter Tryz.func99,Tryz.ntmps99
 go_wp2_with fail
 rw[←HPD.out];refine(matches_any s patI w HS.out).mono ?_;rintro e w1 ⟨rfl,hb1⟩
 cases hm:matchB s patI
 ·have HR:Hid (insB s=(0,1)):=by show _=_;rw[HD.out,qR hm]
  clear hm;go_wp2_with fail
  go_ret2
  exact⟨by rw[HR.out];rfl,hb1⟩
 rw[qN (by rw[hm];decide)]at HD;have hsz:s.size=16:=by
  rw[matchI_iff]at hm;simp only[qI,qL]at hm;exact hm.1
 have t1:10≤s.size:=by omega
 have t2:11≤s.size:=by omega
 have HPDt:=qH (parseDate_any (s.extract 0 10) w1 (by rw[size_sub t1];unfold maxLen;omega));have HPC:Hid (∀ V:World,Calls Tryz.prog 132 #[.string (s.extract 11 s.size)] V (NumPost (clockB (s.extract 11 s.size)) V)):=fun V=>parseClock_any _ V (by rw[size_sub (qD _)];unfold maxLen;omega)
 have HVD:=qH (dateB_valid (s:=s.extract 0 10));have hcb:=clockB_bd (s.extract 11 s.size);generalize dateB (s.extract 0 10)=D at*;generalize clockB (s.extract 11 s.size)=C at*;obtain⟨⟨y,m,d⟩,e0⟩:=D;obtain⟨cl,f0⟩:=C;simp only at HD HPDt HPC HVD hcb;clear hm hsz;go_wp2_with fail
 refine HPDt.out.mono ?_;rintro e w2 ⟨rfl,hb2⟩;have hbw2:Below w.heap.size w w2:=hb1.trans (hb2.mono hb1.size);clear hb2 HPDt;have hbA:=hbw2.alloc hbw2.size (.cells #[.int .i64 y,.int .i64 m,.int .i64 d] 145);have hrA:=qK w2 (.cells #[.int .i64 y,.int .i64 m,.int .i64 d] 145);have hzA:(w2.alloc (.cells #[.int .i64 y,.int .i64 m,.int .i64 d] 145)).heap.size=w2.heap.size+1:=by simp
 have HBA:=qH hbA;have HRA:=qH hrA;have HZA:=qH hzA;clear hbA hrA hzA
 by_cases he:e0=0
 case neg =>
  have he':(e0 != 0)=true:=by simpa using he
  have HR:Hid (insB s=(0,e0)):=by show _=_;rw[HD.out,qR he]
  clear he;go_wp2_with fail
  go_ret2
  exact⟨by rw[HR.out];rfl,HBA.out⟩
 subst he;rw[qN (by simp)]at HD;have hdv:=HVD.out rfl;have hdb:=dayB_bd hdv;obtain⟨⟨v1,v2⟩,⟨v3,v4⟩,v5,v6⟩:=validB_iff.1 hdv;have hmd:=mDays_bd y m;go_wp2_with fail
 generalize w2.alloc (.cells #[.int .i64 y,.int .i64 m,.int .i64 d] 145)=V at*;refine(HPC.out V).mono ?_;rintro e w3 ⟨rfl,hb3⟩;have hbw3:Below w.heap.size w w3:=HBA.out.trans (hb3.mono HBA.out.size)
 by_cases hf:f0=0
 case neg =>
  have hf':(f0 != 0)=true:=by simpa using hf
  have HR:Hid (insB s=(0,f0)):=by show _=_;rw[HD.out,qR hf]
  clear hf;go_wp2_with fail
  go_ret2
  exact⟨by rw[HR.out];rfl,hbw3⟩
 subst hf;rw[qN (by simp)]at HD;have hr3:=(hb3.block w2.heap.size (by have:=HZA.out;omega)).trans HRA.out;have x0:=block_cell hr3 0;have x1:=block_cell hr3 1;have x2:=block_cell hr3 2;have HDN:=qH (dayNumber_any y m d w3 (by omega));have HDE:Hid (dayN y m d=(dayB y m d,0)):=by show _=_;unfold dayN;rw[qR hdv]
 rw[HDE.out]at HDN;generalize dayB y m d=dn at*;clear hr3 hdv HVD HPC hb3;go_wp2_with fail
 refine HDN.out.mono ?_;rintro e w4 ⟨rfl,hb4⟩;have hbw4:Below w.heap.size w w4:=hbw3.trans (hb4.mono hbw3.size);clear HDN hb4 x0 x1 x2
 by_cases h1:dn*1440+cl<0
 ·have HR:Hid (insB s=(0,5)):=by show _=_;rw[HD.out,qR (.inl h1)]
  go_wp2_with fail
  go_ret2
  exact⟨by rw[HR.out];rfl,hbw4⟩
 by_cases h2:52596000≤dn*1440+cl
 ·have HR:Hid (insB s=(0,5)):=by show _=_;rw[HD.out,qR (.inr h2)]
  go_wp2_with fail
  go_ret2
  exact⟨by rw[HR.out];rfl,hbw4⟩
 have HR:Hid (insB s=(dn*1440+cl,0)):=by show _=_;rw[HD.out,qN (by rintro (h|h);exact h1 h;exact h2 h)]
 go_wp2_with fail
 go_ret2
 exact⟨by rw[HR.out];rfl,hbw4⟩
end
section
open Go.RowKit
theorem size_sp{a b:ByteArray}(ha:a.size≤20000)(hb:b.size≤20000):(a++spS++b).size≤maxLen ∧ ¬9223372036854775807<a.size+1 ∧ ¬9223372036854775807<(a++(⟨#[32]⟩:ByteArray)).size+b.size ∧ ¬9223372036854775807<a.size+1+b.size:=by
 have hz1:(a++spS).size=a.size+1:=by rw[qJ,show spS.size=1 from rfl]
 refine⟨?_,by omega, ?_,by omega⟩
 ·rw[qJ,hz1];unfold maxLen;omega
 ·rw[show(⟨#[32]⟩:ByteArray)=spS from rfl,hz1];omega
theorem name_cell{w:World}{S:Nat→Prop}{A:Option Addr}{n c:Nat}{xs:List ByteArray}(h:Sl Ty.str w S A n c xs){k:Nat}(hk:k<xs.length) : ∃ b o,A=some ⟨b,o,none⟩∧S b∧w.cell? ⟨b,o+k,none⟩=some (.string (xs.getD k noStr)):=by
 obtain⟨b,o,e,hs,hc⟩:=h.str_at hk;refine⟨b,o,e,hs, ?_⟩;rw[hc,qF,qG hk];rfl
theorem str_cells{f:List ByteArray}{w:World}{S:Nat→Prop}{A:Option Addr}{n c:Nat}(h:Sl Ty.str w S A n c f)(h0:0<f.length) : ∃ b o,A=some ⟨b,o,none⟩∧S b ∧ ∀ k,k<f.length→w.cell? ⟨b,o+k,none⟩=some (.string (f.getD k noStr)):=by
 obtain⟨b,o,e,hS,_⟩:=name_cell h h0;refine⟨b,o,e,hS,fun k hk =>?_⟩;obtain⟨b',o',e',_,hc⟩:=name_cell h hk;rw[e]at e';injection e' with e'
 injection e' with e1 e2
 subst e1 e2;exact hc
theorem fld_sz{f:List ByteArray}{i:Nat}(h : ∀ x∈f,x.size≤20000):(f.getD i noStr).size≤20000:=by
 by_cases hi:i<f.length
 ·exact h _ (getD_in hi noStr)
 ·rw[qF,List.getElem?_eq_none (by omega)];decide
def LinPost(r:GInc×Int)(w:World)(e:Ending)(w':World):Prop:=e=.returned (.tuple #[incVal r.1,.int .i64 r.2])∧Below w.heap.size w w'
def sickL(f:List ByteArray):GInc×Int:=if (parseB (f.getD 1 noStr)).2≠0∨(insI f 2).2≠0∨(insI f 4).2≠0 then (noInc,1) else (⟨4,0,0,noStr,(parseB (f.getD 1 noStr)).1,⟨(insI f 2).1,(insI f 4).1+1⟩⟩,0)
theorem parseSick_any(f:List ByteArray)(A:Option Addr)(n c:Nat)(w:World)(hf:Sl Ty.str w (all_ w) A n c f)(h6:f.length=6)(hz : ∀ x∈f,x.size≤20000) :
 Calls Tryz.prog 98 #[.agg #[.int .i64 4,.int .i64 0,.int .i64 0,.string ⟨#[]⟩,.int .i64 0,.int .i64 0,.int .i64 0],.slice A n c] w (LinPost (sickL f) w):=by
 have hn:=hf.len;rw[h6]at hn;subst hn;obtain⟨fb,o,rfl,hSb,hcells⟩:=str_cells hf (by omega);have HC:Hid (∀ V,Below w.heap.size w V → ∀ k,k<6→V.cell? ⟨fb,o+k,none⟩=some (.string (f.getD k noStr))):=fun V hV k hk=>cell_kept (hcells k (by omega)) hV
 have z1:=fld_sz (i:=1) hz;have z2:=fld_sz (i:=2) hz;have z3:=fld_sz (i:=3) hz;have z4:=fld_sz (i:=4) hz;have z5:=fld_sz (i:=5) hz;have HQ:Hid (sickL f=if (parseB (f.getD 1 noStr)).2≠0∨(insB (f.getD 2 noStr++spS++f.getD 3 noStr)).2≠0∨(insB (f.getD 4 noStr++spS++f.getD 5 noStr)).2≠0 then (noInc,1) else (⟨4,0,0,noStr,(parseB (f.getD 1 noStr)).1,⟨(insB (f.getD 2 noStr++spS++f.getD 3 noStr)).1,(insB (f.getD 4 noStr++spS++f.getD 5 noStr)).1+1⟩⟩,0)):=rfl;have HC:Hid (∀ V,Below w.heap.size w V→V.cell? ⟨fb,o+1,none⟩=some (.string (f.getD 1 noStr))∧V.cell? ⟨fb,o+2,none⟩=some (.string (f.getD 2 noStr))∧V.cell? ⟨fb,o+3,none⟩=some (.string (f.getD 3 noStr))∧V.cell? ⟨fb,o+4,none⟩=some (.string (f.getD 4 noStr))∧V.cell? ⟨fb,o+5,none⟩=some (.string (f.getD 5 noStr))):=fun V hV=>⟨HC.out V hV 1 (by omega),HC.out V hV 2 (by omega),HC.out V hV 3 (by omega),HC.out V hV 4 (by omega),HC.out V hV 5 (by omega)⟩
 clear hcells hz hf h6;generalize sickL f=R at*;generalize f.getD 1 noStr=f1 at*;generalize f.getD 2 noStr=f2 at*;generalize f.getD 3 noStr=f3 at*;generalize f.getD 4 noStr=f4 at*;generalize f.getD 5 noStr=f5 at*;obtain⟨za,qa1,qa2,qa3⟩:=size_sp z2 z3;obtain⟨zb,qb1,qb2,qb3⟩:=size_sp z4 z5;have HC0:Hid (∀ V:World,Calls Tryz.prog 100 #[.string f1] V (ParsePost f1 V)):=fun V=>parseInt_any _ V (by unfold maxLen;omega)
 have HC1:Hid (∀ V:World,Calls Tryz.prog 99 #[.string (f2++spS++f3)] V (NumPost (insB (f2++spS++f3)) V)):=fun V=>parseInstant_any _ V za
 have HC2:Hid (∀ V:World,Calls Tryz.prog 99 #[.string (f4++spS++f5)] V (NumPost (insB (f4++spS++f5)) V)):=fun V=>parseInstant_any _ V zb
 have hx1:=insB_bd (f2++spS++f3);have hx2:=insB_bd (f4++spS++f5);unfold NumPost at HC1 HC2;unfold ParsePost at HC0;generalize parseB f1=a0 at*;generalize insB (f2++spS++f3)=a1 at*;generalize insB (f4++spS++f5)=a2 at*;obtain⟨x0,er0⟩:=a0;obtain⟨x1,er1⟩:=a1;obtain⟨x2,er2⟩:=a2;simp only at HC0 HC1 HC2 HQ hx1 hx2;have hA:=((qC w.heap.size w).alloc (qD _) (.cells #[.int .i64 4,.int .i64 0,.int .i64 0,.string ⟨#[]⟩,.int .i64 0,.int .i64 0,.int .i64 0] 59)).alloc (by simp) (.cells #[.int .i64 0,.int .i64 0,.int .i64 0,.string ⟨#[]⟩,.int .i64 0,.int .i64 0,.int .i64 0] 59);have hX:((w.alloc (.cells #[.int .i64 4,.int .i64 0,.int .i64 0,.string ⟨#[]⟩,.int .i64 0,.int .i64 0,.int .i64 0] 59)).alloc (.cells #[.int .i64 0,.int .i64 0,.int .i64 0,.string ⟨#[]⟩,.int .i64 0,.int .i64 0,.int .i64 0] 59)).heap[w.heap.size]? = _:=heap_alloc2_old _ _ _;have hR:((w.alloc (.cells #[.int .i64 4,.int .i64 0,.int .i64 0,.string ⟨#[]⟩,.int .i64 0,.int .i64 0,.int .i64 0] 59)).alloc (.cells #[.int .i64 0,.int .i64 0,.int .i64 0,.string ⟨#[]⟩,.int .i64 0,.int .i64 0,.int .i64 0] 59)).heap[w.heap.size+1]? = _:=heap_alloc2_new _ _ _;have HA:=qH hA;have HX:=qH hX;have HRB:=qH hR;have hfb:fb<w.heap.size:=hSb;clear hA hX hR z1 z2 z3 z4 z5 za zb hSb
 go_enter Tryz.func98,Tryz.ntmps98
 go_upto_region 1 with (fail)
 generalize (w.alloc (.cells #[.int .i64 4,.int .i64 0,.int .i64 0,.string ⟨#[]⟩,.int .i64 0,.int .i64 0,.int .i64 0] 59)).alloc (.cells #[.int .i64 0,.int .i64 0,.int .i64 0,.string ⟨#[]⟩,.int .i64 0,.int .i64 0,.int .i64 0] 59)=W at*;have c1:=(HC.out W HA.out).1;go_wp2_with fail
 refine(HC0.out W).mono ?_;rintro e w1 ⟨rfl,rfl⟩;clear c1 HC0
 by_cases h0:er0=0
 case neg =>
  have h0':(er0==0)=false:=by simpa using h0
  have HR:Hid (R=(noInc,1)):=by show _=_;rw[HQ.out,qR (.inl h0)]
  have hr:=HRB.out;have u0:=block_cell hr 0;have u1:=block_cell hr 1;have u2:=block_cell hr 2;have u3:=block_cell hr 3;have u4:=block_cell hr 4;have u5:=block_cell hr 5;have u6:=block_cell hr 6;have g0:=block_free hr 0;have g1:=block_free hr 1;have g2:=block_free hr 2;have g3:=block_free hr 3;have g4:=block_free hr 4;have g5:=block_free hr 5;have g6:=block_free hr 6;clear h0 hr;go_wp2_with fail
  refine bodyPost_ret (v:=.tuple #[.agg #[.int .i64 0,.int .i64 0,.int .i64 0,.string ⟨#[]⟩,.int .i64 0,.int .i64 0,.int .i64 0],.int .i64 1]) (by simp[results,Tryz.results98,go_sem,u0,u1,u2,u3,u4,u5,u6]) rfl ?_;rw[HR.out];exact⟨rfl,((((((HA.out.setCell (Nat.le_succ _) _).setCell (Nat.le_succ _) _).setCell (Nat.le_succ _) _).setCell (Nat.le_succ _) _).setCell (Nat.le_succ _) _).setCell (Nat.le_succ _) _).setCell (Nat.le_succ _) _⟩
 subst h0;obtain⟨-,c2,c3, -, -⟩:=HC.out W HA.out;go_upto_region 4 with (fail)
 go_cut [8,7] (fun a b wx=>a=.int .i64 x1∧b=.int .i64 er1∧Below W.heap.size W wx)
 case first =>
  go_region_law (first
   | (go_simp;go_at_call 99;refine(HC1.out _).mono ?_;rintro e w1 ⟨rfl,hb1⟩)
   | fail)
  all_goals
   go_wp2_with fail
   go_meet
   exact⟨rfl,rfl,⟨hb1.os,hb1.tape,hb1.output,hb1.size,hb1.block⟩⟩
 case rest =>
 obtain⟨rfl,rfl,hb1⟩:=hcut;obtain⟨w1,rfl⟩ : ∃ x:World,x=wc:=⟨_,rfl⟩
 have hws:w.heap.size+2≤W.heap.size:=by have:=(Array.getElem?_eq_some_iff.1 HRB.out).1;omega
 have HA1:Hid (Below w.heap.size w w1):=HA.out.trans (hb1.mono (by omega));have HX1:Hid (w1.heap[w.heap.size]? = _):=(hb1.block _ (by omega)).trans HX.out;have HR1:Hid (w1.heap[w.heap.size+1]? = _):=(hb1.block _ (by omega)).trans HRB.out;have hws1:w.heap.size+2≤w1.heap.size:=by have:=hb1.size;omega
 clear c2 c3 HC1 hb1 HA HX HRB hws
 by_cases h1:er1=0
 case neg =>
  have h0':(er1==0)=false:=by simpa using h1
  have HR:Hid (R=(noInc,1)):=by show _=_;rw[HQ.out,qR (.inr (.inl h1))]
  have hr:=HR1.out;have u0:=block_cell hr 0;have u1:=block_cell hr 1;have u2:=block_cell hr 2;have u3:=block_cell hr 3;have u4:=block_cell hr 4;have u5:=block_cell hr 5;have u6:=block_cell hr 6;have g0:=block_free hr 0;have g1:=block_free hr 1;have g2:=block_free hr 2;have g3:=block_free hr 3;have g4:=block_free hr 4;have g5:=block_free hr 5;have g6:=block_free hr 6;clear h1 hr;go_wp2_with fail
  refine bodyPost_ret (v:=.tuple #[.agg #[.int .i64 0,.int .i64 0,.int .i64 0,.string ⟨#[]⟩,.int .i64 0,.int .i64 0,.int .i64 0],.int .i64 1]) (by simp[results,Tryz.results98,go_sem,u0,u1,u2,u3,u4,u5,u6]) rfl ?_;rw[HR.out];exact⟨rfl,((((((HA1.out.setCell (Nat.le_succ _) _).setCell (Nat.le_succ _) _).setCell (Nat.le_succ _) _).setCell (Nat.le_succ _) _).setCell (Nat.le_succ _) _).setCell (Nat.le_succ _) _).setCell (Nat.le_succ _) _⟩
 subst h1;obtain⟨-, -, -,c4,c5⟩:=HC.out w1 HA1.out;go_upto_region 7 with (fail)
 go_cut [9,7] (fun a b wx=>a=.int .i64 x2∧b=.int .i64 er2∧Below w1.heap.size w1 wx)
 case first =>
  go_region_law (first
   | (go_simp;go_at_call 99;refine(HC2.out _).mono ?_;rintro e w2 ⟨rfl,hb1⟩)
   | fail)
  all_goals
   go_wp2_with fail
   go_meet
   exact⟨rfl,rfl,⟨hb1.os,hb1.tape,hb1.output,hb1.size,hb1.block⟩⟩
 case rest =>
 obtain⟨rfl,rfl,hb1⟩:=hcut;obtain⟨w2,rfl⟩ : ∃ x:World,x=wc:=⟨_,rfl⟩
 have HA2:Hid (Below w.heap.size w w2):=HA1.out.trans (hb1.mono (by omega));have hx:=(hb1.block w.heap.size (by omega)).trans HX1.out;have hr:=(hb1.block (w.heap.size+1) (by omega)).trans HR1.out;have u0:=block_cell hr 0;have u1:=block_cell hr 1;have u2:=block_cell hr 2;have u3:=block_cell hr 3;have u4:=block_cell hr 4;have u5:=block_cell hr 5;have u6:=block_cell hr 6;have g0:=block_free hr 0;have g1:=block_free hr 1;have g2:=block_free hr 2;have g3:=block_free hr 3;have g4:=block_free hr 4;have g5:=block_free hr 5;have g6:=block_free hr 6;clear c4 c5 HC2 hb1 HA1 HX1 HR1 HC
 by_cases h2:er2=0
 case neg =>
  have h0':(er2==0)=false:=by simpa using h2
  have HR:Hid (R=(noInc,1)):=by show _=_;rw[HQ.out,qR (.inr (.inr h2))]
  clear h2 hr hx;go_wp2_with fail
  refine bodyPost_ret (v:=.tuple #[.agg #[.int .i64 0,.int .i64 0,.int .i64 0,.string ⟨#[]⟩,.int .i64 0,.int .i64 0,.int .i64 0],.int .i64 1]) (by simp[results,Tryz.results98,go_sem,u0,u1,u2,u3,u4,u5,u6]) rfl ?_;rw[HR.out];exact⟨rfl,((((((HA2.out.setCell (Nat.le_succ _) _).setCell (Nat.le_succ _) _).setCell (Nat.le_succ _) _).setCell (Nat.le_succ _) _).setCell (Nat.le_succ _) _).setCell (Nat.le_succ _) _).setCell (Nat.le_succ _) _⟩
 subst h2;have HR:Hid (R=(⟨4,0,0,noStr,x0,⟨x1,x2+1⟩⟩,0)):=by show _=_;rw[HQ.out,qN (by simp)]
 have y0:=block_cell hx 0;have y1:=block_cell hx 1;have y2:=block_cell hx 2;have y3:=block_cell hx 3;have y4:=block_cell hx 4;have y5:=block_cell hx 5;have y6:=block_cell hx 6;have f4:=block_free hx 4;have f5:=block_free hx 5;have f6:=block_free hx 6;have hne:w.heap.size≠w.heap.size+1:=by omega
 have hne':w.heap.size+1≠w.heap.size:=by omega
 have hsum:IntKind.i64.wrap (x2+1)=x2+1:=qM _ (by omega);clear hr hx HQ;go_wp2_with fail
 refine bodyPost_ret (v:=.tuple #[.agg #[.int .i64 4,.int .i64 0,.int .i64 0,.string ⟨#[]⟩,.int .i64 x0,.int .i64 x1,.int .i64 (x2+1)],.int .i64 0]) (by simp[results,Tryz.results98,go_sem,u0,u1,u2,u3,u4,u5,u6]) rfl ?_;rw[HR.out];exact⟨rfl,(((((((((HA2.out.setCell (qD _) _).setCell (qD _) _).setCell (qD _) _).setCell (Nat.le_succ _) _).setCell (Nat.le_succ _) _).setCell (Nat.le_succ _) _).setCell (Nat.le_succ _) _).setCell (Nat.le_succ _) _).setCell (Nat.le_succ _) _).setCell (Nat.le_succ _) _⟩
end
end Go.Proofs.YtifconapjfdkcaaGreatDoor
