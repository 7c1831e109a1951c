/-
  Contracts of slices.IndexFunc over flights with the closure of incident.parseLine, and of incident.parseLine.
  Condition: the fields read as a list of strings of no more than 20000 bytes; the timetable's flights are few.
-/
import Derived.Test.YtifconapjfdkcaaGreatDoorDAA
import Derived.Test.YtifconapjfdkcaaGreatDoorDAU
import Derived.Test.YtifconapjfdkcaaGreatDoorDAW
import Derived.Test.YtifconapjfdkcaaGreatDoorDAT
import Derived.Deep.QuietTactic
import Derived.Laws.Tables
import Derived.Laws.Rows
set_option linter.unusedSimpArgs false
set_option linter.unusedVariables false
set_option maxRecDepth 100000
set_option maxHeartbeats 12800000
namespace Go.Proofs.YtifconapjfdkcaaGreatDoor
open Go.RowKit
theorem flAt_none{l:List GFlight}{n:ByteArray}{d:Int}(h : ∀ j,j<l.length → ¬((l.getD j noFlight).number=n∧(l.getD j noFlight).dep=d)):flAt l n d=none:=by
 induction l with
 | nil=>rfl
 | cons f l ih =>
  rw[flAt,qN (show ¬(f.number=n∧f.dep=d) from h 0 (by simp)),ih fun j hj=>by have:=h (j+1) (by simpa using hj);simpa using this];rfl
def flHit(l:List GFlight)(n:ByteArray)(d:Int)(i:Nat):Bool:=decide ((l.getD i noFlight).number=n)&&decide ((l.getD i noFlight).dep=d)
theorem flAt_hit{l:List GFlight}{n:ByteArray}{d:Int}{k:Nat}(hk:k<l.length)(h : ∀ j,j<k→flHit l n d j=false)(hp:flHit l n d k=true):flAt l n d=some k:=by
 unfold flHit at hp h;simp only[qI,qL]at hp;obtain⟨rfl,rfl⟩:=hp;exact flAt_first hk fun j hj hc=>by
  have:=h j hj;simp only[Bool.and_eq_false_iff,qU]at this;rcases this with h1|h1
  ·exact h1 hc.1
  ·exact h1 hc.2
theorem flIs_any(x:GFlight)(g3 g8:Nat)(num:ByteArray)(dep:Int)(A:Option Addr)(n c fb o:Nat)(hA:A=some ⟨fb,o,none⟩)(w:World)(h3:w.cell? ⟨g3,0,none⟩=some (.slice A n c))(hn:1<n)(h1:w.cell? ⟨fb,o+1,none⟩=some (.string num))(h8:w.cell? ⟨g8,0,none⟩=some (.int .i64 dep)) :
 Calls Tryz.prog 102 #[.agg #[.string x.number,.string x.src,.string x.dst,.int .i64 x.dep,.int .i64 x.arr,.string x.kind,.int .i64 x.n0,.int .i64 x.n1,.int .i64 x.n2],.pointer (some ⟨g3,0,none⟩),.pointer (some ⟨g8,0,none⟩)] w (BoolPost (decide (x.number=num)&&decide (x.dep=dep)) w):=by
 subst hA;have l3:g3<w.heap.size:=World.block_lt_of_cell? w _ h3;have l8:g8<w.heap.size:=World.block_lt_of_cell? w _ h8;have lf:fb<w.heap.size:=World.block_lt_of_cell? w _ h1;have k3:(w.alloc (.cells #[.string x.number,.string x.src,.string x.dst,.int .i64 x.dep,.int .i64 x.arr,.string x.kind,.int .i64 x.n0,.int .i64 x.n1,.int .i64 x.n2] 62)).cell? ⟨g3,0,none⟩=some (.slice (some ⟨fb,o,none⟩) n c):=(World.cell?_alloc_past _ _ _ l3).trans h3;have k8:(w.alloc (.cells #[.string x.number,.string x.src,.string x.dst,.int .i64 x.dep,.int .i64 x.arr,.string x.kind,.int .i64 x.n0,.int .i64 x.n1,.int .i64 x.n2] 62)).cell? ⟨g8,0,none⟩=some (.int .i64 dep):=(World.cell?_alloc_past _ _ _ l8).trans h8;have k1:(w.alloc (.cells #[.string x.number,.string x.src,.string x.dst,.int .i64 x.dep,.int .i64 x.arr,.string x.kind,.int .i64 x.n0,.int .i64 x.n1,.int .i64 x.n2] 62)).cell? ⟨fb,o+1,none⟩=some (.string num):=(World.cell?_alloc_past _ _ _ lf).trans h1;have hb:=qK w (.cells #[.string x.number,.string x.src,.string x.dst,.int .i64 x.dep,.int .i64 x.arr,.string x.kind,.int .i64 x.n0,.int .i64 x.n1,.int .i64 x.n2] 62);have y0:=block_cell hb 0;have y3:=block_cell hb 3;have HA:Hid (Below w.heap.size w (w.alloc (.cells #[.string x.number,.string x.src,.string x.dst,.int .i64 x.dep,.int .i64 x.arr,.string x.kind,.int .i64 x.n0,.int .i64 x.n1,.int .i64 x.n2] 62))):=(qC _ _).alloc (qD _) _;have hn':(1:Int)<(n:Int):=by omega
 have HSB:=qH (str_beq x.number num);clear hb h3 h8 h1 l3 l8 lf
 by_cases he:x.number=num
 ·have hs:(x.number.toList==num.toList)=true:=by rw[HSB.out];simpa using he
  by_cases hd:x.dep=dep
  ·have hs2:(x.dep==dep)=true:=by simpa using hd
   have HE:Hid ((decide (x.number=num)&&decide (x.dep=dep))=true):=by show _=_;simp[he,hd]
   clear he hd
   go_enter Tryz.func102,Tryz.ntmps102
   go_upto_region 1 with (fail)
   generalize w.alloc (.cells #[.string x.number,.string x.src,.string x.dst,.int .i64 x.dep,.int .i64 x.arr,.string x.kind,.int .i64 x.n0,.int .i64 x.n1,.int .i64 x.n2] 62)=W at*;go_quiet (fail)
   go_wp2_with fail
   go_ret
   exact⟨by rw[HE.out];rfl,below_drewN HA.out _⟩
  ·have hs2:(x.dep==dep)=false:=by simpa using hd
   have HE:Hid ((decide (x.number=num)&&decide (x.dep=dep))=false):=by show _=_;simp[he,hd]
   clear he hd
   go_enter Tryz.func102,Tryz.ntmps102
   go_upto_region 1 with (fail)
   generalize w.alloc (.cells #[.string x.number,.string x.src,.string x.dst,.int .i64 x.dep,.int .i64 x.arr,.string x.kind,.int .i64 x.n0,.int .i64 x.n1,.int .i64 x.n2] 62)=W at*;go_quiet (fail)
   go_wp2_with fail
   go_ret
   exact⟨by rw[HE.out];rfl,below_drewN HA.out _⟩
 ·have hs:(x.number.toList==num.toList)=false:=by rw[HSB.out];simpa using he
  have HE:Hid ((decide (x.number=num)&&decide (x.dep=dep))=false):=by show _=_;simp[he]
  clear he
  go_enter Tryz.func102,Tryz.ntmps102
  go_upto_region 1 with (fail)
  generalize w.alloc (.cells #[.string x.number,.string x.src,.string x.dst,.int .i64 x.dep,.int .i64 x.arr,.string x.kind,.int .i64 x.n0,.int .i64 x.n1,.int .i64 x.n2] 62)=W at*;go_quiet (fail)
  go_wp2_with fail
  go_ret
  exact⟨by rw[HE.out];rfl,below_drewN HA.out _⟩
theorem indexFl_any(l:List GFlight)(A:Option Addr)(n c g3 g8:Nat)(num:ByteArray)(dep:Int)(w:World)(hs:Sl Ty.flight w (all_ w) A n c l)(A':Option Addr)(n' c' fb o:Nat)(hA:A'=some ⟨fb,o,none⟩)(h3:w.cell? ⟨g3,0,none⟩=some (.slice A' n' c'))(hn:1<n')(h1:w.cell? ⟨fb,o+1,none⟩=some (.string num))(h8:w.cell? ⟨g8,0,none⟩=some (.int .i64 dep)) :
 Calls Tryz.prog 101 #[.slice A n c,.func (.func 102) #[] #[.pointer (some ⟨g3,0,none⟩),.pointer (some ⟨g8,0,none⟩)]] w (IxPost (ixOpt (flAt l num dep)) w):=by
 have hn1:n≤l.length:=Nat.le_of_eq hs.len;have hn2:l.length≤n:=Nat.le_of_eq hs.len.symm;have hle:=hs.le;unfold maxLen at hle;have HS:=qH hs;have HCL:Hid (∀ (x:GFlight) (V:World),Below w.heap.size w V→Calls Tryz.prog 102 #[.agg #[.string x.number,.string x.src,.string x.dst,.int .i64 x.dep,.int .i64 x.arr,.string x.kind,.int .i64 x.n0,.int .i64 x.n1,.int .i64 x.n2],.pointer (some ⟨g3,0,none⟩),.pointer (some ⟨g8,0,none⟩)] V (BoolPost (decide (x.number=num)&&decide (x.dep=dep)) V)):=fun x V hV=>flIs_any x g3 g8 num dep A' n' c' fb o hA V (cell_kept h3 hV) hn (cell_kept h1 hV) (cell_kept h8 hV)
 clear hs h3 h1 h8 hA hn
 go_enter Tryz.func101,Tryz.ntmps101
 go_wp2_with fail
 go_loopw [5,8] (fun _ s wr => ∃ k:Nat,k≤n∧s=.int .i64 k∧Below w.heap.size w wr∧Hid (∀ j,j<k→flHit l num dep j=false)) (fun _ s _=>n-(intOf s).toNat)
 case atStart=>exact⟨0,qV _,rfl,qC _ _,fun j hj=>absurd hj (by omega)⟩
 case round =>
  obtain⟨k,hk,rfl,hbr,HK⟩:=hrel
  by_cases hlt:k<n
  ·have hks:k<l.length:=by omega
   obtain⟨b,o2,rfl,hbS,hat⟩:=(HS.out.keep (all_keep hbr)).flight_at hks;have y0:wr.cell? ⟨b,o2+k*9,none⟩=some (.string (l.getD k noFlight).number):=hat 0 _ rfl;have y1:=hat 1 _ rfl;have y2:=hat 2 _ rfl;have y3:=hat 3 _ rfl;have y4:=hat 4 _ rfl;have y5:=hat 5 _ rfl;have y6:=hat 6 _ rfl;have y7:=hat 7 _ rfl;have y8:=hat 8 _ rfl;have HAH:Hid (flHit l num dep k=(decide ((l.getD k noFlight).number=num)&&decide ((l.getD k noFlight).dep=dep))):=rfl;generalize l.getD k noFlight=a at*;have HC:=qH (HCL.out a wr hbr);clear hat;go_wp2_with fail
   refine HC.out.mono ?_;rintro e w1 ⟨rfl,hb1⟩;clear HC y0 y1 y2 y3 y4 y5 y6 y7 y8;have hw1:Below w.heap.size w w1:=hbr.trans (hb1.mono hbr.size);rw[←HAH.out];rcases Bool.eq_false_or_eq_true (flHit l num dep k) with hh|hh
   ·have HF:Hid (ixOpt (flAt l num dep)=(k:Int)):=by show _=_;rw[flAt_hit hks HK.out hh];rfl
    rw[hh];clear hh;go_wp2_with fail
    go_ret
    exact⟨by rw[HF.out];rfl,hw1⟩
   ·have HM:Hid (∀ j,j<k+1→flHit l num dep j=false):=fun j hj=>by
     rcases Nat.lt_or_eq_of_le (Nat.le_of_lt_succ hj) with h1|rfl
     ·exact HK.out j h1
     ·exact hh
    rw[hh];clear hh;go_wp2_with fail
    go_roundw
    case rel=>exact⟨k+1,by omega,by go_num,hw1,HM⟩
    case measure=>simp[intOf];omega
  ·have HF:Hid (ixOpt (flAt l num dep) = -1):=by
    show _=_;rw[flAt_none (fun j hj hc=>by
     have h9:=HK.out j (by omega);rw[show flHit l num dep j=true by unfold flHit;rw[decide_eq_true hc.1,decide_eq_true hc.2];rfl]at h9
     cases h9)]
    rfl
   go_wp2_with fail
   go_ret
   exact⟨by rw[HF.out];rfl,hbr⟩
theorem eq_delay(a:ByteArray):(a.toList==[100,101,108,97,121])=decide (a=delayS):=by
 rw[←str_beq,ByteArray.toList_eq delayS];rfl
theorem eq_cancel(a:ByteArray):(a.toList==[99,97,110,99,101,108])=decide (a=cancelS):=by
 rw[←str_beq,ByteArray.toList_eq cancelS];rfl
theorem eq_divert(a:ByteArray):(a.toList==[100,105,118,101,114,116])=decide (a=divertS):=by
 rw[←str_beq,ByteArray.toList_eq divertS];rfl
theorem eq_sick(a:ByteArray):(a.toList==[115,105,99,107])=decide (a=sickS):=by
 rw[←str_beq,ByteArray.toList_eq sickS];rfl
theorem inc_info:(Tryz.prog.info? 59).map (·.size)=some 7:=by kernel_rfl
theorem inc_built:(Tryz.prog.built 59 [])=some #[.int .i64 0,.int .i64 0,.int .i64 0,.string ⟨#[]⟩,.int .i64 0,.int .i64 0,.int .i64 0]:=by kernel_rfl
section
variable {ops:Array Oper} {rest:List Oper} {oo:Oper} {a:Act} {Q:Exit→Act→World→Prop} {w w':World}
theorem wpList_zero(hgd:oo.guard=none)(ho:oo.op=.build 59 #[])(h:wpList Tryz.prog ops Q rest (a.put oo.dst (.agg #[.int .i64 0,.int .i64 0,.int .i64 0,.string ⟨#[]⟩,.int .i64 0,.int .i64 0,.int .i64 0])) w):wpList Tryz.prog ops Q (oo::rest) a w :=
 wpList_build hgd _ _ ho (by simp[inc_built]) (by simpa[inc_built] using h)
theorem below_alloc_drew{o:Obj}(h:Below (w.alloc o).drew.heap.size (w.alloc o).drew w'):Below w.heap.size w w':=(below_drewN ((qC w.heap.size w).alloc (qD _) o) 1).trans (h.mono (by simp[World.drew]))
theorem cell_new_set{T:TypeId}{x y:Value}:((w.alloc (.cells #[x] T (0,0))).setCell ⟨w.heap.size,0,none⟩ y).cell? ⟨w.heap.size,0,none⟩=some y :=
 World.cell?_setCell_same (w.alloc (.cells #[x] T (0,0))) ⟨w.heap.size,0,none⟩ y (u:=x) (block_cell (qK _ _) 0)
theorem cell_old_set{b:Nat}{x y:Value}(h:w.cell? ⟨b,0,none⟩ = #[x][0]?):(w.setCell ⟨b,0,none⟩ y).cell? ⟨b,0,none⟩=some y :=
 World.cell?_setCell_same w ⟨b,0,none⟩ y (u:=x) h
theorem below_setRow{n b:Nat}{cs:Array Value}(h:Below n w w')(hb:n≤b):Below n w (w'.setRow b cs) :=
 ⟨h.os,h.tape,h.output,by simpa using h.size,fun q hq=>(setRow_other _ _ _ _ (by omega)).trans (h.block q hq)⟩
end
def onFl2(t:GTT)(n:ByteArray)(d:Int)(x:Nat→GInc):GInc×Int:=match flAt t.flights n d with
 | some i=>(x i,0)
 | none=>(noInc,6)
theorem incLine_any(t:GTT)(f:List ByteArray)(A1 A2 A3 A:Option Addr)(n1 n2 n3 n c1 c2 c3 c:Nat)(w:World)(hs3:Sl Ty.flight w (all_ w) A3 n3 c3 t.flights)(hf:Sl Ty.str w (all_ w) A n c f)(h1:1≤f.length)(hz : ∀ x∈f,x.size≤20000) :
 Calls Tryz.prog 62 #[.agg #[.slice A1 n1 c1,.slice A2 n2 c2,.slice A3 n3 c3],.slice A n c] w (LinPost (lineI t f) w):=by
 have hn:=hf.len;have hnl:=hf.le;unfold maxLen at hnl;subst hn;obtain⟨fb,o,rfl,hSb,hcells⟩:=str_cells hf (by omega);have HC:Hid (∀ V,Below w.heap.size w V → ∀ k,k<f.length→V.cell? ⟨fb,o+k,none⟩=some (.string (f.getD k noStr))):=fun V hV k hk=>cell_kept (hcells k (by omega)) hV
 have HFS:Hid (∀ V,Below w.heap.size w V→Sl Ty.str V (all_ V) (some ⟨fb,o,none⟩) f.length c f):=fun V hV=>hf.next hV
 have HS3:Hid (∀ V,Below w.heap.size w V→Sl Ty.flight V (all_ V) A3 n3 c3 t.flights):=fun V hV=>hs3.next hV
 have HFZ:=qH hz;have z1:=fld_sz (i:=1) hz;have z2:=fld_sz (i:=2) hz;have z3:=fld_sz (i:=3) hz;have z4:=fld_sz (i:=4) hz;have z5:=fld_sz (i:=5) hz;have HQL:Hid (lineI t f=if f.getD 0 noStr=delayS then
  (if f.length≠5∨(insB (f.getD 2 noStr++spS++f.getD 3 noStr)).2≠0∨(parseB (f.getD 4 noStr)).2≠0 then (noInc,1) else onFl2 t (f.getD 1 noStr) (insB (f.getD 2 noStr++spS++f.getD 3 noStr)).1 fun i=>⟨1,i,(parseB (f.getD 4 noStr)).1,noStr,0,noShift⟩)
  else if f.getD 0 noStr=cancelS then
   (if f.length≠4∨(insB (f.getD 2 noStr++spS++f.getD 3 noStr)).2≠0 then (noInc,1) else onFl2 t (f.getD 1 noStr) (insB (f.getD 2 noStr++spS++f.getD 3 noStr)).1 fun i=>⟨2,i,0,noStr,0,noShift⟩)
  else if f.getD 0 noStr=divertS then
   (if f.length≠6∨(insB (f.getD 2 noStr++spS++f.getD 3 noStr)).2≠0∨(parseB (f.getD 5 noStr)).2≠0 then (noInc,1) else onFl2 t (f.getD 1 noStr) (insB (f.getD 2 noStr++spS++f.getD 3 noStr)).1 fun i=>⟨3,i,(parseB (f.getD 5 noStr)).1,f.getD 4 noStr,0,noShift⟩)
  else if f.getD 0 noStr=sickS then (if f.length≠6 then (noInc,1) else sickL f) else (noInc,1)):=by
  show _=_;have e:(if f.length≠6∨(parseB (f.getD 1 noStr)).2≠0∨(insI f 2).2≠0∨(insI f 4).2≠0 then (noInc,(1:Int)) else (⟨4,0,0,noStr,(parseB (f.getD 1 noStr)).1,⟨(insI f 2).1,(insI f 4).1+1⟩⟩,0))=if f.length≠6 then (noInc,1) else sickL f:=by
   unfold sickL
   by_cases h:f.length≠6
   ·rw[qR h,qR (.inl h)]
   ·rw[qN h]
    by_cases h2:(parseB (f.getD 1 noStr)).2≠0∨(insI f 2).2≠0∨(insI f 4).2≠0
    ·rw[qR h2,qR (.inr h2)]
    ·rw[qN h2,qN (fun h3=>h3.elim h h2)]
  rw[←e];rfl
 obtain⟨za,qa1,qa2,qa3⟩:=size_sp z2 z3;have hfb:fb<w.heap.size:=hSb;have HA:Hid (Below w.heap.size w ((((w.alloc (.cells #[.slice A1 n1 c1,.slice A2 n2 c2,.slice A3 n3 c3] 27)).alloc (.cells #[.slice (some ⟨fb,o,none⟩) f.length c] 36)).alloc (.cells #[.int .i64 0,.int .i64 0,.int .i64 0,.string ⟨#[]⟩,.int .i64 0,.int .i64 0,.int .i64 0] 59)).alloc (.cells #[.int .i64 0,.int .i64 0,.int .i64 0,.string ⟨#[]⟩,.int .i64 0,.int .i64 0,.int .i64 0] 59))):=((((qC w.heap.size w).alloc (qD _) _).alloc (by simp) _).alloc (by simp <;> omega) _).alloc (by simp <;> omega) _;have HT:Hid (((((w.alloc (.cells #[.slice A1 n1 c1,.slice A2 n2 c2,.slice A3 n3 c3] 27)).alloc (.cells #[.slice (some ⟨fb,o,none⟩) f.length c] 36)).alloc (.cells #[.int .i64 0,.int .i64 0,.int .i64 0,.string ⟨#[]⟩,.int .i64 0,.int .i64 0,.int .i64 0] 59)).alloc (.cells #[.int .i64 0,.int .i64 0,.int .i64 0,.string ⟨#[]⟩,.int .i64 0,.int .i64 0,.int .i64 0] 59)).heap[w.heap.size]? = some (.cells #[.slice A1 n1 c1,.slice A2 n2 c2,.slice A3 n3 c3] 27 (0,0))):=by
  show _=_;rw[Below.heap_alloc _ _ _ (by simp <;> omega),Below.heap_alloc _ _ _ (by simp <;> omega),Below.heap_alloc _ _ _ (by simp),qK]
 have HF:Hid (((((w.alloc (.cells #[.slice A1 n1 c1,.slice A2 n2 c2,.slice A3 n3 c3] 27)).alloc (.cells #[.slice (some ⟨fb,o,none⟩) f.length c] 36)).alloc (.cells #[.int .i64 0,.int .i64 0,.int .i64 0,.string ⟨#[]⟩,.int .i64 0,.int .i64 0,.int .i64 0] 59)).alloc (.cells #[.int .i64 0,.int .i64 0,.int .i64 0,.string ⟨#[]⟩,.int .i64 0,.int .i64 0,.int .i64 0] 59)).heap[w.heap.size+1]? = some (.cells #[.slice (some ⟨fb,o,none⟩) f.length c] 36 (0,0))):=by
  show _=_;rw[Below.heap_alloc _ _ _ (by simp <;> omega),Below.heap_alloc _ _ _ (by simp)];exact heap_alloc2_new _ _ _
 have HR:Hid (((((w.alloc (.cells #[.slice A1 n1 c1,.slice A2 n2 c2,.slice A3 n3 c3] 27)).alloc (.cells #[.slice (some ⟨fb,o,none⟩) f.length c] 36)).alloc (.cells #[.int .i64 0,.int .i64 0,.int .i64 0,.string ⟨#[]⟩,.int .i64 0,.int .i64 0,.int .i64 0] 59)).alloc (.cells #[.int .i64 0,.int .i64 0,.int .i64 0,.string ⟨#[]⟩,.int .i64 0,.int .i64 0,.int .i64 0] 59)).heap[w.heap.size+1+1]? = some (.cells #[.int .i64 0,.int .i64 0,.int .i64 0,.string ⟨#[]⟩,.int .i64 0,.int .i64 0,.int .i64 0] 59 (0,0))):=by
  show _=_;rw[Below.heap_alloc _ _ _ (by simp)];have:=qK ((w.alloc (.cells #[.slice A1 n1 c1,.slice A2 n2 c2,.slice A3 n3 c3] 27)).alloc (.cells #[.slice (some ⟨fb,o,none⟩) f.length c] 36)) (.cells #[.int .i64 0,.int .i64 0,.int .i64 0,.string ⟨#[]⟩,.int .i64 0,.int .i64 0,.int .i64 0] 59);simpa using this
 have HX:Hid (((((w.alloc (.cells #[.slice A1 n1 c1,.slice A2 n2 c2,.slice A3 n3 c3] 27)).alloc (.cells #[.slice (some ⟨fb,o,none⟩) f.length c] 36)).alloc (.cells #[.int .i64 0,.int .i64 0,.int .i64 0,.string ⟨#[]⟩,.int .i64 0,.int .i64 0,.int .i64 0] 59)).alloc (.cells #[.int .i64 0,.int .i64 0,.int .i64 0,.string ⟨#[]⟩,.int .i64 0,.int .i64 0,.int .i64 0] 59)).heap[w.heap.size+1+1+1]? = some (.cells #[.int .i64 0,.int .i64 0,.int .i64 0,.string ⟨#[]⟩,.int .i64 0,.int .i64 0,.int .i64 0] 59 (0,0))):=by
  show _=_;have:=qK (((w.alloc (.cells #[.slice A1 n1 c1,.slice A2 n2 c2,.slice A3 n3 c3] 27)).alloc (.cells #[.slice (some ⟨fb,o,none⟩) f.length c] 36)).alloc (.cells #[.int .i64 0,.int .i64 0,.int .i64 0,.string ⟨#[]⟩,.int .i64 0,.int .i64 0,.int .i64 0] 59)) (.cells #[.int .i64 0,.int .i64 0,.int .i64 0,.string ⟨#[]⟩,.int .i64 0,.int .i64 0,.int .i64 0] 59);simpa using this
 have HZ:Hid (w.heap.size+4≤((((w.alloc (.cells #[.slice A1 n1 c1,.slice A2 n2 c2,.slice A3 n3 c3] 27)).alloc (.cells #[.slice (some ⟨fb,o,none⟩) f.length c] 36)).alloc (.cells #[.int .i64 0,.int .i64 0,.int .i64 0,.string ⟨#[]⟩,.int .i64 0,.int .i64 0,.int .i64 0] 59)).alloc (.cells #[.int .i64 0,.int .i64 0,.int .i64 0,.string ⟨#[]⟩,.int .i64 0,.int .i64 0,.int .i64 0] 59)).heap.size):=by show _≤_;simp
 clear hcells hz hf hs3 hSb;generalize lineI t f=R at*;have HC0:Hid (f.getD 0 noStr=f.getD 0 noStr):=rfl;clear HC0;have HC:Hid (∀ V,Below w.heap.size w V → ∀ k,k<f.length→V.cell? ⟨fb,o+k,none⟩=some (.string ([f.getD 0 noStr,f.getD 1 noStr,f.getD 2 noStr,f.getD 3 noStr,f.getD 4 noStr,f.getD 5 noStr].getD k (f.getD k noStr)))):=fun V hV k hk=>by
  rw[HC.out V hV k hk];have:k=0∨k=1∨k=2∨k=3∨k=4∨k=5∨6≤k:=by omega
  rcases this with rfl|rfl|rfl|rfl|rfl|rfl|h
  all_goals first|rfl|(rw[qF (l:=[_,_,_,_,_,_]),List.getElem?_eq_none (by simpa using h)];rfl)
 have edelay:=eq_delay (f.getD 0 noStr);have ecancel:=eq_cancel (f.getD 0 noStr);have edivert:=eq_divert (f.getD 0 noStr);have esick:=eq_sick (f.getD 0 noStr);generalize f.getD 0 noStr=f0 at*;generalize f.getD 1 noStr=f1 at*;generalize f.getD 2 noStr=f2 at*;generalize f.getD 3 noStr=f3 at*;generalize f.getD 4 noStr=f4 at*;generalize f.getD 5 noStr=f5 at*
 by_cases hw:f0=delayS
 ·as_aux_lemma =>
   rw[decide_eq_true hw]at edelay;clear ecancel edivert esick;have HQ:Hid (R=if f.length≠5∨(insB (f2++spS++f3)).2≠0∨(parseB f4).2≠0 then (noInc,1) else onFl2 t f1 (insB (f2++spS++f3)).1 fun i=>⟨1,i,(parseB f4).1,noStr,0,noShift⟩):=by show _=_;rw[HQL.out];rw[qR hw]
   clear HQL hw;have HC1:Hid (∀ V:World,Calls Tryz.prog 99 #[.string (f2++spS++f3)] V (NumPost (insB (f2++spS++f3)) V)):=fun V=>parseInstant_any _ V za
   have hx1:=insB_bd (f2++spS++f3);unfold NumPost at HC1;generalize insB (f2++spS++f3)=a1 at*;obtain⟨x1,er1⟩:=a1;simp only at HC1 HQ hx1;have HNF:Hid (∀ V:World,Calls Tryz.prog 100 #[.string f4] V (ParsePost f4 V)):=fun V=>parseInt_any _ V (by unfold maxLen;omega)
   unfold ParsePost at HNF;generalize parseB f4=a2 at*;obtain⟨m4,er2⟩:=a2;simp only at HNF HQ;clear za z1 z2 z3 z4 z5
   by_cases hl:f.length=5
   case neg =>
    have hl':((f.length:Int) != 5)=true:=by simp;omega
    clear HC1 HNF
    go_enter Tryz.func62,Tryz.ntmps62
    go_upto_region 3 with (fail)
    generalize ((((w.alloc (.cells #[.slice A1 n1 c1,.slice A2 n2 c2,.slice A3 n3 c3] 27)).alloc (.cells #[.slice (some ⟨fb,o,none⟩) f.length c] 36)).alloc (.cells #[.int .i64 0,.int .i64 0,.int .i64 0,.string ⟨#[]⟩,.int .i64 0,.int .i64 0,.int .i64 0] 59)).alloc (.cells #[.int .i64 0,.int .i64 0,.int .i64 0,.string ⟨#[]⟩,.int .i64 0,.int .i64 0,.int .i64 0] 59))=W at*;generalize hbx:w.heap.size+1+1+1=bx at*;generalize hbr:w.heap.size+1+1=br at*;generalize hbf:w.heap.size+1=bf at*;have hx:=HX.out;have z0:=block_cell hx 0;have f0':=block_free hx 0;have q0:W.cell? ⟨bf,0,none⟩=some (.slice (some ⟨fb,o,none⟩) f.length c):=block_cell HF.out 0;have c0:W.cell? ⟨fb,o,none⟩=some (.string f0):=HC.out W HA.out 0 (by omega);go_upto_region 12 with (fail)
    have HX1:Hid ((W.setCell ⟨bx,0,none⟩ (.int .i64 1)).heap[bx]? = some (.cells #[.int .i64 1,.int .i64 0,.int .i64 0,.string ⟨#[]⟩,.int .i64 0,.int .i64 0,.int .i64 0] 59 (0,0))):=qS _ _ _ _ _ _ hx;have HT1:Hid ((W.setCell ⟨bx,0,none⟩ (.int .i64 1)).heap[w.heap.size]? = _):=(qO _ _ _ _ (by dsimp only;omega)).trans HT.out;have HF1:Hid ((W.setCell ⟨bx,0,none⟩ (.int .i64 1)).heap[bf]? = _):=(qO _ _ _ _ (by dsimp only;omega)).trans HF.out;have HR1:Hid ((W.setCell ⟨bx,0,none⟩ (.int .i64 1)).heap[br]? = _):=(qO _ _ _ _ (by dsimp only;omega)).trans HR.out;have HA1:Hid (Below w.heap.size w (W.setCell ⟨bx,0,none⟩ (.int .i64 1))):=HA.out.setCell (by dsimp only;omega) _;have hz1:w.heap.size+4≤(W.setCell ⟨bx,0,none⟩ (.int .i64 1)).heap.size:=by simp;exact HZ.out
    generalize W.setCell ⟨bx,0,none⟩ (.int .i64 1)=W1 at*;have q1:W1.cell? ⟨bf,0,none⟩=some (.slice (some ⟨fb,o,none⟩) f.length c):=block_cell HF1.out 0;clear hx z0 f0' q0 c0 HX HT HF HR HA HZ;have HRR:Hid (R=(noInc,1)):=by show _=_;rw[HQ.out,qR (.inl hl)]
    clear hl;go_upto_region 13 with (fail)
    refine wp_region_lit ?_;refine wpList_zero rfl rfl ?_;refine wpList_store_row rfl _ _ _ rfl br #[.int .i64 0,.int .i64 0,.int .i64 0,.string ⟨#[]⟩,.int .i64 0,.int .i64 0,.int .i64 0] (by simp[Act.eval,Act.put]) (by simp[Act.eval,Act.put]) _ _ HR1.out inc_info rfl (by simp[Value.oneCell']) ?_;have hr:=setRow_heap _ _ _ #[.int .i64 0,.int .i64 0,.int .i64 0,.string ⟨#[]⟩,.int .i64 0,.int .i64 0,.int .i64 0] _ _ HR1.out;have u0:=block_cell hr 0;have u1:=block_cell hr 1;have u2:=block_cell hr 2;have u3:=block_cell hr 3;have u4:=block_cell hr 4;have u5:=block_cell hr 5;have u6:=block_cell hr 6;have HAE:=qH (below_setRow HA1.out (b:=br) (cs := #[.int .i64 0,.int .i64 0,.int .i64 0,.string ⟨#[]⟩,.int .i64 0,.int .i64 0,.int .i64 0]) (by omega));clear hr;go_wp2_with fail
    refine bodyPost_ret (v:=.tuple #[.agg #[.int .i64 0,.int .i64 0,.int .i64 0,.string ⟨#[]⟩,.int .i64 0,.int .i64 0,.int .i64 0],.int .i64 1]) (by simp[results,Tryz.results62,go_sem,u0,u1,u2,u3,u4,u5,u6]) rfl ?_;rw[HRR.out];exact⟨rfl,HAE.out⟩
   have hl':((f.length:Int) != 5)=false:=by simp;omega
   have hge:5≤f.length:=by omega
   rw[hl]at HQ;simp only[ne_eq,not_true_eq_false,false_or]at HQ;clear hl
   go_enter Tryz.func62,Tryz.ntmps62
   go_upto_region 3 with (fail)
   generalize ((((w.alloc (.cells #[.slice A1 n1 c1,.slice A2 n2 c2,.slice A3 n3 c3] 27)).alloc (.cells #[.slice (some ⟨fb,o,none⟩) f.length c] 36)).alloc (.cells #[.int .i64 0,.int .i64 0,.int .i64 0,.string ⟨#[]⟩,.int .i64 0,.int .i64 0,.int .i64 0] 59)).alloc (.cells #[.int .i64 0,.int .i64 0,.int .i64 0,.string ⟨#[]⟩,.int .i64 0,.int .i64 0,.int .i64 0] 59))=W at*;generalize hbx:w.heap.size+1+1+1=bx at*;generalize hbr:w.heap.size+1+1=br at*;generalize hbf:w.heap.size+1=bf at*;have hx:=HX.out;have z0:=block_cell hx 0;have f0':=block_free hx 0;have q0:W.cell? ⟨bf,0,none⟩=some (.slice (some ⟨fb,o,none⟩) f.length c):=block_cell HF.out 0;have c0:W.cell? ⟨fb,o,none⟩=some (.string f0):=HC.out W HA.out 0 (by omega);go_upto_region 12 with (fail)
   have HX1:Hid ((W.setCell ⟨bx,0,none⟩ (.int .i64 1)).heap[bx]? = some (.cells #[.int .i64 1,.int .i64 0,.int .i64 0,.string ⟨#[]⟩,.int .i64 0,.int .i64 0,.int .i64 0] 59 (0,0))):=qS _ _ _ _ _ _ hx;have HT1:Hid ((W.setCell ⟨bx,0,none⟩ (.int .i64 1)).heap[w.heap.size]? = _):=(qO _ _ _ _ (by dsimp only;omega)).trans HT.out;have HF1:Hid ((W.setCell ⟨bx,0,none⟩ (.int .i64 1)).heap[bf]? = _):=(qO _ _ _ _ (by dsimp only;omega)).trans HF.out;have HR1:Hid ((W.setCell ⟨bx,0,none⟩ (.int .i64 1)).heap[br]? = _):=(qO _ _ _ _ (by dsimp only;omega)).trans HR.out;have HA1:Hid (Below w.heap.size w (W.setCell ⟨bx,0,none⟩ (.int .i64 1))):=HA.out.setCell (by dsimp only;omega) _;have hz1:w.heap.size+4≤(W.setCell ⟨bx,0,none⟩ (.int .i64 1)).heap.size:=by simp;exact HZ.out
   generalize W.setCell ⟨bx,0,none⟩ (.int .i64 1)=W1 at*;have q1:W1.cell? ⟨bf,0,none⟩=some (.slice (some ⟨fb,o,none⟩) f.length c):=block_cell HF1.out 0;clear hx z0 f0' q0 c0 HX HT HF HR HA HZ;have c2:W1.cell? ⟨fb,o+2,none⟩=some (.string f2):=HC.out W1 HA1.out 2 (by omega);have c3':W1.cell? ⟨fb,o+3,none⟩=some (.string f3):=HC.out W1 HA1.out 3 (by omega);have z0:W1.cell? ⟨bx,0,none⟩=some (.int .i64 1):=block_cell HX1.out 0;have c2a : ∀ oo,(W1.alloc oo).cell? ⟨fb,o+2,none⟩=some (.string f2):=fun oo=>(World.cell?_alloc_past _ _ _ (show fb<_ by omega)).trans c2
   have c3a : ∀ oo,(W1.alloc oo).cell? ⟨fb,o+3,none⟩=some (.string f3):=fun oo=>(World.cell?_alloc_past _ _ _ (show fb<_ by omega)).trans c3'
   have q1a : ∀ oo,(W1.alloc oo).cell? ⟨bf,0,none⟩=some (.slice (some ⟨fb,o,none⟩) f.length c):=fun oo=>(World.cell?_alloc_past _ _ _ (show bf<_ by omega)).trans q1
   have j2:(2:Int)<(f.length:Int):=by omega
   have j3:(3:Int)<(f.length:Int):=by omega
   go_upto_region 16 with (fail)
   go_cut [8,9] (fun a b wx => ∃ g8,a=.pointer (some ⟨g8,0,none⟩)∧b=.int .i64 er1∧wx.cell? ⟨g8,0,none⟩=some (.int .i64 x1)∧W1.heap.size≤g8∧Below W1.heap.size W1 wx)
   case first =>
    go_region_law (first
     | (go_simp;go_at_call 99;refine(HC1.out _).mono ?_;rintro e w1 ⟨rfl,hb1⟩;try (have hq:=(hb1.block W1.heap.size (by simp)).trans (qK _ _);have hqc:=block_cell hq 0;have hqf:=block_free hq 0))
     | fail)
    all_goals
     go_wp2_with fail
     go_meet
     first
     | (have hbz:Below W1.heap.size W1 w1:=⟨hb1.os,hb1.tape,hb1.output,hb1.size,hb1.block⟩
        exact⟨_,rfl,rfl,cell_new_set,hbz.size,(hbz.alloc hbz.size _).setCell (by exact hbz.size) _⟩)
     | exact⟨_,rfl,rfl,cell_old_set hqc,qD _,(below_alloc_drew hb1).setCell (by exact qD _) _⟩
     | (have hbz:Below W1.heap.size W1 w1:=⟨hb1.os,hb1.tape,hb1.output,hb1.size,hb1.block⟩
        exact⟨_,rfl,rfl,block_cell (qK _ _) 0,hbz.size,hbz.alloc hbz.size _⟩)
   case rest =>
   obtain⟨g8,rfl,rfl,hg8,hgn,hb1⟩:=hcut;replace hgn:w.heap.size+4≤g8:=by omega
   obtain⟨V,rfl⟩ : ∃ x:World,x=wc:=⟨_,rfl⟩
   have HAV:Hid (Below w.heap.size w V):=HA1.out.trans (hb1.mono (by omega));have HTV:Hid (V.heap[w.heap.size]? = _):=(hb1.block _ (by omega)).trans HT1.out;have HFV:Hid (V.heap[bf]? = _):=(hb1.block _ (by omega)).trans HF1.out;have HRV:Hid (V.heap[br]? = _):=(hb1.block _ (by omega)).trans HR1.out;have HXV:Hid (V.heap[bx]? = _):=(hb1.block _ (by omega)).trans HX1.out;have HGV:=qH hg8;have HS3V:=qH (HS3.out V HAV.out);have hzv:w.heap.size+4≤V.heap.size:=by have:=hb1.size;omega
   clear c2 c3' c2a c3a q1a z0 q1 hb1 hg8 HC1 HA1 HT1 HF1 HR1 HX1 hz1
   by_cases he1:er1=0
   case neg =>
    have h0':(er1==0)=false:=by simpa using he1
    clear HNF;have HRR:Hid (R=(noInc,1)):=by show _=_;rw[HQ.out,qR (.inl he1)]
    clear he1;go_upto_region 18 with (fail)
    refine wp_region_lit ?_;refine wpList_zero rfl rfl ?_;refine wpList_store_row rfl _ _ _ rfl br #[.int .i64 0,.int .i64 0,.int .i64 0,.string ⟨#[]⟩,.int .i64 0,.int .i64 0,.int .i64 0] (by simp[Act.eval,Act.put]) (by simp[Act.eval,Act.put]) _ _ HRV.out inc_info rfl (by simp[Value.oneCell']) ?_;have hr:=setRow_heap _ _ _ #[.int .i64 0,.int .i64 0,.int .i64 0,.string ⟨#[]⟩,.int .i64 0,.int .i64 0,.int .i64 0] _ _ HRV.out;have u0:=block_cell hr 0;have u1:=block_cell hr 1;have u2:=block_cell hr 2;have u3:=block_cell hr 3;have u4:=block_cell hr 4;have u5:=block_cell hr 5;have u6:=block_cell hr 6;have HAE:=qH (below_setRow HAV.out (b:=br) (cs := #[.int .i64 0,.int .i64 0,.int .i64 0,.string ⟨#[]⟩,.int .i64 0,.int .i64 0,.int .i64 0]) (by omega));clear hr;go_wp2_with fail
    refine bodyPost_ret (v:=.tuple #[.agg #[.int .i64 0,.int .i64 0,.int .i64 0,.string ⟨#[]⟩,.int .i64 0,.int .i64 0,.int .i64 0],.int .i64 1]) (by simp[results,Tryz.results62,go_sem,u0,u1,u2,u3,u4,u5,u6]) rfl ?_;rw[HRR.out];exact⟨rfl,HAE.out⟩
   subst he1;have q1:V.cell? ⟨bf,0,none⟩=some (.slice (some ⟨fb,o,none⟩) f.length c):=block_cell HFV.out 0;have c5':V.cell? ⟨fb,o+4,none⟩=some (.string f4):=HC.out V HAV.out 4 (by omega);have hxv:=HXV.out;have z0:V.cell? ⟨bx,0,none⟩=some (.int .i64 1):=block_cell hxv 0;have f2':=block_free hxv 2;have y2:=block_cell hxv 2;have j5:(4:Int)<(f.length:Int):=by omega
   clear hxv;go_upto_region 20 with (fail)
   go_wp2_with fail
   refine(HNF.out V).mono ?_;rintro e w2 ⟨rfl,rfl⟩;go_upto_region 21 with (fail)
   have HX2:Hid ((V.setCell ⟨bx,2,none⟩ (.int .i64 m4)).heap[bx]? = some (.cells #[.int .i64 1,.int .i64 0,.int .i64 m4,.string ⟨#[]⟩,.int .i64 0,.int .i64 0,.int .i64 0] 59 (0,0))):=qS _ _ _ _ _ _ HXV.out;have HT2:Hid ((V.setCell ⟨bx,2,none⟩ (.int .i64 m4)).heap[w.heap.size]? = _):=(qO _ _ _ _ (by dsimp only;omega)).trans HTV.out;have HF2:Hid ((V.setCell ⟨bx,2,none⟩ (.int .i64 m4)).heap[bf]? = _):=(qO _ _ _ _ (by dsimp only;omega)).trans HFV.out;have HR2:Hid ((V.setCell ⟨bx,2,none⟩ (.int .i64 m4)).heap[br]? = _):=(qO _ _ _ _ (by dsimp only;omega)).trans HRV.out;have HA2:Hid (Below w.heap.size w (V.setCell ⟨bx,2,none⟩ (.int .i64 m4))):=HAV.out.setCell (by dsimp only;omega) _;have HG2:Hid ((V.setCell ⟨bx,2,none⟩ (.int .i64 m4)).cell? ⟨g8,0,none⟩=some (.int .i64 x1)):=(World.cell?_setCell_other _ _ _ _ (fun h9=>absurd (congrArg Addr.block h9) (show bx≠g8 by omega))).trans HGV.out;have hz2:w.heap.size+4≤(V.setCell ⟨bx,2,none⟩ (.int .i64 m4)).heap.size:=by simp;exact hzv
   generalize V.setCell ⟨bx,2,none⟩ (.int .i64 m4)=V2 at*;clear q1 c5' z0 f2' y2 HAV HTV HFV HRV HXV HGV HS3V hzv HNF;obtain⟨V,rfl⟩ : ∃ x:World,x=V2:=⟨_,rfl⟩
   obtain⟨HAV,HTV,HFV,HRV,HXV,HGV,hzv⟩:=And.intro HA2 (And.intro HT2 (And.intro HF2 (And.intro HR2 (And.intro HX2 (And.intro HG2 hz2)))));clear HA2 HT2 HF2 HR2 HX2 HG2 hz2;have HS3V:=qH (HS3.out V HAV.out)
   by_cases he2:er2=0
   case neg =>
    have h0':(er2==0)=false:=by simpa using he2
    have HRR:Hid (R=(noInc,1)):=by show _=_;rw[HQ.out,qR (.inr he2)]
    clear he2;go_upto_region 22 with (fail)
    refine wp_region_lit ?_;refine wpList_zero rfl rfl ?_;refine wpList_store_row rfl _ _ _ rfl br #[.int .i64 0,.int .i64 0,.int .i64 0,.string ⟨#[]⟩,.int .i64 0,.int .i64 0,.int .i64 0] (by simp[Act.eval,Act.put]) (by simp[Act.eval,Act.put]) _ _ HRV.out inc_info rfl (by simp[Value.oneCell']) ?_;have hr:=setRow_heap _ _ _ #[.int .i64 0,.int .i64 0,.int .i64 0,.string ⟨#[]⟩,.int .i64 0,.int .i64 0,.int .i64 0] _ _ HRV.out;have u0:=block_cell hr 0;have u1:=block_cell hr 1;have u2:=block_cell hr 2;have u3:=block_cell hr 3;have u4:=block_cell hr 4;have u5:=block_cell hr 5;have u6:=block_cell hr 6;have HAE:=qH (below_setRow HAV.out (b:=br) (cs := #[.int .i64 0,.int .i64 0,.int .i64 0,.string ⟨#[]⟩,.int .i64 0,.int .i64 0,.int .i64 0]) (by omega));clear hr;go_wp2_with fail
    refine bodyPost_ret (v:=.tuple #[.agg #[.int .i64 0,.int .i64 0,.int .i64 0,.string ⟨#[]⟩,.int .i64 0,.int .i64 0,.int .i64 0],.int .i64 1]) (by simp[results,Tryz.results62,go_sem,u0,u1,u2,u3,u4,u5,u6]) rfl ?_;rw[HRR.out];exact⟨rfl,HAE.out⟩
   subst he2;rw[qN (by simp)]at HQ;have hxv:=HXV.out;have y0:=block_cell hxv 0;have y1:=block_cell hxv 1;have y2:=block_cell hxv 2;have y3:=block_cell hxv 3;have y4:=block_cell hxv 4;have y5:=block_cell hxv 5;have y6:=block_cell hxv 6;have k0:=block_free hxv 0;have k1:=block_free hxv 1;have k2:=block_free hxv 2;have k3:=block_free hxv 3;have k4:=block_free hxv 4;have k5:=block_free hxv 5;have k6:=block_free hxv 6;have HIX:=qH (indexFl_any t.flights A3 n3 c3 bf g8 f1 x1 V HS3V.out (some ⟨fb,o,none⟩) f.length c fb o rfl (block_cell HFV.out 0) (by omega) (HC.out V HAV.out 1 (by omega)) HGV.out);have t2:V.cell? ⟨w.heap.size,2,none⟩=some (.slice A3 n3 c3):=block_cell HTV.out 2;clear hxv;go_upto_region 25 with (fail)
   go_wp2_with fail
   refine HIX.out.mono ?_;rintro e w6 ⟨rfl,hb6⟩;clear HIX t2 y0 y1 y2 y3 y4 y5 y6 k0 k1 k2 k3 k4 k5 k6;have hA6:=HAV.out.trans (hb6.mono (by omega));have hx6:=(hb6.block (bx) (by omega)).trans HXV.out;have hr6:=(hb6.block (br) (by omega)).trans HRV.out;have HX6:=qH (qS _ _ 1 _ _ (.int .i64 (ixOpt (flAt t.flights f1 x1))) hx6);have HR6:=qH ((qO w6 ⟨bx,1,none⟩ br (.int .i64 (ixOpt (flAt t.flights f1 x1))) (show br≠bx by omega)).trans hr6);have HA6:Hid (Below w.heap.size w (w6.setCell ⟨bx,1,none⟩ (.int .i64 (ixOpt (flAt t.flights f1 x1))))):=hA6.setCell (by dsimp only;omega) _;have y1:=block_cell hx6 1;have k1:=block_free hx6 1;clear hb6 hx6 hr6 hA6 HAV HTV HFV HRV HXV HGV HS3V;go_upto_region 26 with (fail)
   generalize w6.setCell ⟨bx,1,none⟩ (.int .i64 (ixOpt (flAt t.flights f1 x1)))=W6 at*;clear y1 k1
   cases hfa:flAt t.flights f1 x1 with
   | none =>
    have hi:ixOpt none = -1:=rfl;rw[hfa,hi]at HX6;have y1:=block_cell HX6.out 1;have HRR:Hid (R=(noInc,6)):=by show _=_;rw[HQ.out];unfold onFl2;rw[hfa]
    clear hfa;go_upto_region 27 with (fail)
    refine wp_region_lit ?_;refine wpList_zero rfl rfl ?_;refine wpList_store_row rfl _ _ _ rfl br #[.int .i64 0,.int .i64 0,.int .i64 0,.string ⟨#[]⟩,.int .i64 0,.int .i64 0,.int .i64 0] (by simp[Act.eval,Act.put]) (by simp[Act.eval,Act.put]) _ _ HR6.out inc_info rfl (by simp[Value.oneCell']) ?_;have hr:=setRow_heap _ _ _ #[.int .i64 0,.int .i64 0,.int .i64 0,.string ⟨#[]⟩,.int .i64 0,.int .i64 0,.int .i64 0] _ _ HR6.out;have u0:=block_cell hr 0;have u1:=block_cell hr 1;have u2:=block_cell hr 2;have u3:=block_cell hr 3;have u4:=block_cell hr 4;have u5:=block_cell hr 5;have u6:=block_cell hr 6;have HAE:=qH (below_setRow HA6.out (b:=br) (cs := #[.int .i64 0,.int .i64 0,.int .i64 0,.string ⟨#[]⟩,.int .i64 0,.int .i64 0,.int .i64 0]) (by omega));clear hr;go_wp2_with fail
    refine bodyPost_ret (v:=.tuple #[.agg #[.int .i64 0,.int .i64 0,.int .i64 0,.string ⟨#[]⟩,.int .i64 0,.int .i64 0,.int .i64 0],.int .i64 6]) (by simp[results,Tryz.results62,go_sem,u0,u1,u2,u3,u4,u5,u6]) rfl ?_;rw[HRR.out];exact⟨rfl,HAE.out⟩
   | some i =>
    have HRR:Hid (R=(⟨1,i,m4,noStr,0,noShift⟩,0)):=by show _=_;rw[HQ.out];unfold onFl2;rw[hfa]
    have hi:ixOpt (some i)=(i:Int):=rfl;rw[hfa,hi]at HX6;have y1:W6.cell? ⟨bx,1,none⟩=some (.int .i64 i):=block_cell HX6.out 1;clear hfa;go_upto_region 28 with (fail)
    refine wp_region_lit ?_;refine wpList_load_row rfl _ _ rfl bx (by simp[Act.eval]) _ _ _ _ HX6.out Tryz.underlying59 rfl inc_info ?_;refine wpList_store_row rfl _ _ _ rfl br #[.int .i64 1,.int .i64 i,.int .i64 m4,.string ⟨#[]⟩,.int .i64 0,.int .i64 0,.int .i64 0] (by simp[Act.eval,Act.put]) (by simp[Act.eval,Act.put]) _ _ HR6.out inc_info rfl (by simp[Value.oneCell']) ?_;have hr:=setRow_heap _ _ _ #[.int .i64 1,.int .i64 i,.int .i64 m4,.string ⟨#[]⟩,.int .i64 0,.int .i64 0,.int .i64 0] _ _ HR6.out;have u0:=block_cell hr 0;have u1:=block_cell hr 1;have u2:=block_cell hr 2;have u3:=block_cell hr 3;have u4:=block_cell hr 4;have u5:=block_cell hr 5;have u6:=block_cell hr 6;have HAE:=qH (below_setRow HA6.out (b:=br) (cs := #[.int .i64 1,.int .i64 i,.int .i64 m4,.string ⟨#[]⟩,.int .i64 0,.int .i64 0,.int .i64 0]) (by omega));clear hr y1;go_wp2_with fail
    refine bodyPost_ret (v:=.tuple #[.agg #[.int .i64 1,.int .i64 i,.int .i64 m4,.string ⟨#[]⟩,.int .i64 0,.int .i64 0,.int .i64 0],.int .i64 0]) (by simp[results,Tryz.results62,go_sem,u0,u1,u2,u3,u4,u5,u6]) rfl ?_;rw[HRR.out];exact⟨rfl,HAE.out⟩
 have hw1:=hw;clear hw
 by_cases hw:f0=cancelS
 ·clear hw1
  as_aux_lemma =>
   rw[decide_eq_false (by rw[hw];exact words_ne.1)]at edelay;rw[decide_eq_true hw]at ecancel;clear edivert esick;have HQ:Hid (R=if f.length≠4∨(insB (f2++spS++f3)).2≠0 then (noInc,1) else onFl2 t f1 (insB (f2++spS++f3)).1 fun i=>⟨2,i,0,noStr,0,noShift⟩):=by show _=_;rw[HQL.out];rw[qN (by rw[hw];exact words_ne.1),qR hw]
   clear HQL hw;have HC1:Hid (∀ V:World,Calls Tryz.prog 99 #[.string (f2++spS++f3)] V (NumPost (insB (f2++spS++f3)) V)):=fun V=>parseInstant_any _ V za
   have hx1:=insB_bd (f2++spS++f3);unfold NumPost at HC1;generalize insB (f2++spS++f3)=a1 at*;obtain⟨x1,er1⟩:=a1;simp only at HC1 HQ hx1;clear za z1 z2 z3 z4 z5
   by_cases hl:f.length=4
   case neg =>
    have hl':((f.length:Int) != 4)=true:=by simp;omega
    clear HC1
    go_enter Tryz.func62,Tryz.ntmps62
    go_upto_region 3 with (fail)
    generalize ((((w.alloc (.cells #[.slice A1 n1 c1,.slice A2 n2 c2,.slice A3 n3 c3] 27)).alloc (.cells #[.slice (some ⟨fb,o,none⟩) f.length c] 36)).alloc (.cells #[.int .i64 0,.int .i64 0,.int .i64 0,.string ⟨#[]⟩,.int .i64 0,.int .i64 0,.int .i64 0] 59)).alloc (.cells #[.int .i64 0,.int .i64 0,.int .i64 0,.string ⟨#[]⟩,.int .i64 0,.int .i64 0,.int .i64 0] 59))=W at*;generalize hbx:w.heap.size+1+1+1=bx at*;generalize hbr:w.heap.size+1+1=br at*;generalize hbf:w.heap.size+1=bf at*;have hx:=HX.out;have z0:=block_cell hx 0;have f0':=block_free hx 0;have q0:W.cell? ⟨bf,0,none⟩=some (.slice (some ⟨fb,o,none⟩) f.length c):=block_cell HF.out 0;have c0:W.cell? ⟨fb,o,none⟩=some (.string f0):=HC.out W HA.out 0 (by omega);go_upto_region 12 with (fail)
    have HX1:Hid ((W.setCell ⟨bx,0,none⟩ (.int .i64 2)).heap[bx]? = some (.cells #[.int .i64 2,.int .i64 0,.int .i64 0,.string ⟨#[]⟩,.int .i64 0,.int .i64 0,.int .i64 0] 59 (0,0))):=qS _ _ _ _ _ _ hx;have HT1:Hid ((W.setCell ⟨bx,0,none⟩ (.int .i64 2)).heap[w.heap.size]? = _):=(qO _ _ _ _ (by dsimp only;omega)).trans HT.out;have HF1:Hid ((W.setCell ⟨bx,0,none⟩ (.int .i64 2)).heap[bf]? = _):=(qO _ _ _ _ (by dsimp only;omega)).trans HF.out;have HR1:Hid ((W.setCell ⟨bx,0,none⟩ (.int .i64 2)).heap[br]? = _):=(qO _ _ _ _ (by dsimp only;omega)).trans HR.out;have HA1:Hid (Below w.heap.size w (W.setCell ⟨bx,0,none⟩ (.int .i64 2))):=HA.out.setCell (by dsimp only;omega) _;have hz1:w.heap.size+4≤(W.setCell ⟨bx,0,none⟩ (.int .i64 2)).heap.size:=by simp;exact HZ.out
    generalize W.setCell ⟨bx,0,none⟩ (.int .i64 2)=W1 at*;have q1:W1.cell? ⟨bf,0,none⟩=some (.slice (some ⟨fb,o,none⟩) f.length c):=block_cell HF1.out 0;clear hx z0 f0' q0 c0 HX HT HF HR HA HZ;have HRR:Hid (R=(noInc,1)):=by show _=_;rw[HQ.out,qR (.inl hl)]
    clear hl;go_upto_region 13 with (fail)
    refine wp_region_lit ?_;refine wpList_zero rfl rfl ?_;refine wpList_store_row rfl _ _ _ rfl br #[.int .i64 0,.int .i64 0,.int .i64 0,.string ⟨#[]⟩,.int .i64 0,.int .i64 0,.int .i64 0] (by simp[Act.eval,Act.put]) (by simp[Act.eval,Act.put]) _ _ HR1.out inc_info rfl (by simp[Value.oneCell']) ?_;have hr:=setRow_heap _ _ _ #[.int .i64 0,.int .i64 0,.int .i64 0,.string ⟨#[]⟩,.int .i64 0,.int .i64 0,.int .i64 0] _ _ HR1.out;have u0:=block_cell hr 0;have u1:=block_cell hr 1;have u2:=block_cell hr 2;have u3:=block_cell hr 3;have u4:=block_cell hr 4;have u5:=block_cell hr 5;have u6:=block_cell hr 6;have HAE:=qH (below_setRow HA1.out (b:=br) (cs := #[.int .i64 0,.int .i64 0,.int .i64 0,.string ⟨#[]⟩,.int .i64 0,.int .i64 0,.int .i64 0]) (by omega));clear hr;go_wp2_with fail
    refine bodyPost_ret (v:=.tuple #[.agg #[.int .i64 0,.int .i64 0,.int .i64 0,.string ⟨#[]⟩,.int .i64 0,.int .i64 0,.int .i64 0],.int .i64 1]) (by simp[results,Tryz.results62,go_sem,u0,u1,u2,u3,u4,u5,u6]) rfl ?_;rw[HRR.out];exact⟨rfl,HAE.out⟩
   have hl':((f.length:Int) != 4)=false:=by simp;omega
   have hge:4≤f.length:=by omega
   rw[hl]at HQ;simp only[ne_eq,not_true_eq_false,false_or]at HQ;clear hl
   go_enter Tryz.func62,Tryz.ntmps62
   go_upto_region 3 with (fail)
   generalize ((((w.alloc (.cells #[.slice A1 n1 c1,.slice A2 n2 c2,.slice A3 n3 c3] 27)).alloc (.cells #[.slice (some ⟨fb,o,none⟩) f.length c] 36)).alloc (.cells #[.int .i64 0,.int .i64 0,.int .i64 0,.string ⟨#[]⟩,.int .i64 0,.int .i64 0,.int .i64 0] 59)).alloc (.cells #[.int .i64 0,.int .i64 0,.int .i64 0,.string ⟨#[]⟩,.int .i64 0,.int .i64 0,.int .i64 0] 59))=W at*;generalize hbx:w.heap.size+1+1+1=bx at*;generalize hbr:w.heap.size+1+1=br at*;generalize hbf:w.heap.size+1=bf at*;have hx:=HX.out;have z0:=block_cell hx 0;have f0':=block_free hx 0;have q0:W.cell? ⟨bf,0,none⟩=some (.slice (some ⟨fb,o,none⟩) f.length c):=block_cell HF.out 0;have c0:W.cell? ⟨fb,o,none⟩=some (.string f0):=HC.out W HA.out 0 (by omega);go_upto_region 12 with (fail)
   have HX1:Hid ((W.setCell ⟨bx,0,none⟩ (.int .i64 2)).heap[bx]? = some (.cells #[.int .i64 2,.int .i64 0,.int .i64 0,.string ⟨#[]⟩,.int .i64 0,.int .i64 0,.int .i64 0] 59 (0,0))):=qS _ _ _ _ _ _ hx;have HT1:Hid ((W.setCell ⟨bx,0,none⟩ (.int .i64 2)).heap[w.heap.size]? = _):=(qO _ _ _ _ (by dsimp only;omega)).trans HT.out;have HF1:Hid ((W.setCell ⟨bx,0,none⟩ (.int .i64 2)).heap[bf]? = _):=(qO _ _ _ _ (by dsimp only;omega)).trans HF.out;have HR1:Hid ((W.setCell ⟨bx,0,none⟩ (.int .i64 2)).heap[br]? = _):=(qO _ _ _ _ (by dsimp only;omega)).trans HR.out;have HA1:Hid (Below w.heap.size w (W.setCell ⟨bx,0,none⟩ (.int .i64 2))):=HA.out.setCell (by dsimp only;omega) _;have hz1:w.heap.size+4≤(W.setCell ⟨bx,0,none⟩ (.int .i64 2)).heap.size:=by simp;exact HZ.out
   generalize W.setCell ⟨bx,0,none⟩ (.int .i64 2)=W1 at*;have q1:W1.cell? ⟨bf,0,none⟩=some (.slice (some ⟨fb,o,none⟩) f.length c):=block_cell HF1.out 0;clear hx z0 f0' q0 c0 HX HT HF HR HA HZ;have c2:W1.cell? ⟨fb,o+2,none⟩=some (.string f2):=HC.out W1 HA1.out 2 (by omega);have c3':W1.cell? ⟨fb,o+3,none⟩=some (.string f3):=HC.out W1 HA1.out 3 (by omega);have z0:W1.cell? ⟨bx,0,none⟩=some (.int .i64 2):=block_cell HX1.out 0;have c2a : ∀ oo,(W1.alloc oo).cell? ⟨fb,o+2,none⟩=some (.string f2):=fun oo=>(World.cell?_alloc_past _ _ _ (show fb<_ by omega)).trans c2
   have c3a : ∀ oo,(W1.alloc oo).cell? ⟨fb,o+3,none⟩=some (.string f3):=fun oo=>(World.cell?_alloc_past _ _ _ (show fb<_ by omega)).trans c3'
   have q1a : ∀ oo,(W1.alloc oo).cell? ⟨bf,0,none⟩=some (.slice (some ⟨fb,o,none⟩) f.length c):=fun oo=>(World.cell?_alloc_past _ _ _ (show bf<_ by omega)).trans q1
   have j2:(2:Int)<(f.length:Int):=by omega
   have j3:(3:Int)<(f.length:Int):=by omega
   go_upto_region 16 with (fail)
   go_cut [8,9] (fun a b wx => ∃ g8,a=.pointer (some ⟨g8,0,none⟩)∧b=.int .i64 er1∧wx.cell? ⟨g8,0,none⟩=some (.int .i64 x1)∧W1.heap.size≤g8∧Below W1.heap.size W1 wx)
   case first =>
    go_region_law (first
     | (go_simp;go_at_call 99;refine(HC1.out _).mono ?_;rintro e w1 ⟨rfl,hb1⟩;try (have hq:=(hb1.block W1.heap.size (by simp)).trans (qK _ _);have hqc:=block_cell hq 0;have hqf:=block_free hq 0))
     | fail)
    all_goals
     go_wp2_with fail
     go_meet
     first
     | (have hbz:Below W1.heap.size W1 w1:=⟨hb1.os,hb1.tape,hb1.output,hb1.size,hb1.block⟩
        exact⟨_,rfl,rfl,cell_new_set,hbz.size,(hbz.alloc hbz.size _).setCell (by exact hbz.size) _⟩)
     | exact⟨_,rfl,rfl,cell_old_set hqc,qD _,(below_alloc_drew hb1).setCell (by exact qD _) _⟩
     | (have hbz:Below W1.heap.size W1 w1:=⟨hb1.os,hb1.tape,hb1.output,hb1.size,hb1.block⟩
        exact⟨_,rfl,rfl,block_cell (qK _ _) 0,hbz.size,hbz.alloc hbz.size _⟩)
   case rest =>
   obtain⟨g8,rfl,rfl,hg8,hgn,hb1⟩:=hcut;replace hgn:w.heap.size+4≤g8:=by omega
   obtain⟨V,rfl⟩ : ∃ x:World,x=wc:=⟨_,rfl⟩
   have HAV:Hid (Below w.heap.size w V):=HA1.out.trans (hb1.mono (by omega));have HTV:Hid (V.heap[w.heap.size]? = _):=(hb1.block _ (by omega)).trans HT1.out;have HFV:Hid (V.heap[bf]? = _):=(hb1.block _ (by omega)).trans HF1.out;have HRV:Hid (V.heap[br]? = _):=(hb1.block _ (by omega)).trans HR1.out;have HXV:Hid (V.heap[bx]? = _):=(hb1.block _ (by omega)).trans HX1.out;have HGV:=qH hg8;have HS3V:=qH (HS3.out V HAV.out);have hzv:w.heap.size+4≤V.heap.size:=by have:=hb1.size;omega
   clear c2 c3' c2a c3a q1a z0 q1 hb1 hg8 HC1 HA1 HT1 HF1 HR1 HX1 hz1
   by_cases he1:er1=0
   case neg =>
    have h0':(er1==0)=false:=by simpa using he1
    have HRR:Hid (R=(noInc,1)):=by show _=_;rw[HQ.out,qR (he1)]
    clear he1;go_upto_region 18 with (fail)
    refine wp_region_lit ?_;refine wpList_zero rfl rfl ?_;refine wpList_store_row rfl _ _ _ rfl br #[.int .i64 0,.int .i64 0,.int .i64 0,.string ⟨#[]⟩,.int .i64 0,.int .i64 0,.int .i64 0] (by simp[Act.eval,Act.put]) (by simp[Act.eval,Act.put]) _ _ HRV.out inc_info rfl (by simp[Value.oneCell']) ?_;have hr:=setRow_heap _ _ _ #[.int .i64 0,.int .i64 0,.int .i64 0,.string ⟨#[]⟩,.int .i64 0,.int .i64 0,.int .i64 0] _ _ HRV.out;have u0:=block_cell hr 0;have u1:=block_cell hr 1;have u2:=block_cell hr 2;have u3:=block_cell hr 3;have u4:=block_cell hr 4;have u5:=block_cell hr 5;have u6:=block_cell hr 6;have HAE:=qH (below_setRow HAV.out (b:=br) (cs := #[.int .i64 0,.int .i64 0,.int .i64 0,.string ⟨#[]⟩,.int .i64 0,.int .i64 0,.int .i64 0]) (by omega));clear hr;go_wp2_with fail
    refine bodyPost_ret (v:=.tuple #[.agg #[.int .i64 0,.int .i64 0,.int .i64 0,.string ⟨#[]⟩,.int .i64 0,.int .i64 0,.int .i64 0],.int .i64 1]) (by simp[results,Tryz.results62,go_sem,u0,u1,u2,u3,u4,u5,u6]) rfl ?_;rw[HRR.out];exact⟨rfl,HAE.out⟩
   subst he1;rw[qN (by simp)]at HQ;have hxv:=HXV.out;have y0:=block_cell hxv 0;have y1:=block_cell hxv 1;have y2:=block_cell hxv 2;have y3:=block_cell hxv 3;have y4:=block_cell hxv 4;have y5:=block_cell hxv 5;have y6:=block_cell hxv 6;have k0:=block_free hxv 0;have k1:=block_free hxv 1;have k2:=block_free hxv 2;have k3:=block_free hxv 3;have k4:=block_free hxv 4;have k5:=block_free hxv 5;have k6:=block_free hxv 6;have HIX:=qH (indexFl_any t.flights A3 n3 c3 bf g8 f1 x1 V HS3V.out (some ⟨fb,o,none⟩) f.length c fb o rfl (block_cell HFV.out 0) (by omega) (HC.out V HAV.out 1 (by omega)) HGV.out);have t2:V.cell? ⟨w.heap.size,2,none⟩=some (.slice A3 n3 c3):=block_cell HTV.out 2;clear hxv;go_upto_region 25 with (fail)
   go_wp2_with fail
   refine HIX.out.mono ?_;rintro e w6 ⟨rfl,hb6⟩;clear HIX t2 y0 y1 y2 y3 y4 y5 y6 k0 k1 k2 k3 k4 k5 k6;have hA6:=HAV.out.trans (hb6.mono (by omega));have hx6:=(hb6.block (bx) (by omega)).trans HXV.out;have hr6:=(hb6.block (br) (by omega)).trans HRV.out;have HX6:=qH (qS _ _ 1 _ _ (.int .i64 (ixOpt (flAt t.flights f1 x1))) hx6);have HR6:=qH ((qO w6 ⟨bx,1,none⟩ br (.int .i64 (ixOpt (flAt t.flights f1 x1))) (show br≠bx by omega)).trans hr6);have HA6:Hid (Below w.heap.size w (w6.setCell ⟨bx,1,none⟩ (.int .i64 (ixOpt (flAt t.flights f1 x1))))):=hA6.setCell (by dsimp only;omega) _;have y1:=block_cell hx6 1;have k1:=block_free hx6 1;clear hb6 hx6 hr6 hA6 HAV HTV HFV HRV HXV HGV HS3V;go_upto_region 26 with (fail)
   generalize w6.setCell ⟨bx,1,none⟩ (.int .i64 (ixOpt (flAt t.flights f1 x1)))=W6 at*;clear y1 k1
   cases hfa:flAt t.flights f1 x1 with
   | none =>
    have hi:ixOpt none = -1:=rfl;rw[hfa,hi]at HX6;have y1:=block_cell HX6.out 1;have HRR:Hid (R=(noInc,6)):=by show _=_;rw[HQ.out];unfold onFl2;rw[hfa]
    clear hfa;go_upto_region 27 with (fail)
    refine wp_region_lit ?_;refine wpList_zero rfl rfl ?_;refine wpList_store_row rfl _ _ _ rfl br #[.int .i64 0,.int .i64 0,.int .i64 0,.string ⟨#[]⟩,.int .i64 0,.int .i64 0,.int .i64 0] (by simp[Act.eval,Act.put]) (by simp[Act.eval,Act.put]) _ _ HR6.out inc_info rfl (by simp[Value.oneCell']) ?_;have hr:=setRow_heap _ _ _ #[.int .i64 0,.int .i64 0,.int .i64 0,.string ⟨#[]⟩,.int .i64 0,.int .i64 0,.int .i64 0] _ _ HR6.out;have u0:=block_cell hr 0;have u1:=block_cell hr 1;have u2:=block_cell hr 2;have u3:=block_cell hr 3;have u4:=block_cell hr 4;have u5:=block_cell hr 5;have u6:=block_cell hr 6;have HAE:=qH (below_setRow HA6.out (b:=br) (cs := #[.int .i64 0,.int .i64 0,.int .i64 0,.string ⟨#[]⟩,.int .i64 0,.int .i64 0,.int .i64 0]) (by omega));clear hr;go_wp2_with fail
    refine bodyPost_ret (v:=.tuple #[.agg #[.int .i64 0,.int .i64 0,.int .i64 0,.string ⟨#[]⟩,.int .i64 0,.int .i64 0,.int .i64 0],.int .i64 6]) (by simp[results,Tryz.results62,go_sem,u0,u1,u2,u3,u4,u5,u6]) rfl ?_;rw[HRR.out];exact⟨rfl,HAE.out⟩
   | some i =>
    have HRR:Hid (R=(⟨2,i,0,noStr,0,noShift⟩,0)):=by show _=_;rw[HQ.out];unfold onFl2;rw[hfa]
    have hi:ixOpt (some i)=(i:Int):=rfl;rw[hfa,hi]at HX6;have y1:W6.cell? ⟨bx,1,none⟩=some (.int .i64 i):=block_cell HX6.out 1;clear hfa;go_upto_region 28 with (fail)
    refine wp_region_lit ?_;refine wpList_load_row rfl _ _ rfl bx (by simp[Act.eval]) _ _ _ _ HX6.out Tryz.underlying59 rfl inc_info ?_;refine wpList_store_row rfl _ _ _ rfl br #[.int .i64 2,.int .i64 i,.int .i64 0,.string ⟨#[]⟩,.int .i64 0,.int .i64 0,.int .i64 0] (by simp[Act.eval,Act.put]) (by simp[Act.eval,Act.put]) _ _ HR6.out inc_info rfl (by simp[Value.oneCell']) ?_;have hr:=setRow_heap _ _ _ #[.int .i64 2,.int .i64 i,.int .i64 0,.string ⟨#[]⟩,.int .i64 0,.int .i64 0,.int .i64 0] _ _ HR6.out;have u0:=block_cell hr 0;have u1:=block_cell hr 1;have u2:=block_cell hr 2;have u3:=block_cell hr 3;have u4:=block_cell hr 4;have u5:=block_cell hr 5;have u6:=block_cell hr 6;have HAE:=qH (below_setRow HA6.out (b:=br) (cs := #[.int .i64 2,.int .i64 i,.int .i64 0,.string ⟨#[]⟩,.int .i64 0,.int .i64 0,.int .i64 0]) (by omega));clear hr y1;go_wp2_with fail
    refine bodyPost_ret (v:=.tuple #[.agg #[.int .i64 2,.int .i64 i,.int .i64 0,.string ⟨#[]⟩,.int .i64 0,.int .i64 0,.int .i64 0],.int .i64 0]) (by simp[results,Tryz.results62,go_sem,u0,u1,u2,u3,u4,u5,u6]) rfl ?_;rw[HRR.out];exact⟨rfl,HAE.out⟩
 have hw2:=hw;clear hw
 by_cases hw:f0=divertS
 ·clear hw1 hw2
  as_aux_lemma =>
   rw[decide_eq_false (by rw[hw];exact words_ne.2.1)]at edelay;rw[decide_eq_false (by rw[hw];exact words_ne.2.2.1)]at ecancel;rw[decide_eq_true hw]at edivert;clear esick;have HQ:Hid (R=if f.length≠6∨(insB (f2++spS++f3)).2≠0∨(parseB f5).2≠0 then (noInc,1) else onFl2 t f1 (insB (f2++spS++f3)).1 fun i=>⟨3,i,(parseB f5).1,f4,0,noShift⟩):=by show _=_;rw[HQL.out];rw[qN (by rw[hw];exact words_ne.2.1),qN (by rw[hw];exact words_ne.2.2.1),qR hw]
   clear HQL hw;have HC1:Hid (∀ V:World,Calls Tryz.prog 99 #[.string (f2++spS++f3)] V (NumPost (insB (f2++spS++f3)) V)):=fun V=>parseInstant_any _ V za
   have hx1:=insB_bd (f2++spS++f3);unfold NumPost at HC1;generalize insB (f2++spS++f3)=a1 at*;obtain⟨x1,er1⟩:=a1;simp only at HC1 HQ hx1;have HNF:Hid (∀ V:World,Calls Tryz.prog 100 #[.string f5] V (ParsePost f5 V)):=fun V=>parseInt_any _ V (by unfold maxLen;omega)
   unfold ParsePost at HNF;generalize parseB f5=a2 at*;obtain⟨m5,er2⟩:=a2;simp only at HNF HQ;clear za z1 z2 z3 z4 z5
   by_cases hl:f.length=6
   case neg =>
    have hl':((f.length:Int) != 6)=true:=by simp;omega
    clear HC1 HNF
    go_enter Tryz.func62,Tryz.ntmps62
    go_upto_region 3 with (fail)
    generalize ((((w.alloc (.cells #[.slice A1 n1 c1,.slice A2 n2 c2,.slice A3 n3 c3] 27)).alloc (.cells #[.slice (some ⟨fb,o,none⟩) f.length c] 36)).alloc (.cells #[.int .i64 0,.int .i64 0,.int .i64 0,.string ⟨#[]⟩,.int .i64 0,.int .i64 0,.int .i64 0] 59)).alloc (.cells #[.int .i64 0,.int .i64 0,.int .i64 0,.string ⟨#[]⟩,.int .i64 0,.int .i64 0,.int .i64 0] 59))=W at*;generalize hbx:w.heap.size+1+1+1=bx at*;generalize hbr:w.heap.size+1+1=br at*;generalize hbf:w.heap.size+1=bf at*;have hx:=HX.out;have z0:=block_cell hx 0;have f0':=block_free hx 0;have q0:W.cell? ⟨bf,0,none⟩=some (.slice (some ⟨fb,o,none⟩) f.length c):=block_cell HF.out 0;have c0:W.cell? ⟨fb,o,none⟩=some (.string f0):=HC.out W HA.out 0 (by omega);go_upto_region 12 with (fail)
    have HX1:Hid ((W.setCell ⟨bx,0,none⟩ (.int .i64 3)).heap[bx]? = some (.cells #[.int .i64 3,.int .i64 0,.int .i64 0,.string ⟨#[]⟩,.int .i64 0,.int .i64 0,.int .i64 0] 59 (0,0))):=qS _ _ _ _ _ _ hx;have HT1:Hid ((W.setCell ⟨bx,0,none⟩ (.int .i64 3)).heap[w.heap.size]? = _):=(qO _ _ _ _ (by dsimp only;omega)).trans HT.out;have HF1:Hid ((W.setCell ⟨bx,0,none⟩ (.int .i64 3)).heap[bf]? = _):=(qO _ _ _ _ (by dsimp only;omega)).trans HF.out;have HR1:Hid ((W.setCell ⟨bx,0,none⟩ (.int .i64 3)).heap[br]? = _):=(qO _ _ _ _ (by dsimp only;omega)).trans HR.out;have HA1:Hid (Below w.heap.size w (W.setCell ⟨bx,0,none⟩ (.int .i64 3))):=HA.out.setCell (by dsimp only;omega) _;have hz1:w.heap.size+4≤(W.setCell ⟨bx,0,none⟩ (.int .i64 3)).heap.size:=by simp;exact HZ.out
    generalize W.setCell ⟨bx,0,none⟩ (.int .i64 3)=W1 at*;have q1:W1.cell? ⟨bf,0,none⟩=some (.slice (some ⟨fb,o,none⟩) f.length c):=block_cell HF1.out 0;clear hx z0 f0' q0 c0 HX HT HF HR HA HZ;have HRR:Hid (R=(noInc,1)):=by show _=_;rw[HQ.out,qR (.inl hl)]
    clear hl;go_upto_region 13 with (fail)
    refine wp_region_lit ?_;refine wpList_zero rfl rfl ?_;refine wpList_store_row rfl _ _ _ rfl br #[.int .i64 0,.int .i64 0,.int .i64 0,.string ⟨#[]⟩,.int .i64 0,.int .i64 0,.int .i64 0] (by simp[Act.eval,Act.put]) (by simp[Act.eval,Act.put]) _ _ HR1.out inc_info rfl (by simp[Value.oneCell']) ?_;have hr:=setRow_heap _ _ _ #[.int .i64 0,.int .i64 0,.int .i64 0,.string ⟨#[]⟩,.int .i64 0,.int .i64 0,.int .i64 0] _ _ HR1.out;have u0:=block_cell hr 0;have u1:=block_cell hr 1;have u2:=block_cell hr 2;have u3:=block_cell hr 3;have u4:=block_cell hr 4;have u5:=block_cell hr 5;have u6:=block_cell hr 6;have HAE:=qH (below_setRow HA1.out (b:=br) (cs := #[.int .i64 0,.int .i64 0,.int .i64 0,.string ⟨#[]⟩,.int .i64 0,.int .i64 0,.int .i64 0]) (by omega));clear hr;go_wp2_with fail
    refine bodyPost_ret (v:=.tuple #[.agg #[.int .i64 0,.int .i64 0,.int .i64 0,.string ⟨#[]⟩,.int .i64 0,.int .i64 0,.int .i64 0],.int .i64 1]) (by simp[results,Tryz.results62,go_sem,u0,u1,u2,u3,u4,u5,u6]) rfl ?_;rw[HRR.out];exact⟨rfl,HAE.out⟩
   have hl':((f.length:Int) != 6)=false:=by simp;omega
   have hge:6≤f.length:=by omega
   rw[hl]at HQ;simp only[ne_eq,not_true_eq_false,false_or]at HQ;clear hl
   go_enter Tryz.func62,Tryz.ntmps62
   go_upto_region 3 with (fail)
   generalize ((((w.alloc (.cells #[.slice A1 n1 c1,.slice A2 n2 c2,.slice A3 n3 c3] 27)).alloc (.cells #[.slice (some ⟨fb,o,none⟩) f.length c] 36)).alloc (.cells #[.int .i64 0,.int .i64 0,.int .i64 0,.string ⟨#[]⟩,.int .i64 0,.int .i64 0,.int .i64 0] 59)).alloc (.cells #[.int .i64 0,.int .i64 0,.int .i64 0,.string ⟨#[]⟩,.int .i64 0,.int .i64 0,.int .i64 0] 59))=W at*;generalize hbx:w.heap.size+1+1+1=bx at*;generalize hbr:w.heap.size+1+1=br at*;generalize hbf:w.heap.size+1=bf at*;have hx:=HX.out;have z0:=block_cell hx 0;have f0':=block_free hx 0;have q0:W.cell? ⟨bf,0,none⟩=some (.slice (some ⟨fb,o,none⟩) f.length c):=block_cell HF.out 0;have c0:W.cell? ⟨fb,o,none⟩=some (.string f0):=HC.out W HA.out 0 (by omega);go_upto_region 12 with (fail)
   have HX1:Hid ((W.setCell ⟨bx,0,none⟩ (.int .i64 3)).heap[bx]? = some (.cells #[.int .i64 3,.int .i64 0,.int .i64 0,.string ⟨#[]⟩,.int .i64 0,.int .i64 0,.int .i64 0] 59 (0,0))):=qS _ _ _ _ _ _ hx;have HT1:Hid ((W.setCell ⟨bx,0,none⟩ (.int .i64 3)).heap[w.heap.size]? = _):=(qO _ _ _ _ (by dsimp only;omega)).trans HT.out;have HF1:Hid ((W.setCell ⟨bx,0,none⟩ (.int .i64 3)).heap[bf]? = _):=(qO _ _ _ _ (by dsimp only;omega)).trans HF.out;have HR1:Hid ((W.setCell ⟨bx,0,none⟩ (.int .i64 3)).heap[br]? = _):=(qO _ _ _ _ (by dsimp only;omega)).trans HR.out;have HA1:Hid (Below w.heap.size w (W.setCell ⟨bx,0,none⟩ (.int .i64 3))):=HA.out.setCell (by dsimp only;omega) _;have hz1:w.heap.size+4≤(W.setCell ⟨bx,0,none⟩ (.int .i64 3)).heap.size:=by simp;exact HZ.out
   generalize W.setCell ⟨bx,0,none⟩ (.int .i64 3)=W1 at*;have q1:W1.cell? ⟨bf,0,none⟩=some (.slice (some ⟨fb,o,none⟩) f.length c):=block_cell HF1.out 0;clear hx z0 f0' q0 c0 HX HT HF HR HA HZ;have c2:W1.cell? ⟨fb,o+2,none⟩=some (.string f2):=HC.out W1 HA1.out 2 (by omega);have c3':W1.cell? ⟨fb,o+3,none⟩=some (.string f3):=HC.out W1 HA1.out 3 (by omega);have z0:W1.cell? ⟨bx,0,none⟩=some (.int .i64 3):=block_cell HX1.out 0;have c2a : ∀ oo,(W1.alloc oo).cell? ⟨fb,o+2,none⟩=some (.string f2):=fun oo=>(World.cell?_alloc_past _ _ _ (show fb<_ by omega)).trans c2
   have c3a : ∀ oo,(W1.alloc oo).cell? ⟨fb,o+3,none⟩=some (.string f3):=fun oo=>(World.cell?_alloc_past _ _ _ (show fb<_ by omega)).trans c3'
   have q1a : ∀ oo,(W1.alloc oo).cell? ⟨bf,0,none⟩=some (.slice (some ⟨fb,o,none⟩) f.length c):=fun oo=>(World.cell?_alloc_past _ _ _ (show bf<_ by omega)).trans q1
   have j2:(2:Int)<(f.length:Int):=by omega
   have j3:(3:Int)<(f.length:Int):=by omega
   go_upto_region 16 with (fail)
   go_cut [8,9] (fun a b wx => ∃ g8,a=.pointer (some ⟨g8,0,none⟩)∧b=.int .i64 er1∧wx.cell? ⟨g8,0,none⟩=some (.int .i64 x1)∧W1.heap.size≤g8∧Below W1.heap.size W1 wx)
   case first =>
    go_region_law (first
     | (go_simp;go_at_call 99;refine(HC1.out _).mono ?_;rintro e w1 ⟨rfl,hb1⟩;try (have hq:=(hb1.block W1.heap.size (by simp)).trans (qK _ _);have hqc:=block_cell hq 0;have hqf:=block_free hq 0))
     | fail)
    all_goals
     go_wp2_with fail
     go_meet
     first
     | (have hbz:Below W1.heap.size W1 w1:=⟨hb1.os,hb1.tape,hb1.output,hb1.size,hb1.block⟩
        exact⟨_,rfl,rfl,cell_new_set,hbz.size,(hbz.alloc hbz.size _).setCell (by exact hbz.size) _⟩)
     | exact⟨_,rfl,rfl,cell_old_set hqc,qD _,(below_alloc_drew hb1).setCell (by exact qD _) _⟩
     | (have hbz:Below W1.heap.size W1 w1:=⟨hb1.os,hb1.tape,hb1.output,hb1.size,hb1.block⟩
        exact⟨_,rfl,rfl,block_cell (qK _ _) 0,hbz.size,hbz.alloc hbz.size _⟩)
   case rest =>
   obtain⟨g8,rfl,rfl,hg8,hgn,hb1⟩:=hcut;replace hgn:w.heap.size+4≤g8:=by omega
   obtain⟨V,rfl⟩ : ∃ x:World,x=wc:=⟨_,rfl⟩
   have HAV:Hid (Below w.heap.size w V):=HA1.out.trans (hb1.mono (by omega));have HTV:Hid (V.heap[w.heap.size]? = _):=(hb1.block _ (by omega)).trans HT1.out;have HFV:Hid (V.heap[bf]? = _):=(hb1.block _ (by omega)).trans HF1.out;have HRV:Hid (V.heap[br]? = _):=(hb1.block _ (by omega)).trans HR1.out;have HXV:Hid (V.heap[bx]? = _):=(hb1.block _ (by omega)).trans HX1.out;have HGV:=qH hg8;have HS3V:=qH (HS3.out V HAV.out);have hzv:w.heap.size+4≤V.heap.size:=by have:=hb1.size;omega
   clear c2 c3' c2a c3a q1a z0 q1 hb1 hg8 HC1 HA1 HT1 HF1 HR1 HX1 hz1
   by_cases he1:er1=0
   case neg =>
    have h0':(er1==0)=false:=by simpa using he1
    clear HNF;have HRR:Hid (R=(noInc,1)):=by show _=_;rw[HQ.out,qR (.inl he1)]
    clear he1;go_upto_region 18 with (fail)
    refine wp_region_lit ?_;refine wpList_zero rfl rfl ?_;refine wpList_store_row rfl _ _ _ rfl br #[.int .i64 0,.int .i64 0,.int .i64 0,.string ⟨#[]⟩,.int .i64 0,.int .i64 0,.int .i64 0] (by simp[Act.eval,Act.put]) (by simp[Act.eval,Act.put]) _ _ HRV.out inc_info rfl (by simp[Value.oneCell']) ?_;have hr:=setRow_heap _ _ _ #[.int .i64 0,.int .i64 0,.int .i64 0,.string ⟨#[]⟩,.int .i64 0,.int .i64 0,.int .i64 0] _ _ HRV.out;have u0:=block_cell hr 0;have u1:=block_cell hr 1;have u2:=block_cell hr 2;have u3:=block_cell hr 3;have u4:=block_cell hr 4;have u5:=block_cell hr 5;have u6:=block_cell hr 6;have HAE:=qH (below_setRow HAV.out (b:=br) (cs := #[.int .i64 0,.int .i64 0,.int .i64 0,.string ⟨#[]⟩,.int .i64 0,.int .i64 0,.int .i64 0]) (by omega));clear hr;go_wp2_with fail
    refine bodyPost_ret (v:=.tuple #[.agg #[.int .i64 0,.int .i64 0,.int .i64 0,.string ⟨#[]⟩,.int .i64 0,.int .i64 0,.int .i64 0],.int .i64 1]) (by simp[results,Tryz.results62,go_sem,u0,u1,u2,u3,u4,u5,u6]) rfl ?_;rw[HRR.out];exact⟨rfl,HAE.out⟩
   subst he1;have q1:V.cell? ⟨bf,0,none⟩=some (.slice (some ⟨fb,o,none⟩) f.length c):=block_cell HFV.out 0;have c5':V.cell? ⟨fb,o+5,none⟩=some (.string f5):=HC.out V HAV.out 5 (by omega);have hxv:=HXV.out;have z0:V.cell? ⟨bx,0,none⟩=some (.int .i64 3):=block_cell hxv 0;have f2':=block_free hxv 2;have y2:=block_cell hxv 2;have j5:(5:Int)<(f.length:Int):=by omega
   clear hxv;go_upto_region 20 with (fail)
   go_wp2_with fail
   refine(HNF.out V).mono ?_;rintro e w2 ⟨rfl,rfl⟩;go_upto_region 21 with (fail)
   have HX2:Hid ((V.setCell ⟨bx,2,none⟩ (.int .i64 m5)).heap[bx]? = some (.cells #[.int .i64 3,.int .i64 0,.int .i64 m5,.string ⟨#[]⟩,.int .i64 0,.int .i64 0,.int .i64 0] 59 (0,0))):=qS _ _ _ _ _ _ HXV.out;have HT2:Hid ((V.setCell ⟨bx,2,none⟩ (.int .i64 m5)).heap[w.heap.size]? = _):=(qO _ _ _ _ (by dsimp only;omega)).trans HTV.out;have HF2:Hid ((V.setCell ⟨bx,2,none⟩ (.int .i64 m5)).heap[bf]? = _):=(qO _ _ _ _ (by dsimp only;omega)).trans HFV.out;have HR2:Hid ((V.setCell ⟨bx,2,none⟩ (.int .i64 m5)).heap[br]? = _):=(qO _ _ _ _ (by dsimp only;omega)).trans HRV.out;have HA2:Hid (Below w.heap.size w (V.setCell ⟨bx,2,none⟩ (.int .i64 m5))):=HAV.out.setCell (by dsimp only;omega) _;have HG2:Hid ((V.setCell ⟨bx,2,none⟩ (.int .i64 m5)).cell? ⟨g8,0,none⟩=some (.int .i64 x1)):=(World.cell?_setCell_other _ _ _ _ (fun h9=>absurd (congrArg Addr.block h9) (show bx≠g8 by omega))).trans HGV.out;have hz2:w.heap.size+4≤(V.setCell ⟨bx,2,none⟩ (.int .i64 m5)).heap.size:=by simp;exact hzv
   generalize V.setCell ⟨bx,2,none⟩ (.int .i64 m5)=V2 at*;clear q1 c5' z0 f2' y2 HAV HTV HFV HRV HXV HGV HS3V hzv HNF;obtain⟨V,rfl⟩ : ∃ x:World,x=V2:=⟨_,rfl⟩
   obtain⟨HAV,HTV,HFV,HRV,HXV,HGV,hzv⟩:=And.intro HA2 (And.intro HT2 (And.intro HF2 (And.intro HR2 (And.intro HX2 (And.intro HG2 hz2)))));clear HA2 HT2 HF2 HR2 HX2 HG2 hz2;have HS3V:=qH (HS3.out V HAV.out)
   by_cases he2:er2=0
   case neg =>
    have h0':(er2==0)=false:=by simpa using he2
    have HRR:Hid (R=(noInc,1)):=by show _=_;rw[HQ.out,qR (.inr he2)]
    clear he2;go_upto_region 22 with (fail)
    refine wp_region_lit ?_;refine wpList_zero rfl rfl ?_;refine wpList_store_row rfl _ _ _ rfl br #[.int .i64 0,.int .i64 0,.int .i64 0,.string ⟨#[]⟩,.int .i64 0,.int .i64 0,.int .i64 0] (by simp[Act.eval,Act.put]) (by simp[Act.eval,Act.put]) _ _ HRV.out inc_info rfl (by simp[Value.oneCell']) ?_;have hr:=setRow_heap _ _ _ #[.int .i64 0,.int .i64 0,.int .i64 0,.string ⟨#[]⟩,.int .i64 0,.int .i64 0,.int .i64 0] _ _ HRV.out;have u0:=block_cell hr 0;have u1:=block_cell hr 1;have u2:=block_cell hr 2;have u3:=block_cell hr 3;have u4:=block_cell hr 4;have u5:=block_cell hr 5;have u6:=block_cell hr 6;have HAE:=qH (below_setRow HAV.out (b:=br) (cs := #[.int .i64 0,.int .i64 0,.int .i64 0,.string ⟨#[]⟩,.int .i64 0,.int .i64 0,.int .i64 0]) (by omega));clear hr;go_wp2_with fail
    refine bodyPost_ret (v:=.tuple #[.agg #[.int .i64 0,.int .i64 0,.int .i64 0,.string ⟨#[]⟩,.int .i64 0,.int .i64 0,.int .i64 0],.int .i64 1]) (by simp[results,Tryz.results62,go_sem,u0,u1,u2,u3,u4,u5,u6]) rfl ?_;rw[HRR.out];exact⟨rfl,HAE.out⟩
   subst he2;have q1:V.cell? ⟨bf,0,none⟩=some (.slice (some ⟨fb,o,none⟩) f.length c):=block_cell HFV.out 0;have c5':V.cell? ⟨fb,o+4,none⟩=some (.string f4):=HC.out V HAV.out 4 (by omega);have hxv:=HXV.out;have z0:V.cell? ⟨bx,0,none⟩=some (.int .i64 3):=block_cell hxv 0;have f3':=block_free hxv 3;have y3:=block_cell hxv 3;have j5:(4:Int)<(f.length:Int):=by omega
   clear hxv;go_upto_region 25 with (fail)
   have HX2:Hid ((V.setCell ⟨bx,3,none⟩ (.string f4)).heap[bx]? = some (.cells #[.int .i64 3,.int .i64 0,.int .i64 m5,.string f4,.int .i64 0,.int .i64 0,.int .i64 0] 59 (0,0))):=qS _ _ _ _ _ _ HXV.out;have HT2:Hid ((V.setCell ⟨bx,3,none⟩ (.string f4)).heap[w.heap.size]? = _):=(qO _ _ _ _ (by dsimp only;omega)).trans HTV.out;have HF2:Hid ((V.setCell ⟨bx,3,none⟩ (.string f4)).heap[bf]? = _):=(qO _ _ _ _ (by dsimp only;omega)).trans HFV.out;have HR2:Hid ((V.setCell ⟨bx,3,none⟩ (.string f4)).heap[br]? = _):=(qO _ _ _ _ (by dsimp only;omega)).trans HRV.out;have HA2:Hid (Below w.heap.size w (V.setCell ⟨bx,3,none⟩ (.string f4))):=HAV.out.setCell (by dsimp only;omega) _;have HG2:Hid ((V.setCell ⟨bx,3,none⟩ (.string f4)).cell? ⟨g8,0,none⟩=some (.int .i64 x1)):=(World.cell?_setCell_other _ _ _ _ (fun h9=>absurd (congrArg Addr.block h9) (show bx≠g8 by omega))).trans HGV.out;have hz2:w.heap.size+4≤(V.setCell ⟨bx,3,none⟩ (.string f4)).heap.size:=by simp;exact hzv
   generalize V.setCell ⟨bx,3,none⟩ (.string f4)=V2 at*;clear q1 c5' z0 f3' y3 HAV HTV HFV HRV HXV HGV HS3V hzv;obtain⟨V,rfl⟩ : ∃ x:World,x=V2:=⟨_,rfl⟩
   obtain⟨HAV,HTV,HFV,HRV,HXV,HGV,hzv⟩:=And.intro HA2 (And.intro HT2 (And.intro HF2 (And.intro HR2 (And.intro HX2 (And.intro HG2 hz2)))));clear HA2 HT2 HF2 HR2 HX2 HG2 hz2;have HS3V:=qH (HS3.out V HAV.out);rw[qN (by simp)]at HQ;have hxv:=HXV.out;have y0:=block_cell hxv 0;have y1:=block_cell hxv 1;have y2:=block_cell hxv 2;have y3:=block_cell hxv 3;have y4:=block_cell hxv 4;have y5:=block_cell hxv 5;have y6:=block_cell hxv 6;have k0:=block_free hxv 0;have k1:=block_free hxv 1;have k2:=block_free hxv 2;have k3:=block_free hxv 3;have k4:=block_free hxv 4;have k5:=block_free hxv 5;have k6:=block_free hxv 6;have HIX:=qH (indexFl_any t.flights A3 n3 c3 bf g8 f1 x1 V HS3V.out (some ⟨fb,o,none⟩) f.length c fb o rfl (block_cell HFV.out 0) (by omega) (HC.out V HAV.out 1 (by omega)) HGV.out);have t2:V.cell? ⟨w.heap.size,2,none⟩=some (.slice A3 n3 c3):=block_cell HTV.out 2;clear hxv;go_wp2_with fail
   refine HIX.out.mono ?_;rintro e w6 ⟨rfl,hb6⟩;clear HIX t2 y0 y1 y2 y3 y4 y5 y6 k0 k1 k2 k3 k4 k5 k6;have hA6:=HAV.out.trans (hb6.mono (by omega));have hx6:=(hb6.block (bx) (by omega)).trans HXV.out;have hr6:=(hb6.block (br) (by omega)).trans HRV.out;have HX6:=qH (qS _ _ 1 _ _ (.int .i64 (ixOpt (flAt t.flights f1 x1))) hx6);have HR6:=qH ((qO w6 ⟨bx,1,none⟩ br (.int .i64 (ixOpt (flAt t.flights f1 x1))) (show br≠bx by omega)).trans hr6);have HA6:Hid (Below w.heap.size w (w6.setCell ⟨bx,1,none⟩ (.int .i64 (ixOpt (flAt t.flights f1 x1))))):=hA6.setCell (by dsimp only;omega) _;have y1:=block_cell hx6 1;have k1:=block_free hx6 1;clear hb6 hx6 hr6 hA6 HAV HTV HFV HRV HXV HGV HS3V;go_upto_region 26 with (fail)
   generalize w6.setCell ⟨bx,1,none⟩ (.int .i64 (ixOpt (flAt t.flights f1 x1)))=W6 at*;clear y1 k1
   cases hfa:flAt t.flights f1 x1 with
   | none =>
    have hi:ixOpt none = -1:=rfl;rw[hfa,hi]at HX6;have y1:=block_cell HX6.out 1;have HRR:Hid (R=(noInc,6)):=by show _=_;rw[HQ.out];unfold onFl2;rw[hfa]
    clear hfa;go_upto_region 27 with (fail)
    refine wp_region_lit ?_;refine wpList_zero rfl rfl ?_;refine wpList_store_row rfl _ _ _ rfl br #[.int .i64 0,.int .i64 0,.int .i64 0,.string ⟨#[]⟩,.int .i64 0,.int .i64 0,.int .i64 0] (by simp[Act.eval,Act.put]) (by simp[Act.eval,Act.put]) _ _ HR6.out inc_info rfl (by simp[Value.oneCell']) ?_;have hr:=setRow_heap _ _ _ #[.int .i64 0,.int .i64 0,.int .i64 0,.string ⟨#[]⟩,.int .i64 0,.int .i64 0,.int .i64 0] _ _ HR6.out;have u0:=block_cell hr 0;have u1:=block_cell hr 1;have u2:=block_cell hr 2;have u3:=block_cell hr 3;have u4:=block_cell hr 4;have u5:=block_cell hr 5;have u6:=block_cell hr 6;have HAE:=qH (below_setRow HA6.out (b:=br) (cs := #[.int .i64 0,.int .i64 0,.int .i64 0,.string ⟨#[]⟩,.int .i64 0,.int .i64 0,.int .i64 0]) (by omega));clear hr;go_wp2_with fail
    refine bodyPost_ret (v:=.tuple #[.agg #[.int .i64 0,.int .i64 0,.int .i64 0,.string ⟨#[]⟩,.int .i64 0,.int .i64 0,.int .i64 0],.int .i64 6]) (by simp[results,Tryz.results62,go_sem,u0,u1,u2,u3,u4,u5,u6]) rfl ?_;rw[HRR.out];exact⟨rfl,HAE.out⟩
   | some i =>
    have HRR:Hid (R=(⟨3,i,m5,f4,0,noShift⟩,0)):=by show _=_;rw[HQ.out];unfold onFl2;rw[hfa]
    have hi:ixOpt (some i)=(i:Int):=rfl;rw[hfa,hi]at HX6;have y1:W6.cell? ⟨bx,1,none⟩=some (.int .i64 i):=block_cell HX6.out 1;clear hfa;go_upto_region 28 with (fail)
    refine wp_region_lit ?_;refine wpList_load_row rfl _ _ rfl bx (by simp[Act.eval]) _ _ _ _ HX6.out Tryz.underlying59 rfl inc_info ?_;refine wpList_store_row rfl _ _ _ rfl br #[.int .i64 3,.int .i64 i,.int .i64 m5,.string f4,.int .i64 0,.int .i64 0,.int .i64 0] (by simp[Act.eval,Act.put]) (by simp[Act.eval,Act.put]) _ _ HR6.out inc_info rfl (by simp[Value.oneCell']) ?_;have hr:=setRow_heap _ _ _ #[.int .i64 3,.int .i64 i,.int .i64 m5,.string f4,.int .i64 0,.int .i64 0,.int .i64 0] _ _ HR6.out;have u0:=block_cell hr 0;have u1:=block_cell hr 1;have u2:=block_cell hr 2;have u3:=block_cell hr 3;have u4:=block_cell hr 4;have u5:=block_cell hr 5;have u6:=block_cell hr 6;have HAE:=qH (below_setRow HA6.out (b:=br) (cs := #[.int .i64 3,.int .i64 i,.int .i64 m5,.string f4,.int .i64 0,.int .i64 0,.int .i64 0]) (by omega));clear hr y1;go_wp2_with fail
    refine bodyPost_ret (v:=.tuple #[.agg #[.int .i64 3,.int .i64 i,.int .i64 m5,.string f4,.int .i64 0,.int .i64 0,.int .i64 0],.int .i64 0]) (by simp[results,Tryz.results62,go_sem,u0,u1,u2,u3,u4,u5,u6]) rfl ?_;rw[HRR.out];exact⟨rfl,HAE.out⟩
 have hw3:=hw;clear hw
 by_cases hw:f0=sickS
 ·clear hw1 hw2 hw3
  as_aux_lemma =>
   rw[decide_eq_false (by rw[hw];exact words_ne.2.2.2.1)]at edelay;rw[decide_eq_false (by rw[hw];exact words_ne.2.2.2.2.1)]at ecancel;rw[decide_eq_false (by rw[hw];exact words_ne.2.2.2.2.2)]at edivert;rw[decide_eq_true hw]at esick;have HQ:Hid (R=if f.length≠6 then (noInc,1) else sickL f):=by
    show _=_;rw[HQL.out,qN (by rw[hw];exact words_ne.2.2.2.1),qN (by rw[hw];exact words_ne.2.2.2.2.1),qN (by rw[hw];exact words_ne.2.2.2.2.2),qR hw]
   clear HQL hw za z1 z2 z3 z4 z5
   by_cases hl:f.length=6
   case neg =>
    have hl':((f.length:Int) != 6)=true:=by simp;omega
    go_enter Tryz.func62,Tryz.ntmps62
    go_upto_region 3 with (fail)
    generalize ((((w.alloc (.cells #[.slice A1 n1 c1,.slice A2 n2 c2,.slice A3 n3 c3] 27)).alloc (.cells #[.slice (some ⟨fb,o,none⟩) f.length c] 36)).alloc (.cells #[.int .i64 0,.int .i64 0,.int .i64 0,.string ⟨#[]⟩,.int .i64 0,.int .i64 0,.int .i64 0] 59)).alloc (.cells #[.int .i64 0,.int .i64 0,.int .i64 0,.string ⟨#[]⟩,.int .i64 0,.int .i64 0,.int .i64 0] 59))=W at*;generalize hbx:w.heap.size+1+1+1=bx at*;generalize hbr:w.heap.size+1+1=br at*;generalize hbf:w.heap.size+1=bf at*;have hx:=HX.out;have z0:=block_cell hx 0;have f0':=block_free hx 0;have q0:W.cell? ⟨bf,0,none⟩=some (.slice (some ⟨fb,o,none⟩) f.length c):=block_cell HF.out 0;have c0:W.cell? ⟨fb,o,none⟩=some (.string f0):=HC.out W HA.out 0 (by omega);go_upto_region 12 with (fail)
    have HX1:Hid ((W.setCell ⟨bx,0,none⟩ (.int .i64 4)).heap[bx]? = some (.cells #[.int .i64 4,.int .i64 0,.int .i64 0,.string ⟨#[]⟩,.int .i64 0,.int .i64 0,.int .i64 0] 59 (0,0))):=qS _ _ _ _ _ _ hx;have HT1:Hid ((W.setCell ⟨bx,0,none⟩ (.int .i64 4)).heap[w.heap.size]? = _):=(qO _ _ _ _ (by dsimp only;omega)).trans HT.out;have HF1:Hid ((W.setCell ⟨bx,0,none⟩ (.int .i64 4)).heap[bf]? = _):=(qO _ _ _ _ (by dsimp only;omega)).trans HF.out;have HR1:Hid ((W.setCell ⟨bx,0,none⟩ (.int .i64 4)).heap[br]? = _):=(qO _ _ _ _ (by dsimp only;omega)).trans HR.out;have HA1:Hid (Below w.heap.size w (W.setCell ⟨bx,0,none⟩ (.int .i64 4))):=HA.out.setCell (by dsimp only;omega) _;have hz1:w.heap.size+4≤(W.setCell ⟨bx,0,none⟩ (.int .i64 4)).heap.size:=by simp;exact HZ.out
    generalize W.setCell ⟨bx,0,none⟩ (.int .i64 4)=W1 at*;have q1:W1.cell? ⟨bf,0,none⟩=some (.slice (some ⟨fb,o,none⟩) f.length c):=block_cell HF1.out 0;clear hx z0 f0' q0 c0 HX HT HF HR HA HZ;have HRR:Hid (R=(noInc,1)):=by show _=_;rw[HQ.out,qR hl]
    clear hl;go_upto_region 13 with (fail)
    refine wp_region_lit ?_;refine wpList_zero rfl rfl ?_;refine wpList_store_row rfl _ _ _ rfl br #[.int .i64 0,.int .i64 0,.int .i64 0,.string ⟨#[]⟩,.int .i64 0,.int .i64 0,.int .i64 0] (by simp[Act.eval,Act.put]) (by simp[Act.eval,Act.put]) _ _ HR1.out inc_info rfl (by simp[Value.oneCell']) ?_;have hr:=setRow_heap _ _ _ #[.int .i64 0,.int .i64 0,.int .i64 0,.string ⟨#[]⟩,.int .i64 0,.int .i64 0,.int .i64 0] _ _ HR1.out;have u0:=block_cell hr 0;have u1:=block_cell hr 1;have u2:=block_cell hr 2;have u3:=block_cell hr 3;have u4:=block_cell hr 4;have u5:=block_cell hr 5;have u6:=block_cell hr 6;have HAE:=qH (below_setRow HA1.out (b:=br) (cs := #[.int .i64 0,.int .i64 0,.int .i64 0,.string ⟨#[]⟩,.int .i64 0,.int .i64 0,.int .i64 0]) (by omega));clear hr;go_wp2_with fail
    refine bodyPost_ret (v:=.tuple #[.agg #[.int .i64 0,.int .i64 0,.int .i64 0,.string ⟨#[]⟩,.int .i64 0,.int .i64 0,.int .i64 0],.int .i64 1]) (by simp[results,Tryz.results62,go_sem,u0,u1,u2,u3,u4,u5,u6]) rfl ?_;rw[HRR.out];exact⟨rfl,HAE.out⟩
   have hl':((f.length:Int) != 6)=false:=by simp;omega
   rw[qN (by omega)]at HQ;have HL6:=qH hl;clear hl
   go_enter Tryz.func62,Tryz.ntmps62
   go_upto_region 3 with (fail)
   generalize ((((w.alloc (.cells #[.slice A1 n1 c1,.slice A2 n2 c2,.slice A3 n3 c3] 27)).alloc (.cells #[.slice (some ⟨fb,o,none⟩) f.length c] 36)).alloc (.cells #[.int .i64 0,.int .i64 0,.int .i64 0,.string ⟨#[]⟩,.int .i64 0,.int .i64 0,.int .i64 0] 59)).alloc (.cells #[.int .i64 0,.int .i64 0,.int .i64 0,.string ⟨#[]⟩,.int .i64 0,.int .i64 0,.int .i64 0] 59))=W at*;generalize hbx:w.heap.size+1+1+1=bx at*;generalize hbr:w.heap.size+1+1=br at*;generalize hbf:w.heap.size+1=bf at*;have hx:=HX.out;have z0:=block_cell hx 0;have f0':=block_free hx 0;have q0:W.cell? ⟨bf,0,none⟩=some (.slice (some ⟨fb,o,none⟩) f.length c):=block_cell HF.out 0;have c0:W.cell? ⟨fb,o,none⟩=some (.string f0):=HC.out W HA.out 0 (by omega);go_upto_region 12 with (fail)
   have HX1:Hid ((W.setCell ⟨bx,0,none⟩ (.int .i64 4)).heap[bx]? = some (.cells #[.int .i64 4,.int .i64 0,.int .i64 0,.string ⟨#[]⟩,.int .i64 0,.int .i64 0,.int .i64 0] 59 (0,0))):=qS _ _ _ _ _ _ hx;have HT1:Hid ((W.setCell ⟨bx,0,none⟩ (.int .i64 4)).heap[w.heap.size]? = _):=(qO _ _ _ _ (by dsimp only;omega)).trans HT.out;have HF1:Hid ((W.setCell ⟨bx,0,none⟩ (.int .i64 4)).heap[bf]? = _):=(qO _ _ _ _ (by dsimp only;omega)).trans HF.out;have HR1:Hid ((W.setCell ⟨bx,0,none⟩ (.int .i64 4)).heap[br]? = _):=(qO _ _ _ _ (by dsimp only;omega)).trans HR.out;have HA1:Hid (Below w.heap.size w (W.setCell ⟨bx,0,none⟩ (.int .i64 4))):=HA.out.setCell (by dsimp only;omega) _;have hz1:w.heap.size+4≤(W.setCell ⟨bx,0,none⟩ (.int .i64 4)).heap.size:=by simp;exact HZ.out
   generalize W.setCell ⟨bx,0,none⟩ (.int .i64 4)=W1 at*;have q1:W1.cell? ⟨bf,0,none⟩=some (.slice (some ⟨fb,o,none⟩) f.length c):=block_cell HF1.out 0;clear hx z0 f0' q0 c0 HX HT HF HR HA HZ;have HS:=qH (parseSick_any f (some ⟨fb,o,none⟩) f.length c W1 (HFS.out W1 HA1.out) HL6.out HFZ.out);have z0:W1.cell? ⟨bx,0,none⟩=some (.int .i64 4):=block_cell HX1.out 0;go_upto_region 15 with (fail)
   refine wp_region_lit ?_;refine wpList_load_row rfl _ _ rfl bx (by simp[Act.eval]) _ _ _ _ HX1.out Tryz.underlying59 rfl inc_info ?_;refine qP rfl fun K9 hK9 =>?_
   go_simp
   refine hK9 _ _ ?_;clear hK9;refine qP rfl fun K9 hK9 =>?_
   go_simp
   go_at_call 98
   refine HS.out.mono ?_;rintro e w6 ⟨rfl,hb6⟩;refine hK9 _ _ ?_;clear hK9;have HR6:Hid (w6.heap[br]? = _):=(hb6.block br (by omega)).trans HR1.out;have HA6:Hid (Below w.heap.size w w6):=HA1.out.trans (hb6.mono (by omega));clear HS hb6 q1 z0;unfold incVal;rw[←HQ.out];generalize R=R' at*;obtain⟨⟨rk,rf,rm,ra,rp,⟨r1,r2⟩⟩,re⟩:=R';refine qP rfl fun K9 hK9 =>?_
   go_simp
   refine hK9 _ _ ?_;clear hK9;refine qP rfl fun K9 hK9 =>?_
   go_simp
   refine hK9 _ _ ?_;clear hK9;refine wpList_store_row rfl _ _ _ rfl br #[.int .i64 rk,.int .i64 rf,.int .i64 rm,.string ra,.int .i64 rp,.int .i64 r1,.int .i64 r2] (by simp[Act.eval,Act.put]) (by simp[Act.eval,Act.put]) _ _ HR6.out inc_info rfl (by simp[Value.oneCell']) ?_;have hr:=setRow_heap _ _ _ #[.int .i64 rk,.int .i64 rf,.int .i64 rm,.string ra,.int .i64 rp,.int .i64 r1,.int .i64 r2] _ _ HR6.out;have u0:=block_cell hr 0;have u1:=block_cell hr 1;have u2:=block_cell hr 2;have u3:=block_cell hr 3;have u4:=block_cell hr 4;have u5:=block_cell hr 5;have u6:=block_cell hr 6;have HAE:=qH (below_setRow HA6.out (b:=br) (cs := #[.int .i64 rk,.int .i64 rf,.int .i64 rm,.string ra,.int .i64 rp,.int .i64 r1,.int .i64 r2]) (by omega));clear hr;go_wp2_with fail
   refine bodyPost_ret (v:=.tuple #[.agg #[.int .i64 rk,.int .i64 rf,.int .i64 rm,.string ra,.int .i64 rp,.int .i64 r1,.int .i64 r2],.int .i64 re]) (by simp[results,Tryz.results62,go_sem,u0,u1,u2,u3,u4,u5,u6]) rfl ?_;exact⟨rfl,HAE.out⟩
 have hw4:=hw;clear hw;rw[decide_eq_false hw1]at edelay;rw[decide_eq_false hw2]at ecancel;rw[decide_eq_false hw3]at edivert;rw[decide_eq_false hw4]at esick;have HQ:Hid (R=(noInc,1)):=by
  show _=_;rw[HQL.out,qN hw1,qN hw2,qN hw3,qN hw4]
 clear HQL hw1 hw2 hw3 hw4 za z1 z2 z3 z4 z5
 go_enter Tryz.func62,Tryz.ntmps62
 go_upto_region 3 with (fail)
 generalize ((((w.alloc (.cells #[.slice A1 n1 c1,.slice A2 n2 c2,.slice A3 n3 c3] 27)).alloc (.cells #[.slice (some ⟨fb,o,none⟩) f.length c] 36)).alloc (.cells #[.int .i64 0,.int .i64 0,.int .i64 0,.string ⟨#[]⟩,.int .i64 0,.int .i64 0,.int .i64 0] 59)).alloc (.cells #[.int .i64 0,.int .i64 0,.int .i64 0,.string ⟨#[]⟩,.int .i64 0,.int .i64 0,.int .i64 0] 59))=W at*;generalize hbx:w.heap.size+1+1+1=bx at*;generalize hbr:w.heap.size+1+1=br at*;generalize hbf:w.heap.size+1=bf at*;have hx:=HX.out;have z0:=block_cell hx 0;have f0':=block_free hx 0;have q0:W.cell? ⟨bf,0,none⟩=some (.slice (some ⟨fb,o,none⟩) f.length c):=block_cell HF.out 0;have c0:W.cell? ⟨fb,o,none⟩=some (.string f0):=HC.out W HA.out 0 (by omega);have HRR:Hid (R=(noInc,1)):=by show _=_;rw[HQ.out]
 go_upto_region 13 with (fail)
 refine wp_region_lit ?_;refine wpList_zero rfl rfl ?_;refine wpList_store_row rfl _ _ _ rfl br #[.int .i64 0,.int .i64 0,.int .i64 0,.string ⟨#[]⟩,.int .i64 0,.int .i64 0,.int .i64 0] (by simp[Act.eval,Act.put]) (by simp[Act.eval,Act.put]) _ _ HR.out inc_info rfl (by simp[Value.oneCell']) ?_;have hr:=setRow_heap _ _ _ #[.int .i64 0,.int .i64 0,.int .i64 0,.string ⟨#[]⟩,.int .i64 0,.int .i64 0,.int .i64 0] _ _ HR.out;have u0:=block_cell hr 0;have u1:=block_cell hr 1;have u2:=block_cell hr 2;have u3:=block_cell hr 3;have u4:=block_cell hr 4;have u5:=block_cell hr 5;have u6:=block_cell hr 6;have HAE:=qH (below_setRow HA.out (b:=br) (cs := #[.int .i64 0,.int .i64 0,.int .i64 0,.string ⟨#[]⟩,.int .i64 0,.int .i64 0,.int .i64 0]) (by omega));clear hr;go_wp2_with fail
 refine bodyPost_ret (v:=.tuple #[.agg #[.int .i64 0,.int .i64 0,.int .i64 0,.string ⟨#[]⟩,.int .i64 0,.int .i64 0,.int .i64 0],.int .i64 1]) (by simp[results,Tryz.results62,go_sem,u0,u1,u2,u3,u4,u5,u6]) rfl ?_;rw[HRR.out];exact⟨rfl,HAE.out⟩
end Go.Proofs.YtifconapjfdkcaaGreatDoor
