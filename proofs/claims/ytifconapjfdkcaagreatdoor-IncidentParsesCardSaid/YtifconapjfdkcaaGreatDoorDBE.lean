/-
  Joined texts: Contract; DataCon; Prob. What each proves stands ahead of it, with its conditions.
-/
import Derived.Test.YtifconapjfdkcaaGreatDoorDAA
import Derived.Test.YtifconapjfdkcaaGreatDoorDAZ
import Derived.Test.YtifconapjfdkcaaGreatDoorDBA
import Derived.Test.YtifconapjfdkcaaGreatDoorDBD
import Derived.Deep.DeepCutAuto
import Derived.Deep.CutBlock
import Derived.Laws.Tables
import Derived.Laws.Rows
import Derived.Deep.QuietTactic
set_option linter.unusedSimpArgs false
set_option linter.unusedVariables false
set_option maxRecDepth 100000
set_option maxHeartbeats 12800000
namespace Go.Proofs.YtifconapjfdkcaaGreatDoor
section
open Go.RowKit Go
theorem follows_ok:Tryz.prog.follows .mixedOrders=true:=by kernel_rfl
theorem con_read0(w:World):Calls Tryz.prog 66 #[.string conS0] w (ConRead w):=con_read con0_eq con0_ok follows_ok w
theorem con_read1(w:World):Calls Tryz.prog 66 #[.string conS1] w (ConRead w):=con_read con1_eq con1_ok follows_ok w
theorem con_read2(w:World):Calls Tryz.prog 66 #[.string conS2] w (ConRead w):=con_read con2_eq con2_ok follows_ok w
theorem con_read3(w:World):Calls Tryz.prog 66 #[.string conS3] w (ConRead w):=con_read con3_eq con3_ok follows_ok w
theorem con_read4(w:World):Calls Tryz.prog 66 #[.string conS4] w (ConRead w):=con_read con4_eq con4_ok follows_ok w
theorem con_read5(w:World):Calls Tryz.prog 66 #[.string conS5] w (ConRead w):=con_read con5_eq con5_ok follows_ok w
end
section
open Go.RowKit
theorem below_setRowC{w w':World}{n b:Nat}{cs:Array Value}(h:Below n w w')(hb:n≤b):Below n w (w'.setRow b cs) :=
 ⟨h.os,h.tape,h.output,by simpa using h.size,fun q hq=>(setRow_other _ _ _ _ (by omega)).trans (h.block q hq)⟩
def ConPost(w:World)(e:Ending)(w':World):Prop := ∃ cs,ConCells cs∧e=.returned (.agg cs.toArray)∧Below w.heap.size w w'
theorem dataContract_any(n:Int)(w:World)(h0:0≤n)(h1:n≤9223372036854775807):Calls Tryz.prog 34 #[.int .i64 n] w (ConPost w):=by
 have hr:n%6=0∨n%6=1∨n%6=2∨n%6=3∨n%6=4∨n%6=5:=by omega
 rcases hr with hr|hr|hr|hr|hr|hr
 ·have h8:n.tmod 6=0:=by rw[qQ h0];exact hr
  have hq:IntKind.i64.wrap (0:Int)=0:=qM _ (by omega);clear hr h0
  go_enter Tryz.func34,Tryz.ntmps34
  go_upto_region 1 with (fail)
  have HA:Hid (Below w.heap.size w (w.alloc (.cells #[.int .i64 0,.int .i64 0,.int .i64 0,.int .i64 0,.int .i64 0,.int .i64 0,.int .i64 0,.slice none 0 0,.slice none 0 0,.slice none 0 0,.slice none 0 0,.slice none 0 0,.slice none 0 0,.int .i64 0] 35))):=(qC _ _).alloc (qD _) _;have HR:Hid ((w.alloc (.cells #[.int .i64 0,.int .i64 0,.int .i64 0,.int .i64 0,.int .i64 0,.int .i64 0,.int .i64 0,.slice none 0 0,.slice none 0 0,.slice none 0 0,.slice none 0 0,.slice none 0 0,.slice none 0 0,.int .i64 0] 35)).heap[w.heap.size]? = some (.cells #[.int .i64 0,.int .i64 0,.int .i64 0,.int .i64 0,.int .i64 0,.int .i64 0,.int .i64 0,.slice none 0 0,.slice none 0 0,.slice none 0 0,.slice none 0 0,.slice none 0 0,.slice none 0 0,.int .i64 0] 35 (0,0))):=qK _ _;generalize w.alloc (.cells #[.int .i64 0,.int .i64 0,.int .i64 0,.int .i64 0,.int .i64 0,.int .i64 0,.int .i64 0,.slice none 0 0,.slice none 0 0,.slice none 0 0,.slice none 0 0,.slice none 0 0,.slice none 0 0,.int .i64 0] 35)=W at*;go_cut [3] (fun s wx=>s=.string conS0∧wx=W)
  case first =>
   go_wp2_with fail
   go_meet
   exact⟨congrArg Value.string (by kernel_rfl),rfl⟩
  case rest =>
  obtain⟨rfl,rfl⟩:=hcut;go_upto_region 13 with (fail)
  refine wp_region_lit ?_;refine qP rfl fun K9 hK9 =>?_
  go_simp
  refine hK9 _ _ ?_;clear hK9;refine qP rfl fun K9 hK9 =>?_
  go_simp
  go_at_call 66
  refine(con_read0 _).mono ?_;rintro e w2 ⟨cs,hcs,rfl,hb2⟩;refine hK9 _ _ ?_;clear hK9;have HA2:Hid (Below w.heap.size w w2):=HA.out.trans (hb2.mono HA.out.size);have hwl:=(Array.getElem?_eq_some_iff.1 HR.out).1;have HR2:Hid (w2.heap[w.heap.size]? = _):=(hb2.block _ hwl).trans HR.out;have hwl2:w.heap.size<w2.heap.size:=by have:=hb2.size;omega
  clear hb2 HA HR hwl;refine qP rfl fun K9 hK9 =>?_
  go_simp
  refine hK9 _ _ ?_;clear hK9;refine qP rfl fun K9 hK9 =>?_
  go_simp
  refine hK9 _ _ ?_;clear hK9;refine qP rfl fun K9 hK9 =>?_
  go_simp
  refine hK9 _ _ ?_;clear hK9;refine qP rfl fun K9 hK9 =>?_
  go_simp
  refine hK9 _ _ ?_;clear hK9;refine qP rfl fun K9 hK9 =>?_
  go_simp
  refine hK9 _ _ ?_;clear hK9;have HX3:=qH (qK w2 (.cells #[.int .i64 0,.int .i64 0,.int .i64 0,.int .i64 0,.int .i64 0,.int .i64 0,.int .i64 0,.slice none 0 0,.slice none 0 0,.slice none 0 0,.slice none 0 0,.slice none 0 0,.slice none 0 0,.int .i64 0] 35));have HA3:Hid (Below w.heap.size w (w2.alloc (.cells #[.int .i64 0,.int .i64 0,.int .i64 0,.int .i64 0,.int .i64 0,.int .i64 0,.int .i64 0,.slice none 0 0,.slice none 0 0,.slice none 0 0,.slice none 0 0,.slice none 0 0,.slice none 0 0,.int .i64 0] 35))):=HA2.out.alloc HA2.out.size _;have HR3:Hid ((w2.alloc (.cells #[.int .i64 0,.int .i64 0,.int .i64 0,.int .i64 0,.int .i64 0,.int .i64 0,.int .i64 0,.slice none 0 0,.slice none 0 0,.slice none 0 0,.slice none 0 0,.slice none 0 0,.slice none 0 0,.int .i64 0] 35)).heap[w.heap.size]? = _):=(Below.heap_alloc _ _ _ hwl2).trans HR2.out;generalize w2.alloc (.cells #[.int .i64 0,.int .i64 0,.int .i64 0,.int .i64 0,.int .i64 0,.int .i64 0,.int .i64 0,.slice none 0 0,.slice none 0 0,.slice none 0 0,.slice none 0 0,.slice none 0 0,.slice none 0 0,.int .i64 0] 35)=w3 at*;generalize w2.heap.size=bc at*;have HCS:=qH hcs;have hone:cs.toArray.all (·.oneCell')=true:=by
   rw[Array.all_eq_true];intro i hi;exact hcs.2 _ (by simp)
  have hlen:cs.toArray.size=14:=by simpa using hcs.1
  clear hcs HA2 HR2;refine wpList_store_row rfl _ _ _ rfl bc cs.toArray (by simp[Act.eval,Act.put]) (by simp[Act.eval,Act.put]) _ _ HX3.out (by rw[hlen];kernel_rfl) (by rw[hlen];rfl) hone ?_;have HX4:=qH (setRow_heap _ _ _ cs.toArray _ _ HX3.out);have HA4:=qH (below_setRowC HA3.out (b:=bc) (cs:=cs.toArray) (by omega));have HR4:=qH ((setRow_other w3 bc w.heap.size cs.toArray (by omega)).trans HR3.out);generalize w3.setRow bc cs.toArray=w4 at*;clear HX3 HA3 HR3;go_upto_region 14 with (fail)
  refine wp_region_lit ?_;refine wpList_load_row rfl _ _ rfl bc (by simp[Act.eval]) _ _ _ _ HX4.out Tryz.underlying35 rfl (by rw[hlen];kernel_rfl) ?_;refine wpList_store_row rfl _ _ _ rfl w.heap.size cs.toArray (by simp[Act.eval,Act.put]) (by simp[Act.eval,Act.put]) _ _ HR4.out (by rw[hlen];kernel_rfl) (by rw[hlen];rfl) hone ?_;have HX5:=qH (setRow_heap _ _ _ cs.toArray _ _ HR4.out);have HA5:=qH (below_setRowC HA4.out (b:=w.heap.size) (cs:=cs.toArray) (qD _));generalize w4.setRow w.heap.size cs.toArray=w5 at*;clear HX4 HA4 HR4;go_wp2_with fail
  refine bodyPost_ret (v:=.agg cs.toArray) (results_cell_row Tryz.results34 _ _ w.heap.size _ _ _ _ (by simp[Act.put]) HX5.out Tryz.underlying35 rfl (by rw[hlen];kernel_rfl)) rfl ?_;exact⟨cs,HCS.out,rfl,HA5.out⟩
 ·have h8:n.tmod 6=1:=by rw[qQ h0];exact hr
  have hq:IntKind.i64.wrap (1:Int)=1:=qM _ (by omega);clear hr h0
  go_enter Tryz.func34,Tryz.ntmps34
  go_upto_region 1 with (fail)
  have HA:Hid (Below w.heap.size w (w.alloc (.cells #[.int .i64 0,.int .i64 0,.int .i64 0,.int .i64 0,.int .i64 0,.int .i64 0,.int .i64 0,.slice none 0 0,.slice none 0 0,.slice none 0 0,.slice none 0 0,.slice none 0 0,.slice none 0 0,.int .i64 0] 35))):=(qC _ _).alloc (qD _) _;have HR:Hid ((w.alloc (.cells #[.int .i64 0,.int .i64 0,.int .i64 0,.int .i64 0,.int .i64 0,.int .i64 0,.int .i64 0,.slice none 0 0,.slice none 0 0,.slice none 0 0,.slice none 0 0,.slice none 0 0,.slice none 0 0,.int .i64 0] 35)).heap[w.heap.size]? = some (.cells #[.int .i64 0,.int .i64 0,.int .i64 0,.int .i64 0,.int .i64 0,.int .i64 0,.int .i64 0,.slice none 0 0,.slice none 0 0,.slice none 0 0,.slice none 0 0,.slice none 0 0,.slice none 0 0,.int .i64 0] 35 (0,0))):=qK _ _;generalize w.alloc (.cells #[.int .i64 0,.int .i64 0,.int .i64 0,.int .i64 0,.int .i64 0,.int .i64 0,.int .i64 0,.slice none 0 0,.slice none 0 0,.slice none 0 0,.slice none 0 0,.slice none 0 0,.slice none 0 0,.int .i64 0] 35)=W at*;go_cut [3] (fun s wx=>s=.string conS0∧wx=W)
  case first =>
   go_wp2_with fail
   go_meet
   exact⟨congrArg Value.string (by kernel_rfl),rfl⟩
  case rest =>
  obtain⟨rfl,rfl⟩:=hcut;go_upto_block 0 with (fail)
  go_cut [3] (fun s wx=>s=.string conS1∧wx=wc)
  case first =>
   go_wp2_with fail
   go_meet
   exact⟨congrArg Value.string (by kernel_rfl),rfl⟩
  case rest =>
  obtain⟨rfl,rfl⟩:=hcut;go_upto_region 13 with (fail)
  refine wp_region_lit ?_;refine qP rfl fun K9 hK9 =>?_
  go_simp
  refine hK9 _ _ ?_;clear hK9;refine qP rfl fun K9 hK9 =>?_
  go_simp
  go_at_call 66
  refine(con_read1 _).mono ?_;rintro e w2 ⟨cs,hcs,rfl,hb2⟩;refine hK9 _ _ ?_;clear hK9;have HA2:Hid (Below w.heap.size w w2):=HA.out.trans (hb2.mono HA.out.size);have hwl:=(Array.getElem?_eq_some_iff.1 HR.out).1;have HR2:Hid (w2.heap[w.heap.size]? = _):=(hb2.block _ hwl).trans HR.out;have hwl2:w.heap.size<w2.heap.size:=by have:=hb2.size;omega
  clear hb2 HA HR hwl;refine qP rfl fun K9 hK9 =>?_
  go_simp
  refine hK9 _ _ ?_;clear hK9;refine qP rfl fun K9 hK9 =>?_
  go_simp
  refine hK9 _ _ ?_;clear hK9;refine qP rfl fun K9 hK9 =>?_
  go_simp
  refine hK9 _ _ ?_;clear hK9;refine qP rfl fun K9 hK9 =>?_
  go_simp
  refine hK9 _ _ ?_;clear hK9;refine qP rfl fun K9 hK9 =>?_
  go_simp
  refine hK9 _ _ ?_;clear hK9;have HX3:=qH (qK w2 (.cells #[.int .i64 0,.int .i64 0,.int .i64 0,.int .i64 0,.int .i64 0,.int .i64 0,.int .i64 0,.slice none 0 0,.slice none 0 0,.slice none 0 0,.slice none 0 0,.slice none 0 0,.slice none 0 0,.int .i64 0] 35));have HA3:Hid (Below w.heap.size w (w2.alloc (.cells #[.int .i64 0,.int .i64 0,.int .i64 0,.int .i64 0,.int .i64 0,.int .i64 0,.int .i64 0,.slice none 0 0,.slice none 0 0,.slice none 0 0,.slice none 0 0,.slice none 0 0,.slice none 0 0,.int .i64 0] 35))):=HA2.out.alloc HA2.out.size _;have HR3:Hid ((w2.alloc (.cells #[.int .i64 0,.int .i64 0,.int .i64 0,.int .i64 0,.int .i64 0,.int .i64 0,.int .i64 0,.slice none 0 0,.slice none 0 0,.slice none 0 0,.slice none 0 0,.slice none 0 0,.slice none 0 0,.int .i64 0] 35)).heap[w.heap.size]? = _):=(Below.heap_alloc _ _ _ hwl2).trans HR2.out;generalize w2.alloc (.cells #[.int .i64 0,.int .i64 0,.int .i64 0,.int .i64 0,.int .i64 0,.int .i64 0,.int .i64 0,.slice none 0 0,.slice none 0 0,.slice none 0 0,.slice none 0 0,.slice none 0 0,.slice none 0 0,.int .i64 0] 35)=w3 at*;generalize w2.heap.size=bc at*;have HCS:=qH hcs;have hone:cs.toArray.all (·.oneCell')=true:=by
   rw[Array.all_eq_true];intro i hi;exact hcs.2 _ (by simp)
  have hlen:cs.toArray.size=14:=by simpa using hcs.1
  clear hcs HA2 HR2;refine wpList_store_row rfl _ _ _ rfl bc cs.toArray (by simp[Act.eval,Act.put]) (by simp[Act.eval,Act.put]) _ _ HX3.out (by rw[hlen];kernel_rfl) (by rw[hlen];rfl) hone ?_;have HX4:=qH (setRow_heap _ _ _ cs.toArray _ _ HX3.out);have HA4:=qH (below_setRowC HA3.out (b:=bc) (cs:=cs.toArray) (by omega));have HR4:=qH ((setRow_other w3 bc w.heap.size cs.toArray (by omega)).trans HR3.out);generalize w3.setRow bc cs.toArray=w4 at*;clear HX3 HA3 HR3;go_upto_region 14 with (fail)
  refine wp_region_lit ?_;refine wpList_load_row rfl _ _ rfl bc (by simp[Act.eval]) _ _ _ _ HX4.out Tryz.underlying35 rfl (by rw[hlen];kernel_rfl) ?_;refine wpList_store_row rfl _ _ _ rfl w.heap.size cs.toArray (by simp[Act.eval,Act.put]) (by simp[Act.eval,Act.put]) _ _ HR4.out (by rw[hlen];kernel_rfl) (by rw[hlen];rfl) hone ?_;have HX5:=qH (setRow_heap _ _ _ cs.toArray _ _ HR4.out);have HA5:=qH (below_setRowC HA4.out (b:=w.heap.size) (cs:=cs.toArray) (qD _));generalize w4.setRow w.heap.size cs.toArray=w5 at*;clear HX4 HA4 HR4;go_wp2_with fail
  refine bodyPost_ret (v:=.agg cs.toArray) (results_cell_row Tryz.results34 _ _ w.heap.size _ _ _ _ (by simp[Act.put]) HX5.out Tryz.underlying35 rfl (by rw[hlen];kernel_rfl)) rfl ?_;exact⟨cs,HCS.out,rfl,HA5.out⟩
 ·have h8:n.tmod 6=2:=by rw[qQ h0];exact hr
  have hq:IntKind.i64.wrap (2:Int)=2:=qM _ (by omega);clear hr h0
  go_enter Tryz.func34,Tryz.ntmps34
  go_upto_region 1 with (fail)
  have HA:Hid (Below w.heap.size w (w.alloc (.cells #[.int .i64 0,.int .i64 0,.int .i64 0,.int .i64 0,.int .i64 0,.int .i64 0,.int .i64 0,.slice none 0 0,.slice none 0 0,.slice none 0 0,.slice none 0 0,.slice none 0 0,.slice none 0 0,.int .i64 0] 35))):=(qC _ _).alloc (qD _) _;have HR:Hid ((w.alloc (.cells #[.int .i64 0,.int .i64 0,.int .i64 0,.int .i64 0,.int .i64 0,.int .i64 0,.int .i64 0,.slice none 0 0,.slice none 0 0,.slice none 0 0,.slice none 0 0,.slice none 0 0,.slice none 0 0,.int .i64 0] 35)).heap[w.heap.size]? = some (.cells #[.int .i64 0,.int .i64 0,.int .i64 0,.int .i64 0,.int .i64 0,.int .i64 0,.int .i64 0,.slice none 0 0,.slice none 0 0,.slice none 0 0,.slice none 0 0,.slice none 0 0,.slice none 0 0,.int .i64 0] 35 (0,0))):=qK _ _;generalize w.alloc (.cells #[.int .i64 0,.int .i64 0,.int .i64 0,.int .i64 0,.int .i64 0,.int .i64 0,.int .i64 0,.slice none 0 0,.slice none 0 0,.slice none 0 0,.slice none 0 0,.slice none 0 0,.slice none 0 0,.int .i64 0] 35)=W at*;go_cut [3] (fun s wx=>s=.string conS0∧wx=W)
  case first =>
   go_wp2_with fail
   go_meet
   exact⟨congrArg Value.string (by kernel_rfl),rfl⟩
  case rest =>
  obtain⟨rfl,rfl⟩:=hcut;have hsz:conS0.size=186:=by kernel_rfl
  go_upto_block 0 with (fail)
  go_cut [3] (fun s wx=>s=.string conS2∧wx=wc)
  case first =>
   go_wp2_with fail
   go_meet
   exact⟨congrArg Value.string (by kernel_rfl),rfl⟩
  case rest =>
  obtain⟨rfl,rfl⟩:=hcut;go_upto_region 13 with (fail)
  refine wp_region_lit ?_;refine qP rfl fun K9 hK9 =>?_
  go_simp
  refine hK9 _ _ ?_;clear hK9;refine qP rfl fun K9 hK9 =>?_
  go_simp
  go_at_call 66
  refine(con_read2 _).mono ?_;rintro e w2 ⟨cs,hcs,rfl,hb2⟩;refine hK9 _ _ ?_;clear hK9;have HA2:Hid (Below w.heap.size w w2):=HA.out.trans (hb2.mono HA.out.size);have hwl:=(Array.getElem?_eq_some_iff.1 HR.out).1;have HR2:Hid (w2.heap[w.heap.size]? = _):=(hb2.block _ hwl).trans HR.out;have hwl2:w.heap.size<w2.heap.size:=by have:=hb2.size;omega
  clear hb2 HA HR hwl;refine qP rfl fun K9 hK9 =>?_
  go_simp
  refine hK9 _ _ ?_;clear hK9;refine qP rfl fun K9 hK9 =>?_
  go_simp
  refine hK9 _ _ ?_;clear hK9;refine qP rfl fun K9 hK9 =>?_
  go_simp
  refine hK9 _ _ ?_;clear hK9;refine qP rfl fun K9 hK9 =>?_
  go_simp
  refine hK9 _ _ ?_;clear hK9;refine qP rfl fun K9 hK9 =>?_
  go_simp
  refine hK9 _ _ ?_;clear hK9;have HX3:=qH (qK w2 (.cells #[.int .i64 0,.int .i64 0,.int .i64 0,.int .i64 0,.int .i64 0,.int .i64 0,.int .i64 0,.slice none 0 0,.slice none 0 0,.slice none 0 0,.slice none 0 0,.slice none 0 0,.slice none 0 0,.int .i64 0] 35));have HA3:Hid (Below w.heap.size w (w2.alloc (.cells #[.int .i64 0,.int .i64 0,.int .i64 0,.int .i64 0,.int .i64 0,.int .i64 0,.int .i64 0,.slice none 0 0,.slice none 0 0,.slice none 0 0,.slice none 0 0,.slice none 0 0,.slice none 0 0,.int .i64 0] 35))):=HA2.out.alloc HA2.out.size _;have HR3:Hid ((w2.alloc (.cells #[.int .i64 0,.int .i64 0,.int .i64 0,.int .i64 0,.int .i64 0,.int .i64 0,.int .i64 0,.slice none 0 0,.slice none 0 0,.slice none 0 0,.slice none 0 0,.slice none 0 0,.slice none 0 0,.int .i64 0] 35)).heap[w.heap.size]? = _):=(Below.heap_alloc _ _ _ hwl2).trans HR2.out;generalize w2.alloc (.cells #[.int .i64 0,.int .i64 0,.int .i64 0,.int .i64 0,.int .i64 0,.int .i64 0,.int .i64 0,.slice none 0 0,.slice none 0 0,.slice none 0 0,.slice none 0 0,.slice none 0 0,.slice none 0 0,.int .i64 0] 35)=w3 at*;generalize w2.heap.size=bc at*;have HCS:=qH hcs;have hone:cs.toArray.all (·.oneCell')=true:=by
   rw[Array.all_eq_true];intro i hi;exact hcs.2 _ (by simp)
  have hlen:cs.toArray.size=14:=by simpa using hcs.1
  clear hcs HA2 HR2;refine wpList_store_row rfl _ _ _ rfl bc cs.toArray (by simp[Act.eval,Act.put]) (by simp[Act.eval,Act.put]) _ _ HX3.out (by rw[hlen];kernel_rfl) (by rw[hlen];rfl) hone ?_;have HX4:=qH (setRow_heap _ _ _ cs.toArray _ _ HX3.out);have HA4:=qH (below_setRowC HA3.out (b:=bc) (cs:=cs.toArray) (by omega));have HR4:=qH ((setRow_other w3 bc w.heap.size cs.toArray (by omega)).trans HR3.out);generalize w3.setRow bc cs.toArray=w4 at*;clear HX3 HA3 HR3;go_upto_region 14 with (fail)
  refine wp_region_lit ?_;refine wpList_load_row rfl _ _ rfl bc (by simp[Act.eval]) _ _ _ _ HX4.out Tryz.underlying35 rfl (by rw[hlen];kernel_rfl) ?_;refine wpList_store_row rfl _ _ _ rfl w.heap.size cs.toArray (by simp[Act.eval,Act.put]) (by simp[Act.eval,Act.put]) _ _ HR4.out (by rw[hlen];kernel_rfl) (by rw[hlen];rfl) hone ?_;have HX5:=qH (setRow_heap _ _ _ cs.toArray _ _ HR4.out);have HA5:=qH (below_setRowC HA4.out (b:=w.heap.size) (cs:=cs.toArray) (qD _));generalize w4.setRow w.heap.size cs.toArray=w5 at*;clear HX4 HA4 HR4;go_wp2_with fail
  refine bodyPost_ret (v:=.agg cs.toArray) (results_cell_row Tryz.results34 _ _ w.heap.size _ _ _ _ (by simp[Act.put]) HX5.out Tryz.underlying35 rfl (by rw[hlen];kernel_rfl)) rfl ?_;exact⟨cs,HCS.out,rfl,HA5.out⟩
 ·have h8:n.tmod 6=3:=by rw[qQ h0];exact hr
  have hq:IntKind.i64.wrap (3:Int)=3:=qM _ (by omega);clear hr h0
  go_enter Tryz.func34,Tryz.ntmps34
  go_upto_region 1 with (fail)
  have HA:Hid (Below w.heap.size w (w.alloc (.cells #[.int .i64 0,.int .i64 0,.int .i64 0,.int .i64 0,.int .i64 0,.int .i64 0,.int .i64 0,.slice none 0 0,.slice none 0 0,.slice none 0 0,.slice none 0 0,.slice none 0 0,.slice none 0 0,.int .i64 0] 35))):=(qC _ _).alloc (qD _) _;have HR:Hid ((w.alloc (.cells #[.int .i64 0,.int .i64 0,.int .i64 0,.int .i64 0,.int .i64 0,.int .i64 0,.int .i64 0,.slice none 0 0,.slice none 0 0,.slice none 0 0,.slice none 0 0,.slice none 0 0,.slice none 0 0,.int .i64 0] 35)).heap[w.heap.size]? = some (.cells #[.int .i64 0,.int .i64 0,.int .i64 0,.int .i64 0,.int .i64 0,.int .i64 0,.int .i64 0,.slice none 0 0,.slice none 0 0,.slice none 0 0,.slice none 0 0,.slice none 0 0,.slice none 0 0,.int .i64 0] 35 (0,0))):=qK _ _;generalize w.alloc (.cells #[.int .i64 0,.int .i64 0,.int .i64 0,.int .i64 0,.int .i64 0,.int .i64 0,.int .i64 0,.slice none 0 0,.slice none 0 0,.slice none 0 0,.slice none 0 0,.slice none 0 0,.slice none 0 0,.int .i64 0] 35)=W at*;go_cut [3] (fun s wx=>s=.string conS0∧wx=W)
  case first =>
   go_wp2_with fail
   go_meet
   exact⟨congrArg Value.string (by kernel_rfl),rfl⟩
  case rest =>
  obtain⟨rfl,rfl⟩:=hcut;have hsz:conS0.size=186:=by kernel_rfl
  go_upto_block 0 with (fail)
  go_cut [3] (fun s wx=>s=.string conS3∧wx=wc)
  case first =>
   go_wp2_with fail
   go_meet
   exact⟨congrArg Value.string (by kernel_rfl),rfl⟩
  case rest =>
  obtain⟨rfl,rfl⟩:=hcut;go_upto_region 13 with (fail)
  refine wp_region_lit ?_;refine qP rfl fun K9 hK9 =>?_
  go_simp
  refine hK9 _ _ ?_;clear hK9;refine qP rfl fun K9 hK9 =>?_
  go_simp
  go_at_call 66
  refine(con_read3 _).mono ?_;rintro e w2 ⟨cs,hcs,rfl,hb2⟩;refine hK9 _ _ ?_;clear hK9;have HA2:Hid (Below w.heap.size w w2):=HA.out.trans (hb2.mono HA.out.size);have hwl:=(Array.getElem?_eq_some_iff.1 HR.out).1;have HR2:Hid (w2.heap[w.heap.size]? = _):=(hb2.block _ hwl).trans HR.out;have hwl2:w.heap.size<w2.heap.size:=by have:=hb2.size;omega
  clear hb2 HA HR hwl;refine qP rfl fun K9 hK9 =>?_
  go_simp
  refine hK9 _ _ ?_;clear hK9;refine qP rfl fun K9 hK9 =>?_
  go_simp
  refine hK9 _ _ ?_;clear hK9;refine qP rfl fun K9 hK9 =>?_
  go_simp
  refine hK9 _ _ ?_;clear hK9;refine qP rfl fun K9 hK9 =>?_
  go_simp
  refine hK9 _ _ ?_;clear hK9;refine qP rfl fun K9 hK9 =>?_
  go_simp
  refine hK9 _ _ ?_;clear hK9;have HX3:=qH (qK w2 (.cells #[.int .i64 0,.int .i64 0,.int .i64 0,.int .i64 0,.int .i64 0,.int .i64 0,.int .i64 0,.slice none 0 0,.slice none 0 0,.slice none 0 0,.slice none 0 0,.slice none 0 0,.slice none 0 0,.int .i64 0] 35));have HA3:Hid (Below w.heap.size w (w2.alloc (.cells #[.int .i64 0,.int .i64 0,.int .i64 0,.int .i64 0,.int .i64 0,.int .i64 0,.int .i64 0,.slice none 0 0,.slice none 0 0,.slice none 0 0,.slice none 0 0,.slice none 0 0,.slice none 0 0,.int .i64 0] 35))):=HA2.out.alloc HA2.out.size _;have HR3:Hid ((w2.alloc (.cells #[.int .i64 0,.int .i64 0,.int .i64 0,.int .i64 0,.int .i64 0,.int .i64 0,.int .i64 0,.slice none 0 0,.slice none 0 0,.slice none 0 0,.slice none 0 0,.slice none 0 0,.slice none 0 0,.int .i64 0] 35)).heap[w.heap.size]? = _):=(Below.heap_alloc _ _ _ hwl2).trans HR2.out;generalize w2.alloc (.cells #[.int .i64 0,.int .i64 0,.int .i64 0,.int .i64 0,.int .i64 0,.int .i64 0,.int .i64 0,.slice none 0 0,.slice none 0 0,.slice none 0 0,.slice none 0 0,.slice none 0 0,.slice none 0 0,.int .i64 0] 35)=w3 at*;generalize w2.heap.size=bc at*;have HCS:=qH hcs;have hone:cs.toArray.all (·.oneCell')=true:=by
   rw[Array.all_eq_true];intro i hi;exact hcs.2 _ (by simp)
  have hlen:cs.toArray.size=14:=by simpa using hcs.1
  clear hcs HA2 HR2;refine wpList_store_row rfl _ _ _ rfl bc cs.toArray (by simp[Act.eval,Act.put]) (by simp[Act.eval,Act.put]) _ _ HX3.out (by rw[hlen];kernel_rfl) (by rw[hlen];rfl) hone ?_;have HX4:=qH (setRow_heap _ _ _ cs.toArray _ _ HX3.out);have HA4:=qH (below_setRowC HA3.out (b:=bc) (cs:=cs.toArray) (by omega));have HR4:=qH ((setRow_other w3 bc w.heap.size cs.toArray (by omega)).trans HR3.out);generalize w3.setRow bc cs.toArray=w4 at*;clear HX3 HA3 HR3;go_upto_region 14 with (fail)
  refine wp_region_lit ?_;refine wpList_load_row rfl _ _ rfl bc (by simp[Act.eval]) _ _ _ _ HX4.out Tryz.underlying35 rfl (by rw[hlen];kernel_rfl) ?_;refine wpList_store_row rfl _ _ _ rfl w.heap.size cs.toArray (by simp[Act.eval,Act.put]) (by simp[Act.eval,Act.put]) _ _ HR4.out (by rw[hlen];kernel_rfl) (by rw[hlen];rfl) hone ?_;have HX5:=qH (setRow_heap _ _ _ cs.toArray _ _ HR4.out);have HA5:=qH (below_setRowC HA4.out (b:=w.heap.size) (cs:=cs.toArray) (qD _));generalize w4.setRow w.heap.size cs.toArray=w5 at*;clear HX4 HA4 HR4;go_wp2_with fail
  refine bodyPost_ret (v:=.agg cs.toArray) (results_cell_row Tryz.results34 _ _ w.heap.size _ _ _ _ (by simp[Act.put]) HX5.out Tryz.underlying35 rfl (by rw[hlen];kernel_rfl)) rfl ?_;exact⟨cs,HCS.out,rfl,HA5.out⟩
 ·have h8:n.tmod 6=4:=by rw[qQ h0];exact hr
  have hq:IntKind.i64.wrap (4:Int)=4:=qM _ (by omega);clear hr h0
  go_enter Tryz.func34,Tryz.ntmps34
  go_upto_region 1 with (fail)
  have HA:Hid (Below w.heap.size w (w.alloc (.cells #[.int .i64 0,.int .i64 0,.int .i64 0,.int .i64 0,.int .i64 0,.int .i64 0,.int .i64 0,.slice none 0 0,.slice none 0 0,.slice none 0 0,.slice none 0 0,.slice none 0 0,.slice none 0 0,.int .i64 0] 35))):=(qC _ _).alloc (qD _) _;have HR:Hid ((w.alloc (.cells #[.int .i64 0,.int .i64 0,.int .i64 0,.int .i64 0,.int .i64 0,.int .i64 0,.int .i64 0,.slice none 0 0,.slice none 0 0,.slice none 0 0,.slice none 0 0,.slice none 0 0,.slice none 0 0,.int .i64 0] 35)).heap[w.heap.size]? = some (.cells #[.int .i64 0,.int .i64 0,.int .i64 0,.int .i64 0,.int .i64 0,.int .i64 0,.int .i64 0,.slice none 0 0,.slice none 0 0,.slice none 0 0,.slice none 0 0,.slice none 0 0,.slice none 0 0,.int .i64 0] 35 (0,0))):=qK _ _;generalize w.alloc (.cells #[.int .i64 0,.int .i64 0,.int .i64 0,.int .i64 0,.int .i64 0,.int .i64 0,.int .i64 0,.slice none 0 0,.slice none 0 0,.slice none 0 0,.slice none 0 0,.slice none 0 0,.slice none 0 0,.int .i64 0] 35)=W at*;go_cut [3] (fun s wx=>s=.string conS0∧wx=W)
  case first =>
   go_wp2_with fail
   go_meet
   exact⟨congrArg Value.string (by kernel_rfl),rfl⟩
  case rest =>
  obtain⟨rfl,rfl⟩:=hcut;go_upto_block 0 with (fail)
  go_cut [3] (fun s wx=>s=.string conS4∧wx=wc)
  case first =>
   go_wp2_with fail
   go_meet
   exact⟨congrArg Value.string (by kernel_rfl),rfl⟩
  case rest =>
  obtain⟨rfl,rfl⟩:=hcut;go_upto_region 13 with (fail)
  refine wp_region_lit ?_;refine qP rfl fun K9 hK9 =>?_
  go_simp
  refine hK9 _ _ ?_;clear hK9;refine qP rfl fun K9 hK9 =>?_
  go_simp
  go_at_call 66
  refine(con_read4 _).mono ?_;rintro e w2 ⟨cs,hcs,rfl,hb2⟩;refine hK9 _ _ ?_;clear hK9;have HA2:Hid (Below w.heap.size w w2):=HA.out.trans (hb2.mono HA.out.size);have hwl:=(Array.getElem?_eq_some_iff.1 HR.out).1;have HR2:Hid (w2.heap[w.heap.size]? = _):=(hb2.block _ hwl).trans HR.out;have hwl2:w.heap.size<w2.heap.size:=by have:=hb2.size;omega
  clear hb2 HA HR hwl;refine qP rfl fun K9 hK9 =>?_
  go_simp
  refine hK9 _ _ ?_;clear hK9;refine qP rfl fun K9 hK9 =>?_
  go_simp
  refine hK9 _ _ ?_;clear hK9;refine qP rfl fun K9 hK9 =>?_
  go_simp
  refine hK9 _ _ ?_;clear hK9;refine qP rfl fun K9 hK9 =>?_
  go_simp
  refine hK9 _ _ ?_;clear hK9;refine qP rfl fun K9 hK9 =>?_
  go_simp
  refine hK9 _ _ ?_;clear hK9;have HX3:=qH (qK w2 (.cells #[.int .i64 0,.int .i64 0,.int .i64 0,.int .i64 0,.int .i64 0,.int .i64 0,.int .i64 0,.slice none 0 0,.slice none 0 0,.slice none 0 0,.slice none 0 0,.slice none 0 0,.slice none 0 0,.int .i64 0] 35));have HA3:Hid (Below w.heap.size w (w2.alloc (.cells #[.int .i64 0,.int .i64 0,.int .i64 0,.int .i64 0,.int .i64 0,.int .i64 0,.int .i64 0,.slice none 0 0,.slice none 0 0,.slice none 0 0,.slice none 0 0,.slice none 0 0,.slice none 0 0,.int .i64 0] 35))):=HA2.out.alloc HA2.out.size _;have HR3:Hid ((w2.alloc (.cells #[.int .i64 0,.int .i64 0,.int .i64 0,.int .i64 0,.int .i64 0,.int .i64 0,.int .i64 0,.slice none 0 0,.slice none 0 0,.slice none 0 0,.slice none 0 0,.slice none 0 0,.slice none 0 0,.int .i64 0] 35)).heap[w.heap.size]? = _):=(Below.heap_alloc _ _ _ hwl2).trans HR2.out;generalize w2.alloc (.cells #[.int .i64 0,.int .i64 0,.int .i64 0,.int .i64 0,.int .i64 0,.int .i64 0,.int .i64 0,.slice none 0 0,.slice none 0 0,.slice none 0 0,.slice none 0 0,.slice none 0 0,.slice none 0 0,.int .i64 0] 35)=w3 at*;generalize w2.heap.size=bc at*;have HCS:=qH hcs;have hone:cs.toArray.all (·.oneCell')=true:=by
   rw[Array.all_eq_true];intro i hi;exact hcs.2 _ (by simp)
  have hlen:cs.toArray.size=14:=by simpa using hcs.1
  clear hcs HA2 HR2;refine wpList_store_row rfl _ _ _ rfl bc cs.toArray (by simp[Act.eval,Act.put]) (by simp[Act.eval,Act.put]) _ _ HX3.out (by rw[hlen];kernel_rfl) (by rw[hlen];rfl) hone ?_;have HX4:=qH (setRow_heap _ _ _ cs.toArray _ _ HX3.out);have HA4:=qH (below_setRowC HA3.out (b:=bc) (cs:=cs.toArray) (by omega));have HR4:=qH ((setRow_other w3 bc w.heap.size cs.toArray (by omega)).trans HR3.out);generalize w3.setRow bc cs.toArray=w4 at*;clear HX3 HA3 HR3;go_upto_region 14 with (fail)
  refine wp_region_lit ?_;refine wpList_load_row rfl _ _ rfl bc (by simp[Act.eval]) _ _ _ _ HX4.out Tryz.underlying35 rfl (by rw[hlen];kernel_rfl) ?_;refine wpList_store_row rfl _ _ _ rfl w.heap.size cs.toArray (by simp[Act.eval,Act.put]) (by simp[Act.eval,Act.put]) _ _ HR4.out (by rw[hlen];kernel_rfl) (by rw[hlen];rfl) hone ?_;have HX5:=qH (setRow_heap _ _ _ cs.toArray _ _ HR4.out);have HA5:=qH (below_setRowC HA4.out (b:=w.heap.size) (cs:=cs.toArray) (qD _));generalize w4.setRow w.heap.size cs.toArray=w5 at*;clear HX4 HA4 HR4;go_wp2_with fail
  refine bodyPost_ret (v:=.agg cs.toArray) (results_cell_row Tryz.results34 _ _ w.heap.size _ _ _ _ (by simp[Act.put]) HX5.out Tryz.underlying35 rfl (by rw[hlen];kernel_rfl)) rfl ?_;exact⟨cs,HCS.out,rfl,HA5.out⟩
 ·have h8:n.tmod 6=5:=by rw[qQ h0];exact hr
  have hq:IntKind.i64.wrap (5:Int)=5:=qM _ (by omega);clear hr h0
  go_enter Tryz.func34,Tryz.ntmps34
  go_upto_region 1 with (fail)
  have HA:Hid (Below w.heap.size w (w.alloc (.cells #[.int .i64 0,.int .i64 0,.int .i64 0,.int .i64 0,.int .i64 0,.int .i64 0,.int .i64 0,.slice none 0 0,.slice none 0 0,.slice none 0 0,.slice none 0 0,.slice none 0 0,.slice none 0 0,.int .i64 0] 35))):=(qC _ _).alloc (qD _) _;have HR:Hid ((w.alloc (.cells #[.int .i64 0,.int .i64 0,.int .i64 0,.int .i64 0,.int .i64 0,.int .i64 0,.int .i64 0,.slice none 0 0,.slice none 0 0,.slice none 0 0,.slice none 0 0,.slice none 0 0,.slice none 0 0,.int .i64 0] 35)).heap[w.heap.size]? = some (.cells #[.int .i64 0,.int .i64 0,.int .i64 0,.int .i64 0,.int .i64 0,.int .i64 0,.int .i64 0,.slice none 0 0,.slice none 0 0,.slice none 0 0,.slice none 0 0,.slice none 0 0,.slice none 0 0,.int .i64 0] 35 (0,0))):=qK _ _;generalize w.alloc (.cells #[.int .i64 0,.int .i64 0,.int .i64 0,.int .i64 0,.int .i64 0,.int .i64 0,.int .i64 0,.slice none 0 0,.slice none 0 0,.slice none 0 0,.slice none 0 0,.slice none 0 0,.slice none 0 0,.int .i64 0] 35)=W at*;go_cut [3] (fun s wx=>s=.string conS0∧wx=W)
  case first =>
   go_wp2_with fail
   go_meet
   exact⟨congrArg Value.string (by kernel_rfl),rfl⟩
  case rest =>
  obtain⟨rfl,rfl⟩:=hcut;go_upto_block 0 with (fail)
  go_cut [3] (fun s wx=>s=.string conS5∧wx=wc)
  case first =>
   go_wp2_with fail
   go_meet
   exact⟨congrArg Value.string (by kernel_rfl),rfl⟩
  case rest =>
  obtain⟨rfl,rfl⟩:=hcut;go_upto_region 13 with (fail)
  refine wp_region_lit ?_;refine qP rfl fun K9 hK9 =>?_
  go_simp
  refine hK9 _ _ ?_;clear hK9;refine qP rfl fun K9 hK9 =>?_
  go_simp
  go_at_call 66
  refine(con_read5 _).mono ?_;rintro e w2 ⟨cs,hcs,rfl,hb2⟩;refine hK9 _ _ ?_;clear hK9;have HA2:Hid (Below w.heap.size w w2):=HA.out.trans (hb2.mono HA.out.size);have hwl:=(Array.getElem?_eq_some_iff.1 HR.out).1;have HR2:Hid (w2.heap[w.heap.size]? = _):=(hb2.block _ hwl).trans HR.out;have hwl2:w.heap.size<w2.heap.size:=by have:=hb2.size;omega
  clear hb2 HA HR hwl;refine qP rfl fun K9 hK9 =>?_
  go_simp
  refine hK9 _ _ ?_;clear hK9;refine qP rfl fun K9 hK9 =>?_
  go_simp
  refine hK9 _ _ ?_;clear hK9;refine qP rfl fun K9 hK9 =>?_
  go_simp
  refine hK9 _ _ ?_;clear hK9;refine qP rfl fun K9 hK9 =>?_
  go_simp
  refine hK9 _ _ ?_;clear hK9;refine qP rfl fun K9 hK9 =>?_
  go_simp
  refine hK9 _ _ ?_;clear hK9;have HX3:=qH (qK w2 (.cells #[.int .i64 0,.int .i64 0,.int .i64 0,.int .i64 0,.int .i64 0,.int .i64 0,.int .i64 0,.slice none 0 0,.slice none 0 0,.slice none 0 0,.slice none 0 0,.slice none 0 0,.slice none 0 0,.int .i64 0] 35));have HA3:Hid (Below w.heap.size w (w2.alloc (.cells #[.int .i64 0,.int .i64 0,.int .i64 0,.int .i64 0,.int .i64 0,.int .i64 0,.int .i64 0,.slice none 0 0,.slice none 0 0,.slice none 0 0,.slice none 0 0,.slice none 0 0,.slice none 0 0,.int .i64 0] 35))):=HA2.out.alloc HA2.out.size _;have HR3:Hid ((w2.alloc (.cells #[.int .i64 0,.int .i64 0,.int .i64 0,.int .i64 0,.int .i64 0,.int .i64 0,.int .i64 0,.slice none 0 0,.slice none 0 0,.slice none 0 0,.slice none 0 0,.slice none 0 0,.slice none 0 0,.int .i64 0] 35)).heap[w.heap.size]? = _):=(Below.heap_alloc _ _ _ hwl2).trans HR2.out;generalize w2.alloc (.cells #[.int .i64 0,.int .i64 0,.int .i64 0,.int .i64 0,.int .i64 0,.int .i64 0,.int .i64 0,.slice none 0 0,.slice none 0 0,.slice none 0 0,.slice none 0 0,.slice none 0 0,.slice none 0 0,.int .i64 0] 35)=w3 at*;generalize w2.heap.size=bc at*;have HCS:=qH hcs;have hone:cs.toArray.all (·.oneCell')=true:=by
   rw[Array.all_eq_true];intro i hi;exact hcs.2 _ (by simp)
  have hlen:cs.toArray.size=14:=by simpa using hcs.1
  clear hcs HA2 HR2;refine wpList_store_row rfl _ _ _ rfl bc cs.toArray (by simp[Act.eval,Act.put]) (by simp[Act.eval,Act.put]) _ _ HX3.out (by rw[hlen];kernel_rfl) (by rw[hlen];rfl) hone ?_;have HX4:=qH (setRow_heap _ _ _ cs.toArray _ _ HX3.out);have HA4:=qH (below_setRowC HA3.out (b:=bc) (cs:=cs.toArray) (by omega));have HR4:=qH ((setRow_other w3 bc w.heap.size cs.toArray (by omega)).trans HR3.out);generalize w3.setRow bc cs.toArray=w4 at*;clear HX3 HA3 HR3;go_upto_region 14 with (fail)
  refine wp_region_lit ?_;refine wpList_load_row rfl _ _ rfl bc (by simp[Act.eval]) _ _ _ _ HX4.out Tryz.underlying35 rfl (by rw[hlen];kernel_rfl) ?_;refine wpList_store_row rfl _ _ _ rfl w.heap.size cs.toArray (by simp[Act.eval,Act.put]) (by simp[Act.eval,Act.put]) _ _ HR4.out (by rw[hlen];kernel_rfl) (by rw[hlen];rfl) hone ?_;have HX5:=qH (setRow_heap _ _ _ cs.toArray _ _ HR4.out);have HA5:=qH (below_setRowC HA4.out (b:=w.heap.size) (cs:=cs.toArray) (qD _));generalize w4.setRow w.heap.size cs.toArray=w5 at*;clear HX4 HA4 HR4;go_wp2_with fail
  refine bodyPost_ret (v:=.agg cs.toArray) (results_cell_row Tryz.results34 _ _ w.heap.size _ _ _ _ (by simp[Act.put]) HX5.out Tryz.underlying35 rfl (by rw[hlen];kernel_rfl)) rfl ?_;exact⟨cs,HCS.out,rfl,HA5.out⟩
end
section
open Go.RowKit
theorem wpList_builtP{P:Program}{ops:Array Oper}{rest:List Oper}{o:Oper}{a:Act}{Q:Exit→Act→World→Prop}{w:World}(hgd:o.guard=none)(T:TypeId)(parts:Array (Nat×Operand))(vals:List (Nat×Value))(ho:o.op=.build T parts)(he:(parts.map fun (i,x)=>(i,a.eval x)).toList=vals)(cells:Array Value)
 (hb:P.built T vals=some cells) (h:wpList P ops Q rest (a.put o.dst (.agg cells)) w):wpList P ops Q (o::rest) a w :=
 qP hgd fun _ hK=>wp_build T parts ho (by rw[he,hb];rfl) (by rw[he,hb];exact hK _ _ h)
theorem problem_any(l:List Int)(A:Option Addr)(n c:Nat)(w:World)(h:Sl (Ty.int .i64) w (all_ w) A n c l) :
 Calls Tryz.prog 11 #[.slice A n c] w (ProbPost (probTT l) w):=by
 have HNL:Hid (n=l.length∧n≤maxLen∧n≤c):=⟨h.len,h.le,h.2.1⟩
 have HS:Hid (∀ V,Below w.heap.size w V→Sl (Ty.int .i64) V (all_ V) A n c l):=fun V hV=>h.next hV
 have HRG:Hid (∀ i,0≤atL l i∧atL l i≤65535+i):=fun i=>atL_range l i
 have HCN:Hid (((dCount l:Nat):Int)=2+atL l 0%4):=by show _=_;unfold dCount;omega
 have HDC:=qH (dCount_range l);have HX0:Hid (_=some (Obj.cells #[.slice none 0 0,.slice none 0 0,.slice none 0 0,.int .i64 0,.int .i64 0,.int .i64 0,.int .i64 0,.int .i64 0,.int .i64 0,.int .i64 0,.slice none 0 0,.slice none 0 0,.slice none 0 0,.slice none 0 0,.slice none 0 0,.slice none 0 0,.int .i64 0,.slice none 0 0,.slice none 0 0,.int .i64 0,.int .i64 0] 38 (0,0))):=qK w (.cells #[.slice none 0 0,.slice none 0 0,.slice none 0 0,.int .i64 0,.int .i64 0,.int .i64 0,.int .i64 0,.int .i64 0,.int .i64 0,.int .i64 0,.slice none 0 0,.slice none 0 0,.slice none 0 0,.slice none 0 0,.slice none 0 0,.slice none 0 0,.int .i64 0,.slice none 0 0,.slice none 0 0,.int .i64 0,.int .i64 0] 38);have HA0:Hid (Below w.heap.size w _):=(qC _ _).alloc (qD _) (.cells #[.slice none 0 0,.slice none 0 0,.slice none 0 0,.int .i64 0,.int .i64 0,.int .i64 0,.int .i64 0,.int .i64 0,.int .i64 0,.int .i64 0,.slice none 0 0,.slice none 0 0,.slice none 0 0,.slice none 0 0,.slice none 0 0,.slice none 0 0,.int .i64 0,.slice none 0 0,.slice none 0 0,.int .i64 0,.int .i64 0] 38);clear h
 go_enter Tryz.func11,Tryz.ntmps11
 go_upto_region 1 with (fail)
 generalize w.alloc (.cells #[.slice none 0 0,.slice none 0 0,.slice none 0 0,.int .i64 0,.int .i64 0,.int .i64 0,.int .i64 0,.int .i64 0,.int .i64 0,.int .i64 0,.slice none 0 0,.slice none 0 0,.slice none 0 0,.slice none 0 0,.slice none 0 0,.slice none 0 0,.int .i64 0,.slice none 0 0,.slice none 0 0,.int .i64 0,.int .i64 0] 38)=W0 at*;have HC0:=qH (dataAt_any l A n c 0 W0 (HS.out W0 HA0.out) (by decide));have hz0:=(HRG.out 0).1;have q1:(atL l 0).tmod 4=atL l 0%4:=qQ hz0;have q2:IntKind.i64.wrap (atL l 0%4)=atL l 0%4:=qM _ (by omega);have q3:IntKind.i64.wrap (2+atL l 0%4)=2+atL l 0%4:=qM _ (by omega);clear hz0;generalize atL l 0=a0 at*;go_upto_region 2 with (go_at_call 32;refine HC0.out.mono ?_;rintro e w1 ⟨rfl,hb1⟩)
 rw[←HCN.out];clear q1 q2 q3;have HB1:Hid (Below w.heap.size w w1):=HA0.out.trans (hb1.mono HA0.out.size);have HR1:Hid (w1.heap[w.heap.size]? = some (.cells zProb 38 (0,0))):=(hb1.block _ (Array.getElem?_eq_some_iff.1 HX0.out).1).trans HX0.out;clear hb1 HC0 HA0 HX0;go_cut [4] (fun s wx => ∃ P v cs bv pen,s=.pointer (some ⟨P,0,none⟩)∧PL (probTT l) w wx P (P+1) v cs bv (.slice none 0 0) 0 pen [])
 case first =>
  rcases Nat.eq_zero_or_pos n with rfl|hp
  ·have hmin:min ((0:Nat):Int) 1=0:=rfl;have hmin2:min (0:Int) 1=0:=rfl;have HSD:Hid (∀ V,Below w.heap.size w V→Sl (Ty.int .i64) V (all_ V) A 0 c (l.drop 1)):=fun V hV=>by
    have e:l=[]:=List.eq_nil_of_length_eq_zero HNL.out.1.symm;have:=HS.out V hV;rw[e]at this ⊢;exact this
   refine wp_region_lit ?_;refine qP rfl fun K9 hK9 =>?_
   go_simp
   refine hK9 _ _ ?_;clear hK9;refine qP rfl fun K9 hK9 =>?_
   go_simp
   refine hK9 _ _ ?_;clear hK9;refine qP rfl fun K9 hK9 =>?_
   go_simp
   refine hK9 _ _ ?_;clear hK9;refine qP rfl fun K9 hK9 =>?_
   go_simp
   refine hK9 _ _ ?_;clear hK9;refine qP rfl fun K9 hK9 =>?_
   go_simp
   refine hK9 _ _ ?_;clear hK9;refine qP rfl fun K9 hK9 =>?_
   go_simp
   refine hK9 _ _ ?_;clear hK9;refine qP rfl fun K9 hK9 =>?_
   go_simp
   go_at_call 33
   refine(dataTT_any (l.drop 1) A 0 c (dCount l) w1 (HSD.out w1 HB1.out) (by have:=HDC.out;omega)).mono ?_;rintro e w2 ⟨v,rfl,htt,hb2⟩;obtain⟨A1,n1,d1,A2,n2,d2,A3,n3,d3,rfl,ht1,ht2,ht3⟩:=htt;have HT2:Hid (TTIs w2 (fun b=>w1.heap.size<b∧b<w2.heap.size) [.slice A1 n1 d1,.slice A2 n2 d2,.slice A3 n3 d3] (probTT l)):=⟨_,_,_,_,_,_,_,_,_,rfl,ht1,ht2,ht3⟩
   have HB2:Hid (Below w.heap.size w w2):=HB1.out.trans (hb2.mono HB1.out.size);have HR2:Hid (w2.heap[w.heap.size]? = some (.cells zProb 38 (0,0))):=(hb2.block _ (Array.getElem?_eq_some_iff.1 HR1.out).1).trans HR1.out;have hl12:=hb2.size;clear ht1 ht2 ht3 hb2;refine hK9 _ _ ?_;clear hK9;refine qP rfl fun K9 hK9 =>?_
   go_simp
   refine hK9 _ _ ?_;clear hK9;refine qP rfl fun K9 hK9 =>?_
   go_simp
   go_at_call 32
   refine(dataAt_any l A 0 c 9 w2 (HS.out w2 HB2.out) (by decide)).mono ?_;rintro e w3 ⟨rfl,hb3⟩;have hz9:=(HRG.out 9).1;have hz9':=(HRG.out 9).2;refine hK9 _ _ ?_;clear hK9;refine qP rfl fun K9 hK9 =>?_
   go_simp
   go_at_call 34
   refine(dataContract_any (atL l 9) w3 hz9 (by omega)).mono ?_;rintro e w4 ⟨cs,hcs,rfl,hb4⟩;obtain⟨k0,k1,k2,k3,k4,k5,k6,k7,k8,k9,k10,k11,k12,k13,rfl⟩:=list14 hcs.1;have HCS:=qH hcs;have hb24:Below w2.heap.size w2 w4:=hb3.trans (hb4.mono hb3.size);have HB4:Hid (Below w.heap.size w w4):=HB2.out.trans (hb24.mono HB2.out.size);have HB24:=qH hb24;have hl24:=hb24.size;clear hcs hb3 hb4 hz9 hz9' hb24;refine hK9 _ _ ?_;clear hK9;refine qP rfl fun K9 hK9 =>?_
   go_simp
   refine hK9 _ _ ?_;clear hK9;refine qP rfl fun K9 hK9 =>?_
   go_simp
   refine hK9 _ _ ?_;clear hK9;refine qP rfl fun K9 hK9 =>?_
   go_simp
   go_at_call 32
   refine(dataAt_any l A 0 c 10 _ (HS.out _ (HB4.out.alloc HB4.out.size _)) (by decide)).mono ?_;rintro e w6 ⟨rfl,hb6⟩;have HX4:Hid (w6.heap[w4.heap.size]? = some (.cells #[.string ⟨#[65,65,65]⟩] 9 (0,0))):=(hb6.block _ (by simp)).trans (qK _ _);have hl46:w4.heap.size<w6.heap.size:=by have:=hb6.size;simp at this;omega
   have HB26:Hid (Below w2.heap.size w2 w6):=HB24.out.trans (((qC _ _).alloc (qD _) _).trans (hb6.mono (by simp)) |>.mono hl24);have hz10:=(HRG.out 10).1;have hz10':=(HRG.out 10).2;have g1:(atL l 10).tmod 60=atL l 10%60:=qQ hz10;have g2:IntKind.i64.wrap (atL l 10%60)=atL l 10%60:=qM _ (by omega);have g3:IntKind.i64.wrap (20+atL l 10%60)=20+atL l 10%60:=qM _ (by omega);clear hb6 hz10 hz10';refine hK9 _ _ ?_;clear hK9;refine qP rfl fun K9 hK9 =>?_
   go_simp
   refine hK9 _ _ ?_;clear hK9;refine qP rfl fun K9 hK9 =>?_
   go_simp
   refine hK9 _ _ ?_;clear hK9;generalize 20+atL l 10%60=pen at*;clear g1 g2 g3;refine wpList_builtP rfl _ _ [(0,.agg #[.slice A1 n1 d1,.slice A2 n2 d2,.slice A3 n3 d3]),(1,.agg #[k0,k1,k2,k3,k4,k5,k6,k7,k8,k9,k10,k11,k12,k13]),(2,.slice (some ⟨w4.heap.size,0,none⟩) 1 1),(5,.int .i64 pen)] rfl (by simp[Act.eval,Act.put]) #[.slice A1 n1 d1,.slice A2 n2 d2,.slice A3 n3 d3,k0,k1,k2,k3,k4,k5,k6,k7,k8,k9,k10,k11,k12,k13,.slice (some ⟨w4.heap.size,0,none⟩) 1 1,.slice none 0 0,.int .i64 0,.int .i64 pen] (by kernel_rfl) ?_;refine qP rfl fun K9 hK9 =>?_
   go_simp
   refine hK9 _ _ ?_;clear hK9;have HXP:=qH (qK w6 (.cells zProb 38));have HK6:Hid (∀ q,q<w6.heap.size→(w6.alloc (.cells zProb 38)).heap[q]? = w6.heap[q]?):=fun q hq=>Below.heap_alloc _ _ _ hq
   have HB7:Hid (Below w.heap.size w (w6.alloc (.cells zProb 38))):=(HB2.out.trans (HB26.out.mono HB2.out.size)).alloc (by have:=HB2.out.size;have:=HB26.out.size;omega) _;have hz7:(w6.alloc (.cells zProb 38)).heap.size=w6.heap.size+1:=by simp
   have hone:((#[.slice A1 n1 d1,.slice A2 n2 d2,.slice A3 n3 d3,k0,k1,k2,k3,k4,k5,k6,k7,k8,k9,k10,k11,k12,k13,.slice (some ⟨w4.heap.size,0,none⟩) 1 1,.slice none 0 0,.int .i64 0,.int .i64 pen]:Array Value)).all (·.oneCell')=true:=by
    have h14:=HCS.out.2;rw[Array.all_eq_true];intro i hi;have hmem:((#[.slice A1 n1 d1,.slice A2 n2 d2,.slice A3 n3 d3,k0,k1,k2,k3,k4,k5,k6,k7,k8,k9,k10,k11,k12,k13,.slice (some ⟨w4.heap.size,0,none⟩) 1 1,.slice none 0 0,.int .i64 0,.int .i64 pen]:Array Value))[i]∈(#[.slice A1 n1 d1,.slice A2 n2 d2,.slice A3 n3 d3,k0,k1,k2,k3,k4,k5,k6,k7,k8,k9,k10,k11,k12,k13,.slice (some ⟨w4.heap.size,0,none⟩) 1 1,.slice none 0 0,.int .i64 0,.int .i64 pen]:Array Value).toList:=by simp
    have hcs2 : ∀ u∈([.slice A1 n1 d1,.slice A2 n2 d2,.slice A3 n3 d3]++([k0,k1,k2,k3,k4,k5,k6,k7,k8,k9,k10,k11,k12,k13]++[.slice (some ⟨w4.heap.size,0,none⟩) 1 1,.slice none 0 0,.int .i64 0,.int .i64 pen]):List Value),u.oneCell'=true:=fun u hu=>by
     rcases List.mem_append.1 hu with h|h
     ·simp at h;rcases h with rfl|rfl|rfl <;> rfl
     ·rcases List.mem_append.1 h with h|h
      ·exact h14 u h
      ·simp at h;rcases h with rfl|rfl|rfl|rfl <;> rfl
    exact hcs2 _ hmem
   change wpList _ _ _ _ _ (w6.alloc (.cells zProb 38));generalize w6.alloc (.cells zProb 38)=w7 at*;refine wpList_store_row rfl _ _ _ rfl w6.heap.size #[.slice A1 n1 d1,.slice A2 n2 d2,.slice A3 n3 d3,k0,k1,k2,k3,k4,k5,k6,k7,k8,k9,k10,k11,k12,k13,.slice (some ⟨w4.heap.size,0,none⟩) 1 1,.slice none 0 0,.int .i64 0,.int .i64 pen] (by simp[Act.eval,Act.put]) (by simp[Act.eval,Act.put]) _ _ HXP.out (by kernel_rfl) rfl hone ?_;clear hone;go_wp2_with fail
   go_meet
   have hk : ∀ q,q<w6.heap.size→(w7.setRow w6.heap.size #[.slice A1 n1 d1,.slice A2 n2 d2,.slice A3 n3 d3,k0,k1,k2,k3,k4,k5,k6,k7,k8,k9,k10,k11,k12,k13,.slice (some ⟨w4.heap.size,0,none⟩) 1 1,.slice none 0 0,.int .i64 0,.int .i64 pen]).heap[q]? = w6.heap[q]? :=fun q hq=>(setRow_other _ _ _ _ (by omega)).trans (HK6.out q hq)
   have hk2 : ∀ q,q<w2.heap.size→(w7.setRow w6.heap.size #[.slice A1 n1 d1,.slice A2 n2 d2,.slice A3 n3 d3,k0,k1,k2,k3,k4,k5,k6,k7,k8,k9,k10,k11,k12,k13,.slice (some ⟨w4.heap.size,0,none⟩) 1 1,.slice none 0 0,.int .i64 0,.int .i64 pen]).heap[q]? = w2.heap[q]? :=fun q hq=>(hk q (by omega)).trans (HB26.out.block q hq)
   have hw1:=HB1.out.size;have hww:=(Array.getElem?_eq_some_iff.1 HR1.out).1;refine⟨w6.heap.size,[.slice A1 n1 d1,.slice A2 n2 d2,.slice A3 n3 d3],[k0,k1,k2,k3,k4,k5,k6,k7,k8,k9,k10,k11,k12,k13],.slice (some ⟨w4.heap.size,0,none⟩) 1 1,pen,rfl,⟨(hk2 _ (by omega)).trans HR2.out,setRow_heap _ _ _ _ _ _ HXP.out,⟨by omega,by omega,by simp;omega⟩,(HT2.out.keep fun b hb=>hk2 b hb.2).more fun b hb=>by omega,HCS.out,⟨_,_,_,[dCode 0],rfl, ?_,by decide⟩,Own.nil,below_setRowD HB7.out (by omega)⟩⟩;refine Sl.block (xs:=[dCode 0]) ((hk _ (by omega)).trans HX4.out) ⟨by omega,by omega,by omega⟩ (by decide) fun i x hi =>?_
   have:i=0:=by
    have:=(List.getElem?_eq_some_iff.1 hi).1;have:i<1:=this;omega
   subst this;injection hi with hi
   subst hi;rfl
  ·have hsn:=HNL.out;obtain⟨hcn,hcc⟩:=hsn.2;have hn0:(0:Int)<(n:Int):=by omega
   have hn1 : ¬(n:Int)<1:=by omega
   have hn2:(1:Int)≤(n:Int):=by omega
   have hn3:1≤n:=hp;have hmin:min (n:Int) 1=1:=by omega
   obtain⟨b,o,rfl, -, -⟩:=(HS.out w1 HB1.out).int_at (k:=0) (by omega);have HSD:Hid (∀ V,Below w.heap.size w V→Sl (Ty.int .i64) V (all_ V) (if c=1 then some ⟨b,o,none⟩ else some ⟨b,o+1,none⟩) (n-1) (c-1) (l.drop 1)):=fun V hV=>by
    have h9:=HS.out V hV;have e:(l.drop 1).take (n-1)=l.drop 1:=List.take_of_length_le (by rw[List.length_drop];omega)
    by_cases hc1:c=1
    ·have hn9:n=1:=by omega
     subst hn9;subst hc1;have e0:l.drop 1=[]:=List.drop_of_length_le (by omega);rw[e0];exact Sl.nil _ (by decide)
    ·rw[qN hc1, ←e];exact h9.sub 1 (n-1) (by omega) b (o+1) fun _=>⟨rfl,by show o+1=o+1*1;omega⟩
   clear hsn hcn;refine wp_region_lit ?_;refine qP rfl fun K9 hK9 =>?_
   go_simp
   refine hK9 _ _ ?_;clear hK9;refine qP rfl fun K9 hK9 =>?_
   go_simp
   refine hK9 _ _ ?_;clear hK9;refine qP rfl fun K9 hK9 =>?_
   go_simp
   refine hK9 _ _ ?_;clear hK9;refine qP rfl fun K9 hK9 =>?_
   go_simp
   refine hK9 _ _ ?_;clear hK9;refine qP rfl fun K9 hK9 =>?_
   go_simp
   refine hK9 _ _ ?_;clear hK9;generalize (if c=1 then some (⟨b,o,none⟩:Addr) else some ⟨b,o+1,none⟩)=AA at*;refine qP rfl fun K9 hK9 =>?_
   go_simp
   refine hK9 _ _ ?_;clear hK9;refine qP rfl fun K9 hK9 =>?_
   go_simp
   go_at_call 33
   refine(dataTT_any (l.drop 1) AA (n-1) (c-1) (dCount l) w1 (HSD.out w1 HB1.out) (by have:=HDC.out;omega)).mono ?_;rintro e w2 ⟨v,rfl,htt,hb2⟩;obtain⟨A1,n1,d1,A2,n2,d2,A3,n3,d3,rfl,ht1,ht2,ht3⟩:=htt;have HT2:Hid (TTIs w2 (fun b=>w1.heap.size<b∧b<w2.heap.size) [.slice A1 n1 d1,.slice A2 n2 d2,.slice A3 n3 d3] (probTT l)):=⟨_,_,_,_,_,_,_,_,_,rfl,ht1,ht2,ht3⟩
   have HB2:Hid (Below w.heap.size w w2):=HB1.out.trans (hb2.mono HB1.out.size);have HR2:Hid (w2.heap[w.heap.size]? = some (.cells zProb 38 (0,0))):=(hb2.block _ (Array.getElem?_eq_some_iff.1 HR1.out).1).trans HR1.out;have hl12:=hb2.size;clear ht1 ht2 ht3 hb2;refine hK9 _ _ ?_;clear hK9;refine qP rfl fun K9 hK9 =>?_
   go_simp
   refine hK9 _ _ ?_;clear hK9;refine qP rfl fun K9 hK9 =>?_
   go_simp
   go_at_call 32
   refine(dataAt_any l (some ⟨b,o,none⟩) n c 9 w2 (HS.out w2 HB2.out) (by decide)).mono ?_;rintro e w3 ⟨rfl,hb3⟩;have hz9:=(HRG.out 9).1;have hz9':=(HRG.out 9).2;refine hK9 _ _ ?_;clear hK9;refine qP rfl fun K9 hK9 =>?_
   go_simp
   go_at_call 34
   refine(dataContract_any (atL l 9) w3 hz9 (by omega)).mono ?_;rintro e w4 ⟨cs,hcs,rfl,hb4⟩;obtain⟨k0,k1,k2,k3,k4,k5,k6,k7,k8,k9,k10,k11,k12,k13,rfl⟩:=list14 hcs.1;have HCS:=qH hcs;have hb24:Below w2.heap.size w2 w4:=hb3.trans (hb4.mono hb3.size);have HB4:Hid (Below w.heap.size w w4):=HB2.out.trans (hb24.mono HB2.out.size);have HB24:=qH hb24;have hl24:=hb24.size;clear hcs hb3 hb4 hz9 hz9' hb24;refine hK9 _ _ ?_;clear hK9;refine qP rfl fun K9 hK9 =>?_
   go_simp
   refine hK9 _ _ ?_;clear hK9;refine qP rfl fun K9 hK9 =>?_
   go_simp
   refine hK9 _ _ ?_;clear hK9;refine qP rfl fun K9 hK9 =>?_
   go_simp
   go_at_call 32
   refine(dataAt_any l (some ⟨b,o,none⟩) n c 10 _ (HS.out _ (HB4.out.alloc HB4.out.size _)) (by decide)).mono ?_;rintro e w6 ⟨rfl,hb6⟩;have HX4:Hid (w6.heap[w4.heap.size]? = some (.cells #[.string ⟨#[65,65,65]⟩] 9 (0,0))):=(hb6.block _ (by simp)).trans (qK _ _);have hl46:w4.heap.size<w6.heap.size:=by have:=hb6.size;simp at this;omega
   have HB26:Hid (Below w2.heap.size w2 w6):=HB24.out.trans (((qC _ _).alloc (qD _) _).trans (hb6.mono (by simp)) |>.mono hl24);have hz10:=(HRG.out 10).1;have hz10':=(HRG.out 10).2;have g1:(atL l 10).tmod 60=atL l 10%60:=qQ hz10;have g2:IntKind.i64.wrap (atL l 10%60)=atL l 10%60:=qM _ (by omega);have g3:IntKind.i64.wrap (20+atL l 10%60)=20+atL l 10%60:=qM _ (by omega);clear hb6 hz10 hz10';refine hK9 _ _ ?_;clear hK9;refine qP rfl fun K9 hK9 =>?_
   go_simp
   refine hK9 _ _ ?_;clear hK9;refine qP rfl fun K9 hK9 =>?_
   go_simp
   refine hK9 _ _ ?_;clear hK9;generalize 20+atL l 10%60=pen at*;clear g1 g2 g3;refine wpList_builtP rfl _ _ [(0,.agg #[.slice A1 n1 d1,.slice A2 n2 d2,.slice A3 n3 d3]),(1,.agg #[k0,k1,k2,k3,k4,k5,k6,k7,k8,k9,k10,k11,k12,k13]),(2,.slice (some ⟨w4.heap.size,0,none⟩) 1 1),(5,.int .i64 pen)] rfl (by simp[Act.eval,Act.put]) #[.slice A1 n1 d1,.slice A2 n2 d2,.slice A3 n3 d3,k0,k1,k2,k3,k4,k5,k6,k7,k8,k9,k10,k11,k12,k13,.slice (some ⟨w4.heap.size,0,none⟩) 1 1,.slice none 0 0,.int .i64 0,.int .i64 pen] (by kernel_rfl) ?_;refine qP rfl fun K9 hK9 =>?_
   go_simp
   refine hK9 _ _ ?_;clear hK9;have HXP:=qH (qK w6 (.cells zProb 38));have HK6:Hid (∀ q,q<w6.heap.size→(w6.alloc (.cells zProb 38)).heap[q]? = w6.heap[q]?):=fun q hq=>Below.heap_alloc _ _ _ hq
   have HB7:Hid (Below w.heap.size w (w6.alloc (.cells zProb 38))):=(HB2.out.trans (HB26.out.mono HB2.out.size)).alloc (by have:=HB2.out.size;have:=HB26.out.size;omega) _;have hz7:(w6.alloc (.cells zProb 38)).heap.size=w6.heap.size+1:=by simp
   have hone:((#[.slice A1 n1 d1,.slice A2 n2 d2,.slice A3 n3 d3,k0,k1,k2,k3,k4,k5,k6,k7,k8,k9,k10,k11,k12,k13,.slice (some ⟨w4.heap.size,0,none⟩) 1 1,.slice none 0 0,.int .i64 0,.int .i64 pen]:Array Value)).all (·.oneCell')=true:=by
    have h14:=HCS.out.2;rw[Array.all_eq_true];intro i hi;have hmem:((#[.slice A1 n1 d1,.slice A2 n2 d2,.slice A3 n3 d3,k0,k1,k2,k3,k4,k5,k6,k7,k8,k9,k10,k11,k12,k13,.slice (some ⟨w4.heap.size,0,none⟩) 1 1,.slice none 0 0,.int .i64 0,.int .i64 pen]:Array Value))[i]∈(#[.slice A1 n1 d1,.slice A2 n2 d2,.slice A3 n3 d3,k0,k1,k2,k3,k4,k5,k6,k7,k8,k9,k10,k11,k12,k13,.slice (some ⟨w4.heap.size,0,none⟩) 1 1,.slice none 0 0,.int .i64 0,.int .i64 pen]:Array Value).toList:=by simp
    have hcs2 : ∀ u∈([.slice A1 n1 d1,.slice A2 n2 d2,.slice A3 n3 d3]++([k0,k1,k2,k3,k4,k5,k6,k7,k8,k9,k10,k11,k12,k13]++[.slice (some ⟨w4.heap.size,0,none⟩) 1 1,.slice none 0 0,.int .i64 0,.int .i64 pen]):List Value),u.oneCell'=true:=fun u hu=>by
     rcases List.mem_append.1 hu with h|h
     ·simp at h;rcases h with rfl|rfl|rfl <;> rfl
     ·rcases List.mem_append.1 h with h|h
      ·exact h14 u h
      ·simp at h;rcases h with rfl|rfl|rfl|rfl <;> rfl
    exact hcs2 _ hmem
   change wpList _ _ _ _ _ (w6.alloc (.cells zProb 38));generalize w6.alloc (.cells zProb 38)=w7 at*;refine wpList_store_row rfl _ _ _ rfl w6.heap.size #[.slice A1 n1 d1,.slice A2 n2 d2,.slice A3 n3 d3,k0,k1,k2,k3,k4,k5,k6,k7,k8,k9,k10,k11,k12,k13,.slice (some ⟨w4.heap.size,0,none⟩) 1 1,.slice none 0 0,.int .i64 0,.int .i64 pen] (by simp[Act.eval,Act.put]) (by simp[Act.eval,Act.put]) _ _ HXP.out (by kernel_rfl) rfl hone ?_;clear hone;go_wp2_with fail
   go_meet
   have hk : ∀ q,q<w6.heap.size→(w7.setRow w6.heap.size #[.slice A1 n1 d1,.slice A2 n2 d2,.slice A3 n3 d3,k0,k1,k2,k3,k4,k5,k6,k7,k8,k9,k10,k11,k12,k13,.slice (some ⟨w4.heap.size,0,none⟩) 1 1,.slice none 0 0,.int .i64 0,.int .i64 pen]).heap[q]? = w6.heap[q]? :=fun q hq=>(setRow_other _ _ _ _ (by omega)).trans (HK6.out q hq)
   have hk2 : ∀ q,q<w2.heap.size→(w7.setRow w6.heap.size #[.slice A1 n1 d1,.slice A2 n2 d2,.slice A3 n3 d3,k0,k1,k2,k3,k4,k5,k6,k7,k8,k9,k10,k11,k12,k13,.slice (some ⟨w4.heap.size,0,none⟩) 1 1,.slice none 0 0,.int .i64 0,.int .i64 pen]).heap[q]? = w2.heap[q]? :=fun q hq=>(hk q (by omega)).trans (HB26.out.block q hq)
   have hw1:=HB1.out.size;have hww:=(Array.getElem?_eq_some_iff.1 HR1.out).1;refine⟨w6.heap.size,[.slice A1 n1 d1,.slice A2 n2 d2,.slice A3 n3 d3],[k0,k1,k2,k3,k4,k5,k6,k7,k8,k9,k10,k11,k12,k13],.slice (some ⟨w4.heap.size,0,none⟩) 1 1,pen,rfl,⟨(hk2 _ (by omega)).trans HR2.out,setRow_heap _ _ _ _ _ _ HXP.out,⟨by omega,by omega,by simp;omega⟩,(HT2.out.keep fun b hb=>hk2 b hb.2).more fun b hb=>by omega,HCS.out,⟨_,_,_,[dCode 0],rfl, ?_,by decide⟩,Own.nil,below_setRowD HB7.out (by omega)⟩⟩;refine Sl.block (xs:=[dCode 0]) ((hk _ (by omega)).trans HX4.out) ⟨by omega,by omega,by omega⟩ (by decide) fun i x hi =>?_
   have:i=0:=by
    have:=(List.getElem?_eq_some_iff.1 hi).1;have:i<1:=this;omega
   subst this;injection hi with hi
   subst hi;rfl
 case rest =>
 obtain⟨P,v,cs,bv,pen,rfl,hpl⟩:=hcut;obtain⟨A1,n1,d1,A2,n2,d2,A3,n3,d3,rfl, -, -, -⟩:=hpl.tt;obtain⟨k0,k1,k2,k3,k4,k5,k6,k7,k8,k9,k10,k11,k12,k13,rfl⟩:=list14 hpl.con.1;obtain⟨Ab,nb,cb,lb,rfl, -, -⟩:=hpl.bs;have hfl:=hpl.tt.fl.2.2;have hn3:dCount l=n3:=by rw[hfl.len,probTT_len]
 rw[hn3]at HDC;rw[hn3];have HPL:=qH hpl;have HA11:=qH (dataAt_any l A n c 11 wc (HS.out wc hpl.bel) (by decide));have hz11:=(HRG.out 11).1;have g11:(atL l 11).tmod 3=atL l 11%3:=qQ hz11;have g11':IntKind.i64.wrap (atL l 11%3)=atL l 11%3:=qM _ (by omega);have hz12:=(HRG.out 12).1;have g12:(atL l 12).tmod 4=atL l 12%4:=qQ hz12;have g12':IntKind.i64.wrap (atL l 12%4)=atL l 12%4:=qM _ (by omega);clear hpl hfl hz11 hz12 HB1 HR1 hn3 HCN;generalize atL l 11%3=a11 at*;generalize atL l 12%4=a12 at*
 by_cases h11:a11=0
 ·go_upto_region 4 with (go_at_call 32;refine HA11.out.mono ?_;rintro e wa ⟨rfl,hba⟩)
  have hp1:=(HPL.out.next hba).next ((qC wa.heap.size wa).alloc (qD _) (.cells #[.string ⟨#[65,65,65]⟩,.string ⟨#[66,66,66]⟩] 9));have y17:(wa.alloc (.cells #[.string ⟨#[65,65,65]⟩,.string ⟨#[66,66,66]⟩] 9)).cell? ⟨P,17,none⟩=some (.slice Ab nb cb):=block_cell hp1.box 17;have f17:=block_free hp1.box 17;have hl1:=hp1.lt;have hz1:(wa.alloc (.cells #[.string ⟨#[65,65,65]⟩,.string ⟨#[66,66,66]⟩] 9)).heap.size=wa.heap.size+1:=by simp
  have hPa:P<wa.heap.size:=by have:=HPL.out.lt;have:=hba.size;omega
  have hbl:=Sl.block (t:=Ty.str) (S:=fun b=>w.heap.size<b∧b<wa.heap.size+1∧b≠P) (xs:=[dCode 0,dCode 1]) (qK wa (.cells #[.string ⟨#[65,65,65]⟩,.string ⟨#[66,66,66]⟩] 9)) ⟨by omega,by omega,by omega⟩ (by decide) fun i x hi=>by
   have:i=0∨i=1:=by
    have:=(List.getElem?_eq_some_iff.1 hi).1;have:i<2:=this;omega
   rcases this with rfl|rfl
   all_goals
    injection hi with hi
    subst hi;rfl
  have hp2:PL (probTT l) w ((wa.alloc (.cells #[.string ⟨#[65,65,65]⟩,.string ⟨#[66,66,66]⟩] 9)).setCell ⟨P,17,none⟩ (.slice (some ⟨wa.heap.size,0,none⟩) 2 2)) P (wa.heap.size+1) [.slice A1 n1 d1,.slice A2 n2 d2,.slice A3 n3 d3] [k0,k1,k2,k3,k4,k5,k6,k7,k8,k9,k10,k11,k12,k13] (.slice (some ⟨wa.heap.size,0,none⟩) 2 2) (.slice none 0 0) 0 pen []:=(hp1.raise (B':=wa.heap.size+1) (by omega) (by omega)).setB hbl (by decide);rw[World.setCell_alloc_past _ P 17 _ hPa]at hp2;have HP2:=qH hp2;clear hp1 hp2 hl1 hz1 hbl HA11 HPL;go_upto_region 5 with (fail)
  generalize (wa.setCell ⟨P,17,none⟩ (.slice (some ⟨wa.heap.size,0,none⟩) 2 2)).alloc (.cells #[.string ⟨#[65,65,65]⟩,.string ⟨#[66,66,66]⟩] 9)=wb at*;generalize (some (⟨wa.heap.size,0,none⟩:Addr))=Ab2 at*;generalize wa.heap.size+1=B at*;clear y17 f17 hba hPa g11 g11' h11;have HA12:=qH (dataAt_any l A n c 12 wb (HS.out wb HP2.out.bel) (by decide))
  by_cases h12:a12=0
  ·go_upto_region 6 with (go_at_call 32;refine HA12.out.mono ?_;rintro e wd ⟨rfl,hbd⟩)
   have hp2:=HP2.out.next hbd;have y19:wd.cell? ⟨P,19,none⟩=some (.int .i64 0):=block_cell hp2.box 19;have f19:=block_free hp2.box 19;have HP3:=qH (hp2.setH 1);clear hp2 HP2 HA12 hbd g12 g12' h12;go_upto_region 7 with (fail)
   generalize wd.setCell ⟨P,19,none⟩ (.int .i64 1)=we at*;clear y19 f19;go_wp2_with fail
   go_loopw [5] (fun s wr => ∃ (k:Nat) (ov:Value) (os:List Int),k≤n3∧s=.int .i64 k∧PL (probTT l) w wr P B [.slice A1 n1 d1,.slice A2 n2 d2,.slice A3 n3 d3] [k0,k1,k2,k3,k4,k5,k6,k7,k8,k9,k10,k11,k12,k13] (.slice Ab2 2 2) ov 1 pen os∧(k=0∨0<os.length)∧os.length≤k) (fun s _=>n3-(intOf s).toNat)
   case atStart=>exact⟨0,_,[],qV _,rfl,HP3.out,.inl rfl,qD _⟩
   case round =>
    obtain⟨k,ov,os,hk,rfl,hpl,ho,hok⟩:=hrel;clear HP3;have hn35:=HDC.out.2
    by_cases hlt:k<n3
    ·have hfl:=hpl.tt.fl.2.2;have hfn:=hfl.len;obtain⟨fb,o,rfl,hS1,hat⟩:=hfl.flight_at (k:=k) (by omega);obtain⟨fb',o',e0,hS2,hat0⟩:=hfl.flight_at (k:=0) (by omega);injection e0 with e0
     injection e0 with e1 e2
     subst e1 e2;have HK0:Hid (k=0→((probTT l).flights.getD k noFlight)=((probTT l).flights.getD 0 noFlight)):=fun e=>by rw[e]
     have y6:=hat 6 _ rfl;have y7:=hat 7 _ rfl;have y8:=hat 8 _ rfl;have z6:=hat0 6 _ rfl;have z7:=hat0 7 _ rfl;have z8:=hat0 8 _ rfl;rw[Nat.zero_mul,Nat.add_zero]at z6 z7 z8;generalize (probTT l).flights.getD k noFlight=fk at*;generalize (probTT l).flights.getD 0 noFlight=f0 at*;have y2:wr.cell? ⟨P,2,none⟩=some (.slice (some ⟨fb,o,none⟩) n3 d3):=block_cell hpl.box 2;have hlt':(k:Int)<(n3:Int):=by omega
     have hp0:(0:Int)<(n3:Int):=by omega
     have HPL:=qH hpl;have HO:=qH ho;have hNE:=need_any fk.n0 fk.n1 fk.n2 f0.n0 f0.n1 f0.n2;have HBQ:Hid (k=0→(decide (fk.n0=f0.n0)&&(decide (fk.n1=f0.n1)&&decide (fk.n2=f0.n2)))=true):=fun e=>by rw[HK0.out e];simp
     generalize fk.n0=a0' at*;generalize fk.n1=a1' at*;generalize fk.n2=a2' at*;generalize f0.n0=b0' at*;generalize f0.n1=b1' at*;generalize f0.n2=b2' at*;generalize (decide (a0'=b0')&&(decide (a1'=b1')&&decide (a2'=b2')))=bq at*;clear hpl hfl hfn hS1 hS2 hat hat0 ho HK0
     cases bq with
     | true =>
      obtain⟨Ao,co,e9,hso⟩:=HPL.out.own.sl;subst e9;generalize hmoe:os.length=mo at*;have HMO:=qH hmoe;clear hmoe;have y18:wr.cell? ⟨P,18,none⟩=some (.slice Ao mo co):=block_cell HPL.out.box 18;have HPD:Hid (PL (probTT l) w wr.drew P B [.slice A1 n1 d1,.slice A2 n2 d2,.slice (some ⟨fb,o,none⟩) n3 d3] [k0,k1,k2,k3,k4,k5,k6,k7,k8,k9,k10,k11,k12,k13] (.slice Ab2 2 2) (.slice Ao mo co) 1 pen os):=HPL.out.next (below_drewN (qC _ _) 1);clear hso;go_upto_region 10 with (fail)
      go_quiet (fail)
      have HPQ:=qH (HPL.out.next (below_drewN (qC wr.heap.size wr) nq));have y18:(wr.drewN nq).cell? ⟨P,18,none⟩=some (.slice Ao mo co):=block_cell HPQ.out.box 18;have hl2:=HPQ.out.lt;have hl3:=HPQ.out.own;clear y2 y6 y7 y8 z6 z7 z8 hNE HPD;generalize wr.drewN nq=wq at*;have HAL:Hid (Own (Ty.int .i64) 3 (wq.alloc (.cells #[.int .i64 k] 3)) B (.slice Ao mo co) os):=hl3.alloc _;clear hl3;go_wp2_with (at_builtin;refine wpList_push (t:=Ty.int .i64) rfl _ _ _ rfl 8 elem_ints rfl HAL.out wq.heap.size (k:Int) (fun _=>False) rfl ⟨[.int .i64 k],rfl,at_ofBlock (qK _ _)⟩ (fun _ h=>h.elim) ?c1 (by decide) ?c2 ?_)
      case c1=>have:=HMO.out;have:=HDC.out;omega
      case c2=>first|omega|(simp;omega)
      intro v' w9 hown9 hgr9;have hp9:=HPQ.out.next ((qC wq.heap.size wq).alloc (qD _) (.cells #[.int .i64 k] 3));obtain⟨A9,c9,rfl, -⟩:=hown9.sl;have y18':w9.cell? ⟨P,18,none⟩=some (.slice Ao mo co):=block_cell (hp9.box8 hgr9) 18;have f18:=block_free (hp9.box8 hgr9) 18;have HP10:=qH (hp9.push hgr9 hown9);have HL9:Hid ((os++[(k:Int)]).length=mo+1):=by show _=_;rw[List.length_append,HMO.out];rfl
      generalize os++[(k:Int)]=os9 at*;generalize hm9e:os9.length=m9 at*;have HM9:=qH hm9e;clear hm9e;clear hown9 hgr9 HAL HPQ hp9;go_wp2_with fail
      go_roundw
      case rel=>exact⟨k+1,_,os9,by omega,by go_num,HP10.out,.inr (by have:=HM9.out;have:=HL9.out;omega),by have:=HM9.out;have:=HL9.out;omega⟩
      case measure=>simp[intOf];omega
     | false =>
      have hk0:k≠0:=fun e=>by have:=HBQ.out e;cases this
      go_upto_region 10 with (fail)
      go_quiet (fail)
      go_wp2_with fail
      go_roundw
      case rel=>exact⟨k+1,ov,os,by omega,by go_num,HPL.out.next (below_drewN (qC wr.heap.size wr) _),.inr (by have:=HO.out;omega),by omega⟩
      case measure=>simp[intOf];omega
    ·have hkn:n3=k:=by omega
     subst hkn;obtain⟨Ao,co,rfl,hso⟩:=hpl.own.sl;have hol:0<os.length:=by have:=HDC.out;omega
     have HDN:=qH (hpl.done hol (by have:=HDC.out;omega));have HBL:Hid (Below w.heap.size w (wr.setRow w.heap.size (PRow [.slice A1 n1 d1,.slice A2 n2 d2,.slice A3 n3 d3] [k0,k1,k2,k3,k4,k5,k6,k7,k8,k9,k10,k11,k12,k13] (.slice Ab2 2 2) (.slice Ao os.length co) 1 pen))):=below_setRowD hpl.bel (qD _);have HBX:Hid (wr.heap[P]? = some (.cells #[.slice A1 n1 d1,.slice A2 n2 d2,.slice A3 n3 d3,k0,k1,k2,k3,k4,k5,k6,k7,k8,k9,k10,k11,k12,k13,.slice Ab2 2 2,.slice Ao os.length co,.int .i64 1,.int .i64 pen] 38 (0,0))):=hpl.box;have HRS:=qH hpl.res;have HCO:=qH hpl.con;generalize os.length=mo at*;clear hpl hso hol ho hok;go_upto_region 12 with (fail)
     refine wp_region_lit ?_;refine wpList_load_row rfl _ _ rfl P (by simp[Act.eval]) _ _ _ _ HBX.out Tryz.underlying38 rfl (by kernel_rfl) ?_;have hone:((#[.slice A1 n1 d1,.slice A2 n2 d2,.slice A3 n3 d3,k0,k1,k2,k3,k4,k5,k6,k7,k8,k9,k10,k11,k12,k13,.slice Ab2 2 2,.slice Ao mo co,.int .i64 1,.int .i64 pen]:Array Value)).all (·.oneCell')=true:=by
      have h14:=HCO.out.2;rw[Array.all_eq_true];intro i hi;have hmem:((#[.slice A1 n1 d1,.slice A2 n2 d2,.slice A3 n3 d3,k0,k1,k2,k3,k4,k5,k6,k7,k8,k9,k10,k11,k12,k13,.slice Ab2 2 2,.slice Ao mo co,.int .i64 1,.int .i64 pen]:Array Value))[i]∈(#[.slice A1 n1 d1,.slice A2 n2 d2,.slice A3 n3 d3,k0,k1,k2,k3,k4,k5,k6,k7,k8,k9,k10,k11,k12,k13,.slice Ab2 2 2,.slice Ao mo co,.int .i64 1,.int .i64 pen]:Array Value).toList:=by simp
      have hcs2 : ∀ u∈([.slice A1 n1 d1,.slice A2 n2 d2,.slice A3 n3 d3]++([k0,k1,k2,k3,k4,k5,k6,k7,k8,k9,k10,k11,k12,k13]++[(.slice Ab2 2 2),.slice Ao mo co,.int .i64 1,.int .i64 pen]):List Value),u.oneCell'=true:=fun u hu=>by
       rcases List.mem_append.1 hu with h|h
       ·simp at h;rcases h with rfl|rfl|rfl <;> rfl
       ·rcases List.mem_append.1 h with h|h
        ·exact h14 u h
        ·simp at h;rcases h with rfl|rfl|rfl|rfl <;> rfl
      exact hcs2 _ hmem
     refine wpList_store_row rfl _ _ _ rfl w.heap.size #[.slice A1 n1 d1,.slice A2 n2 d2,.slice A3 n3 d3,k0,k1,k2,k3,k4,k5,k6,k7,k8,k9,k10,k11,k12,k13,.slice Ab2 2 2,.slice Ao mo co,.int .i64 1,.int .i64 pen] (by simp[Act.eval,Act.put]) (by simp[Act.eval,Act.put]) _ _ HRS.out (by kernel_rfl) rfl hone ?_;have HX5:Hid ((wr.setRow w.heap.size #[.slice A1 n1 d1,.slice A2 n2 d2,.slice A3 n3 d3,k0,k1,k2,k3,k4,k5,k6,k7,k8,k9,k10,k11,k12,k13,.slice Ab2 2 2,.slice Ao mo co,.int .i64 1,.int .i64 pen]).heap[w.heap.size]? = _):=setRow_heap _ _ _ _ _ _ HRS.out;change Hid (ProbIs (wr.setRow w.heap.size #[.slice A1 n1 d1,.slice A2 n2 d2,.slice A3 n3 d3,k0,k1,k2,k3,k4,k5,k6,k7,k8,k9,k10,k11,k12,k13,.slice Ab2 2 2,.slice Ao mo co,.int .i64 1,.int .i64 pen]) (all_ (wr.setRow w.heap.size #[.slice A1 n1 d1,.slice A2 n2 d2,.slice A3 n3 d3,k0,k1,k2,k3,k4,k5,k6,k7,k8,k9,k10,k11,k12,k13,.slice Ab2 2 2,.slice Ao mo co,.int .i64 1,.int .i64 pen])) _ _) at HDN;change Hid (Below w.heap.size w (wr.setRow w.heap.size #[.slice A1 n1 d1,.slice A2 n2 d2,.slice A3 n3 d3,k0,k1,k2,k3,k4,k5,k6,k7,k8,k9,k10,k11,k12,k13,.slice Ab2 2 2,.slice Ao mo co,.int .i64 1,.int .i64 pen])) at HBL;generalize wr.setRow w.heap.size #[.slice A1 n1 d1,.slice A2 n2 d2,.slice A3 n3 d3,k0,k1,k2,k3,k4,k5,k6,k7,k8,k9,k10,k11,k12,k13,.slice Ab2 2 2,.slice Ao mo co,.int .i64 1,.int .i64 pen]=wz at*;clear hone HBX HRS;go_wp2_with fail
     refine bodyPost_ret (v:=.agg #[.slice A1 n1 d1,.slice A2 n2 d2,.slice A3 n3 d3,k0,k1,k2,k3,k4,k5,k6,k7,k8,k9,k10,k11,k12,k13,.slice Ab2 2 2,.slice Ao mo co,.int .i64 1,.int .i64 pen]) (results_cell_row Tryz.results11 _ _ w.heap.size _ _ _ _ (by simp[Act.put]) HX5.out Tryz.underlying38 rfl (by kernel_rfl)) rfl ?_;exact⟨_,rfl,HDN.out,HBL.out⟩
  ·have h12':(a12==0)=false:=by simpa using h12
   go_upto_region 7 with (go_at_call 32;refine HA12.out.mono ?_;rintro e we ⟨rfl,hbd⟩)
   have HP3:=qH (HP2.out.next hbd);clear HP2 HA12 hbd g12 g12' h12 h12';go_wp2_with fail
   go_loopw [5] (fun s wr => ∃ (k:Nat) (ov:Value) (os:List Int),k≤n3∧s=.int .i64 k∧PL (probTT l) w wr P B [.slice A1 n1 d1,.slice A2 n2 d2,.slice A3 n3 d3] [k0,k1,k2,k3,k4,k5,k6,k7,k8,k9,k10,k11,k12,k13] (.slice Ab2 2 2) ov 0 pen os∧(k=0∨0<os.length)∧os.length≤k) (fun s _=>n3-(intOf s).toNat)
   case atStart=>exact⟨0,_,[],qV _,rfl,HP3.out,.inl rfl,qD _⟩
   case round =>
    obtain⟨k,ov,os,hk,rfl,hpl,ho,hok⟩:=hrel;clear HP3;have hn35:=HDC.out.2
    by_cases hlt:k<n3
    ·have hfl:=hpl.tt.fl.2.2;have hfn:=hfl.len;obtain⟨fb,o,rfl,hS1,hat⟩:=hfl.flight_at (k:=k) (by omega);obtain⟨fb',o',e0,hS2,hat0⟩:=hfl.flight_at (k:=0) (by omega);injection e0 with e0
     injection e0 with e1 e2
     subst e1 e2;have HK0:Hid (k=0→((probTT l).flights.getD k noFlight)=((probTT l).flights.getD 0 noFlight)):=fun e=>by rw[e]
     have y6:=hat 6 _ rfl;have y7:=hat 7 _ rfl;have y8:=hat 8 _ rfl;have z6:=hat0 6 _ rfl;have z7:=hat0 7 _ rfl;have z8:=hat0 8 _ rfl;rw[Nat.zero_mul,Nat.add_zero]at z6 z7 z8;generalize (probTT l).flights.getD k noFlight=fk at*;generalize (probTT l).flights.getD 0 noFlight=f0 at*;have y2:wr.cell? ⟨P,2,none⟩=some (.slice (some ⟨fb,o,none⟩) n3 d3):=block_cell hpl.box 2;have hlt':(k:Int)<(n3:Int):=by omega
     have hp0:(0:Int)<(n3:Int):=by omega
     have HPL:=qH hpl;have HO:=qH ho;have hNE:=need_any fk.n0 fk.n1 fk.n2 f0.n0 f0.n1 f0.n2;have HBQ:Hid (k=0→(decide (fk.n0=f0.n0)&&(decide (fk.n1=f0.n1)&&decide (fk.n2=f0.n2)))=true):=fun e=>by rw[HK0.out e];simp
     generalize fk.n0=a0' at*;generalize fk.n1=a1' at*;generalize fk.n2=a2' at*;generalize f0.n0=b0' at*;generalize f0.n1=b1' at*;generalize f0.n2=b2' at*;generalize (decide (a0'=b0')&&(decide (a1'=b1')&&decide (a2'=b2')))=bq at*;clear hpl hfl hfn hS1 hS2 hat hat0 ho HK0
     cases bq with
     | true =>
      obtain⟨Ao,co,e9,hso⟩:=HPL.out.own.sl;subst e9;generalize hmoe:os.length=mo at*;have HMO:=qH hmoe;clear hmoe;have y18:wr.cell? ⟨P,18,none⟩=some (.slice Ao mo co):=block_cell HPL.out.box 18;have HPD:Hid (PL (probTT l) w wr.drew P B [.slice A1 n1 d1,.slice A2 n2 d2,.slice (some ⟨fb,o,none⟩) n3 d3] [k0,k1,k2,k3,k4,k5,k6,k7,k8,k9,k10,k11,k12,k13] (.slice Ab2 2 2) (.slice Ao mo co) 0 pen os):=HPL.out.next (below_drewN (qC _ _) 1);clear hso;go_upto_region 10 with (fail)
      go_quiet (fail)
      have HPQ:=qH (HPL.out.next (below_drewN (qC wr.heap.size wr) nq));have y18:(wr.drewN nq).cell? ⟨P,18,none⟩=some (.slice Ao mo co):=block_cell HPQ.out.box 18;have hl2:=HPQ.out.lt;have hl3:=HPQ.out.own;clear y2 y6 y7 y8 z6 z7 z8 hNE HPD;generalize wr.drewN nq=wq at*;have HAL:Hid (Own (Ty.int .i64) 3 (wq.alloc (.cells #[.int .i64 k] 3)) B (.slice Ao mo co) os):=hl3.alloc _;clear hl3;go_wp2_with (at_builtin;refine wpList_push (t:=Ty.int .i64) rfl _ _ _ rfl 8 elem_ints rfl HAL.out wq.heap.size (k:Int) (fun _=>False) rfl ⟨[.int .i64 k],rfl,at_ofBlock (qK _ _)⟩ (fun _ h=>h.elim) ?c1 (by decide) ?c2 ?_)
      case c1=>have:=HMO.out;have:=HDC.out;omega
      case c2=>first|omega|(simp;omega)
      intro v' w9 hown9 hgr9;have hp9:=HPQ.out.next ((qC wq.heap.size wq).alloc (qD _) (.cells #[.int .i64 k] 3));obtain⟨A9,c9,rfl, -⟩:=hown9.sl;have y18':w9.cell? ⟨P,18,none⟩=some (.slice Ao mo co):=block_cell (hp9.box8 hgr9) 18;have f18:=block_free (hp9.box8 hgr9) 18;have HP10:=qH (hp9.push hgr9 hown9);have HL9:Hid ((os++[(k:Int)]).length=mo+1):=by show _=_;rw[List.length_append,HMO.out];rfl
      generalize os++[(k:Int)]=os9 at*;generalize hm9e:os9.length=m9 at*;have HM9:=qH hm9e;clear hm9e;clear hown9 hgr9 HAL HPQ hp9;go_wp2_with fail
      go_roundw
      case rel=>exact⟨k+1,_,os9,by omega,by go_num,HP10.out,.inr (by have:=HM9.out;have:=HL9.out;omega),by have:=HM9.out;have:=HL9.out;omega⟩
      case measure=>simp[intOf];omega
     | false =>
      have hk0:k≠0:=fun e=>by have:=HBQ.out e;cases this
      go_upto_region 10 with (fail)
      go_quiet (fail)
      go_wp2_with fail
      go_roundw
      case rel=>exact⟨k+1,ov,os,by omega,by go_num,HPL.out.next (below_drewN (qC wr.heap.size wr) _),.inr (by have:=HO.out;omega),by omega⟩
      case measure=>simp[intOf];omega
    ·have hkn:n3=k:=by omega
     subst hkn;obtain⟨Ao,co,rfl,hso⟩:=hpl.own.sl;have hol:0<os.length:=by have:=HDC.out;omega
     have HDN:=qH (hpl.done hol (by have:=HDC.out;omega));have HBL:Hid (Below w.heap.size w (wr.setRow w.heap.size (PRow [.slice A1 n1 d1,.slice A2 n2 d2,.slice A3 n3 d3] [k0,k1,k2,k3,k4,k5,k6,k7,k8,k9,k10,k11,k12,k13] (.slice Ab2 2 2) (.slice Ao os.length co) 0 pen))):=below_setRowD hpl.bel (qD _);have HBX:Hid (wr.heap[P]? = some (.cells #[.slice A1 n1 d1,.slice A2 n2 d2,.slice A3 n3 d3,k0,k1,k2,k3,k4,k5,k6,k7,k8,k9,k10,k11,k12,k13,.slice Ab2 2 2,.slice Ao os.length co,.int .i64 0,.int .i64 pen] 38 (0,0))):=hpl.box;have HRS:=qH hpl.res;have HCO:=qH hpl.con;generalize os.length=mo at*;clear hpl hso hol ho hok;go_upto_region 12 with (fail)
     refine wp_region_lit ?_;refine wpList_load_row rfl _ _ rfl P (by simp[Act.eval]) _ _ _ _ HBX.out Tryz.underlying38 rfl (by kernel_rfl) ?_;have hone:((#[.slice A1 n1 d1,.slice A2 n2 d2,.slice A3 n3 d3,k0,k1,k2,k3,k4,k5,k6,k7,k8,k9,k10,k11,k12,k13,.slice Ab2 2 2,.slice Ao mo co,.int .i64 0,.int .i64 pen]:Array Value)).all (·.oneCell')=true:=by
      have h14:=HCO.out.2;rw[Array.all_eq_true];intro i hi;have hmem:((#[.slice A1 n1 d1,.slice A2 n2 d2,.slice A3 n3 d3,k0,k1,k2,k3,k4,k5,k6,k7,k8,k9,k10,k11,k12,k13,.slice Ab2 2 2,.slice Ao mo co,.int .i64 0,.int .i64 pen]:Array Value))[i]∈(#[.slice A1 n1 d1,.slice A2 n2 d2,.slice A3 n3 d3,k0,k1,k2,k3,k4,k5,k6,k7,k8,k9,k10,k11,k12,k13,.slice Ab2 2 2,.slice Ao mo co,.int .i64 0,.int .i64 pen]:Array Value).toList:=by simp
      have hcs2 : ∀ u∈([.slice A1 n1 d1,.slice A2 n2 d2,.slice A3 n3 d3]++([k0,k1,k2,k3,k4,k5,k6,k7,k8,k9,k10,k11,k12,k13]++[(.slice Ab2 2 2),.slice Ao mo co,.int .i64 0,.int .i64 pen]):List Value),u.oneCell'=true:=fun u hu=>by
       rcases List.mem_append.1 hu with h|h
       ·simp at h;rcases h with rfl|rfl|rfl <;> rfl
       ·rcases List.mem_append.1 h with h|h
        ·exact h14 u h
        ·simp at h;rcases h with rfl|rfl|rfl|rfl <;> rfl
      exact hcs2 _ hmem
     refine wpList_store_row rfl _ _ _ rfl w.heap.size #[.slice A1 n1 d1,.slice A2 n2 d2,.slice A3 n3 d3,k0,k1,k2,k3,k4,k5,k6,k7,k8,k9,k10,k11,k12,k13,.slice Ab2 2 2,.slice Ao mo co,.int .i64 0,.int .i64 pen] (by simp[Act.eval,Act.put]) (by simp[Act.eval,Act.put]) _ _ HRS.out (by kernel_rfl) rfl hone ?_;have HX5:Hid ((wr.setRow w.heap.size #[.slice A1 n1 d1,.slice A2 n2 d2,.slice A3 n3 d3,k0,k1,k2,k3,k4,k5,k6,k7,k8,k9,k10,k11,k12,k13,.slice Ab2 2 2,.slice Ao mo co,.int .i64 0,.int .i64 pen]).heap[w.heap.size]? = _):=setRow_heap _ _ _ _ _ _ HRS.out;change Hid (ProbIs (wr.setRow w.heap.size #[.slice A1 n1 d1,.slice A2 n2 d2,.slice A3 n3 d3,k0,k1,k2,k3,k4,k5,k6,k7,k8,k9,k10,k11,k12,k13,.slice Ab2 2 2,.slice Ao mo co,.int .i64 0,.int .i64 pen]) (all_ (wr.setRow w.heap.size #[.slice A1 n1 d1,.slice A2 n2 d2,.slice A3 n3 d3,k0,k1,k2,k3,k4,k5,k6,k7,k8,k9,k10,k11,k12,k13,.slice Ab2 2 2,.slice Ao mo co,.int .i64 0,.int .i64 pen])) _ _) at HDN;change Hid (Below w.heap.size w (wr.setRow w.heap.size #[.slice A1 n1 d1,.slice A2 n2 d2,.slice A3 n3 d3,k0,k1,k2,k3,k4,k5,k6,k7,k8,k9,k10,k11,k12,k13,.slice Ab2 2 2,.slice Ao mo co,.int .i64 0,.int .i64 pen])) at HBL;generalize wr.setRow w.heap.size #[.slice A1 n1 d1,.slice A2 n2 d2,.slice A3 n3 d3,k0,k1,k2,k3,k4,k5,k6,k7,k8,k9,k10,k11,k12,k13,.slice Ab2 2 2,.slice Ao mo co,.int .i64 0,.int .i64 pen]=wz at*;clear hone HBX HRS;go_wp2_with fail
     refine bodyPost_ret (v:=.agg #[.slice A1 n1 d1,.slice A2 n2 d2,.slice A3 n3 d3,k0,k1,k2,k3,k4,k5,k6,k7,k8,k9,k10,k11,k12,k13,.slice Ab2 2 2,.slice Ao mo co,.int .i64 0,.int .i64 pen]) (results_cell_row Tryz.results11 _ _ w.heap.size _ _ _ _ (by simp[Act.put]) HX5.out Tryz.underlying38 rfl (by kernel_rfl)) rfl ?_;exact⟨_,rfl,HDN.out,HBL.out⟩
 ·have h11':(a11==0)=false:=by simpa using h11
  go_upto_region 5 with (go_at_call 32;refine HA11.out.mono ?_;rintro e wb ⟨rfl,hba⟩)
  have HP2:=qH (HPL.out.next hba);clear HA11 HPL g11 g11' h11 h11' hba;generalize P+1=B at*;have HA12:=qH (dataAt_any l A n c 12 wb (HS.out wb HP2.out.bel) (by decide))
  by_cases h12:a12=0
  ·go_upto_region 6 with (go_at_call 32;refine HA12.out.mono ?_;rintro e wd ⟨rfl,hbd⟩)
   have hp2:=HP2.out.next hbd;have y19:wd.cell? ⟨P,19,none⟩=some (.int .i64 0):=block_cell hp2.box 19;have f19:=block_free hp2.box 19;have HP3:=qH (hp2.setH 1);clear hp2 HP2 HA12 hbd g12 g12' h12;go_upto_region 7 with (fail)
   generalize wd.setCell ⟨P,19,none⟩ (.int .i64 1)=we at*;clear y19 f19;go_wp2_with fail
   go_loopw [5] (fun s wr => ∃ (k:Nat) (ov:Value) (os:List Int),k≤n3∧s=.int .i64 k∧PL (probTT l) w wr P B [.slice A1 n1 d1,.slice A2 n2 d2,.slice A3 n3 d3] [k0,k1,k2,k3,k4,k5,k6,k7,k8,k9,k10,k11,k12,k13] (.slice Ab nb cb) ov 1 pen os∧(k=0∨0<os.length)∧os.length≤k) (fun s _=>n3-(intOf s).toNat)
   case atStart=>exact⟨0,_,[],qV _,rfl,HP3.out,.inl rfl,qD _⟩
   case round =>
    obtain⟨k,ov,os,hk,rfl,hpl,ho,hok⟩:=hrel;clear HP3;have hn35:=HDC.out.2
    by_cases hlt:k<n3
    ·have hfl:=hpl.tt.fl.2.2;have hfn:=hfl.len;obtain⟨fb,o,rfl,hS1,hat⟩:=hfl.flight_at (k:=k) (by omega);obtain⟨fb',o',e0,hS2,hat0⟩:=hfl.flight_at (k:=0) (by omega);injection e0 with e0
     injection e0 with e1 e2
     subst e1 e2;have HK0:Hid (k=0→((probTT l).flights.getD k noFlight)=((probTT l).flights.getD 0 noFlight)):=fun e=>by rw[e]
     have y6:=hat 6 _ rfl;have y7:=hat 7 _ rfl;have y8:=hat 8 _ rfl;have z6:=hat0 6 _ rfl;have z7:=hat0 7 _ rfl;have z8:=hat0 8 _ rfl;rw[Nat.zero_mul,Nat.add_zero]at z6 z7 z8;generalize (probTT l).flights.getD k noFlight=fk at*;generalize (probTT l).flights.getD 0 noFlight=f0 at*;have y2:wr.cell? ⟨P,2,none⟩=some (.slice (some ⟨fb,o,none⟩) n3 d3):=block_cell hpl.box 2;have hlt':(k:Int)<(n3:Int):=by omega
     have hp0:(0:Int)<(n3:Int):=by omega
     have HPL:=qH hpl;have HO:=qH ho;have hNE:=need_any fk.n0 fk.n1 fk.n2 f0.n0 f0.n1 f0.n2;have HBQ:Hid (k=0→(decide (fk.n0=f0.n0)&&(decide (fk.n1=f0.n1)&&decide (fk.n2=f0.n2)))=true):=fun e=>by rw[HK0.out e];simp
     generalize fk.n0=a0' at*;generalize fk.n1=a1' at*;generalize fk.n2=a2' at*;generalize f0.n0=b0' at*;generalize f0.n1=b1' at*;generalize f0.n2=b2' at*;generalize (decide (a0'=b0')&&(decide (a1'=b1')&&decide (a2'=b2')))=bq at*;clear hpl hfl hfn hS1 hS2 hat hat0 ho HK0
     cases bq with
     | true =>
      obtain⟨Ao,co,e9,hso⟩:=HPL.out.own.sl;subst e9;generalize hmoe:os.length=mo at*;have HMO:=qH hmoe;clear hmoe;have y18:wr.cell? ⟨P,18,none⟩=some (.slice Ao mo co):=block_cell HPL.out.box 18;have HPD:Hid (PL (probTT l) w wr.drew P B [.slice A1 n1 d1,.slice A2 n2 d2,.slice (some ⟨fb,o,none⟩) n3 d3] [k0,k1,k2,k3,k4,k5,k6,k7,k8,k9,k10,k11,k12,k13] (.slice Ab nb cb) (.slice Ao mo co) 1 pen os):=HPL.out.next (below_drewN (qC _ _) 1);clear hso;go_upto_region 10 with (fail)
      go_quiet (fail)
      have HPQ:=qH (HPL.out.next (below_drewN (qC wr.heap.size wr) nq));have y18:(wr.drewN nq).cell? ⟨P,18,none⟩=some (.slice Ao mo co):=block_cell HPQ.out.box 18;have hl2:=HPQ.out.lt;have hl3:=HPQ.out.own;clear y2 y6 y7 y8 z6 z7 z8 hNE HPD;generalize wr.drewN nq=wq at*;have HAL:Hid (Own (Ty.int .i64) 3 (wq.alloc (.cells #[.int .i64 k] 3)) B (.slice Ao mo co) os):=hl3.alloc _;clear hl3;go_wp2_with (at_builtin;refine wpList_push (t:=Ty.int .i64) rfl _ _ _ rfl 8 elem_ints rfl HAL.out wq.heap.size (k:Int) (fun _=>False) rfl ⟨[.int .i64 k],rfl,at_ofBlock (qK _ _)⟩ (fun _ h=>h.elim) ?c1 (by decide) ?c2 ?_)
      case c1=>have:=HMO.out;have:=HDC.out;omega
      case c2=>first|omega|(simp;omega)
      intro v' w9 hown9 hgr9;have hp9:=HPQ.out.next ((qC wq.heap.size wq).alloc (qD _) (.cells #[.int .i64 k] 3));obtain⟨A9,c9,rfl, -⟩:=hown9.sl;have y18':w9.cell? ⟨P,18,none⟩=some (.slice Ao mo co):=block_cell (hp9.box8 hgr9) 18;have f18:=block_free (hp9.box8 hgr9) 18;have HP10:=qH (hp9.push hgr9 hown9);have HL9:Hid ((os++[(k:Int)]).length=mo+1):=by show _=_;rw[List.length_append,HMO.out];rfl
      generalize os++[(k:Int)]=os9 at*;generalize hm9e:os9.length=m9 at*;have HM9:=qH hm9e;clear hm9e;clear hown9 hgr9 HAL HPQ hp9;go_wp2_with fail
      go_roundw
      case rel=>exact⟨k+1,_,os9,by omega,by go_num,HP10.out,.inr (by have:=HM9.out;have:=HL9.out;omega),by have:=HM9.out;have:=HL9.out;omega⟩
      case measure=>simp[intOf];omega
     | false =>
      have hk0:k≠0:=fun e=>by have:=HBQ.out e;cases this
      go_upto_region 10 with (fail)
      go_quiet (fail)
      go_wp2_with fail
      go_roundw
      case rel=>exact⟨k+1,ov,os,by omega,by go_num,HPL.out.next (below_drewN (qC wr.heap.size wr) _),.inr (by have:=HO.out;omega),by omega⟩
      case measure=>simp[intOf];omega
    ·have hkn:n3=k:=by omega
     subst hkn;obtain⟨Ao,co,rfl,hso⟩:=hpl.own.sl;have hol:0<os.length:=by have:=HDC.out;omega
     have HDN:=qH (hpl.done hol (by have:=HDC.out;omega));have HBL:Hid (Below w.heap.size w (wr.setRow w.heap.size (PRow [.slice A1 n1 d1,.slice A2 n2 d2,.slice A3 n3 d3] [k0,k1,k2,k3,k4,k5,k6,k7,k8,k9,k10,k11,k12,k13] (.slice Ab nb cb) (.slice Ao os.length co) 1 pen))):=below_setRowD hpl.bel (qD _);have HBX:Hid (wr.heap[P]? = some (.cells #[.slice A1 n1 d1,.slice A2 n2 d2,.slice A3 n3 d3,k0,k1,k2,k3,k4,k5,k6,k7,k8,k9,k10,k11,k12,k13,.slice Ab nb cb,.slice Ao os.length co,.int .i64 1,.int .i64 pen] 38 (0,0))):=hpl.box;have HRS:=qH hpl.res;have HCO:=qH hpl.con;generalize os.length=mo at*;clear hpl hso hol ho hok;go_upto_region 12 with (fail)
     refine wp_region_lit ?_;refine wpList_load_row rfl _ _ rfl P (by simp[Act.eval]) _ _ _ _ HBX.out Tryz.underlying38 rfl (by kernel_rfl) ?_;have hone:((#[.slice A1 n1 d1,.slice A2 n2 d2,.slice A3 n3 d3,k0,k1,k2,k3,k4,k5,k6,k7,k8,k9,k10,k11,k12,k13,.slice Ab nb cb,.slice Ao mo co,.int .i64 1,.int .i64 pen]:Array Value)).all (·.oneCell')=true:=by
      have h14:=HCO.out.2;rw[Array.all_eq_true];intro i hi;have hmem:((#[.slice A1 n1 d1,.slice A2 n2 d2,.slice A3 n3 d3,k0,k1,k2,k3,k4,k5,k6,k7,k8,k9,k10,k11,k12,k13,.slice Ab nb cb,.slice Ao mo co,.int .i64 1,.int .i64 pen]:Array Value))[i]∈(#[.slice A1 n1 d1,.slice A2 n2 d2,.slice A3 n3 d3,k0,k1,k2,k3,k4,k5,k6,k7,k8,k9,k10,k11,k12,k13,.slice Ab nb cb,.slice Ao mo co,.int .i64 1,.int .i64 pen]:Array Value).toList:=by simp
      have hcs2 : ∀ u∈([.slice A1 n1 d1,.slice A2 n2 d2,.slice A3 n3 d3]++([k0,k1,k2,k3,k4,k5,k6,k7,k8,k9,k10,k11,k12,k13]++[(.slice Ab nb cb),.slice Ao mo co,.int .i64 1,.int .i64 pen]):List Value),u.oneCell'=true:=fun u hu=>by
       rcases List.mem_append.1 hu with h|h
       ·simp at h;rcases h with rfl|rfl|rfl <;> rfl
       ·rcases List.mem_append.1 h with h|h
        ·exact h14 u h
        ·simp at h;rcases h with rfl|rfl|rfl|rfl <;> rfl
      exact hcs2 _ hmem
     refine wpList_store_row rfl _ _ _ rfl w.heap.size #[.slice A1 n1 d1,.slice A2 n2 d2,.slice A3 n3 d3,k0,k1,k2,k3,k4,k5,k6,k7,k8,k9,k10,k11,k12,k13,.slice Ab nb cb,.slice Ao mo co,.int .i64 1,.int .i64 pen] (by simp[Act.eval,Act.put]) (by simp[Act.eval,Act.put]) _ _ HRS.out (by kernel_rfl) rfl hone ?_;have HX5:Hid ((wr.setRow w.heap.size #[.slice A1 n1 d1,.slice A2 n2 d2,.slice A3 n3 d3,k0,k1,k2,k3,k4,k5,k6,k7,k8,k9,k10,k11,k12,k13,.slice Ab nb cb,.slice Ao mo co,.int .i64 1,.int .i64 pen]).heap[w.heap.size]? = _):=setRow_heap _ _ _ _ _ _ HRS.out;change Hid (ProbIs (wr.setRow w.heap.size #[.slice A1 n1 d1,.slice A2 n2 d2,.slice A3 n3 d3,k0,k1,k2,k3,k4,k5,k6,k7,k8,k9,k10,k11,k12,k13,.slice Ab nb cb,.slice Ao mo co,.int .i64 1,.int .i64 pen]) (all_ (wr.setRow w.heap.size #[.slice A1 n1 d1,.slice A2 n2 d2,.slice A3 n3 d3,k0,k1,k2,k3,k4,k5,k6,k7,k8,k9,k10,k11,k12,k13,.slice Ab nb cb,.slice Ao mo co,.int .i64 1,.int .i64 pen])) _ _) at HDN;change Hid (Below w.heap.size w (wr.setRow w.heap.size #[.slice A1 n1 d1,.slice A2 n2 d2,.slice A3 n3 d3,k0,k1,k2,k3,k4,k5,k6,k7,k8,k9,k10,k11,k12,k13,.slice Ab nb cb,.slice Ao mo co,.int .i64 1,.int .i64 pen])) at HBL;generalize wr.setRow w.heap.size #[.slice A1 n1 d1,.slice A2 n2 d2,.slice A3 n3 d3,k0,k1,k2,k3,k4,k5,k6,k7,k8,k9,k10,k11,k12,k13,.slice Ab nb cb,.slice Ao mo co,.int .i64 1,.int .i64 pen]=wz at*;clear hone HBX HRS;go_wp2_with fail
     refine bodyPost_ret (v:=.agg #[.slice A1 n1 d1,.slice A2 n2 d2,.slice A3 n3 d3,k0,k1,k2,k3,k4,k5,k6,k7,k8,k9,k10,k11,k12,k13,.slice Ab nb cb,.slice Ao mo co,.int .i64 1,.int .i64 pen]) (results_cell_row Tryz.results11 _ _ w.heap.size _ _ _ _ (by simp[Act.put]) HX5.out Tryz.underlying38 rfl (by kernel_rfl)) rfl ?_;exact⟨_,rfl,HDN.out,HBL.out⟩
  ·have h12':(a12==0)=false:=by simpa using h12
   go_upto_region 7 with (go_at_call 32;refine HA12.out.mono ?_;rintro e we ⟨rfl,hbd⟩)
   have HP3:=qH (HP2.out.next hbd);clear HP2 HA12 hbd g12 g12' h12 h12';go_wp2_with fail
   go_loopw [5] (fun s wr => ∃ (k:Nat) (ov:Value) (os:List Int),k≤n3∧s=.int .i64 k∧PL (probTT l) w wr P B [.slice A1 n1 d1,.slice A2 n2 d2,.slice A3 n3 d3] [k0,k1,k2,k3,k4,k5,k6,k7,k8,k9,k10,k11,k12,k13] (.slice Ab nb cb) ov 0 pen os∧(k=0∨0<os.length)∧os.length≤k) (fun s _=>n3-(intOf s).toNat)
   case atStart=>exact⟨0,_,[],qV _,rfl,HP3.out,.inl rfl,qD _⟩
   case round =>
    obtain⟨k,ov,os,hk,rfl,hpl,ho,hok⟩:=hrel;clear HP3;have hn35:=HDC.out.2
    by_cases hlt:k<n3
    ·have hfl:=hpl.tt.fl.2.2;have hfn:=hfl.len;obtain⟨fb,o,rfl,hS1,hat⟩:=hfl.flight_at (k:=k) (by omega);obtain⟨fb',o',e0,hS2,hat0⟩:=hfl.flight_at (k:=0) (by omega);injection e0 with e0
     injection e0 with e1 e2
     subst e1 e2;have HK0:Hid (k=0→((probTT l).flights.getD k noFlight)=((probTT l).flights.getD 0 noFlight)):=fun e=>by rw[e]
     have y6:=hat 6 _ rfl;have y7:=hat 7 _ rfl;have y8:=hat 8 _ rfl;have z6:=hat0 6 _ rfl;have z7:=hat0 7 _ rfl;have z8:=hat0 8 _ rfl;rw[Nat.zero_mul,Nat.add_zero]at z6 z7 z8;generalize (probTT l).flights.getD k noFlight=fk at*;generalize (probTT l).flights.getD 0 noFlight=f0 at*;have y2:wr.cell? ⟨P,2,none⟩=some (.slice (some ⟨fb,o,none⟩) n3 d3):=block_cell hpl.box 2;have hlt':(k:Int)<(n3:Int):=by omega
     have hp0:(0:Int)<(n3:Int):=by omega
     have HPL:=qH hpl;have HO:=qH ho;have hNE:=need_any fk.n0 fk.n1 fk.n2 f0.n0 f0.n1 f0.n2;have HBQ:Hid (k=0→(decide (fk.n0=f0.n0)&&(decide (fk.n1=f0.n1)&&decide (fk.n2=f0.n2)))=true):=fun e=>by rw[HK0.out e];simp
     generalize fk.n0=a0' at*;generalize fk.n1=a1' at*;generalize fk.n2=a2' at*;generalize f0.n0=b0' at*;generalize f0.n1=b1' at*;generalize f0.n2=b2' at*;generalize (decide (a0'=b0')&&(decide (a1'=b1')&&decide (a2'=b2')))=bq at*;clear hpl hfl hfn hS1 hS2 hat hat0 ho HK0
     cases bq with
     | true =>
      obtain⟨Ao,co,e9,hso⟩:=HPL.out.own.sl;subst e9;generalize hmoe:os.length=mo at*;have HMO:=qH hmoe;clear hmoe;have y18:wr.cell? ⟨P,18,none⟩=some (.slice Ao mo co):=block_cell HPL.out.box 18;have HPD:Hid (PL (probTT l) w wr.drew P B [.slice A1 n1 d1,.slice A2 n2 d2,.slice (some ⟨fb,o,none⟩) n3 d3] [k0,k1,k2,k3,k4,k5,k6,k7,k8,k9,k10,k11,k12,k13] (.slice Ab nb cb) (.slice Ao mo co) 0 pen os):=HPL.out.next (below_drewN (qC _ _) 1);clear hso;go_upto_region 10 with (fail)
      go_quiet (fail)
      have HPQ:=qH (HPL.out.next (below_drewN (qC wr.heap.size wr) nq));have y18:(wr.drewN nq).cell? ⟨P,18,none⟩=some (.slice Ao mo co):=block_cell HPQ.out.box 18;have hl2:=HPQ.out.lt;have hl3:=HPQ.out.own;clear y2 y6 y7 y8 z6 z7 z8 hNE HPD;generalize wr.drewN nq=wq at*;have HAL:Hid (Own (Ty.int .i64) 3 (wq.alloc (.cells #[.int .i64 k] 3)) B (.slice Ao mo co) os):=hl3.alloc _;clear hl3;go_wp2_with (at_builtin;refine wpList_push (t:=Ty.int .i64) rfl _ _ _ rfl 8 elem_ints rfl HAL.out wq.heap.size (k:Int) (fun _=>False) rfl ⟨[.int .i64 k],rfl,at_ofBlock (qK _ _)⟩ (fun _ h=>h.elim) ?c1 (by decide) ?c2 ?_)
      case c1=>have:=HMO.out;have:=HDC.out;omega
      case c2=>first|omega|(simp;omega)
      intro v' w9 hown9 hgr9;have hp9:=HPQ.out.next ((qC wq.heap.size wq).alloc (qD _) (.cells #[.int .i64 k] 3));obtain⟨A9,c9,rfl, -⟩:=hown9.sl;have y18':w9.cell? ⟨P,18,none⟩=some (.slice Ao mo co):=block_cell (hp9.box8 hgr9) 18;have f18:=block_free (hp9.box8 hgr9) 18;have HP10:=qH (hp9.push hgr9 hown9);have HL9:Hid ((os++[(k:Int)]).length=mo+1):=by show _=_;rw[List.length_append,HMO.out];rfl
      generalize os++[(k:Int)]=os9 at*;generalize hm9e:os9.length=m9 at*;have HM9:=qH hm9e;clear hm9e;clear hown9 hgr9 HAL HPQ hp9;go_wp2_with fail
      go_roundw
      case rel=>exact⟨k+1,_,os9,by omega,by go_num,HP10.out,.inr (by have:=HM9.out;have:=HL9.out;omega),by have:=HM9.out;have:=HL9.out;omega⟩
      case measure=>simp[intOf];omega
     | false =>
      have hk0:k≠0:=fun e=>by have:=HBQ.out e;cases this
      go_upto_region 10 with (fail)
      go_quiet (fail)
      go_wp2_with fail
      go_roundw
      case rel=>exact⟨k+1,ov,os,by omega,by go_num,HPL.out.next (below_drewN (qC wr.heap.size wr) _),.inr (by have:=HO.out;omega),by omega⟩
      case measure=>simp[intOf];omega
    ·have hkn:n3=k:=by omega
     subst hkn;obtain⟨Ao,co,rfl,hso⟩:=hpl.own.sl;have hol:0<os.length:=by have:=HDC.out;omega
     have HDN:=qH (hpl.done hol (by have:=HDC.out;omega));have HBL:Hid (Below w.heap.size w (wr.setRow w.heap.size (PRow [.slice A1 n1 d1,.slice A2 n2 d2,.slice A3 n3 d3] [k0,k1,k2,k3,k4,k5,k6,k7,k8,k9,k10,k11,k12,k13] (.slice Ab nb cb) (.slice Ao os.length co) 0 pen))):=below_setRowD hpl.bel (qD _);have HBX:Hid (wr.heap[P]? = some (.cells #[.slice A1 n1 d1,.slice A2 n2 d2,.slice A3 n3 d3,k0,k1,k2,k3,k4,k5,k6,k7,k8,k9,k10,k11,k12,k13,.slice Ab nb cb,.slice Ao os.length co,.int .i64 0,.int .i64 pen] 38 (0,0))):=hpl.box;have HRS:=qH hpl.res;have HCO:=qH hpl.con;generalize os.length=mo at*;clear hpl hso hol ho hok;go_upto_region 12 with (fail)
     refine wp_region_lit ?_;refine wpList_load_row rfl _ _ rfl P (by simp[Act.eval]) _ _ _ _ HBX.out Tryz.underlying38 rfl (by kernel_rfl) ?_;have hone:((#[.slice A1 n1 d1,.slice A2 n2 d2,.slice A3 n3 d3,k0,k1,k2,k3,k4,k5,k6,k7,k8,k9,k10,k11,k12,k13,.slice Ab nb cb,.slice Ao mo co,.int .i64 0,.int .i64 pen]:Array Value)).all (·.oneCell')=true:=by
      have h14:=HCO.out.2;rw[Array.all_eq_true];intro i hi;have hmem:((#[.slice A1 n1 d1,.slice A2 n2 d2,.slice A3 n3 d3,k0,k1,k2,k3,k4,k5,k6,k7,k8,k9,k10,k11,k12,k13,.slice Ab nb cb,.slice Ao mo co,.int .i64 0,.int .i64 pen]:Array Value))[i]∈(#[.slice A1 n1 d1,.slice A2 n2 d2,.slice A3 n3 d3,k0,k1,k2,k3,k4,k5,k6,k7,k8,k9,k10,k11,k12,k13,.slice Ab nb cb,.slice Ao mo co,.int .i64 0,.int .i64 pen]:Array Value).toList:=by simp
      have hcs2 : ∀ u∈([.slice A1 n1 d1,.slice A2 n2 d2,.slice A3 n3 d3]++([k0,k1,k2,k3,k4,k5,k6,k7,k8,k9,k10,k11,k12,k13]++[(.slice Ab nb cb),.slice Ao mo co,.int .i64 0,.int .i64 pen]):List Value),u.oneCell'=true:=fun u hu=>by
       rcases List.mem_append.1 hu with h|h
       ·simp at h;rcases h with rfl|rfl|rfl <;> rfl
       ·rcases List.mem_append.1 h with h|h
        ·exact h14 u h
        ·simp at h;rcases h with rfl|rfl|rfl|rfl <;> rfl
      exact hcs2 _ hmem
     refine wpList_store_row rfl _ _ _ rfl w.heap.size #[.slice A1 n1 d1,.slice A2 n2 d2,.slice A3 n3 d3,k0,k1,k2,k3,k4,k5,k6,k7,k8,k9,k10,k11,k12,k13,.slice Ab nb cb,.slice Ao mo co,.int .i64 0,.int .i64 pen] (by simp[Act.eval,Act.put]) (by simp[Act.eval,Act.put]) _ _ HRS.out (by kernel_rfl) rfl hone ?_;have HX5:Hid ((wr.setRow w.heap.size #[.slice A1 n1 d1,.slice A2 n2 d2,.slice A3 n3 d3,k0,k1,k2,k3,k4,k5,k6,k7,k8,k9,k10,k11,k12,k13,.slice Ab nb cb,.slice Ao mo co,.int .i64 0,.int .i64 pen]).heap[w.heap.size]? = _):=setRow_heap _ _ _ _ _ _ HRS.out;change Hid (ProbIs (wr.setRow w.heap.size #[.slice A1 n1 d1,.slice A2 n2 d2,.slice A3 n3 d3,k0,k1,k2,k3,k4,k5,k6,k7,k8,k9,k10,k11,k12,k13,.slice Ab nb cb,.slice Ao mo co,.int .i64 0,.int .i64 pen]) (all_ (wr.setRow w.heap.size #[.slice A1 n1 d1,.slice A2 n2 d2,.slice A3 n3 d3,k0,k1,k2,k3,k4,k5,k6,k7,k8,k9,k10,k11,k12,k13,.slice Ab nb cb,.slice Ao mo co,.int .i64 0,.int .i64 pen])) _ _) at HDN;change Hid (Below w.heap.size w (wr.setRow w.heap.size #[.slice A1 n1 d1,.slice A2 n2 d2,.slice A3 n3 d3,k0,k1,k2,k3,k4,k5,k6,k7,k8,k9,k10,k11,k12,k13,.slice Ab nb cb,.slice Ao mo co,.int .i64 0,.int .i64 pen])) at HBL;generalize wr.setRow w.heap.size #[.slice A1 n1 d1,.slice A2 n2 d2,.slice A3 n3 d3,k0,k1,k2,k3,k4,k5,k6,k7,k8,k9,k10,k11,k12,k13,.slice Ab nb cb,.slice Ao mo co,.int .i64 0,.int .i64 pen]=wz at*;clear hone HBX HRS;go_wp2_with fail
     refine bodyPost_ret (v:=.agg #[.slice A1 n1 d1,.slice A2 n2 d2,.slice A3 n3 d3,k0,k1,k2,k3,k4,k5,k6,k7,k8,k9,k10,k11,k12,k13,.slice Ab nb cb,.slice Ao mo co,.int .i64 0,.int .i64 pen]) (results_cell_row Tryz.results11 _ _ w.heap.size _ _ _ _ (by simp[Act.put]) HX5.out Tryz.underlying38 rfl (by kernel_rfl)) rfl ?_;exact⟨_,rfl,HDN.out,HBL.out⟩
end
end Go.Proofs.YtifconapjfdkcaaGreatDoor
