/-
  Joined texts: TTRead; Copy; Elems; Clone; Clone2; OwnZ; CopyPlaces; CrewFind; IncValidate; IncOrder; IncSort; IncOrder2; ApplyMem; ApplyPlain2; KeepX; Law40Plain. What each proves stands ahead of it, with its conditions.
-/
import Derived.Test.YtifconapjfdkcaaGreatDoorDAO
import Derived.Test.YtifconapjfdkcaaGreatDoorDAI
import Derived.Test.YtifconapjfdkcaaGreatDoorDAK
import Derived.Test.YtifconapjfdkcaaGreatDoorDAH
import Derived.Test.YtifconapjfdkcaaGreatDoorDAC
import Derived.Test.YtifconapjfdkcaaGreatDoorDAA
import Derived.Deep.AppendLies
import Derived.Deep.RegionLaw
import Derived.Test.YtifconapjfdkcaaGreatDoorDAJ
import Derived.Test.YtifconapjfdkcaaGreatDoorProg
import Derived.Test.YtifconapjfdkcaaGreatDoorDAT
import Derived.Deep.DeepCutAuto
import Derived.Test.YtifconapjfdkcaaGreatDoorDAS
import Derived.Test.YtifconapjfdkcaaGreatDoorDAR
import Derived.Test.YtifconapjfdkcaaGreatDoorDAW
import Derived.Test.YtifconapjfdkcaaGreatDoorDAL
import Derived.Test.YtifconapjfdkcaaGreatDoorDAD
import Derived.Test.YtifconapjfdkcaaGreatDoorDAV
import Derived.Deep.QuietTactic
import Derived.StillTailTactics
import Derived.Lib.Bytealg
import Derived.Ground.SlsfProg
import Derived.Shelf.SlSortCmp.Insertion
import Derived.Sort.OwnSortedInts
import Derived.Sort.WalkA
import Derived.Deep.OwnRows
import Derived.Test.YtifconapjfdkcaaGreatDoorDAN
import Derived.Maps.AppendAt
set_option linter.unusedSimpArgs false
set_option linter.unusedVariables false
set_option maxRecDepth 100000
set_option maxHeartbeats 12800000
namespace Go.Proofs.YtifconapjfdkcaaGreatDoor
section
open Go.RowKit
theorem elem_shift:Elem Tryz.prog 96 122 2 16:=⟨Tryz.underlying96,by kernel_rfl⟩
end
section
open Go.RowKit
def Ty.Flat{α : Type}(t:Ty α):Prop := ∀ {w w':World} {S S':Nat→Prop} {cs:List Value} {x : α},t.rep w S cs x→t.rep w' S' cs x
theorem flat_shift:Ty.shift.Flat:=fun h=>h
theorem flat_str:Ty.str.Flat:=fun h=>h
theorem flat_airport:Ty.airport.Flat:=fun h=>h
theorem flat_flight:Ty.flight.Flat:=fun h=>h
section
variable {α : Type} {t:Ty α} {w w':World} {S:Nat→Prop} {n c:Nat} {xs:List α}
theorem RepAll.flat{S':Nat→Prop}{cs:List Value}(ht:t.Flat)(h:RepAll t w S cs xs):RepAll t w' S' cs xs:=⟨h.1,fun i x hi=>ht (h.2 i x hi)⟩
theorem Sl.cells{ad:Addr}(h:Sl t w S (some ad) n c xs) : ∃ cs,RepAll t w S cs xs∧(∀ j u,cs[j]? = some u→w.cell? (ad.add j)=some u) ∧ ∀ u∈cs,u.oneCell'=true:=by
 obtain⟨h1,h2,h3,h4⟩:=h;rcases Nat.eq_zero_or_pos n with h0|h0
 ·have:xs=[]:=List.eq_nil_of_length_eq_zero (by omega);subst this;exact⟨[],RepAll.nil _ _ _,fun j u hu=>by simp at hu,fun u hu=>by cases hu⟩
 ·obtain⟨b,o,e,hs,hx⟩:=h4 h0
  cases e;have key : ∀ k,k≤xs.length → ∃ cs,RepAll t w S cs (xs.take k)∧At w b o cs ∧ ∀ u∈cs,u.oneCell'=true:=fun k=>by
   induction k with
   | zero=>exact fun _=>⟨[],RepAll.nil _ _ _,fun j u hu=>by simp at hu,fun u hu=>by cases hu⟩
   | succ k ih =>
    intro hk;obtain⟨cs,hr,ha,ho⟩:=ih (by omega);obtain⟨c1,hr1,ha1⟩:=hx k _ (qG (by omega));refine⟨cs++c1, ?_,fun j u hu =>?_,fun u hu =>?_⟩
    ·rw[List.take_succ_eq_append_getElem (by omega)];exact hr.snoc hr1
    ·have hl:cs.length=k*t.size:=by rw[hr.1,List.length_take];congr 1;omega
     rcases Nat.lt_or_ge j cs.length with hj|hj
     ·exact ha j u (by rwa [List.getElem?_append_left hj]at hu)
     ·rw[List.getElem?_append_right hj]at hu;have:=ha1 _ u hu;rw[hl]at this hj;rw[←this]
      congr 2
      omega
    ·rcases List.mem_append.1 hu with hu|hu
     ·exact ho u hu
     ·exact t.one hr1 u hu
  obtain⟨cs,hr,ha,ho⟩:=key xs.length (qD _);rw[List.take_length]at hr;exact⟨cs,hr,fun j u hu=>by rw[addr_add];exact ha j u hu,ho⟩
theorem Own.made{e:TypeId}{base cap:Nat}{cur:Array Value}(hb:base≤w.heap.size)(hm:cap≤maxLen)(hs:cur.size=cap*t.size):Own t e (w.alloc (.cells cur e)) base (.slice (some ⟨w.heap.size,0,none⟩) 0 cap) ([]:List α) :=
 ⟨[],World.ownsRow_made w cur cap hb hm hs,RepAll.nil _ _ _⟩
theorem wpList_concat{P:Program}{ops:Array Oper}{rest:List Oper}{o:Oper}{a:Act}{Q:Exit→Act→World→Prop}{T e:TypeId}{v:Value}{base:Nat}{ys:List α}(ht:t.Flat)(hgd:o.guard=none)(s x:Operand)
 (ho:o.op=.call { callee:=.builtin .append,args := #[s,x],argTypes := #[T,T] }) (bytes:Nat) (he:Elem P T e t.size bytes) (hs:a.eval s=v) (hown:Own t e w base v xs)
 (ad:Addr) (m c:Nat) (hx:a.eval x=.slice (some ad) m c) (hy:Sl t w S (some ad) m c ys)
 (hlen:(xs.length+m)*bytes≤140737488355328) (hpos:0<bytes) (hbase:base≤w.heap.size)
 (h : ∀ v' w',Own t e w' base v' (xs++ys)→w.grownBy w' v.ownBlock→wpList P ops Q rest (a.put o.dst v') w'):wpList P ops Q (o::rest) a w:=by
 obtain⟨i,z,hi,hz,h1,h2,h3⟩:=he.parts;obtain⟨cs,hown1,hown2⟩:=hown;have hm:=hy.len;obtain⟨c1,hr,hat,hone⟩:=hy.cells;have h63:xs.length+m≤maxLen:=by
  have:=Nat.le_mul_of_pos_right (xs.length+m) hpos;unfold maxLen;omega
 refine wpList_append_own_at _ hgd s x T ho base e i z t.size bytes he.1 hi hz h1 h2 h3 t.pos v xs.length cs hs hown1 ad m c c1 hx (by rw[hr.1,hm]) hat hone h63 hlen hbase ?_;intro v' w' ho' hgr _ hv';refine h v' w' ⟨cs++c1,by rw[List.length_append, ←hm];exact ho', ?_⟩ hgr;have hb:=hgr.block;have hsz:=hgr.size;have hcat : ∀ (zs:List α) (dz:List Value),RepAll t w S dz zs→RepAll t w' (fun b=>base≤b∧b<w'.heap.size∧some b≠v'.ownBlock) dz zs:=fun zs dz hz=>hz.flat ht
 refine⟨by rw[List.length_append,List.length_append,hown2.1,hr.1,Nat.add_mul],fun i x hi =>?_⟩;rcases Nat.lt_or_ge i xs.length with hlt|hge
 ·have e1:xs[i]? = some x:=by rwa [List.getElem?_append_left hlt]at hi
  have h9:i*t.size+t.size≤cs.length:=by
   rw[hown2.1, ←Nat.succ_mul];exact Nat.mul_le_mul_right _ hlt
  rw[List.drop_append_of_le_length (by omega),List.take_append_of_le_length (by rw[List.length_drop];omega)];exact ht (hown2.2 i x e1)
 ·rw[List.getElem?_append_right hge]at hi;have e2:i*t.size=cs.length+(i-xs.length)*t.size:=by
   rw[hown2.1, ←Nat.add_mul]
   congr 1
   omega
  rw[e2,List.drop_append];have e3:cs.drop (cs.length+(i-xs.length)*t.size)=[]:=List.drop_eq_nil_of_le (by omega);rw[e3,List.nil_append,Nat.add_sub_cancel_left];exact ht (hr.2 _ x hi)
end
end
section
open Go.RowKit
theorem elem_strs:Elem Tryz.prog 36 9 1 16:=⟨Tryz.underlying36,by kernel_rfl⟩
theorem elem_span:Elem Tryz.prog 73 57 2 16:=⟨Tryz.underlying73,by kernel_rfl⟩
theorem elem_person:Elem Tryz.prog 40 75 7 104:=⟨Tryz.underlying40,by kernel_rfl⟩
theorem elem_ints:Elem Tryz.prog 22 3 1 8:=⟨Tryz.underlying22,by kernel_rfl⟩
theorem elem_zone:Elem Tryz.prog 23 98 3 48:=⟨Tryz.underlying23,by kernel_rfl⟩
theorem elem_airport:Elem Tryz.prog 24 101 2 32:=⟨Tryz.underlying24,by kernel_rfl⟩
theorem elem_flight:Elem Tryz.prog 25 62 9 104:=⟨Tryz.underlying25,by kernel_rfl⟩
theorem elem_inc:Elem Tryz.prog 42 59 7 64:=⟨Tryz.underlying42,by kernel_rfl⟩
end
section
open Go.RowKit
def OwnPost{α : Type}(t:Ty α)(el:TypeId)(xs:List α)(w:World)(e:Ending)(w':World):Prop :=
 ∃ v,e=.returned v∧Own t el w' w.heap.size v xs∧Below w.heap.size w w'
theorem cloneStr_any(A:Option Addr)(n c:Nat)(xs:List ByteArray)(w:World)(hs:Sl Ty.str w (all_ w) A n c xs)(hn:xs.length≤1000) :
 Calls Tryz.prog 69 #[.slice A n c] w (OwnPost Ty.str 9 xs w):=by
 have hln:=hs.len;have HS:=qH hs;have hb0 : ∀ o,Below w.heap.size w (w.alloc o):=fun o=>(qC _ _).alloc (qD _) o
 have HB0:=qH hb0;have HN:=qH hln
 cases A with
 | none =>
  have h0:xs=[]:=by
   rcases Nat.eq_zero_or_pos n with h0|h0
   ·exact List.eq_nil_of_length_eq_zero (by omega)
   ·obtain⟨b,o,e,_⟩:=hs.2.2.2 h0
    cases e
  subst h0;have heq:=fun w=>Lib.run_eql_slice_nil (P:=Tryz.prog) w 36 9 none n c 0 0 Tryz.underlying36
  clear hs hln hb0
  go_enter Tryz.func69,Tryz.ntmps69
  go_wp2_with fail
  go_ret
  exact⟨_,rfl,Own.nil,qC _ _⟩
 | some ad =>
  have heq:=fun w=>Lib.run_eql_slice_nil (P:=Tryz.prog) w 36 9 (some ad) n c 0 0 Tryz.underlying36
  clear hs hln hb0
  go_enter Tryz.func69,Tryz.ntmps69
  go_wp2_with (at_builtin;refine wpList_concat (S:=all_ (w.alloc (.cells #[] 9))) (xs:=[]) (ys:=xs) (base:=w.heap.size) flat_str rfl _ _ rfl 16 elem_strs rfl (Own.made (qD _) (qV _) rfl) ad n c rfl (HS.out.next (HB0.out _)) ?c1 (by decide) ?c2 ?_)
  case c1=>have:=HN.out;simp;omega
  case c2=>simp
  intro v' w1 hown hgr;obtain⟨A9,c9,rfl,hsl9⟩:=hown.sl;have HOWN:Hid (Own Ty.str 9 w1 w.heap.size (.slice A9 ([]++xs).length c9) xs):=hown;have HFIN:Hid (Below w.heap.size w w1):=(HB0.out _).grown hgr (by simp) (fun k hk=>by simp[Value.ownBlock]at hk;omega);clear hown hgr hsl9;go_wp2_with fail
  go_ret
  exact⟨_,rfl,HOWN.out,HFIN.out⟩
theorem cloneSpan_any(A:Option Addr)(n c:Nat)(xs:List GShift)(w:World)(hs:Sl Ty.shift w (all_ w) A n c xs)(hn:xs.length≤1000) :
 Calls Tryz.prog 70 #[.slice A n c] w (OwnPost Ty.shift 57 xs w):=by
 have hln:=hs.len;have HS:=qH hs;have hb0 : ∀ o,Below w.heap.size w (w.alloc o):=fun o=>(qC _ _).alloc (qD _) o
 have HB0:=qH hb0;have HN:=qH hln
 cases A with
 | none =>
  have h0:xs=[]:=by
   rcases Nat.eq_zero_or_pos n with h0|h0
   ·exact List.eq_nil_of_length_eq_zero (by omega)
   ·obtain⟨b,o,e,_⟩:=hs.2.2.2 h0
    cases e
  subst h0;have heq:=fun w=>Lib.run_eql_slice_nil (P:=Tryz.prog) w 73 57 none n c 0 0 Tryz.underlying73
  clear hs hln hb0
  go_enter Tryz.func70,Tryz.ntmps70
  go_wp2_with fail
  go_ret
  exact⟨_,rfl,Own.nil,qC _ _⟩
 | some ad =>
  have heq:=fun w=>Lib.run_eql_slice_nil (P:=Tryz.prog) w 73 57 (some ad) n c 0 0 Tryz.underlying73
  clear hs hln hb0
  go_enter Tryz.func70,Tryz.ntmps70
  go_wp2_with (at_builtin;refine wpList_concat (S:=all_ (w.alloc (.cells #[] 57))) (xs:=[]) (ys:=xs) (base:=w.heap.size) flat_shift rfl _ _ rfl 16 elem_span rfl (Own.made (qD _) (qV _) rfl) ad n c rfl (HS.out.next (HB0.out _)) ?c1 (by decide) ?c2 ?_)
  case c1=>have:=HN.out;simp;omega
  case c2=>simp
  intro v' w1 hown hgr;obtain⟨A9,c9,rfl,hsl9⟩:=hown.sl;have HOWN:Hid (Own Ty.shift 57 w1 w.heap.size (.slice A9 ([]++xs).length c9) xs):=hown;have HFIN:Hid (Below w.heap.size w w1):=(HB0.out _).grown hgr (by simp) (fun k hk=>by simp[Value.ownBlock]at hk;omega);clear hown hgr hsl9;go_wp2_with fail
  go_ret
  exact⟨_,rfl,HOWN.out,HFIN.out⟩
theorem cloneFlight_any(A:Option Addr)(n c:Nat)(xs:List GFlight)(w:World)(hs:Sl Ty.flight w (all_ w) A n c xs)(hn:xs.length≤1000) :
 Calls Tryz.prog 44 #[.slice A n c] w (OwnPost Ty.flight 62 xs w):=by
 have hln:=hs.len;have HS:=qH hs;have hb0 : ∀ o,Below w.heap.size w (w.alloc o):=fun o=>(qC _ _).alloc (qD _) o
 have HB0:=qH hb0;have HN:=qH hln
 cases A with
 | none =>
  have h0:xs=[]:=by
   rcases Nat.eq_zero_or_pos n with h0|h0
   ·exact List.eq_nil_of_length_eq_zero (by omega)
   ·obtain⟨b,o,e,_⟩:=hs.2.2.2 h0
    cases e
  subst h0;have heq:=fun w=>Lib.run_eql_slice_nil (P:=Tryz.prog) w 25 62 none n c 0 0 Tryz.underlying25
  clear hs hln hb0
  go_enter Tryz.func44,Tryz.ntmps44
  go_wp2_with fail
  go_ret
  exact⟨_,rfl,Own.nil,qC _ _⟩
 | some ad =>
  have heq:=fun w=>Lib.run_eql_slice_nil (P:=Tryz.prog) w 25 62 (some ad) n c 0 0 Tryz.underlying25
  clear hs hln hb0
  go_enter Tryz.func44,Tryz.ntmps44
  go_wp2_with (at_builtin;refine wpList_concat (S:=all_ (w.alloc (.cells #[] 62))) (xs:=[]) (ys:=xs) (base:=w.heap.size) flat_flight rfl _ _ rfl 104 elem_flight rfl (Own.made (qD _) (qV _) rfl) ad n c rfl (HS.out.next (HB0.out _)) ?c1 (by decide) ?c2 ?_)
  case c1=>have:=HN.out;simp;omega
  case c2=>simp
  intro v' w1 hown hgr;obtain⟨A9,c9,rfl,hsl9⟩:=hown.sl;have HOWN:Hid (Own Ty.flight 62 w1 w.heap.size (.slice A9 ([]++xs).length c9) xs):=hown;have HFIN:Hid (Below w.heap.size w w1):=(HB0.out _).grown hgr (by simp) (fun k hk=>by simp[Value.ownBlock]at hk;omega);clear hown hgr hsl9;go_wp2_with fail
  go_ret
  exact⟨_,rfl,HOWN.out,HFIN.out⟩
theorem cloneAirport_any(A:Option Addr)(n c:Nat)(xs:List GAirport)(w:World)(hs:Sl Ty.airport w (all_ w) A n c xs)(hn:xs.length≤1000) :
 Calls Tryz.prog 76 #[.slice A n c] w (OwnPost Ty.airport 101 xs w):=by
 have hln:=hs.len;have HS:=qH hs;have hb0 : ∀ o,Below w.heap.size w (w.alloc o):=fun o=>(qC _ _).alloc (qD _) o
 have HB0:=qH hb0;have HN:=qH hln
 cases A with
 | none =>
  have h0:xs=[]:=by
   rcases Nat.eq_zero_or_pos n with h0|h0
   ·exact List.eq_nil_of_length_eq_zero (by omega)
   ·obtain⟨b,o,e,_⟩:=hs.2.2.2 h0
    cases e
  subst h0;have heq:=fun w=>Lib.run_eql_slice_nil (P:=Tryz.prog) w 24 101 none n c 0 0 Tryz.underlying24
  clear hs hln hb0
  go_enter Tryz.func76,Tryz.ntmps76
  go_wp2_with fail
  go_ret
  exact⟨_,rfl,Own.nil,qC _ _⟩
 | some ad =>
  have heq:=fun w=>Lib.run_eql_slice_nil (P:=Tryz.prog) w 24 101 (some ad) n c 0 0 Tryz.underlying24
  clear hs hln hb0
  go_enter Tryz.func76,Tryz.ntmps76
  go_wp2_with (at_builtin;refine wpList_concat (S:=all_ (w.alloc (.cells #[] 101))) (xs:=[]) (ys:=xs) (base:=w.heap.size) flat_airport rfl _ _ rfl 32 elem_airport rfl (Own.made (qD _) (qV _) rfl) ad n c rfl (HS.out.next (HB0.out _)) ?c1 (by decide) ?c2 ?_)
  case c1=>have:=HN.out;simp;omega
  case c2=>simp
  intro v' w1 hown hgr;obtain⟨A9,c9,rfl,hsl9⟩:=hown.sl;have HOWN:Hid (Own Ty.airport 101 w1 w.heap.size (.slice A9 ([]++xs).length c9) xs):=hown;have HFIN:Hid (Below w.heap.size w w1):=(HB0.out _).grown hgr (by simp) (fun k hk=>by simp[Value.ownBlock]at hk;omega);clear hown hgr hsl9;go_wp2_with fail
  go_ret
  exact⟨_,rfl,HOWN.out,HFIN.out⟩
theorem cloneShiftO_any(A:Option Addr)(n c:Nat)(xs:List GShift)(w:World)(hs:Sl Ty.shift w (all_ w) A n c xs)(hn:xs.length≤1000) :
 Calls Tryz.prog 77 #[.slice A n c] w (OwnPost Ty.shift 122 xs w):=by
 have hln:=hs.len;have HS:=qH hs;have hb0 : ∀ o,Below w.heap.size w (w.alloc o):=fun o=>(qC _ _).alloc (qD _) o
 have HB0:=qH hb0;have HN:=qH hln
 cases A with
 | none =>
  have h0:xs=[]:=by
   rcases Nat.eq_zero_or_pos n with h0|h0
   ·exact List.eq_nil_of_length_eq_zero (by omega)
   ·obtain⟨b,o,e,_⟩:=hs.2.2.2 h0
    cases e
  subst h0;have heq:=fun w=>Lib.run_eql_slice_nil (P:=Tryz.prog) w 96 122 none n c 0 0 Tryz.underlying96
  clear hs hln hb0
  go_enter Tryz.func77,Tryz.ntmps77
  go_wp2_with fail
  go_ret
  exact⟨_,rfl,Own.nil,qC _ _⟩
 | some ad =>
  have heq:=fun w=>Lib.run_eql_slice_nil (P:=Tryz.prog) w 96 122 (some ad) n c 0 0 Tryz.underlying96
  clear hs hln hb0
  go_enter Tryz.func77,Tryz.ntmps77
  go_wp2_with (at_builtin;refine wpList_concat (S:=all_ (w.alloc (.cells #[] 122))) (xs:=[]) (ys:=xs) (base:=w.heap.size) flat_shift rfl _ _ rfl 16 elem_shift rfl (Own.made (qD _) (qV _) rfl) ad n c rfl (HS.out.next (HB0.out _)) ?c1 (by decide) ?c2 ?_)
  case c1=>have:=HN.out;simp;omega
  case c2=>simp
  intro v' w1 hown hgr;obtain⟨A9,c9,rfl,hsl9⟩:=hown.sl;have HOWN:Hid (Own Ty.shift 122 w1 w.heap.size (.slice A9 ([]++xs).length c9) xs):=hown;have HFIN:Hid (Below w.heap.size w w1):=(HB0.out _).grown hgr (by simp) (fun k hk=>by simp[Value.ownBlock]at hk;omega);clear hown hgr hsl9;go_wp2_with fail
  go_ret
  exact⟨_,rfl,HOWN.out,HFIN.out⟩
end
section
open Go.RowKit
section
variable {α : Type} {t:Ty α} {w w':World} {S:Nat→Prop} {n c:Nat}
theorem wpList_copy{P:Program}{ops:Array Oper}{rest:List Oper}{o:Oper}{a:Act}{Q:Exit→Act→World→Prop}{T e:TypeId}{v:Value}{base:Nat}{ys:List α}(hgd:o.guard=none)(s x:Operand)
 (ho:o.op=.call { callee:=.builtin .append,args := #[s,x],argTypes := #[T,T] }) (bytes:Nat) (he:Elem P T e t.size bytes) (hs:a.eval s=v) (hown:Own t e w base v [])
 (ad:Addr) (m c:Nat) (hx:a.eval x=.slice (some ad) m c) (hy:Sl t w S (some ad) m c ys)
 (hlen:(0+m)*bytes≤140737488355328) (hpos:0<bytes) (hbase:base≤w.heap.size)
 (h : ∀ v' w' cs,RepAll t w S cs ys→w'.ownsRow base e t.size v' (0+m) ([]++cs)→w.grownBy w' v.ownBlock→wpList P ops Q rest (a.put o.dst v') w'):wpList P ops Q (o::rest) a w:=by
 obtain⟨i,z,hi,hz,h1,h2,h3⟩:=he.parts;obtain⟨cs,hown1,hown2⟩:=hown;have hm:=hy.len;obtain⟨c1,hr,hat,hone⟩:=hy.cells;have h63:0+m≤maxLen:=by
  have:=Nat.le_mul_of_pos_right (0+m) hpos;unfold maxLen;omega
 have hcs:cs=[]:=List.eq_nil_of_length_eq_zero (by rw[hown2.1];simp);subst hcs;refine wpList_append_own_at _ hgd s x T ho base e i z t.size bytes he.1 hi hz h1 h2 h3 t.pos v 0 [] hs hown1 ad m c c1 hx (by rw[hr.1,hm]) hat hone h63 hlen hbase ?_;intro v' w' ho' hgr _ hv';exact h v' w' c1 hr ho' hgr
end
def CopyPost{α : Type}(t:Ty α)(el:TypeId)(S:Nat→Prop)(xs:List α)(w:World)(e:Ending)(w':World):Prop :=
 ∃ v cs,e=.returned v∧RepAll t w' S cs xs∧w'.ownsRow w.heap.size el t.size v xs.length cs∧Below w.heap.size w w'
theorem cloneZone_any(A:Option Addr)(n c:Nat)(xs:List GZone)(S:Nat→Prop)(w:World)(hs:Sl Ty.zone w S A n c xs)(hS : ∀ b,S b→b<w.heap.size)(hn:xs.length≤1000) :
 Calls Tryz.prog 75 #[.slice A n c] w (CopyPost Ty.zone 98 S xs w):=by
 have hln:=hs.len;have HS:=qH hs;have hb0 : ∀ o,Below w.heap.size w (w.alloc o):=fun o=>(qC _ _).alloc (qD _) o
 have HB0:=qH hb0;have HN:=qH hln
 cases A with
 | none =>
  have h0:xs=[]:=by
   rcases Nat.eq_zero_or_pos n with h0|h0
   ·exact List.eq_nil_of_length_eq_zero (by omega)
   ·obtain⟨b,o,e,_⟩:=hs.2.2.2 h0
    cases e
  subst h0;have heq:=fun w=>Lib.run_eql_slice_nil (P:=Tryz.prog) w 23 98 none n c 0 0 Tryz.underlying23
  clear hs hln hb0
  go_enter Tryz.func75,Tryz.ntmps75
  go_wp2_with fail
  go_ret
  exact⟨_,[],rfl,RepAll.nil _ _ _,World.ownsRow_nil _ _ _ _,qC _ _⟩
 | some ad =>
  have heq:=fun w=>Lib.run_eql_slice_nil (P:=Tryz.prog) w 23 98 (some ad) n c 0 0 Tryz.underlying23
  clear hs hln hb0
  go_enter Tryz.func75,Tryz.ntmps75
  go_wp2_with (at_builtin;refine wpList_copy (S:=S) (t:=Ty.zone) (ys:=xs) (base:=w.heap.size) rfl _ _ rfl 48 elem_zone rfl (Own.made (qD _) (qV _) rfl) ad n c rfl (HS.out.keep fun b hb=>(HB0.out _).block b (hS b hb)) ?c1 (by decide) ?c2 ?_)
  case c1=>have:=HN.out;omega
  case c2=>simp
  intro v' w1 cs hrep hown hgr;have hlo:=hown.lt;have HREP:Hid (RepAll Ty.zone w1 S cs xs):=hrep.keep (fun b hb=>hgr.block b (Nat.lt_of_lt_of_le (hS b hb) (HB0.out _).size) (fun e=>by simp[Value.ownBlock]at e;have:b<w.heap.size:=hS b hb;omega)) (fun _ h=>h);have HOWN:Hid (w1.ownsRow w.heap.size 98 3 v' xs.length cs):=by
   have e:n=xs.length:=HN.out;have h2:w1.ownsRow w.heap.size 98 3 v' n cs:=hown;rw[e]at h2;exact h2
  have HFIN:Hid (Below w.heap.size w w1):=(HB0.out _).grown hgr (by simp) (fun k hk=>by simp[Value.ownBlock]at hk;omega);clear hown hgr hrep hlo;go_wp2_with fail
  go_ret
  exact⟨_,cs,rfl,HREP.out,HOWN.out,HFIN.out⟩
end
section
open Go.RowKit
theorem place_eq{i k sz j q:Nat}(hj:j<sz)(hq:q<sz)(h:k*sz+j=i*sz+q):k=i∧j=q:=by
 have h1:(k*sz+j)/sz=k:=by rw[Nat.add_comm,Nat.add_mul_div_right _ _ (by omega),Nat.div_eq_of_lt hj,Nat.zero_add]
 have h2:(i*sz+q)/sz=i:=by rw[Nat.add_comm,Nat.add_mul_div_right _ _ (by omega),Nat.div_eq_of_lt hq,Nat.zero_add]
 have:k=i:=by rw[←h1,h,h2]
 subst this;exact⟨rfl,by omega⟩
theorem chunk_set(cs:List Value)(i k sz j:Nat)(hj:j<sz)(v:Value):((cs.set (k*sz+j) v).drop (i*sz)).take sz=if i=k then ((cs.drop (k*sz)).take sz).set j v else (cs.drop (i*sz)).take sz:=by
 apply List.ext_getElem?;intro q
 by_cases hq:q<sz
 ·rw[List.getElem?_take_of_lt hq,List.getElem?_drop,List.getElem?_set]
  by_cases hik:i=k
  ·subst hik;rw[qR rfl,List.getElem?_set,List.length_take,List.length_drop]
   by_cases hjq:j=q
   ·subst hjq;rw[qR rfl,qR rfl]
    by_cases hl:i*sz+j<cs.length
    ·rw[qR hl,qR (by omega)]
    ·rw[qN hl,qN (by omega)]
   ·rw[qN (by omega),qN hjq,List.getElem?_take_of_lt hq,List.getElem?_drop]
  ·rw[qN hik,qN (fun e=>hik (place_eq hj hq e).1.symm),List.getElem?_take_of_lt hq,List.getElem?_drop]
 ·rw[List.getElem?_take_eq_none (by omega)];split
  ·rw[List.getElem?_set_ne (by omega),List.getElem?_take_eq_none (by omega)]
  ·rw[List.getElem?_take_eq_none (by omega)]
def OwnS{α : Type}(t:Ty α)(el:TypeId)(w:World)(S:Nat→Prop)(base:Nat)(v:Value)(xs:List α):Prop := ∃ cs,w.ownsRow base el t.size v xs.length cs∧RepAll t w S cs xs
section
variable {α : Type} {t:Ty α} {el:TypeId} {w w':World} {S S':Nat→Prop} {base:Nat} {v:Value} {xs:List α}
theorem OwnS.lt(h:OwnS t el w S base v xs) : ∀ k,v.ownBlock=some k→base≤k∧k<w.heap.size:=by
 obtain⟨cs,h1,_⟩:=h;exact h1.lt
theorem OwnS.keep(h:OwnS t el w S base v xs)(hs:w.heap.size≤w'.heap.size)(ho : ∀ k,v.ownBlock=some k→w'.heap[k]? = w.heap[k]?)(hk : ∀ b,S b→w'.heap[b]? = w.heap[b]?):OwnS t el w' S base v xs:=by
 obtain⟨cs,h1,h2⟩:=h;refine⟨cs,⟨h1.1, ?_⟩,h2.keep hk fun _ h=>h⟩;rcases h1.2 with h3|⟨g,cap,cur,hv,hg,hb,r⟩
 ·exact .inl h3
 ·exact .inr ⟨g,cap,cur,hv,hg,(ho g (by rw[hv];rfl)).trans hb,r⟩
theorem OwnS.next(h:OwnS t el w S base v xs)(hb:Below w.heap.size w w')(hS : ∀ b,S b→b<w.heap.size):OwnS t el w' S base v xs :=
 h.keep hb.size (fun k hk=>hb.block k (h.lt k hk).2) fun b hb'=>hb.block b (hS b hb')
theorem OwnS.more(h:OwnS t el w S base v xs)(hm : ∀ b,S b→S' b):OwnS t el w S' base v xs:=by
 obtain⟨cs,h1,h2⟩:=h;exact⟨cs,h1,h2.keep (fun _ _=>rfl) hm⟩
theorem OwnS.sl(h:OwnS t el w S base v xs) : ∃ A c,v=.slice A xs.length c∧Sl t w (fun b=>S b∨v.ownBlock=some b) A xs.length c xs:=by
 obtain⟨cs,h1,h2⟩:=h;rcases h1.2 with ⟨rfl,h0⟩|⟨g,cap,cur,rfl,hg,hb,hnc,hm,hsz,htk⟩
 ·rw[h0];have:xs=[]:=List.eq_nil_of_length_eq_zero h0;subst this;exact⟨none,0,rfl,Sl.nil0⟩
 ·refine⟨_,_,rfl,rfl,hnc,hm,fun _=>⟨g,0,rfl,.inr rfl,fun i x hi=>⟨_,t.more (h2.2 i x hi) fun b hb => .inl hb,fun j u hu =>?_⟩⟩⟩;rw[block_cell hb,Nat.zero_add];have hlt:=(List.getElem?_eq_some_iff.1 hi).1;rw[List.getElem?_take]at hu;split at hu
  ·rename_i hj;rw[List.getElem?_drop, ←htk]at hu;rw[List.getElem?_take]at hu;split at hu
   ·rw[←Array.getElem?_toList];exact hu
   ·cases hu
  ·cases hu
theorem OwnS.setAt{g n c:Nat}(h:OwnS t el w S base (.slice (some ⟨g,0,none⟩) n c) xs){k j:Nat}(hk:k<xs.length)(hj:j<t.size){u:Value}{y : α}(hg : ¬S g)(hy : ∀ cs,t.rep w S cs (xs.getD k y)→t.rep w S (cs.set j u) y) :
 OwnS t el (w.setCell ⟨g,k*t.size+j,none⟩ u) S base (.slice (some ⟨g,0,none⟩) n c) (xs.set k y):=by
 obtain⟨cs,h1,h2⟩:=h;have hkeep : ∀ b,S b→(w.setCell ⟨g,k*t.size+j,none⟩ u).heap[b]? = w.heap[b]? :=fun b hb=>qO _ _ _ _ fun e=>hg (by rw[←show b=g from e];exact hb)
 rcases h1.2 with ⟨h0,_⟩|⟨g2,cap,cur,hv,hgb,hb,hnc,hm,hsz,htk⟩
 ·cases h0
 ·cases hv;have hl:=h2.1;refine⟨cs.set (k*t.size+j) u,⟨by rw[List.length_set,h1.1,List.length_set],.inr ⟨_,_,_,by rw[List.length_set],hgb,qS _ _ _ _ _ _ hb,by rw[List.length_set];exact hnc,hm,by rw[Array.size_setIfInBounds];exact hsz, ?_⟩⟩, ?_,fun i x hi =>?_⟩
  ·rw[List.length_set,Array.toList_setIfInBounds,List.take_set,htk]
  ·rw[List.length_set,List.length_set];exact hl
  ·rw[chunk_set cs i k t.size j hj u];rw[List.getElem?_set]at hi
   by_cases hik:i=k
   ·subst hik;rw[qR rfl,qR hk]at hi;injection hi with hi
    subst hi;rw[qR rfl];have h3:=h2.2 i _ (qG hk);have e:xs[i]=xs.getD i y:=by rw[qF,qG hk];rfl
    rw[e]at h3;exact t.keep (hy _ h3) hkeep
   ·rw[qN (fun e=>hik e.symm)]at hi;rw[qN hik];exact t.keep (h2.2 i x hi) hkeep
end
end
section
open Go.RowKit
theorem owns_lower{w:World}{base base':Nat}{e:TypeId}{sz n:Nat}{v:Value}{xs:List Value}(h:w.ownsRow base e sz v n xs)(hb:base'≤base):w.ownsRow base' e sz v n xs:=by
 refine⟨h.1, ?_⟩;rcases h.2 with h3|⟨g,cap,cur,hv,hg,r⟩
 ·exact .inl h3
 ·exact .inr ⟨g,cap,cur,hv,Nat.le_trans hb hg,r⟩
theorem Own.flatC{α : Type}{t:Ty α}{e:TypeId}{w w':World}{base:Nat}{v:Value}{xs:List α}(ht:t.Flat)(h:Own t e w base v xs)(hk : ∀ b,v.ownBlock=some b→w'.heap[b]? = w.heap[b]?):Own t e w' base v xs:=by
 obtain⟨cs,h1,h2⟩:=h;refine⟨cs,⟨h1.1, ?_⟩,h2.1,fun i x hi=>ht (h2.2 i x hi)⟩;rcases h1.2 with h3|⟨g,cap,cur,hv,hg,hb,r⟩
 ·exact .inl h3
 ·exact .inr ⟨g,cap,cur,hv,hg,(hk g (by rw[hv];rfl)).trans hb,r⟩
theorem OwnS.block{α : Type}{t:Ty α}{el:TypeId}{w:World}{S:Nat→Prop}{base:Nat}{v:Value}{xs:List α}(h:OwnS t el w S base v xs){k:Nat}(hk:v.ownBlock=some k) : ∃ cur,w.heap[k]? = some (.cells cur el (0,0)):=by
 obtain⟨cs,h1,_⟩:=h;rcases h1.2 with ⟨rfl,_⟩|⟨g,cap,cur,rfl,hg,hb,r⟩
 ·cases hk
 ·injection hk with hk
  subst hk;exact⟨cur,hb⟩
theorem Own.block{α : Type}{t:Ty α}{el:TypeId}{w:World}{base:Nat}{v:Value}{xs:List α}(h:Own t el w base v xs){k:Nat}(hk:v.ownBlock=some k) : ∃ cur,w.heap[k]? = some (.cells cur el (0,0)):=by
 obtain⟨cs,h1,_⟩:=h;rcases h1.2 with ⟨rfl,_⟩|⟨g,cap,cur,rfl,hg,hb,r⟩
 ·cases hk
 ·injection hk with hk
  subst hk;exact⟨cur,hb⟩
def cqF(tb zb wh:Nat)(sl:Value)(k:Nat)(B:Option Addr)(m c:Nat)(shs:List GShift):Nat→Value→World→Prop
 | 0,v,_=>v=.pointer (some ⟨tb,0,none⟩)
 | 1,v,_=>v=sl
 | 2,v,_=>v=.int .i64 k
 | 3,v,_=>v=.pointer (some ⟨tb,0,none⟩)
 | 4,v,_=>v=sl
 | 5,v,_=>v=.int .i64 k
 | 6,v,_=>v=.pointer (some ⟨zb,k*3,none⟩)
 | 7,v,_=>v=.pointer (some ⟨zb,k*3+2,none⟩)
 | 8,v,_=>v=.slice B m c
 | 9,v,w => ∃ A c,v=.slice A shs.length c∧Own Ty.shift 122 w wh v shs
 | 10,v,_=>v=.pointer (some ⟨zb,k*3,none⟩)
 | 11,v,_=>v=.pointer (some ⟨zb,k*3+2,none⟩)
 | _,_,_=>True
theorem cqF_keep{tb zb wh:Nat}{sl:Value}{kk:Nat}{B:Option Addr}{m c:Nat}{shs:List GShift} : ∀ (k:Nat) (v:Value) (w w':World),cqF tb zb wh sl kk B m c shs k v w→Below w.heap.size w w'→cqF tb zb wh sl kk B m c shs k v w':=by
 intro k v w w' h hb;unfold cqF at h ⊢;split at h <;> try exact h
 obtain⟨A,c,e,ho⟩:=h;exact⟨A,c,e,ho.next hb⟩
def cpF(b0 wh:Nat)(A1 A2:Option Addr)(n1 c1 n2 c2:Nat)(t:GTT):Nat→Value→World→Prop
 | 0,v,_=>v=.pointer (some ⟨b0,0,none⟩)
 | 1,v,_=>v=.slice A1 n1 c1
 | 2,v,w => ∃ A c,v=.slice A t.zones.length c∧b0≤w.heap.size∧OwnS Ty.zone 98 w (fun b=>b<b0) wh v t.zones
 | 3,v,_=>v=.pointer (some ⟨b0,1,none⟩)
 | 4,v,_=>v=.slice A2 n2 c2
 | 5,v,w => ∃ A c,v=.slice A t.airports.length c∧Own Ty.airport 101 w wh v t.airports
 | 6,v,w => ∃ A c B d,v=.agg #[.slice A t.zones.length c,.slice B t.airports.length d,.slice none 0 0]∧b0≤w.heap.size∧OwnS Ty.zone 98 w (fun b=>b<b0) wh (.slice A t.zones.length c) t.zones∧Own Ty.airport 101 w wh (.slice B t.airports.length d) t.airports
 | 7,v,w => ∃ b,v=.pointer (some ⟨b,0,none⟩)∧wh≤b∧w.heap[b]? = some (.cells #[.slice none 0 0,.slice none 0 0,.slice none 0 0] 27 (0,0))
 | _,_,_=>True
theorem cpF_keep{b0 wh:Nat}{A1 A2:Option Addr}{n1 c1 n2 c2:Nat}{t:GTT} : ∀ (k:Nat) (v:Value) (w w':World),cpF b0 wh A1 A2 n1 c1 n2 c2 t k v w→Below w.heap.size w w'→cpF b0 wh A1 A2 n1 c1 n2 c2 t k v w':=by
 intro k v w w' h hb;unfold cpF at h ⊢;split at h <;> try exact h
 ·obtain⟨A,c,e,hz,ho⟩:=h;exact⟨A,c,e,Nat.le_trans hz hb.size,ho.next hb fun b hb=>Nat.lt_of_lt_of_le hb hz⟩
 ·obtain⟨A,c,e,ho⟩:=h;exact⟨A,c,e,ho.next hb⟩
 ·obtain⟨A,c,B,d,e,hz,h1,h2⟩:=h;exact⟨A,c,B,d,e,Nat.le_trans hz hb.size,h1.next hb fun b hb=>Nat.lt_of_lt_of_le hb hz,h2.next hb⟩
 ·obtain⟨b,e,h1,h2⟩:=h;exact⟨b,e,h1,(hb.block b (Array.getElem?_eq_some_iff.1 h2).1).trans h2⟩
def PlacesPost(t:GTT)(w:World)(e:Ending)(w':World):Prop :=
 ∃ A c B d,e=.returned (.agg #[.slice A t.zones.length c,.slice B t.airports.length d,.slice none 0 0])∧Sl Ty.zone w' (fun b=>b<w'.heap.size) A t.zones.length c t.zones∧Sl Ty.airport w' (fun b=>b<w'.heap.size) B t.airports.length d t.airports∧Below w.heap.size w w'
theorem copyPlaces_any(t:GTT)(A1 A2 A3:Option Addr)(n1 n2 n3 c1 c2 c3:Nat)(w:World)(hs1:Sl Ty.zone w (all_ w) A1 n1 c1 t.zones)(hs2:Sl Ty.airport w (all_ w) A2 n2 c2 t.airports)
 (h1:t.zones.length≤1000) (h2:t.airports.length≤1000) (h3 : ∀ z∈t.zones,z.shifts.length≤1000) :
 Calls Tryz.prog 45 #[.agg #[.slice A1 n1 c1,.slice A2 n2 c2,.slice A3 n3 c3]] w (PlacesPost t w):=by
 have HS1:Hid (∀ V,Below w.heap.size w V→Sl Ty.zone V (all_ w) A1 n1 c1 t.zones):=fun V hV=>hs1.keep (all_keep hV)
 have HS2:Hid (∀ V,Below w.heap.size w V→Sl Ty.airport V (all_ w) A2 n2 c2 t.airports):=fun V hV=>hs2.keep (all_keep hV)
 have H1:=qH h1;have H2:=qH h2;have H3:=qH h3;have HB0:Hid (∀ o p,Below w.heap.size w ((w.alloc o).alloc p)):=fun o p=>((qC _ _).alloc (qD _) o).alloc (by simp) p
 have HR0:Hid (∀ o p,((w.alloc o).alloc p).heap[w.heap.size]? = some o):=fun o p=>heap_alloc2_old _ _ _
 have HR1:Hid (∀ o p,((w.alloc o).alloc p).heap[w.heap.size+1]? = some p):=fun o p=>heap_alloc2_new _ _ _
 have HZ0:Hid (∀ o p,((w.alloc o).alloc p).heap.size=w.heap.size+2):=fun o p=>by simp
 clear hs1 hs2 h1 h2 h3
 go_enter Tryz.func45,Tryz.ntmps45
 go_wp2_with fail
 have hbw:=HB0.out (.cells #[.slice A1 n1 c1,.slice A2 n2 c2,.slice A3 n3 c3] 27) (.cells #[.slice none 0 0,.slice none 0 0,.slice none 0 0] 27);have hr0:=HR0.out (.cells #[.slice A1 n1 c1,.slice A2 n2 c2,.slice A3 n3 c3] 27) (.cells #[.slice none 0 0,.slice none 0 0,.slice none 0 0] 27);have hr1:=HR1.out (.cells #[.slice A1 n1 c1,.slice A2 n2 c2,.slice A3 n3 c3] 27) (.cells #[.slice none 0 0,.slice none 0 0,.slice none 0 0] 27);have hz0:=HZ0.out (.cells #[.slice A1 n1 c1,.slice A2 n2 c2,.slice A3 n3 c3] 27) (.cells #[.slice none 0 0,.slice none 0 0,.slice none 0 0] 27);generalize (w.alloc (.cells #[.slice A1 n1 c1,.slice A2 n2 c2,.slice A3 n3 c3] 27)).alloc (.cells #[.slice none 0 0,.slice none 0 0,.slice none 0 0] 27)=W at*;have HBW:=qH hbw;have HRA:=qH hr0;have HRB:=qH hr1;have HZW:=qH hz0;clear HB0 HR0 HR1 HZ0 hbw hr0 hr1 hz0;refine wp_region_facts 8 [5,6,7,8,9,10,11,3] (cpF w.heap.size W.heap.size A1 A2 n1 c1 n2 c2 t) (by kernel_rfl) (by kernel_rfl) (by kernel_rfl) (by kernel_rfl) (by kernel_rfl) cpF_keep ?_ ?_
 ·intro q o hq ho a' w' hb' hout hpre K hK;have hq':q=0∨q=1∨q=2∨q=3∨q=4∨q=5∨q=6∨q=7:=by omega
  have hzz:=HZW.out;have hww:Below w.heap.size w w':=HBW.out.trans (hb'.mono (by omega));rcases hq' with rfl|rfl|rfl|rfl|rfl|rfl|rfl|rfl
  ·obtain rfl:=qB ho;have e1:a'.tmps[1]? = some (.pointer (some ⟨w.heap.size,0,none⟩)):=hout 1 (by decide);go_simp
   exact hK _ w' rfl (qC _ _)
  ·obtain rfl:=qB ho;have p0:a'.tmps.getD 5 undef=.pointer (some ⟨w.heap.size,0,none⟩):=hpre ⟨0,.data⟩ (by simp) 5 rfl;simp only[qA]at p0;have y0:w'.cell? ⟨w.heap.size,0,none⟩=some (.slice A1 n1 c1):=(cell_of_same (a:=⟨w.heap.size,0,none⟩) (hb'.block _ (show w.heap.size<W.heap.size by omega))).trans (block_cell HRA.out 0);go_simp
   exact hK _ w' rfl (qC _ _)
  ·obtain rfl:=qB ho;have p1:a'.tmps.getD 6 undef=.slice A1 n1 c1:=hpre ⟨1,.data⟩ (by simp) 6 rfl;simp only[qA]at p1;have HC:=qH (cloneZone_any A1 n1 c1 t.zones (fun b=>b<w.heap.size) w' (HS1.out w' hww) (fun b hb=>Nat.lt_of_lt_of_le hb hww.size) H1.out);go_simp
   refine HC.out.mono ?_;rintro e w2 ⟨v,cs,rfl,hrep,hown,hbl⟩;have hos:OwnS Ty.zone 98 w2 (fun b=>b<w.heap.size) W.heap.size v t.zones:=⟨cs,owns_lower hown hb'.size,hrep⟩
   obtain⟨A,c,rfl, -⟩:=hos.sl;exact hK _ w2 ⟨A,c,rfl,Nat.le_trans hww.size hbl.size,hos⟩ hbl
  ·obtain rfl:=qB ho;have e1:a'.tmps[1]? = some (.pointer (some ⟨w.heap.size,0,none⟩)):=hout 1 (by decide);go_simp
   exact hK _ w' rfl (qC _ _)
  ·obtain rfl:=qB ho;have p0:a'.tmps.getD 8 undef=.pointer (some ⟨w.heap.size,1,none⟩):=hpre ⟨3,.data⟩ (by simp) 8 rfl;simp only[qA]at p0;have y0:w'.cell? ⟨w.heap.size,1,none⟩=some (.slice A2 n2 c2):=(cell_of_same (a:=⟨w.heap.size,1,none⟩) (hb'.block _ (show w.heap.size<W.heap.size by omega))).trans (block_cell HRA.out 1);go_simp
   exact hK _ w' rfl (qC _ _)
  ·obtain rfl:=qB ho;have p1:a'.tmps.getD 9 undef=.slice A2 n2 c2:=hpre ⟨4,.data⟩ (by simp) 9 rfl;simp only[qA]at p1;have HC:=qH (cloneAirport_any A2 n2 c2 t.airports w' ((HS2.out w' hww).more fun b hb=>Nat.lt_of_lt_of_le hb hww.size) H2.out);go_simp
   refine HC.out.mono ?_;rintro e w2 ⟨v,rfl,hown,hbl⟩;have hos:Own Ty.airport 101 w2 W.heap.size v t.airports:=hown.lower hb'.size;obtain⟨A,c,rfl, -⟩:=hos.sl;exact hK _ w2 ⟨A,c,rfl,hos⟩ hbl
  ·obtain rfl:=qB ho;have p1:=hpre ⟨2,.data⟩ (by simp) 7 rfl;have p2:=hpre ⟨5,.data⟩ (by simp) 10 rfl;simp only[qA]at p1 p2;obtain⟨A,c,p1,hz1,h1⟩:=p1;obtain⟨B,d,p2,h2⟩:=p2;rw[p1]at h1;rw[p2]at h2;have HH1:=qH h1;have HH2:=qH h2;clear h1 h2;go_simp
   exact hK _ w' ⟨A,c,B,d,rfl,hz1,HH1.out,HH2.out⟩ (qC _ _)
  ·obtain rfl:=qB ho;go_simp
   exact hK _ _ ⟨w'.heap.size,rfl,hb'.size,qK _ _⟩ ((qC _ _).alloc (qD _) _)
 ·intro us w' hb' hfacts;obtain⟨A,c,B,d,h6,hz6,hzo,hao⟩:=hfacts 6 (by decide);obtain⟨tb,h7,htb,htc⟩:=hfacts 7 (by decide);clear hfacts;simp only[putL,Act.put,List.setIfInBounds_toArray,List.set_cons_zero,List.set_cons_succ];generalize us 7=x7 at*;generalize us 6=x6 at*;subst h6 h7;simp only[List.drop_succ_cons,List.drop_zero];have hzz:=HZW.out;have hbz : ∀ k,Value.ownBlock (.slice A t.zones.length c)=some k→k≠tb:=fun k hk e=>by
   obtain⟨cur,hc⟩:=hzo.block hk;rw[e,htc]at hc
   cases hc
  have hba : ∀ k,Value.ownBlock (.slice B t.airports.length d)=some k→k≠tb:=fun k hk e=>by
   obtain⟨cur,hc⟩:=hao.block hk;rw[e,htc]at hc
   cases hc
  have htl:tb<w'.heap.size:=(Array.getElem?_eq_some_iff.1 htc).1;have key : ∀ V:World,V.heap.size=w'.heap.size→(∀ k,k≠tb→V.heap[k]? = w'.heap[k]?)→OwnS Ty.zone 98 V (fun b=>b<w.heap.size∨(w'.heap.size≤b∧b<V.heap.size)) W.heap.size (.slice A t.zones.length c) t.zones∧Own Ty.airport 101 V W.heap.size (.slice B t.airports.length d) t.airports ∧
   V.heap[w.heap.size+1]? = some (.cells #[.slice none 0 0,.slice none 0 0,.slice none 0 0] 27 (0,0)):=fun V hs hk=>by
   refine⟨(hzo.keep (by omega) (fun k h=>hk k (hbz k h)) fun b hb=>hk b (by have:b<w.heap.size:=hb;omega)).more fun b hb => .inl hb, ?_, ?_⟩
   ·exact hao.flatC flat_airport fun k h=>hk k (hba k h)
   ·rw[hk _ (by omega),hb'.block _ (by omega)];exact HRB.out
  have HB3:Hid (∀ a b c,Below W.heap.size W (((w'.setCell ⟨tb,0,none⟩ a).setCell ⟨tb,1,none⟩ b).setCell ⟨tb,2,none⟩ c)):=fun a b c=>((hb'.setCell htb _).setCell htb _).setCell htb _
  have HT3:Hid ((((w'.setCell ⟨tb,0,none⟩ (.slice A t.zones.length c)).setCell ⟨tb,1,none⟩ (.slice B t.airports.length d)).setCell ⟨tb,2,none⟩ (.slice none 0 0)).heap[tb]? = some (.cells #[.slice A t.zones.length c,.slice B t.airports.length d,.slice none 0 0] 27 (0,0))):=by
   have:=qS _ tb 2 _ _ (.slice none 0 0) (qS _ tb 1 _ _ (.slice B t.airports.length d) (qS w' tb 0 _ _ (.slice A t.zones.length c) htc));show _=_;simpa using this
  have KEY:=qH (key (((w'.setCell ⟨tb,0,none⟩ (.slice A t.zones.length c)).setCell ⟨tb,1,none⟩ (.slice B t.airports.length d)).setCell ⟨tb,2,none⟩ (.slice none 0 0)) (by simp) fun k hk=>by
   rw[qO _ _ _ _ hk,qO _ _ _ _ hk,qO _ _ _ _ hk])
  have HSZ:Hid ((((w'.setCell ⟨tb,0,none⟩ (.slice A t.zones.length c)).setCell ⟨tb,1,none⟩ (.slice B t.airports.length d)).setCell ⟨tb,2,none⟩ (.slice none 0 0)).heap.size=w'.heap.size):=by
   show _=_;simp
  have y0:=block_cell htc 0;have y1:=block_cell htc 1;have y2:=block_cell htc 2;have f0:=block_free htc 0;have f1:=block_free htc 1;have f2:=block_free htc 2;have HZK:Hid (t.zones.length=t.zones.length):=rfl;clear key hbz hba hzo hao;go_wp2_with fail
  have hb3:=HB3.out (.slice A t.zones.length c) (.slice B t.airports.length d) (.slice none 0 0);have ht3:=HT3.out;have key3:=KEY.out;have hsz3:=HSZ.out;clear HB3 HT3 KEY HSZ y0 y1 y2 f0 f1 f2;generalize ((w'.setCell ⟨tb,0,none⟩ (.slice A t.zones.length c)).setCell ⟨tb,1,none⟩ (.slice B t.airports.length d)).setCell ⟨tb,2,none⟩ (.slice none 0 0)=w3 at*;have h0:=block_cell ht3 0;have H0:=qH hb3;have HT:=qH ht3;have HK:=qH key3;have HSS:=qH hsz3;clear hb3 ht3 key3 hsz3;have HZL:Hid (w'.heap.size=w3.heap.size):=HSS.out.symm;have HWL:Hid (W.heap.size≤w'.heap.size∧tb<w'.heap.size):=⟨hb'.size,htl⟩
  clear hb' htc hz6 hzz;generalize w'.heap.size=wl at*;go_loopw [4,15] (fun _ s wr => ∃ k:Nat,k≤t.zones.length∧s=.int .i64 k∧Below W.heap.size W wr∧wl≤wr.heap.size∧wr.heap[tb]? = some (.cells #[.slice A t.zones.length c,.slice B t.airports.length d,.slice none 0 0] 27 (0,0)) ∧
   OwnS Ty.zone 98 wr (fun b=>b<w.heap.size∨(wl≤b∧b<wr.heap.size)) W.heap.size (.slice A t.zones.length c) t.zones∧Own Ty.airport 101 wr W.heap.size (.slice B t.airports.length d) t.airports ∧
   wr.heap[w.heap.size+1]? = some (.cells #[.slice none 0 0,.slice none 0 0,.slice none 0 0] 27 (0,0))∧(∀ k,Value.ownBlock (.slice A t.zones.length c)=some k→k<wl)) (fun _ s _=>t.zones.length-(intOf s).toNat)
  case atStart=>exact⟨0,qV _,rfl,H0.out,by rw[HZL.out];exact qD _,HT.out,HK.out.1,HK.out.2.1,HK.out.2.2,fun k hk=>by have:=(HK.out.1.lt k hk).2;rw[←HZL.out]at this;exact this⟩
  case round =>
   obtain⟨k,hk,rfl,hbr,hzr,htr,hzo,hao,hres,hob⟩:=hrel;clear H0 HT HK HSS h0;have hzz:=HZW.out
   by_cases hlt:k<t.zones.length
   ·obtain⟨A0,c0,e0,hsl⟩:=hzo.sl
    cases e0;obtain⟨zb,o,A',n',c',e1,hS,z0,z1,z2,hsh⟩:=hsl.zone_at hlt;have hA:A=some ⟨zb,0,none⟩∧o=0:=by
     obtain⟨cs,hr,_⟩:=hzo;rcases hr.2 with ⟨h0,h1⟩|⟨g,cap,cur,hv,_⟩
     ·omega
     ·rw[e1]at hv
      cases hv;exact⟨e1,rfl⟩
    obtain⟨rfl,rfl⟩:=hA;rw[Nat.zero_add]at z0 z1 z2;have hzb:W.heap.size≤zb∧zb<wl:=⟨(hzo.lt zb rfl).1,hob zb rfl⟩
    have hml:(t.zones.getD k noZone).shifts.length≤1000:=H3.out _ (by rw[qF,qG hlt];exact List.getElem_mem hlt);generalize hshs:(t.zones.getD k noZone).shifts=shs at*;have HSHS:=qH hshs;clear hshs;have htz:tb≠zb:=fun e=>by
     obtain⟨cur,hc⟩:=hzo.block (k:=zb) rfl;rw[←e,htr]at hc
     cases hc
    have HBR:=qH hbr;have HTR:=qH htr;have HZO:=qH hzo;have HAO:=qH hao;have HRS:=qH hres;have HSH:=qH hsh;have HZ2:=qH z2;have HOB:=qH hob;clear hbr htr hzo hao hres hsl hsh z0 z1 z2 hob e1;have hrl:wl≤wr.heap.size:=hzr;go_wp2_with fail
    refine wp_region_factsB 12 [18,19,20,21,22,23,24,25,26,27,28,29] (cqF tb zb wr.heap.size (.slice (some ⟨zb,0,none⟩) t.zones.length c) k A' n' c' shs) (by kernel_rfl) (by kernel_rfl) (by kernel_rfl) (by kernel_rfl) (by kernel_rfl) cqF_keep ?_ ?_
    ·intro q o hq ho a' w5 hb5 hout hpre K hK;have hq':q=0∨q=1∨q=2∨q=3∨q=4∨q=5∨q=6∨q=7∨q=8∨q=9∨q=10∨q=11:=by omega
     have hwt:=HWL.out;have y0:w5.cell? ⟨tb,0,none⟩=some (.slice (some ⟨zb,0,none⟩) t.zones.length c):=(cell_of_same (a:=⟨tb,0,none⟩) (hb5.block _ (show tb<wr.heap.size by omega))).trans (block_cell HTR.out 0);have y2:w5.cell? ⟨zb,k*3+2,none⟩=some (.slice A' n' c'):=(cell_of_same (a:=⟨zb,k*3+2,none⟩) (hb5.block _ (show zb<wr.heap.size by omega))).trans HZ2.out;have hk0:(0:Int)≤(k:Int):=by omega
     have hk1:(k:Int)<(t.zones.length:Int):=by omega
     rcases hq' with rfl|rfl|rfl|rfl|rfl|rfl|rfl|rfl|rfl|rfl|rfl|rfl
     ·obtain rfl:=qB ho;have e1:a'.tmps[3]? = some (.pointer (some ⟨tb,0,none⟩)):=hout 3 (by decide);go_simp
      exact hK _ w5 rfl (qC _ _)
     ·obtain rfl:=qB ho;have p0:a'.tmps.getD 18 undef=.pointer (some ⟨tb,0,none⟩):=hpre ⟨0,.data⟩ (by simp) 18 rfl;simp only[qA]at p0;go_simp
      exact hK _ w5 rfl (qC _ _)
     ·obtain rfl:=qB ho;have e1:a'.tmps[4]? = some (.int .i64 k):=hout 4 (by decide);go_simp
      exact hK _ w5 rfl (qC _ _)
     ·obtain rfl:=qB ho;have e1:a'.tmps[3]? = some (.pointer (some ⟨tb,0,none⟩)):=hout 3 (by decide);go_simp
      exact hK _ w5 rfl (qC _ _)
     ·obtain rfl:=qB ho;have p0:a'.tmps.getD 21 undef=.pointer (some ⟨tb,0,none⟩):=hpre ⟨3,.data⟩ (by simp) 21 rfl;simp only[qA]at p0;go_simp
      exact hK _ w5 rfl (qC _ _)
     ·obtain rfl:=qB ho;have e1:a'.tmps[4]? = some (.int .i64 k):=hout 4 (by decide);go_simp
      exact hK _ w5 rfl (qC _ _)
     ·obtain rfl:=qB ho;have p0:a'.tmps.getD 22 undef=.slice (some ⟨zb,0,none⟩) t.zones.length c:=hpre ⟨4,.data⟩ (by simp) 22 rfl;have p1:a'.tmps.getD 23 undef=.int .i64 k:=hpre ⟨5,.data⟩ (by simp) 23 rfl;simp only[qA]at p0 p1;go_simp
      exact hK _ w5 rfl (qC _ _)
     ·obtain rfl:=qB ho;have p0:a'.tmps.getD 24 undef=.pointer (some ⟨zb,k*3,none⟩):=hpre ⟨6,.data⟩ (by simp) 24 rfl;simp only[qA]at p0;go_simp
      exact hK _ w5 rfl (qC _ _)
     ·obtain rfl:=qB ho;have p0:a'.tmps.getD 25 undef=.pointer (some ⟨zb,k*3+2,none⟩):=hpre ⟨7,.data⟩ (by simp) 25 rfl;simp only[qA]at p0;go_simp
      exact hK _ w5 rfl (qC _ _)
     ·obtain rfl:=qB ho;have p0:a'.tmps.getD 26 undef=.slice A' n' c':=hpre ⟨8,.data⟩ (by simp) 26 rfl;simp only[qA]at p0;have hold : ∀ b,((b<w.heap.size∨(wl≤b∧b<wr.heap.size))∨Value.ownBlock (.slice (some ⟨zb,0,none⟩) t.zones.length c)=some b)→b<wr.heap.size:=fun b hb=>by
       rcases hb with (h|h)|h
       ·have:=hb5.size;omega
       ·exact h.2
       ·have:=HOB.out b h;omega
      have HC:=qH (cloneShiftO_any A' n' c' shs w5 ((HSH.out.keep fun b hb=>hb5.block b (hold b hb)).more fun b hb=>Nat.lt_of_lt_of_le (hold b hb) hb5.size) hml);go_simp
      refine HC.out.mono ?_;rintro e w2 ⟨v,rfl,hown,hbl⟩;have hos:Own Ty.shift 122 w2 wr.heap.size v shs:=hown.lower hb5.size;obtain⟨A9,c9,rfl, -⟩:=hos.sl;exact hK _ w2 ⟨A9,c9,rfl,hos⟩ hbl
     ·obtain rfl:=qB ho;have p0:a'.tmps.getD 19 undef=.slice (some ⟨zb,0,none⟩) t.zones.length c:=hpre ⟨1,.data⟩ (by simp) 19 rfl;have p1:a'.tmps.getD 20 undef=.int .i64 k:=hpre ⟨2,.data⟩ (by simp) 20 rfl;simp only[qA]at p0 p1;go_simp
      exact hK _ w5 rfl (qC _ _)
     ·obtain rfl:=qB ho;have p0:a'.tmps.getD 28 undef=.pointer (some ⟨zb,k*3,none⟩):=hpre ⟨10,.data⟩ (by simp) 28 rfl;simp only[qA]at p0;go_simp
      exact hK _ w5 rfl (qC _ _)
    ·intro us w5 hb5 hfacts;obtain⟨A9,c9,h9,ho9⟩:=hfacts 9 (by decide);have h11:us 11=.pointer (some ⟨zb,k*3+2,none⟩):=hfacts 11 (by decide);clear hfacts;simp only[putL,Act.put,List.setIfInBounds_toArray,List.set_cons_zero,List.set_cons_succ,Nat.zero_add,Nat.reduceAdd];generalize us 9=x9 at*;generalize us 11=x11 at*;subst h9 h11;simp only[List.drop_succ_cons,List.drop_zero];have hzl:=HWL.out;have hz5 : ∀ b,(b<w.heap.size∨(wl≤b∧b<wr.heap.size))→b<wr.heap.size:=fun b hb=>by omega
     have g0:OwnS Ty.zone 98 w5 (fun b=>b<w.heap.size∨(wl≤b∧b<w5.heap.size)) W.heap.size (.slice (some ⟨zb,0,none⟩) t.zones.length c) t.zones:=(HZO.out.next hb5 hz5).more fun b hb=>by have:=hb5.size;omega
     have hos9:=ho9.sl;obtain⟨B9,d9,e9,hsl9⟩:=hos9
     cases e9;have g1:=g0.setAt (j:=2) (u:=.slice A9 shs.length c9) (y:=t.zones.getD k noZone) hlt (show 2<3 by decide) (by show ¬_;omega) (fun cs hr=>by
      have hself:t.zones.getD k (t.zones.getD k noZone)=t.zones.getD k noZone:=by rw[qF,qF,qG hlt];rfl
      rw[hself]at hr;obtain⟨A,n,c,rfl,_⟩:=hr;exact⟨_,_,_,rfl,by rw[HSHS.out];exact hsl9.more fun b hb => .inr (by omega)⟩)
     have hset:t.zones.set k (t.zones.getD k noZone)=t.zones:=by
      rw[qF,qG hlt];exact List.set_getElem_self hlt
     rw[hset]at g1;have hkeep : ∀ q,q≠zb→(w5.setCell ⟨zb,k*3+2,none⟩ (.slice A9 shs.length c9)).heap[q]? = w5.heap[q]? :=fun q hq=>qO _ _ _ _ hq
     have hs6:(w5.setCell ⟨zb,k*3+2,none⟩ (.slice A9 shs.length c9)).heap.size=w5.heap.size:=by simp
     have G1:Hid (OwnS Ty.zone 98 (w5.setCell ⟨zb,k*3+2,none⟩ (.slice A9 shs.length c9)) (fun b=>b<w.heap.size∨(wl≤b∧b<(w5.setCell ⟨zb,k*3+2,none⟩ (.slice A9 shs.length c9)).heap.size)) W.heap.size (.slice (some ⟨zb,0,none⟩) t.zones.length c) t.zones):=by
      show OwnS _ _ _ _ _ _ _;rw[hs6];exact g1
     have hzo2:=HZO.out;have hao2:=HAO.out;have hba : ∀ q,Value.ownBlock (.slice B t.airports.length d)=some q→q≠zb:=fun q hq e=>by
      obtain⟨cur,hc⟩:=hao2.block hq;obtain⟨cur2,hc2⟩:=hzo2.block (k:=zb) rfl;rw[e,hc2]at hc
      cases hc
     have G2:Hid (Own Ty.airport 101 (w5.setCell ⟨zb,k*3+2,none⟩ (.slice A9 shs.length c9)) W.heap.size (.slice B t.airports.length d) t.airports):=(hao2.next hb5).flatC flat_airport fun q hq=>hkeep q (hba q hq)
     have G3:Hid ((w5.setCell ⟨zb,k*3+2,none⟩ (.slice A9 shs.length c9)).heap[tb]? = _):=(hkeep tb htz).trans ((hb5.block tb (by omega)).trans HTR.out);have G4:Hid ((w5.setCell ⟨zb,k*3+2,none⟩ (.slice A9 shs.length c9)).heap[w.heap.size+1]? = _):=(hkeep _ (by omega)).trans ((hb5.block _ (by omega)).trans HRS.out);have G5:Hid (Below W.heap.size W (w5.setCell ⟨zb,k*3+2,none⟩ (.slice A9 shs.length c9))):=(HBR.out.trans (hb5.mono HBR.out.size)).setCell (show W.heap.size≤zb from hzb.1) _;have hz6:wl≤(w5.setCell ⟨zb,k*3+2,none⟩ (.slice A9 shs.length c9)).heap.size:=by rw[hs6];have:=hb5.size;omega
     obtain⟨cur5,hcur5⟩:=g0.block (k:=zb) rfl;have hy5:w5.cell? ⟨zb,k*3+2,none⟩=some (.slice A' n' c'):=(cell_of_same (a:=⟨zb,k*3+2,none⟩) (hb5.block _ (show zb<wr.heap.size by omega))).trans HZ2.out;have hf5:w5.frozen? ⟨zb,k*3+2,none⟩=false:=block_free hcur5 _;have HZ6:=qH hz6;have hle:t.zones.length≤1000:=H1.out;clear g0 g1 hkeep hs6 hzo2 hao2 hba hsl9 ho9 hz5 hset hz6 hcur5;go_wp2_with fail
     go_roundw
     case rel=>exact⟨k+1,by omega,by go_num,G5.out,HZ6.out,G3.out,G1.out,G2.out,G4.out,HOB.out⟩
     case measure=>simp[intOf];omega
   ·have y0:=block_cell htr 0;have y1:=block_cell htr 1;have y2:=block_cell htr 2;have z0:=block_cell hres 0;have z1:=block_cell hres 1;have z2:=block_cell hres 2;have f0:=block_free hres 0;have f1:=block_free hres 1;have f2:=block_free hres 2;have HBR:=qH hbr;have HZO:=qH hzo;have HAO:=qH hao;have hwt:=HWL.out;have hne:w.heap.size+1≠tb:=by omega
    have hne':tb≠w.heap.size+1:=by omega
    have HFIN:Hid (∀ a b g,PlacesPost t w (.returned (.agg #[.slice A t.zones.length c,.slice B t.airports.length d,.slice none 0 0])) (((wr.setCell ⟨w.heap.size+1,0,none⟩ a).setCell ⟨w.heap.size+1,1,none⟩ b).setCell ⟨w.heap.size+1,2,none⟩ g)):=fun a b g=>by
     have hk2 : ∀ q,q≠w.heap.size+1→(((wr.setCell ⟨w.heap.size+1,0,none⟩ a).setCell ⟨w.heap.size+1,1,none⟩ b).setCell ⟨w.heap.size+1,2,none⟩ g).heap[q]? = wr.heap[q]? :=fun q hq=>by
      rw[qO _ _ _ _ hq,qO _ _ _ _ hq,qO _ _ _ _ hq]
     have hs2:(((wr.setCell ⟨w.heap.size+1,0,none⟩ a).setCell ⟨w.heap.size+1,1,none⟩ b).setCell ⟨w.heap.size+1,2,none⟩ g).heap.size=wr.heap.size:=by simp
     have hzl:=HZO.out.lt;have hal:=HAO.out.lt;obtain⟨A1',c1',e1,s1⟩:=HZO.out.sl
     cases e1;obtain⟨B1',d1',e2,s2⟩:=HAO.out.sl
     cases e2;refine⟨A,c,B,d,rfl,(s1.keep fun q hq=>hk2 q ?_).more fun q hq =>?_,(s2.keep fun q hq=>hk2 q ?_).more fun q hq =>?_,((((HBW.out.trans (HBR.out.mono (by omega))).setCell (by show _≤w.heap.size+1;omega) _).setCell (by show _≤w.heap.size+1;omega) _).setCell (by show _≤w.heap.size+1;omega) _)⟩
     ·rcases hq with (h|h)|h
      ·omega
      ·omega
      ·have:=(hzl q h).1;omega
     ·rw[hs2];rcases hq with (h|h)|h
      ·omega
      ·omega
      ·exact(hzl q h).2
     ·have:=hq.1;omega
     ·rw[hs2];exact hq.2
    clear htr hres hbr hzo hao hob;go_wp2_with fail
    refine bodyPost_ret (v:=.agg #[.slice A t.zones.length c,.slice B t.airports.length d,.slice none 0 0]) (by simp[results,Tryz.results45,go_sem,z0,z1,z2]) rfl ?_;exact HFIN.out _ _ _
end
section
open Go.RowKit
def FindPost(x:Int)(w:World)(e:Ending)(w':World):Prop := ∃ (i1:Int) (s1 s2:ByteArray) (i2 i3:Int) (A1 A2:Option Addr) (n1 c1 n2 c2:Nat),e=.returned (.tuple #[.agg #[.int .i64 i1,.string s1,.string s2,.int .i64 i2,.int .i64 i3,.slice A1 n1 c1,.slice A2 n2 c2],.int .i64 x])∧Below w.heap.size w w'
theorem crew_lists{t:GTT}{l:List GPerson}(h:crewE t l=0):l.length≤64 ∧ ∀ k,k<l.length→(l.getD k noPerson).types.length≤8∧(l.getD k noPerson).vacs.length≤8:=by
 unfold crewE at h;split at h
 ·rename_i h0;exact absurd h h0
 split at h
 ·exact absurd h (by decide)
 rename_i hl;refine⟨by omega,fun k hk =>?_⟩;have hz:pErr (aCodes t.airports) l k=0:=by
  have:zeroTo (pErr (aCodes t.airports) l) l.length:=by
   intro j
   induction j using Nat.strongRecOn with
   | ind j ih =>
    intro hj
    by_cases h0:pErr (aCodes t.airports) l j=0
    ·exact h0
    ·have:=firstErr_hit (f:=pErr (aCodes t.airports) l) (k:=j) (fun i hi=>ih i hi (by omega)) h0 hj;rw[this]at h;exact h
  exact this k hk
 unfold pErr at hz;split at hz; · exact absurd hz (by decide)
 split at hz; · exact absurd hz (by decide)
 split at hz; · exact absurd hz (by decide)
 split at hz; · exact absurd hz (by decide)
 split at hz; · exact absurd hz (by decide)
 split at hz; · exact absurd hz (by decide)
 split at hz; · exact absurd hz (by decide)
 omega
theorem hasI_ids(l:List GPerson)(id:Int):hasI (pIds l) id=true ↔ ∃ k,k<l.length∧(l.getD k noPerson).id=id:=by
 unfold hasI pIds;rw[List.any_eq_true];constructor
 ·rintro⟨x,hx,hd⟩;obtain⟨p,hp,rfl⟩:=List.mem_map.1 hx;obtain⟨k,hk,rfl⟩:=List.getElem_of_mem hp;refine⟨k,hk, ?_⟩;rw[qF,qG hk];exact(of_decide_eq_true hd).symm
 ·rintro⟨k,hk,rfl⟩;exact⟨_,List.mem_map.2 ⟨_,getD_in hk noPerson,rfl⟩,by simp⟩
theorem crewFind_any(l:List GPerson)(A:Option Addr)(n c:Nat)(id:Int)(w:World)(hs:Sl Ty.person w (all_ w) A n c l)(hl : ∀ k,k<l.length→(l.getD k noPerson).types.length≤8∧(l.getD k noPerson).vacs.length≤8) :
 Calls Tryz.prog 37 #[.slice A n c,.int .i64 id] w (FindPost (if hasI (pIds l) id=true then 0 else 6) w):=by
 have hn1:n≤l.length:=Nat.le_of_eq hs.len;have hn2:l.length≤n:=Nat.le_of_eq hs.len.symm;have hle:=hs.le;unfold maxLen at hle;have HS:Hid (∀ V,Below w.heap.size w V→Sl Ty.person V (all_ V) A n c l):=fun V hV=>hs.next hV
 have HL:=qH hl;have HB0:Hid (∀ o,Below w.heap.size w (w.alloc o)):=fun o=>(qC _ _).alloc (qD _) o
 have HR0:Hid (∀ o,(w.alloc o).heap[w.heap.size]? = some o):=fun o=>qK _ _
 clear hs hl;have HR:Hid ((∀ k,k<l.length→(l.getD k noPerson).id=id→(if hasI (pIds l) id=true then (0:Int) else 6)=0)∧((∀ j,j<l.length→(l.getD j noPerson).id≠id)→(if hasI (pIds l) id=true then (0:Int) else 6)=6)):=by
  refine⟨fun k hk he=>qR ((hasI_ids l id).2 ⟨k,hk,he⟩),fun h=>qN fun h2 =>?_⟩;obtain⟨k,hk,he⟩:=(hasI_ids l id).1 h2;exact h k hk he
 generalize (if hasI (pIds l) id=true then (0:Int) else 6)=rr at*
 go_enter Tryz.func37,Tryz.ntmps37
 go_wp2_with fail
 go_loopw [10] (fun s wr => ∃ k:Nat,k≤n∧s=.int .i64 k∧Below w.heap.size w wr∧w.heap.size<wr.heap.size∧wr.heap[w.heap.size]? = some (.cells #[.int .i64 0,.string ⟨#[]⟩,.string ⟨#[]⟩,.int .i64 0,.int .i64 0,.slice none 0 0,.slice none 0 0] 75 (0,0))∧Hid (∀ j,j<k→(l.getD j noPerson).id≠id)) (fun s _=>n-(intOf s).toNat)
 case atStart=>exact⟨0,qV _,rfl,HB0.out _,by simp,HR0.out _,fun j hj=>absurd hj (by omega)⟩
 case round =>
  obtain⟨k,hk,rfl,hbr,hsz,hr,HK⟩:=hrel
  by_cases hlt:k<n
  ·have hks:k<l.length:=by omega
   obtain⟨b,o,A1,m1,d1,A2,m2,d2,rfl,hbS,hat,hs1,hs2⟩:=(HS.out wr hbr).person_at hks;have HLK:=qH (HL.out k hks);have HID:=qH (HR.out.1 k hks);have z0:=hat 0 _ rfl;rw[Nat.add_zero]at z0;have z1:=hat 1 _ rfl;have z2:=hat 2 _ rfl;have z3:=hat 3 _ rfl;have z4:=hat 4 _ rfl;have z5:=hat 5 _ rfl;have z6:=hat 6 _ rfl;have HNX:Hid ((l.getD k noPerson).id≠id → ∀ j,j<k+1→(l.getD j noPerson).id≠id):=fun h j hj=>by
    rcases Nat.lt_or_eq_of_le (Nat.le_of_lt_succ hj) with h1|rfl
    ·exact HK.out j h1
    ·exact h
   have HS1:=qH hs1;have HS2:=qH hs2;clear hs1 hs2 hat;generalize l.getD k noPerson=p at*;obtain⟨pid,pname,pbase,prank,psen,ptypes,pvacs⟩:=p;simp only at z0 z1 z2 z3 z4 HLK HS1 HS2 HID HNX;have HB1:Hid (∀ o,Below wr.heap.size wr (wr.alloc o)):=fun o=>(qC _ _).alloc (qD _) o
   by_cases he:pid=id
   case neg =>
    have he':(pid==id)=false:=by simpa using he
    have HM:=qH (HNX.out he);clear he HNX HID;have hr2 : ∀ o,(wr.alloc o).heap[w.heap.size]? = some (.cells #[.int .i64 0,.string ⟨#[]⟩,.string ⟨#[]⟩,.int .i64 0,.int .i64 0,.slice none 0 0,.slice none 0 0] 75 (0,0)):=fun o=>(Below.heap_alloc _ _ _ hsz).trans hr
    have HR2:=qH hr2;clear hr hr2;go_wp2_with fail
    go_roundw
    case rel=>exact⟨k+1,by omega,by go_num,hbr.trans ((HB1.out _).mono hbr.size),by simp;omega,HR2.out _,HM⟩
    case measure=>simp[intOf];omega
   case pos =>
    have he':(pid==id)=true:=by simpa using he
    have HF:=qH (HID.out he);subst he;clear HNX HID;have HC1:=qH (cloneStr_any A1 m1 d1 ptypes (wr.alloc (.cells #[.int .i64 pid,.string pname,.string pbase,.int .i64 prank,.int .i64 psen,.slice A1 m1 d1,.slice A2 m2 d2] 75)) (HS1.out.next (HB1.out _)) (by have:=HLK.out.1;omega));go_wp2_with fail
    refine HC1.out.mono ?_;rintro e w1 ⟨v1,rfl,ho1,hb1⟩;obtain⟨B1,e1,rfl, -⟩:=ho1.sl;generalize ptypes.length=m1' at*;have hz1:=hb1.size;simp only[World.size_alloc]at hz1;have k7:w1.heap[wr.heap.size]? = _:=(hb1.block _ (by simp)).trans (qK _ _);have kr:w1.heap[w.heap.size]? = _:=(hb1.block _ (by simp;omega)).trans ((Below.heap_alloc _ _ _ hsz).trans hr);have k8:=qS w1 wr.heap.size 5 _ _ (.slice B1 m1' e1) k7;have kr8:(w1.setCell ⟨wr.heap.size,5,none⟩ (.slice B1 m1' e1)).heap[w.heap.size]? = _:=(qO w1 ⟨wr.heap.size,5,none⟩ _ _ (show w.heap.size≠wr.heap.size by omega)).trans kr;have hb8:Below wr.heap.size wr (w1.setCell ⟨wr.heap.size,5,none⟩ (.slice B1 m1' e1)):=((HB1.out _).trans (hb1.mono (by simp))).setCell (qD _) _;have y0:=block_cell k7 0;have y1:=block_cell k7 1;have y2:=block_cell k7 2;have y3:=block_cell k7 3;have y4:=block_cell k7 4;have y5:=block_cell k7 5;have y6:=block_cell k7 6;have f5:=block_free k7 5;have hz8:(w1.setCell ⟨wr.heap.size,5,none⟩ (.slice B1 m1' e1)).heap.size=w1.heap.size:=by simp
    have HC2:=qH (cloneSpan_any A2 m2 d2 pvacs (w1.setCell ⟨wr.heap.size,5,none⟩ (.slice B1 m1' e1)) (HS2.out.next hb8) (by have:=HLK.out.2;omega));have K8:=qH k8;have KR8:=qH kr8;have HB8:=qH hb8;have HZ8:=qH hz8;clear k7 kr k8 kr8 hb8 HC1 ho1 hb1 hr z0 z1 z2 z3 z4 z5 z6 hz8;go_wp2_with fail
    refine HC2.out.mono ?_;clear HC2 y0 y1 y2 y3 y4 y5 y6 f5;rintro e w2 ⟨v2,rfl,ho2,hb2⟩;obtain⟨B2,e2,rfl, -⟩:=ho2.sl;generalize pvacs.length=m2' at*;have hz2:=hb2.size;have j7:w2.heap[wr.heap.size]? = _:=(hb2.block _ (by have:=HZ8.out;omega)).trans K8.out;have jr:w2.heap[w.heap.size]? = _:=(hb2.block _ (by have:=HZ8.out;omega)).trans KR8.out;have HBE:Hid (Below w.heap.size w w2):=hbr.trans ((HB8.out.trans (hb2.mono (by have:=HZ8.out;omega))).mono hbr.size);have y0:=block_cell j7 0;have y1:=block_cell j7 1;have y2:=block_cell j7 2;have y3:=block_cell j7 3;have y4:=block_cell j7 4;have y5:=block_cell j7 5;have y6:=block_cell j7 6;have f6:=block_free j7 6;have x0:=block_free jr 0;have x1:=block_free jr 1;have x2:=block_free jr 2;have x3:=block_free jr 3;have x4:=block_free jr 4;have x5:=block_free jr 5;have x6:=block_free jr 6;have u0:=block_cell jr 0;have u1:=block_cell jr 1;have u2:=block_cell jr 2;have u3:=block_cell jr 3;have u4:=block_cell jr 4;have u5:=block_cell jr 5;have u6:=block_cell jr 6;have hne:w.heap.size≠wr.heap.size:=by omega
    have hne':wr.heap.size≠w.heap.size:=by omega
    clear j7 jr K8 KR8 HB8 HZ8 ho2 hb2;go_wp2_with fail
    refine bodyPost_ret (v:=.tuple #[.agg #[.int .i64 pid,.string pname,.string pbase,.int .i64 prank,.int .i64 psen,.slice B1 m1' e1,.slice B2 m2' e2],.int .i64 0]) (by simp[results,Tryz.results37,go_sem,u0,u1,u2,u3,u4,u5,u6]) rfl ?_;rw[HF.out];exact⟨_,_,_,_,_,_,_,_,_,_,_,rfl,(((((((HBE.out.setCell (by simp;omega) _).setCell (qD _) _).setCell (qD _) _).setCell (qD _) _).setCell (qD _) _).setCell (qD _) _).setCell (qD _) _).setCell (qD _) _⟩
  ·have HF:=qH (HR.out.2 fun j hj=>HK.out j (by omega));have u0:=block_cell hr 0;have u1:=block_cell hr 1;have u2:=block_cell hr 2;have u3:=block_cell hr 3;have u4:=block_cell hr 4;have u5:=block_cell hr 5;have u6:=block_cell hr 6;have x0:=block_free hr 0;have x1:=block_free hr 1;have x2:=block_free hr 2;have x3:=block_free hr 3;have x4:=block_free hr 4;have x5:=block_free hr 5;have x6:=block_free hr 6;clear hr;go_wp2_with fail
   refine bodyPost_ret (v:=.tuple #[.agg #[.int .i64 0,.string ⟨#[]⟩,.string ⟨#[]⟩,.int .i64 0,.int .i64 0,.slice none 0 0,.slice none 0 0],.int .i64 6]) (by simp[results,Tryz.results37,go_sem,u0,u1,u2,u3,u4,u5,u6]) rfl ?_;rw[HF.out];exact⟨_,_,_,_,_,_,_,_,_,_,_,rfl,((((((hbr.setCell (qD _) _).setCell (qD _) _).setCell (qD _) _).setCell (qD _) _).setCell (qD _) _).setCell (qD _) _).setCell (qD _) _⟩
end
section
open Go.RowKit
theorem incE_hit{t:GTT}{ps:List GPerson}{l:List GInc}(h0:crewE t ps=0)(h1:l.length≤32){k:Nat}(hk:k<l.length)(hz:zeroTo (fun i=>incE1 t ps (l.getD i noInc)) k)(hv:incE1 t ps (l.getD k noInc)≠0):incE t ps l=incE1 t ps (l.getD k noInc):=by
 unfold incE;rw[qN (by rw[h0];simp),qN (by omega)];exact firstErr_hit (f:=fun i=>incE1 t ps (l.getD i noInc)) hz hv hk
theorem incE_none{t:GTT}{ps:List GPerson}{l:List GInc}(h0:crewE t ps=0)(h1:l.length≤32)(hz:zeroTo (fun i=>incE1 t ps (l.getD i noInc)) l.length):incE t ps l=0:=by
 unfold incE;rw[qN (by rw[h0];simp),qN (by omega)];exact firstErr_none hz
theorem incValidate_any(t:GTT)(ps:List GPerson)(l:List GInc)(A1 A2 A3 A4 A5:Option Addr)(n1 n2 n3 n4 n5 c1 c2 c3 c4 c5:Nat)(w:World)(ht:t.ok)(hp : ∀ p∈ps,p.ok)(hs1:Sl Ty.zone w (all_ w) A1 n1 c1 t.zones)(hs2:Sl Ty.airport w (all_ w) A2 n2 c2 t.airports)(hs3:Sl Ty.flight w (all_ w) A3 n3 c3 t.flights)(hs4:Sl Ty.person w (all_ w) A4 n4 c4 ps)(hs5:Sl Ty.inc w (all_ w) A5 n5 c5 l) :
 Calls Tryz.prog 16 #[.agg #[.slice A1 n1 c1,.slice A2 n2 c2,.slice A3 n3 c3],.slice A4 n4 c4,.slice A5 n5 c5] w (ErrPost (incE t ps l) w):=by
 have hn1:n5≤l.length:=Nat.le_of_eq hs5.len;have hn2:l.length≤n5:=Nat.le_of_eq hs5.len.symm;have hle:=hs5.le;unfold maxLen at hle;have hb0:=(qC w.heap.size w).alloc (qD _) (.cells #[.slice A1 n1 c1,.slice A2 n2 c2,.slice A3 n3 c3] 27);have hr0:=qK w (.cells #[.slice A1 n1 c1,.slice A2 n2 c2,.slice A3 n3 c3] 27);have hz0:(w.alloc (.cells #[.slice A1 n1 c1,.slice A2 n2 c2,.slice A3 n3 c3] 27)).heap.size=w.heap.size+1:=by simp
 have HV:=qH (crewValidate_any t ps A1 A2 A3 A4 n1 n2 n3 n4 c1 c2 c3 c4 _ ht hp (hs1.next hb0) (hs2.next hb0) (hs3.next hb0) (hs4.next hb0));have HS2:Hid (∀ V,Below w.heap.size w V→Sl Ty.airport V (all_ V) A2 n2 c2 t.airports):=fun V hV=>hs2.next hV
 have HS3:Hid (∀ V,Below w.heap.size w V→Sl Ty.flight V (all_ V) A3 n3 c3 t.flights):=fun V hV=>hs3.next hV
 have HS4:Hid (∀ V,Below w.heap.size w V→Sl Ty.person V (all_ V) A4 n4 c4 ps):=fun V hV=>hs4.next hV
 have HS5:Hid (∀ V,Below w.heap.size w V→Sl Ty.inc V (all_ w) A5 n5 c5 l):=fun V hV=>hs5.keep (all_keep hV)
 have HB0:=qH hb0;have HR0:=qH hr0;have HZ0:=qH hz0;have HLL:=qH (fun h:crewE t ps=0=>(crew_lists h).2);have HR:Hid ((crewE t ps≠0→incE t ps l=crewE t ps)∧(crewE t ps=0→32<l.length→incE t ps l=10) ∧
  (crewE t ps=0→l.length≤32 → ∀ k,k<l.length→zeroTo (fun i=>incE1 t ps (l.getD i noInc)) k→incE1 t ps (l.getD k noInc)≠0→incE t ps l=incE1 t ps (l.getD k noInc)) ∧
  (crewE t ps=0→l.length≤32→zeroTo (fun i=>incE1 t ps (l.getD i noInc)) l.length→incE t ps l=0)) :=
  ⟨fun h=>by unfold incE;exact qR h,fun h h2=>by unfold incE;rw[qN (by rw[h];simp),qR h2],fun h0 h1 k hk hz hv=>incE_hit h0 h1 hk hz hv,fun h0 h1 hz=>incE_none h0 h1 hz⟩
 clear hs1 hs2 hs3 hs4 hs5 hb0 hr0 hz0 ht hp;generalize incE t ps l=res at*;generalize hce:crewE t ps=ce at*
 go_enter Tryz.func16,Tryz.ntmps16
 go_wp2_with fail
 generalize w.alloc (.cells #[.slice A1 n1 c1,.slice A2 n2 c2,.slice A3 n3 c3] 27)=W at*;refine HV.out.mono ?_;clear HV;rintro e w1 ⟨rfl,hb1⟩;have hw1:Below w.heap.size w w1:=HB0.out.trans (hb1.mono (by have:=HZ0.out;omega));have HT1:Hid (w1.heap[w.heap.size]? = some (.cells #[.slice A1 n1 c1,.slice A2 n2 c2,.slice A3 n3 c3] 27 (0,0))):=(hb1.block _ (by have:=HZ0.out;omega)).trans HR0.out;have hsz1:w.heap.size<w1.heap.size:=by have:=HZ0.out;have:=hb1.size;omega
 have HW1:=qH hw1;clear hb1 HB0 HR0 HZ0 hw1
 by_cases hc:ce=0
 case neg =>
  have hc':(ce != 0)=true:=by simpa using hc
  have HF:=qH (HR.out.1 hc);clear hc;go_wp2_with fail
  go_ret
  exact⟨by rw[HF.out];rfl,HW1.out⟩
 have hc':(ce != 0)=false:=by simpa using hc
 have HR2:Hid _:=HR.out.2.1 hc;have HR3:Hid _:=HR.out.2.2.1 hc;have HR4:Hid _:=HR.out.2.2.2 hc;have HL2:=qH (HLL.out hc);subst hc;clear HR HLL
 by_cases hlen:32<n5
 ·have HF:=qH (HR2.out (by omega));go_wp2_with fail
  go_ret
  exact⟨by rw[HF.out];rfl,HW1.out⟩
 have HR3':Hid _:=HR3.out (by omega);have HR4':Hid _:=HR4.out (by omega);clear HR2 HR3 HR4;go_wp2_with fail
 go_loopw [24] (fun s wr => ∃ k:Nat,k≤n5∧s=.int .i64 k∧Below w.heap.size w wr∧w.heap.size<wr.heap.size∧Hid (wr.heap[w.heap.size]? = some (.cells #[.slice A1 n1 c1,.slice A2 n2 c2,.slice A3 n3 c3] 27 (0,0)))∧Hid (zeroTo (fun i=>incE1 t ps (l.getD i noInc)) k)) (fun s _=>n5-(intOf s).toNat)
 case atStart=>exact⟨0,qV _,rfl,HW1.out,hsz1,HT1,zeroTo_zero _⟩
 case round =>
  obtain⟨k,hk,rfl,hbr,hsz,HT,HK⟩:=hrel;clear HW1 HT1 hsz1
  by_cases hlt:k<n5
  ·have hks:k<l.length:=by omega
   obtain⟨b,o,rfl,hbS,hat⟩:=(HS5.out wr hbr).inc_at hks;have HE:Hid (incE1 t ps (l.getD k noInc)≠0→res=incE1 t ps (l.getD k noInc)):=fun h=>HR3'.out k hks HK.out h
   have HM:Hid (incE1 t ps (l.getD k noInc)=0→zeroTo (fun i=>incE1 t ps (l.getD i noInc)) (k+1)):=fun h=>zeroTo_succ HK.out h
   have z0:=hat 0 _ rfl;rw[Nat.add_zero]at z0;have z1:=hat 1 _ rfl;have z2:=hat 2 _ rfl;have z3:=hat 3 _ rfl;have z4:=hat 4 _ rfl;have z5:=hat 5 _ rfl;have z6:=hat 6 _ rfl;clear hat HK;generalize l.getD k noInc=x at*;obtain⟨kind,fl,mi,ai,pe,⟨s1,s2⟩⟩:=x;simp only at z0 z1 z2 z3 z4 z5 z6;have hbx:=(qC wr.heap.size wr).alloc (qD _) (.cells #[.int .i64 kind,.int .i64 fl,.int .i64 mi,.string ai,.int .i64 pe,.int .i64 s1,.int .i64 s2] 59);have hrx:=qK wr (.cells #[.int .i64 kind,.int .i64 fl,.int .i64 mi,.string ai,.int .i64 pe,.int .i64 s1,.int .i64 s2] 59);have hzx:(wr.alloc (.cells #[.int .i64 kind,.int .i64 fl,.int .i64 mi,.string ai,.int .i64 pe,.int .i64 s1,.int .i64 s2] 59)).heap.size=wr.heap.size+1:=by simp
   have htx:=(Below.heap_alloc wr (.cells #[.int .i64 kind,.int .i64 fl,.int .i64 mi,.string ai,.int .i64 pe,.int .i64 s1,.int .i64 s2] 59) _ hsz).trans HT.out;have HBX:=qH hbx;have HRX:=qH hrx;have HZX:=qH hzx;have HTX:=qH htx;have hwx:Below w.heap.size w (wr.alloc (.cells #[.int .i64 kind,.int .i64 fl,.int .i64 mi,.string ai,.int .i64 pe,.int .i64 s1,.int .i64 s2] 59)):=hbr.trans (hbx.mono hbr.size);have HWX:=qH hwx;clear hbx hrx hzx htx hwx;go_wp2_with fail
   generalize wr.alloc (.cells #[.int .i64 kind,.int .i64 fl,.int .i64 mi,.string ai,.int .i64 pe,.int .i64 s1,.int .i64 s2] 59)=X at*;have HXS:Hid (X.heap.size=wr.heap.size+1):=HZX;have HE5:Hid (∀ v:Int,incE1 t ps ⟨kind,fl,mi,ai,pe,⟨s1,s2⟩⟩=v→v≠0→res=v):=fun v h1 h2=>by rw[←h1];exact HE.out (by rw[h1];exact h2)
   clear HE z0 z1 z2 z3 z4 z5 z6;have y0:=block_cell HRX.out 0;have y1:=block_cell HRX.out 1;have y2:=block_cell HRX.out 2;have y3:=block_cell HRX.out 3;have y4:=block_cell HRX.out 4;have y5:=block_cell HRX.out 5;have y6:=block_cell HRX.out 6;refine(incKnown_any kind X).mono ?_;rintro e w9 ⟨rfl,hX⟩;rw[hX];clear hX w9
   by_cases hkk:1≤kind∧kind≤4
   case neg =>
    have HF:Hid (res=5):=HE5.out 5 (by unfold incE1;exact qR (by show kind<1∨4<kind;omega)) (by decide);rw[decide_eq_false hkk];clear hkk;go_wp2_with fail
    go_ret
    exact⟨by rw[HF.out];rfl,HWX.out⟩
   rw[decide_eq_true hkk]
   by_cases hk4:kind=4
   case pos =>
    subst hk4;have HI:Hid (incE1 t ps ⟨4,fl,mi,ai,pe,⟨s1,s2⟩⟩=if hasI (pIds ps) pe=false then 6 else if vacOk ⟨s1,s2⟩=false then 5 else if shapedI ⟨4,fl,mi,ai,pe,⟨s1,s2⟩⟩=false then 12 else 0):=by
     show _=_;unfold incE1;rw[qN (show ¬((4:Int)<1∨4<(4:Int)) by decide),qR rfl]
    have HC:=qH (crewFind_any ps A4 n4 c4 pe X (HS4.out X HWX.out) HL2.out);clear hkk;rcases Bool.eq_false_or_eq_true (hasI (pIds ps) pe) with hh|hh
    case inr =>
     rw[hh,qN (by simp)]at HC;rw[hh,qR rfl]at HI;have HF:Hid (res=6):=HE5.out 6 HI.out (by decide);clear hh;go_wp2_with fail
     refine HC.out.mono ?_;rintro e w2 ⟨i1,q1,q2,i2,i3,B1,B2,m1,d1,m2,d2,rfl,hb2⟩;have HE2:Hid (∀ o,Below w.heap.size w (w2.alloc o)):=fun o=>(HWX.out.trans (hb2.mono (HWX.out.size))).alloc (by have:=hb2.size;have:=HXS.out;omega) o
     clear hb2 HC;go_wp2_with fail
     go_ret
     exact⟨by rw[HF.out];rfl,HE2.out _⟩
    case inl =>
     rw[hh,qR rfl]at HC;rw[hh,qN (by simp)]at HI;clear hh;go_wp2_with fail
     refine HC.out.mono ?_;rintro e w2 ⟨i1,q1,q2,i2,i3,B1,B2,m1,d1,m2,d2,rfl,hb2⟩;have hwo:w.heap.size≤w2.heap.size:=by have:=hb2.size;have:=HXS.out;omega
     have HE2:Hid (∀ o,Below w.heap.size w (w2.alloc o)):=fun o=>(HWX.out.trans (hb2.mono (HWX.out.size))).alloc hwo o
     have HT2:Hid (∀ o,(w2.alloc o).heap[w.heap.size]? = some (.cells #[.slice A1 n1 c1,.slice A2 n2 c2,.slice A3 n3 c3] 27 (0,0))):=fun o=>(Below.heap_alloc _ _ _ (by have:=hb2.size;have:=HXS.out;omega)).trans ((hb2.block _ (by have:=HXS.out;omega)).trans HTX.out)
     have hx2 : ∀ o,(w2.alloc o).heap[wr.heap.size]? = some (.cells #[.int .i64 4,.int .i64 fl,.int .i64 mi,.string ai,.int .i64 pe,.int .i64 s1,.int .i64 s2] 59 (0,0)):=fun o=>(Below.heap_alloc _ _ _ (by have:=hb2.size;have:=HXS.out;omega)).trans ((hb2.block _ (by have:=HXS.out;omega)).trans HRX.out)
     have HX2:=qH hx2;have HZ2:Hid (∀ o,w.heap.size<(w2.alloc o).heap.size):=fun o=>by have:=hb2.size;have:=HXS.out;simp;omega
     clear hb2 HC y0 y1 y2 y3 y4 y5 y6 hx2;generalize hob:Obj.cells #[.int .i64 i1,.string q1,.string q2,.int .i64 i2,.int .i64 i3,.slice B1 m1 d1,.slice B2 m2 d2] 75=ob;have he2:=HE2.out ob;have ht2:=HT2.out ob;have hx2:=HX2.out ob;have hz2:=HZ2.out ob;clear HE2 HT2 HX2 HZ2;generalize hV:w2.alloc ob=V at*;subst hob;have HE2:=qH he2;have HT2:=qH ht2;have HZ2:=qH hz2;have y0:=block_cell hx2 0;have y1:=block_cell hx2 1;have y2:=block_cell hx2 2;have y3:=block_cell hx2 3;have y4:=block_cell hx2 4;have y5:=block_cell hx2 5;have y6:=block_cell hx2 6;clear he2 ht2 hz2 hx2
     by_cases hv:s1<0∨s2≤s1∨52596000<s2
     case pos =>
      have hvo:vacOk ⟨s1,s2⟩=false:=by
       unfold vacOk;simp only[Bool.and_eq_false_iff,qU];omega
      rw[hvo,qR rfl]at HI;have HF:Hid (res=5):=HE5.out 5 HI.out (by decide);have hv':s1<0∨(¬s1<0∧s2≤s1)∨(¬s1<0 ∧ ¬s2≤s1∧52596000<s2):=by omega
      clear hv hvo;rcases hv' with h|⟨h,h'⟩|⟨h,h',h''⟩
      all_goals
       go_wp2_with fail
       go_ret
       exact⟨by rw[HF.out];rfl,HE2.out⟩
     case neg =>
      have hvo:vacOk ⟨s1,s2⟩=true:=by
       unfold vacOk;simp only[qI,qL];omega
      rw[hvo,qN (by simp)]at HI;have h1 : ¬s1<0:=by omega
      have h2 : ¬s2≤s1:=by omega
      have h3 : ¬52596000<s2:=by omega
      have HSH:=qH (shaped_any ⟨4,fl,mi,ai,pe,⟨s1,s2⟩⟩ V ⟨show(1:Int)≤4 by decide,show(4:Int)≤4 by decide⟩);clear hv hvo;go_wp2_with fail
      refine HSH.out.mono ?_;clear HSH y0 y1 y2 y3 y4 y5 y6;rintro e w3 ⟨rfl,hb3⟩;have HE3:Hid (Below w.heap.size w w3):=HE2.out.trans (hb3.mono HE2.out.size);rcases Bool.eq_false_or_eq_true (shapedI ⟨4,fl,mi,ai,pe,⟨s1,s2⟩⟩) with hs|hs
      case inr =>
       rw[hs]at HI ⊢;rw[qR rfl]at HI;have HF:Hid (res=12):=HE5.out 12 HI.out (by decide);clear hs;go_wp2_with fail
       go_ret
       exact⟨by rw[HF.out];rfl,HE3.out⟩
      case inl =>
       rw[hs]at HI ⊢;rw[qN (by simp)]at HI;have HM2:=qH (HM.out HI.out);have HT3:Hid (w3.heap[w.heap.size]? = _):=(hb3.block _ HZ2.out).trans HT2.out;have hz3:w.heap.size<w3.heap.size:=by have:=HZ2.out;have:=hb3.size;omega
       clear hs hb3;go_wp2_with fail
       go_roundw
       case rel=>exact⟨k+1,by omega,by go_num,HE3.out,hz3,HT3,HM2⟩
       case measure=>simp[intOf];omega
   case neg =>
    have hk3:1≤kind∧kind≤3:=by omega
    have HI:Hid (incE1 t ps ⟨kind,fl,mi,ai,pe,⟨s1,s2⟩⟩=if flightIncE t ⟨kind,fl,mi,ai,pe,⟨s1,s2⟩⟩≠0 then flightIncE t ⟨kind,fl,mi,ai,pe,⟨s1,s2⟩⟩ else if shapedI ⟨kind,fl,mi,ai,pe,⟨s1,s2⟩⟩=false then 12 else 0):=by
     show _=_;unfold incE1;rw[qN (show ¬(kind<1∨4<kind) by omega),qN hk4]
    have hk4':(kind==4)=false:=by simpa using hk4
    have HC:=qH (incFlight_any t ⟨kind,fl,mi,ai,pe,⟨s1,s2⟩⟩ A1 A2 A3 n1 n2 n3 c1 c2 c3 X (HS2.out X HWX.out) (HS3.out X HWX.out) hk3);have x0:=block_cell HTX.out 0;have x1:=block_cell HTX.out 1;have x2:=block_cell HTX.out 2;generalize flightIncE t ⟨kind,fl,mi,ai,pe,⟨s1,s2⟩⟩=fe at*;clear hk4;go_wp2_with fail
    refine HC.out.mono ?_;rintro e w2 ⟨rfl,hb2⟩;have HE2:Hid (Below w.heap.size w w2):=HWX.out.trans (hb2.mono HWX.out.size)
    by_cases hfe:fe=0
    case neg =>
     have hfe':(fe != 0)=true:=by simpa using hfe
     rw[qR hfe]at HI;have HF:Hid (res=fe):=HE5.out fe HI.out hfe;clear hfe hb2 HC;go_wp2_with fail
     go_ret
     exact⟨by rw[HF.out];rfl,HE2.out⟩
    have hfe':(fe != 0)=false:=by simpa using hfe
    rw[qN (by simpa using hfe)]at HI;subst hfe;have HSH:=qH (shaped_any ⟨kind,fl,mi,ai,pe,⟨s1,s2⟩⟩ w2 ⟨hkk.1,hkk.2⟩);have hx2:w2.heap[wr.heap.size]? = _:=(hb2.block _ (by have:=HXS.out;omega)).trans HRX.out;have HT2:Hid (w2.heap[w.heap.size]? = _):=(hb2.block _ (by have:=HXS.out;omega)).trans HTX.out;have hz2:w.heap.size<w2.heap.size:=by have:=HXS.out;have:=hb2.size;omega
    clear y0 y1 y2 y3 y4 y5 y6 x0 x1 x2 hb2 HC hkk hk3;have y0:=block_cell hx2 0;have y1:=block_cell hx2 1;have y2:=block_cell hx2 2;have y3:=block_cell hx2 3;have y4:=block_cell hx2 4;have y5:=block_cell hx2 5;have y6:=block_cell hx2 6;clear hx2;go_wp2_with fail
    refine HSH.out.mono ?_;clear HSH y0 y1 y2 y3 y4 y5 y6;rintro e w3 ⟨rfl,hb3⟩;have HE3:Hid (Below w.heap.size w w3):=HE2.out.trans (hb3.mono HE2.out.size);rcases Bool.eq_false_or_eq_true (shapedI ⟨kind,fl,mi,ai,pe,⟨s1,s2⟩⟩) with hs|hs
    case inr =>
     rw[hs]at HI ⊢;rw[qR rfl]at HI;have HF:Hid (res=12):=HE5.out 12 HI.out (by decide);clear hs;go_wp2_with fail
     go_ret
     exact⟨by rw[HF.out];rfl,HE3.out⟩
    case inl =>
     rw[hs]at HI ⊢;rw[qN (by simp)]at HI;have HM2:=qH (HM.out HI.out);have HT3:Hid (w3.heap[w.heap.size]? = _):=(hb3.block _ hz2).trans HT2.out;have hz3:w.heap.size<w3.heap.size:=by have:=hb3.size;omega
     clear hs hb3;go_wp2_with fail
     go_roundw
     case rel=>exact⟨k+1,by omega,by go_num,HE3.out,hz3,HT3,HM2⟩
     case measure=>simp[intOf];omega
  ·have HF:=qH (HR4'.out (by rw[show l.length=k by omega];exact HK.out));go_wp2_with fail
   go_ret
   exact⟨by rw[HF.out];rfl,hbr⟩
end
section
open Go.RowKit
def cmpF(fl:List GFlight)(x y:Int):Int:=if (fl.getD x.toNat noFlight).dep=(fl.getD y.toNat noFlight).dep then Lib.compareBytes (fl.getD x.toNat noFlight).number.data.toList (fl.getD y.toNat noFlight).number.data.toList
 else (fl.getD x.toNat noFlight).dep-(fl.getD y.toNat noFlight).dep
theorem cmpBytes_lt : ∀ a b:List UInt8,decide (Lib.compareBytes a b<0)=Op.bytesLess a b
 | [],[]=>by simp[Lib.compareBytes,Op.bytesLess]
 | [],_::_=>by simp[Lib.compareBytes,Op.bytesLess]
 | _::_,[]=>by simp[Lib.compareBytes,Op.bytesLess]
 | a::x,b::y=>by
  have ih:=cmpBytes_lt x y;rw[Lib.compareBytes,Op.bytesLess]
  by_cases h1:a<b
  ·simp[h1]
  ·by_cases h2:b<a
   ·have h3 : ¬a=b:=fun e=>by subst e;exact h1 h2
    simp[h1,h2,h3]
   ·have h3:a=b:=by
     apply UInt8.toNat_inj.1;rw[UInt8.lt_iff_toNat_lt]at h1 h2;omega
    subst h3;simpa[h1] using ih
theorem cmpF_lt(fl:List GFlight)(x y:Int):decide (cmpF fl x y<0)=ltF fl x y:=by
 unfold cmpF ltF beforeB;split
 ·rw[cmpBytes_lt,ByteArray.toList_eq,ByteArray.toList_eq]
 ·exact decide_eq_decide.2 (by omega)
def Quiet(v:Value)(w:World)(e:Ending)(w':World):Prop:=e=.returned v ∧ ∃ q,w'=w.drewN q
theorem orderCmp_any(fl:List GFlight)(A:Option Addr)(n c g:Nat)(x y:Nat)(w:World)(hs:Sl Ty.flight w (all_ w) A n c fl)(hx:x<fl.length)(hy:y<fl.length)(hd : ∀ f∈fl, -4611686018427387904≤f.dep∧f.dep≤4611686018427387903)(h:w.cell? ⟨g,0,none⟩=some (.slice A n c)) :
 Calls Tryz.prog 79 #[.int .i64 x,.int .i64 y,.pointer (some ⟨g,0,none⟩)] w (Quiet (.int .i64 (cmpF fl x y)) w):=by
 have hn1:n≤fl.length:=Nat.le_of_eq hs.len;have hn2:fl.length≤n:=Nat.le_of_eq hs.len.symm;have hle:=hs.le;unfold maxLen at hle;obtain⟨b,o,rfl, -,hx1⟩:=hs.flight_at hx;obtain⟨b2,o2,e2, -,hy1⟩:=hs.flight_at hy
 cases e2;have hdx:=hd _ (getD_mem0 hx noFlight);have hdy:=hd _ (getD_mem0 hy noFlight);have HF:Hid (cmpF fl x y=if (fl.getD x noFlight).dep=(fl.getD y noFlight).dep then Lib.compareBytes (fl.getD x noFlight).number.data.toList (fl.getD y noFlight).number.data.toList else (fl.getD x noFlight).dep-(fl.getD y noFlight).dep):=rfl;have x0:=hx1 0 _ rfl;have x3:=hx1 3 _ rfl;have y0:=hy1 0 _ rfl;have y3:=hy1 3 _ rfl;rw[Nat.add_zero]at x0 y0;generalize fl.getD x noFlight=fx at*;generalize fl.getD y noFlight=fy at*;have hx':x<n:=by omega
 have hy':y<n:=by omega
 clear hs hd hx1 hy1 hx hy hn1 hn2;obtain⟨num1,q1,q2,dep1,q3,q4,q5,q6,q7⟩:=fx;obtain⟨num2,r1,r2,dep2,r3,r4,r5,r6,r7⟩:=fy;simp only at x0 x3 y0 y3 hdx hdy HF;have hw:IntKind.i64.wrap (dep1-dep2)=dep1-dep2:=qM _ (by omega)
 by_cases he:dep1=dep2
 ·rw[qR he]at HF;subst he;have hz:(dep1-dep1 != 0)=false:=by simp
  have hz':dep1-dep1=0:=by omega
  have HC:Hid (∀ V,Calls Tryz.prog 80 #[.string num1,.string num2] V fun e w'=>e=.returned (.int .i64 (Lib.compareBytes num1.data.toList num2.data.toList))∧V=w'):=fun V=>(Tryz.strings_Compare num1 num2 V).mono fun _ _ ⟨he,hm⟩=>⟨he,hm.symm⟩
  go_enter Tryz.func79,Tryz.ntmps79
  go_wp2_with fail
  go_quiet (fail)
  go_wp2_with fail
  go_quiet ((go_at_call 80;exact(HC.out _).mono fun _ _ ⟨he,hm⟩=>⟨he,_,hm.symm⟩))
  go_wp2_with fail
  go_ret
  exact⟨by rw[HF.out];rfl,_,World.drewN_drewN _ _ _⟩
 ·rw[qN he]at HF;have hz:(dep1-dep2 != 0)=true:=by simp;omega
  go_enter Tryz.func79,Tryz.ntmps79
  go_wp2_with fail
  go_quiet (fail)
  go_wp2_with fail
  go_ret
  exact⟨by rw[HF.out];rfl,_,rfl⟩
end
section
open Go.RowKit Go.Sort
section
variable {α β : Type} [Inhabited α] [Inhabited β] {f : α → β} {lt : α → α → Bool} {lt' : β → β → Bool}
theorem map_at(d:Array α){i:Nat}(h:i<d.size):(d.map f)[i]! = f d[i]! :=by
 rw[getElem!_pos _ i (by simpa using h),getElem!_pos _ i h,Array.getElem_map]
theorem swp_map(d:Array α){i j:Nat}(hi:i<d.size)(hj:j<d.size):(swp d i j).map f=swp (d.map f) i j:=by
 unfold swp;rw[map_at d hi,map_at d hj];simp[Array.map_setIfInBounds]
theorem innerG_size(a:Nat) : ∀ (j:Nat) (d:Array α),(insInner lt a j d).size=d.size
 | 0,d=>by rw[insInner]
 | j+1,d=>by
  rw[insInner];split
  ·rw[innerG_size a j,swp_size]
  ·rfl
theorem inner_map(h : ∀ x y,lt x y=lt' (f x) (f y))(a:Nat) : ∀ (j:Nat) (d:Array α),j<d.size→(insInner lt a j d).map f=insInner lt' a j (d.map f)
 | 0,d,_=>by rw[insInner,insInner]
 | j+1,d,hj=>by
  rw[insInner,insInner,map_at d hj,map_at d (show j<d.size by omega), ←h];split
  ·rw[inner_map h a j _ (by rw[swp_size];omega),swp_map d hj (by omega)]
  ·rfl
theorem outer_map(h : ∀ x y,lt x y=lt' (f x) (f y))(a b:Nat) : ∀ (m i:Nat) (d:Array α),b-i=m→b≤d.size→(insOuter lt a b i d).map f=insOuter lt' a b i (d.map f)
 | 0,i,d,hm,hb=>by
  rw[insOuter_stop _ _ _ _ _ (by omega),insOuter_stop _ _ _ _ _ (by omega)]
 | m+1,i,d,hm,hb=>by
  rw[insOuter_go lt a b i d (by omega),insOuter_go lt' a b i (d.map f) (by omega)];rw[outer_map h a b m (i+1) _ (by omega) (by rw[innerG_size];exact hb),inner_map h a i d (by omega)]
theorem sort_map(h : ∀ x y,lt x y=lt' (f x) (f y))(a b:Nat)(d:Array α)(hb:b≤d.size):(insertionSort lt d a b).map f=insertionSort lt' (d.map f) a b :=
 outer_map h a b _ _ d rfl hb
theorem outer_size(a b:Nat) : ∀ (m i:Nat) (d:Array α),b-i=m→(insOuter lt a b i d).size=d.size
 | 0,i,d,hm=>by rw[insOuter_stop _ _ _ _ _ (by omega)]
 | m+1,i,d,hm=>by rw[insOuter_go lt a b i d (by omega),outer_size a b m (i+1) _ (by omega),innerG_size]
theorem putRow_map{enc : α → Value}{enc' : β → Value}(h : ∀ x,enc x=enc' (f x))(w:World)(blk off:Nat)(d:Array α):putRow enc w blk off d=putRow enc' w blk off (d.map f):=by
 unfold putRow;refine mapBlock_congr w blk _ _ fun c e fr _ =>?_
 unfold Go.Sort.putCells;rw[Array.size_map]
 congr 1
 funext k x
 split
 ·rename_i hk;rw[map_at d (by omega),h]
 ·rfl
end
def encF{n:Nat}(i:Fin n):Value:=.int .i64 (i.val:Int)
def finI{n:Nat}(i:Fin n):Int:=(i.val:Int)
theorem places_fin{n:Nat}{L:List Int}(h : ∀ y∈L, ∃ i:Nat,y=i∧i<n) : ∃ d:List (Fin n),L=d.map finI:=by
 induction L with
 | nil=>exact⟨[],rfl⟩
 | cons y L ih =>
  obtain⟨d,hd⟩:=ih fun z hz=>h z (List.mem_cons_of_mem _ hz)
  obtain⟨i,rfl,hi⟩:=h y (List.mem_cons_self);exact⟨⟨i,hi⟩::d,by rw[List.map_cons, ←hd];rfl⟩
theorem insSort_any(fl:List GFlight)(A:Option Addr)(n c g rb cap:Nat)(L:List Int)(w:World)(hL : ∀ y∈L, ∃ i:Nat,y=i∧i<fl.length)(hs:Sl Ty.flight w (fun b=>b<w.heap.size∧b≠rb) A n c fl)(hd : ∀ f∈fl, -4611686018427387904≤f.dep∧f.dep≤4611686018427387903)
 (hg:w.cell? ⟨g,0,none⟩=some (.slice A n c)) (hgr:g≠rb) {cur:Array Value} (hb:w.heap[rb]? = some (.cells cur 3 (0,0))) (ht:cur.toList.take L.length=L.map (Value.int .i64)) (hlen:L.length≤19) (hfl:0<fl.length) :
 Calls Tryz.prog 156 #[.slice (some ⟨rb,0,none⟩) L.length cap,.int .i64 0,.int .i64 L.length,.func (.func 79) #[] #[.pointer (some ⟨g,0,none⟩)]] w
  fun e w'=>e=.returned (.tuple #[]) ∧ ∃ m,w'=putRow (Value.int .i64) (Sort.ahead w m) rb 0 (Sort.insertionSort (ltF fl) L.toArray 0 L.length):=by
 obtain⟨d,rfl⟩:=places_fin hL
 haveI:Inhabited (Fin fl.length):=⟨⟨0,hfl⟩⟩
 have hrl:rb<w.heap.size:=(Array.getElem?_eq_some_iff.1 hb).1;have hH:Holds encF w rb 0 d.toArray:=by
  intro j hj;have:=holds_of_blockI (ss:=d.map finI) hb (by simpa using ht) j (by simpa using hj);have e1:(d.map finI).toArray[j]! = finI d.toArray[j]! :=by
   have:=map_at (α :=Fin fl.length) (f:=finI) d.toArray hj;simpa using this
  rw[e1]at this;exact this
 have hkeep : ∀ (m:Nat) (os:Array Obj) (dk:Array (Fin fl.length)) (k:Nat),k<w.heap.size→k≠rb→(sortWorld (encF (n:=fl.length)) w rb 0 m dk os).heap[k]? = w.heap[k]? :=fun m os dk k hk hne=>by
  unfold sortWorld;rw[heap_grow_old _ _ (by rw[size_putRow (α :=Fin fl.length)];exact hk)];have:rb≠k:=fun e=>hne e.symm
  simp[putRow,mapBlock,Sort.ahead,Array.getElem?_modify,this]
 have hgl:g<w.heap.size:=World.block_lt_of_cell? w _ hg;have hcmp:CmpReads (α :=Fin fl.length) Tryz.prog 79 #[.pointer (some ⟨g,0,none⟩)] encF (fun x y=>cmpF fl (finI x) (finI y)) rb 0 d.toArray.size w:=by
  intro m os dk hdk x y;refine(orderCmp_any fl A n c g x.val y.val (sortWorld (encF (n:=fl.length)) w rb 0 m dk os) ?_ x.isLt y.isLt hd ?_).mono fun e w' h=>h
  ·refine(hs.keep fun b hb=>hkeep m os dk b hb.1 hb.2).more fun b hb =>?_
   have:(sortWorld (encF (n:=fl.length)) w rb 0 m dk os).heap.size=w.heap.size+os.size:=by
    unfold sortWorld;rw[size_grow,size_putRow (α :=Fin fl.length)];rfl
   show b<_;rw[this];omega
  ·rw[cell_of_same (a:=⟨g,0,none⟩) (hkeep m os dk g hgl hgr)];exact hg
 have hn : ¬Tryz.f79.name = "runtime.NumGoroutine" :=of_decide_eq_false (by kernel_rfl)
 have hbd:Tryz.f79.body.isNone=false:=by kernel_rfl
 have hbd : ¬Tryz.f79.body=none:=fun e=>by rw[e]at hbd;cases hbd
 have key:=Tryz.insertionSortCmpFunc_one (α :=Fin fl.length) encF (fun _=>rfl) (fun x y=>cmpF fl (finI x) (finI y)) 79 #[.pointer (some ⟨g,0,none⟩)] rb 0 cap 0 d.length d.toArray w (fun args w=>by simp[callFunc,Sem.run_bind,program,Sem.run,Tryz.func79,hn,hbd]) hcmp hH (qV _) (by simp) (by simp at hlen ⊢;omega);simp only[List.length_map];refine Calls.mono (by simpa using key) ?_;rintro e w' ⟨rfl,m,rfl⟩;refine⟨rfl,m, ?_⟩;have e0:=putRow_drewN (encF (n:=fl.length)) w 0 m rb 0 (insertionSort (ltOf fun x y=>cmpF fl (finI x) (finI y)) d.toArray 0 d.length);rw[Nat.zero_add]at e0;refine e0.trans ?_;rw[putRow_map (enc:=encF (n:=fl.length)) (f:=finI) (enc':=Value.int .i64) (fun _=>rfl)];rw[sort_map (f:=finI) (lt:=ltOf fun (x y:Fin fl.length)=>cmpF fl (finI x) (finI y)) (lt':=ltF fl) (fun x y=>cmpF_lt fl _ _) 0 d.length d.toArray (by simp)];have:d.toArray.map finI=(d.map finI).toArray:=by simp
 rw[this]
theorem insSort_nil(g:Nat)(c:Nat)(w:World) :
 Calls Tryz.prog 156 #[.slice none 0 c,.int .i64 0,.int .i64 0,.func (.func 79) #[] #[.pointer (some ⟨g,0,none⟩)]] w
  fun e w'=>e=.returned (.tuple #[])∧w'=w:=by
 go_enter Tryz.func156,Tryz.ntmps156
 go_wp2_with fail
 go_loopw [8] (fun s wr=>s=.int .i64 1∧wr=w) (fun _ _=>0)
 case atStart=>exact⟨rfl,rfl⟩
 case round =>
  obtain⟨rfl,rfl⟩:=hrel;go_wp2_with fail
  go_end0
  exact⟨rfl,rfl⟩
def SortPost(rb:Option Nat)(base:Nat)(v:Value)(L:List Int)(w:World)(e:Ending)(w':World):Prop:=e=.returned (.tuple #[])∧w.grownBy w' rb∧Own (Ty.int .i64) 3 w' base v L
theorem own_of_ints{w:World}{base:Nat}{v:Value}{L:List Int}(h:w.ownsRow base 3 1 v L.length (L.map (Value.int .i64))):Own (Ty.int .i64) 3 w base v L:=by
 refine⟨_,h,by simp[Ty.int],fun i x hi =>?_⟩;show _=_;have hlt:=(List.getElem?_eq_some_iff.1 hi).1;have e:i*(Ty.int .i64).size=i:=by show i*1=i;omega
 rw[e];apply List.ext_getElem?;intro j;rcases j with _|j
 ·show(List.take 1 _)[0]? = _;rw[List.getElem?_take_of_lt (by omega),List.getElem?_drop,Nat.add_zero,List.getElem?_map,hi];rfl
 ·show(List.take 1 _)[j+1]? = _;rw[List.getElem?_take_eq_none (by omega)];rfl
theorem ints_of_own{w:World}{base:Nat}{v:Value}{L:List Int}(h:Own (Ty.int .i64) 3 w base v L):w.ownsRow base 3 1 v L.length (L.map (Value.int .i64)):=by
 obtain⟨cs,h1,h2⟩:=h;have:cs=L.map (Value.int .i64):=by
  apply List.ext_getElem?;intro j;have hl:cs.length=L.length:=by rw[h2.1];show L.length*1=_;omega
  rcases Nat.lt_or_ge j L.length with hj|hj
  ·have hx:=h2.2 j _ (qG hj);have hx':(cs.drop (j*1)).take 1=[Value.int .i64 L[j]]:=hx;rw[Nat.mul_one]at hx';have h0:=congrArg (·[0]?) hx';simp only[List.getElem?_take_of_lt (show 0<1 by omega),List.getElem?_drop,Nat.add_zero]at h0;rw[h0,List.getElem?_map,qG hj];rfl
  ·rw[List.getElem?_eq_none (by omega),List.getElem?_eq_none (by simp;omega)]
 subst this;exact h1
theorem sort_len(lt:Int→Int→Bool)(L:List Int):(Sort.insertionSort lt L.toArray 0 L.length).size=L.length:=by
 unfold Sort.insertionSort;rw[outer_size 0 L.length _ _ _ rfl];simp
theorem insSort_own(fl:List GFlight)(A:Option Addr)(n c g base:Nat)(v:Value)(L:List Int)(w:World)(ho:Own (Ty.int .i64) 3 w base v L)(hL : ∀ y∈L, ∃ i:Nat,y=i∧i<fl.length)(hs:Sl Ty.flight w (fun b=>b<base) A n c fl)(hbase:base≤w.heap.size)
 (hd : ∀ f∈fl, -4611686018427387904≤f.dep∧f.dep≤4611686018427387903) (hg:w.cell? ⟨g,0,none⟩=some (.slice A n c)) (hgb:g<base) (hlen:L.length≤19) (hfl:0<fl.length) :
 Calls Tryz.prog 156 #[v,.int .i64 0,.int .i64 L.length,.func (.func 79) #[] #[.pointer (some ⟨g,0,none⟩)]] w
  (SortPost v.ownBlock base v (Sort.insertionSort (ltF fl) L.toArray 0 L.length).toList w):=by
 have hr:=ints_of_own ho;have hsl:=sort_len (ltF fl) L;rcases hr.2 with ⟨rfl,h0⟩|⟨rb,cap,cur,rfl,hb,hg2,hnc,hm,hcur,htake⟩
 ·have hl0:L=[]:=List.eq_nil_of_length_eq_zero h0;subst hl0;refine(insSort_nil g 0 w).mono ?_;rintro e w' ⟨rfl,rfl⟩;have e1:(Sort.insertionSort (ltF fl) ([]:List Int).toArray 0 ([]:List Int).length).toList=[]:=List.eq_nil_of_length_eq_zero (by simpa using hsl);rw[e1];exact⟨rfl,⟨rfl,rfl,rfl,qD _,fun _ _ _=>rfl⟩,Own.nil⟩
 ·have htake':cur.toList.take L.length=L.map (Value.int .i64):=by rw[←htake,Nat.mul_one]
  refine(insSort_any fl A n c g rb cap L w hL (hs.more fun b hb'=>⟨by omega,by omega⟩) hd hg (by omega) hg2 htake' hlen hfl).mono ?_;rintro e w' ⟨rfl,m,rfl⟩;have hts:(Sort.insertionSort (ltF fl) L.toArray 0 L.length).toList.length=L.length:=by simpa using hsl
  have hgrow:=grownBy_sortedI (w:=w) (g:=rb) (n:=m) (os := #[]) (Sort.insertionSort (ltF fl) L.toArray 0 L.length);have hrow:=ownsRow_sortedI (w:=w) (base:=base) (g:=rb) (cap:=cap) (n:=m) (e:=3) (os := #[]) (cur:=cur) (ss:=L) (ts:=(Sort.insertionSort (ltF fl) L.toArray 0 L.length).toList) hts hb hg2 hnc hm hcur;rw[grow_empty]at hgrow hrow;refine⟨rfl,hgrow,own_of_ints ?_⟩;rw[hts];simpa using hrow
theorem stable_any(fl:List GFlight)(A:Option Addr)(n c g base:Nat)(v:Value)(L:List Int)(w:World)(ho:Own (Ty.int .i64) 3 w base v L)(hL : ∀ y∈L, ∃ i:Nat,y=i∧i<fl.length)(hs:Sl Ty.flight w (fun b=>b<base) A n c fl)(hbase:base≤w.heap.size)
 (hd : ∀ f∈fl, -4611686018427387904≤f.dep∧f.dep≤4611686018427387903) (hg:w.cell? ⟨g,0,none⟩=some (.slice A n c)) (hgb:g<base) (hlen:L.length≤19) (hfl:0<fl.length) :
 Calls Tryz.prog 111 #[v,.int .i64 L.length,.func (.func 79) #[] #[.pointer (some ⟨g,0,none⟩)]] w
  (SortPost v.ownBlock base v (Sort.insertionSort (ltF fl) L.toArray 0 L.length).toList w):=by
 have HC:=qH (insSort_own fl A n c g base v L w ho hL hs hbase hd hg hgb hlen hfl);generalize (Sort.insertionSort (ltF fl) L.toArray 0 L.length).toList=R at*;generalize L.length=k at*;obtain⟨A0,c0,rfl, -⟩:=ho.sl;generalize hob:Value.ownBlock _=ob at HC ⊢;clear ho hL hs hd hg hob
 go_enter Tryz.func111,Tryz.ntmps111
 go_wp2_with fail
 go_loopw [7,8] (fun s7 s8 wr=>s7=.int .i64 0∧s8=.int .i64 20∧wr=w) (fun _ _ _=>0)
 case atStart=>exact⟨rfl,rfl,rfl⟩
 case round =>
  obtain⟨rfl,rfl,rfl⟩:=hrel;go_wp2_with fail
  refine HC.out.mono ?_;rintro e w1 ⟨rfl,h1,h2⟩;have H1:=qH h1;have H2:=qH h2;clear h1 h2 HC;go_wp2_with fail
  go_loopw [6,7,8,9] (fun s6 _ _ _ wq=>s6=.int .i64 20∧wq=w1) (fun _ _ _ _ _=>0)
  case atStart=>exact⟨rfl,rfl⟩
  case round =>
   obtain⟨rfl,rfl⟩:=hrel;go_wp2_with fail
   go_end0
   exact⟨rfl,H1.out,H2.out⟩
theorem sortStable_any(fl:List GFlight)(A:Option Addr)(n c g base:Nat)(v:Value)(L:List Int)(w:World)(ho:Own (Ty.int .i64) 3 w base v L)(hL : ∀ y∈L, ∃ i:Nat,y=i∧i<fl.length)(hs:Sl Ty.flight w (fun b=>b<base) A n c fl)(hbase:base≤w.heap.size)
 (hd : ∀ f∈fl, -4611686018427387904≤f.dep∧f.dep≤4611686018427387903) (hg:w.cell? ⟨g,0,none⟩=some (.slice A n c)) (hgb:g<base) (hlen:L.length≤19) (hfl:0<fl.length) :
 Calls Tryz.prog 78 #[v,.func (.func 79) #[] #[.pointer (some ⟨g,0,none⟩)]] w
  (SortPost v.ownBlock base v (Sort.insertionSort (ltF fl) L.toArray 0 L.length).toList w):=by
 have HC:=qH (stable_any fl A n c g base v L w ho hL hs hbase hd hg hgb hlen hfl);generalize (Sort.insertionSort (ltF fl) L.toArray 0 L.length).toList=R at*;obtain⟨A0,c0,rfl, -⟩:=ho.sl;generalize hk:L.length=k at*;generalize hob:Value.ownBlock _=ob at HC ⊢;clear ho hL hs hd hg hob
 go_enter Tryz.func78,Tryz.ntmps78
 go_wp2_with fail
 refine HC.out.mono ?_;rintro e w1 ⟨rfl,h1,h2⟩;have H1:=qH h1;have H2:=qH h2;clear h1 h2 HC;go_wp2_with fail
 go_end0
 exact⟨rfl,H1.out,H2.out⟩
end
section
open Go.RowKit
def leftK(gone:List Bool)(k:Nat):List Int:=((List.range k).filter fun i => !gone.getD i false).map fun (i:Nat)=>(i:Int)
theorem leftK_all(gone:List Bool):leftK gone gone.length=leftI gone:=rfl
theorem leftK_yes{gone:List Bool}{k:Nat}(h:gone.getD k false=false):leftK gone (k+1)=leftK gone k++[(k:Int)]:=by
 unfold leftK;rw[List.range_succ,List.filter_append,List.map_append,List.filter_cons,h];rfl
theorem leftK_no{gone:List Bool}{k:Nat}(h:gone.getD k false=true):leftK gone (k+1)=leftK gone k:=by
 unfold leftK;rw[List.range_succ,List.filter_append,List.map_append,List.filter_cons,h];simp
theorem leftK_len(gone:List Bool)(k:Nat):(leftK gone k).length≤k:=by
 unfold leftK;rw[List.length_map];have:=List.length_filter_le (fun i => !gone.getD i false) (List.range k);simpa using this
theorem Sl.bool_at{w:World}{S:Nat→Prop}{A:Option Addr}{n c:Nat}{xs:List Bool}(h:Sl Ty.bool w S A n c xs){k:Nat}(hk:k<xs.length) : ∃ b o,A=some ⟨b,o,none⟩∧S b∧w.cell? ⟨b,o+k,none⟩=some (.bool (xs.getD k false)):=by
 obtain⟨b,o,cs,e,hs,hr,ha⟩:=h.at_ hk;have hr':cs=[.bool xs[k]]:=hr;subst hr';have e1:xs.getD k false=xs[k]:=by rw[qF,qG hk];rfl
 rw[e1];have:=ha 0 _ rfl;simp only[Ty.bool,Nat.mul_one,Nat.add_zero]at this;exact⟨b,o,e,hs,this⟩
theorem order_any(fl:List GFlight)(gone:List Bool)(A B:Option Addr)(n c m d:Nat)(w:World)(hs:Sl Ty.flight w (all_ w) A n c fl)(hg:Sl Ty.bool w (all_ w) B m d gone)(he:gone.length=fl.length)(h0:0<fl.length)(h19:fl.length≤19)
 (hd : ∀ f∈fl, -4611686018427387904≤f.dep∧f.dep≤4611686018427387903) :
 Calls Tryz.prog 46 #[.slice A n c,.slice B m d] w (OwnPost (Ty.int .i64) 3 (orderI fl gone) w):=by
 have hn1:n≤fl.length:=Nat.le_of_eq hs.len;have hn2:fl.length≤n:=Nat.le_of_eq hs.len.symm;have hm:=hg.len;have HS:Hid (∀ V,Below w.heap.size w V→Sl Ty.flight V (all_ w) A n c fl):=fun V hV=>hs.keep (all_keep hV)
 have HG:Hid (∀ V,Below w.heap.size w V→Sl Ty.bool V (all_ w) B m d gone):=fun V hV=>hg.keep (all_keep hV)
 have HB0:Hid (∀ o,Below w.heap.size w (w.alloc o)):=fun o=>(qC _ _).alloc (qD _) o
 have HR0:Hid (∀ o,(w.alloc o).heap[w.heap.size]? = some o):=fun o=>qK _ _
 have HD:=qH hd;have HE:=qH he;have HM:=qH hm;clear hs hg hd he hm
 go_enter Tryz.func46,Tryz.ntmps46
 go_wp2_with fail
 have hbw:=HB0.out (.cells #[.slice A n c] 25);have hrw:=HR0.out (.cells #[.slice A n c] 25);have hzw:(w.alloc (.cells #[.slice A n c] 25)).heap.size=w.heap.size+1:=by simp
 generalize w.alloc (.cells #[.slice A n c] 25)=W at*;clear HB0 HR0;have HRW:=qH hrw;have HBW:=qH hbw;have HZW:=qH hzw;clear hrw hbw hzw;go_loopw [5,6,9] (fun v _ s wr => ∃ k:Nat,k≤n∧s=.int .i64 k∧Below (w.heap.size+1) W wr∧w.heap.size<wr.heap.size∧Own (Ty.int .i64) 3 wr (w.heap.size+1) v (leftK gone k)) (fun _ _ s _=>n-(intOf s).toNat)
 case atStart=>exact⟨0,qV _,rfl,qC _ _,by have:=HZW.out;omega,Own.nil⟩
 case round =>
  obtain⟨k,hk,rfl,hbr,hsz,hown⟩:=hrel;have HBR:Hid (Below w.heap.size w wr):=HBW.out.trans (hbr.mono (by omega))
  by_cases hlt:k<n
  ·obtain⟨b,o,rfl,hbS,hgk⟩:=(HG.out wr HBR.out).bool_at (k:=k) (by have:=HE.out;omega);have hkm:k<m:=by have:=HM.out;have:=HE.out;omega
   have hlen:=leftK_len gone k;have HN1:=qH (leftK_yes (gone:=gone) (k:=k));have HN2:=qH (leftK_no (gone:=gone) (k:=k));obtain⟨A5,c5,rfl, -⟩:=hown.sl;generalize gone.getD k false=q at*
   cases q with
   | true =>
    have hown2:Own (Ty.int .i64) 3 wr (w.heap.size+1) (.slice A5 (leftK gone k).length c5) (leftK gone (k+1)):=by rw[HN2.out rfl];exact hown
    have HO:=qH hown2;clear HN1 HN2 hown hown2;go_wp2_with fail
    go_roundw
    case rel=>exact⟨k+1,by omega,by go_num,hbr,hsz,HO.out⟩
    case measure=>simp[intOf];omega
   | false =>
    have HNE:=qH (HN1.out rfl);have HOA:Hid (∀ oo,Own (Ty.int .i64) 3 (wr.alloc oo) (w.heap.size+1) (.slice A5 (leftK gone k).length c5) (leftK gone k)):=fun oo=>hown.alloc oo
    have HBA:Hid (∀ oo,Below (w.heap.size+1) W (wr.alloc oo)):=fun oo=>hbr.alloc (by omega) oo
    clear HN1 HN2 hown;go_wp2_with (at_builtin;refine wpList_push_int rfl _ _ rfl elem_ints (by decide) (by decide) rfl (HOA.out _) wr.heap.size k rfl ?c1 ?c2 ?c3 ?c5 (HBA.out _) ?_)
    case c1=>simp
    case c2=>omega
    case c3=>simp;omega
    case c5=>exact qD _
    intro v' w7 hown7 hb7;rw[←HNE.out]at hown7;have hz7:w.heap.size<w7.heap.size:=by have:=hb7.size;have:=HZW.out;omega
    clear HOA HBA HNE;go_wp2_with fail
    go_roundw
    case rel=>exact⟨k+1,by omega,by go_num,hb7,hz7,hown7⟩
    case measure=>simp[intOf];omega
  ·have hkn:k=gone.length:=by have:=HE.out;omega
   subst hkn;have hsl:=HS.out wr HBR.out;have hgc:wr.cell? ⟨w.heap.size,0,none⟩=some (.slice A n c):=(cell_of_same (a:=⟨w.heap.size,0,none⟩) (hbr.block _ (show w.heap.size<w.heap.size+1 by omega))).trans (block_cell HRW.out 0);have HC:=qH (sortStable_any fl A n c w.heap.size (w.heap.size+1) _ (leftK gone gone.length) wr hown (fun y hy=>by
    rw[leftK_all]at hy;obtain⟨i,rfl,hi,_⟩:=leftI_mem.1 hy;exact⟨i,rfl,by have:=HE.out;omega⟩) (hsl.more fun b hb=>by
    have:b<w.heap.size:=hb;omega) (by omega) HD.out hgc (by omega) (by have:=leftK_len gone gone.length;have:=HE.out;omega) h0)
   have HR:Hid ((Sort.insertionSort (ltF fl) (leftK gone gone.length).toArray 0 (leftK gone gone.length).length).toList=orderI fl gone):=by
    show _=_;unfold orderI;rw[leftK_all];simp
   have hlo:=hown.lt;have hsl5:=hown.sl;generalize (Sort.insertionSort (ltF fl) (leftK gone gone.length).toArray 0 (leftK gone gone.length).length).toList=R at*;obtain⟨A5,c5,rfl, -⟩:=hsl5;generalize (leftK gone gone.length).length=q at*;generalize hob:Value.ownBlock _=ob at HC hlo;have HBW2:=qH (hbr);clear hown hgc hsl;go_wp2_with fail
   refine HC.out.mono ?_;rintro e w1 ⟨rfl,hg1,ho1⟩;have HFIN:Hid (Below w.heap.size w w1):=HBR.out.grown hg1 (by omega) (fun j hj=>by have:=(hlo j hj).1;omega);have HOW:Hid (Own (Ty.int .i64) 3 w1 w.heap.size (.slice A5 q c5) R):=ho1.lower (by omega);clear HC hg1 ho1 hlo;go_wp2_with fail
   go_ret
   rw[←HR.out];exact⟨_,rfl,HOW.out,HFIN.out⟩
end
section
open Go.RowKit
def incE2(t:GTT)(x:GInc):Int:=if x.kind<1∨4<x.kind then 5 else if x.kind=4 then 0 else flightIncE t x
def newTT(t:GTT)(l:List GInc):GTT:=⟨t.zones,t.airports,newFl (appAll t l).1 (appAll t l).2⟩
def indexL(t:GTT)(l:List GInc):List Int:=(List.range t.flights.length).map (indexI (appAll t l).1 (appAll t l).2)
theorem applyP_eq(t:GTT)(l:List GInc):applyP t l=if ttE t≠0 then (⟨[],[],[]⟩,[],ttE t)
 else if firstErr (fun i=>incE2 t (l.getD i noInc)) l.length≠0 then (⟨[],[],[]⟩,[],firstErr (fun i=>incE2 t (l.getD i noInc)) l.length)
 else if ttE (newTT t l)≠0 then (⟨[],[],[]⟩,[],ttE (newTT t l))
 else (newTT t l,indexL t l,0):=rfl
def appTo(t:GTT)(l:List GInc)(k:Nat):List GFlight×List Bool:=(l.take k).foldl appSt (t.flights,List.replicate t.flights.length false)
theorem appTo_zero(t:GTT)(l:List GInc):appTo t l 0=(t.flights,List.replicate t.flights.length false):=rfl
theorem appTo_all(t:GTT)(l:List GInc):appTo t l l.length=appAll t l:=by unfold appTo appAll;rw[List.take_length]
theorem appTo_succ(t:GTT)(l:List GInc){k:Nat}(hk:k<l.length):appTo t l (k+1)=appSt (appTo t l k) (l.getD k noInc):=by
 unfold appTo;rw[List.take_succ_eq_append_getElem hk,List.foldl_append];rw[qF,qG hk];rfl
theorem appSt_len(s:List GFlight×List Bool)(x:GInc):(appSt s x).1.length=s.1.length∧(appSt s x).2.length=s.2.length:=by
 unfold appSt;split
 ·exact⟨rfl,rfl⟩
 split
 ·exact⟨List.length_set,rfl⟩
 split
 ·exact⟨rfl,List.length_set⟩
 ·exact⟨List.length_set,rfl⟩
theorem appTo_len(t:GTT)(l:List GInc) : ∀ k,k≤l.length→(appTo t l k).1.length=t.flights.length∧(appTo t l k).2.length=t.flights.length
 | 0,_=>by rw[appTo_zero];simp
 | k+1,hk=>by
  have ih:=appTo_len t l k (by omega);rw[appTo_succ t l (by omega)];have:=appSt_len (appTo t l k) (l.getD k noInc);omega
theorem OwnS.made{α : Type}{t:Ty α}{e:TypeId}{w:World}{S:Nat→Prop}{base n:Nat}{z:Value}{x : α}(hsz:t.size=1)(hrep : ∀ w S,t.rep w S [z] x)(hb:base≤w.heap.size)(hn:n≤maxLen) :
 OwnS t e (w.alloc (.cells (madeCells #[z] n) e)) S base (.slice (some ⟨w.heap.size,0,none⟩) n n) (List.replicate n x):=by
 have hmc:(madeCells #[z] n).toList=List.replicate n z:=by
  apply List.ext_getElem?;intro j;unfold madeCells
  by_cases hj:j<n
  ·rw[List.getElem?_replicate,qR hj];simp[hj,Nat.mod_one]
  ·rw[List.getElem?_replicate,qN hj];simp;omega
 refine⟨List.replicate n z,⟨by simp[hsz],.inr ⟨_,n,_,by simp,hb,qK _ _,by simp,hn, ?_, ?_⟩⟩,by simp[hsz],fun i y hi =>?_⟩
 ·rw[←Array.length_toList,hmc,hsz];simp
 ·rw[hmc,hsz];simp
 ·have hi':i<n∧y=x:=by
   rw[List.getElem?_replicate]at hi;split at hi
   ·rename_i h;injection hi with hi;exact⟨h,hi.symm⟩
   ·cases hi
  obtain⟨hi',rfl⟩:=hi';rw[hsz,Nat.mul_one,List.drop_replicate,List.take_replicate,Nat.min_eq_left (by omega)];exact hrep _ _
theorem OwnS.ownAt{α : Type}{t:Ty α}{e:TypeId}{w:World}{S:Nat→Prop}{base:Nat}{v:Value}{xs:List α}(h:OwnS t e w S base v xs)(hp:0<xs.length) : ∃ g c cur,v=.slice (some ⟨g,0,none⟩) xs.length c∧base≤g∧g<w.heap.size∧w.heap[g]? = some (.cells cur e (0,0)):=by
 obtain⟨cs,h1,_⟩:=h;rcases h1.2 with ⟨_,h0⟩|⟨g,cap,cur,rfl,hg,hb,r⟩
 ·omega
 ·exact⟨g,cap,cur,rfl,hg,(Array.getElem?_eq_some_iff.1 hb).1,hb⟩
structure AP(w:World)(tc:Array Value)(base:Nat)(wr:World)(vF vC:Value)(s:List GFlight×List Bool):Prop where
 t:wr.heap[w.heap.size]? = some (.cells tc 27 (0,0))
 res:wr.heap[w.heap.size+1]? = some (.cells #[.slice none 0 0,.slice none 0 0,.slice none 0 0] 27 (0,0))
 F:OwnS Ty.flight 62 wr (fun _=>False) base vF s.1
 C:OwnS Ty.bool 4 wr (fun _=>False) base vC s.2
 bel:Below w.heap.size w wr
 l:w.heap.size+2≤base
section
variable {w:World} {tc:Array Value} {base:Nat} {wr w':World} {vF vC:Value} {s:List GFlight×List Bool}
theorem AP.next(h:AP w tc base wr vF vC s)(hb:Below wr.heap.size wr w'):AP w tc base w' vF vC s:=by
 have h1:=(Array.getElem?_eq_some_iff.1 h.t).1;have h2:=(Array.getElem?_eq_some_iff.1 h.res).1;exact⟨(hb.block _ h1).trans h.t,(hb.block _ h2).trans h.res,h.F.next hb fun _ h=>h.elim,h.C.next hb fun _ h=>h.elim,h.bel.trans (hb.mono h.bel.size),h.l⟩
theorem AP.setF{g n c:Nat}(h:AP w tc base wr (.slice (some ⟨g,0,none⟩) n c) vC s){k j:Nat}(hk:k<s.1.length)(hj:j<9){u:Value}{y:GFlight}(hy:(flightCells (s.1.getD k y)).set j u=flightCells y) :
 AP w tc base (wr.setCell ⟨g,k*9+j,none⟩ u) (.slice (some ⟨g,0,none⟩) n c) vC (s.1.set k y,s.2):=by
 have hg:=(h.F.lt g rfl).1;have hl:=h.l;have hk2 : ∀ q,q≠g→(wr.setCell ⟨g,k*9+j,none⟩ u).heap[q]? = wr.heap[q]? :=fun q hq=>qO _ _ _ _ hq
 refine⟨(hk2 _ (by omega)).trans h.t,(hk2 _ (by omega)).trans h.res, ?_,h.C.keep (by simp) (fun q hq=>hk2 q fun e =>?_) (fun _ h=>h.elim),h.bel.setCell (show w.heap.size≤g by omega) _,hl⟩
 ·exact h.F.setAt (t:=Ty.flight) hk hj (fun h=>h) fun cs hr=>by
   have hr':cs=flightCells (s.1.getD k y):=hr;subst hr';exact hy
 ·obtain⟨c1,e1⟩:=h.C.block hq;obtain⟨c2,e2⟩:=h.F.block (k:=g) rfl;rw[e,e2]at e1
  cases e1
theorem AP.setC{g n c:Nat}(h:AP w tc base wr vF (.slice (some ⟨g,0,none⟩) n c) s){k:Nat}(hk:k<s.2.length) :
 AP w tc base (wr.setCell ⟨g,k,none⟩ (.bool true)) vF (.slice (some ⟨g,0,none⟩) n c) (s.1,s.2.set k true):=by
 have hg:=(h.C.lt g rfl).1;have hl:=h.l;have hk2 : ∀ q,q≠g→(wr.setCell ⟨g,k,none⟩ (.bool true)).heap[q]? = wr.heap[q]? :=fun q hq=>qO _ _ _ _ hq
 refine⟨(hk2 _ (by omega)).trans h.t,(hk2 _ (by omega)).trans h.res,h.F.keep (by simp) (fun q hq=>hk2 q fun e =>?_) (fun _ h=>h.elim), ?_,h.bel.setCell (show w.heap.size≤g by omega) _,hl⟩
 ·obtain⟨c1,e1⟩:=h.F.block hq;obtain⟨c2,e2⟩:=h.C.block (k:=g) rfl;rw[e,e2]at e1
  cases e1
 ·have:=h.C.setAt (t:=Ty.bool) (j:=0) (u:=.bool true) (y:=true) hk (show 0<1 by decide) (fun h=>h) fun cs hr=>by
   have hr':cs=[.bool (s.2.getD k true)]:=hr;subst hr';rfl
  have e:k*Ty.bool.size+0=k:=by show k*1+0=k;omega
  rw[e]at this;exact this
end
end
section
open Go Go.RowKit
def ixTo(fl:List GFlight)(gone:List Bool)(k:Nat):List Int:=(List.range gone.length).map fun i=>if gone.getD i false=true then 0 else if rankI fl gone i<k then (rankI fl gone i:Int) else 0
def ixTo2(fl:List GFlight)(gone:List Bool)(k:Nat):List Int:=(List.range gone.length).map fun i=>if gone.getD i false=true then (if i<k then -1 else 0) else (rankI fl gone i:Int)
theorem ixTo_len(fl:List GFlight)(gone:List Bool)(k:Nat):(ixTo fl gone k).length=gone.length:=by simp[ixTo]
theorem ixTo2_len(fl:List GFlight)(gone:List Bool)(k:Nat):(ixTo2 fl gone k).length=gone.length:=by simp[ixTo2]
theorem ixTo_zero(fl:List GFlight)(gone:List Bool):ixTo fl gone 0=List.replicate gone.length 0:=by
 unfold ixTo;rw[List.eq_replicate_iff];refine⟨by simp,fun x hx =>?_⟩;obtain⟨i,_,rfl⟩:=List.mem_map.1 hx;split
 ·rfl
 ·rw[qN (by omega)]
theorem range_set(n i:Nat)(g h:Nat→Int)(x:Int)(hx:h i=x)(hh : ∀ j,j<n→j≠i→h j=g j):((List.range n).map g).set i x=(List.range n).map h:=by
 apply List.ext_getElem?;intro j;rw[List.getElem?_set,List.getElem?_map,List.getElem?_map]
 by_cases hj:j<n
 ·rw[List.getElem?_range hj]
  by_cases hij:i=j
  ·subst hij;rw[qR rfl,qR (by simpa using hj)];simp[hx]
  ·rw[qN hij];simp[hh j hj (fun e=>hij e.symm)]
 ·rw[List.getElem?_eq_none (l:=List.range n) (by simpa using hj)]
  by_cases hij:i=j
  ·subst hij;rw[qR rfl,qN (by simpa using hj)];rfl
  ·rw[qN hij];rfl
theorem ixTo_set(fl:List GFlight)(gone:List Bool){k:Nat}(hk:k<(orderI fl gone).length) : ∃ i:Nat,(orderI fl gone)[k]=i∧i<gone.length∧(ixTo fl gone k).set i k=ixTo fl gone (k+1):=by
 obtain⟨i,h1,h2,h3,h4⟩:=order_rank hk;refine⟨i,h1,h2, ?_⟩;unfold ixTo;refine range_set _ _ _ _ _ ?_ fun j hj hji =>?_
 ·rw[h3,qN (by decide),qR (by omega),h4]
 ·by_cases hg:gone.getD j false=true
  ·rw[qR hg,qR hg]
  ·rw[qN hg,qN hg]
   by_cases hr:rankI fl gone j=k
   ·exfalso;obtain⟨q1,e1⟩:=order_at (fl:=fl) (gone:=gone) hj (by simpa using hg);simp only[hr]at e1;rw[h1]at e1;omega
   ·by_cases hlt:rankI fl gone j<k
    ·rw[qR (by omega),qR hlt]
    ·rw[qN (by omega),qN hlt]
theorem ixTo_all(fl:List GFlight)(gone:List Bool):ixTo fl gone (orderI fl gone).length=ixTo2 fl gone 0:=by
 unfold ixTo ixTo2;refine List.map_congr_left fun i hi =>?_
 rw[List.mem_range]at hi
 by_cases hg:gone.getD i false=true
 ·rw[qR hg,qR hg,qN (by omega)]
 ·rw[qN hg,qN hg];obtain⟨q1,_⟩:=order_at (fl:=fl) (gone:=gone) hi (by simpa using hg);rw[qR q1]
theorem ixTo2_gone(fl:List GFlight)(gone:List Bool){k:Nat}(hg:gone.getD k false=true):(ixTo2 fl gone k).set k (-1)=ixTo2 fl gone (k+1):=by
 unfold ixTo2;refine range_set _ _ _ _ _ ?_ fun j hj hji =>?_
 ·rw[hg,qR rfl,qR (by omega)]
 ·by_cases hlt:j<k
  ·rw[qR (show j<k+1 by omega),qR hlt]
  ·rw[qN (show ¬j<k+1 by omega),qN hlt]
theorem ixTo2_left(fl:List GFlight)(gone:List Bool){k:Nat}(hg:gone.getD k false=false):ixTo2 fl gone k=ixTo2 fl gone (k+1):=by
 unfold ixTo2;refine List.map_congr_left fun j hj =>?_
 by_cases hjk:j=k
 ·subst hjk;rw[hg,qN (by decide),qN (by decide)]
 ·by_cases hlt:j<k
  ·rw[qR (show j<k+1 by omega),qR hlt]
  ·rw[qN (show ¬j<k+1 by omega),qN hlt]
theorem ixTo2_all(fl:List GFlight)(gone:List Bool):ixTo2 fl gone gone.length=(List.range gone.length).map (indexI fl gone):=by
 unfold ixTo2;refine List.map_congr_left fun j hj =>?_
 rw[List.mem_range]at hj;unfold indexI
 by_cases hg:gone.getD j false=true
 ·rw[qR hg,qR hg,qR hj]
 ·rw[qN hg,qN hg]
theorem newFl_take(fl:List GFlight)(gone:List Bool){k i:Nat}(hk:k<(orderI fl gone).length)(hi:(orderI fl gone)[k]=(i:Int)):(newFl fl gone).take (k+1)=(newFl fl gone).take k++[fl.getD i noFlight]:=by
 have hl:k<(newFl fl gone).length:=by unfold newFl;rw[List.length_map];exact hk
 rw[List.take_succ_eq_append_getElem hl]
 congr 2
 have e:(newFl fl gone)[k]=fl.getD ((orderI fl gone)[k]).toNat noFlight:=by simp[newFl]
 rw[e,hi];rfl
theorem newFl_len(fl:List GFlight)(gone:List Bool):(newFl fl gone).length=(orderI fl gone).length:=by unfold newFl;rw[List.length_map]
end
section
open Go.RowKit
structure Kx(X:Nat→Prop)(lo:Nat)(w w':World):Prop where
 os:w'.os=w.os
 tape:w'.tape=w.tape
 output:w'.output=w.output
 size:w.heap.size≤w'.heap.size
 block : ∀ q,q<lo → ¬X q→w'.heap[q]? = w.heap[q]?
section
variable {w w' w'':World} {X:Nat→Prop} {lo:Nat}
theorem Kx.refl(X:Nat→Prop)(lo:Nat)(w:World):Kx X lo w w:=⟨rfl,rfl,rfl,qD _,fun _ _ _=>rfl⟩
theorem Kx.of_below(hb:Below w.heap.size w w')(hl:lo≤w.heap.size):Kx X lo w w':=⟨hb.os,hb.tape,hb.output,hb.size,fun q hq _=>hb.block q (by omega)⟩
theorem Kx.trans(h:Kx X lo w w')(h':Kx X lo w' w''):Kx X lo w w'':=⟨h'.os.trans h.os,h'.tape.trans h.tape,h'.output.trans h.output,Nat.le_trans h.size h'.size,fun q a b=>(h'.block q a b).trans (h.block q a b)⟩
theorem Kx.grown{row:Option Nat}(h:Kx X lo w w')(hg:w'.grownBy w'' row)(hr : ∀ k,row=some k→lo≤k∨X k)(hl:lo≤w'.heap.size):Kx X lo w w'' :=
 ⟨hg.os.trans h.os,hg.tape.trans h.tape,hg.output.trans h.output,Nat.le_trans h.size hg.size,fun q a b=>(hg.block q (by omega) (fun e=>by
  rcases hr q e.symm with h9|h9
  ·omega
  ·exact b h9)).trans (h.block q a b)⟩
theorem Kx.set(h:Kx X lo w w'){g:Nat}(hg:lo≤g∨X g)(j:Nat)(x:Value):Kx X lo w (w'.setCell ⟨g,j,none⟩ x) :=
 ⟨h.os,h.tape,h.output,by simp;exact h.size,fun q a b=>(qO _ _ _ _ (fun e=>by
  have e:q=g:=e;subst e;rcases hg with h9|h9
  ·omega
  ·exact b h9)).trans (h.block q a b)⟩
theorem Kx.below{base:Nat}(h:Kx X lo w w')(hl:base≤lo)(hX : ∀ q,X q→base≤q):Below base w w':=⟨h.os,h.tape,h.output,h.size,fun q hq=>h.block q (by omega) fun hx=>by have:=hX q hx;omega⟩
end
section
variable {w:World} {S:Nat→Prop} {A:Option Addr} {n c g:Nat} {a b d:Value} {T:TypeId}
def SlBox(w:World)(g:Nat):Prop := ∃ (cur:Array Value) (T:TypeId),w.heap[g]? = some (.cells cur T (0,0)) ∧ ∀ (j:Nat) (u:Value),cur[j]? = some u → ∃ A n c,u=Value.slice A n c
theorem SlBox.cell(h:SlBox w g){j:Nat}{u:Value}(hu:w.cell? ⟨g,j,none⟩=some u) : ∃ A n c,u=.slice A n c:=by
 obtain⟨cur,T,h1,h2⟩:=h;rw[block_cell h1]at hu;exact h2 j u hu
theorem Sl.shift_off{xs:List GShift}(hg:SlBox w g)(h:Sl Ty.shift w S A n c xs):Sl Ty.shift w (fun b=>S b∧b≠g) A n c xs:=by
 obtain⟨h1,h2,h3,h4⟩:=h;refine⟨h1,h2,h3,fun hn =>?_⟩;obtain⟨b,o,e,hs,hx⟩:=h4 hn;refine⟨b,o,e,⟨hs,fun e9 =>?_⟩,fun i x hi =>?_⟩
 ·subst e9;obtain⟨cs,hr,ha⟩:=hx 0 _ (qG (by omega));have hr':cs=[.int .i64 xs[0].at_,.int .i64 xs[0].off]:=hr;subst hr';obtain⟨A',n',c',e2⟩:=hg.cell (ha 0 _ rfl)
  cases e2
 ·exact hx i x hi
theorem Sl.zone_off{xs:List GZone}(hg:SlBox w g)(h:Sl Ty.zone w S A n c xs):Sl Ty.zone w (fun b=>S b∧b≠g) A n c xs:=by
 obtain⟨h1,h2,h3,h4⟩:=h;refine⟨h1,h2,h3,fun hn =>?_⟩;obtain⟨b,o,e,hs,hx⟩:=h4 hn;refine⟨b,o,e,⟨hs,fun e9 =>?_⟩,fun i x hi =>?_⟩
 ·subst e9;obtain⟨cs,⟨A',n',c',rfl,_⟩,ha⟩:=hx 0 _ (qG (by omega));obtain⟨A',n',c',e2⟩:=hg.cell (ha 0 _ rfl)
  cases e2
 ·obtain⟨cs,⟨A',n',c',rfl,hsh⟩,ha⟩:=hx i x hi;exact⟨_,⟨A',n',c',rfl,hsh.shift_off hg⟩,ha⟩
theorem Sl.airport_off{xs:List GAirport}(hg:SlBox w g)(h:Sl Ty.airport w S A n c xs):Sl Ty.airport w (fun b=>S b∧b≠g) A n c xs:=by
 obtain⟨h1,h2,h3,h4⟩:=h;refine⟨h1,h2,h3,fun hn =>?_⟩;obtain⟨b,o,e,hs,hx⟩:=h4 hn;refine⟨b,o,e,⟨hs,fun e9 =>?_⟩,fun i x hi =>?_⟩
 ·subst e9;obtain⟨cs,hr,ha⟩:=hx 0 _ (qG (by omega));have hr':cs=[.string xs[0].code,.string xs[0].zone]:=hr;subst hr';obtain⟨A',n',c',e2⟩:=hg.cell (ha 0 _ rfl)
  cases e2
 ·exact hx i x hi
theorem SlBox.three{A1 A2 A3:Option Addr}{n1 n2 n3 c1 c2 c3:Nat}(h:w.heap[g]? = some (.cells #[.slice A1 n1 c1,.slice A2 n2 c2,.slice A3 n3 c3] T (0,0))):SlBox w g:=⟨_,_,h,fun j u hu=>by
 rcases j with _|_|_|j
 ·simp at hu;exact⟨_,_,_,hu.symm⟩
 ·simp at hu;exact⟨_,_,_,hu.symm⟩
 ·simp at hu;exact⟨_,_,_,hu.symm⟩
 ·simp at hu⟩
end
end
section
open Go Go.RowKit
theorem getD_set_self{α : Type}{l:List α}{k:Nat}(h:k<l.length)(x d : α):(l.set k x).getD k d=x:=by
 rw[qF,List.getElem?_set_self h];rfl
theorem getD_set_ne{α : Type}{l:List α}{k i:Nat}(h:k≠i)(x d : α):(l.set k x).getD i d=l.getD i d:=by
 rw[qF,qF,List.getElem?_set_ne h]
def delayI(f m:Int):GInc:=⟨1,f,m,noStr,0,noShift⟩
end
end Go.Proofs.YtifconapjfdkcaaGreatDoor
