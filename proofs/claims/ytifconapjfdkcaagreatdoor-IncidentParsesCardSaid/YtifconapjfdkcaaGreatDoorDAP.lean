/-
  Joined texts: Builder; Builder2. What each proves stands ahead of it, with its conditions.
-/
import Derived.Test.YtifconapjfdkcaaGreatDoorDAA
import Derived.Test.YtifconapjfdkcaaGreatDoorDAD
import Derived.Test.YtifconapjfdkcaaGreatDoorDAI
import Derived.Laws.Externs
import Derived.OwnWalk
import Derived.Test.YtifconapjfdkcaaGreatDoorDAO
set_option linter.unusedSimpArgs false
set_option linter.unusedVariables false
set_option maxRecDepth 100000
set_option maxHeartbeats 12800000
namespace Go.Proofs.YtifconapjfdkcaaGreatDoor
section
open Go.RowKit Go
theorem bld_size:(Tryz.prog.info? 107).map (·.size)=some 2:=by kernel_rfl
theorem bld_lies:liesAt Tryz.prog Tryz.prog.depth 107 (2/Tryz.prog.cellsOf 107) 0 107 1=true:=by kernel_rfl
end
section
open Go.RowKit Go
structure Bld(b:Nat)(v:Value)(L:List UInt8)(w:World):Prop where
 cell : ∃ p,(p=.pointer none∨p=.pointer (some ⟨b,0,none⟩))∧w.heap[b]? = some (.cells #[p,v] 107 (0,0))
 row:w.ownsRow b 5 1 v L.length (Lib.byteCells L)
 ne:v.ownBlock≠some b
theorem Bld.is{b:Nat}{v:Value}{L:List UInt8}{w:World}(h:Bld b v L w):Lib.IsBuilder 107 5 b b (Lib.byteCells L) w:=by
 obtain⟨⟨p,hp,hc⟩,hr,hn⟩:=h;have hr':w.ownsRow b 5 1 v (Lib.byteCells L).length (Lib.byteCells L):=by rw[Lib.byteCells_length];exact hr
 rcases hp with rfl|rfl
 ·exact .inl ⟨qD _,v,hc,hr',hn⟩
 ·exact .inr ⟨qD _,v,hc,hr',hn⟩
theorem Bld.lt{b:Nat}{v:Value}{L:List UInt8}{w:World}(h:Bld b v L w):b<w.heap.size:=by
 obtain⟨p,_,hc⟩:=h.cell;exact(Array.getElem?_eq_some_iff.1 hc).1
theorem ownsRow_keep{w w':World}{b:Nat}{e:TypeId}{z:Nat}{v:Value}{n:Nat}{xs:List Value}(h:w.ownsRow b e z v n xs)(hk : ∀ q,v.ownBlock=some q→w'.heap[q]? = w.heap[q]?):w'.ownsRow b e z v n xs:=by
 refine⟨h.1, ?_⟩;rcases h.2 with h3|⟨g,cap,cur,hv,hg,hb,r⟩
 ·exact .inl h3
 ·exact .inr ⟨g,cap,cur,hv,hg,(hk g (by rw[hv];rfl)).trans hb,r⟩
theorem Bld.keep{b:Nat}{v:Value}{L:List UInt8}{w w':World}(h:Bld b v L w)(hb:Below w.heap.size w w'):Bld b v L w':=by
 have hl:=h.lt;obtain⟨⟨p,hp,hc⟩,hr,hn⟩:=h;exact⟨⟨p,hp,(hb.block b hl).trans hc⟩,ownsRow_keep hr fun q hq=>hb.block q (hr.lt q hq).2,hn⟩
theorem row_apart{w:World}{b:Nat}{e:TypeId}{z:Nat}{v:Value}{n:Nat}{xs:List Value}(h:w.ownsRow b e z v n xs){x:Nat}{cs:Array Value}{T:TypeId}{y:Nat×Nat}(hx:w.heap[x]? = some (.cells cs T y))(hT:T≠e):some x≠v.ownBlock:=fun he=>by
 rcases h.2 with ⟨rfl,_⟩|⟨g,cap,cur,rfl,_,hg,_⟩
 ·simp[Value.ownBlock]at he
 ·simp[Value.ownBlock]at he;subst he;rw[hx]at hg;injection hg with hg
  injection hg with _ hg
  exact hT hg
theorem copyCheck_to(b:Nat)(p v:Value)(w:World)(hp:p=.pointer none∨p=.pointer (some ⟨b,0,none⟩))(hc:w.heap[b]? = some (.cells #[p,v] 107 (0,0))) :
 Calls Tryz.prog 92 #[.pointer (some ⟨b,0,none⟩)] w fun e w'=>e=.returned (.tuple #[])∧w'.heap[b]? = some (.cells #[.pointer (some ⟨b,0,none⟩),v] 107 (0,0))∧But b w w':=by
 obtain⟨j,hj,hjs⟩:=Option.map_eq_some_iff.1 bld_size;have h0:w.cell? ⟨b,0,none⟩=some p:=block_cell hc 0;have hfz:w.frozen? ⟨b,0,none⟩=false:=block_free hc 0;have hsh:w.shape? b=some (107,2):=by simp[World.shape?,hc]
 rcases hp with rfl|rfl
 ·have HE:Hid ((w.setCell ⟨b,0,none⟩ (.pointer (some ⟨b,0,none⟩))).heap[b]? = some (.cells #[.pointer (some ⟨b,0,none⟩),v] 107 (0,0))∧But b w (w.setCell ⟨b,0,none⟩ (.pointer (some ⟨b,0,none⟩)))):=⟨qS w b 0 _ _ _ hc,(But.refl _ _).setCell 0 _⟩
  have HTO:=qH (Lib.run_to_unsafe w ⟨b,0,none⟩ Tryz.underlying104 Tryz.underlying174 hj (by rw[hjs];decide) hsh (Nat.zero_lt_succ 1));have HFR:=qH (Lib.run_from_unsafe w ⟨b,0,none⟩ Tryz.underlying174 Tryz.underlying104 hj hsh bld_lies);clear hc hsh
  go_enter Tryz.func92,Tryz.ntmps92
  go_wp2_with fail
  rw[HTO.out];simp only[Result.andThen];rw[Oper.upon_value];go_wp2_with fail
  rw[run_callFunc_extern Tryz.func121 (by kernel_rfl) (by kernel_rfl) (by kernel_rfl) (e:=Extern.AbiNoEscape.same) (by kernel_rfl)];rw[Lib.run_noEscape];simp only[Result.andThen];rw[Oper.upon_value];go_wp2_with fail
  rw[HFR.out];simp only[Result.andThen];rw[Oper.upon_value];go_wp2_with fail
  go_end0
  exact⟨rfl,HE.out⟩
 ·have HE:Hid (w.heap[b]? = some (.cells #[.pointer (some ⟨b,0,none⟩),v] 107 (0,0))∧But b w w):=⟨hc,But.refl _ _⟩
  have HN:=qH (Lib.run_neq_ptr_same w ⟨b,0,none⟩ Tryz.underlying104 hj);clear hc hsh
  go_enter Tryz.func92,Tryz.ntmps92
  go_wp2_with fail
  rw[HN.out];go_wp2_with fail
  go_end0
  exact⟨rfl,HE.out⟩
def BwPost(b:Nat)(L:List UInt8)(s:ByteArray)(w:World)(e:Ending)(w':World):Prop :=
 ∃ v',e=.returned (.tuple #[.int .i64 s.size,.nilIface])∧Bld b v' (L++s.data.toList) w'∧Below b w w' ∧
  ∀ x cs T z,T≠5→x≠b→w.heap[x]? = some (.cells cs T z)→w'.heap[x]? = some (.cells cs T z)
theorem writeStr_any(b:Nat)(v:Value)(L:List UInt8)(s:ByteArray)(w:World)(h:Bld b v L w)(hlen:L.length+s.size≤1000000):Calls Tryz.prog 54 #[.pointer (some ⟨b,0,none⟩),.string s] w (BwPost b L s w):=by
 obtain⟨i0,hi,hz0,hz1,hz2⟩:=byte_info;have hlt:=h.lt;obtain⟨⟨p,hp,hc⟩,hr,hn⟩:=h;have HC:=qH (copyCheck_to b p v w hp hc);have HR:=qH hr;have HNE:=qH hn;have HCC:=qH hc;clear hp hc hr hn
 go_enter Tryz.func54,Tryz.ntmps54
 go_wp2_with fail
 refine HC.out.mono ?_;rintro e w1 ⟨rfl,hbk,hbut⟩;have hs1:=hbut.size;have hr1:w1.ownsRow b 5 1 v L.length (Lib.byteCells L):=ownsRow_keep HR.out fun q hq=>hbut.block q (HR.out.lt q hq).2 (fun e=>HNE.out (by rw[hq,e]))
 have c1:w1.cell? ⟨b,1,none⟩=some v:=block_cell hbk 1;have HB1:=qH hbut;have HBK:=qH hbk;have HOW:=qH hr1;clear hbut hbk hr1 HC;go_wp2_with (at_builtin;refine Lib.wpList_append_own_string _ rfl _ _ 105 9 rfl b 5 i0 Tryz.underlying105 Tryz.underlying9 hi hz0 hz1 hz2 _ _ _ rfl HOW.out s rfl (by unfold maxLen;omega) (by omega) (by omega) ?_)
 intro v' w2 hown' hgrow _;have hs2:=hgrow.size;have hb2:w2.heap[b]? = some (.cells #[.pointer (some ⟨b,0,none⟩),v] 107 (0,0)):=(hgrow.block b (by omega) (fun e=>HNE.out e.symm)).trans HBK.out;have d1:w2.cell? ⟨b,1,none⟩=some v:=block_cell hb2 1;have f1:w2.frozen? ⟨b,1,none⟩=false:=block_free hb2 1;have hb3:(w2.setCell ⟨b,1,none⟩ v').heap[b]? = some (.cells #[.pointer (some ⟨b,0,none⟩),v'] 107 (0,0)):=qS w2 b 1 _ _ v' hb2;have hap:some b≠v'.ownBlock:=row_apart hown' hb2 (by decide);have hoth : ∀ q,q≠b→(w2.setCell ⟨b,1,none⟩ v').heap[q]? = w2.heap[q]? :=fun q hq=>qO _ _ _ _ hq
 have HBLD:Hid (Bld b v' (L++s.data.toList) (w2.setCell ⟨b,1,none⟩ v')):=by
  refine⟨⟨_,.inr rfl,hb3⟩, ?_,fun e=>hap e.symm⟩;have hown2:w2.ownsRow b 5 1 v' (L++s.data.toList).length (Lib.byteCells (L++s.data.toList)):=by
   have e1:(L++s.data.toList).length=L.length+s.size:=by rw[List.length_append,Lib.size_eq]
   have e2:Lib.byteCells (L++s.data.toList)=Lib.byteCells L++Lib.strCells s:=by rw[Lib.strCells_eq];simp[Lib.byteCells]
   rw[e1,e2];exact hown'
  exact ownsRow_keep hown2 fun q hq=>hoth q (fun e=>hap (by rw[hq,e]))
 have HBEL:Hid (Below b w (w2.setCell ⟨b,1,none⟩ v')):=by
  refine⟨hgrow.os.trans HB1.out.os,hgrow.tape.trans HB1.out.tape,hgrow.output.trans HB1.out.output,by simp;omega,fun q hq =>?_⟩;rw[hoth q (by omega),hgrow.block q (by omega) (fun e=>by have:=(HOW.out.lt q e.symm).1;omega)];exact HB1.out.block q (by omega) (by omega)
 have HBOX:Hid (∀ x cs T z,T≠5→x≠b→w.heap[x]? = some (.cells cs T z)→(w2.setCell ⟨b,1,none⟩ v').heap[x]? = some (.cells cs T z)):=fun x cs T z hT hx hh=>by
  have hxl:=(Array.getElem?_eq_some_iff.1 hh).1;have h1:w1.heap[x]? = some (.cells cs T z):=(HB1.out.block x hxl hx).trans hh;rw[hoth x hx,hgrow.block x (by omega) (row_apart HOW.out h1 hT)];exact h1
 obtain⟨ao,n',cap,rfl⟩ : ∃ ao n' cap,v'=.slice ao n' cap:=by
  rcases hown'.2 with ⟨hv,_⟩|⟨g,cap,cur,hv,_⟩
  ·exact⟨_,_,_,hv⟩
  ·exact⟨_,_,_,hv⟩
 clear hown' hgrow hb2 hb3 hap hoth HBK HNE HOW HB1 HR HCC;go_wp2_with fail
 go_ret2
 exact⟨_,rfl,HBLD.out,HBEL.out,HBOX.out⟩
theorem bldLen_any(b:Nat)(v:Value)(L:List UInt8)(w:World)(h:Bld b v L w):Calls Tryz.prog 56 #[.pointer (some ⟨b,0,none⟩)] w fun e w'=>e=.returned (.int .i64 L.length)∧w'=w:=by
 have:=Tryz.Builder_Len b b (Lib.byteCells L) w h.is
 rwa [Lib.byteCells_length]at this
theorem bldString_any(b:Nat)(v:Value)(L:List UInt8)(w:World)(h:Bld b v L w):Calls Tryz.prog 57 #[.pointer (some ⟨b,0,none⟩)] w fun e w'=>e=.returned (.string (bs L))∧Below b w w':=by
 by_cases hL:L=[]
 ·subst hL;exact(Tryz.Builder_String_empty b b w h.is (Nat.le_of_lt h.lt)).mono fun e w' ⟨h1,h2⟩=>⟨h1,h2⟩
 ·exact Tryz.Builder_String b b L w h.is hL
end
end Go.Proofs.YtifconapjfdkcaaGreatDoor
