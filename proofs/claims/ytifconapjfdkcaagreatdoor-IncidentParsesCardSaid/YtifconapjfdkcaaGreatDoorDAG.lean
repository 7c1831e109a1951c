/-
  A map[string]bool that the call made and that holds true at some keys: look-up and store.
  No condition.
-/
import Derived.Test.YtifconapjfdkcaaGreatDoorDAA
import Derived.Test.YtifconapjfdkcaaGreatDoorDAH
import Derived.Maps.OwnOps
import Derived.Maps.Views
import Derived.ProofKit
set_option linter.unusedSimpArgs false
set_option linter.unusedVariables false
set_option maxRecDepth 100000
set_option maxHeartbeats 12800000
namespace Go.Proofs.YtifconapjfdkcaaGreatDoor
open Go.RowKit Go.Maps
def BSet(P:Program)(k e:TypeId)(w:World)(b:Nat)(keys:List ByteArray):Prop :=
 ∃ (n:Nat) (D:DataW Unit),n≤keys.length∧w.ownsMap P k (plainElem P e) b n D∧IsMap D ∧ ∀ key:ByteArray,D.atKey (.string key.data.toList) (.lit (.bool false))=.lit (.bool (hasB keys key))
section
variable {P:Program} {k e t:TypeId} {w w':World} {b:Nat} {keys:List ByteArray}
theorem BSet.made(w:World):BSet P k e (w.alloc (.map #[] 0)) w.heap.size [] :=
 ⟨0,.map [],qD _,World.ownsMap_made _ _ _ _,isMap_empty,fun key=>rfl⟩
theorem BSet.lt(h:BSet P k e w b keys):b<w.heap.size:=by
 obtain⟨n,D,_,h,_⟩:=h;exact h.lt
theorem BSet.keep(h:BSet P k e w b keys)(hb:w'.heap[b]? = w.heap[b]?):BSet P k e w' b keys:=by
 obtain⟨n,D,h1,⟨es,clock,h2,h3⟩,h4⟩:=h;exact⟨n,D,h1,⟨es,clock,hb.trans h2,h3⟩,h4⟩
theorem BSet.lookup(h:BSet P k e w b keys)(hk:P.underlying k=some .string)(ht:P.underlying t=some (.map k e))(he:P.underlying e=some .bool)(hz:(zeroValue e).run P w=.ok (.bool false) w)(key:ByteArray)(hs:key.size≤maxLen) :
 (Instr.lookup t (.map (some b)) (.string key) false).run P w=.ok (.bool (hasB keys key)) w:=by
 obtain⟨n,D,_,h2,_,h3⟩:=h;obtain⟨v,ps,hrun,hv⟩:=h2.lookup (string_keyed hk) ht hz (plainElem_bool he false) (WideMaps.keyOf_string_mk hk hs);rw[h3 key]at hv;have:v=.bool (hasB keys key):=by
  unfold plainElem at hv;rw[he]at hv;split at hv <;> simp_all
 rw[hrun,this]
theorem BSet.store(h:BSet P k e w b keys)(hk:P.underlying k=some .string)(ht:P.underlying t=some (.map k e))(he:P.underlying e=some .bool)(hl:keys.length<4611686018427387904)(key:ByteArray)(hs:key.size≤maxLen) :
 ∃ w',(Instr.mapUpdate t (.map (some b)) (.string key) (.bool true)).run P w=.ok () w'∧BSet P k e w' b (keys++[key])∧w.grownBy w' (some b):=by
 obtain⟨n,D,h1,h2,h4,h3⟩:=h;have K:=string_keyed hk;have hkey:=WideMaps.keyOf_string_mk (P:=P) (k:=k) hk hs;obtain⟨w',hrun,ho,hg⟩:=h2.update K ht (by unfold maxLen;omega) hkey (plainElem_bool he true);refine⟨w',hrun,⟨n+1,_,by simp;omega,ho, ?_,fun y =>?_⟩,hg⟩
 ·obtain⟨es,he',_⟩:=h4;exact⟨_,rfl⟩
 ·rw[hasB_snoc]
  by_cases hy:y=key
  ·subst hy;rw[atKey_put_same h4 (K.key hkey)];simp
  ·rw[atKey_put_other (by intro e;injection e with e;exact hy (Go.WideShapes.bytes_inj e)),h3 y];simp[hy]
end
theorem wpList_bset_store{P:Program}{k e t:TypeId}{w:World}{b:Nat}{keys:List ByteArray}{ops:Array Oper}{rest:List Oper}{o:Oper}{a:Act}{Q:Exit→Act→World→Prop}
 (hg:o.guard=none) (m x v:Operand) (hop:o.op=Op.mapUpdate t m x v) (hk:P.underlying k=some .string) (ht:P.underlying t=some (.map k e)) (he:P.underlying e=some .bool)
 (hm:a.eval m=.map (some b)) (h:BSet P k e w b keys) (hl:keys.length<4611686018427387904) (key:ByteArray) (hs:key.size≤maxLen) (hx:a.eval x=.string key) (hv:a.eval v=.bool true)
 (hK : ∀ w',BSet P k e w' b (keys++[key])→w.grownBy w' (some b)→wpList P ops Q rest (a.put o.dst undef) w'):wpList P ops Q (o::rest) a w:=by
 refine qP hg fun K' hK' =>?_
 obtain⟨w',hrun,r1,r2⟩:=h.store hk ht he hl key hs;unfold Oper.wp;simp[execOp,hop,hm,hx,hv,hrun,Result.andThen];exact hK' _ _ (hK w' r1 r2)
end Go.Proofs.YtifconapjfdkcaaGreatDoor
