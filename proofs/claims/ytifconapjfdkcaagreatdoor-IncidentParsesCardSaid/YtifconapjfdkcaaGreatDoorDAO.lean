/-
  Joined texts: DecText; Reader. What each proves stands ahead of it, with its conditions.
-/
import Derived.Test.YtifconapjfdkcaaGreatDoorDAA
import Derived.Test.YtifconapjfdkcaaGreatDoorDAH
import Derived.Test.YtifconapjfdkcaaGreatDoorDAI
import Derived.BigQuiet
import Derived.Deep.QuietTactic
set_option linter.unusedSimpArgs false
set_option linter.unusedVariables false
set_option maxRecDepth 100000
set_option maxHeartbeats 12800000
namespace Go.Proofs.YtifconapjfdkcaaGreatDoor
section
open Go.RowKit
theorem Sl.sub{α : Type}{t:Ty α}{w:World}{S:Nat→Prop}{b o n c:Nat}{xs:List α}(h:Sl t w S (some ⟨b,o,none⟩) n c xs)(lo k:Nat)(hk:lo+k≤n)(b' o':Nat)(hb:0<k→b'=b∧o'=o+lo*t.size):Sl t w S (some ⟨b',o',none⟩) k (c-lo) ((xs.drop lo).take k):=by
 obtain⟨h1,h2,h3,h4⟩:=h;refine⟨by rw[List.length_take,List.length_drop];omega,by omega,by omega,fun hp =>?_⟩;obtain⟨b1,o1,e,hS,hx⟩:=h4 (by omega);injection e with e
 injection e with e1 e2
 subst e1 e2;obtain⟨rfl,rfl⟩:=hb hp;refine⟨_,_,rfl,hS,fun i x hi =>?_⟩;rw[List.getElem?_take]at hi;split at hi
 ·rw[List.getElem?_drop]at hi;obtain⟨cs,hr,ha⟩:=hx _ x hi;refine⟨cs,hr, ?_⟩
  rwa [Nat.add_mul, ←Nat.add_assoc]at ha
 ·cases hi
end
section
open Go.RowKit
structure But(g:Nat)(w w':World):Prop where
 os:w'.os=w.os
 tape:w'.tape=w.tape
 output:w'.output=w.output
 size:w.heap.size≤w'.heap.size
 block : ∀ b,b<w.heap.size→b≠g→w'.heap[b]? = w.heap[b]?
theorem But.refl(g:Nat)(w:World):But g w w:=⟨rfl,rfl,rfl,qD _,fun _ _ _=>rfl⟩
theorem But.setCell{g:Nat}{w w':World}(h:But g w w')(j:Nat)(x:Value):But g w (w'.setCell ⟨g,j,none⟩ x) :=
 ⟨h.os,h.tape,h.output,by simpa using h.size,fun b hb hg=>(qO _ _ _ _ hg).trans (h.block b hb hg)⟩
end
end Go.Proofs.YtifconapjfdkcaaGreatDoor
