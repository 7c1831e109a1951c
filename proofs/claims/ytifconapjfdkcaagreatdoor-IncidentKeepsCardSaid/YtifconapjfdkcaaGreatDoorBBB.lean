/-
  Contract of wire.DecodeText.
  Condition: the bytes are bytes.
-/
import Derived.Test.YtifconapjfdkcaaGreatDoorBAE
import Derived.Test.YtifconapjfdkcaaGreatDoorBAG
namespace Go.Proofs.YtifconapjfdkcaaGreatDoor
set_option linter.unusedSimpArgs false
set_option linter.unusedVariables false
open Go.RowKit
theorem Sl.sub {α : Type} {t:Ty α} {w:World} {S:Nat→Prop} {b o n c:Nat} {xs:List α} (h:Sl t w S (some ⟨b,o,none⟩) n c xs) (lo k:Nat) (hk:lo+k≤n) (b' o':Nat) (hb:0<k→b'=b∧o'=o+lo*t.size):Sl t w S (some ⟨b',o',none⟩) k (c-lo) ((xs.drop lo).take k):=by
 obtain ⟨h1,h2,h3,h4⟩:=h
 refine ⟨by rw [List.length_take,List.length_drop];omega,by omega,by omega,fun hp =>?_⟩
 obtain ⟨b1,o1,e,hS,hx⟩:=h4 (by omega)
 injection e with e
 injection e with e1 e2
 subst e1 e2
 obtain ⟨rfl,rfl⟩:=hb hp
 refine ⟨_,_,rfl,hS,fun i x hi =>?_⟩
 rw [List.getElem?_take] at hi
 split at hi
 ·rw [List.getElem?_drop] at hi
  obtain ⟨cs,hr,ha⟩:=hx _ x hi
  refine ⟨cs,hr, ?_⟩
  rwa [Nat.add_mul, ←Nat.add_assoc] at ha
 ·cases hi
end Go.Proofs.YtifconapjfdkcaaGreatDoor
