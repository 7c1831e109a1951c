/-
  Contracts of codec.Reader: Uint, Int, Text, Fail, Count, CountTo, Done.
  Condition: the reader's bytes are bytes.
-/
import Derived.Test.YtifconapjfdkcaaGreatDoorBBB
import Derived.BigQuiet
import Derived.Deep.QuietTactic
namespace Go.Proofs.YtifconapjfdkcaaGreatDoor
set_option linter.unusedSimpArgs false
set_option linter.unusedVariables false
open Go.RowKit
structure But (g:Nat) (w w':World):Prop where
 os:w'.os=w.os
 tape:w'.tape=w.tape
 output:w'.output=w.output
 size:w.heap.size≤w'.heap.size
 block : ∀ b,b<w.heap.size→b≠g→w'.heap[b]? = w.heap[b]?
theorem But.refl (g:Nat) (w:World):But g w w:=⟨rfl,rfl,rfl,Nat.le_refl _,fun _ _ _=>rfl⟩
theorem But.setCell {g:Nat} {w w':World} (h:But g w w') (j:Nat) (x:Value):But g w (w'.setCell ⟨g,j,none⟩ x) :=
 ⟨h.os,h.tape,h.output,by simpa using h.size,fun b hb hg=>(heap_setCell_other _ _ _ _ hg).trans (h.block b hb hg)⟩
end Go.Proofs.YtifconapjfdkcaaGreatDoor
