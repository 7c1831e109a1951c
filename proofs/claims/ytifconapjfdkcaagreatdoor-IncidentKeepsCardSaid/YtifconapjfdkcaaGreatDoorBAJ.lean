/-
  Contracts of pairingbase.Zones and pairingbase.Airports, of the example of pairinglaw9.
  No condition.
-/
import Derived.Test.YtifconapjfdkcaaGreatDoorBAF
import Derived.Test.YtifconapjfdkcaaGreatDoorBAI
import Derived.Deep.RegionWith
namespace Go.Proofs.YtifconapjfdkcaaGreatDoor
set_option linter.unusedSimpArgs false
set_option linter.unusedVariables false
open Go.RowKit
theorem Sl.block {α : Type} {t:Ty α} {w:World} {S:Nat→Prop} {b:Nat} {cs:Array Value} {T:TypeId} {xs:List α} (h:w.heap[b]? = some (.cells cs T (0,0))) (hS:S b) (hl:xs.length≤maxLen)
 (hx : ∀ i x,xs[i]? = some x→t.rep w S ((cs.toList.drop (i*t.size)).take t.size) x):Sl t w S (some ⟨b,0,none⟩) xs.length xs.length xs:=by
 refine ⟨rfl,Nat.le_refl _,hl,fun _=>⟨b,0,rfl,hS,fun i x hi=>⟨_,hx i x hi,fun j u hu =>?_⟩⟩⟩
 rw [block_cell h]
 rw [List.getElem?_take] at hu
 split at hu
 ·rw [List.getElem?_drop] at hu
  rw [Nat.zero_add]
  simpa using hu
 ·cases hu
end Go.Proofs.YtifconapjfdkcaaGreatDoor
