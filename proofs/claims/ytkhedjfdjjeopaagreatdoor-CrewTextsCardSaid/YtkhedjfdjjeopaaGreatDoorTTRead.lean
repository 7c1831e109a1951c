/-
  Contracts of timetable.readZone and timetable.readFlight.
  Condition: the reader's bytes are bytes.
-/
import Derived.Test.YtkhedjfdjjeopaaGreatDoorReader
import Derived.Test.YtkhedjfdjjeopaaGreatDoorCrc
import Derived.Test.YtkhedjfdjjeopaaGreatDoorTTDec
import Derived.Test.YtkhedjfdjjeopaaGreatDoorTTMem
import Derived.Test.YtkhedjfdjjeopaaGreatDoorStep
namespace Go.Proofs.YtkhedjfdjjeopaaGreatDoor
set_option linter.unusedSimpArgs false
set_option linter.unusedVariables false
open Go.RowKit

theorem elem_shift : Elem Tryz.prog 44 130 2 16 := ⟨Tryz.underlying44, by kernel_rfl⟩
def RZPost (g : Nat) (S : Nat → Prop) (w : World) (z : GZone) (rest : List Int) (bad : Bool) (e : Ending) (w' : World) : Prop :=
  ∃ v, e = .returned (.agg #[.string z.name, .int .i64 z.off, v]) ∧ Own Ty.shift 130 w' w.heap.size v z.shifts ∧ Rd w' g S rest bad ∧ But g w w'

theorem Own.but {α : Type} {t : Ty α} {e : TypeId} {w w' : World} {base g : Nat} {v : Value} {xs : List α} (h : Own t e w base v xs) (hb : But g w w') (hg : g < base) : Own t e w' base v xs :=
  h.frame hb.size fun b h1 h2 => hb.block b h2 (by omega)
theorem At.new (w : World) (cs : Array Value) (t : TypeId) : At (w.alloc (.cells cs t)) w.heap.size 0 cs.toList := fun j u hu => by
  rw [Nat.zero_add, World.cell?_alloc_at _ _ _ _ rfl]
  simpa using hu
theorem Rd.setFar {w : World} {g : Nat} {S : Nat → Prop} {rest : List Int} {bad : Bool} (h : Rd w g S rest bad) (hS : ∀ b, S b → b < g) {n q : Nat} (hg : g < n) (hq : n ≤ q) (j : Nat) (x : Value) : Rd (w.setCell ⟨q, j, none⟩ x) g S rest bad :=
  h.frame (fun b _ hb => heap_setCell_other _ _ _ _ (by
    show b ≠ q
    rcases hb with hb | rfl
    · have := hS b hb; omega
    · omega)) (by simp)
/-- What holds while a zone is read: its box zb, the result's box, the row of its shifts, the reader. -/
structure ZInv (w : World) (g : Nat) (S : Nat → Prop) (zb : Nat) (wr : World) (name : ByteArray) (off : Int) (v : Value) (xs : List GShift) (r : List Int) (b : Bool) : Prop where
  z : wr.heap[zb]? = some (.cells #[.string name, .int .i64 off, v] 46 (0, 0))
  res : wr.heap[w.heap.size]? = some (.cells #[.string ⟨#[]⟩, .int .i64 0, .slice none 0 0] 46 (0, 0))
  own : Own Ty.shift 130 wr (zb + 1) v xs
  rd : Rd wr g S r b
  but : But g w wr
  lt : w.heap.size < zb
theorem ZInv.gz {w : World} {g : Nat} {S : Nat → Prop} {zb : Nat} {wr : World} {name : ByteArray} {off : Int} {v : Value} {xs : List GShift} {r : List Int} {b : Bool} (h : ZInv w g S zb wr name off v xs r b) (hg : g < w.heap.size) : g < zb := Nat.lt_trans hg h.lt
theorem ZInv.zb6 {w : World} {g : Nat} {S : Nat → Prop} {zb : Nat} {wr w5 w6 : World} {name : ByteArray} {off : Int} {v : Value} {xs : List GShift} {r : List Int} {b : Bool} {o : Obj} (h : ZInv w g S zb wr name off v xs r b) (hg : g < w.heap.size)
    (hb : But g wr w5) (hgr : (w5.alloc o).grownBy w6 v.ownBlock) : w6.heap[zb]? = some (.cells #[.string name, .int .i64 off, v] 46 (0, 0)) := by
  have h1 := h.gz hg
  have h2 : zb < wr.heap.size := (Array.getElem?_eq_some_iff.1 h.z).1
  have h3 := hb.size
  rw [hgr.block zb (by simp; omega) (fun e => by have := (h.own.lt zb e.symm).1; omega), Below.heap_alloc _ _ _ (by omega), hb.block zb h2 (by omega)]
  exact h.z
theorem ZInv.step {w : World} {g : Nat} {S : Nat → Prop} {zb : Nat} {wr w5 w6 : World} {name : ByteArray} {off : Int} {v v' : Value} {xs xs' : List GShift} {r r' : List Int} {b b' : Bool} {o : Obj} (h : ZInv w g S zb wr name off v xs r b) (hg : g < w.heap.size) (hS : ∀ b, S b → b < g)
    (hb : But g wr w5) (hr : Rd w5 g S r' b') (hgr : (w5.alloc o).grownBy w6 v.ownBlock) (hown : Own Ty.shift 130 w6 (zb + 1) v' xs') : ZInv w g S zb (w6.setCell ⟨zb, 2, none⟩ v') name off v' xs' r' b' := by
  have h1 := h.gz hg
  have h2 : zb < wr.heap.size := (Array.getElem?_eq_some_iff.1 h.z).1
  have h3 := hb.size
  have h4 := h.lt
  have h5 := hgr.size
  simp only [World.size_alloc] at h5
  have hrow : ∀ k, v.ownBlock = some k → zb + 1 ≤ k := fun k hk => (h.own.lt k hk).1
  have hkeep : ∀ q, q < w5.heap.size → q ≤ zb → w6.heap[q]? = w5.heap[q]? := fun q hq hz => by
    rw [hgr.block q (by simp; omega) (fun e => by have := hrow q e.symm; omega), Below.heap_alloc _ _ _ hq]
  refine ⟨?_, ?_, hown.setCell (Nat.lt_succ_self _) _, ?_, ?_, h.lt⟩
  · have := heap_setCell_same w6 zb 2 _ _ v' (h.zb6 hg hb hgr)
    simpa using this
  · rw [heap_setCell_other _ _ _ _ (by simp; omega), hkeep _ (by omega) (by omega), hb.block _ (by omega) (by omega)]
    exact h.res
  · refine hr.frame (fun q hq hSq => ?_) (by simp; omega)
    have hqg : q ≤ g := by
      rcases hSq with hs | rfl
      · exact Nat.le_of_lt (hS q hs)
      · exact Nat.le_refl _
    rw [heap_setCell_other _ _ _ _ (by simp; omega), hkeep q hq (by omega)]
  · exact (((h.but.trans hb).alloc o).grown hgr (fun k hk => by have := hrow k hk; omega)).setFar (by omega) 2 v'
end Go.Proofs.YtkhedjfdjjeopaaGreatDoor
