/-
  A writer made in a call, and the boxes that a writer's call keeps.
  No condition.
-/
import Derived.Test.YtldeoaddogifpaaGreatDoorWriter
namespace Go.Proofs.YtldeoaddogifpaaGreatDoor
set_option linter.unusedSimpArgs false
set_option linter.unusedVariables false
open Go.RowKit

/-- A box in block b holds the cells cs, and is no part of the writer's row v. -/
structure Bx (w : World) (v : Value) (b : Nat) (cs : List Value) : Prop where
  at_ : ∀ j u, cs[j]? = some u → w.cell? ⟨b, j, none⟩ = some u
  ne : some b ≠ v.ownBlock
  lt : b < w.heap.size
theorem Bx.chg {w w' : World} {v v' : Value} {b g : Nat} {cs : List Value} (h : Bx w v b cs) (hc : Chg g v w v' w') (hg : b ≠ g) : Bx w' v' b cs :=
  ⟨fun j u hu => hc.cell (h.at_ j u hu) hg h.ne, fun e => by
    rcases hc.row b e.symm with h1 | h1
    · exact h.ne h1.symm
    · have := h.lt; omega, Nat.lt_of_lt_of_le h.lt hc.size⟩
theorem Bx.below {w w' : World} {v : Value} {b : Nat} {cs : List Value} (h : Bx w v b cs) (hb : Below w.heap.size w w') : Bx w' v b cs :=
  ⟨fun j u hu => cell_kept (h.at_ j u hu) hb, h.ne, Nat.lt_of_lt_of_le h.lt hb.size⟩
/-- The writer in block g, made in the world w0 (of g blocks), holds the bytes bs in the row v; nothing that w0 had has changed. -/
structure WS (g : Nat) (w0 w : World) (v : Value) (bs : List Int) : Prop where
  wr : Wr w g (g + 1) v bs
  bel : Below g w0 w
theorem WS.hb {g : Nat} {w0 w : World} {v : Value} {bs : List Int} (h : WS g w0 w v bs) : g + 1 ≤ w.heap.size := h.wr.lt
theorem WS.own_lt {g : Nat} {w0 w : World} {v : Value} {bs : List Int} (h : WS g w0 w v bs) : ∀ k, v.ownBlock = some k → g + 1 ≤ k ∧ k < w.heap.size := h.wr.own.lt
theorem WS.chg {g : Nat} {w0 w w' : World} {v v' : Value} {bs bs' : List Int} (h : WS g w0 w v bs) (hw : Wr w' g (g + 1) v' bs') (hc : Chg g v w v' w') : WS g w0 w' v' bs' :=
  ⟨hw, hc.below h.bel (by have := h.hb; omega) (Nat.le_refl _) fun k hk => by have := (h.own_lt k hk).1; omega⟩
theorem WS.next {g : Nat} {w0 w w' : World} {v : Value} {bs : List Int} (h : WS g w0 w v bs) (hb : Below w.heap.size w w') : WS g w0 w' v bs :=
  ⟨h.wr.next hb, h.bel.trans (hb.mono (by have := h.hb; omega))⟩
theorem WS.alloc {g : Nat} {w0 w : World} {v : Value} {bs : List Int} (h : WS g w0 w v bs) (o : Obj) : WS g w0 (w.alloc o) v bs := h.next ((Below.refl _ _).alloc (Nat.le_refl _) o)
theorem WS.box {g : Nat} {w0 w : World} {v : Value} {bs : List Int} (h : WS g w0 w v bs) (cs : Array Value) (t : TypeId) : Bx (w.alloc (.cells cs t)) v w.heap.size cs.toList :=
  ⟨fun j u hu => by rw [World.cell?_alloc_at _ _ _ _ rfl]; simpa using hu, fun e => by have := (h.own_lt _ e.symm).2; omega, by simp⟩
def WPost (g : Nat) (w0 w : World) (v : Value) (bs : List Int) (e : Ending) (w' : World) : Prop := ∃ x v', e = .returned x ∧ WS g w0 w' v' bs ∧ Chg g v w v' w'
theorem wUint {g : Nat} {w0 w : World} {v : Value} {bs : List Int} (n : Int) (h : WS g w0 w v bs) (hl : bs.length < 900000000) (h0 : 0 ≤ n) (h1 : n ≤ 4611686018427387904) :
    Calls Tryz.prog 41 #[.pointer (some ⟨g, 0, none⟩), .int .i64 n] w (WPost g w0 w v (bs ++ uvar n)) :=
  (writerUint_any g (g + 1) v bs n w h.wr hl h.hb h0 h1).mono fun _ _ ⟨x, v', he, h2, h3⟩ => ⟨x, v', he, h.chg h2 h3, h3⟩
theorem wInt {g : Nat} {w0 w : World} {v : Value} {bs : List Int} (n : Int) (h : WS g w0 w v bs) (hl : bs.length < 900000000) (h0 : -2305843009213693952 ≤ n) (h1 : n ≤ 2305843009213693952) :
    Calls Tryz.prog 43 #[.pointer (some ⟨g, 0, none⟩), .int .i64 n] w (WPost g w0 w v (bs ++ uvar (zig n))) :=
  (writerInt_any g (g + 1) v bs n w h.wr hl h.hb h0 h1).mono fun _ _ ⟨x, v', he, h2, h3⟩ => ⟨x, v', he, h.chg h2 h3, h3⟩
theorem wText {g : Nat} {w0 w : World} {v : Value} {bs : List Int} (s : ByteArray) (h : WS g w0 w v bs) (hl : bs.length < 900000000) (h1 : s.size ≤ 20000) :
    Calls Tryz.prog 42 #[.pointer (some ⟨g, 0, none⟩), .string s] w (WPost g w0 w v (bs ++ textB s)) :=
  (writerText_any g (g + 1) v bs s w h.wr hl h.hb h1).mono fun _ _ ⟨x, v', he, h2, h3⟩ => ⟨x, v', he, h.chg h2 h3, h3⟩
end Go.Proofs.YtldeoaddogifpaaGreatDoor
