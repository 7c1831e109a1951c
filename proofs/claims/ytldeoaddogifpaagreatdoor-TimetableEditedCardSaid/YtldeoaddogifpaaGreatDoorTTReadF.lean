/-
  Contract of timetable.readFlight.
  Condition: the reader's bytes are bytes.
-/
import Derived.Test.YtldeoaddogifpaaGreatDoorTTRead
namespace Go.Proofs.YtldeoaddogifpaaGreatDoor
set_option linter.unusedSimpArgs false
set_option linter.unusedVariables false
open Go.RowKit

def RFPost (g : Nat) (S : Nat → Prop) (w : World) (f : GFlight) (rest : List Int) (bad : Bool) (e : Ending) (w' : World) : Prop :=
  e = .returned (.agg #[.string f.number, .string f.src, .string f.dst, .int .i64 f.dep, .int .i64 f.arr, .string f.kind, .int .i64 f.n0, .int .i64 f.n1, .int .i64 f.n2]) ∧ Rd w' g S rest bad ∧ But g w w'
def fCells (a b c : ByteArray) (d e : Int) (k : ByteArray) (n : Int × Int × Int) : Array Value := #[.string a, .string b, .string c, .int .i64 d, .int .i64 e, .string k, .int .i64 n.1, .int .i64 n.2.1, .int .i64 n.2.2]
/-- The three needs after j readings. -/
def need3 (x : Int) (n : Int × Int × Int) : Nat → Int × Int × Int
  | 0 => (x, n.2)
  | 1 => (n.1, x, n.2.2)
  | _ => (n.1, n.2.1, x)
def needSt (s : List Int) (b : Bool) : Nat → (Int × Int × Int) × List Int × Bool
  | 0 => ((0, 0, 0), s, b)
  | j + 1 => (need3 (rdU (needSt s b j).2.1 (needSt s b j).2.2).1 (needSt s b j).1 j, (rdU (needSt s b j).2.1 (needSt s b j).2.2).2)
theorem fCells_set (a b c : ByteArray) (d e : Int) (k : ByteArray) (n : Int × Int × Int) (x : Int) (j : Nat) (h : j < 3) : (fCells a b c d e k n).setIfInBounds (6 + j) (.int .i64 x) = fCells a b c d e k (need3 x n j) := by
  have : j = 0 ∨ j = 1 ∨ j = 2 := by omega
  rcases this with rfl | rfl | rfl <;> rfl
theorem fCells_get (a b c : ByteArray) (d e : Int) (k : ByteArray) (n : Int × Int × Int) (j : Nat) (h : j < 3) : ∃ y, (fCells a b c d e k n)[6 + j]? = some (.int .i64 y) := by
  have : j = 0 ∨ j = 1 ∨ j = 2 := by omega
  rcases this with rfl | rfl | rfl <;> exact ⟨_, rfl⟩
/-- What holds while a flight is read. -/
structure FInv (w : World) (g : Nat) (S : Nat → Prop) (fb : Nat) (wr : World) (cs : Array Value) (r : List Int) (b : Bool) : Prop where
  f : wr.heap[fb]? = some (.cells cs 47 (0, 0))
  res : wr.heap[w.heap.size]? = some (.cells (fCells ⟨#[]⟩ ⟨#[]⟩ ⟨#[]⟩ 0 0 ⟨#[]⟩ (0, 0, 0)) 47 (0, 0))
  rd : Rd wr g S r b
  but : But g w wr
  lt : w.heap.size < fb
theorem FInv.step {w : World} {g : Nat} {S : Nat → Prop} {fb : Nat} {wr w5 : World} {cs : Array Value} {r r' : List Int} {b b' : Bool} (h : FInv w g S fb wr cs r b) (hg : g < w.heap.size) (hS : ∀ b, S b → b < g)
    (hb : But g wr w5) (hr : Rd w5 g S r' b') (j : Nat) (x : Value) : FInv w g S fb (w5.setCell ⟨fb, j, none⟩ x) (cs.setIfInBounds j x) r' b' := by
  have h2 : fb < wr.heap.size := (Array.getElem?_eq_some_iff.1 h.f).1
  have h4 := h.lt
  refine ⟨?_, ?_, hr.setFar hS hg (Nat.le_of_lt h4) _ _, (h.but.trans hb).setFar (by omega) _ _, h.lt⟩
  · exact heap_setCell_same _ _ _ _ _ _ ((hb.block fb h2 (by omega)).trans h.f)
  · rw [heap_setCell_other _ _ _ _ (by simp; omega), hb.block _ (by omega) (by omega)]
    exact h.res
theorem FInv.cell5 {w : World} {g : Nat} {S : Nat → Prop} {fb : Nat} {wr w5 : World} {cs : Array Value} {r : List Int} {b : Bool} (h : FInv w g S fb wr cs r b) (hg : g < w.heap.size) (hb : But g wr w5) : w5.heap[fb]? = some (.cells cs 47 (0, 0)) := by
  have h2 : fb < wr.heap.size := (Array.getElem?_eq_some_iff.1 h.f).1
  have h4 := h.lt
  exact (hb.block fb h2 (by omega)).trans h.f

set_option maxRecDepth 100000 in
set_option maxHeartbeats 400000 in
theorem readFlight_any (g : Nat) (S : Nat → Prop) (rest : List Int) (bad : Bool) (w : World) (h : Rd w g S rest bad) (hS : ∀ b, S b → b < g) :
    Calls Tryz.prog 49 #[.pointer (some ⟨g, 0, none⟩)] w (RFPost g S w (rdFlight rest bad).1 (rdFlight rest bad).2.1 (rdFlight rest bad).2.2) := by
  have hg := h.glt
  have h0 := h.next ((Below.refl _ _).alloc (Nat.le_refl _) (.cells #[.string ⟨#[]⟩, .string ⟨#[]⟩, .string ⟨#[]⟩, .int .i64 0, .int .i64 0, .string ⟨#[]⟩, .int .i64 0, .int .i64 0, .int .i64 0] 47))
  have hbt0 := (But.refl g w).alloc (.cells #[.string ⟨#[]⟩, .string ⟨#[]⟩, .string ⟨#[]⟩, .int .i64 0, .int .i64 0, .string ⟨#[]⟩, .int .i64 0, .int .i64 0, .int .i64 0] 47)
  have hr0 : (w.alloc (.cells #[.string ⟨#[]⟩, .string ⟨#[]⟩, .string ⟨#[]⟩, .int .i64 0, .int .i64 0, .string ⟨#[]⟩, .int .i64 0, .int .i64 0, .int .i64 0] 47)).heap[w.heap.size]? = some (.cells (fCells ⟨#[]⟩ ⟨#[]⟩ ⟨#[]⟩ 0 0 ⟨#[]⟩ (0, 0, 0)) 47 (0, 0)) := heap_alloc_new _ _
  have hz0 : w.heap.size + 1 ≤ (w.alloc (.cells #[.string ⟨#[]⟩, .string ⟨#[]⟩, .string ⟨#[]⟩, .int .i64 0, .int .i64 0, .string ⟨#[]⟩, .int .i64 0, .int .i64 0, .int .i64 0] 47)).heap.size := by simp
  have HFL : Hid (rdFlight rest bad = (let t1 := rdT rest bad
    let t2 := rdT t1.2.1 t1.2.2
    let t3 := rdT t2.2.1 t2.2.2
    let u1 := rdU t3.2.1 t3.2.2
    let u2 := rdU u1.2.1 u1.2.2
    let t4 := rdT u2.2.1 u2.2.2
    let n := needSt t4.2.1 t4.2.2 3
    (⟨t1.1, t2.1, t3.1, u1.1, u2.1, t4.1, n.1.1, n.1.2.1, n.1.2.2⟩, n.2.1, n.2.2))) := by
    show _ = _
    unfold rdFlight
    simp only [needSt, need3]
  have HR0 := Lib.hid hr0; have H0 := Lib.hid h0; have HB0 := Lib.hid hbt0; have HZ0 := Lib.hid hz0
  clear h h0 hbt0 hr0 hz0
  go_enter Tryz.func49, Tryz.ntmps49
  go_wp2_with fail
  generalize w.alloc (.cells #[.string ⟨#[]⟩, .string ⟨#[]⟩, .string ⟨#[]⟩, .int .i64 0, .int .i64 0, .string ⟨#[]⟩, .int .i64 0, .int .i64 0, .int .i64 0] 47) = W at *
  refine (readerText_any g S rest bad W H0.out).mono ?_
  rintro e w1 ⟨rfl, hr1, hb1⟩
  generalize rdT rest bad = t1 at *
  go_wp2_with fail
  refine (readerText_any g S t1.2.1 t1.2.2 w1 hr1).mono ?_
  rintro e w2 ⟨rfl, hr2, hb2⟩
  generalize rdT t1.2.1 t1.2.2 = t2 at *
  go_wp2_with fail
  refine (readerText_any g S t2.2.1 t2.2.2 w2 hr2).mono ?_
  rintro e w3 ⟨rfl, hr3, hb3⟩
  generalize rdT t2.2.1 t2.2.2 = t3 at *
  go_wp2_with fail
  refine (readerUint_any g S t3.2.1 t3.2.2 w3 hr3).mono ?_
  rintro e w4 ⟨rfl, hr4, hb4⟩
  generalize rdU t3.2.1 t3.2.2 = u1 at *
  go_wp2_with fail
  refine (readerUint_any g S u1.2.1 u1.2.2 w4 hr4).mono ?_
  rintro e w5 ⟨rfl, hr5, hb5⟩
  generalize rdU u1.2.1 u1.2.2 = u2 at *
  go_wp2_with fail
  refine (readerText_any g S u2.2.1 u2.2.2 w5 hr5).mono ?_
  rintro e w6 ⟨rfl, hr6, hb6⟩
  generalize rdT u2.2.1 u2.2.2 = t4 at *
  have hbt : But g W w6 := ((((hb1.trans hb2).trans hb3).trans hb4).trans hb5).trans hb6
  have hW2 : w.heap.size + 1 ≤ w6.heap.size := Nat.le_trans HZ0.out hbt.size
  have HINV : Hid (FInv w g S w6.heap.size (w6.alloc (.cells #[.string t1.1, .string t2.1, .string t3.1, .int .i64 u1.1, .int .i64 u2.1, .string t4.1, .int .i64 0, .int .i64 0, .int .i64 0] 47)) (fCells t1.1 t2.1 t3.1 u1.1 u2.1 t4.1 (needSt t4.2.1 t4.2.2 0).1) (needSt t4.2.1 t4.2.2 0).2.1 (needSt t4.2.1 t4.2.2 0).2.2) := by
    refine ⟨heap_alloc_new _ _, ?_, hr6.next ((Below.refl _ _).alloc (Nat.le_refl _) _), (HB0.out.trans hbt).alloc _, by omega⟩
    rw [Below.heap_alloc _ _ _ (by omega), hbt.block _ (by have := HZ0.out; omega) (by omega)]
    exact HR0.out
  clear HR0 H0 HB0 HZ0 hr1 hb1 hb2 hb3 hb4 hb5 hb6 hr2 hr3 hr4 hr5 hr6 hbt
  go_wp2_with fail
  generalize w6.alloc (.cells #[.string t1.1, .string t2.1, .string t3.1, .int .i64 u1.1, .int .i64 u2.1, .string t4.1, .int .i64 0, .int .i64 0, .int .i64 0] 47) = W6 at *
  generalize w6.heap.size = fb at *
  go_loopw [18] (fun i wr => ∃ (j : Nat), j ≤ 3 ∧ i = .int .i64 j ∧ FInv w g S fb wr (fCells t1.1 t2.1 t3.1 u1.1 u2.1 t4.1 (needSt t4.2.1 t4.2.2 j).1) (needSt t4.2.1 t4.2.2 j).2.1 (needSt t4.2.1 t4.2.2 j).2.2) (fun i _ => 3 - (intOf i).toNat)
  case atStart => exact ⟨0, Nat.zero_le _, rfl, HINV.out⟩
  case round =>
    obtain ⟨j, hj, rfl, hinv⟩ := hrel
    clear HINV
    by_cases hlt : j < 3
    · have HSN : Hid (needSt t4.2.1 t4.2.2 (j + 1) = (need3 (rdU (needSt t4.2.1 t4.2.2 j).2.1 (needSt t4.2.1 t4.2.2 j).2.2).1 (needSt t4.2.1 t4.2.2 j).1 j, (rdU (needSt t4.2.1 t4.2.2 j).2.1 (needSt t4.2.1 t4.2.2 j).2.2).2)) := rfl
      generalize needSt t4.2.1 t4.2.2 j = q at *
      obtain ⟨nn, r, b⟩ := q
      simp only at hinv HSN
      have HI := Lib.hid hinv
      clear hinv
      go_wp2_with fail
      refine (readerUint_any g S r b wr HI.out.rd).mono ?_
      rintro e w7 ⟨rfl, hr7, hb7⟩
      generalize rdU r b = u at *
      have hz7 := HI.out.cell5 hg hb7
      have hst := HI.out.step hg hS hb7 hr7 (6 + j) (.int .i64 u.1)
      rw [fCells_set _ _ _ _ _ _ _ _ _ hlt] at hst
      have HST := Lib.hid hst
      obtain ⟨y, hy⟩ := fCells_get t1.1 t2.1 t3.1 u1.1 u2.1 t4.1 nn j hlt
      have hc7 : w7.cell? ⟨fb, 6 + j, none⟩ = some (.int .i64 y) := (block_cell hz7 _).trans hy
      have hf7 : w7.frozen? ⟨fb, 6 + j, none⟩ = false := block_free hz7 _
      clear hz7 hst hy
      go_wp2_with fail
      go_roundw
      case rel => exact ⟨j + 1, by omega, by go_num, by rw [HSN.out]; exact HST.out⟩
      case measure => simp [intOf]; omega
    · have hj3 : j = 3 := by omega
      subst hj3
      try simp only at HFL
      generalize needSt t4.2.1 t4.2.2 3 = nn at *
      obtain ⟨⟨m0, m1, m2⟩, r, b⟩ := nn
      try simp only at HFL
      try simp only at hinv
      have y := fun j => block_cell hinv.f j
      have z := fun j => block_cell hinv.res j
      have fz := fun j => block_free hinv.res j
      unfold fCells at y z
      have y0 := y 0; have y1 := y 1; have y2 := y 2; have y3 := y 3; have y4 := y 4; have y5 := y 5; have y6 := y 6; have y7 := y 7; have y8 := y 8
      have z0 := z 0; have z1 := z 1; have z2 := z 2; have z3 := z 3; have z4 := z 4; have z5 := z 5; have z6 := z 6; have z7 := z 7; have z8 := z 8
      have f0 := fz 0; have f1 := fz 1; have f2 := fz 2; have f3 := fz 3; have f4 := fz 4; have f5 := fz 5; have f6 := fz 6; have f7 := fz 7; have f8 := fz 8
      have HI := Lib.hid hinv
      clear y z fz hinv
      go_wp2_with fail
      refine bodyPost_ret (v := .agg #[.string t1.1, .string t2.1, .string t3.1, .int .i64 u1.1, .int .i64 u2.1, .string t4.1, .int .i64 m0, .int .i64 m1, .int .i64 m2]) (by simp [results, Tryz.results49, go_sem, z0, z1, z2, z3, z4, z5, z6, z7, z8]) rfl ⟨by rw [HFL.out], ?_, ?_⟩
      · rw [HFL.out]
        repeat' refine Rd.setFar ?_ hS hg (Nat.le_refl _) _ _
        exact HI.out.rd
      · repeat' refine But.setFar ?_ (Nat.le_refl _) _ _
        exact HI.out.but
end Go.Proofs.YtldeoaddogifpaaGreatDoor
