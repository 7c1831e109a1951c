/-
  Contracts of codec.Reader: Uint, Int, Text, Fail, Count, CountTo, Done.
  Condition: the reader's bytes are bytes.
-/
import Derived.Test.YtldeoaddogifpaaGreatDoorDecText
import Derived.BigQuiet
import Derived.Deep.QuietTactic
namespace Go.Proofs.YtldeoaddogifpaaGreatDoor
set_option linter.unusedSimpArgs false
set_option linter.unusedVariables false
open Go.RowKit

/-- Only block g of w may have changed. -/
structure But (g : Nat) (w w' : World) : Prop where
  os : w'.os = w.os
  tape : w'.tape = w.tape
  output : w'.output = w.output
  size : w.heap.size ≤ w'.heap.size
  block : ∀ b, b < w.heap.size → b ≠ g → w'.heap[b]? = w.heap[b]?
theorem But.refl (g : Nat) (w : World) : But g w w := ⟨rfl, rfl, rfl, Nat.le_refl _, fun _ _ _ => rfl⟩
theorem But.trans {g : Nat} {w w' w'' : World} (h : But g w w') (h' : But g w' w'') : But g w w'' :=
  ⟨h'.os.trans h.os, h'.tape.trans h.tape, h'.output.trans h.output, Nat.le_trans h.size h'.size, fun b hb hg => (h'.block b (Nat.lt_of_lt_of_le hb h.size) hg).trans (h.block b hb hg)⟩
theorem But.setCell {g : Nat} {w w' : World} (h : But g w w') (j : Nat) (x : Value) : But g w (w'.setCell ⟨g, j, none⟩ x) :=
  ⟨h.os, h.tape, h.output, by simpa using h.size, fun b hb hg => (heap_setCell_other _ _ _ _ hg).trans (h.block b hb hg)⟩
theorem But.of_below {g : Nat} {w w' w'' : World} (h : But g w w') (hb : Below w'.heap.size w' w'') : But g w w'' :=
  h.trans ⟨hb.os, hb.tape, hb.output, hb.size, fun b hl _ => hb.block b hl⟩
theorem But.far {g : Nat} {w w' w'' : World} (h : But g w w') (h1 : w''.os = w'.os) (h2 : w''.tape = w'.tape) (h3 : w''.output = w'.output) (h4 : w'.heap.size ≤ w''.heap.size) (h5 : ∀ b, b < w.heap.size → w''.heap[b]? = w'.heap[b]?) : But g w w'' :=
  ⟨h1.trans h.os, h2.trans h.tape, h3.trans h.output, Nat.le_trans h.size h4, fun b hb hg => (h5 b hb).trans (h.block b hb hg)⟩
theorem But.grown {g : Nat} {w w' w'' : World} {row : Option Nat} (h : But g w w') (hg : w'.grownBy w'' row) (hr : ∀ k, row = some k → w.heap.size ≤ k) : But g w w'' :=
  h.far hg.os hg.tape hg.output hg.size fun b hb => hg.block b (Nat.lt_of_lt_of_le hb h.size) fun e => by have := hr b e.symm; omega
theorem But.setFar {g : Nat} {w w' : World} (h : But g w w') {b : Nat} (hb : w.heap.size ≤ b) (j : Nat) (x : Value) : But g w (w'.setCell ⟨b, j, none⟩ x) :=
  h.far rfl rfl rfl (by simp) fun k hk => heap_setCell_other _ _ _ _ (show k ≠ b by omega)
theorem But.alloc {g : Nat} {w w' : World} (h : But g w w') (o : Obj) : But g w (w'.alloc o) := h.of_below ((Below.refl _ _).alloc (Nat.le_refl _) o)
theorem But.drewN {g : Nat} {w w' : World} (h : But g w w') (n : Nat) : But g w (w'.drewN n) := h.far rfl rfl rfl (Nat.le_refl _) fun _ _ => rfl
theorem But.below {g B : Nat} {W w w' : World} (h : But g w w') (hb : Below B W w) (hB : B ≤ w.heap.size) (hg : B ≤ g) : Below B W w' :=
  ⟨h.os.trans hb.os, h.tape.trans hb.tape, h.output.trans hb.output, Nat.le_trans hb.size h.size, fun b hb' => (h.block b (by omega) (by omega)).trans (hb.block b hb')⟩
theorem But.cell {g : Nat} {w w' : World} (h : But g w w') {a : Addr} {u : Value} (hc : w.cell? a = some u) (hg : a.block ≠ g) : w'.cell? a = some u :=
  (World.cell?_of_block (h.block a.block (World.block_lt_of_cell? w a hc) hg)).trans hc

/-- The reader in block g: what is left, and whether something was bad. -/
structure Rd (w : World) (g : Nat) (S : Nat → Prop) (rest : List Int) (bad : Bool) : Prop where
  c0 : ∃ A n c, w.cell? ⟨g, 0, none⟩ = some (.slice A n c) ∧ Sl (Ty.int .u8) w S A n c rest
  c1 : w.cell? ⟨g, 1, none⟩ = some (.bool bad)
  fz : ∀ j, w.frozen? ⟨g, j, none⟩ = false
  by_ : ∀ x ∈ rest, isByte x
  ns : ¬ S g
  lt : ∀ b, S b → b < w.heap.size
theorem Rd.frame {w w' : World} {g : Nat} {S : Nat → Prop} {rest : List Int} {bad : Bool} (h : Rd w g S rest bad) (hk : ∀ b, b < w.heap.size → (S b ∨ b = g) → w'.heap[b]? = w.heap[b]?) (hs : w.heap.size ≤ w'.heap.size) : Rd w' g S rest bad := by
  obtain ⟨A, n, c, h0, hsl⟩ := h.c0
  have hg : g < w.heap.size := World.block_lt_of_cell? w ⟨g, 0, none⟩ h0
  have hgg := hk g hg (.inr rfl)
  exact ⟨⟨A, n, c, (cell_keep hgg 0).trans h0, hsl.keep fun b hb => hk b (h.lt b hb) (.inl hb)⟩, (cell_keep hgg 1).trans h.c1, fun j => (frozen_keep hgg j).trans (h.fz j), h.by_, h.ns, fun b hb => Nat.lt_of_lt_of_le (h.lt b hb) hs⟩
theorem Rd.but {w w' : World} {g : Nat} {S : Nat → Prop} {rest : List Int} {bad : Bool} (h : Rd w g S rest bad) (hk : ∀ b, b < w.heap.size → w'.heap[b]? = w.heap[b]?) (hs : w.heap.size ≤ w'.heap.size) : Rd w' g S rest bad := by
  obtain ⟨A, n, c, h0, hsl⟩ := h.c0
  have hg : g < w.heap.size := World.block_lt_of_cell? w ⟨g, 0, none⟩ h0
  exact ⟨⟨A, n, c, (cell_keep (hk g hg) 0).trans h0, hsl.keep fun b hb => hk b (h.lt b hb)⟩, (cell_keep (hk g hg) 1).trans h.c1, fun j => (frozen_keep (hk g hg) j).trans (h.fz j), h.by_, h.ns, fun b hb => Nat.lt_of_lt_of_le (h.lt b hb) hs⟩
theorem Rd.next {w w' : World} {g : Nat} {S : Nat → Prop} {rest : List Int} {bad : Bool} (h : Rd w g S rest bad) (hb : Below w.heap.size w w') : Rd w' g S rest bad := h.but hb.block hb.size
theorem Rd.glt {w : World} {g : Nat} {S : Nat → Prop} {rest : List Int} {bad : Bool} (h : Rd w g S rest bad) : g < w.heap.size := World.block_lt_of_cell? w ⟨g, 1, none⟩ h.c1
theorem Rd.put {w : World} {g : Nat} {S : Nat → Prop} {rest rest' : List Int} {bad : Bool} (h : Rd w g S rest bad) {A : Option Addr} {n c : Nat} (hsl : Sl (Ty.int .u8) w S A n c rest') (hby : ∀ x ∈ rest', isByte x) : Rd (w.setCell ⟨g, 0, none⟩ (.slice A n c)) g S rest' bad := by
  obtain ⟨A0, n0, c0, h0, _⟩ := h.c0
  refine ⟨⟨A, n, c, cell?_setCell_eq _ _ _ _ h0, hsl.keep fun b hb => heap_setCell_other _ _ _ _ fun e => h.ns ((show b = g from e) ▸ hb)⟩, ?_, fun j => by rw [frozen_set]; exact h.fz j, hby, h.ns, fun b hb => by simpa using h.lt b hb⟩
  rw [cell?_setCell_ne _ _ _ _ (by simp)]
  exact h.c1
theorem Rd.fail {w : World} {g : Nat} {S : Nat → Prop} {rest : List Int} {bad : Bool} (h : Rd w g S rest bad) : Rd ((w.setCell ⟨g, 1, none⟩ (.bool true)).setCell ⟨g, 0, none⟩ (.slice none 0 0)) g S [] true := by
  obtain ⟨A0, n0, c0, h0, hsl⟩ := h.c0
  have h1 : Rd (w.setCell ⟨g, 1, none⟩ (.bool true)) g S rest true := by
    refine ⟨⟨A0, n0, c0, ?_, hsl.keep fun b hb => heap_setCell_other _ _ _ _ fun e => h.ns ((show b = g from e) ▸ hb)⟩, cell?_setCell_eq _ _ _ _ h.c1, fun j => by rw [frozen_set]; exact h.fz j, h.by_, h.ns, fun b hb => by simpa using h.lt b hb⟩
    rw [cell?_setCell_ne _ _ _ _ (by simp)]
    exact h0
  exact h1.put Sl.nil0 (fun x hx => by cases hx)

def RPost (g : Nat) (S : Nat → Prop) (w : World) (v : Value) (rest : List Int) (bad : Bool) (e : Ending) (w' : World) : Prop := e = .returned v ∧ Rd w' g S rest bad ∧ But g w w'
def RPostU (g : Nat) (S : Nat → Prop) (w : World) (rest : List Int) (bad : Bool) (e : Ending) (w' : World) : Prop := ∃ v, e = .returned v ∧ Rd w' g S rest bad ∧ But g w w'

theorem readerFail_any (g : Nat) (S : Nat → Prop) (rest : List Int) (bad : Bool) (w : World) (h : Rd w g S rest bad) :
    Calls Tryz.prog 84 #[.pointer (some ⟨g, 0, none⟩)] w (RPostU g S w [] true) := by
  obtain ⟨A0, n0, c0, h0, hsl⟩ := h.c0
  have h1 := h.c1
  have f0 := h.fz 0; have f1 := h.fz 1
  have HF := Lib.hid h.fail
  have HB := Lib.hid (((But.refl g w).setCell 1 (.bool true)).setCell 0 (.slice none 0 0))
  clear h hsl
  go_enter Tryz.func84, Tryz.ntmps84
  go_wp2_with fail
  go_end0
  exact ⟨_, rfl, HF.out, HB.out⟩
theorem readerTake_bad (g : Nat) (S : Nat → Prop) (rest : List Int) (bad : Bool) (used e : Int) (w : World) (h : Rd w g S rest bad) (he : e ≠ 0) :
    Calls Tryz.prog 88 #[.pointer (some ⟨g, 0, none⟩), .int .i64 used, .int .i64 e] w (RPostU g S w [] true) := by
  obtain ⟨A0, n0, c0, h0, hsl⟩ := h.c0
  have h1 := h.c1
  have f0 := h.fz 0; have f1 := h.fz 1
  have HF := Lib.hid h.fail
  have HB := Lib.hid (((But.refl g w).setCell 1 (.bool true)).setCell 0 (.slice none 0 0))
  have he' : (e != 0) = true := by simpa using he
  clear h hsl he
  go_enter Tryz.func88, Tryz.ntmps88
  go_wp2_with fail
  go_end0
  exact ⟨_, rfl, HF.out, HB.out⟩
theorem readerTake_ok (g : Nat) (S : Nat → Prop) (rest : List Int) (bad : Bool) (used : Nat) (w : World) (h : Rd w g S rest bad) (hu : 1 ≤ used) (hl : used ≤ rest.length) :
    Calls Tryz.prog 88 #[.pointer (some ⟨g, 0, none⟩), .int .i64 used, .int .i64 0] w (RPostU g S w (rest.drop used) bad) := by
  obtain ⟨A0, n, c, h0, hsl⟩ := h.c0
  have h1 := h.c1
  have f0 := h.fz 0; have f1 := h.fz 1
  have hmc := hsl.2.1
  have hcm := hsl.2.2.1
  unfold maxLen at hcm
  have hn1 : n ≤ rest.length := Nat.le_of_eq hsl.len
  have hn2 : rest.length ≤ n := Nat.le_of_eq hsl.len.symm
  obtain ⟨b, o, rfl, hbS, _⟩ := hsl.int_at (k := 0) (by omega)
  have hby : ∀ x ∈ rest.drop used, isByte x := fun x hx => h.by_ x (List.mem_of_mem_drop hx)
  have e1 : (rest.drop used).take (n - used) = rest.drop used := List.take_of_length_le (by rw [List.length_drop]; omega)
  by_cases hcu : c = used
  · subst hcu
    have hs := hsl.sub c 0 (by omega) b o (by omega)
    rw [← show n - c = 0 by omega, e1, Nat.sub_self, show n - c = 0 by omega] at hs
    have HF := Lib.hid (h.put hs hby)
    have HB := Lib.hid ((But.refl g w).setCell 0 (.slice (some ⟨b, o, none⟩) 0 0))
    clear h hsl hs e1 hby
    go_enter Tryz.func88, Tryz.ntmps88
    go_wp2_with fail
    go_end0
    exact ⟨_, rfl, HF.out, HB.out⟩
  · have hs := hsl.sub used (n - used) (by omega) b (o + used) (fun _ => ⟨rfl, by simp [Ty.int]⟩)
    rw [e1] at hs
    have HF := Lib.hid (h.put hs hby)
    have HB := Lib.hid ((But.refl g w).setCell 0 (.slice (some ⟨b, o + used, none⟩) (n - used) (c - used)))
    clear h hsl hs e1 hby
    go_enter Tryz.func88, Tryz.ntmps88
    go_wp2_with fail
    go_end0
    exact ⟨_, rfl, HF.out, HB.out⟩

theorem readerUint_any (g : Nat) (S : Nat → Prop) (rest : List Int) (bad : Bool) (w : World) (h : Rd w g S rest bad) :
    Calls Tryz.prog 86 #[.pointer (some ⟨g, 0, none⟩)] w (RPost g S w (.int .i64 (rdU rest bad).1) (rdU rest bad).2.1 (rdU rest bad).2.2) := by
  obtain ⟨A0, n, c, h0, hsl⟩ := h.c0
  have HC := Lib.hid (decodeUint_any rest A0 n c S w hsl h.by_)
  have HE : Hid (rdU rest bad = if (decU rest).2.2 = 0 then ((decU rest).1, rest.drop (decU rest).2.1, bad) else ((decU rest).1, [], true)) := rfl
  have HOK := Lib.hid (decU_okU (l := rest) h.by_)
  have H := Lib.hid h
  clear h hsl
  generalize decU rest = d at *
  obtain ⟨u, used, e⟩ := d
  by_cases he : e = 0
  · subst he
    obtain ⟨k1, k2⟩ := HOK.out rfl
    simp only at k1 k2
    have HR : Hid (rdU rest bad = (u, rest.drop used, bad)) := by show _ = _; rw [HE.out, if_pos rfl]
    have HT := Lib.hid (readerTake_ok g S rest bad used w H.out k1 k2)
    clear HE HOK
    go_enter Tryz.func86, Tryz.ntmps86
    go_wp2_with fail
    refine HC.out.mono ?_
    rintro e w' ⟨rfl, rfl⟩
    go_wp2_with fail
    refine HT.out.mono ?_
    rintro e w1 ⟨x, rfl, hr, hb⟩
    go_wp2_with fail
    go_ret
    rw [HR.out]
    exact ⟨rfl, hr, hb⟩
  · have HR : Hid (rdU rest bad = (u, [], true)) := by show _ = _; rw [HE.out, if_neg he]
    have HT := Lib.hid (readerTake_bad g S rest bad used e w H.out he)
    clear HE HOK he
    go_enter Tryz.func86, Tryz.ntmps86
    go_wp2_with fail
    refine HC.out.mono ?_
    rintro e w' ⟨rfl, rfl⟩
    go_wp2_with fail
    refine HT.out.mono ?_
    rintro e w1 ⟨x, rfl, hr, hb⟩
    go_wp2_with fail
    go_ret
    rw [HR.out]
    exact ⟨rfl, hr, hb⟩

theorem readerInt_any (g : Nat) (S : Nat → Prop) (rest : List Int) (bad : Bool) (w : World) (h : Rd w g S rest bad) :
    Calls Tryz.prog 85 #[.pointer (some ⟨g, 0, none⟩)] w (RPost g S w (.int .i64 (rdI rest bad).1) (rdI rest bad).2.1 (rdI rest bad).2.2) := by
  obtain ⟨A0, n, c, h0, hsl⟩ := h.c0
  have HC := Lib.hid (decodeInt_any rest A0 n c S w hsl h.by_)
  have HE : Hid (rdI rest bad = if (decI rest).2.2 = 0 then ((decI rest).1, rest.drop (decI rest).2.1, bad) else ((decI rest).1, [], true)) := rfl
  have HOK := Lib.hid (decI_okU (l := rest) h.by_)
  have H := Lib.hid h
  clear h hsl
  generalize decI rest = d at *
  obtain ⟨u, used, e⟩ := d
  by_cases he : e = 0
  · subst he
    obtain ⟨k1, k2⟩ := HOK.out rfl
    simp only at k1 k2
    have HR : Hid (rdI rest bad = (u, rest.drop used, bad)) := by show _ = _; rw [HE.out, if_pos rfl]
    have HT := Lib.hid (readerTake_ok g S rest bad used w H.out k1 k2)
    clear HE HOK
    go_enter Tryz.func85, Tryz.ntmps85
    go_wp2_with fail
    refine HC.out.mono ?_
    rintro e w' ⟨rfl, rfl⟩
    go_wp2_with fail
    refine HT.out.mono ?_
    rintro e w1 ⟨x, rfl, hr, hb⟩
    go_wp2_with fail
    go_ret
    rw [HR.out]
    exact ⟨rfl, hr, hb⟩
  · have HR : Hid (rdI rest bad = (u, [], true)) := by show _ = _; rw [HE.out, if_neg he]
    have HT := Lib.hid (readerTake_bad g S rest bad used e w H.out he)
    clear HE HOK he
    go_enter Tryz.func85, Tryz.ntmps85
    go_wp2_with fail
    refine HC.out.mono ?_
    rintro e w' ⟨rfl, rfl⟩
    go_wp2_with fail
    refine HT.out.mono ?_
    rintro e w1 ⟨x, rfl, hr, hb⟩
    go_wp2_with fail
    go_ret
    rw [HR.out]
    exact ⟨rfl, hr, hb⟩

theorem readerText_any (g : Nat) (S : Nat → Prop) (rest : List Int) (bad : Bool) (w : World) (h : Rd w g S rest bad) :
    Calls Tryz.prog 48 #[.pointer (some ⟨g, 0, none⟩)] w (RPost g S w (.string (rdT rest bad).1) (rdT rest bad).2.1 (rdT rest bad).2.2) := by
  obtain ⟨A0, n, c, h0, hsl⟩ := h.c0
  have HC := Lib.hid (decodeText_any rest A0 n c S w hsl h.by_)
  have HE : Hid (rdT rest bad = if (decT rest).2.2 = 0 then ((decT rest).1, rest.drop (decT rest).2.1, bad) else ((decT rest).1, [], true)) := rfl
  have HOK := Lib.hid (decT_okU (l := rest) h.by_)
  have H := Lib.hid h
  clear h hsl
  generalize decT rest = d at *
  obtain ⟨u, used, e⟩ := d
  by_cases he : e = 0
  · subst he
    obtain ⟨k1, k2⟩ := HOK.out rfl
    simp only at k1 k2
    have HR : Hid (rdT rest bad = (u, rest.drop used, bad)) := by show _ = _; rw [HE.out, if_pos rfl]
    have HT := Lib.hid (readerTake_ok g S rest bad used w H.out k1 k2)
    clear HE HOK
    go_enter Tryz.func48, Tryz.ntmps48
    go_wp2_with fail
    refine HC.out.mono ?_
    rintro e w' ⟨rfl, rfl⟩
    go_wp2_with fail
    refine HT.out.mono ?_
    rintro e w1 ⟨x, rfl, hr, hb⟩
    go_wp2_with fail
    go_ret
    rw [HR.out]
    exact ⟨rfl, hr, hb⟩
  · have HR : Hid (rdT rest bad = (u, [], true)) := by show _ = _; rw [HE.out, if_neg he]
    have HT := Lib.hid (readerTake_bad g S rest bad used e w H.out he)
    clear HE HOK he
    go_enter Tryz.func48, Tryz.ntmps48
    go_wp2_with fail
    refine HC.out.mono ?_
    rintro e w' ⟨rfl, rfl⟩
    go_wp2_with fail
    refine HT.out.mono ?_
    rintro e w1 ⟨x, rfl, hr, hb⟩
    go_wp2_with fail
    go_ret
    rw [HR.out]
    exact ⟨rfl, hr, hb⟩

set_option maxRecDepth 100000 in
theorem readerCount_any (g : Nat) (S : Nat → Prop) (rest : List Int) (bad : Bool) (w : World) (h : Rd w g S rest bad) :
    Calls Tryz.prog 83 #[.pointer (some ⟨g, 0, none⟩)] w (RPost g S w (.int .i64 (rdC rest bad).1) (rdC rest bad).2.1 (rdC rest bad).2.2) := by
  have HC := Lib.hid (readerUint_any g S rest bad w h)
  have HE : Hid (rdC rest bad = if ((rdU rest bad).2.1.length : Int) < (rdU rest bad).1 then (0, [], true) else rdU rest bad) := rfl
  clear h
  generalize rdU rest bad = d at *
  obtain ⟨u, r, b'⟩ := d
  simp only at HE HC
  go_enter Tryz.func83, Tryz.ntmps83
  go_wp2_with fail
  refine HC.out.mono ?_
  rintro e w1 ⟨rfl, hr, hb⟩
  clear HC
  obtain ⟨A, n, c, h0, hsl⟩ := hr.c0
  have hn1 : n ≤ r.length := Nat.le_of_eq hsl.len
  have hn2 : r.length ≤ n := Nat.le_of_eq hsl.len.symm
  have HRD := Lib.hid hr
  have HT := Lib.hid (readerFail_any g S r b' w1 hr)
  clear hsl hr
  by_cases hbig : (n : Int) < u
  · have HR : Hid (rdC rest bad = (0, [], true)) := by show _ = _; rw [HE.out, if_pos (by omega)]
    clear HE
    go_wp2_with fail
    refine HT.out.mono ?_
    rintro e w2 ⟨x, rfl, hr2, hb2⟩
    go_wp2_with fail
    go_ret
    rw [HR.out]
    exact ⟨rfl, hr2, hb.trans hb2⟩
  · have HR : Hid (rdC rest bad = (u, r, b')) := by show _ = _; rw [HE.out, if_neg (by omega)]
    clear HE
    go_wp2_with fail
    go_ret
    rw [HR.out]
    exact ⟨rfl, HRD.out, hb⟩
theorem readerCountTo_any (g : Nat) (S : Nat → Prop) (rest : List Int) (bad : Bool) (most : Int) (w : World) (h : Rd w g S rest bad) :
    Calls Tryz.prog 46 #[.pointer (some ⟨g, 0, none⟩), .int .i64 most] w (RPost g S w (.int .i64 (rdN most rest bad).1) (rdN most rest bad).2.1 (rdN most rest bad).2.2) := by
  have HC := Lib.hid (readerCount_any g S rest bad w h)
  have HE : Hid (rdN most rest bad = if most < (rdC rest bad).1 then (0, [], true) else rdC rest bad) := rfl
  clear h
  generalize rdC rest bad = d at *
  obtain ⟨u, r, b'⟩ := d
  simp only at HE HC
  go_enter Tryz.func46, Tryz.ntmps46
  go_wp2_with fail
  refine HC.out.mono ?_
  rintro e w1 ⟨rfl, hr, hb⟩
  clear HC
  have HRD := Lib.hid hr
  have HT := Lib.hid (readerFail_any g S r b' w1 hr)
  clear hr
  by_cases hbig : most < u
  · have HR : Hid (rdN most rest bad = (0, [], true)) := by show _ = _; rw [HE.out, if_pos hbig]
    clear HE
    go_wp2_with fail
    refine HT.out.mono ?_
    rintro e w2 ⟨x, rfl, hr2, hb2⟩
    go_wp2_with fail
    go_ret
    rw [HR.out]
    exact ⟨rfl, hr2, hb.trans hb2⟩
  · have HR : Hid (rdN most rest bad = (u, r, b')) := by show _ = _; rw [HE.out, if_neg hbig]
    clear HE
    go_wp2_with fail
    go_ret
    rw [HR.out]
    exact ⟨rfl, HRD.out, hb⟩
def doneB (rest : List Int) (bad : Bool) : Bool := !bad && rest.isEmpty
theorem readerDone_any (g : Nat) (S : Nat → Prop) (rest : List Int) (bad : Bool) (w : World) (h : Rd w g S rest bad) :
    Calls Tryz.prog 50 #[.pointer (some ⟨g, 0, none⟩)] w fun e w' => e = .returned (.bool (doneB rest bad)) ∧ w = w' := by
  obtain ⟨A, n, c, h0, hsl⟩ := h.c0
  have h1 := h.c1
  have hn1 : n ≤ rest.length := Nat.le_of_eq hsl.len
  have hn2 : rest.length ≤ n := Nat.le_of_eq hsl.len.symm
  clear hsl h
  cases bad with
  | true =>
    go_enter Tryz.func50, Tryz.ntmps50
    go_wp2_with fail
    go_ret
    exact ⟨rfl, rfl⟩
  | false =>
    by_cases hz : n = 0
    · have HR : Hid (doneB rest false = true) := by
        show _ = _
        have : rest = [] := List.eq_nil_of_length_eq_zero (by omega)
        rw [this]; rfl
      subst hz
      go_enter Tryz.func50, Tryz.ntmps50
      go_wp2_with fail
      go_ret
      exact ⟨ret_bool (by rw [HR.out]; try rfl), rfl⟩
    · have HR : Hid (doneB rest false = false) := by
        show _ = _
        cases rest with
        | nil => simp at hn1; omega
        | cons a l => rfl
      have hz' : ((n : Int) == 0) = false := by simpa using hz
      go_enter Tryz.func50, Tryz.ntmps50
      go_wp2_with fail
      go_ret
      exact ⟨ret_bool (by rw [HR.out]; try rfl), rfl⟩
end Go.Proofs.YtldeoaddogifpaaGreatDoor
