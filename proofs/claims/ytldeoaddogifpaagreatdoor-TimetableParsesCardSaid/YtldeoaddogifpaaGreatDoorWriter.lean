/-
  Contracts of codec.Writer: Uint, Int, Text.
  Condition: the numbers and lengths are within their limits, and the writer has no error.
-/
import Derived.Test.YtldeoaddogifpaaGreatDoorEncode
namespace Go.Proofs.YtldeoaddogifpaaGreatDoor
set_option linter.unusedSimpArgs false
set_option linter.unusedVariables false
open Go.RowKit

/-- The writer in block g holds the row v of the bytes bs and no error. -/
structure Wr (w : World) (g base : Nat) (v : Value) (bs : List Int) : Prop where
  c0 : w.cell? ⟨g, 0, none⟩ = some v
  c1 : w.cell? ⟨g, 1, none⟩ = some (.int .i64 0)
  fz : ∀ j, w.frozen? ⟨g, j, none⟩ = false
  own : Own (Ty.int .u8) 5 w base v bs
  ne : some g ≠ v.ownBlock
  lo : g < base
/-- From the world w to w' the writer in block g has gone from the row v to the row v'; nothing else of w has changed. -/
structure Chg (g : Nat) (v : Value) (w : World) (v' : Value) (w' : World) : Prop where
  os : w'.os = w.os
  tape : w'.tape = w.tape
  output : w'.output = w.output
  size : w.heap.size ≤ w'.heap.size
  block : ∀ b, b < w.heap.size → b ≠ g → some b ≠ v.ownBlock → w'.heap[b]? = w.heap[b]?
  row : ∀ k, v'.ownBlock = some k → v.ownBlock = some k ∨ w.heap.size ≤ k
theorem Chg.refl (g : Nat) (v : Value) (w : World) : Chg g v w v w := ⟨rfl, rfl, rfl, Nat.le_refl _, fun _ _ _ _ => rfl, fun _ h => .inl h⟩
theorem Chg.trans {g : Nat} {v v' v'' : Value} {w w' w'' : World} (h : Chg g v w v' w') (h' : Chg g v' w' v'' w'') : Chg g v w v'' w'' :=
  ⟨h'.os.trans h.os, h'.tape.trans h.tape, h'.output.trans h.output, Nat.le_trans h.size h'.size, fun b hb hg hv => (h'.block b (Nat.lt_of_lt_of_le hb h.size) hg (fun e => by
    rcases h.row b e.symm with h1 | h1
    · exact hv h1.symm
    · omega)).trans (h.block b hb hg hv), fun k hk => by
    rcases h'.row k hk with h1 | h1
    · exact h.row k h1
    · exact .inr (Nat.le_trans h.size h1)⟩
theorem Chg.below {g : Nat} {v v' : Value} {w w' W : World} {B : Nat} (h : Chg g v w v' w') (hb : Below B W w) (hB : B ≤ w.heap.size) (hg : B ≤ g) (hv : ∀ k, v.ownBlock = some k → B ≤ k) : Below B W w' :=
  ⟨h.os.trans hb.os, h.tape.trans hb.tape, h.output.trans hb.output, Nat.le_trans hb.size h.size, fun b hb' => (h.block b (by omega) (by omega) (fun e => by have := hv b e.symm; omega)).trans (hb.block b hb')⟩
theorem Chg.alloc {g : Nat} {v v' : Value} {w w' : World} (h : Chg g v w v' w') (o : Obj) : Chg g v w v' (w'.alloc o) :=
  h.trans ⟨rfl, rfl, rfl, by simp, fun b hb _ _ => ((Below.refl w'.heap.size w').alloc (Nat.le_refl _) o).block b hb, fun _ h => .inl h⟩
theorem Chg.of_below {g : Nat} {v v' : Value} {w w' w'' : World} (h : Chg g v w v' w') (hb : Below w'.heap.size w' w'') : Chg g v w v' w'' :=
  h.trans ⟨hb.os, hb.tape, hb.output, hb.size, fun b hl _ _ => hb.block b hl, fun _ h => .inl h⟩
theorem Chg.cell {g : Nat} {v v' : Value} {w w' : World} (h : Chg g v w v' w') {a : Addr} {u : Value} (hc : w.cell? a = some u) (hg : a.block ≠ g) (hv : some a.block ≠ v.ownBlock) : w'.cell? a = some u :=
  (World.cell?_of_block (h.block a.block (World.block_lt_of_cell? w a hc) hg hv)).trans hc
theorem Wr.lt {w : World} {g base : Nat} {v : Value} {bs : List Int} (h : Wr w g base v bs) : g < w.heap.size := World.block_lt_of_cell? w ⟨g, 0, none⟩ h.c0
theorem Wr.next {w w' : World} {g base : Nat} {v : Value} {bs : List Int} (h : Wr w g base v bs) (hb : Below w.heap.size w w') : Wr w' g base v bs :=
  ⟨cell_kept h.c0 hb, cell_kept h.c1 hb, fun j => (World.frozen?_of_block (a := ⟨g, j, none⟩) (hb.block g h.lt)).trans (h.fz j), h.own.next hb, h.ne, h.lo⟩

/-- What the writer's methods hand back. -/
def WrPost (g base : Nat) (v : Value) (w : World) (bs : List Int) (e : Ending) (w' : World) : Prop := ∃ x v', e = .returned x ∧ Wr w' g base v' bs ∧ Chg g v w v' w'

theorem Own.int_sl {e : TypeId} {w : World} {base : Nat} {v : Value} {xs : List Int} (h : Own (Ty.int .u8) e w base v xs) (h0 : xs ≠ []) : ∃ g c, v = .slice (some ⟨g, 0, none⟩) xs.length c ∧ base ≤ g ∧ g < w.heap.size ∧ ∀ j u, (xs.map (Value.int .u8))[j]? = some u → w.cell? ((⟨g, 0, none⟩ : Addr).add j) = some u := by
  have h1 := own_ints.1 h
  rcases h1.2 with ⟨_, h2⟩ | ⟨g, cap, cur, rfl, hb, hg, _⟩
  · exact absurd (List.eq_nil_of_length_eq_zero h2) h0
  · exact ⟨g, cap, rfl, hb, (Array.getElem?_eq_some_iff.1 hg).1, h1.cells (g := g) rfl⟩

/-- append of a row of integers to a row of the call's own, with the new row's place. -/
theorem wpList_push_row {P : Program} {κ : IntKind} {bytes : Nat} {ops : Array Oper} {rest : List Oper} {o : Oper} {a : Act} {Q : Exit → Act → World → Prop} {w : World} {base : Nat} {v : Value} {xs ys : List Int} {T e : TypeId}
    (hgd : o.guard = none) (s x : Operand) (ho : o.op = .call { callee := .builtin .append, args := #[s, x], argTypes := #[T, T] }) (he : Elem P T e 1 bytes) (hpos : 0 < bytes) (h8 : bytes ≤ 8) (hs : a.eval s = v) (hown : Own (Ty.int κ) e w base v xs)
    (ad : Addr) (m c : Nat) (hx : a.eval x = .slice (some ad) m c) (hm : ys.length = m) (hy : ∀ j u, (ys.map (Value.int κ))[j]? = some u → w.cell? (ad.add j) = some u) (hlen : xs.length + ys.length < 1099511627776) (hbase : base ≤ w.heap.size)
    (h : ∀ v' w', Own (Ty.int κ) e w' base v' (xs ++ ys) → w.grownBy w' v.ownBlock → (v'.ownBlock = v.ownBlock ∨ v'.ownBlock = some w.heap.size) → wpList P ops Q rest (a.put o.dst v') w') : wpList P ops Q (o :: rest) a w := by
  obtain ⟨i, z, hi, hz, h1, h2, h3⟩ := he.parts
  have hb : (xs.length + m) * bytes ≤ 1099511627776 * 8 := Nat.mul_le_mul (by omega) h8
  refine wpList_append_own_at _ hgd s x T ho base e i z 1 bytes he.1 hi hz h1 h2 h3 (by decide) v xs.length (xs.map (Value.int κ)) hs (own_ints.1 hown) ad m c (ys.map (Value.int κ)) hx (by simp [hm]) hy (fun u hu => ?_) (by unfold maxLen; omega) (by omega) hbase ?_
  · rw [List.mem_map] at hu
    obtain ⟨_, _, rfl⟩ := hu
    rfl
  · intro v' w' ho' hgr _ hv'
    refine h v' w' (own_ints.2 ?_) hgr hv'
    rw [List.map_append, List.length_append, hm]
    exact ho'

/-- A row stays where the blocks from its base on stay. -/
theorem Own.frame {α : Type} {t : Ty α} {e : TypeId} {w w' : World} {base : Nat} {v : Value} {xs : List α} (h : Own t e w base v xs) (hs : w.heap.size ≤ w'.heap.size) (hk : ∀ b, base ≤ b → b < w.heap.size → w'.heap[b]? = w.heap[b]?) : Own t e w' base v xs := by
  obtain ⟨cs, h1, h2⟩ := h
  refine ⟨cs, ⟨h1.1, ?_⟩, h2.keep (fun b hS => hk b hS.1 hS.2.1) fun b hS => ⟨hS.1, Nat.lt_of_lt_of_le hS.2.1 hs, hS.2.2⟩⟩
  rcases h1.2 with h3 | ⟨g, cap, cur, hv, hg, hb, r⟩
  · exact .inl h3
  · exact .inr ⟨g, cap, cur, hv, hg, (hk g hg (Array.getElem?_eq_some_iff.1 hb).1).trans hb, r⟩
theorem Own.setCell {α : Type} {t : Ty α} {e : TypeId} {w : World} {base : Nat} {v : Value} {xs : List α} (h : Own t e w base v xs) {g j : Nat} (hg : g < base) (x : Value) : Own t e (w.setCell ⟨g, j, none⟩ x) base v xs :=
  h.frame (by simp) fun b hb _ => heap_setCell_other _ _ _ _ (by simp; omega)
theorem own_ne {α : Type} {t : Ty α} {e : TypeId} {w : World} {base : Nat} {v : Value} {xs : List α} (h : Own t e w base v xs) {g : Nat} (hg : g < base) : some g ≠ v.ownBlock := fun e => by
  have := (h.lt g e.symm).1
  omega
theorem cell_keep {w w' : World} {g : Nat} (h : w'.heap[g]? = w.heap[g]?) (j : Nat) : w'.cell? ⟨g, j, none⟩ = w.cell? ⟨g, j, none⟩ := cell_of_same (a := ⟨g, j, none⟩) h
theorem frozen_keep {w w' : World} {g : Nat} (h : w'.heap[g]? = w.heap[g]?) (j : Nat) : w'.frozen? ⟨g, j, none⟩ = w.frozen? ⟨g, j, none⟩ := World.frozen?_of_block (a := ⟨g, j, none⟩) h
theorem cell?_setCell_ne (w : World) (a b : Addr) (x : Value) (h : a ≠ b) : (w.setCell a x).cell? b = w.cell? b := World.cell?_setCell_other _ _ _ _ h
theorem cell?_setCell_eq (w : World) (a : Addr) (x u : Value) (h : w.cell? a = some u) : (w.setCell a x).cell? a = some x := World.cell?_setCell_same _ _ _ h
theorem frozen_set (w : World) (a b : Addr) (x : Value) : (w.setCell a x).frozen? b = w.frozen? b := by
  simp

/-- What stands in the writer behind the store of the new row. -/
theorem Wr.put {w w1 : World} {g base : Nat} {v v' : Value} {bs bs' : List Int} (h : Wr w g base v bs) (hbase : base ≤ w.heap.size) (hg : (w.setCell ⟨g, 1, none⟩ (.int .i64 0)).grownBy w1 v.ownBlock) (hown : Own (Ty.int .u8) 5 w1 base v' bs') (hv : v'.ownBlock = v.ownBlock ∨ v'.ownBlock = some w.heap.size) :
    Wr (w1.setCell ⟨g, 0, none⟩ v') g base v' bs' ∧ Chg g v w v' (w1.setCell ⟨g, 0, none⟩ v') := by
  have hl := h.lt
  have hs := hg.size
  simp only [World.size_setCell] at hs
  have hb := hg.block g (by simpa using hl) h.ne
  have hfz : ∀ j, w1.frozen? ⟨g, j, none⟩ = false := fun j => by rw [frozen_keep hb, frozen_set]; exact h.fz j
  have e0 : w1.cell? ⟨g, 0, none⟩ = some v := by rw [cell_keep hb, cell?_setCell_ne _ _ _ _ (by simp)]; exact h.c0
  have e1 : w1.cell? ⟨g, 1, none⟩ = some (.int .i64 0) := by rw [cell_keep hb, cell?_setCell_eq _ _ _ _ h.c1]
  refine ⟨⟨cell?_setCell_eq _ _ _ _ e0, ?_, fun j => by rw [frozen_set]; exact hfz j, hown.setCell h.lo _, own_ne hown h.lo, h.lo⟩, ⟨?_, ?_, ?_, ?_, fun b hb1 hb2 hb3 => ?_, fun k hk => ?_⟩⟩
  · rw [cell?_setCell_ne _ _ _ _ (by simp)]; exact e1
  · exact hg.os
  · exact hg.tape
  · exact hg.output
  · simpa using hs
  · rw [heap_setCell_other _ _ _ _ (by simpa using hb2), hg.block b (by simpa using hb1) hb3, heap_setCell_other _ _ _ _ (by simpa using hb2)]
  · rcases hv with e | e
    · exact .inl (e ▸ hk)
    · rw [e] at hk
      injection hk with hk
      exact .inr (by omega)

set_option maxRecDepth 100000 in
theorem writerAdd_any (g base : Nat) (v u : Value) (bs xs : List Int) (w : World) (h : Wr w g base v bs) (hu : Own (Ty.int .u8) 5 w base u xs) (h0 : xs ≠ []) (hl : bs.length + xs.length < 1000000000) (hbase : base ≤ w.heap.size) :
    Calls Tryz.prog 77 #[.pointer (some ⟨g, 0, none⟩), u, .int .i64 0] w (WrPost g base v w (bs ++ xs)) := by
  obtain ⟨q, c, rfl, hq1, hq2, hq3⟩ := hu.int_sl h0
  have H0 : Hid (bs ++ xs ≠ []) := fun e => h0 (List.append_eq_nil_iff.1 e).2
  have HQ := Lib.hid hq3
  have c0 := h.c0; have c1 := h.c1
  have f0 := h.fz 0; have f1 := h.fz 1
  have H := Lib.hid h
  clear h hq3 hu h0
  go_enter Tryz.func77, Tryz.ntmps77
  go_wp2_with (at_builtin; refine wpList_push_row (κ := .u8) (base := base) (xs := bs) (ys := xs) rfl _ _ rfl elem_bytes (by decide) (by decide) rfl ?c1 ⟨q, 0, none⟩ xs.length c rfl rfl ?c3 ?c4 ?c5 ?_)
  case c1 => exact H.out.own.setCell H.out.lo _
  case c3 =>
    intro j u hj
    rw [addr_add, cell?_setCell_ne _ _ _ _ (by simp; have := H.out.lo; omega), ← addr_add]
    exact HQ.out j u hj
  case c4 => omega
  case c5 => simpa using hbase
  intro v' w1 hown hgr hv'
  obtain ⟨q', c', rfl, _, _, _⟩ := hown.int_sl H0.out
  have hp := H.out.put (v' := .slice (some ⟨q', 0, none⟩) (bs ++ xs).length c') (bs' := bs ++ xs) hbase hgr hown (by simpa using hv')
  have hb := hgr.block g (by simpa using H.out.lt) H.out.ne
  have f2 : w1.frozen? ⟨g, 0, none⟩ = false := by rw [frozen_keep hb, frozen_set]; exact f0
  have e2 : w1.cell? ⟨g, 0, none⟩ = some v := by rw [cell_keep hb, cell?_setCell_ne _ _ _ _ (by simp)]; exact c0
  rw [List.length_append] at hp
  have HP := Lib.hid hp
  clear hp hb hgr hown hv'
  go_wp2_with fail
  go_end0
  exact ⟨_, _, rfl, HP.out.1, HP.out.2⟩
theorem textB_pos (s : ByteArray) : textB s ≠ [] := fun e => uvar_pos _ (List.append_eq_nil_iff.1 e).1
theorem textB_len (s : ByteArray) : (textB s).length ≤ s.size + 10 := by
  unfold textB
  have := uvar_len s.size
  rw [List.length_append, bytesOf_len]
  omega
theorem writerUint_any (g base : Nat) (v : Value) (bs : List Int) (n : Int) (w : World) (h : Wr w g base v bs) (hl : bs.length < 900000000) (hbase : base ≤ w.heap.size) (h0 : 0 ≤ n) (h1 : n ≤ 4611686018427387904) :
    Calls Tryz.prog 41 #[.pointer (some ⟨g, 0, none⟩), .int .i64 n] w (WrPost g base v w (bs ++ uvar n)) := by
  have HC := Lib.hid (encodeUint_any n w h0 h1)
  have H := Lib.hid h
  clear h
  go_enter Tryz.func41, Tryz.ntmps41
  go_wp2_with fail
  refine HC.out.mono ?_
  rintro e w1 ⟨u, rfl, hown, hb⟩
  clear HC
  have HA := Lib.hid (writerAdd_any g base v u bs (uvar n) w1 (H.out.next hb) (hown.lower hbase) (uvar_pos n) (by have := uvar_len n; omega) (Nat.le_trans hbase hb.size))
  clear hown
  go_wp2_with fail
  refine HA.out.mono ?_
  intro e w2 hp
  obtain ⟨x, v', rfl, h2, h3⟩ := hp
  clear HA
  go_wp2_with fail
  go_end0
  exact ⟨_, _, rfl, h2, ((Chg.refl g v w).of_below hb).trans h3⟩
theorem writerInt_any (g base : Nat) (v : Value) (bs : List Int) (n : Int) (w : World) (h : Wr w g base v bs) (hl : bs.length < 900000000) (hbase : base ≤ w.heap.size) (h0 : -2305843009213693952 ≤ n) (h1 : n ≤ 2305843009213693952) :
    Calls Tryz.prog 43 #[.pointer (some ⟨g, 0, none⟩), .int .i64 n] w (WrPost g base v w (bs ++ uvar (zig n))) := by
  have HC := Lib.hid (encodeInt_any n w h0 h1)
  have H := Lib.hid h
  clear h
  go_enter Tryz.func43, Tryz.ntmps43
  go_wp2_with fail
  refine HC.out.mono ?_
  rintro e w1 ⟨u, rfl, hown, hb⟩
  clear HC
  have HA := Lib.hid (writerAdd_any g base v u bs (uvar (zig n)) w1 (H.out.next hb) (hown.lower hbase) (uvar_pos (zig n)) (by have := uvar_len (zig n); omega) (Nat.le_trans hbase hb.size))
  clear hown
  go_wp2_with fail
  refine HA.out.mono ?_
  intro e w2 hp
  obtain ⟨x, v', rfl, h2, h3⟩ := hp
  clear HA
  go_wp2_with fail
  go_end0
  exact ⟨_, _, rfl, h2, ((Chg.refl g v w).of_below hb).trans h3⟩
theorem writerText_any (g base : Nat) (v : Value) (bs : List Int) (s : ByteArray) (w : World) (h : Wr w g base v bs) (hl : bs.length < 900000000) (hbase : base ≤ w.heap.size) (h1 : s.size ≤ 20000) :
    Calls Tryz.prog 42 #[.pointer (some ⟨g, 0, none⟩), .string s] w (WrPost g base v w (bs ++ textB s)) := by
  have HC := Lib.hid (encodeText_any s w h1)
  have H := Lib.hid h
  clear h
  go_enter Tryz.func42, Tryz.ntmps42
  go_wp2_with fail
  refine HC.out.mono ?_
  rintro e w1 ⟨u, rfl, hown, hb⟩
  clear HC
  have HA := Lib.hid (writerAdd_any g base v u bs (textB s) w1 (H.out.next hb) (hown.lower hbase) (textB_pos s) (by have := textB_len s; omega) (Nat.le_trans hbase hb.size))
  clear hown
  go_wp2_with fail
  refine HA.out.mono ?_
  intro e w2 hp
  obtain ⟨x, v', rfl, h2, h3⟩ := hp
  clear HA
  go_wp2_with fail
  go_end0
  exact ⟨_, _, rfl, h2, ((Chg.refl g v w).of_below hb).trans h3⟩
end Go.Proofs.YtldeoaddogifpaaGreatDoor
