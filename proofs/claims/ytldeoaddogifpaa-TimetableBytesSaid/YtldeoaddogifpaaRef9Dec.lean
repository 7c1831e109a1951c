/-
  Contract of the reference's Decode (package pairingref9).
  Condition: the bytes are bytes.
-/
import Derived.Test.YtldeoaddogifpaaRef8Reader
import Derived.Test.YtldeoaddogifpaaRef8Unframe
import Derived.Test.YtldeoaddogifpaaTTDecode
import Derived.Test.YtldeoaddogifpaaTTBack
import Derived.Deep.DeepCutAuto
import Derived.Deep.CutBlock
namespace Go.Proofs.Ytldeoaddogifpaa
set_option linter.unusedSimpArgs false
set_option linter.unusedVariables false
open Go.RowKit

/-- What holds while a timetable is read: its box tb, the result's box, the reader. -/
structure DR (w : World) (g : Nat) (S : Nat → Prop) (tb : Nat) (A : Option Addr) (n c : Nat) (body : List Int) (wr : World) (cs : Array Value) (r : List Int) (b : Bool) : Prop where
  t : wr.heap[tb]? = some (.cells cs 26 (0, 0))
  res : wr.heap[w.heap.size]? = some (.cells #[.slice none 0 0, .slice none 0 0, .slice none 0 0] 26 (0, 0))
  rd : RRd wr g S A n c body r b
  bel : Below w.heap.size w wr
  l1 : w.heap.size < g
  l2 : g < tb
  sS : ∀ b, S b → b < g
section
variable {A : Option Addr} {n c : Nat} {body : List Int} {w : World} {g : Nat} {S : Nat → Prop} {tb : Nat} {wr w5 w6 : World} {cs : Array Value} {r r' : List Int} {b b' : Bool} {o : Obj} {row : Option Nat}
theorem DR.lt (h : DR w g S tb A n c body wr cs r b) : tb < wr.heap.size := (Array.getElem?_eq_some_iff.1 h.t).1
theorem DR.call (h : DR w g S tb A n c body wr cs r b) (hb : But g wr w5) (hr : RRd w5 g S A n c body r' b') : DR w g S tb A n c body w5 cs r' b' := by
  have h1 := h.l1; have h2 := h.l2; have h3 := h.lt
  refine ⟨(hb.block tb h3 (by omega)).trans h.t, (hb.block _ (by omega) (by omega)).trans h.res, hr, hb.below h.bel (by omega) (by omega), h1, h2, h.sS⟩
theorem DR.keep (h : DR w g S tb A n c body wr cs r b) (hb : But g wr w5) (hgr : (w5.alloc o).grownBy w6 row) (hrow : ∀ k, row = some k → tb < k) (q : Nat) (hq : q < wr.heap.size) (hqg : q ≠ g) (hqr : row ≠ some q) : w6.heap[q]? = wr.heap[q]? := by
  have h3 := hb.size
  rw [hgr.block q (by simp; omega) (fun e => hqr e.symm), Below.heap_alloc _ _ _ (by omega), hb.block q hq hqg]
theorem DR.t6 (h : DR w g S tb A n c body wr cs r b) (hb : But g wr w5) (hgr : (w5.alloc o).grownBy w6 row) (hrow : ∀ k, row = some k → tb < k) : w6.heap[tb]? = some (.cells cs 26 (0, 0)) := by
  have h1 := h.l1; have h2 := h.l2
  rw [h.keep hb hgr hrow tb h.lt (by omega) (fun e => by have := hrow tb e; omega)]
  exact h.t
theorem DR.step (h : DR w g S tb A n c body wr cs r b) (hb : But g wr w5) (hr : RRd w5 g S A n c body r' b') (hgr : (w5.alloc o).grownBy w6 row) (hrow : ∀ k, row = some k → tb < k) (j : Nat) (v' : Value) : DR w g S tb A n c body (w6.setCell ⟨tb, j, none⟩ v') (cs.setIfInBounds j v') r' b' := by
  have h1 := h.l1; have h2 := h.l2; have h3 := h.lt; have h4 := hb.size; have h5 := hgr.size
  simp only [World.size_alloc] at h5
  have h8 := hb.below h.bel (by omega) (by omega)
  refine ⟨heap_setCell_same _ _ _ _ _ _ (h.t6 hb hgr hrow), ?_, ?_, ?_, h1, h2, h.sS⟩
  · rw [heap_setCell_other _ _ _ _ (by simp; omega), h.keep hb hgr hrow _ (by omega) (by omega) (fun e => by have := hrow _ e; omega)]
    exact h.res
  · refine hr.frame (fun q hq hSq => ?_) (by simp; omega)
    have hqg : q ≤ g := by
      rcases hSq with hs | rfl
      · exact Nat.le_of_lt (h.sS q hs)
      · exact Nat.le_refl _
    rw [heap_setCell_other _ _ _ _ (by simp; omega), hgr.block q (by simp; omega) (fun e => by have := hrow q e.symm; omega), Below.heap_alloc _ _ _ (by omega)]
  · exact ((h8.alloc (by omega) o).grown hgr (by simp; omega) (fun k hk => by have := hrow k hk; omega)).setCell (by simp; omega) _
/-- What lies between the box and the new row stays. -/
theorem DR.mid (h : DR w g S tb A n c body wr cs r b) (hb : But g wr w5) (hgr : (w5.alloc o).grownBy w6 row) {H : Nat} (hrow : ∀ k, row = some k → H ≤ k) (hH : tb < H) (hHs : H ≤ wr.heap.size) (j : Nat) (v' : Value) (q : Nat) (hq : tb < q ∧ q < H) : (w6.setCell ⟨tb, j, none⟩ v').heap[q]? = wr.heap[q]? := by
  have h1 := h.l1; have h2 := h.l2
  rw [heap_setCell_other _ _ _ _ (by simp; omega), h.keep hb hgr (fun k hk => by have := hrow k hk; omega) q (by omega) (by omega) (fun e => by have := hrow q e; omega)]
end
theorem RRd.setFar {w : World} {g : Nat} {S : Nat → Prop} {A : Option Addr} {n c : Nat} {body rest : List Int} {bad : Bool} (h : RRd w g S A n c body rest bad) (hS : ∀ b, S b → b < g) {q : Nat} (hq : g < q) (j : Nat) (x : Value) : RRd (w.setCell ⟨q, j, none⟩ x) g S A n c body rest bad :=
  h.frame (fun b _ hb => heap_setCell_other _ _ _ _ (by
    show b ≠ q
    rcases hb with hb | rfl
    · have := hS b hb; omega
    · omega)) (by simp)
theorem RRd.but {w w' : World} {g : Nat} {S : Nat → Prop} {A : Option Addr} {n c : Nat} {body rest : List Int} {bad : Bool} {row : Option Nat} (h : RRd w g S A n c body rest bad) (hS : ∀ b, S b → b < g) (hg : w.grownBy w' row) (hr : ∀ k, row = some k → g < k) : RRd w' g S A n c body rest bad :=
  h.frame (fun b hb hSb => hg.block b hb (fun e => by
    have := hr b e.symm
    rcases hSb with hs | rfl
    · have := hS b hs; omega
    · omega)) hg.size
/-- What holds while a zone is read: its box zb, the row of its shifts, the reader; all else of wo is as it was. -/
structure ZR (wo : World) (g : Nat) (S : Nat → Prop) (zb : Nat) (A : Option Addr) (n c : Nat) (body : List Int) (wr : World) (name : ByteArray) (off : Int) (v : Value) (xs : List GShift) (r : List Int) (b : Bool) : Prop where
  but : But g wo wr
  rd : RRd wr g S A n c body r b
  z : wr.heap[zb]? = some (.cells #[.string name, .int .i64 off, v] 42 (0, 0))
  own : Own Ty.shift 44 wr (zb + 1) v xs
  lt : wo.heap.size ≤ zb
  lg : g < zb
section
variable {wo : World} {g : Nat} {S : Nat → Prop} {zb : Nat} {A : Option Addr} {n c : Nat} {body : List Int} {wr w5 w6 : World} {name : ByteArray} {off : Int} {v v' : Value} {xs xs' : List GShift} {r r' : List Int} {b b' : Bool} {o : Obj}
theorem ZR.keep (h : ZR wo g S zb A n c body wr name off v xs r b) (hgr : (w5.alloc o).grownBy w6 v.ownBlock) : ∀ q, q < w5.heap.size → q ≤ zb → w6.heap[q]? = w5.heap[q]? := fun q hq hz => by
  rw [hgr.block q (by simp; omega) (fun e => by have := (h.own.lt q e.symm).1; omega), Below.heap_alloc _ _ _ hq]
theorem ZR.zb6 (h : ZR wo g S zb A n c body wr name off v xs r b) (hb : But g wr w5) (hgr : (w5.alloc o).grownBy w6 v.ownBlock) : w6.heap[zb]? = some (.cells #[.string name, .int .i64 off, v] 42 (0, 0)) := by
  have h2 : zb < wr.heap.size := (Array.getElem?_eq_some_iff.1 h.z).1
  have h3 := hb.size
  have h4 := h.lg
  rw [h.keep hgr zb (by omega) (Nat.le_refl _), hb.block zb h2 (by omega)]
  exact h.z
theorem ZR.step (h : ZR wo g S zb A n c body wr name off v xs r b) (hS : ∀ b, S b → b < g) (hb : But g wr w5) (hr : RRd w5 g S A n c body r' b') (hgr : (w5.alloc o).grownBy w6 v.ownBlock) (hown : Own Ty.shift 44 w6 (zb + 1) v' xs') : ZR wo g S zb A n c body (w6.setCell ⟨zb, 2, none⟩ v') name off v' xs' r' b' := by
  have h2 : zb < wr.heap.size := (Array.getElem?_eq_some_iff.1 h.z).1
  have h3 := hb.size
  have h4 := h.lt
  have h5 := hgr.size
  have h6 := h.lg
  simp only [World.size_alloc] at h5
  refine ⟨?_, ?_, ?_, hown.setCell (Nat.lt_succ_self _) _, h.lt, h.lg⟩
  · exact (((h.but.trans hb).alloc o).grown hgr (fun k hk => by have := (h.own.lt k hk).1; omega)).setFar (by omega) 2 v'
  · refine hr.frame (fun q hq hSq => ?_) (by simp; omega)
    have hqg : q ≤ g := by
      rcases hSq with hs | rfl
      · exact Nat.le_of_lt (hS q hs)
      · exact Nat.le_refl _
    rw [heap_setCell_other _ _ _ _ (by simp; omega), h.keep hgr q hq (by omega)]
  · have := heap_setCell_same w6 zb 2 _ _ v' (h.zb6 hb hgr)
    simpa using this
end
/-- pairingref9.Decode. -/
def decR (bs : List Int) : GTT × Int :=
  if (unfr bs).2.2.2 ≠ 0 then (noTT, (unfr bs).2.2.2) else
    if (unfr bs).1 ≠ 1 ∨ (unfr bs).2.2.1 ≠ bs.length then (noTT, 2) else
      if doneB (rrTT (unfr bs).2.1 false).2.1 (rrTT (unfr bs).2.1 false).2.2 = false then (noTT, 2) else
        if ttE (rrTT (unfr bs).2.1 false).1 ≠ 0 then (noTT, ttE (rrTT (unfr bs).2.1 false).1) else ((rrTT (unfr bs).2.1 false).1, 0)
theorem decR_eq {bs : List Int} (h : bytesL bs) : decR bs = decTT bs := by
  unfold decR decTT
  have hs := simTT (unfr bs).2.1 (unfr_bytes h)
  rcases Bool.eq_false_or_eq_true (rrTT (unfr bs).2.1 false).2.2 with hb | hb
  · have e1 : doneB (rrTT (unfr bs).2.1 false).2.1 (rrTT (unfr bs).2.1 false).2.2 = false := by unfold doneB; rw [hb]; rfl
    have e2 : doneB (rdTT (unfr bs).2.1).2.1 (rdTT (unfr bs).2.1).2.2 = false := by unfold doneB; rw [hs.2 hb]; rfl
    rw [if_pos e1, if_pos e2]
  · rw [hs.1 hb]
theorem rrMany_bad {α : Type} {f : List Int → Bool → α × List Int × Bool} {s : List Int} {b : Bool} {j : Nat} (h : (rrMany f j s b).2.2 = true) : ∀ n, j ≤ n → rrMany f n s b = rrMany f j s b
  | 0, hn => by rw [show j = 0 by omega]
  | n + 1, hn => by
    rcases Nat.lt_or_eq_of_le hn with h1 | h1
    · have e := rrMany_bad h n (by omega)
      rw [rrMany, e, if_pos h]
    · rw [h1]
theorem rrMany_snoc {α : Type} {f : List Int → Bool → α × List Int × Bool} {s : List Int} {b : Bool} {j : Nat} (h : (rrMany f j s b).2.2 = false) : rrMany f (j + 1) s b = ((rrMany f j s b).1 ++ [(f (rrMany f j s b).2.1 false).1], (f (rrMany f j s b).2.1 false).2) := by
  rw [rrMany, if_neg (by rw [h]; simp)]
theorem rrMany_len {α : Type} {f : List Int → Bool → α × List Int × Bool} : ∀ (k : Nat) (s : List Int) (b : Bool), (rrMany f k s b).1.length ≤ k
  | 0, _, _ => Nat.le_refl _
  | k + 1, s, b => by
    have := rrMany_len (f := f) k s b
    rw [rrMany]
    split
    · omega
    · rw [List.length_append]; simp; omega
theorem rrU_range {s : List Int} {m : Int} (b : Bool) (h : bytesL s) (hm : 0 ≤ m) : 0 ≤ (rrU m s b).1 ∧ (rrU m s b).1 ≤ m := by
  unfold rrU
  split
  · exact ⟨by simp, hm⟩
  · rename_i hc
    have he : (decU s).2.2 = 0 := Classical.not_not.1 fun e => hc (.inr (.inl e))
    have := decU_ok h he
    refine ⟨this.1, ?_⟩
    have h9 : ¬ m < (decU s).1 := fun e => hc (.inr (.inr e))
    simp only
    omega
/-- What holds while a flight is read. -/
structure FR (wo : World) (g : Nat) (S : Nat → Prop) (fb : Nat) (A : Option Addr) (n c : Nat) (body : List Int) (wr : World) (cs : Array Value) (r : List Int) (b : Bool) : Prop where
  but : But g wo wr
  rd : RRd wr g S A n c body r b
  f : wr.heap[fb]? = some (.cells cs 36 (0, 0))
  lt : wo.heap.size ≤ fb
  lg : g < fb
theorem FR.step {wo : World} {g : Nat} {S : Nat → Prop} {fb : Nat} {A : Option Addr} {n c : Nat} {body : List Int} {wr w5 : World} {cs : Array Value} {r r' : List Int} {b b' : Bool} (h : FR wo g S fb A n c body wr cs r b) (hS : ∀ b, S b → b < g)
    (hb : But g wr w5) (hr : RRd w5 g S A n c body r' b') (j : Nat) (x : Value) : FR wo g S fb A n c body (w5.setCell ⟨fb, j, none⟩ x) (cs.setIfInBounds j x) r' b' := by
  have h2 : fb < wr.heap.size := (Array.getElem?_eq_some_iff.1 h.f).1
  have h4 := h.lt
  have h5 := h.lg
  exact ⟨(h.but.trans hb).setFar h4 _ _, hr.setFar hS h5 _ _, heap_setCell_same _ _ _ _ _ _ ((hb.block fb h2 (by omega)).trans h.f), h.lt, h.lg⟩
theorem FR.cell5 {wo : World} {g : Nat} {S : Nat → Prop} {fb : Nat} {A : Option Addr} {n c : Nat} {body : List Int} {wr w5 : World} {cs : Array Value} {r : List Int} {b : Bool} (h : FR wo g S fb A n c body wr cs r b) (hb : But g wr w5) : w5.heap[fb]? = some (.cells cs 36 (0, 0)) := by
  have h5 := h.lg
  exact (hb.block fb (Array.getElem?_eq_some_iff.1 h.f).1 (by omega)).trans h.f
def needRr (s : List Int) (b : Bool) : Nat → (Int × Int × Int) × List Int × Bool
  | 0 => ((0, 0, 0), s, b)
  | j + 1 => (need3 (rrU bigU (needRr s b j).2.1 (needRr s b j).2.2).1 (needRr s b j).1 j, (rrU bigU (needRr s b j).2.1 (needRr s b j).2.2).2)
theorem rrFlight_eq (r : List Int) (b : Bool) : rrFlight r b = (let t1 := rrT r b
    let t2 := rrT t1.2.1 t1.2.2
    let t3 := rrT t2.2.1 t2.2.2
    let u1 := rrU bigU t3.2.1 t3.2.2
    let u2 := rrU bigU u1.2.1 u1.2.2
    let t4 := rrT u2.2.1 u2.2.2
    let n := needRr t4.2.1 t4.2.2 3
    (⟨t1.1, t2.1, t3.1, u1.1, u2.1, t4.1, n.1.1, n.1.2.1, n.1.2.2⟩, n.2.1, n.2.2)) := by
  simp only [rrFlight, bindR, pureR, needRr, need3]
theorem rrZone_eq (r : List Int) (b : Bool) : rrZone r b = (⟨(rrT r b).1, (rrI (rrT r b).2.1 (rrT r b).2.2).1, (rrMany rrShift (rrU 16 (rrI (rrT r b).2.1 (rrT r b).2.2).2.1 (rrI (rrT r b).2.1 (rrT r b).2.2).2.2).1.toNat (rrU 16 (rrI (rrT r b).2.1 (rrT r b).2.2).2.1 (rrI (rrT r b).2.1 (rrT r b).2.2).2.2).2.1 (rrU 16 (rrI (rrT r b).2.1 (rrT r b).2.2).2.1 (rrI (rrT r b).2.1 (rrT r b).2.2).2.2).2.2).1⟩, (rrMany rrShift (rrU 16 (rrI (rrT r b).2.1 (rrT r b).2.2).2.1 (rrI (rrT r b).2.1 (rrT r b).2.2).2.2).1.toNat (rrU 16 (rrI (rrT r b).2.1 (rrT r b).2.2).2.1 (rrI (rrT r b).2.1 (rrT r b).2.2).2.2).2.1 (rrU 16 (rrI (rrT r b).2.1 (rrT r b).2.2).2.1 (rrI (rrT r b).2.1 (rrT r b).2.2).2.2).2.2).2) := rfl
theorem rrShift_eq (r : List Int) (b : Bool) : rrShift r b = (⟨(rrU bigU r b).1, (rrI (rrU bigU r b).2.1 (rrU bigU r b).2.2).1⟩, (rrI (rrU bigU r b).2.1 (rrU bigU r b).2.2).2) := rfl

set_option maxRecDepth 100000 in
set_option maxHeartbeats 3200000 in
theorem ttDecodeR_any (bs : List Int) (A : Option Addr) (m c : Nat) (w : World) (h : Sl (Ty.int .u8) w (all_ w) A m c bs) (hb : bytesL bs) :
    Calls Try.prog 17 #[.slice A m c] w (DecPost (decR bs).1 (decR bs).2 w) := by
  have hn1 : m ≤ bs.length := Nat.le_of_eq h.len
  have hn2 : bs.length ≤ m := Nat.le_of_eq h.len.symm
  have hle := h.le
  unfold maxLen at hle
  have ha := (Below.refl w.heap.size w).alloc (Nat.le_refl _) (.cells #[.slice none 0 0, .slice none 0 0, .slice none 0 0] 26)
  have HU := Lib.hid (unframeR_any bs A m c _ (h.next ha) hb)
  have HT : Hid (decR bs = if (unfr bs).2.2.2 ≠ 0 then (noTT, (unfr bs).2.2.2) else
    if (unfr bs).1 ≠ 1 ∨ (unfr bs).2.2.1 ≠ bs.length then (noTT, 2) else
      if doneB (rrTT (unfr bs).2.1 false).2.1 (rrTT (unfr bs).2.1 false).2.2 = false then (noTT, 2) else
        if ttE (rrTT (unfr bs).2.1 false).1 ≠ 0 then (noTT, ttE (rrTT (unfr bs).2.1 false).1) else ((rrTT (unfr bs).2.1 false).1, 0)) := rfl
  have HR0 : Hid ((w.alloc (.cells #[.slice none 0 0, .slice none 0 0, .slice none 0 0] 26)).heap[w.heap.size]? = some (.cells #[.slice none 0 0, .slice none 0 0, .slice none 0 0] 26 (0, 0))) := heap_alloc_new _ _
  have HZ0 : Hid ((w.alloc (.cells #[.slice none 0 0, .slice none 0 0, .slice none 0 0] 26)).heap.size = w.heap.size + 1) := by show _ = _; simp
  have HA := Lib.hid ha
  have HBY := Lib.hid (unfr_bytes hb)
  clear h hb ha
  generalize unfr bs = u at *
  obtain ⟨kind, body, used, e0⟩ := u
  simp only at HT HU HBY
  go_enter Try.func17, Try.ntmps17
  go_wp2_with fail
  refine HU.out.mono ?_
  clear HU
  generalize w.alloc (.cells #[.slice none 0 0, .slice none 0 0, .slice none 0 0] 26) = W at *
  rintro e w1 ⟨A1, n1, c1, rfl, hsl, hb1, hpl⟩
  have HR1 : Hid (w1.heap[w.heap.size]? = some (.cells #[.slice none 0 0, .slice none 0 0, .slice none 0 0] 26 (0, 0))) := (hb1.block _ (by have := HZ0.out; omega)).trans HR0.out
  have z0 : w1.cell? ⟨w.heap.size, 0, none⟩ = some (.slice none 0 0) := block_cell HR1.out 0
  have z1 : w1.cell? ⟨w.heap.size, 1, none⟩ = some (.slice none 0 0) := block_cell HR1.out 1
  have z2 : w1.cell? ⟨w.heap.size, 2, none⟩ = some (.slice none 0 0) := block_cell HR1.out 2
  have f0 : w1.frozen? ⟨w.heap.size, 0, none⟩ = false := block_free HR1.out 0
  have f1 : w1.frozen? ⟨w.heap.size, 1, none⟩ = false := block_free HR1.out 1
  have f2 : w1.frozen? ⟨w.heap.size, 2, none⟩ = false := block_free HR1.out 2
  have hbw : Below w.heap.size w w1 := HA.out.trans (hb1.mono (by have := HZ0.out; omega))
  have hbad : ∀ (W' : World) (x : Int), Below w.heap.size w W' → DecPost noTT x w (.returned (.tuple #[.agg #[.slice none 0 0, .slice none 0 0, .slice none 0 0], .int .i64 x])) W' := fun W' x hb => ⟨none, 0, 0, none, 0, 0, none, 0, 0, rfl, Sl.nil0, Sl.nil0, Sl.nil0, hb⟩
  have HBAD := Lib.hid hbad
  clear hbad
  by_cases he : e0 = 0
  case neg =>
    have he' : (e0 != 0) = true := by simpa using he
    have HR : Hid (decR bs = (noTT, e0)) := by show _ = _; rw [HT.out, if_pos he]
    clear HT he
    go_wp2_with fail
    refine bodyPost_ret (v := .tuple #[.agg #[.slice none 0 0, .slice none 0 0, .slice none 0 0], .int .i64 e0]) (by simp [results, Try.results17, go_sem, z0, z1, z2]) rfl ?_
    rw [HR.out]
    exact HBAD.out _ _ (((hbw.setCell (Nat.le_refl _) _).setCell (Nat.le_refl _) _).setCell (Nat.le_refl _) _)
  subst he
  rw [if_neg (by simp)] at HT
  by_cases hk : kind = 1
  case neg =>
    have hk' : (kind != 1) = true := by simpa using hk
    have HR : Hid (decR bs = (noTT, 2)) := by show _ = _; rw [HT.out, if_pos (.inl hk)]
    clear HT hk
    go_wp2_with fail
    refine bodyPost_ret (v := .tuple #[.agg #[.slice none 0 0, .slice none 0 0, .slice none 0 0], .int .i64 2]) (by simp [results, Try.results17, go_sem, z0, z1, z2]) rfl ?_
    rw [HR.out]
    exact HBAD.out _ _ (((hbw.setCell (Nat.le_refl _) _).setCell (Nat.le_refl _) _).setCell (Nat.le_refl _) _)
  subst hk
  by_cases hus : used = m
  case neg =>
    have hu' : ((used : Int) != (m : Int)) = true := by simp; omega
    have HR : Hid (decR bs = (noTT, 2)) := by show _ = _; rw [HT.out, if_pos (.inr (by omega))]
    clear HT hus
    go_wp2_with fail
    refine bodyPost_ret (v := .tuple #[.agg #[.slice none 0 0, .slice none 0 0, .slice none 0 0], .int .i64 2]) (by simp [results, Try.results17, go_sem, z0, z1, z2]) rfl ?_
    rw [HR.out]
    exact HBAD.out _ _ (((hbw.setCell (Nat.le_refl _) _).setCell (Nat.le_refl _) _).setCell (Nat.le_refl _) _)
  subst hus
  rw [if_neg (by rintro (h | h); exact h rfl; omega)] at HT
  have hu' : ((used : Int) != (used : Int)) = false := by simp
  -- the reader and the timetable's box
  have hsz1 : w.heap.size < w1.heap.size := by have := hb1.size; have := HZ0.out; omega
  have hln1 : n1 = body.length := hsl.len
  have HDI0 : Hid (DR w w1.heap.size (fun b => w.heap.size < b ∧ b < w1.heap.size) (w1.heap.size + 1) A1 n1 c1 body ((w1.alloc (.cells #[.slice A1 n1 c1, .int .i64 0, .int .i64 0] 95)).alloc (.cells #[.slice none 0 0, .slice none 0 0, .slice none 0 0] 26)) #[.slice none 0 0, .slice none 0 0, .slice none 0 0] body false) := by
    have hzz := HZ0.out
    refine ⟨heap_alloc2_new _ _ _, ?_, ?_, (hbw.alloc (by omega) _).alloc (by simp; omega) _, hsz1, Nat.lt_succ_self _, fun b hb => hb.2⟩
    · rw [Below.heap_alloc _ _ _ (by simp; omega), Below.heap_alloc _ _ _ hsz1]
      exact HR1.out
    · have hg2 : ((w1.alloc (.cells #[.slice A1 n1 c1, .int .i64 0, .int .i64 0] 95)).alloc (.cells #[.slice none 0 0, .slice none 0 0, .slice none 0 0] 26)).heap[w1.heap.size]? = some (.cells #[.slice A1 n1 c1, .int .i64 0, .int .i64 0] 95 (0, 0)) := heap_alloc2_old _ _ _
      refine ⟨block_cell hg2 0, ?_, by rw [Nat.sub_self]; exact block_cell hg2 1, block_cell hg2 2, by rw [Nat.sub_self]; rfl, Nat.le_refl _, hpl, fun j => block_free hg2 j, HBY.out, fun h => Nat.lt_irrefl _ h.2, fun b hb => by simp; omega⟩
      refine (hsl.more fun b hb => ⟨by omega, hb.2⟩).keep fun b hb => ?_
      rw [Below.heap_alloc _ _ _ (by simp; omega), Below.heap_alloc _ _ _ hb.2]
  have HLN := Lib.hid hln1
  clear z0 z1 z2 f0 f1 f2 hsl HR1 hb1 hbw HR0 HA HZ0 hln1 hpl
  go_wp2_with fail
  generalize (w1.alloc (.cells #[.slice A1 n1 c1, .int .i64 0, .int .i64 0] 95)).alloc (.cells #[.slice none 0 0, .slice none 0 0, .slice none 0 0] 26) = W1 at *
  refine (rrUint_any w1.heap.size (fun b => w.heap.size < b ∧ b < w1.heap.size) A1 n1 c1 body body false 16 W1 HDI0.out.rd).mono ?_
  rintro e w2 ⟨rfl, hr2, hb2⟩
  generalize hSS : (fun b => w.heap.size < b ∧ b < w1.heap.size) = S at *
  clear hSS
  generalize w1.heap.size = g at *
  have hdi := HDI0.out.call hb2 hr2
  have hn := rrU_range (m := 16) false HBY.out (by decide)
  have HRD : Hid (rrTT body false = (let n1 := rrU 16 body false
    let z := rrMany rrZone n1.1.toNat n1.2.1 n1.2.2
    let n2 := rrU 64 z.2.1 z.2.2
    let a := rrMany rrAirport n2.1.toNat n2.2.1 n2.2.2
    let n3 := rrU 200 a.2.1 a.2.2
    let f := rrMany rrFlight n3.1.toNat n3.2.1 n3.2.2
    (⟨z.1, a.1, f.1⟩, f.2.1, f.2.2))) := rfl
  clear hr2 hb2 HDI0
  generalize rrU 16 body false = q1 at *
  obtain ⟨nn, r0, b0⟩ := q1
  simp only at hdi hn
  obtain ⟨k1, rfl⟩ := Int.eq_ofNat_of_zero_le hn.1
  have hk1 : k1 ≤ 16 := by omega
  have HINV := Lib.hid hdi
  clear hn hdi
  go_upto_block 0 with (fail)
  go_cut [] (fun wx => ∃ v, DR w g S (g + 1) A1 n1 c1 body wx #[v, .slice none 0 0, .slice none 0 0] (rrMany rrZone k1 r0 b0).2.1 (rrMany rrZone k1 r0 b0).2.2 ∧ Own Ty.zone 42 wx (g + 2) v (rrMany rrZone k1 r0 b0).1)
  case first =>
    go_wp2_with fail
    go_loopw [11] (fun i wr => ∃ (k : Nat) (v : Value), k ≤ k1 ∧ i = .int .i64 k ∧ DR w g S (g + 1) A1 n1 c1 body wr #[v, .slice none 0 0, .slice none 0 0] (rrMany rrZone k r0 b0).2.1 (rrMany rrZone k r0 b0).2.2 ∧ Own Ty.zone 42 wr (g + 2) v (rrMany rrZone k r0 b0).1) (fun i _ => k1 - (intOf i).toNat)
    case atStart => exact ⟨0, _, Nat.zero_le _, rfl, HINV.out, Own.nil⟩
    case round =>
      obtain ⟨k, v, hk, rfl, hdi, hown⟩ := hrel
      clear HINV
      have hE := hdi.rd.c2
      by_cases hlt : k < k1 ∧ (rrMany rrZone k r0 b0).2.2 = false
      · obtain ⟨hlt, hnb⟩ := hlt
        have HSN := Lib.hid (rrMany_snoc hnb)
        have hll := rrMany_len (f := rrZone) k r0 b0
        generalize rrMany rrZone k r0 b0 = q at *
        obtain ⟨xs, r, b⟩ := q
        simp only at hdi hown HSN hll hnb hE
        subst hnb
        simp only [if_neg (show ¬ false = true by simp)] at hE
        have HI := Lib.hid hdi
        have HO := Lib.hid hown
        have hsS := hdi.sS
        have hwsz := hdi.lt
        have hrd := hdi.rd
        clear hdi hown
        go_wp2_with fail
        refine (rrText_any g S A1 n1 c1 body r false wr hrd).mono ?_
        rintro e w3 ⟨rfl, hr3, hb3⟩
        have HZE := Lib.hid (rrZone_eq r false)
        generalize rrT r false = t1 at *
        clear hrd hE
        go_wp2_with fail
        refine (rrInt_any g S A1 n1 c1 body t1.2.1 t1.2.2 w3 hr3).mono ?_
        rintro e w4 ⟨rfl, hr4, hb4⟩
        generalize rrI t1.2.1 t1.2.2 = i1 at *
        have hb34 := hb3.trans hb4
        have hs4 := hb34.size
        clear hr3 hb3 hb4
        have hr4' := hr4.next ((Below.refl _ _).alloc (Nat.le_refl _) (.cells #[.string t1.1, .int .i64 i1.1, .slice none 0 0] 42))
        have hbx := heap_alloc_new w4 (.cells #[.string t1.1, .int .i64 i1.1, .slice none 0 0] 42)
        have hba := hb34.alloc (.cells #[.string t1.1, .int .i64 i1.1, .slice none 0 0] 42)
        have hsa : (w4.alloc (.cells #[.string t1.1, .int .i64 i1.1, .slice none 0 0] 42)).heap.size = w4.heap.size + 1 := by simp
        have HR4 := Lib.hid hr4'; have HBX := Lib.hid hbx; have HBA := Lib.hid hba; have HSA := Lib.hid hsa
        clear hr4 hr4' hbx hba hsa hb34
        go_wp2_with fail
        generalize w4.alloc (.cells #[.string t1.1, .int .i64 i1.1, .slice none 0 0] 42) = V at *
        refine (rrUint_any g S A1 n1 c1 body i1.2.1 i1.2.2 16 V HR4.out).mono ?_
        rintro e w5 ⟨rfl, hr5, hb5⟩
        have hn := rrU_range (m := 16) i1.2.2 (fun x hx => HR4.out.rest_by x hx) (by decide)
        have hbx5 : w5.heap[w4.heap.size]? = some (.cells #[.string t1.1, .int .i64 i1.1, .slice none 0 0] 42 (0, 0)) := (hb5.block _ (by have := HSA.out; omega) (by have := HI.out.l2; omega)).trans HBX.out
        have hbt5 := HBA.out.trans hb5
        generalize rrU 16 i1.2.1 i1.2.2 = n1' at *
        obtain ⟨nv, r5, b5⟩ := n1'
        simp only at hr5 hn HZE
        obtain ⟨ns, rfl⟩ := Int.eq_ofNat_of_zero_le hn.1
        have hns : ns ≤ 16 := by omega
        clear hn HR4 HBX HBA HSA hb5
        simp only [Int.toNat_natCast] at HZE
        generalize w4.heap.size = zb at *
        have HINV2 : Hid (ZR wr g S zb A1 n1 c1 body w5 t1.1 i1.1 (.slice none 0 0) [] r5 b5) := ⟨hbt5, hr5, hbx5, Own.nil, hs4, by have := HI.out.l2; omega⟩
        clear hbt5 hr5 hbx5
        go_wp2_with fail
        obtain ⟨wo, rfl⟩ : ∃ wo : World, wo = wr := ⟨_, rfl⟩
        go_loopw [14] (fun i wq => ∃ (j : Nat) (v : Value), j ≤ ns ∧ i = .int .i64 j ∧ ZR wo g S zb A1 n1 c1 body wq t1.1 i1.1 v (rrMany rrShift j r5 b5).1 (rrMany rrShift j r5 b5).2.1 (rrMany rrShift j r5 b5).2.2) (fun i _ => ns - (intOf i).toNat)
        case atStart => exact ⟨0, _, Nat.zero_le _, rfl, HINV2.out⟩
        case round =>
          obtain ⟨j, vs, hj, rfl, hzr⟩ := hrel
          clear HINV2
          have hE := hzr.rd.c2
          by_cases hlj : j < ns ∧ (rrMany rrShift j r5 b5).2.2 = false
          · obtain ⟨hlj, hnb⟩ := hlj
            have HSN2 := Lib.hid (rrMany_snoc hnb)
            have hl2 := rrMany_len (f := rrShift) j r5 b5
            generalize rrMany rrShift j r5 b5 = q2 at *
            obtain ⟨ys, rs, bs2⟩ := q2
            simp only at hzr HSN2 hl2 hnb hE
            subst hnb
            simp only [if_neg (show ¬ false = true by simp)] at hE
            rw [rrShift_eq] at HSN2
            have hc : ∀ q, (wr.drewN q).cell? ⟨zb, 2, none⟩ = some vs := fun q => block_cell (w := wr.drewN q) hzr.z 2
            have HC := Lib.hid hc
            have HRR : Hid (∀ q, RRd (wr.drewN q) g S A1 n1 c1 body rs false) := fun q => hzr.rd.drewN q
            have HZI := Lib.hid hzr
            have hgz : g < zb := hzr.lg
            have hc1 : wr.cell? ⟨zb, 2, none⟩ = some vs := block_cell hzr.z 2
            clear hzr hc
            go_wp2_with fail
            go_region_law (first
              | (refine step_push rfl (.tmp 77) (.tmp 83) 40 rfl 16 elem_shift (by simp [Act.eval, Act.put]) (HOWN.out _) w8.heap.size ⟨(rrU bigU rs false).1, (rrI (rrU bigU rs false).2.1 (rrU bigU rs false).2.2).1⟩ (fun _ => False) (by simp [Act.eval, Act.put]) ⟨[.int .i64 (rrU bigU rs false).1, .int .i64 (rrI (rrU bigU rs false).2.1 (rrU bigU rs false).2.2).1], rfl, At.new w8 #[.int .i64 (rrU bigU rs false).1, .int .i64 (rrI (rrU bigU rs false).2.1 (rrU bigU rs false).2.2).1] _⟩ (fun _ h => h.elim) (by omega) (by decide) (by simp; omega) ?_; intro g6 cap6 w9 hown9 hgr9 hat9; have hb9 := (hbD.trans hb7).trans hb8; have hz9 := HZI.out.zb6 hb9 hgr9; have hc9 : w9.cell? ⟨zb, 2, none⟩ = some vs := block_cell hz9 2; have hf9 : w9.frozen? ⟨zb, 2, none⟩ = false := block_free hz9 2; have HSTEP := Lib.hid (HZI.out.step hsS hb9 hr8 hgr9 hown9); clear hz9)
              | (go_simp; go_at_call 52; refine (rrUint_any g S A1 n1 c1 body rs false bigU _ (HRR.out _)).mono ?_; rintro e w7 ⟨rfl, hr7, hb7⟩; have hc7 : w7.cell? ⟨zb, 2, none⟩ = some vs := hb7.cell (HC.out _) (by simp; omega); have hbD := (But.refl g wr).drewN 1)
              | (go_simp; go_at_call 54; refine (rrInt_any g S A1 n1 c1 body _ _ _ hr7).mono ?_; rintro e w8 ⟨rfl, hr8, hb8⟩; have hc8 : w8.cell? ⟨zb, 2, none⟩ = some vs := hb8.cell hc7 (by simp; omega); have HOWN : Hid (∀ o, Own Ty.shift 44 (w8.alloc o) (zb + 1) vs ys) := fun o => (((HZI.out.own.drewN _).but hb7 (by omega)).but hb8 (by omega)).alloc o; have hzs8 : zb + 1 ≤ w8.heap.size := World.block_lt_of_cell? w8 _ hc8; have hc8' : ∀ o, (w8.alloc o).cell? ⟨zb, 2, none⟩ = some vs := fun o => (World.cell?_alloc_past _ _ _ (by omega)).trans hc8)
              | fail)
            all_goals
              go_wp2_with fail
              go_roundw
              case rel => exact ⟨j + 1, _, by omega, by go_num, by rw [HSN2.out]; exact HSTEP.out⟩
              case measure => simp [intOf]; omega
          · have HM : Hid (rrMany rrShift ns r5 b5 = rrMany rrShift j r5 b5) := by
              show _ = _
              by_cases h1 : j < ns
              · refine rrMany_bad ?_ ns hj
                rcases Bool.eq_false_or_eq_true (rrMany rrShift j r5 b5).2.2 with h2 | h2
                · exact h2
                · exact absurd ⟨h1, h2⟩ hlj
              · rw [show ns = j by omega]
            have htest : ¬ j < ns ∨ (j < ns ∧ (rrMany rrShift j r5 b5).2.2 = true) := by
              by_cases h1 : j < ns
              · rcases Bool.eq_false_or_eq_true (rrMany rrShift j r5 b5).2.2 with h2 | h2
                · exact .inr ⟨h1, h2⟩
                · exact absurd ⟨h1, h2⟩ hlj
              · exact .inl h1
            rw [HM.out] at HZE
            have hl2 := rrMany_len (f := rrShift) j r5 b5
            clear HM hlj
            generalize rrMany rrShift j r5 b5 = q2 at *
            obtain ⟨ys, rs, bs2⟩ := q2
            simp only at hzr hE HZE htest hl2
            obtain ⟨As, cs, rfl, hsls⟩ := hzr.own.sl
            have hdi2 := HI.out.call hzr.but hzr.rd
            have hsz2 := hdi2.lt
            have hzl := hzr.lt
            have hzg := hzr.lg
            have hzw : zb < wr.heap.size := (Array.getElem?_eq_some_iff.1 hzr.z).1
            have y0 : wr.cell? ⟨zb, 0, none⟩ = some (.string t1.1) := block_cell hzr.z 0
            have y1 : wr.cell? ⟨zb, 1, none⟩ = some (.int .i64 i1.1) := block_cell hzr.z 1
            have y2 : wr.cell? ⟨zb, 2, none⟩ = some (.slice As ys.length cs) := block_cell hzr.z 2
            have x0 : wr.cell? ⟨g + 1, 0, none⟩ = some v := block_cell hdi2.t 0
            have HOZ := Lib.hid (HO.out.but hzr.but (by omega))
            have HROW : Hid (∀ k, v.ownBlock = some k → g + 1 < k) := fun k hk => by have := (HO.out.lt k hk).1; omega
            have HSEP : Hid (∀ o b, wo.heap.size ≤ b ∧ b < wr.heap.size → g + 2 ≤ b ∧ b < (wr.alloc o).heap.size ∧ some b ≠ v.ownBlock) := fun o b hb => ⟨by omega, by simp; omega, fun e => by have := (HO.out.lt b e.symm).2; omega⟩
            have HREP : Hid (Ty.zone.rep (wr.alloc (.cells #[.string t1.1, .int .i64 i1.1, .slice As ys.length cs] 42)) (fun b => wo.heap.size ≤ b ∧ b < wr.heap.size) [.string t1.1, .int .i64 i1.1, .slice As ys.length cs] ⟨t1.1, i1.1, ys⟩ ∧ At (wr.alloc (.cells #[.string t1.1, .int .i64 i1.1, .slice As ys.length cs] 42)) wr.heap.size 0 [.string t1.1, .int .i64 i1.1, .slice As ys.length cs]) :=
              ⟨⟨As, _, cs, rfl, (hsls.keep fun b hb => Below.heap_alloc _ _ _ hb.2).more fun b hb => ⟨by omega, hb.2⟩⟩, At.new _ _ _⟩
            have HD2 := Lib.hid hdi2
            have HRD2 := Lib.hid hzr.rd
            have x0' : ∀ o, (wr.alloc o).cell? ⟨g + 1, 0, none⟩ = some v := fun o => (World.cell?_alloc_past _ _ _ (by omega)).trans x0
            clear hsls hdi2 hzr
            have HTST : Hid ((¬ j < ns) ∨ (j < ns ∧ bs2 = true)) := htest
            clear htest
            rcases HTST.out with ht | ⟨ht, hbt⟩
            · go_wp2_with (at_builtin; refine wpList_push rfl _ _ _ rfl 48 elem_zone rfl (HOZ.out.alloc _) wr.heap.size ⟨t1.1, i1.1, ys⟩ (fun b => wo.heap.size ≤ b ∧ b < wr.heap.size) rfl ⟨_, HREP.out.1, HREP.out.2⟩ (HSEP.out _) ?ac1 (by decide) ?ac2 ?_)
              case ac1 => omega
              case ac2 => first | omega | (simp; omega)
              intro v6 w6 hown6 hgr6
              obtain ⟨A6, c6, hv6, -⟩ := hown6.sl
              rw [List.length_append, List.length_singleton] at hv6
              subst hv6
              have hz6 := HD2.out.t6 (But.refl g wr) hgr6 HROW.out
              have hc6 : w6.cell? ⟨g + 1, 0, none⟩ = some v := block_cell hz6 0
              have hf6 : w6.frozen? ⟨g + 1, 0, none⟩ = false := block_free hz6 0
              have HSTEP := Lib.hid (HD2.out.step (But.refl g wr) HRD2.out hgr6 HROW.out 0 (.slice A6 (xs.length + 1) c6))
              have HOWN6 := Lib.hid (hown6.setCell (g := g + 1) (j := 0) (by omega) (.slice A6 (xs.length + 1) c6))
              clear hz6 hown6 hgr6
              go_wp2_with fail
              go_roundw
              case rel => exact ⟨k + 1, _, by omega, by go_num, by rw [HSN.out, HZE.out]; exact HSTEP.out, by rw [HSN.out, HZE.out]; exact HOWN6.out⟩
              case measure => simp [intOf]; omega
            · subst hbt
              have hE2 : wr.cell? ⟨g, 2, none⟩ = some (.int .i64 2) := hE
              clear hE
              go_wp2_with (at_builtin; refine wpList_push rfl _ _ _ rfl 48 elem_zone rfl (HOZ.out.alloc _) wr.heap.size ⟨t1.1, i1.1, ys⟩ (fun b => wo.heap.size ≤ b ∧ b < wr.heap.size) rfl ⟨_, HREP.out.1, HREP.out.2⟩ (HSEP.out _) ?bc1 (by decide) ?bc2 ?_)
              case bc1 => omega
              case bc2 => first | omega | (simp; omega)
              intro v6 w6 hown6 hgr6
              obtain ⟨A6, c6, hv6, -⟩ := hown6.sl
              rw [List.length_append, List.length_singleton] at hv6
              subst hv6
              have hz6 := HD2.out.t6 (But.refl g wr) hgr6 HROW.out
              have hc6 : w6.cell? ⟨g + 1, 0, none⟩ = some v := block_cell hz6 0
              have hf6 : w6.frozen? ⟨g + 1, 0, none⟩ = false := block_free hz6 0
              have HSTEP := Lib.hid (HD2.out.step (But.refl g wr) HRD2.out hgr6 HROW.out 0 (.slice A6 (xs.length + 1) c6))
              have HOWN6 := Lib.hid (hown6.setCell (g := g + 1) (j := 0) (by omega) (.slice A6 (xs.length + 1) c6))
              clear hz6 hown6 hgr6
              go_wp2_with fail
              go_roundw
              case rel => exact ⟨k + 1, _, by omega, by go_num, by rw [HSN.out, HZE.out]; exact HSTEP.out, by rw [HSN.out, HZE.out]; exact HOWN6.out⟩
              case measure => simp [intOf]; omega
      · have HM : Hid (rrMany rrZone k1 r0 b0 = rrMany rrZone k r0 b0) := by
          show _ = _
          by_cases h1 : k < k1
          · refine rrMany_bad ?_ k1 hk
            rcases Bool.eq_false_or_eq_true (rrMany rrZone k r0 b0).2.2 with h2 | h2
            · exact h2
            · exact absurd ⟨h1, h2⟩ hlt
          · rw [show k1 = k by omega]
        have htest : ¬ k < k1 ∨ (k < k1 ∧ (rrMany rrZone k r0 b0).2.2 = true) := by
          by_cases h1 : k < k1
          · rcases Bool.eq_false_or_eq_true (rrMany rrZone k r0 b0).2.2 with h2 | h2
            · exact .inr ⟨h1, h2⟩
            · exact absurd ⟨h1, h2⟩ hlt
          · exact .inl h1
        have HFIN : Hid (∃ v, DR w g S (g + 1) A1 n1 c1 body wr #[v, .slice none 0 0, .slice none 0 0] (rrMany rrZone k1 r0 b0).2.1 (rrMany rrZone k1 r0 b0).2.2 ∧ Own Ty.zone 42 wr (g + 2) v (rrMany rrZone k1 r0 b0).1) := by
          rw [HM.out]
          exact ⟨v, hdi, hown⟩
        clear hdi hown HM hlt
        rcases htest with ht | ⟨ht, hbt⟩
        · go_wp2_with fail
          go_meet
          exact HFIN.out
        · rw [hbt] at hE
          have hE2 : wr.cell? ⟨g, 2, none⟩ = some (.int .i64 2) := hE
          clear hE hbt
          go_wp2_with fail
          go_meet
          exact HFIN.out
  case rest =>
    obtain ⟨v, hdi, hown⟩ := hcut
    clear HINV
    simp only [Int.toNat_natCast] at HRD
    generalize rrMany rrZone k1 r0 b0 = qz at *
    obtain ⟨zs, r, b⟩ := qz
    simp only at hdi hown HRD
    obtain ⟨Az, cz, rfl, hslz⟩ := hown.sl
    have HI := Lib.hid hdi
    have HSLZ := Lib.hid hslz
    have hn := rrU_range (m := 64) b (fun x hx => hdi.rd.rest_by x hx) (by decide)
    clear hdi hown hslz
    go_wp2_with fail
    refine (rrUint_any g S A1 n1 c1 body r b 64 wc HI.out.rd).mono ?_
    rintro e w3 ⟨rfl, hr3, hb3⟩
    have hdi2 := HI.out.call hb3 hr3
    have hszz := hdi2.lt
    have HSLZ2 : Hid (Sl Ty.zone w3 (fun b => g + 1 < b ∧ b < w3.heap.size) Az zs.length cz zs) := by
      refine (HSLZ.out.keep fun q hq => ?_).more fun q hq => ⟨by omega, by have := hb3.size; omega⟩
      exact hb3.block q hq.2 (by omega)
    clear hr3 hb3 HI HSLZ
    generalize rrU 64 r b = q1 at *
    obtain ⟨nn, r1, b1⟩ := q1
    simp only at hdi2 hn HRD
    obtain ⟨k2, rfl⟩ := Int.eq_ofNat_of_zero_le hn.1
    have hk2 : k2 ≤ 64 := by omega
    have HINV := Lib.hid hdi2
    clear hn hdi2
    generalize hH2 : w3.heap.size = H2 at *
    have hH2' : H2 ≤ w3.heap.size := by omega
    clear hH2
    go_upto_block 4 with (fail)
    go_cut [] (fun wx => ∃ v, DR w g S (g + 1) A1 n1 c1 body wx #[.slice Az zs.length cz, v, .slice none 0 0] (rrMany rrAirport k2 r1 b1).2.1 (rrMany rrAirport k2 r1 b1).2.2 ∧ Own Ty.airport 39 wx H2 v (rrMany rrAirport k2 r1 b1).1 ∧ H2 ≤ wx.heap.size ∧ Sl Ty.zone wx (fun b => g + 1 < b ∧ b < H2) Az zs.length cz zs)
    case first =>
      go_wp2_with fail
      go_loopw [15] (fun i wr => ∃ (k : Nat) (v : Value), k ≤ k2 ∧ i = .int .i64 k ∧ DR w g S (g + 1) A1 n1 c1 body wr #[.slice Az zs.length cz, v, .slice none 0 0] (rrMany rrAirport k r1 b1).2.1 (rrMany rrAirport k r1 b1).2.2 ∧ Own Ty.airport 39 wr H2 v (rrMany rrAirport k r1 b1).1 ∧ H2 ≤ wr.heap.size ∧ Sl Ty.zone wr (fun b => g + 1 < b ∧ b < H2) Az zs.length cz zs) (fun i _ => k2 - (intOf i).toNat)
      case atStart => exact ⟨0, _, Nat.zero_le _, rfl, HINV.out, Own.nil, hH2', HSLZ2.out⟩
      case round =>
        obtain ⟨k, v, hk, rfl, hdi, hown, hHs, hslz⟩ := hrel
        clear HINV HSLZ2 hH2'
        have hE := hdi.rd.c2
        by_cases hlt : k < k2 ∧ (rrMany rrAirport k r1 b1).2.2 = false
        · obtain ⟨hlt, hnb⟩ := hlt
          have HSN := Lib.hid (rrMany_snoc hnb)
          have hll := rrMany_len (f := rrAirport) k r1 b1
          generalize rrMany rrAirport k r1 b1 = q at *
          obtain ⟨xs, r, b⟩ := q
          simp only at hdi hown HSN hll hnb hE
          subst hnb
          simp only [if_neg (show ¬ false = true by simp)] at hE
          have HAE : Hid (rrAirport r false = (⟨(rrT r false).1, (rrT (rrT r false).2.1 (rrT r false).2.2).1⟩, (rrT (rrT r false).2.1 (rrT r false).2.2).2)) := rfl
          have HC : Hid (∀ q, (wr.drewN q).cell? ⟨g + 1, 1, none⟩ = some v) := fun q => block_cell (w := wr.drewN q) hdi.t 1
          have hc1 : wr.cell? ⟨g + 1, 1, none⟩ = some v := block_cell hdi.t 1
          have HRR : Hid (∀ q, RRd (wr.drewN q) g S A1 n1 c1 body r false) := fun q => hdi.rd.drewN q
          have HI := Lib.hid hdi
          have HO := Lib.hid hown
          have HSZ := Lib.hid hslz
          have hwsz := hdi.lt
          have hbD := (But.refl g wr).drewN 1
          have HROW0 : Hid (∀ k, v.ownBlock = some k → H2 ≤ k) := fun k hk => (HO.out.lt k hk).1
          have HROW : Hid (∀ k, v.ownBlock = some k → g + 1 < k) := fun k hk => by have := (HO.out.lt k hk).1; omega
          clear hdi hown hslz
          go_wp2_with fail
          go_region_law (first
            | (refine step_push rfl (.tmp 107) (.tmp 113) 23 rfl 32 elem_airport (by simp [Act.eval, Act.put]) (HOWN.out _) w5.heap.size ⟨(rrT r false).1, (rrT (rrT r false).2.1 (rrT r false).2.2).1⟩ (fun _ => False) (by simp [Act.eval, Act.put]) ⟨[.string (rrT r false).1, .string (rrT (rrT r false).2.1 (rrT r false).2.2).1], rfl, At.new w5 #[.string (rrT r false).1, .string (rrT (rrT r false).2.1 (rrT r false).2.2).1] _⟩ (fun _ h => h.elim) (by omega) (by decide) (by simp; omega) ?_; intro g6 cap6 w6 hown6 hgr6 hat6; have hz6 := HI.out.t6 hb7 hgr6 HROW.out; have hc6 : w6.cell? ⟨g + 1, 1, none⟩ = some v := block_cell hz6 1; have hf6 : w6.frozen? ⟨g + 1, 1, none⟩ = false := block_free hz6 1; have HSTEP := Lib.hid (HI.out.step hb7 hr5 hgr6 HROW.out 1 (.slice (some ⟨g6, 0, none⟩) (xs.length + 1) cap6)); have HOWN6 := Lib.hid (hown6.setCell (g := g + 1) (j := 1) (by omega) (.slice (some ⟨g6, 0, none⟩) (xs.length + 1) cap6)); have HS6 := Lib.hid (HSZ.out.keep (HI.out.mid hb7 hgr6 HROW0.out (by omega) hHs 1 (.slice (some ⟨g6, 0, none⟩) (xs.length + 1) cap6))); have hhs6 := hgr6.size; clear hz6)
            | (go_simp; go_at_call 53; refine (rrText_any g S A1 n1 c1 body _ _ _ hr4).mono ?_; rintro e w5 ⟨rfl, hr5, hb5⟩; have hc5 : w5.cell? ⟨g + 1, 1, none⟩ = some v := hb5.cell hc4 (by simp); have hb7 := (hbD.trans hb4).trans hb5; have hs5 := hb7.size; have hc5' : ∀ o, (w5.alloc o).cell? ⟨g + 1, 1, none⟩ = some v := fun o => (World.cell?_alloc_past _ _ _ (by omega)).trans hc5; have HOWN : Hid (∀ o, Own Ty.airport 39 (w5.alloc o) H2 v xs) := fun o => (HO.out.but hb7 (by omega)).alloc o)
            | (go_simp; go_at_call 53; refine (rrText_any g S A1 n1 c1 body r false _ (HRR.out _)).mono ?_; rintro e w4 ⟨rfl, hr4, hb4⟩; have hc4 : w4.cell? ⟨g + 1, 1, none⟩ = some v := hb4.cell (HC.out _) (by simp))
            | fail)
          all_goals
            go_wp2_with fail
            go_roundw
            case rel => exact ⟨k + 1, _, by omega, by go_num, by rw [HSN.out, HAE.out]; exact HSTEP.out, by rw [HSN.out, HAE.out]; exact HOWN6.out, by simp at hhs6; simp; omega, HS6.out⟩
            case measure => simp [intOf]; omega
        · have HM : Hid (rrMany rrAirport k2 r1 b1 = rrMany rrAirport k r1 b1) := by
            show _ = _
            by_cases h1 : k < k2
            · refine rrMany_bad ?_ k2 hk
              rcases Bool.eq_false_or_eq_true (rrMany rrAirport k r1 b1).2.2 with h2 | h2
              · exact h2
              · exact absurd ⟨h1, h2⟩ hlt
            · rw [show k2 = k by omega]
          have htest : ¬ k < k2 ∨ (k < k2 ∧ (rrMany rrAirport k r1 b1).2.2 = true) := by
            by_cases h1 : k < k2
            · rcases Bool.eq_false_or_eq_true (rrMany rrAirport k r1 b1).2.2 with h2 | h2
              · exact .inr ⟨h1, h2⟩
              · exact absurd ⟨h1, h2⟩ hlt
            · exact .inl h1
          have HFIN : Hid (∃ v, DR w g S (g + 1) A1 n1 c1 body wr #[.slice Az zs.length cz, v, .slice none 0 0] (rrMany rrAirport k2 r1 b1).2.1 (rrMany rrAirport k2 r1 b1).2.2 ∧ Own Ty.airport 39 wr H2 v (rrMany rrAirport k2 r1 b1).1 ∧ H2 ≤ wr.heap.size ∧ Sl Ty.zone wr (fun b => g + 1 < b ∧ b < H2) Az zs.length cz zs) := by
            rw [HM.out]
            exact ⟨v, hdi, hown, hHs, hslz⟩
          clear hdi hown HM hlt hslz
          rcases htest with ht | ⟨ht, hbt⟩
          · go_wp2_with fail
            go_meet
            exact HFIN.out
          · rw [hbt] at hE
            have hE2 : wr.cell? ⟨g, 2, none⟩ = some (.int .i64 2) := hE
            clear hE hbt
            go_wp2_with fail
            go_meet
            exact HFIN.out
    case rest =>
      obtain ⟨v, hdi, hown, hHs, hslz⟩ := hcut
      clear HINV HSLZ2 hH2'
      simp only [Int.toNat_natCast] at HRD
      generalize rrMany rrAirport k2 r1 b1 = qa at *
      obtain ⟨aps, r, b⟩ := qa
      simp only at hdi hown HRD
      obtain ⟨Aa, ca, rfl, hsla⟩ := hown.sl
      have HI := Lib.hid hdi
      have HSLA := Lib.hid hsla
      have HSLZ := Lib.hid hslz
      have hn := rrU_range (m := 200) b (fun x hx => hdi.rd.rest_by x hx) (by decide)
      clear hdi hown hsla hslz
      go_wp2_with fail
      obtain ⟨wa, rfl⟩ : ∃ wa : World, wa = wc := ⟨_, rfl⟩
      refine (rrUint_any g S A1 n1 c1 body r b 200 wa HI.out.rd).mono ?_
      rintro e w4 ⟨rfl, hr4, hb4⟩
      have hdi2 := HI.out.call hb4 hr4
      have hszz3 := hdi2.lt
      have hss := hb4.size
      have HSLA2 : Hid (Sl Ty.airport w4 (fun b => g + 1 < b ∧ b < w4.heap.size) Aa aps.length ca aps) := by
        refine (HSLA.out.keep fun q hq => ?_).more fun q hq => ⟨by omega, by omega⟩
        exact hb4.block q hq.2 (by omega)
      have HSLZ3 : Hid (Sl Ty.zone w4 (fun b => g + 1 < b ∧ b < w4.heap.size) Az zs.length cz zs) := by
        refine (HSLZ.out.keep fun q hq => ?_).more fun q hq => ⟨hq.1, by omega⟩
        exact hb4.block q (by omega) (by omega)
      clear hr4 hb4 HI HSLA HSLZ
      generalize rrU 200 r b = q1 at *
      obtain ⟨nn, r2, b2⟩ := q1
      simp only at hdi2 hn HRD
      obtain ⟨k3, rfl⟩ := Int.eq_ofNat_of_zero_le hn.1
      have hk3 : k3 ≤ 200 := by omega
      have HINV := Lib.hid hdi2
      clear hn hdi2
      generalize hH3 : w4.heap.size = H3 at *
      have hH3' : H3 ≤ w4.heap.size := by omega
      clear hH3
      go_upto_block 6 with (fail)
      go_cut [] (fun wx => ∃ v, DR w g S (g + 1) A1 n1 c1 body wx #[.slice Az zs.length cz, .slice Aa aps.length ca, v] (rrMany rrFlight k3 r2 b2).2.1 (rrMany rrFlight k3 r2 b2).2.2 ∧ Own Ty.flight 36 wx H3 v (rrMany rrFlight k3 r2 b2).1 ∧ H3 ≤ wx.heap.size ∧ Sl Ty.zone wx (fun b => g + 1 < b ∧ b < H3) Az zs.length cz zs ∧ Sl Ty.airport wx (fun b => g + 1 < b ∧ b < H3) Aa aps.length ca aps)
      case first =>
        go_wp2_with fail
        go_loopw [16] (fun i wr => ∃ (k : Nat) (v : Value), k ≤ k3 ∧ i = .int .i64 k ∧ DR w g S (g + 1) A1 n1 c1 body wr #[.slice Az zs.length cz, .slice Aa aps.length ca, v] (rrMany rrFlight k r2 b2).2.1 (rrMany rrFlight k r2 b2).2.2 ∧ Own Ty.flight 36 wr H3 v (rrMany rrFlight k r2 b2).1 ∧ H3 ≤ wr.heap.size ∧ Sl Ty.zone wr (fun b => g + 1 < b ∧ b < H3) Az zs.length cz zs ∧ Sl Ty.airport wr (fun b => g + 1 < b ∧ b < H3) Aa aps.length ca aps) (fun i _ => k3 - (intOf i).toNat)
        case atStart => exact ⟨0, _, Nat.zero_le _, rfl, HINV.out, Own.nil, hH3', HSLZ3.out, HSLA2.out⟩
        case round =>
          obtain ⟨k, v, hk, rfl, hdi, hown, hHs3, hslz, hsla⟩ := hrel
          clear HINV HSLZ3 HSLA2 hH3'
          have hE := hdi.rd.c2
          by_cases hlt : k < k3 ∧ (rrMany rrFlight k r2 b2).2.2 = false
          · obtain ⟨hlt, hnb⟩ := hlt
            have HSN := Lib.hid (rrMany_snoc hnb)
            have hll := rrMany_len (f := rrFlight) k r2 b2
            generalize rrMany rrFlight k r2 b2 = q at *
            obtain ⟨xs, r, b⟩ := q
            simp only at hdi hown HSN hll hnb hE
            subst hnb
            simp only [if_neg (show ¬ false = true by simp)] at hE
            have HI := Lib.hid hdi
            have HO := Lib.hid hown
            have HSZ := Lib.hid hslz
            have HSA := Lib.hid hsla
            have hsS := hdi.sS
            have hwsz := hdi.lt
            have hrd := hdi.rd
            have hgt := hdi.l2
            have HFE := Lib.hid (rrFlight_eq r false)
            clear hdi hown hslz hsla
            go_wp2_with fail
            refine (rrText_any g S A1 n1 c1 body r false wr hrd).mono ?_
            rintro e w5 ⟨rfl, hr5, hb5⟩
            generalize rrT r false = t1 at *
            clear hrd hE
            go_wp2_with fail
            refine (rrText_any g S A1 n1 c1 body t1.2.1 t1.2.2 w5 hr5).mono ?_
            rintro e w6 ⟨rfl, hr6, hb6⟩
            generalize rrT t1.2.1 t1.2.2 = t2 at *
            have hb6' := hb5.trans hb6
            clear hr5 hb5 hb6
            go_wp2_with fail
            refine (rrText_any g S A1 n1 c1 body t2.2.1 t2.2.2 w6 hr6).mono ?_
            rintro e w7 ⟨rfl, hr7, hb7⟩
            generalize rrT t2.2.1 t2.2.2 = t3 at *
            have hb7' := hb6'.trans hb7
            clear hr6 hb6' hb7
            go_wp2_with fail
            refine (rrUint_any g S A1 n1 c1 body t3.2.1 t3.2.2 bigU w7 hr7).mono ?_
            rintro e w8 ⟨rfl, hr8, hb8⟩
            generalize rrU bigU t3.2.1 t3.2.2 = u1 at *
            have hb8' := hb7'.trans hb8
            clear hr7 hb7' hb8
            go_wp2_with fail
            refine (rrUint_any g S A1 n1 c1 body u1.2.1 u1.2.2 bigU w8 hr8).mono ?_
            rintro e w9 ⟨rfl, hr9, hb9⟩
            generalize rrU bigU u1.2.1 u1.2.2 = u2 at *
            have hb9' := hb8'.trans hb9
            clear hr8 hb8' hb9
            go_wp2_with fail
            refine (rrText_any g S A1 n1 c1 body u2.2.1 u2.2.2 w9 hr9).mono ?_
            rintro e w10 ⟨rfl, hr10, hb10⟩
            generalize rrT u2.2.1 u2.2.2 = t4 at *
            have hb10' := hb9'.trans hb10
            have hs10 := hb10'.size
            clear hr9 hb9' hb10
            have HFR : Hid (FR wr g S w10.heap.size A1 n1 c1 body (w10.alloc (.cells #[.string t1.1, .string t2.1, .string t3.1, .int .i64 u1.1, .int .i64 u2.1, .string t4.1, .int .i64 0, .int .i64 0, .int .i64 0] 36)) (fCells t1.1 t2.1 t3.1 u1.1 u2.1 t4.1 (0, 0, 0)) t4.2.1 t4.2.2) :=
              ⟨hb10'.alloc _, hr10.next ((Below.refl _ _).alloc (Nat.le_refl _) _), heap_alloc_new _ _, hs10, by omega⟩
            clear hr10 hb10'
            go_wp2_with fail
            generalize w10.alloc (.cells #[.string t1.1, .string t2.1, .string t3.1, .int .i64 u1.1, .int .i64 u2.1, .string t4.1, .int .i64 0, .int .i64 0, .int .i64 0] 36) = V at *
            generalize w10.heap.size = fb at *
            obtain ⟨wo, rfl⟩ : ∃ wo : World, wo = wr := ⟨_, rfl⟩
            go_loopw [18] (fun i wq => ∃ (j : Nat), j ≤ 3 ∧ i = .int .i64 j ∧ FR wo g S fb A1 n1 c1 body wq (fCells t1.1 t2.1 t3.1 u1.1 u2.1 t4.1 (needRr t4.2.1 t4.2.2 j).1) (needRr t4.2.1 t4.2.2 j).2.1 (needRr t4.2.1 t4.2.2 j).2.2) (fun i _ => 3 - (intOf i).toNat)
            case atStart => exact ⟨0, Nat.zero_le _, rfl, HFR.out⟩
            case round =>
              obtain ⟨j, hj, rfl, hfr⟩ := hrel
              clear HFR
              by_cases hlj : j < 3
              · have HNS : Hid (needRr t4.2.1 t4.2.2 (j + 1) = (need3 (rrU bigU (needRr t4.2.1 t4.2.2 j).2.1 (needRr t4.2.1 t4.2.2 j).2.2).1 (needRr t4.2.1 t4.2.2 j).1 j, (rrU bigU (needRr t4.2.1 t4.2.2 j).2.1 (needRr t4.2.1 t4.2.2 j).2.2).2)) := rfl
                generalize needRr t4.2.1 t4.2.2 j = nd at *
                obtain ⟨nds, rs, bs2⟩ := nd
                simp only at hfr HNS
                have hj0 : (0 : Int) ≤ (j : Int) := by omega
                have hj3 : (j : Int) < 3 := by omega
                have HF9 := Lib.hid hfr
                clear hfr
                go_wp2_with fail
                refine (rrUint_any g S A1 n1 c1 body rs bs2 bigU wr HF9.out.rd).mono ?_
                rintro e w11 ⟨rfl, hr11, hb11⟩
                have hf11 := HF9.out.cell5 hb11
                obtain ⟨y9, hy9⟩ := fCells_get t1.1 t2.1 t3.1 u1.1 u2.1 t4.1 nds j hlj
                have hc11 : w11.cell? ⟨fb, 6 + j, none⟩ = some (.int .i64 y9) := (block_cell hf11 (6 + j)).trans hy9
                have hz11 : w11.frozen? ⟨fb, 6 + j, none⟩ = false := block_free hf11 (6 + j)
                have hst := HF9.out.step hsS hb11 hr11 (6 + j) (.int .i64 (rrU bigU rs bs2).1)
                rw [fCells_set _ _ _ _ _ _ _ _ _ hlj] at hst
                have HST := Lib.hid hst
                generalize rrU bigU rs bs2 = uq at *
                clear hst hf11 hy9 hr11 hb11 HF9
                go_wp2_with fail
                go_roundw
                case rel => exact ⟨j + 1, by omega, by go_num, by rw [HNS.out]; exact HST.out⟩
                case measure => simp [intOf]; omega
              · have hj3 : j = 3 := by omega
                subst hj3
                generalize needRr t4.2.1 t4.2.2 3 = nd at *
                obtain ⟨⟨m0, m1, m2⟩, rs, bs2⟩ := nd
                simp only at hfr HFE
                have hdi2 := HI.out.call hfr.but hfr.rd
                have hsz2 := hdi2.lt
                have hzl := hfr.lt
                have hzg := hfr.lg
                have hzw : fb < wr.heap.size := (Array.getElem?_eq_some_iff.1 hfr.f).1
                have y0 : wr.cell? ⟨fb, 0, none⟩ = some (.string t1.1) := block_cell hfr.f 0
                have y1 : wr.cell? ⟨fb, 1, none⟩ = some (.string t2.1) := block_cell hfr.f 1
                have y2 : wr.cell? ⟨fb, 2, none⟩ = some (.string t3.1) := block_cell hfr.f 2
                have y3 : wr.cell? ⟨fb, 3, none⟩ = some (.int .i64 u1.1) := block_cell hfr.f 3
                have y4 : wr.cell? ⟨fb, 4, none⟩ = some (.int .i64 u2.1) := block_cell hfr.f 4
                have y5 : wr.cell? ⟨fb, 5, none⟩ = some (.string t4.1) := block_cell hfr.f 5
                have y6 : wr.cell? ⟨fb, 6, none⟩ = some (.int .i64 m0) := block_cell hfr.f 6
                have y7 : wr.cell? ⟨fb, 7, none⟩ = some (.int .i64 m1) := block_cell hfr.f 7
                have y8 : wr.cell? ⟨fb, 8, none⟩ = some (.int .i64 m2) := block_cell hfr.f 8
                have x2 : wr.cell? ⟨g + 1, 2, none⟩ = some v := block_cell hdi2.t 2
                have HOZ := Lib.hid (HO.out.but hfr.but (by omega))
                have HROW0 : Hid (∀ k, v.ownBlock = some k → H3 ≤ k) := fun k hk => (HO.out.lt k hk).1
                have HROW : Hid (∀ k, v.ownBlock = some k → g + 1 < k) := fun k hk => by have := (HO.out.lt k hk).1; omega
                have HD2 := Lib.hid hdi2
                have HRD2 := Lib.hid hfr.rd
                have HBT := Lib.hid hfr.but
                have hbs2 := hfr.but.size
                have x2' : ∀ o, (wr.alloc o).cell? ⟨g + 1, 2, none⟩ = some v := fun o => (World.cell?_alloc_past _ _ _ (by omega)).trans x2
                clear hdi2 hfr
                go_wp2_with (at_builtin; refine wpList_push rfl _ _ _ rfl 104 elem_flight rfl (HOZ.out.alloc _) wr.heap.size ⟨t1.1, t2.1, t3.1, u1.1, u2.1, t4.1, m0, m1, m2⟩ (fun _ => False) rfl ⟨[.string t1.1, .string t2.1, .string t3.1, .int .i64 u1.1, .int .i64 u2.1, .string t4.1, .int .i64 m0, .int .i64 m1, .int .i64 m2], rfl, At.new wr #[.string t1.1, .string t2.1, .string t3.1, .int .i64 u1.1, .int .i64 u2.1, .string t4.1, .int .i64 m0, .int .i64 m1, .int .i64 m2] _⟩ (fun _ h => h.elim) ?fc1 (by decide) ?fc2 ?_)
                case fc1 => omega
                case fc2 => first | omega | (simp; omega)
                intro v6 w12 hown6 hgr6
                obtain ⟨A6, c6, hv6, -⟩ := hown6.sl
                rw [List.length_append, List.length_singleton] at hv6
                subst hv6
                have hz6 := HD2.out.t6 (But.refl g wr) hgr6 HROW.out
                have hc6 : w12.cell? ⟨g + 1, 2, none⟩ = some v := block_cell hz6 2
                have hf6 : w12.frozen? ⟨g + 1, 2, none⟩ = false := block_free hz6 2
                have HSTEP := Lib.hid (HD2.out.step (But.refl g wr) HRD2.out hgr6 HROW.out 2 (.slice A6 (xs.length + 1) c6))
                have HOWN6 := Lib.hid (hown6.setCell (g := g + 1) (j := 2) (by omega) (.slice A6 (xs.length + 1) c6))
                have hmid : ∀ q, g + 1 < q ∧ q < H3 → (w12.setCell ⟨g + 1, 2, none⟩ (.slice A6 (xs.length + 1) c6)).heap[q]? = wo.heap[q]? := fun q hq => (HD2.out.mid (But.refl g wr) hgr6 HROW0.out (by omega) (by omega) 2 (.slice A6 (xs.length + 1) c6) q hq).trans (HBT.out.block q (by omega) (by omega))
                have HS6 := Lib.hid (HSZ.out.keep hmid)
                have HS7 := Lib.hid (HSA.out.keep hmid)
                have hhs6 := hgr6.size
                clear hz6 hown6 hgr6 hmid
                go_wp2_with fail
                go_roundw
                case rel => exact ⟨k + 1, _, by omega, by go_num, by rw [HSN.out, HFE.out]; exact HSTEP.out, by rw [HSN.out, HFE.out]; exact HOWN6.out, by simp at hhs6; simp; omega, HS6.out, HS7.out⟩
                case measure => simp [intOf]; omega
          · have HM : Hid (rrMany rrFlight k3 r2 b2 = rrMany rrFlight k r2 b2) := by
              show _ = _
              by_cases h1 : k < k3
              · refine rrMany_bad ?_ k3 hk
                rcases Bool.eq_false_or_eq_true (rrMany rrFlight k r2 b2).2.2 with h2 | h2
                · exact h2
                · exact absurd ⟨h1, h2⟩ hlt
              · rw [show k3 = k by omega]
            have htest : ¬ k < k3 ∨ (k < k3 ∧ (rrMany rrFlight k r2 b2).2.2 = true) := by
              by_cases h1 : k < k3
              · rcases Bool.eq_false_or_eq_true (rrMany rrFlight k r2 b2).2.2 with h2 | h2
                · exact .inr ⟨h1, h2⟩
                · exact absurd ⟨h1, h2⟩ hlt
              · exact .inl h1
            have HFIN : Hid (∃ v, DR w g S (g + 1) A1 n1 c1 body wr #[.slice Az zs.length cz, .slice Aa aps.length ca, v] (rrMany rrFlight k3 r2 b2).2.1 (rrMany rrFlight k3 r2 b2).2.2 ∧ Own Ty.flight 36 wr H3 v (rrMany rrFlight k3 r2 b2).1 ∧ H3 ≤ wr.heap.size ∧ Sl Ty.zone wr (fun b => g + 1 < b ∧ b < H3) Az zs.length cz zs ∧ Sl Ty.airport wr (fun b => g + 1 < b ∧ b < H3) Aa aps.length ca aps) := by
              rw [HM.out]
              exact ⟨v, hdi, hown, hHs3, hslz, hsla⟩
            clear hdi hown HM hlt hslz hsla
            rcases htest with ht | ⟨ht, hbt⟩
            · go_wp2_with fail
              go_meet
              exact HFIN.out
            · rw [hbt] at hE
              have hE2 : wr.cell? ⟨g, 2, none⟩ = some (.int .i64 2) := hE
              clear hE hbt
              go_wp2_with fail
              go_meet
              exact HFIN.out
      case rest =>
        obtain ⟨v, hdi, hown, hHs3, hslz, hsla⟩ := hcut
        clear HINV HSLZ3 HSLA2 hH3'
        simp only [Int.toNat_natCast] at HRD
        generalize rrMany rrFlight k3 r2 b2 = qf at *
        obtain ⟨fs, r, b⟩ := qf
        simp only at hdi hown HRD
        rw [HRD.out] at HT
        obtain ⟨Af, cf, rfl, hslf⟩ := hown.sl
        have hg1 := hdi.l1
        obtain ⟨wf, rfl⟩ : ∃ wf : World, wf = wc := ⟨_, rfl⟩
        have HSL : Hid (Sl Ty.zone wf (fun b => w.heap.size < b ∧ b < wf.heap.size) Az zs.length cz zs ∧ Sl Ty.airport wf (fun b => w.heap.size < b ∧ b < wf.heap.size) Aa aps.length ca aps ∧ Sl Ty.flight wf (fun b => w.heap.size < b ∧ b < wf.heap.size) Af fs.length cf fs) :=
          ⟨hslz.more fun b hb => ⟨by omega, by omega⟩, hsla.more fun b hb => ⟨by omega, by omega⟩, hslf.more fun b hb => ⟨by omega, by omega⟩⟩
        have x0 : wf.cell? ⟨g + 1, 0, none⟩ = some (.slice Az zs.length cz) := block_cell hdi.t 0
        have x1 : wf.cell? ⟨g + 1, 1, none⟩ = some (.slice Aa aps.length ca) := block_cell hdi.t 1
        have x2 : wf.cell? ⟨g + 1, 2, none⟩ = some (.slice Af fs.length cf) := block_cell hdi.t 2
        have z0 : wf.cell? ⟨w.heap.size, 0, none⟩ = some (.slice none 0 0) := block_cell hdi.res 0
        have z1 : wf.cell? ⟨w.heap.size, 1, none⟩ = some (.slice none 0 0) := block_cell hdi.res 1
        have z2 : wf.cell? ⟨w.heap.size, 2, none⟩ = some (.slice none 0 0) := block_cell hdi.res 2
        have f0 : wf.frozen? ⟨w.heap.size, 0, none⟩ = false := block_free hdi.res 0
        have f1 : wf.frozen? ⟨w.heap.size, 1, none⟩ = false := block_free hdi.res 1
        have f2 : wf.frozen? ⟨w.heap.size, 2, none⟩ = false := block_free hdi.res 2
        have hE := hdi.rd.c2
        have hAt := hdi.rd.c1
        have hrle := hdi.rd.le
        have hbel := hdi.bel
        have hDlt := hdi.lt
        clear hdi hown hslz hsla hslf
        have hln := HLN.out
        cases b with
        | true =>
          have hE2 : wf.cell? ⟨g, 2, none⟩ = some (.int .i64 2) := hE
          have HR : Hid (decR bs = (noTT, 2)) := by show _ = _; rw [HT.out, if_pos (by simp [doneB])]
          clear HT hE hln
          go_wp2_with fail
          refine bodyPost_ret (v := .tuple #[.agg #[.slice none 0 0, .slice none 0 0, .slice none 0 0], .int .i64 2]) (by simp [results, Try.results17, go_sem, z0, z1, z2]) rfl ?_
          rw [HR.out]
          exact HBAD.out _ _ (((hbel.setCell (Nat.le_refl _) _).setCell (Nat.le_refl _) _).setCell (Nat.le_refl _) _)
        | false =>
          have hE2 : wf.cell? ⟨g, 2, none⟩ = some (.int .i64 0) := hE
          clear hE
          rcases Nat.eq_zero_or_pos r.length with hr0 | hr0
          case inr =>
            have HR : Hid (decR bs = (noTT, 2)) := by
              show _ = _
              rw [HT.out, if_pos]
              unfold doneB
              cases r with
              | nil => simp at hr0
              | cons a l => rfl
            have hne : (((body.length - r.length : Nat) : Int) != (n1 : Int)) = true := by simp; omega
            clear HT hln hr0
            generalize body.length - r.length = at_ at *
            go_wp2_with fail
            refine bodyPost_ret (v := .tuple #[.agg #[.slice none 0 0, .slice none 0 0, .slice none 0 0], .int .i64 2]) (by simp [results, Try.results17, go_sem, z0, z1, z2]) rfl ?_
            rw [HR.out]
            exact HBAD.out _ _ (((hbel.setCell (Nat.le_refl _) _).setCell (Nat.le_refl _) _).setCell (Nat.le_refl _) _)
          have hrn : r = [] := List.eq_nil_of_length_eq_zero hr0
          subst hrn
          rw [if_neg (by simp [doneB])] at HT
          have hAt2 : wf.cell? ⟨g, 1, none⟩ = some (.int .i64 (n1 : Int)) := by rw [hAt, hln]; rfl
          have hne : ((n1 : Int) != (n1 : Int)) = false := by simp
          have HOK : Hid (GTT.ok ⟨zs, aps, fs⟩) := by
            have h9 := (simTT body HBY.out).1 (by rw [HRD.out])
            have h8 := rdTT_ok body HBY.out
            rw [h9, HRD.out] at h8
            exact h8
          clear hAt hr0 hln hrle HLN
          have HV := Lib.hid (validateR_any ⟨zs, aps, fs⟩ Az Aa Af _ _ _ cz ca cf wf HOK.out (HSL.out.1.more fun b hb => hb.2) (HSL.out.2.1.more fun b hb => hb.2) (HSL.out.2.2.more fun b hb => hb.2))
          go_wp2_with fail
          refine HV.out.mono ?_
          rintro e w9 ⟨rfl, hb9⟩
          clear HV
          have hbF : Below w.heap.size w w9 := hbel.trans (hb9.mono hbel.size)
          have x0' := (cell_kept x0 hb9); have x1' := (cell_kept x1 hb9); have x2' := (cell_kept x2 hb9)
          have z0' := (cell_kept z0 hb9); have z1' := (cell_kept z1 hb9); have z2' := (cell_kept z2 hb9)
          have f0' : w9.frozen? ⟨w.heap.size, 0, none⟩ = false := (hb9.frozen (by show w.heap.size < _; omega)).trans f0
          have f1' : w9.frozen? ⟨w.heap.size, 1, none⟩ = false := (hb9.frozen (by show w.heap.size < _; omega)).trans f1
          have f2' : w9.frozen? ⟨w.heap.size, 2, none⟩ = false := (hb9.frozen (by show w.heap.size < _; omega)).trans f2
          clear x0 x1 x2 z0 z1 z2 f0 f1 f2
          by_cases hv : ttE ⟨zs, aps, fs⟩ = 0
          · have HR : Hid (decR bs = (⟨zs, aps, fs⟩, 0)) := by show _ = _; rw [HT.out, if_neg (by simpa using hv)]
            rw [hv]
            clear HT hv
            go_wp2_with fail
            refine bodyPost_ret (v := .tuple #[.agg #[.slice Az zs.length cz, .slice Aa aps.length ca, .slice Af fs.length cf], .int .i64 0]) (by simp [results, Try.results17, go_sem, z0', z1', z2']) rfl ?_
            rw [HR.out]
            have hk9 : ∀ q, (w.heap.size < q ∧ q < wf.heap.size) → ∀ a b c, (((w9.setCell ⟨w.heap.size, 0, none⟩ a).setCell ⟨w.heap.size, 1, none⟩ b).setCell ⟨w.heap.size, 2, none⟩ c).heap[q]? = wf.heap[q]? := fun q hq a b c => by
              rw [heap_setCell_other _ _ _ _ (by simp; omega), heap_setCell_other _ _ _ _ (by simp; omega), heap_setCell_other _ _ _ _ (by simp; omega), hb9.block q hq.2]
            have hs9 := hb9.size
            refine ⟨Az, _, cz, Aa, _, ca, Af, _, cf, rfl, ?_, ?_, ?_, ((hbF.setCell (Nat.le_refl _) _).setCell (Nat.le_refl _) _).setCell (Nat.le_refl _) _⟩
            · exact (HSL.out.1.keep fun q hq => hk9 q hq _ _ _).more fun q hq => ⟨by omega, by simp; omega⟩
            · exact (HSL.out.2.1.keep fun q hq => hk9 q hq _ _ _).more fun q hq => ⟨by omega, by simp; omega⟩
            · exact (HSL.out.2.2.keep fun q hq => hk9 q hq _ _ _).more fun q hq => ⟨by omega, by simp; omega⟩
          · have hv' : (ttE ⟨zs, aps, fs⟩ != 0) = true := by simpa using hv
            have HR : Hid (decR bs = (noTT, ttE ⟨zs, aps, fs⟩)) := by show _ = _; rw [HT.out, if_pos hv]
            clear HT hv
            generalize ttE ⟨zs, aps, fs⟩ = ev at *
            go_wp2_with fail
            refine bodyPost_ret (v := .tuple #[.agg #[.slice none 0 0, .slice none 0 0, .slice none 0 0], .int .i64 ev]) (by simp [results, Try.results17, go_sem, z0', z1', z2']) rfl ?_
            rw [HR.out]
            exact HBAD.out _ _ (((hbF.setCell (Nat.le_refl _) _).setCell (Nat.le_refl _) _).setCell (Nat.le_refl _) _)
end Go.Proofs.Ytldeoaddogifpaa
