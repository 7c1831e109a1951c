/-
  Contracts of timetable.readZone and timetable.readFlight.
  Condition: the reader's bytes are bytes.
-/
import Derived.Test.YtldeoaddogifpaaGreatDoorReader
import Derived.Test.YtldeoaddogifpaaGreatDoorCrc
import Derived.Test.YtldeoaddogifpaaGreatDoorTTDec
import Derived.Test.YtldeoaddogifpaaGreatDoorTTMem
import Derived.Test.YtldeoaddogifpaaGreatDoorStep
namespace Go.Proofs.YtldeoaddogifpaaGreatDoor
set_option linter.unusedSimpArgs false
set_option linter.unusedVariables false
open Go.RowKit

theorem elem_shift : Elem Tryz.prog 49 64 2 16 := ⟨Tryz.underlying49, by kernel_rfl⟩
def RZPost (g : Nat) (S : Nat → Prop) (w : World) (z : GZone) (rest : List Int) (bad : Bool) (e : Ending) (w' : World) : Prop :=
  ∃ v, e = .returned (.agg #[.string z.name, .int .i64 z.off, v]) ∧ Own Ty.shift 64 w' w.heap.size v z.shifts ∧ Rd w' g S rest bad ∧ But g w w'

theorem Own.but {α : Type} {t : Ty α} {e : TypeId} {w w' : World} {base g : Nat} {v : Value} {xs : List α} (h : Own t e w base v xs) (hb : But g w w') (hg : g < base) : Own t e w' base v xs :=
  h.frame hb.size fun b h1 h2 => hb.block b h2 (by omega)
theorem At.new (w : World) (cs : Array Value) (t : TypeId) : At (w.alloc (.cells cs t)) w.heap.size 0 cs.toList := fun j u hu => by
  rw [Nat.zero_add, World.cell?_alloc_at _ _ _ _ rfl]
  simpa using hu
theorem Rd.setFar {w : World} {g : Nat} {S : Nat → Prop} {rest : List Int} {bad : Bool} (h : Rd w g S rest bad) (hS : ∀ b, S b → b < g) {n q : Nat} (hg : g < n) (hq : n ≤ q) (j : Nat) (x : Value) : Rd (w.setCell ⟨q, j, none⟩ x) g S rest bad :=
  h.frame (fun b _ hb => heap_setCell_other _ _ _ _ (by
    show b ≠ q
    rcases hb with hb | rfl
    · have := hS b hb; omega
    · omega)) (by simp)
/-- What holds while a zone is read: its box zb, the result's box, the row of its shifts, the reader. -/
structure ZInv (w : World) (g : Nat) (S : Nat → Prop) (zb : Nat) (wr : World) (name : ByteArray) (off : Int) (v : Value) (xs : List GShift) (r : List Int) (b : Bool) : Prop where
  z : wr.heap[zb]? = some (.cells #[.string name, .int .i64 off, v] 51 (0, 0))
  res : wr.heap[w.heap.size]? = some (.cells #[.string ⟨#[]⟩, .int .i64 0, .slice none 0 0] 51 (0, 0))
  own : Own Ty.shift 64 wr (zb + 1) v xs
  rd : Rd wr g S r b
  but : But g w wr
  lt : w.heap.size < zb
theorem ZInv.gz {w : World} {g : Nat} {S : Nat → Prop} {zb : Nat} {wr : World} {name : ByteArray} {off : Int} {v : Value} {xs : List GShift} {r : List Int} {b : Bool} (h : ZInv w g S zb wr name off v xs r b) (hg : g < w.heap.size) : g < zb := Nat.lt_trans hg h.lt
theorem ZInv.zb6 {w : World} {g : Nat} {S : Nat → Prop} {zb : Nat} {wr w5 w6 : World} {name : ByteArray} {off : Int} {v : Value} {xs : List GShift} {r : List Int} {b : Bool} {o : Obj} (h : ZInv w g S zb wr name off v xs r b) (hg : g < w.heap.size)
    (hb : But g wr w5) (hgr : (w5.alloc o).grownBy w6 v.ownBlock) : w6.heap[zb]? = some (.cells #[.string name, .int .i64 off, v] 51 (0, 0)) := by
  have h1 := h.gz hg
  have h2 : zb < wr.heap.size := (Array.getElem?_eq_some_iff.1 h.z).1
  have h3 := hb.size
  rw [hgr.block zb (by simp; omega) (fun e => by have := (h.own.lt zb e.symm).1; omega), Below.heap_alloc _ _ _ (by omega), hb.block zb h2 (by omega)]
  exact h.z
theorem ZInv.step {w : World} {g : Nat} {S : Nat → Prop} {zb : Nat} {wr w5 w6 : World} {name : ByteArray} {off : Int} {v v' : Value} {xs xs' : List GShift} {r r' : List Int} {b b' : Bool} {o : Obj} (h : ZInv w g S zb wr name off v xs r b) (hg : g < w.heap.size) (hS : ∀ b, S b → b < g)
    (hb : But g wr w5) (hr : Rd w5 g S r' b') (hgr : (w5.alloc o).grownBy w6 v.ownBlock) (hown : Own Ty.shift 64 w6 (zb + 1) v' xs') : ZInv w g S zb (w6.setCell ⟨zb, 2, none⟩ v') name off v' xs' r' b' := by
  have h1 := h.gz hg
  have h2 : zb < wr.heap.size := (Array.getElem?_eq_some_iff.1 h.z).1
  have h3 := hb.size
  have h4 := h.lt
  have h5 := hgr.size
  simp only [World.size_alloc] at h5
  have hrow : ∀ k, v.ownBlock = some k → zb + 1 ≤ k := fun k hk => (h.own.lt k hk).1
  have hkeep : ∀ q, q < w5.heap.size → q ≤ zb → w6.heap[q]? = w5.heap[q]? := fun q hq hz => by
    rw [hgr.block q (by simp; omega) (fun e => by have := hrow q e.symm; omega), Below.heap_alloc _ _ _ hq]
  refine ⟨?_, ?_, hown.setCell (Nat.lt_succ_self _) _, ?_, ?_, h.lt⟩
  · have := heap_setCell_same w6 zb 2 _ _ v' (h.zb6 hg hb hgr)
    simpa using this
  · rw [heap_setCell_other _ _ _ _ (by simp; omega), hkeep _ (by omega) (by omega), hb.block _ (by omega) (by omega)]
    exact h.res
  · refine hr.frame (fun q hq hSq => ?_) (by simp; omega)
    have hqg : q ≤ g := by
      rcases hSq with hs | rfl
      · exact Nat.le_of_lt (hS q hs)
      · exact Nat.le_refl _
    rw [heap_setCell_other _ _ _ _ (by simp; omega), hkeep q hq (by omega)]
  · exact (((h.but.trans hb).alloc o).grown hgr (fun k hk => by have := hrow k hk; omega)).setFar (by omega) 2 v'
set_option maxRecDepth 100000 in
set_option maxHeartbeats 1600000 in
theorem readZone_any (g : Nat) (S : Nat → Prop) (rest : List Int) (bad : Bool) (w : World) (h : Rd w g S rest bad) (hS : ∀ b, S b → b < g) :
    Calls Tryz.prog 47 #[.pointer (some ⟨g, 0, none⟩)] w (RZPost g S w (rdZone rest bad).1 (rdZone rest bad).2.1 (rdZone rest bad).2.2) := by
  have hg := h.glt
  have h0 := h.next ((Below.refl _ _).alloc (Nat.le_refl _) (.cells #[.string ⟨#[]⟩, .int .i64 0, .slice none 0 0] 51))
  have hbt0 := (But.refl g w).alloc (.cells #[.string ⟨#[]⟩, .int .i64 0, .slice none 0 0] 51)
  have hr0 : (w.alloc (.cells #[.string ⟨#[]⟩, .int .i64 0, .slice none 0 0] 51)).heap[w.heap.size]? = some (.cells #[.string ⟨#[]⟩, .int .i64 0, .slice none 0 0] 51 (0, 0)) := heap_alloc_new _ _
  have hz0 : w.heap.size + 1 ≤ (w.alloc (.cells #[.string ⟨#[]⟩, .int .i64 0, .slice none 0 0] 51)).heap.size := by simp
  have HZ : Hid (rdZone rest bad = (⟨(rdT rest bad).1, (rdI (rdT rest bad).2.1 (rdT rest bad).2.2).1, (rdMany rdShift (rdN 16 (rdI (rdT rest bad).2.1 (rdT rest bad).2.2).2.1 (rdI (rdT rest bad).2.1 (rdT rest bad).2.2).2.2).1.toNat (rdN 16 (rdI (rdT rest bad).2.1 (rdT rest bad).2.2).2.1 (rdI (rdT rest bad).2.1 (rdT rest bad).2.2).2.2).2.1 (rdN 16 (rdI (rdT rest bad).2.1 (rdT rest bad).2.2).2.1 (rdI (rdT rest bad).2.1 (rdT rest bad).2.2).2.2).2.2).1⟩, (rdMany rdShift (rdN 16 (rdI (rdT rest bad).2.1 (rdT rest bad).2.2).2.1 (rdI (rdT rest bad).2.1 (rdT rest bad).2.2).2.2).1.toNat (rdN 16 (rdI (rdT rest bad).2.1 (rdT rest bad).2.2).2.1 (rdI (rdT rest bad).2.1 (rdT rest bad).2.2).2.2).2.1 (rdN 16 (rdI (rdT rest bad).2.1 (rdT rest bad).2.2).2.1 (rdI (rdT rest bad).2.1 (rdT rest bad).2.2).2.2).2.2).2)) := rfl
  have HR0 := Lib.hid hr0; have H0 := Lib.hid h0; have HB0 := Lib.hid hbt0; have HZ0 := Lib.hid hz0
  clear h h0 hbt0 hr0 hz0
  go_enter Tryz.func47, Tryz.ntmps47
  go_wp2_with fail
  generalize w.alloc (.cells #[.string ⟨#[]⟩, .int .i64 0, .slice none 0 0] 51) = W at *
  refine (readerText_any g S rest bad W H0.out).mono ?_
  rintro e w1 ⟨rfl, hr1, hb1⟩
  generalize rdT rest bad = t1 at *
  go_wp2_with fail
  refine (readerInt_any g S t1.2.1 t1.2.2 w1 hr1).mono ?_
  rintro e w2 ⟨rfl, hr2, hb2⟩
  generalize rdI t1.2.1 t1.2.2 = i1 at *
  go_wp2_with fail
  have hW2 : w.heap.size + 1 ≤ w2.heap.size := Nat.le_trans HZ0.out (Nat.le_trans hb1.size hb2.size)
  have HRW2 : Hid (w2.heap[w.heap.size]? = some (.cells #[.string ⟨#[]⟩, .int .i64 0, .slice none 0 0] 51 (0, 0))) := by
    have hz := HZ0.out
    show _ = _
    rw [hb2.block _ (by have := hb1.size; omega) (by omega), hb1.block _ (by omega) (by omega)]
    exact HR0.out
  have hbt2 : But g w w2 := (HB0.out.trans hb1).trans hb2
  clear HR0 H0 HB0 HZ0 hr1 hb1 hb2
  have hr2' := hr2.next ((Below.refl _ _).alloc (Nat.le_refl _) (.cells #[.string t1.1, .int .i64 i1.1, .slice none 0 0] 51))
  have hby2 := hr2.by_
  refine (readerCountTo_any g S i1.2.1 i1.2.2 16 _ hr2').mono ?_
  rintro e w3 ⟨rfl, hr3, hb3⟩
  have hn := rdN_range (m := 16) i1.2.2 hby2 (by decide)
  generalize rdN 16 i1.2.1 i1.2.2 = n1 at *
  obtain ⟨n, r0, b0⟩ := n1
  simp only at hr3 HZ hn
  obtain ⟨m, rfl⟩ := Int.eq_ofNat_of_zero_le hn.1
  have HINV : Hid (∃ v, ZInv w g S w2.heap.size w3 t1.1 i1.1 v [] r0 b0) := by
    refine ⟨.slice none 0 0, ⟨?_, ?_, Own.nil, hr3, ?_, ?_⟩⟩
    · rw [hb3.block _ (by simp) (by omega)]; exact heap_alloc_new _ _
    · rw [hb3.block _ (by simp; omega) (by omega), Below.heap_alloc _ _ _ (by omega)]; exact HRW2.out
    · exact (hbt2.alloc _).trans hb3
    · omega
  have hm : m ≤ 16 := by omega
  clear hr2 hr2' hby2 hr3 hb3 HRW2 hn hbt2
  generalize w2.heap.size = zb at *
  simp only [Int.toNat_natCast] at HZ
  go_wp2_with fail
  go_loopw [11] (fun i wr => ∃ (k : Nat) (v : Value), k ≤ m ∧ i = .int .i64 k ∧ ZInv w g S zb wr t1.1 i1.1 v (rdMany rdShift k r0 b0).1 (rdMany rdShift k r0 b0).2.1 (rdMany rdShift k r0 b0).2.2) (fun i _ => m - (intOf i).toNat)
  case atStart =>
    obtain ⟨v, hv⟩ := HINV.out
    exact ⟨0, v, Nat.zero_le _, rfl, hv⟩
  case round =>
    obtain ⟨k, v, hk, rfl, hinv⟩ := hrel
    clear HINV
    by_cases hlt : k < m
    · have HSN : Hid (rdMany rdShift (k + 1) r0 b0 = ((rdMany rdShift k r0 b0).1 ++ [(rdShift (rdMany rdShift k r0 b0).2.1 (rdMany rdShift k r0 b0).2.2).1], (rdShift (rdMany rdShift k r0 b0).2.1 (rdMany rdShift k r0 b0).2.2).2.1, (rdShift (rdMany rdShift k r0 b0).2.1 (rdMany rdShift k r0 b0).2.2).2.2)) := rfl
      have hlen := rdMany_len (f := rdShift) k r0 b0
      have hll : (rdMany rdShift k r0 b0).1.length ≤ 16 := by omega
      clear hlen
      generalize rdMany rdShift k r0 b0 = q at *
      obtain ⟨xs, r, b⟩ := q
      simp only at hinv HSN hll
      have HSH : Hid (rdShift r b = (⟨(rdU r b).1, (rdI (rdU r b).2.1 (rdU r b).2.2).1⟩, (rdI (rdU r b).2.1 (rdU r b).2.2).2)) := rfl
      have hc : ∀ q, (wr.drewN q).cell? ⟨zb, 2, none⟩ = some v := fun q => block_cell (w := wr.drewN q) hinv.z 2
      have hf : ∀ q, (wr.drewN q).frozen? ⟨zb, 2, none⟩ = false := fun q => block_free (w := wr.drewN q) hinv.z 2
      have HC := Lib.hid hc; have HF := Lib.hid hf
      have HRD : Hid (∀ q, Rd (wr.drewN q) g S r b) := fun q => hinv.rd.frame (fun _ _ _ => rfl) (Nat.le_refl _)
      have HI := Lib.hid hinv
      have hgz : g < zb := hinv.gz hg
      have hc1 : wr.cell? ⟨zb, 2, none⟩ = some v := block_cell hinv.z 2
      clear hinv hc hf
      go_wp2_with fail
      go_region_law (first
        | (refine step_push rfl (.tmp 14) (.tmp 20) 49 rfl 16 elem_shift (by simp [Act.eval, Act.put]) (HOWN.out _) w5.heap.size ⟨(rdU r b).1, (rdI (rdU r b).2.1 (rdU r b).2.2).1⟩ (fun _ => False) (by simp [Act.eval, Act.put]) ⟨[.int .i64 (rdU r b).1, .int .i64 (rdI (rdU r b).2.1 (rdU r b).2.2).1], rfl, At.new w5 #[.int .i64 (rdU r b).1, .int .i64 (rdI (rdU r b).2.1 (rdU r b).2.2).1] _⟩ (fun _ h => h.elim) (by omega) (by decide) (by simp; omega) ?_; intro g6 cap6 w6 hown6 hgr6 hat6; have hb6 := (hbD.trans hb4).trans hb5; have hz6 := HI.out.zb6 hg hb6 hgr6; have hc6 : w6.cell? ⟨zb, 2, none⟩ = some v := block_cell hz6 2; have hf6 : w6.frozen? ⟨zb, 2, none⟩ = false := block_free hz6 2; have HSTEP := Lib.hid (HI.out.step hg hS hb6 hr5 hgr6 hown6); clear hz6)
        | (go_simp; go_at_call 86; refine (readerUint_any g S r b _ (HRD.out _)).mono ?_; rintro e w4 ⟨rfl, hr4, hb4⟩; have hc4 : w4.cell? ⟨zb, 2, none⟩ = some v := hb4.cell (HC.out _) (by simp; omega); have hbD := (But.refl g wr).drewN 1)
        | (go_simp; go_at_call 85; refine (readerInt_any g S _ _ _ hr4).mono ?_; rintro e w5 ⟨rfl, hr5, hb5⟩; have hc5 : w5.cell? ⟨zb, 2, none⟩ = some v := hb5.cell hc4 (by simp; omega); have HOWN : Hid (∀ o, Own Ty.shift 64 (w5.alloc o) (zb + 1) v xs) := fun o => (((HI.out.own.drewN _).but hb4 (by omega)).but hb5 (by omega)).alloc o; have hzs5 : zb + 1 ≤ w5.heap.size := World.block_lt_of_cell? w5 _ hc5; have hc5' : ∀ o, (w5.alloc o).cell? ⟨zb, 2, none⟩ = some v := fun o => (World.cell?_alloc_past _ _ _ (by omega)).trans hc5)
        | fail)
      all_goals
        go_wp2_with fail
        go_roundw
        case rel => exact ⟨k + 1, _, by omega, by go_num, by rw [HSN.out, HSH.out]; exact HSTEP.out⟩
        case measure => simp [intOf]; omega
    · have hkm : k = m := by omega
      subst hkm
      generalize rdMany rdShift k r0 b0 = q at *
      obtain ⟨xs, r, b⟩ := q
      simp only at hinv HZ
      obtain ⟨A, c, rfl, hsl⟩ := hinv.own.sl
      have y0 : wr.cell? ⟨zb, 0, none⟩ = some (.string t1.1) := block_cell hinv.z 0
      have y1 : wr.cell? ⟨zb, 1, none⟩ = some (.int .i64 i1.1) := block_cell hinv.z 1
      have y2 : wr.cell? ⟨zb, 2, none⟩ = some (.slice A xs.length c) := block_cell hinv.z 2
      have z0 : wr.cell? ⟨w.heap.size, 0, none⟩ = some (.string ⟨#[]⟩) := block_cell hinv.res 0
      have z1 : wr.cell? ⟨w.heap.size, 1, none⟩ = some (.int .i64 0) := block_cell hinv.res 1
      have z2 : wr.cell? ⟨w.heap.size, 2, none⟩ = some (.slice none 0 0) := block_cell hinv.res 2
      have f0 : wr.frozen? ⟨w.heap.size, 0, none⟩ = false := block_free hinv.res 0
      have f1 : wr.frozen? ⟨w.heap.size, 1, none⟩ = false := block_free hinv.res 1
      have f2 : wr.frozen? ⟨w.heap.size, 2, none⟩ = false := block_free hinv.res 2
      have HI := Lib.hid hinv
      clear hsl hinv
      go_wp2_with fail
      refine bodyPost_ret (v := .agg #[.string t1.1, .int .i64 i1.1, .slice A xs.length c]) (by simp [results, Tryz.results47, go_sem, z0, z1, z2]) rfl ⟨.slice A xs.length c, by rw [HZ.out], ?_, ?_, ?_⟩
      · rw [HZ.out]
        exact (((HI.out.own.setCell (by omega) _).setCell (by omega) _).setCell (by omega) _).lower (by omega)
      · rw [HZ.out]
        exact (HI.out.rd.setFar hS hg (Nat.le_refl _) _ _).setFar hS (by simpa using hg) (by simp) _ _ |>.setFar hS (by simpa using hg) (by simp) _ _
      · exact ((HI.out.but.setFar (Nat.le_refl _) _ _).setFar (Nat.le_refl _) _ _).setFar (Nat.le_refl _) _ _

end Go.Proofs.YtldeoaddogifpaaGreatDoor
