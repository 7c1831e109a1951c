/-
  Joined texts: CrewRead; PMem; ParsePlain; IIdx; ParseSmall; Parser; ParserVac. What each proves stands ahead of it, with its conditions.
-/
import Derived.Test.YtkhedjfdjjeopaaGreatDoorTTRead
import Derived.Test.YtkhedjfdjjeopaaGreatDoorCrewBody
import Derived.Test.YtkhedjfdjjeopaaGreatDoorCopy
import Derived.Test.YtkhedjfdjjeopaaGreatDoorRef8Enc
import Derived.Test.YtkhedjfdjjeopaaGreatDoorStep
import Derived.Maps.AppendAt
import Derived.Test.YtkhedjfdjjeopaaGreatDoorCrewPlain
import Derived.Test.YtkhedjfdjjeopaaGreatDoorMB
import Derived.Test.YtkhedjfdjjeopaaGreatDoorTextPlain
import Derived.Test.YtkhedjfdjjeopaaGreatDoorMA
import Derived.Test.YtkhedjfdjjeopaaGreatDoorISet
import Derived.Maps.OwnSet
import Derived.Test.YtkhedjfdjjeopaaGreatDoorReader
import Derived.Test.YtkhedjfdjjeopaaGreatDoorIndexRef
import Derived.Deep.DeepCutAuto
/-
  Contract of crew.readPerson.
  Condition: the reader's bytes are bytes.
-/
namespace Go.Proofs.YtkhedjfdjjeopaaGreatDoor
set_option linter.unusedSimpArgs false
set_option linter.unusedVariables false
open Go.RowKit

theorem elem_strs : Elem Tryz.prog 36 9 1 16 := ⟨Tryz.underlying36, by kernel_rfl⟩
theorem elem_span : Elem Tryz.prog 47 72 2 16 := ⟨Tryz.underlying47, by kernel_rfl⟩
theorem elem_person : Elem Tryz.prog 29 49 7 104 := ⟨Tryz.underlying29, by kernel_rfl⟩
def pZero : Array Value := #[.int .i64 0, .string ⟨#[]⟩, .string ⟨#[]⟩, .int .i64 0, .int .i64 0, .slice none 0 0, .slice none 0 0]
/-- What holds while a person is read: the person's box pb, the result's box, the reader. -/
structure PInv (w : World) (g : Nat) (S : Nat → Prop) (pb : Nat) (wr : World) (cs : Array Value) (r : List Int) (b : Bool) : Prop where
  p : wr.heap[pb]? = some (.cells cs 49 (0, 0))
  res : wr.heap[w.heap.size]? = some (.cells pZero 49 (0, 0))
  rd : Rd wr g S r b
  but : But g w wr
  lt : w.heap.size < pb
  gl : g < w.heap.size
  sS : ∀ b, S b → b < g
section
variable {w : World} {g : Nat} {S : Nat → Prop} {pb : Nat} {wr w5 w6 : World} {cs : Array Value} {r r' : List Int} {b b' : Bool} {o : Obj} {row : Option Nat}
theorem PInv.pl (h : PInv w g S pb wr cs r b) : pb < wr.heap.size := (Array.getElem?_eq_some_iff.1 h.p).1
theorem PInv.call (h : PInv w g S pb wr cs r b) (hb : But g wr w5) (hr : Rd w5 g S r' b') : PInv w g S pb w5 cs r' b' := by
  have h1 := h.lt; have h2 := h.gl; have h3 := h.pl
  exact ⟨(hb.block pb h3 (by omega)).trans h.p, (hb.block _ (by omega) (by omega)).trans h.res, hr, h.but.trans hb, h1, h2, h.sS⟩
theorem PInv.keep (h : PInv w g S pb wr cs r b) (hb : But g wr w5) (hgr : (w5.alloc o).grownBy w6 row) (q : Nat) (hq : q < wr.heap.size) (hqg : q ≠ g) (hqr : row ≠ some q) : w6.heap[q]? = wr.heap[q]? := by
  have h3 := hb.size
  rw [hgr.block q (by simp; omega) (fun e => hqr e.symm), Below.heap_alloc _ _ _ (by omega), hb.block q hq hqg]
theorem PInv.p6 (h : PInv w g S pb wr cs r b) (hb : But g wr w5) (hgr : (w5.alloc o).grownBy w6 row) (hrow : ∀ k, row = some k → pb < k) : w6.heap[pb]? = some (.cells cs 49 (0, 0)) := by
  have h1 := h.lt; have h2 := h.gl
  rw [h.keep hb hgr pb h.pl (by omega) (fun e => by have := hrow pb e; omega)]
  exact h.p
theorem PInv.step (h : PInv w g S pb wr cs r b) (hb : But g wr w5) (hr : Rd w5 g S r' b') (hgr : (w5.alloc o).grownBy w6 row) (hrow : ∀ k, row = some k → pb < k) (j : Nat) (v' : Value) : PInv w g S pb (w6.setCell ⟨pb, j, none⟩ v') (cs.setIfInBounds j v') r' b' := by
  have h1 := h.lt; have h2 := h.gl; have h3 := h.pl; have h4 := hb.size; have h5 := hgr.size
  simp only [World.size_alloc] at h5
  refine ⟨heap_setCell_same _ _ _ _ _ _ (h.p6 hb hgr hrow), ?_, ?_, ?_, h1, h2, h.sS⟩
  · rw [heap_setCell_other _ _ _ _ (by simp; omega), h.keep hb hgr _ (by omega) (by omega) (fun e => by have := hrow _ e; omega)]
    exact h.res
  · refine hr.frame (fun q hq hSq => ?_) (by simp; omega)
    have hqg : q ≤ g := by
      rcases hSq with hs | rfl
      · exact Nat.le_of_lt (h.sS q hs)
      · exact Nat.le_refl _
    rw [heap_setCell_other _ _ _ _ (by simp; omega), hgr.block q (by simp; omega) (fun e => by have := hrow q e.symm; omega), Below.heap_alloc _ _ _ (by omega)]
  · exact (((h.but.trans hb).alloc o).grown hgr (fun k hk => by have := hrow k hk; omega)).setFar (by omega) j v'
/-- What lies between the box and the new row stays. -/
theorem PInv.mid (h : PInv w g S pb wr cs r b) (hb : But g wr w5) (hgr : (w5.alloc o).grownBy w6 row) {H : Nat} (hrow : ∀ k, row = some k → H ≤ k) (hH : pb < H) (hHs : H ≤ wr.heap.size) (j : Nat) (v' : Value) (q : Nat) (hq : pb < q ∧ q < H) : (w6.setCell ⟨pb, j, none⟩ v').heap[q]? = wr.heap[q]? := by
  have h1 := h.lt; have h2 := h.gl
  rw [heap_setCell_other _ _ _ _ (by simp; omega), h.keep hb hgr q (by omega) (by omega) (fun e => by have := hrow q e; omega)]
end
def RPPost (g : Nat) (S : Nat → Prop) (w : World) (p : GPerson) (rest : List Int) (bad : Bool) (e : Ending) (w' : World) : Prop :=
  ∃ A1 n1 c1 A2 n2 c2, e = .returned (.agg #[.int .i64 p.id, .string p.name, .string p.base, .int .i64 p.rank, .int .i64 p.sen, .slice A1 n1 c1, .slice A2 n2 c2]) ∧
    Sl Ty.str w' (fun b => w.heap.size < b ∧ b < w'.heap.size) A1 n1 c1 p.types ∧ Sl Ty.shift w' (fun b => w.heap.size < b ∧ b < w'.heap.size) A2 n2 c2 p.vacs ∧ Rd w' g S rest bad ∧ But g w w'

set_option maxRecDepth 100000 in
set_option maxHeartbeats 1600000 in
theorem readPerson_any (g : Nat) (S : Nat → Prop) (rest : List Int) (bad : Bool) (w : World) (h : Rd w g S rest bad) (hS : ∀ b, S b → b < g) :
    Calls Tryz.prog 49 #[.pointer (some ⟨g, 0, none⟩)] w (RPPost g S w (rdPerson rest bad).1 (rdPerson rest bad).2.1 (rdPerson rest bad).2.2) := by
  have hg := h.glt
  have h0 := h.next ((Below.refl _ _).alloc (Nat.le_refl _) (.cells #[.int .i64 0, .string ⟨#[]⟩, .string ⟨#[]⟩, .int .i64 0, .int .i64 0, .slice none 0 0, .slice none 0 0] 49))
  have hbt0 := (But.refl g w).alloc (.cells #[.int .i64 0, .string ⟨#[]⟩, .string ⟨#[]⟩, .int .i64 0, .int .i64 0, .slice none 0 0, .slice none 0 0] 49)
  have hr0 : (w.alloc (.cells #[.int .i64 0, .string ⟨#[]⟩, .string ⟨#[]⟩, .int .i64 0, .int .i64 0, .slice none 0 0, .slice none 0 0] 49)).heap[w.heap.size]? = some (.cells pZero 49 (0, 0)) := heap_alloc_new _ _
  have hz0 : w.heap.size + 1 ≤ (w.alloc (.cells #[.int .i64 0, .string ⟨#[]⟩, .string ⟨#[]⟩, .int .i64 0, .int .i64 0, .slice none 0 0, .slice none 0 0] 49)).heap.size := by simp
  have HFL : Hid (rdPerson rest bad = (let u1 := rdU rest bad
    let t1 := rdT u1.2.1 u1.2.2
    let t2 := rdT t1.2.1 t1.2.2
    let u2 := rdU t2.2.1 t2.2.2
    let u3 := rdU u2.2.1 u2.2.2
    let n1 := rdN 8 u3.2.1 u3.2.2
    let m1 := rdMany rdT n1.1.toNat n1.2.1 n1.2.2
    let n2 := rdN 8 m1.2.1 m1.2.2
    let m2 := rdMany rdSpan n2.1.toNat n2.2.1 n2.2.2
    (⟨u1.1, t1.1, t2.1, u2.1, u3.1, m1.1, m2.1⟩, m2.2.1, m2.2.2))) := by
    show _ = _
    unfold rdPerson
    simp only
  have HR0 := Lib.hid hr0; have H0 := Lib.hid h0; have HB0 := Lib.hid hbt0; have HZ0 := Lib.hid hz0
  clear h h0 hbt0 hr0 hz0
  go_enter Tryz.func49, Tryz.ntmps49
  go_wp2_with fail
  generalize w.alloc (.cells #[.int .i64 0, .string ⟨#[]⟩, .string ⟨#[]⟩, .int .i64 0, .int .i64 0, .slice none 0 0, .slice none 0 0] 49) = W at *
  refine (readerUint_any g S rest bad W H0.out).mono ?_
  rintro e w1 ⟨rfl, hr1, hb1⟩
  generalize rdU rest bad = u1 at *
  go_wp2_with fail
  refine (readerText_any g S u1.2.1 u1.2.2 w1 hr1).mono ?_
  rintro e w2 ⟨rfl, hr2, hb2⟩
  generalize rdT u1.2.1 u1.2.2 = t1 at *
  go_wp2_with fail
  refine (readerText_any g S t1.2.1 t1.2.2 w2 hr2).mono ?_
  rintro e w3 ⟨rfl, hr3, hb3⟩
  generalize rdT t1.2.1 t1.2.2 = t2 at *
  go_wp2_with fail
  refine (readerUint_any g S t2.2.1 t2.2.2 w3 hr3).mono ?_
  rintro e w4 ⟨rfl, hr4, hb4⟩
  generalize rdU t2.2.1 t2.2.2 = u2 at *
  go_wp2_with fail
  refine (readerUint_any g S u2.2.1 u2.2.2 w4 hr4).mono ?_
  rintro e w5 ⟨rfl, hr5, hb5⟩
  generalize rdU u2.2.1 u2.2.2 = u3 at *
  have hbt : But g W w5 := (((hb1.trans hb2).trans hb3).trans hb4).trans hb5
  have hW2 : w.heap.size + 1 ≤ w5.heap.size := Nat.le_trans HZ0.out hbt.size
  have HINV : Hid (PInv w g S w5.heap.size (w5.alloc (.cells #[.int .i64 u1.1, .string t1.1, .string t2.1, .int .i64 u2.1, .int .i64 u3.1, .slice none 0 0, .slice none 0 0] 49)) #[.int .i64 u1.1, .string t1.1, .string t2.1, .int .i64 u2.1, .int .i64 u3.1, .slice none 0 0, .slice none 0 0] u3.2.1 u3.2.2) := by
    refine ⟨heap_alloc_new _ _, ?_, hr5.next ((Below.refl _ _).alloc (Nat.le_refl _) _), (HB0.out.trans hbt).alloc _, by omega, hg, hS⟩
    rw [Below.heap_alloc _ _ _ (by omega), hbt.block _ (by have := HZ0.out; omega) (by omega)]
    exact HR0.out
  clear HR0 H0 HB0 HZ0 hr1 hb1 hb2 hb3 hb4 hb5 hr2 hr3 hr4 hr5 hbt
  go_wp2_with fail
  generalize w5.alloc (.cells #[.int .i64 u1.1, .string t1.1, .string t2.1, .int .i64 u2.1, .int .i64 u3.1, .slice none 0 0, .slice none 0 0] 49) = W6 at *
  generalize w5.heap.size = pb at *
  refine (readerCountTo_any g S u3.2.1 u3.2.2 8 W6 HINV.out.rd).mono ?_
  rintro e w6 ⟨rfl, hr6, hb6⟩
  have hn := rdN_range (m := 8) u3.2.2 HINV.out.rd.by_ (by decide)
  have hinv6 := HINV.out.call hb6 hr6
  clear HINV hr6 hb6
  generalize rdN 8 u3.2.1 u3.2.2 = n1 at *
  obtain ⟨n, r0, b0⟩ := n1
  simp only at hinv6 HFL hn
  obtain ⟨m, rfl⟩ := Int.eq_ofNat_of_zero_le hn.1
  have hm : m ≤ 8 := by omega
  have HINV := Lib.hid hinv6
  clear hn hinv6
  simp only [Int.toNat_natCast] at HFL
  go_wp2_with fail
  go_loopw [17] (fun i wr => ∃ (k : Nat) (v : Value), k ≤ m ∧ i = .int .i64 k ∧ PInv w g S pb wr #[.int .i64 u1.1, .string t1.1, .string t2.1, .int .i64 u2.1, .int .i64 u3.1, v, .slice none 0 0] (rdMany rdT k r0 b0).2.1 (rdMany rdT k r0 b0).2.2 ∧ Own Ty.str 9 wr (pb + 1) v (rdMany rdT k r0 b0).1) (fun i _ => m - (intOf i).toNat)
  case atStart => exact ⟨0, _, Nat.zero_le _, rfl, HINV.out, Own.nil⟩
  case round =>
    obtain ⟨k, v, hk, rfl, hinv, hown⟩ := hrel
    clear HINV
    by_cases hlt : k < m
    · have HSN : Hid (rdMany rdT (k + 1) r0 b0 = ((rdMany rdT k r0 b0).1 ++ [(rdT (rdMany rdT k r0 b0).2.1 (rdMany rdT k r0 b0).2.2).1], (rdT (rdMany rdT k r0 b0).2.1 (rdMany rdT k r0 b0).2.2).2.1, (rdT (rdMany rdT k r0 b0).2.1 (rdMany rdT k r0 b0).2.2).2.2)) := rfl
      have hlen := rdMany_len (f := rdT) k r0 b0
      have hll : (rdMany rdT k r0 b0).1.length ≤ 8 := by omega
      clear hlen
      generalize rdMany rdT k r0 b0 = q at *
      obtain ⟨xs, r, b⟩ := q
      simp only at hinv hown HSN hll
      have HC : Hid (∀ q, (wr.drewN q).cell? ⟨pb, 5, none⟩ = some v) := fun q => block_cell (w := wr.drewN q) hinv.p 5
      have hc1 : wr.cell? ⟨pb, 5, none⟩ = some v := block_cell hinv.p 5
      have HRR : Hid (∀ q, Rd (wr.drewN q) g S r b) := fun q => hinv.rd.frame (fun _ _ _ => rfl) (Nat.le_refl _)
      have HI := Lib.hid hinv
      have HO := Lib.hid hown
      have hwsz := hinv.pl
      have hgp : g < pb := Nat.lt_trans hg hinv.lt
      have hbD := (But.refl g wr).drewN 1
      have HROW : Hid (∀ k, v.ownBlock = some k → pb < k) := fun k hk => (HO.out.lt k hk).1
      clear hinv hown
      go_wp2_with fail
      go_region_law (first
        | (refine step_push rfl (.tmp 20) (.tmp 23) 36 rfl 16 elem_strs (by simp [Act.eval, Act.put]) (HOWN.out _) w4.heap.size (rdT r b).1 (fun _ => False) (by simp [Act.eval, Act.put]) ⟨[.string (rdT r b).1], rfl, At.new w4 #[.string (rdT r b).1] _⟩ (fun _ h => h.elim) (by omega) (by decide) (by simp; omega) ?_; intro g6 cap6 w6 hown6 hgr6 hat6; have hz6 := HI.out.p6 hb7 hgr6 HROW.out; have hc6 : w6.cell? ⟨pb, 5, none⟩ = some v := block_cell hz6 5; have hf6 : w6.frozen? ⟨pb, 5, none⟩ = false := block_free hz6 5; have HSTEP := Lib.hid (HI.out.step hb7 hr4 hgr6 HROW.out 5 (.slice (some ⟨g6, 0, none⟩) (xs.length + 1) cap6)); have HOWN6 := Lib.hid (hown6.setCell (g := pb) (j := 5) (by omega) (.slice (some ⟨g6, 0, none⟩) (xs.length + 1) cap6)); clear hz6)
        | (go_simp; go_at_call 89; refine (readerText_any g S r b _ (HRR.out _)).mono ?_; rintro e w4 ⟨rfl, hr4, hb4⟩; have hc4 : w4.cell? ⟨pb, 5, none⟩ = some v := hb4.cell (HC.out _) (by simp; omega); have hb7 := hbD.trans hb4; have hs5 := hb7.size; have hc5' : ∀ o, (w4.alloc o).cell? ⟨pb, 5, none⟩ = some v := fun o => (World.cell?_alloc_past _ _ _ (by omega)).trans hc4; have HOWN : Hid (∀ o, Own Ty.str 9 (w4.alloc o) (pb + 1) v xs) := fun o => (HO.out.but hb7 (by omega)).alloc o)
        | fail)
      all_goals
        go_wp2_with fail
        go_roundw
        case rel => exact ⟨k + 1, _, by omega, by go_num, by rw [HSN.out]; exact HSTEP.out, by rw [HSN.out]; exact HOWN6.out⟩
        case measure => simp [intOf]; omega
    · have hkm : k = m := by omega
      subst hkm
      generalize rdMany rdT k r0 b0 = qz at *
      obtain ⟨ts, r, b⟩ := qz
      simp only at hinv hown HFL
      obtain ⟨Az, cz, rfl, hslz⟩ := hown.sl
      have HI := Lib.hid hinv
      have HSLZ := Lib.hid hslz
      have hn := rdN_range (m := 8) b hinv.rd.by_ (by decide)
      clear hinv hown hslz hlt hk
      go_wp2_with fail
      refine (readerCountTo_any g S r b 8 wr HI.out.rd).mono ?_
      rintro e w2 ⟨rfl, hr2, hb2⟩
      have hinv2 := HI.out.call hb2 hr2
      have hszz := hinv2.pl
      have hgp : g < pb := Nat.lt_trans hg HI.out.lt
      have HSLZ2 : Hid (Sl Ty.str w2 (fun b => pb < b ∧ b < w2.heap.size) Az ts.length cz ts) := by
        refine (HSLZ.out.keep fun q hq => ?_).more fun q hq => ⟨by omega, by have := hb2.size; omega⟩
        exact hb2.block q hq.2 (by omega)
      clear hr2 hb2 HI HSLZ
      generalize rdN 8 r b = q1 at *
      obtain ⟨nn, r1, b1⟩ := q1
      simp only at hinv2 hn HFL
      obtain ⟨k2, rfl⟩ := Int.eq_ofNat_of_zero_le hn.1
      have hk2 : k2 ≤ 8 := by omega
      have HINV := Lib.hid hinv2
      clear hn hinv2
      go_wp2_with fail
      obtain ⟨wo, rfl⟩ : ∃ wo : World, wo = wr := ⟨_, rfl⟩
      generalize hH2 : w2.heap.size = H2 at *
      have hH2' : H2 ≤ w2.heap.size := by omega
      clear hH2
      simp only [Int.toNat_natCast] at HFL
      go_loopw [29] (fun i wr => ∃ (k : Nat) (v : Value), k ≤ k2 ∧ i = .int .i64 k ∧ PInv w g S pb wr #[.int .i64 u1.1, .string t1.1, .string t2.1, .int .i64 u2.1, .int .i64 u3.1, .slice Az ts.length cz, v] (rdMany rdSpan k r1 b1).2.1 (rdMany rdSpan k r1 b1).2.2 ∧ Own Ty.shift 72 wr H2 v (rdMany rdSpan k r1 b1).1 ∧ H2 ≤ wr.heap.size ∧ Sl Ty.str wr (fun b => pb < b ∧ b < H2) Az ts.length cz ts) (fun i _ => k2 - (intOf i).toNat)
      case atStart => exact ⟨0, _, Nat.zero_le _, rfl, HINV.out, Own.nil, hH2', HSLZ2.out⟩
      case round =>
        obtain ⟨k, v, hk, rfl, hinv, hown, hHs, hslz⟩ := hrel
        clear HINV HSLZ2 hH2'
        by_cases hlt : k < k2
        · have HSN : Hid (rdMany rdSpan (k + 1) r1 b1 = ((rdMany rdSpan k r1 b1).1 ++ [(rdSpan (rdMany rdSpan k r1 b1).2.1 (rdMany rdSpan k r1 b1).2.2).1], (rdSpan (rdMany rdSpan k r1 b1).2.1 (rdMany rdSpan k r1 b1).2.2).2.1, (rdSpan (rdMany rdSpan k r1 b1).2.1 (rdMany rdSpan k r1 b1).2.2).2.2)) := rfl
          have hlen := rdMany_len (f := rdSpan) k r1 b1
          have hll : (rdMany rdSpan k r1 b1).1.length ≤ 8 := by omega
          clear hlen
          generalize rdMany rdSpan k r1 b1 = q at *
          obtain ⟨xs, r, b⟩ := q
          simp only at hinv hown HSN hll
          have HSE : Hid (rdSpan r b = (⟨(rdU r b).1, (rdU (rdU r b).2.1 (rdU r b).2.2).1⟩, (rdU (rdU r b).2.1 (rdU r b).2.2).2)) := rfl
          have HC : Hid (∀ q, (wr.drewN q).cell? ⟨pb, 6, none⟩ = some v) := fun q => block_cell (w := wr.drewN q) hinv.p 6
          have hc1 : wr.cell? ⟨pb, 6, none⟩ = some v := block_cell hinv.p 6
          have HRR : Hid (∀ q, Rd (wr.drewN q) g S r b) := fun q => hinv.rd.frame (fun _ _ _ => rfl) (Nat.le_refl _)
          have HI := Lib.hid hinv
          have HO := Lib.hid hown
          have HSZ := Lib.hid hslz
          have hwsz := hinv.pl
          have hbD := (But.refl g wr).drewN 1
          have HROW0 : Hid (∀ k, v.ownBlock = some k → H2 ≤ k) := fun k hk => (HO.out.lt k hk).1
          have HROW : Hid (∀ k, v.ownBlock = some k → pb < k) := fun k hk => by have := (HO.out.lt k hk).1; omega
          clear hinv hown hslz
          go_wp2_with fail
          go_region_law (first
            | (refine step_push rfl (.tmp 32) (.tmp 38) 47 rfl 16 elem_span (by simp [Act.eval, Act.put]) (HOWN.out _) w5.heap.size ⟨(rdU r b).1, (rdU (rdU r b).2.1 (rdU r b).2.2).1⟩ (fun _ => False) (by simp [Act.eval, Act.put]) ⟨[.int .i64 (rdU r b).1, .int .i64 (rdU (rdU r b).2.1 (rdU r b).2.2).1], rfl, At.new w5 #[.int .i64 (rdU r b).1, .int .i64 (rdU (rdU r b).2.1 (rdU r b).2.2).1] _⟩ (fun _ h => h.elim) (by omega) (by decide) (by simp; omega) ?_; intro g6 cap6 w6 hown6 hgr6 hat6; have hz6 := HI.out.p6 hb7 hgr6 HROW.out; have hc6 : w6.cell? ⟨pb, 6, none⟩ = some v := block_cell hz6 6; have hf6 : w6.frozen? ⟨pb, 6, none⟩ = false := block_free hz6 6; have HSTEP := Lib.hid (HI.out.step hb7 hr5 hgr6 HROW.out 6 (.slice (some ⟨g6, 0, none⟩) (xs.length + 1) cap6)); have HOWN6 := Lib.hid (hown6.setCell (g := pb) (j := 6) (by omega) (.slice (some ⟨g6, 0, none⟩) (xs.length + 1) cap6)); have HS6 := Lib.hid (HSZ.out.keep (HI.out.mid hb7 hgr6 HROW0.out (by omega) hHs 6 (.slice (some ⟨g6, 0, none⟩) (xs.length + 1) cap6))); have hhs6 := hgr6.size; clear hz6)
            | (go_simp; go_at_call 88; refine (readerUint_any g S _ _ _ hr4).mono ?_; rintro e w5 ⟨rfl, hr5, hb5⟩; have hc5 : w5.cell? ⟨pb, 6, none⟩ = some v := hb5.cell hc4 (by simp; omega); have hb7 := (hbD.trans hb4).trans hb5; have hs5 := hb7.size; have hc5' : ∀ o, (w5.alloc o).cell? ⟨pb, 6, none⟩ = some v := fun o => (World.cell?_alloc_past _ _ _ (by omega)).trans hc5; have HOWN : Hid (∀ o, Own Ty.shift 72 (w5.alloc o) H2 v xs) := fun o => (HO.out.but hb7 (by omega)).alloc o)
            | (go_simp; go_at_call 88; refine (readerUint_any g S r b _ (HRR.out _)).mono ?_; rintro e w4 ⟨rfl, hr4, hb4⟩; have hc4 : w4.cell? ⟨pb, 6, none⟩ = some v := hb4.cell (HC.out _) (by simp; omega))
            | fail)
          all_goals
            go_wp2_with fail
            go_roundw
            case rel => exact ⟨k + 1, _, by omega, by go_num, by rw [HSN.out, HSE.out]; exact HSTEP.out, by rw [HSN.out, HSE.out]; exact HOWN6.out, by simp at hhs6; simp; omega, HS6.out⟩
            case measure => simp [intOf]; omega
        · have hkm : k = k2 := by omega
          subst hkm
          generalize rdMany rdSpan k r1 b1 = qa at *
          obtain ⟨vs, r, b⟩ := qa
          simp only at hinv hown HFL
          obtain ⟨Aa, ca, rfl, hsla⟩ := hown.sl
          have y := fun j => block_cell hinv.p j
          have z := fun j => block_cell hinv.res j
          have fz := fun j => block_free hinv.res j
          unfold pZero at z
          have y0 := y 0; have y1 := y 1; have y2 := y 2; have y3 := y 3; have y4 := y 4; have y5 := y 5; have y6 := y 6
          have z0 := z 0; have z1 := z 1; have z2 := z 2; have z3 := z 3; have z4 := z 4; have z5 := z 5; have z6 := z 6
          have f0 := fz 0; have f1 := fz 1; have f2 := fz 2; have f3 := fz 3; have f4 := fz 4; have f5 := fz 5; have f6 := fz 6
          have HI := Lib.hid hinv
          have HSA := Lib.hid hsla; have HSZ := Lib.hid hslz
          have hwp := hinv.lt
          clear y z fz hinv hown hsla hslz
          go_wp2_with fail
          refine bodyPost_ret (v := .agg #[.int .i64 u1.1, .string t1.1, .string t2.1, .int .i64 u2.1, .int .i64 u3.1, .slice Az ts.length cz, .slice Aa vs.length ca]) (by simp [results, Tryz.results49, go_sem, z0, z1, z2, z3, z4, z5, z6]) rfl ⟨Az, _, cz, Aa, _, ca, by rw [HFL.out], ?_, ?_, ?_, ?_⟩
          · rw [HFL.out]
            refine (HSZ.out.keep fun q hq => ?_).more fun q hq => ⟨by omega, by simp; omega⟩
            repeat rw [heap_setCell_other _ _ _ _ (by simp; omega)]
          · rw [HFL.out]
            refine (HSA.out.keep fun q hq => ?_).more fun q hq => ⟨by omega, by simp; omega⟩
            repeat rw [heap_setCell_other _ _ _ _ (by simp; omega)]
          · rw [HFL.out]
            repeat' refine Rd.setFar ?_ hS hg (Nat.le_refl _) _ _
            exact HI.out.rd
          · repeat' refine But.setFar ?_ (Nat.le_refl _) _ _
            exact HI.out.but
end Go.Proofs.YtkhedjfdjjeopaaGreatDoor
/-
  A crew under construction by a parser: the persons in a row, each with two lists in rows of their own, no two lists in one row; append of a person without lists; a list grown by one.
  No condition.
-/
namespace Go.Proofs.YtkhedjfdjjeopaaGreatDoor
set_option linter.unusedSimpArgs false
set_option linter.unusedVariables false
open Go.RowKit

section
variable {α : Type} {t : Ty α} {e : TypeId} {w w' : World} {base : Nat} {v : Value} {xs : List α}
theorem Own.flatP (ht : t.Flat) (h : Own t e w base v xs) (hk : ∀ b, v.ownBlock = some b → w'.heap[b]? = w.heap[b]?) : Own t e w' base v xs := by
  obtain ⟨cs, h1, h2⟩ := h
  refine ⟨cs, ⟨h1.1, ?_⟩, h2.flat ht⟩
  rcases h1.2 with h3 | ⟨g, cap, cur, hv, hg, hb, r⟩
  · exact .inl h3
  · exact .inr ⟨g, cap, cur, hv, hg, (hk g (by rw [hv]; rfl)).trans hb, r⟩
theorem Own.tagP (h : Own t e w base v xs) {b : Nat} (hb : v.ownBlock = some b) : ∃ cur, w.heap[b]? = some (.cells cur e (0, 0)) := by
  obtain ⟨cs, h1, _⟩ := h
  rcases h1.2 with ⟨rfl, _⟩ | ⟨g, cap, cur, rfl, _, hg, _⟩
  · simp [Value.ownBlock] at hb
  · simp [Value.ownBlock] at hb
    subst hb
    exact ⟨cur, hg⟩
/-- A block of another type is not the row. -/
theorem Own.apart (h : Own t e w base v xs) {b : Nat} {cur : Array Value} {T : TypeId} {z : Nat × Nat} (hb : w.heap[b]? = some (.cells cur T z)) (hT : T ≠ e) : some b ≠ v.ownBlock := by
  intro e1
  obtain ⟨c2, h2⟩ := h.tagP e1.symm
  rw [hb] at h2
  injection h2 with h2
  injection h2 with _ h3
  exact hT h3
end
/-- A person's cells. -/
def pCells (p : GPerson) (tv vv : Value) : List Value := [.int .i64 p.id, .string p.name, .string p.base, .int .i64 p.rank, .int .i64 p.sen, tv, vv]
def PMem (w : World) (v : Value) (ps : List GPerson) (lo hi : Nat) : Prop :=
  ∃ (cs : List Value) (tv vv : Nat → Value), w.ownsRow lo 49 7 v ps.length cs ∧ (∀ k, v.ownBlock = some k → k < hi) ∧
    (∀ i p, ps[i]? = some p → (cs.drop (i * 7)).take 7 = pCells p (tv i) (vv i) ∧ Own Ty.str 9 w lo (tv i) p.types ∧ (∀ k, (tv i).ownBlock = some k → k < hi) ∧ Own Ty.shift 72 w lo (vv i) p.vacs ∧ (∀ k, (vv i).ownBlock = some k → k < hi)) ∧
    (∀ i j b, i < ps.length → j < ps.length → i ≠ j → (tv i).ownBlock = some b → (tv j).ownBlock ≠ some b) ∧
    (∀ i j b, i < ps.length → j < ps.length → i ≠ j → (vv i).ownBlock = some b → (vv j).ownBlock ≠ some b)
theorem PMem.nil (w : World) (lo hi : Nat) : PMem w (.slice none 0 0) [] lo hi :=
  ⟨[], fun _ => undef, fun _ => undef, World.ownsRow_nil _ _ _ _, fun k hk => by simp [Value.ownBlock] at hk, fun i p h => by simp at h, fun i j b h => by simp at h, fun i j b h => by simp at h⟩
section
variable {w w' : World} {v : Value} {ps : List GPerson} {lo hi : Nat}
theorem PMem.keep (h : PMem w v ps lo hi) {hi' : Nat} (hh : hi ≤ hi') (hk : ∀ b, lo ≤ b → b < hi → w'.heap[b]? = w.heap[b]?) : PMem w' v ps lo hi' := by
  obtain ⟨cs, tv, vv, h1, h2, h3, h4, h5⟩ := h
  refine ⟨cs, tv, vv, ⟨h1.1, ?_⟩, fun k hk => Nat.lt_of_lt_of_le (h2 k hk) hh, fun i p hp => ?_, h4, h5⟩
  · rcases h1.2 with h7 | ⟨g, cap, cur, hv, hg, hb, r⟩
    · exact .inl h7
    · exact .inr ⟨g, cap, cur, hv, hg, (hk g hg (h2 g (by rw [hv]; rfl))).trans hb, r⟩
  · obtain ⟨e, a1, a2, a3, a4⟩ := h3 i p hp
    exact ⟨e, a1.flatP flat_str fun b hb => hk b (a1.lt b hb).1 (a2 b hb), fun k hk => Nat.lt_of_lt_of_le (a2 k hk) hh, a3.flatP flat_shift fun b hb => hk b (a3.lt b hb).1 (a4 b hb), fun k hk => Nat.lt_of_lt_of_le (a4 k hk) hh⟩
theorem PMem.lt (h : PMem w v ps lo hi) : ∀ k, v.ownBlock = some k → lo ≤ k ∧ k < hi := fun k hk => by
  obtain ⟨cs, tv, vv, h1, h2, _⟩ := h
  exact ⟨(h1.lt k hk).1, h2 k hk⟩
theorem take_cutP {cur : List Value} {n i : Nat} (h : i < n) : ((cur.take (n * 7)).drop (i * 7)).take 7 = (cur.drop (i * 7)).take 7 := by
  rw [List.drop_take, List.take_take, Nat.min_eq_left (by omega)]
theorem PMem.sl (h : PMem w v ps lo hi) : ∃ A c, v = .slice A ps.length c ∧ Sl Ty.person w (fun b => lo ≤ b ∧ b < w.heap.size) A ps.length c ps := by
  obtain ⟨cs, tv, vv, h1, h2, h3, _⟩ := h
  rcases h1.2 with ⟨rfl, h7⟩ | ⟨g, cap, cur, hv, hg, hb, hc, hm, hs, ht⟩
  · rw [h7, List.eq_nil_of_length_eq_zero h7]
    exact ⟨none, 0, rfl, Sl.nil0⟩
  · refine ⟨_, cap, hv, ⟨rfl, hc, hm, fun _ => ⟨g, 0, rfl, ⟨hg, (Array.getElem?_eq_some_iff.1 hb).1⟩, fun i x hi => ⟨(cur.toList.drop (i * 7)).take 7, ?_, fun j u hu => ?_⟩⟩⟩⟩
    · obtain ⟨e, a1, a2, a3, a4⟩ := h3 i x hi
      rw [← ht, take_cutP (List.getElem?_eq_some_iff.1 hi).1] at e
      obtain ⟨A1, c1, e1, s1⟩ := a1.sl
      obtain ⟨A2, c2, e2, s2⟩ := a3.sl
      refine ⟨A1, _, c1, A2, _, c2, ?_, s1, s2⟩
      rw [e, e1, e2]; rfl
    · rw [block_cell hb]
      rw [List.getElem?_take] at hu
      split at hu
      · rw [List.getElem?_drop] at hu
        rw [Nat.zero_add]
        simpa [Ty.person] using hu
      · cases hu
/-- The row of persons, and what remains where a person without lists is appended. -/
theorem PMem.pushable (h : PMem w v ps lo hi) (hhi : hi ≤ w.heap.size) : ∃ cs, w.ownsRow lo 49 7 v ps.length cs ∧
    ∀ (v' : Value) (w' : World) (p : GPerson), p.types = [] → p.vacs = [] → w'.ownsRow lo 49 7 v' (ps.length + 1) (cs ++ pCells p (.slice none 0 0) (.slice none 0 0)) → w.grownBy w' v.ownBlock → PMem w' v' (ps ++ [p]) lo w'.heap.size := by
  obtain ⟨cs, tv, vv, h1, h2, h3, h4, h5⟩ := h
  refine ⟨cs, h1, fun v' w' p hp1 hp2 ho' hgr => ?_⟩
  have hcl : cs.length = ps.length * 7 := h1.1
  have hkeep : ∀ {T : TypeId} {q : Nat} {cur : Array Value}, w.heap[q]? = some (.cells cur T (0, 0)) → T ≠ 49 → w'.heap[q]? = w.heap[q]? := fun {T q cur} hc hT => by
    refine hgr.block q (Array.getElem?_eq_some_iff.1 hc).1 fun e1 => ?_
    rcases h1.2 with ⟨rfl, _⟩ | ⟨g, cap, cur2, rfl, _, hg, _⟩
    · simp [Value.ownBlock] at e1
    · simp [Value.ownBlock] at e1
      subst e1
      rw [hg] at hc
      injection hc with hc
      injection hc with _ h8
      exact hT h8.symm
  have hsz := hgr.size
  refine ⟨_, fun i => if i < ps.length then tv i else .slice none 0 0, fun i => if i < ps.length then vv i else .slice none 0 0, by simpa using ho', fun k hk => (ho'.lt k hk).2, fun j q hq => ?_, fun i j b hi hj hij e1 e2 => ?_, fun i j b hi hj hij e1 e2 => ?_⟩
  · have hjl := (List.getElem?_eq_some_iff.1 hq).1
    rw [List.length_append, List.length_singleton] at hjl
    rcases Nat.lt_or_ge j ps.length with hlt | hge
    · rw [List.getElem?_append_left hlt] at hq
      obtain ⟨e, a1, a2, a3, a4⟩ := h3 j q hq
      simp only [if_pos hlt]
      rw [List.drop_append_of_le_length (by omega), List.take_append_of_le_length (by rw [List.length_drop]; omega)]
      refine ⟨e, a1.flatP flat_str fun b hb => ?_, fun k hk => by have := a2 k hk; omega, a3.flatP flat_shift fun b hb => ?_, fun k hk => by have := a4 k hk; omega⟩
      · obtain ⟨cur, hc⟩ := a1.tagP hb
        exact hkeep hc (by decide)
      · obtain ⟨cur, hc⟩ := a3.tagP hb
        exact hkeep hc (by decide)
    · have hj : j = ps.length := by omega
      subst hj
      rw [List.getElem?_append_right (Nat.le_refl _), Nat.sub_self] at hq
      simp at hq
      subst hq
      have e2 : (cs ++ pCells p (.slice none 0 0) (.slice none 0 0)).drop (ps.length * 7) = pCells p (.slice none 0 0) (.slice none 0 0) := by rw [← hcl, List.drop_left]
      simp only [if_neg (Nat.lt_irrefl _)]
      rw [e2, List.take_of_length_le (by exact Nat.le_refl 7), hp1, hp2]
      exact ⟨rfl, Own.nil, fun k hk => by simp [Value.ownBlock] at hk, Own.nil, fun k hk => by simp [Value.ownBlock] at hk⟩
  · rw [List.length_append, List.length_singleton] at hi hj
    by_cases c1 : i < ps.length
    · by_cases c2 : j < ps.length
      · simp only [if_pos c1, if_pos c2] at e1 e2
        exact h4 i j b c1 c2 hij e1 e2
      · simp only [if_neg c2] at e2
        simp [Value.ownBlock] at e2
    · simp only [if_neg c1] at e1
      simp [Value.ownBlock] at e1
  · rw [List.length_append, List.length_singleton] at hi hj
    by_cases c1 : i < ps.length
    · by_cases c2 : j < ps.length
      · simp only [if_pos c1, if_pos c2] at e1 e2
        exact h5 i j b c1 c2 hij e1 e2
      · simp only [if_neg c2] at e2
        simp [Value.ownBlock] at e2
    · simp only [if_neg c1] at e1
      simp [Value.ownBlock] at e1
end
theorem drop_take_setP {cur : List Value} {i k j : Nat} {x : Value} (hj : j < 7) : (((cur.set (i * 7 + j) x).drop (k * 7)).take 7) = if k = i then ((cur.drop (k * 7)).take 7).set j x else (cur.drop (k * 7)).take 7 := by
  apply List.ext_getElem?
  intro q
  by_cases hki : k = i
  · subst hki
    rw [if_pos rfl]
    simp only [List.getElem?_take, List.getElem?_drop, List.getElem?_set]
    by_cases hq : q < 7
    · rw [if_pos hq]
      by_cases hqj : j = q
      · subst hqj
        rw [if_pos rfl, if_pos rfl]
        simp only [List.length_take, List.length_drop]
        by_cases h9 : k * 7 + j < cur.length
        · rw [if_pos h9, if_pos (by omega)]
        · rw [if_neg h9, if_neg (by omega)]
      · rw [if_neg (by omega), if_neg hqj, if_pos hq]
    · rw [if_neg hq, if_neg (by omega)]
      rw [if_neg hq]
  · rw [if_neg hki]
    simp only [List.getElem?_take, List.getElem?_drop, List.getElem?_set]
    by_cases hq : q < 7
    · rw [if_pos hq, if_pos hq, if_neg (by omega)]
    · rw [if_neg hq, if_neg hq]
theorem setRow_own {w' : World} {v : Value} {n lo g cap : Nat} {cur : Array Value} {k : Nat} {x : Value} (hv : v = .slice (some ⟨g, 0, none⟩) n cap) (hlo : lo ≤ g) (hc : n ≤ cap) (hm : cap ≤ maxLen) (hs : cur.size = cap * 7)
    (hg' : w'.heap[g]? = some (.cells (cur.setIfInBounds k x) 49 (0, 0))) : w'.ownsRow lo 49 7 v n ((cur.setIfInBounds k x).toList.take (n * 7)) :=
  ⟨by rw [List.length_take, Array.length_toList, Array.size_setIfInBounds, hs]; have := Nat.mul_le_mul_right 7 hc; omega, .inr ⟨g, cap, _, hv, hlo, hg', hc, hm, by rw [Array.size_setIfInBounds, hs], rfl⟩⟩
section
variable {w : World} {v : Value} {ps : List GPerson} {lo hi : Nat}
/-- One person's cells and lists, and what remains where one of its lists has grown by one. -/
theorem PMem.one (h : PMem w v ps lo hi) (hhi : hi ≤ w.heap.size) {i : Nat} {p : GPerson} (hp : ps[i]? = some p) :
    ∃ g cap cur tv vv, v = .slice (some ⟨g, 0, none⟩) ps.length cap ∧ lo ≤ g ∧ g < hi ∧ w.heap[g]? = some (.cells cur 49 (0, 0)) ∧ (cur.toList.drop (i * 7)).take 7 = pCells p tv vv ∧
      Own Ty.str 9 w lo tv p.types ∧ (∀ k, tv.ownBlock = some k → k < hi) ∧ Own Ty.shift 72 w lo vv p.vacs ∧ (∀ k, vv.ownBlock = some k → k < hi) ∧
      (∀ (w6 : World) (x : Value) (s : ByteArray), Own Ty.str 9 w6 lo x (p.types ++ [s]) → (∀ q, q < w.heap.size → some q ≠ tv.ownBlock → w6.heap[q]? = w.heap[q]?) → w.heap.size ≤ w6.heap.size → (x.ownBlock = tv.ownBlock ∨ ∃ k, x.ownBlock = some k ∧ w.heap.size ≤ k) →
        PMem (w6.setCell ⟨g, i * 7 + 5, none⟩ x) v (ps.set i ⟨p.id, p.name, p.base, p.rank, p.sen, p.types ++ [s], p.vacs⟩) lo w6.heap.size) ∧
      (∀ (w6 : World) (x : Value) (s : GShift), Own Ty.shift 72 w6 lo x (p.vacs ++ [s]) → (∀ q, q < w.heap.size → some q ≠ vv.ownBlock → w6.heap[q]? = w.heap[q]?) → w.heap.size ≤ w6.heap.size → (x.ownBlock = vv.ownBlock ∨ ∃ k, x.ownBlock = some k ∧ w.heap.size ≤ k) →
        PMem (w6.setCell ⟨g, i * 7 + 6, none⟩ x) v (ps.set i ⟨p.id, p.name, p.base, p.rank, p.sen, p.types, p.vacs ++ [s]⟩) lo w6.heap.size) := by
  obtain ⟨cs, tv, vv, h1, h2, h3, h4, h5⟩ := h
  have hil := (List.getElem?_eq_some_iff.1 hp).1
  rcases h1.2 with ⟨rfl, h7⟩ | ⟨g, cap, cur, hv, hg, hb, hc, hm, hs, ht⟩
  · omega
  obtain ⟨e, a1, a2, a3, a4⟩ := h3 i p hp
  rw [← ht, take_cutP hil] at e
  have hgl : g < w.heap.size := (Array.getElem?_eq_some_iff.1 hb).1
  refine ⟨g, cap, cur, tv i, vv i, hv, hg, h2 g (by rw [hv]; rfl), hb, e, a1, a2, a3, a4, fun w6 x s hx hk hsz hxb => ?_, fun w6 x s hx hk hsz hxb => ?_⟩
  · have hg6 : w6.heap[g]? = some (.cells cur 49 (0, 0)) := (hk g hgl (a1.apart hb (by decide))).trans hb
    have hg7 := heap_setCell_same w6 g (i * 7 + 5) _ _ x hg6
    have hoth : ∀ q, q ≠ g → (w6.setCell ⟨g, i * 7 + 5, none⟩ x).heap[q]? = w6.heap[q]? := fun q hq => heap_setCell_other _ _ _ _ hq
    have hkeep : ∀ {T : TypeId} {q : Nat} {c2 : Array Value}, w.heap[q]? = some (.cells c2 T (0, 0)) → T ≠ 49 → some q ≠ (tv i).ownBlock → (w6.setCell ⟨g, i * 7 + 5, none⟩ x).heap[q]? = w.heap[q]? := fun {T q c2} hc2 hT hne => by
      rw [hoth q (fun e1 => by subst e1; rw [hb] at hc2; injection hc2 with hc2; injection hc2 with _ h8; exact hT h8.symm)]
      exact hk q (Array.getElem?_eq_some_iff.1 hc2).1 hne
    refine ⟨_, fun j => if j = i then x else tv j, vv, by rw [List.length_set]; exact setRow_own hv hg hc hm hs hg7, fun k hk' => by have := h2 k hk'; omega, fun j q hq => ?_, fun j k b hj hk' hjk e1 e2 => ?_, fun j k b hj hk' => h5 j k b (by simpa using hj) (by simpa using hk')⟩
    · have hjl := (List.getElem?_eq_some_iff.1 hq).1
      rw [List.length_set] at hjl
      rw [take_cutP hjl, Array.toList_setIfInBounds, drop_take_setP (by decide)]
      by_cases hji : j = i
      · subst hji
        rw [List.getElem?_set_self hil] at hq
        injection hq with hq
        subst hq
        simp only [if_pos]
        refine ⟨by rw [e]; rfl, hx.flatP flat_str fun b hb2 => hoth b fun e1 => hx.apart hg6 (by decide) (by rw [hb2, e1]), fun k hk' => (hx.lt k hk').2, a3.flatP flat_shift fun b hb2 => ?_, fun k hk' => by have := a4 k hk'; omega⟩
        obtain ⟨c2, hc2⟩ := a3.tagP hb2
        exact hkeep hc2 (by decide) (a1.apart hc2 (by decide))
      · rw [List.getElem?_set_ne (fun e => hji e.symm)] at hq
        simp only [if_neg hji]
        obtain ⟨f, b1, b2, b3, b4⟩ := h3 j q hq
        rw [← ht, take_cutP hjl] at f
        refine ⟨f, b1.flatP flat_str fun b hb2 => ?_, fun k hk' => by have := b2 k hk'; omega, b3.flatP flat_shift fun b hb2 => ?_, fun k hk' => by have := b4 k hk'; omega⟩
        · obtain ⟨c2, hc2⟩ := b1.tagP hb2
          exact hkeep hc2 (by decide) (fun e1 => h4 j i b hjl hil hji hb2 e1.symm)
        · obtain ⟨c2, hc2⟩ := b3.tagP hb2
          exact hkeep hc2 (by decide) (a1.apart hc2 (by decide))
    · rw [List.length_set] at hj hk'
      dsimp only at e1 e2
      have hold : ∀ m, m < ps.length → m ≠ i → (tv m).ownBlock = some b → x.ownBlock ≠ some b := fun m hm1 hm2 hmb hxe => by
        rcases hxb with h9 | ⟨z, h9, h10⟩
        · rw [h9] at hxe
          exact h4 m i b hm1 hil hm2 hmb hxe
        · obtain ⟨_, b1, b2, _⟩ := h3 m _ (List.getElem?_eq_getElem hm1)
          have := b2 b hmb
          rw [h9] at hxe
          injection hxe with hxe
          omega
      by_cases c1 : j = i
      · rw [if_pos c1] at e1
        rw [if_neg (by omega)] at e2
        exact hold k hk' (by omega) e2 e1
      · rw [if_neg c1] at e1
        by_cases c2 : k = i
        · rw [if_pos c2] at e2
          exact hold j hj c1 e1 e2
        · rw [if_neg c2] at e2
          exact h4 j k b hj hk' hjk e1 e2
  · have hg6 : w6.heap[g]? = some (.cells cur 49 (0, 0)) := (hk g hgl (a3.apart hb (by decide))).trans hb
    have hg7 := heap_setCell_same w6 g (i * 7 + 6) _ _ x hg6
    have hoth : ∀ q, q ≠ g → (w6.setCell ⟨g, i * 7 + 6, none⟩ x).heap[q]? = w6.heap[q]? := fun q hq => heap_setCell_other _ _ _ _ hq
    have hkeep : ∀ {T : TypeId} {q : Nat} {c2 : Array Value}, w.heap[q]? = some (.cells c2 T (0, 0)) → T ≠ 49 → some q ≠ (vv i).ownBlock → (w6.setCell ⟨g, i * 7 + 6, none⟩ x).heap[q]? = w.heap[q]? := fun {T q c2} hc2 hT hne => by
      rw [hoth q (fun e1 => by subst e1; rw [hb] at hc2; injection hc2 with hc2; injection hc2 with _ h8; exact hT h8.symm)]
      exact hk q (Array.getElem?_eq_some_iff.1 hc2).1 hne
    refine ⟨_, tv, fun j => if j = i then x else vv j, by rw [List.length_set]; exact setRow_own hv hg hc hm hs hg7, fun k hk' => by have := h2 k hk'; omega, fun j q hq => ?_, fun j k b hj hk' => h4 j k b (by simpa using hj) (by simpa using hk'), fun j k b hj hk' hjk e1 e2 => ?_⟩
    · have hjl := (List.getElem?_eq_some_iff.1 hq).1
      rw [List.length_set] at hjl
      rw [take_cutP hjl, Array.toList_setIfInBounds, drop_take_setP (by decide)]
      by_cases hji : j = i
      · subst hji
        rw [List.getElem?_set_self hil] at hq
        injection hq with hq
        subst hq
        simp only [if_pos]
        refine ⟨by rw [e]; rfl, a1.flatP flat_str fun b hb2 => ?_, fun k hk' => by have := a2 k hk'; omega, hx.flatP flat_shift fun b hb2 => hoth b fun e1 => hx.apart hg6 (by decide) (by rw [hb2, e1]), fun k hk' => (hx.lt k hk').2⟩
        obtain ⟨c2, hc2⟩ := a1.tagP hb2
        exact hkeep hc2 (by decide) (a3.apart hc2 (by decide))
      · rw [List.getElem?_set_ne (fun e => hji e.symm)] at hq
        simp only [if_neg hji]
        obtain ⟨f, b1, b2, b3, b4⟩ := h3 j q hq
        rw [← ht, take_cutP hjl] at f
        refine ⟨f, b1.flatP flat_str fun b hb2 => ?_, fun k hk' => by have := b2 k hk'; omega, b3.flatP flat_shift fun b hb2 => ?_, fun k hk' => by have := b4 k hk'; omega⟩
        · obtain ⟨c2, hc2⟩ := b1.tagP hb2
          exact hkeep hc2 (by decide) (a3.apart hc2 (by decide))
        · obtain ⟨c2, hc2⟩ := b3.tagP hb2
          exact hkeep hc2 (by decide) (fun e1 => h5 j i b hjl hil hji hb2 e1.symm)
    · rw [List.length_set] at hj hk'
      dsimp only at e1 e2
      have hold : ∀ m, m < ps.length → m ≠ i → (vv m).ownBlock = some b → x.ownBlock ≠ some b := fun m hm1 hm2 hmb hxe => by
        rcases hxb with h9 | ⟨z, h9, h10⟩
        · rw [h9] at hxe
          exact h5 m i b hm1 hil hm2 hmb hxe
        · obtain ⟨_, _, _, b1, b2⟩ := h3 m _ (List.getElem?_eq_getElem hm1)
          have := b2 b hmb
          rw [h9] at hxe
          injection hxe with hxe
          omega
      by_cases c1 : j = i
      · rw [if_pos c1] at e1
        rw [if_neg (by omega)] at e2
        exact hold k hk' (by omega) e2 e1
      · rw [if_neg c1] at e1
        by_cases c2 : k = i
        · rw [if_pos c2] at e2
          exact hold j hj c1 e1 e2
        · rw [if_neg c2] at e2
          exact h5 j k b hj hk' hjk e1 e2
end
end Go.Proofs.YtkhedjfdjjeopaaGreatDoor
/-
  Plain: what a parser of a crew's text does with a line and with all lines; sizes of lines and fields.
  No condition.
-/
namespace Go.Proofs.YtkhedjfdjjeopaaGreatDoor
set_option linter.unusedSimpArgs false
set_option linter.unusedVariables false
open Go.RowKit

theorem splitL_mem {c : UInt8} : ∀ {l x : List UInt8}, x ∈ splitL c l → x.length ≤ l.length := by
  intro l
  induction l with
  | nil => intro x hx; simp [splitL] at hx; subst hx; simp
  | cons b l ih =>
    intro x hx
    have he := splitL_eq c l
    unfold splitL at hx
    split at hx
    · rcases List.mem_cons.1 hx with rfl | h
      · simp
      · have := ih h; simp; omega
    · rcases List.mem_cons.1 hx with rfl | h
      · have : (splitL c l).headD [] ∈ splitL c l := by rw [he]; simp
        have := ih this
        rw [List.length_cons, List.length_cons]; omega
      · have : x ∈ splitL c l := by rw [he]; exact List.mem_cons_of_mem _ h
        have := ih this
        simp; omega
theorem takeWhile_len (p : UInt8 → Bool) (l : List UInt8) : (l.takeWhile p).length ≤ l.length := (List.takeWhile_prefix p).length_le
theorem fieldsB_mem {s f : ByteArray} (h : f ∈ fieldsB s) : f.size ≤ s.size := by
  unfold fieldsB fieldsL at h
  obtain ⟨x, hx, rfl⟩ := List.mem_map.1 h
  have h1 := splitL_mem (List.mem_filter.1 hx).1
  have h2 := takeWhile_len (fun b => b != 35) s.data.toList
  rw [bs_size, Lib.size_eq]
  simp only [Array.length_toList] at *
  omega
theorem linesB_mem {s f : ByteArray} (h : f ∈ (linesB s).1) : f.size ≤ s.size ∧ s.size ≤ 20000 := by
  unfold linesB at h
  split at h
  · simp at h
  · rename_i h0
    split at h
    · simp at h
    · split at h
      · simp at h
      · obtain ⟨x, hx, rfl⟩ := List.mem_map.1 h
        refine ⟨?_, by omega⟩
        obtain ⟨ps, cur, e⟩ := splitL_last 10 s.data.toList
        rw [linesL_of e] at hx
        have hm : x ∈ splitL 10 s.data.toList := by
          rw [e]
          split at hx
          · exact List.mem_append_left _ hx
          · exact hx
        have := splitL_mem hm
        rw [bs_size, Lib.size_eq]
        simpa using this
theorem linesB_len (s : ByteArray) : (linesB s).1.length ≤ 1000 := by
  unfold linesB
  split
  · simp
  · split
    · simp
    · split
      · simp
      · rename_i h; simp only [List.length_map]; omega

def capS : ByteArray := ⟨#[99, 97, 112, 116, 97, 105, 110]⟩
def offS : ByteArray := ⟨#[111, 102, 102, 105, 99, 101, 114]⟩
def cabS : ByteArray := ⟨#[99, 97, 98, 105, 110]⟩
def personS : ByteArray := ⟨#[112, 101, 114, 115, 111, 110]⟩
def typeS : ByteArray := ⟨#[116, 121, 112, 101]⟩
def vacS : ByteArray := ⟨#[118, 97, 99, 97, 116, 105, 111, 110]⟩
def spS : ByteArray := ⟨#[32]⟩
/-- The rank with a name, -1 if there is none. -/
def rankB (s : ByteArray) : Int := if s = capS then 0 else if s = offS then 1 else if s = cabS then 2 else -1
/-- The first place of an ID. -/
def idAt : List Int → Int → Option Nat
  | [], _ => none
  | a :: l, x => if a = x then some 0 else (idAt l x).map (· + 1)
theorem idAt_snoc (l : List Int) (a x : Int) : idAt (l ++ [a]) x = match idAt l x with
    | some i => some i
    | none => if a = x then some l.length else none := by
  induction l with
  | nil => simp [idAt]
  | cons b l ih =>
    simp only [List.cons_append, idAt]
    by_cases h : b = x
    · simp [h]
    · simp only [if_neg h, ih]
      cases h2 : idAt l x with
      | some i => simp
      | none => by_cases h3 : a = x <;> simp [h3]
theorem idAt_lt {l : List Int} {x : Int} {i : Nat} (h : idAt l x = some i) : i < l.length := by
  induction l generalizing i with
  | nil => simp [idAt] at h
  | cons b l ih =>
    unfold idAt at h
    split at h
    · injection h with h; subst h; simp
    · cases h2 : idAt l x with
      | none => rw [h2] at h; simp at h
      | some j => rw [h2] at h; simp at h; subst h; have := ih h2; simp; omega
/-- Reached from the left: x stands at k and nowhere ahead. -/
theorem idAt_first {l : List Int} {x : Int} {k : Nat} (hk : l[k]? = some x) (hn : ∀ j, j < k → l[j]? ≠ some x) : idAt l x = some k := by
  induction l generalizing k with
  | nil => simp at hk
  | cons b l ih =>
    cases k with
    | zero => simp at hk; subst hk; simp [idAt]
    | succ k =>
      have hb : b ≠ x := fun e => hn 0 (by omega) (by simp [e])
      simp only [idAt, if_neg hb]
      rw [ih (by simpa using hk) (fun j hj => by have := hn (j + 1) (by omega); simpa using this)]
      rfl
theorem idAt_none {l : List Int} {x : Int} (hn : ∀ j, j < l.length → l[j]? ≠ some x) : idAt l x = none := by
  induction l with
  | nil => rfl
  | cons b l ih =>
    have hb : b ≠ x := fun e => hn 0 (by simp) (by simp [e])
    simp only [idAt, if_neg hb]
    rw [ih (fun j hj => by have := hn (j + 1) (by simp; omega); simpa using this)]
    rfl
def ids (ps : List GPerson) : List Int := ps.map (·.id)
def GPerson.addT (p : GPerson) (s : ByteArray) : GPerson := ⟨p.id, p.name, p.base, p.rank, p.sen, p.types ++ [s], p.vacs⟩
def GPerson.addV (p : GPerson) (v : GShift) : GPerson := ⟨p.id, p.name, p.base, p.rank, p.sen, p.types, p.vacs ++ [v]⟩
theorem set_id {ps : List GPerson} {i : Nat} {p q : GPerson} (hp : ps[i]? = some p) (h : q.id = p.id) : ids (ps.set i q) = ids ps := by
  unfold ids
  rw [List.map_set]
  apply List.ext_getElem?
  intro k
  rw [List.getElem?_set]
  split
  · rename_i e
    subst e
    have hl := (List.getElem?_eq_some_iff.1 hp).1
    rw [if_pos (by simpa using hl), List.getElem?_map, hp, h]
    rfl
  · rfl
/-- A line's fields: the persons after it, and the error. -/
def lineB (f : List ByteArray) (ps : List GPerson) : List GPerson × Int :=
  if f.getD 0 noStr = personS then
    if f.length ≠ 6 then (ps, 1) else
      if (parseB (f.getD 1 noStr)).2 ≠ 0 ∨ (parseB (f.getD 5 noStr)).2 ≠ 0 ∨ rankB (f.getD 4 noStr) = -1 then (ps, 1) else
        (ps ++ [⟨(parseB (f.getD 1 noStr)).1, f.getD 2 noStr, f.getD 3 noStr, rankB (f.getD 4 noStr), (parseB (f.getD 5 noStr)).1, [], []⟩], 0)
  else if f.getD 0 noStr = typeS then
    if f.length ≠ 3 then (ps, 1) else
      if (parseB (f.getD 1 noStr)).2 ≠ 0 then (ps, 1) else
        match idAt (ids ps) (parseB (f.getD 1 noStr)).1 with
        | none => (ps, 6)
        | some i => (ps.set i ((ps.getD i noPerson).addT (f.getD 2 noStr)), 0)
  else if f.getD 0 noStr = vacS then
    if f.length ≠ 6 then (ps, 1) else
      if (insB (f.getD 2 noStr ++ spS ++ f.getD 3 noStr)).2 ≠ 0 ∨ (insB (f.getD 4 noStr ++ spS ++ f.getD 5 noStr)).2 ≠ 0 ∨ (parseB (f.getD 1 noStr)).2 ≠ 0 then (ps, 1) else
        match idAt (ids ps) (parseB (f.getD 1 noStr)).1 with
        | none => (ps, 6)
        | some i => (ps.set i ((ps.getD i noPerson).addV ⟨(insB (f.getD 2 noStr ++ spS ++ f.getD 3 noStr)).1, (insB (f.getD 4 noStr ++ spS ++ f.getD 5 noStr)).1 + 1⟩), 0)
  else (ps, 1)
def stepB (s : ByteArray) (ps : List GPerson) : List GPerson × Int := if fieldsB s = [] then (ps, 0) else lineB (fieldsB s) ps
/-- The persons after k lines, and the error of line k. -/
def psAt (ls : List ByteArray) : Nat → List GPerson
  | 0 => []
  | k + 1 => (stepB (ls.getD k noStr) (psAt ls k)).1
def errAt (ls : List ByteArray) (k : Nat) : Int := (stepB (ls.getD k noStr) (psAt ls k)).2
def badAt (ls : List ByteArray) (k : Nat) : Bool := decide (errAt ls k ≠ 0)
/-- crew.Parse: the persons, the line, the error. -/
def parseC (t : GTT) (s : ByteArray) : List GPerson × Int × Int :=
  if ttE t ≠ 0 then ([], 0, ttE t) else
    if (linesB s).2 ≠ 0 then ([], 0, (linesB s).2) else
      match (List.range (linesB s).1.length).find? (badAt (linesB s).1) with
      | some k => ([], (k : Int) + 1, errAt (linesB s).1 k)
      | none => if crewE t (psAt (linesB s).1 (linesB s).1.length) ≠ 0 then ([], 0, crewE t (psAt (linesB s).1 (linesB s).1.length)) else (psAt (linesB s).1 (linesB s).1.length, 0, 0)
theorem find_first {p : Nat → Bool} {n k : Nat} (hk : k < n) (hp : p k = true) (hn : ∀ j, j < k → p j = false) : (List.range n).find? p = some k := by
  rw [List.find?_range_eq_some]
  exact ⟨hp, by simpa using hk, fun j hj => by rw [hn j hj]; rfl⟩
theorem find_no {p : Nat → Bool} {n : Nat} (hn : ∀ j, j < n → p j = false) : (List.range n).find? p = none := by
  rw [List.find?_eq_none]
  intro x hx
  rw [hn x (List.mem_range.1 hx)]
  decide
theorem parseC_err {t : GTT} {s : ByteArray} {k : Nat} (h1 : ttE t = 0) (h2 : (linesB s).2 = 0) (hk : k < (linesB s).1.length) (he : errAt (linesB s).1 k ≠ 0) (hn : ∀ j, j < k → errAt (linesB s).1 j = 0) :
    parseC t s = ([], (k : Int) + 1, errAt (linesB s).1 k) := by
  unfold parseC
  rw [if_neg (by simp [h1]), if_neg (by simp [h2]), find_first hk (by simpa [badAt] using he) (fun j hj => by simp [badAt, hn j hj])]
theorem parseC_all {t : GTT} {s : ByteArray} (h1 : ttE t = 0) (h2 : (linesB s).2 = 0) (hn : ∀ j, j < (linesB s).1.length → errAt (linesB s).1 j = 0) :
    parseC t s = if crewE t (psAt (linesB s).1 (linesB s).1.length) ≠ 0 then ([], 0, crewE t (psAt (linesB s).1 (linesB s).1.length)) else (psAt (linesB s).1 (linesB s).1.length, 0, 0) := by
  unfold parseC
  rw [if_neg (by simp [h1]), if_neg (by simp [h2]), find_no (fun j hj => by simp [badAt, hn j hj])]
/-- What holds of the persons on the way: sizes. -/
def PsOk (m : Nat) (ps : List GPerson) : Prop := ps.length ≤ m ∧ ∀ p ∈ ps, p.ok ∧ p.types.length ≤ m ∧ p.vacs.length ≤ m
theorem PsOk.nil : PsOk 0 [] := ⟨Nat.le_refl _, by simp⟩
theorem rankB_bd (s : ByteArray) : -1 ≤ rankB s ∧ rankB s ≤ 2 := by
  unfold rankB
  split
  · decide
  · split
    · decide
    · split <;> decide
theorem PsOk.more {m : Nat} {ps : List GPerson} (h : PsOk m ps) : PsOk (m + 1) ps := ⟨Nat.le_succ_of_le h.1, fun p hp => ⟨(h.2 p hp).1, Nat.le_succ_of_le (h.2 p hp).2.1, Nat.le_succ_of_le (h.2 p hp).2.2⟩⟩
theorem fld_sz {f : List ByteArray} {i : Nat} (hf : ∀ x ∈ f, x.size ≤ 20000) : (f.getD i noStr).size ≤ 20000 := by
  rw [List.getD_eq_getElem?_getD]
  cases h : f[i]? with
  | none => exact Nat.zero_le _
  | some x => exact hf x (List.mem_of_getElem? h)
theorem PsOk.set {m : Nat} {ps : List GPerson} (h : PsOk m ps) {i : Nat} {q : GPerson} (hq : q.ok ∧ q.types.length ≤ m + 1 ∧ q.vacs.length ≤ m + 1) : PsOk (m + 1) (ps.set i q) := by
  refine ⟨by rw [List.length_set]; exact Nat.le_succ_of_le h.1, fun p hp => ?_⟩
  rcases List.mem_or_eq_of_mem_set hp with h1 | rfl
  · exact h.more.2 p h1
  · exact hq
theorem noPerson_ok : noPerson.ok := by
  refine ⟨by decide, by decide, by decide, by decide, by decide, ?_, ?_⟩ <;> intro x hx <;> simp [noPerson] at hx
theorem PsOk.get {m : Nat} {ps : List GPerson} (h : PsOk m ps) (i : Nat) : (ps.getD i noPerson).ok ∧ (ps.getD i noPerson).types.length ≤ m ∧ (ps.getD i noPerson).vacs.length ≤ m := by
  rw [List.getD_eq_getElem?_getD]
  cases h1 : ps[i]? with
  | none => exact ⟨noPerson_ok, Nat.zero_le _, Nat.zero_le _⟩
  | some x => exact h.2 x (List.mem_of_getElem? h1)
theorem PsOk.line {m : Nat} {ps : List GPerson} (h : PsOk m ps) {f : List ByteArray} (hf : ∀ x ∈ f, x.size ≤ 20000) : PsOk (m + 1) (lineB f ps).1 := by
  unfold lineB
  have hml : (20000 : Nat) ≤ maxLen := by unfold maxLen; omega
  split
  · split
    · exact h.more
    · split
      · exact h.more
      · refine ⟨by simp; exact h.1, fun p hp => ?_⟩
        rcases List.mem_append.1 hp with h1 | h1
        · exact h.more.2 p h1
        · obtain rfl := List.mem_singleton.1 h1
          have b1 := parseB_bd (f.getD 1 noStr)
          have b5 := parseB_bd (f.getD 5 noStr)
          have b4 := rankB_bd (f.getD 4 noStr)
          refine ⟨⟨by dsimp only; omega, Nat.le_trans (fld_sz hf) hml, Nat.le_trans (fld_sz hf) hml, by dsimp only; omega, by dsimp only; omega, by intro x hx; simp at hx, by intro x hx; simp at hx⟩, Nat.zero_le _, Nat.zero_le _⟩
  · split
    · split
      · exact h.more
      · split
        · exact h.more
        · split
          · exact h.more
          · rename_i i _
            obtain ⟨⟨o1, o2, o3, o4, o5, o6, o7⟩, l1, l2⟩ := h.get i
            refine h.set ⟨⟨o1, o2, o3, o4, o5, fun s hs => ?_, o7⟩, by simp [GPerson.addT]; exact l1, Nat.le_succ_of_le l2⟩
            rcases List.mem_append.1 hs with h1 | h1
            · exact o6 s h1
            · obtain rfl := List.mem_singleton.1 h1; exact Nat.le_trans (fld_sz hf) hml
    · split
      · split
        · exact h.more
        · split
          · exact h.more
          · split
            · exact h.more
            · rename_i i _
              obtain ⟨⟨o1, o2, o3, o4, o5, o6, o7⟩, l1, l2⟩ := h.get i
              refine h.set ⟨⟨o1, o2, o3, o4, o5, o6, fun s hs => ?_⟩, Nat.le_succ_of_le l1, by simp [GPerson.addV]; exact l2⟩
              rcases List.mem_append.1 hs with h1 | h1
              · exact o7 s h1
              · obtain rfl := List.mem_singleton.1 h1
                have b1 := insB_bd (f.getD 2 noStr ++ spS ++ f.getD 3 noStr)
                have b2 := insB_bd (f.getD 4 noStr ++ spS ++ f.getD 5 noStr)
                unfold GShift.ok
                dsimp only
                omega
      · exact h.more
theorem psAt_ok (s : ByteArray) : ∀ k, PsOk k (psAt (linesB s).1 k)
  | 0 => PsOk.nil
  | k + 1 => by
    have ih := psAt_ok s k
    unfold psAt stepB
    split
    · exact ih.more
    · refine ih.line fun x hx => ?_
      have h1 := fieldsB_mem hx
      rw [List.getD_eq_getElem?_getD] at h1
      cases h2 : (linesB s).1[k]? with
      | none => rw [h2] at h1; have : (noStr : ByteArray).size = 0 := rfl; simp at h1; omega
      | some y =>
        rw [h2] at h1
        have := linesB_mem (List.mem_of_getElem? h2)
        simp at h1
        omega
end Go.Proofs.YtkhedjfdjjeopaaGreatDoor
/-
  A map[int]int that the call made and that holds the first place of each ID: look-up (with ok) and store.
  No condition.
-/
namespace Go.Proofs.YtkhedjfdjjeopaaGreatDoor
set_option linter.unusedSimpArgs false
set_option linter.unusedVariables false
open Go.RowKit Go.Maps

def IIdx (P : Program) (k e : TypeId) (w : World) (b : Nat) (l : List Int) : Prop :=
  ∃ (n : Nat) (D : DataW Unit), n ≤ l.length ∧ w.ownsMap P k (plainElem P e) b n D ∧ IsMap D ∧ ∀ key : Int, Maps.has D (.int .i64 key) = (idAt l key).isSome ∧ D.atKey (.int .i64 key) (.lit (.int .i64 0)) = .lit (.int .i64 (((idAt l key).getD 0 : Nat) : Int))
section
variable {P : Program} {k e t : TypeId} {w w' : World} {b : Nat} {l : List Int}
theorem IIdx.made (w : World) : IIdx P k e (w.alloc (.map #[] 0)) w.heap.size [] :=
  ⟨0, .map [], Nat.le_refl _, World.ownsMap_made _ _ _ _, isMap_empty, fun key => ⟨rfl, rfl⟩⟩
theorem IIdx.lt (h : IIdx P k e w b l) : b < w.heap.size := by
  obtain ⟨n, D, _, h, _⟩ := h
  exact h.lt
theorem IIdx.keep (h : IIdx P k e w b l) (hb : w'.heap[b]? = w.heap[b]?) : IIdx P k e w' b l := by
  obtain ⟨n, D, h1, ⟨es, clock, h2, h3⟩, h4⟩ := h
  exact ⟨n, D, h1, ⟨es, clock, hb.trans h2, h3⟩, h4⟩
theorem IIdx.isMap (h : IIdx P k e w b l) : ∃ es clock, w.heap[b]? = some (.map es clock) := by
  obtain ⟨n, D, h1, ⟨es, clock, h2, h3⟩, h4⟩ := h
  exact ⟨es, clock, h2⟩
theorem IIdx.lookup (h : IIdx P k e w b l) (hk : P.underlying k = some (.int .i64)) (ht : P.underlying t = some (.map k e)) (he : P.underlying e = some (.int .i64)) (hz : (zeroValue e).run P w = .ok (.int .i64 0) w) (key : Int) (hs : -9223372036854775808 ≤ key ∧ key ≤ 9223372036854775807) :
    (Instr.lookup t (.map (some b)) (.int .i64 key) true).run P w = .ok (.tuple #[.int .i64 (((idAt l key).getD 0 : Nat) : Int), .bool (idAt l key).isSome]) w := by
  obtain ⟨n, D, _, h2, _, h3⟩ := h
  obtain ⟨v, ps, hrun, hv⟩ := h2.look_ok (int_keyed hk) ht hz (plainElem_int he (by decide)) (keyOf_int_mk hk (wf_i64 hs))
  obtain ⟨a1, a2⟩ := h3 key
  rw [a2] at hv
  rw [a1] at hrun
  obtain ⟨a, rfl, e2, _⟩ := plainElem_int_inv he hv
  injection e2 with e2
  injection e2 with e2
  injection e2 with _ e2
  rw [hrun, e2]
theorem IIdx.store (h : IIdx P k e w b l) (hk : P.underlying k = some (.int .i64)) (ht : P.underlying t = some (.map k e)) (he : P.underlying e = some (.int .i64)) (hl : l.length < 4611686018427387904) (key : Int) (hs : -9223372036854775808 ≤ key ∧ key ≤ 9223372036854775807) (hno : idAt l key = none) :
    ∃ w', (Instr.mapUpdate t (.map (some b)) (.int .i64 key) (.int .i64 (l.length : Int))).run P w = .ok () w' ∧ IIdx P k e w' b (l ++ [key]) ∧ w.grownBy w' (some b) := by
  obtain ⟨n, D, h1, h2, h4, h3⟩ := h
  have K := int_keyed hk
  have hkey := keyOf_int_mk (P := P) (k := k) hk (wf_i64 hs)
  obtain ⟨w', hrun, ho, hg⟩ := h2.update K ht (by unfold maxLen; omega) hkey (plainElem_int he (wf_i64 (a := (l.length : Int)) (by omega)))
  refine ⟨w', hrun, ⟨n + 1, _, by simp; omega, ho, ?_, fun y => ?_⟩, hg⟩
  · obtain ⟨es, he', _⟩ := h4
    exact ⟨_, rfl⟩
  · rw [idAt_snoc]
    by_cases hy : y = key
    · subst hy
      rw [atKey_put_same h4 (K.key hkey), has_put_same h4 (K.key hkey), hno]
      simp
    · have hne : Lit.int .i64 y ≠ Lit.int .i64 key := by intro e; injection e with _ e; exact hy e
      rw [atKey_put_other hne, has_put_other hne, (h3 y).1, (h3 y).2]
      cases h5 : idAt l y with
      | some i => simp
      | none => simp [show ¬ key = y from fun e => hy e.symm]
/-- An ID that is known: nothing is stored. -/
theorem IIdx.known (h : IIdx P k e w b l) {key : Int} (hk : (idAt l key).isSome = true) : IIdx P k e w b (l ++ [key]) := by
  obtain ⟨n, D, h1, h2, h4, h3⟩ := h
  refine ⟨n, D, by simp; omega, h2, h4, fun y => ?_⟩
  rw [idAt_snoc, (h3 y).1, (h3 y).2]
  cases h5 : idAt l y with
  | some i => simp
  | none =>
    have : key ≠ y := fun e => by subst e; rw [h5] at hk; cases hk
    simp [this]
end
theorem zeroInt (w : World) : (zeroValue 3).run Tryz.prog w = .ok (.int .i64 0) w := by kernel_rfl
theorem iidx_get {w : World} {b : Nat} {l : List Int} (h : IIdx Tryz.prog 3 3 w b l) (key : Int) (hs : -9223372036854775808 ≤ key ∧ key ≤ 9223372036854775807) :
    (Instr.lookup 59 (.map (some b)) (.int .i64 key) true).run Tryz.prog w = .ok (.tuple #[.int .i64 (((idAt l key).getD 0 : Nat) : Int), .bool (idAt l key).isSome]) w :=
  h.lookup Tryz.underlying3 Tryz.underlying59 Tryz.underlying3 (zeroInt w) key hs
theorem wpList_iidx_store {w : World} {b : Nat} {l : List Int} {ops : Array Oper} {rest : List Oper} {o : Oper} {a : Act} {Q : Exit → Act → World → Prop}
    (hg : o.guard = none) (m x v : Operand) (hop : o.op = Op.mapUpdate 59 m x v)
    (hm : a.eval m = .map (some b)) (h : IIdx Tryz.prog 3 3 w b l) (hl : l.length < 4611686018427387904) (key : Int) (hs : -9223372036854775808 ≤ key ∧ key ≤ 9223372036854775807) (hno : idAt l key = none) (hx : a.eval x = .int .i64 key) (hv : a.eval v = .int .i64 (l.length : Int))
    (hK : ∀ w', IIdx Tryz.prog 3 3 w' b (l ++ [key]) → w.grownBy w' (some b) → wpList Tryz.prog ops Q rest (a.put o.dst undef) w') : wpList Tryz.prog ops Q (o :: rest) a w := by
  refine wpList_plain hg fun K' hK' => ?_
  obtain ⟨w', hrun, r1, r2⟩ := h.store Tryz.underlying3 Tryz.underlying59 Tryz.underlying3 hl key hs hno
  unfold Oper.wp
  simp [execOp, hop, hm, hx, hv, hrun, Result.andThen]
  exact hK' _ _ (hK w' r1 r2)
end Go.Proofs.YtkhedjfdjjeopaaGreatDoor
/-
  Contracts of crew.rankName; of the reference's RankNames, rank, PersonIndex, (*parser).number, (*parser).instant.
  Condition: strings' lengths fit an int.
-/
namespace Go.Proofs.YtkhedjfdjjeopaaGreatDoor
set_option linter.unusedSimpArgs false
set_option linter.unusedVariables false
open Go.RowKit

def rankNm (r : Int) : ByteArray := if r = 0 then capS else if r = 1 then offS else cabS
theorem rankName_any (r : Int) (w : World) : Calls Tryz.prog 37 #[.int .i64 r] w fun e w' => e = .returned (.string (rankNm r)) ∧ w = w' := by
  by_cases h0 : r = 0
  · subst h0
    go_enter Tryz.func37, Tryz.ntmps37
    go_wp2_with fail
    go_ret
    exact ⟨rfl, rfl⟩
  have h0' : (r == 0) = false := by simpa using h0
  by_cases h1 : r = 1
  · subst h1
    go_enter Tryz.func37, Tryz.ntmps37
    go_wp2_with fail
    go_ret
    exact ⟨rfl, rfl⟩
  have h1' : (r == 1) = false := by simpa using h1
  have HR : Hid (rankNm r = cabS) := by show _ = _; unfold rankNm; rw [if_neg h0, if_neg h1]
  clear h0 h1
  go_enter Tryz.func37, Tryz.ntmps37
  go_wp2_with fail
  go_ret
  exact ⟨by rw [HR.out]; rfl, rfl⟩
def rkNames : List ByteArray := [capS, offS, cabS]
theorem rankNames_any (w : World) : Calls Tryz.prog 42 #[] w fun e w' => e = .returned (.slice (some ⟨w.heap.size, 0, none⟩) 3 3) ∧ w' = w.alloc (.cells #[.string capS, .string offS, .string cabS] 9) := by
  go_enter Tryz.func42, Tryz.ntmps42
  go_wp2_with fail
  go_ret
  exact ⟨rfl, rfl⟩
theorem rank_idx (s : ByteArray) : rankB s = idxOf rkNames s := by
  unfold rankB
  by_cases h0 : s = capS
  · rw [if_pos h0]; subst h0; rfl
  rw [if_neg h0]
  by_cases h1 : s = offS
  · rw [if_pos h1]; subst h1; rfl
  rw [if_neg h1]
  by_cases h2 : s = cabS
  · rw [if_pos h2]; subst h2; rfl
  rw [if_neg h2]
  rw [idxOf_none]
  simp [hasB, rkNames, h0, h1, h2]
set_option maxRecDepth 100000 in
set_option maxHeartbeats 800000 in
theorem rankR_any (s : ByteArray) (w : World) : Calls Tryz.prog 28 #[.string s] w fun e w' => e = .returned (.int .i64 (rankB s)) ∧ Below w.heap.size w w' := by
  have HB := Lib.hid ((Below.refl w.heap.size w).alloc (Nat.le_refl _) (.cells #[.string capS, .string offS, .string cabS] 9))
  have hr := heap_alloc_new w (.cells #[.string capS, .string offS, .string cabS] 9)
  have HX : Hid (∀ k, k < 3 → ∃ nm, (w.alloc (.cells #[.string capS, .string offS, .string cabS] 9)).cell? ⟨w.heap.size, k, none⟩ = some (.string nm) ∧ rkNames[k]? = some nm) := fun k hk => by
    have hk' : k = 0 ∨ k = 1 ∨ k = 2 := by omega
    rcases hk' with rfl | rfl | rfl
    · exact ⟨capS, block_cell hr 0, rfl⟩
    · exact ⟨offS, block_cell hr 1, rfl⟩
    · exact ⟨cabS, block_cell hr 2, rfl⟩
  rw [rank_idx]
  clear hr
  go_enter Tryz.func28, Tryz.ntmps28
  go_wp2_with fail
  refine (rankNames_any w).mono ?_
  rintro e w' ⟨rfl, rfl⟩
  generalize w.alloc (.cells #[.string capS, .string offS, .string cabS] 9) = W at *
  go_wp2_with fail
  go_loop [2, 4] (fun _ i => ∃ k : Nat, k ≤ 3 ∧ i = .int .i64 k ∧ Hid (hasB (rkNames.take k) s = false)) (fun _ i => 3 - (intOf i).toNat)
  case atStart => exact ⟨0, Nat.zero_le _, rfl, rfl⟩
  case round =>
    obtain ⟨k, hk, rfl, HK⟩ := hrel
    by_cases hlt : k < 3
    · obtain ⟨nm, hc, he⟩ := HX.out k hlt
      have HE := Lib.hid he
      clear he
      have hlt' : (k : Int) < 3 := by omega
      by_cases hq : nm = s
      · have hb : (nm.toList == s.toList) = true := by rw [str_beq, decide_eq_true hq]
        have HR : Hid (idxOf rkNames s = k) := idxOf_hit' HK.out (by rw [HE.out, hq])
        clear hq
        go_wp2_with fail
        go_ret
        exact ⟨ret_int HR.out.symm, HB.out⟩
      · have hb : (nm.toList == s.toList) = false := by rw [str_beq, decide_eq_false hq]
        have HN : Hid (hasB (rkNames.take (k + 1)) s = false) := hasB_next HK.out HE.out hq
        clear hq
        go_wp2_with fail
        go_round
        case rel => exact ⟨k + 1, by omega, by go_num, HN⟩
        case measure => simp [intOf]; omega
    · have HR : Hid (idxOf rkNames s = -1) := idxOf_none (by
        have := HK.out
        rwa [List.take_of_length_le (by show 3 ≤ k; omega)] at this)
      have hlt' : ¬ (k : Int) < 3 := by omega
      go_wp2_with fail
      go_ret
      exact ⟨ret_int HR.out.symm, HB.out⟩
/-- The place as an int. -/
def placeI : Option Nat → Int
  | some i => (i : Int)
  | none => -1
theorem personIndexR_any (ps : List GPerson) (id : Int) (A : Option Addr) (n c : Nat) (S : Nat → Prop) (w : World) (hsl : Sl Ty.person w S A n c ps) :
    Calls Tryz.prog 29 #[.slice A n c, .int .i64 id] w fun e w' => e = .returned (.int .i64 (placeI (idAt (ids ps) id))) ∧ w = w' := by
  have hn := hsl.len
  have hnl := hsl.le
  unfold maxLen at hnl
  subst hn
  have HSL := Lib.hid hsl; clear hsl
  go_enter Tryz.func29, Tryz.ntmps29
  go_wp2_with fail
  go_loop [4, 5] (fun _ i => ∃ k : Nat, k ≤ ps.length ∧ i = .int .i64 k ∧ Hid (∀ j, j < k → (ids ps)[j]? ≠ some id)) (fun _ i => ps.length - (intOf i).toNat)
  case atStart => exact ⟨0, Nat.zero_le _, rfl, fun j hj => by omega⟩
  case round =>
    obtain ⟨k, hk, rfl, HK⟩ := hrel
    by_cases hlt : k < ps.length
    · obtain ⟨b, o, A1, n1, c1, A2, n2, c2, rfl, hbS, hat, _, _⟩ := HSL.out.person_at hlt
      have hc0 : w.cell? ⟨b, o + k * 7, none⟩ = some (.int .i64 (ps.getD k noPerson).id) := hat 0 _ rfl
      have he : (ids ps)[k]? = some (ps.getD k noPerson).id := by
        unfold ids
        rw [List.getElem?_map, List.getD_eq_getElem?_getD, List.getElem?_eq_getElem hlt]
        rfl
      generalize (ps.getD k noPerson).id = x at *
      have HE := Lib.hid he
      clear hat he
      by_cases hq : x = id
      · have hb : (x == id) = true := by simpa using hq
        have HR : Hid (placeI (idAt (ids ps) id) = k) := by show _ = _; rw [idAt_first (by rw [HE.out, hq]) HK.out]; rfl
        clear hq
        go_wp2_with fail
        go_ret
        exact ⟨ret_int HR.out.symm, rfl⟩
      · have hb : (x == id) = false := by simpa using hq
        have HN : Hid (∀ j, j < k + 1 → (ids ps)[j]? ≠ some id) := fun j hj => by
          rcases Nat.lt_or_eq_of_le (Nat.le_of_lt_succ hj) with h | h
          · exact HK.out j h
          · subst h; rw [HE.out]; intro e; injection e with e; exact hq e
        clear hq
        go_wp2_with fail
        go_round
        case rel => exact ⟨k + 1, by omega, by go_num, HN⟩
        case measure => simp [intOf]; omega
    · have HR : Hid (placeI (idAt (ids ps) id) = -1) := by
        show _ = _
        rw [idAt_none (fun j hj => HK.out j (by unfold ids at hj; rw [List.length_map] at hj; omega))]; rfl
      go_wp2_with fail
      go_ret
      exact ⟨ret_int HR.out.symm, rfl⟩
/-- The reference's parser p in block g: its one cell. -/
def BadIs (w : World) (g : Nat) (b : Bool) : Prop := w.heap[g]? = some (.cells #[.bool b] 67 (0, 0))
def NbPost (g : Nat) (b : Bool) (x : Int × Int) (w : World) (e : Ending) (w' : World) : Prop := e = .returned (.int .i64 x.1) ∧ BadIs w' g (b || decide (x.2 ≠ 0)) ∧ But g w w'
theorem numberR_any (g : Nat) (b : Bool) (s : ByteArray) (w : World) (hb : BadIs w g b) (hs : s.size ≤ maxLen) : Calls Tryz.prog 27 #[.pointer (some ⟨g, 0, none⟩), .string s] w (NbPost g b (parseB s) w) := by
  have HC := Lib.hid (parseIntR_any s w hs)
  unfold BadIs at hb
  have y0 := block_cell hb 0
  have f0 := block_free hb 0
  have HB := Lib.hid hb
  unfold ParsePost at HC
  generalize parseB s = z at *
  obtain ⟨n, er⟩ := z
  clear hb
  have HS : Hid (∀ x : Bool, x = (b || decide (er ≠ 0)) → NbPost g b (n, er) w (.returned (.int .i64 n)) (w.setCell ⟨g, 0, none⟩ (.bool x))) := fun x hx => by
    refine ⟨rfl, ?_, (But.refl g w).setCell 0 _⟩
    unfold BadIs
    rw [heap_setCell_same w g 0 _ _ _ HB.out, hx]
    rfl
  go_enter Tryz.func27, Tryz.ntmps27
  go_wp2_with fail
  refine HC.out.mono ?_
  rintro e w' ⟨rfl, rfl⟩
  cases b
  · by_cases h : er = 0
    · subst h
      go_wp2_with fail
      go_ret
      exact HS.out _ rfl
    · have h' : (er != 0) = true := by simpa using h
      have HT : Hid (true = (false || decide (er ≠ 0))) := by show _ = _; rw [decide_eq_true h]; rfl
      clear h
      go_wp2_with fail
      go_ret
      exact HS.out _ HT.out
  · have HT : Hid (true = (true || decide (er ≠ 0))) := rfl
    go_wp2_with fail
    go_ret
    exact HS.out _ HT.out
/-- A world where only block g differs, and memory has grown: cells of other blocks stay. -/
theorem Sl.but {α : Type} {t : Ty α} {w w' : World} {S : Nat → Prop} {A : Option Addr} {n c : Nat} {xs : List α} {g : Nat} (h : Sl t w S A n c xs) (hb : But g w w') (hS : ∀ b, S b → b < w.heap.size ∧ b ≠ g) : Sl t w' S A n c xs :=
  h.keep fun b hs => hb.block b (hS b hs).1 (hS b hs).2
set_option maxRecDepth 100000 in
set_option maxHeartbeats 800000 in
theorem parserInstant2_any (g : Nat) (b : Bool) (f : List ByteArray) (A : Option Addr) (n c : Nat) (S : Nat → Prop) (w : World) (hb : BadIs w g b) (hf : Sl Ty.str w S A n c f) (hS : ∀ q, S q → q < w.heap.size) (hi : f.length = 6) (hz : ∀ x ∈ f, x.size ≤ 20000) :
    Calls Tryz.prog 30 #[.pointer (some ⟨g, 0, none⟩), .slice A n c, .int .i64 2] w (NbPost g b (insB (f.getD 2 noStr ++ spS ++ f.getD 3 noStr)) w) := by
  have hn := hf.len
  subst hn
  have z1 := fld_sz (i := 2) hz
  have z2 := fld_sz (i := 3) hz
  obtain ⟨fb, o, rfl, hSb, c1⟩ := hf.name_at (show 2 < f.length by omega)
  obtain ⟨fb', o', e', _, c2⟩ := hf.name_at (show 3 < f.length by omega)
  injection e' with e'
  injection e' with e1 e2
  subst e1 e2
  unfold BadIs at hb
  have hgl : g < w.heap.size := (Array.getElem?_eq_some_iff.1 hb).1
  generalize f.getD 2 noStr = f1 at *
  generalize f.getD 3 noStr = f2 at *
  have hz1 : (f1 ++ spS).size = f1.size + 1 := by rw [ByteArray.size_append, show spS.size = 1 from rfl]
  have hzz : (f1 ++ spS ++ f2).size ≤ maxLen := by
    rw [ByteArray.size_append, hz1]; unfold maxLen; omega
  have HC : Hid (∀ V : World, Calls Tryz.prog 70 #[.string (f1 ++ spS ++ f2)] V (NumPost (insB (f1 ++ spS ++ f2)) V)) := fun V => parseInstantR_any _ V hzz
  unfold NumPost at HC
  have q1 : ¬ 9223372036854775807 < f1.size + 1 := by omega
  have q2 : ¬ 9223372036854775807 < (f1 ++ (⟨#[32]⟩ : ByteArray)).size + f2.size := by rw [show (⟨#[32]⟩ : ByteArray) = spS from rfl, hz1]; omega
  have q3 : ¬ 9223372036854775807 < f1.size + 1 + f2.size := by omega
  have HSP : Hid (spS = ⟨#[32]⟩) := rfl
  generalize insB (f1 ++ spS ++ f2) = z at *
  obtain ⟨x, er⟩ := z
  simp only at HC
  have HB := Lib.hid hb
  have HL := Lib.hid hgl
  have hil : (2 : Int) < (f.length : Int) := by omega
  have hi1 : (3 : Int) < (f.length : Int) := by omega
  have hwr : IntKind.i64.wrap 3 = 3 := by decide
  clear hb hf hz hzz hi hz1 z1 z2 hgl
  go_enter Tryz.func30, Tryz.ntmps30
  go_wp2_with fail
  go_region_law (first
    | (go_simp; go_at_call 70; refine (HC.out _).mono ?_; rintro e w' ⟨rfl, hbl⟩)
    | fail)
  all_goals
    have hg2 : w'.heap[g]? = some (.cells #[.bool b] 67 (0, 0)) := (hbl.block g HL.out).trans HB.out
    have y0 := block_cell hg2 0
    have f0 := block_free hg2 0
    have hbt : But g w w' := ⟨hbl.os, hbl.tape, hbl.output, hbl.size, fun q hq _ => hbl.block q hq⟩
    have HS : Hid (∀ y : Bool, y = (b || decide (er ≠ 0)) → NbPost g b (x, er) w (.returned (.int .i64 x)) (w'.setCell ⟨g, 0, none⟩ (.bool y))) := fun y hy => by
      refine ⟨rfl, ?_, hbt.setCell 0 _⟩
      unfold BadIs
      rw [heap_setCell_same w' g 0 _ _ _ hg2, hy]
      rfl
    clear hg2 hbt hbl
    cases b
    · by_cases h : er = 0
      · subst h
        go_wp2_with fail
        go_ret
        exact HS.out _ rfl
      · have h' : (er != 0) = true := by simpa using h
        have HT : Hid (true = (false || decide (er ≠ 0))) := by show _ = _; rw [decide_eq_true h]; rfl
        clear h
        go_wp2_with fail
        go_ret
        exact HS.out _ HT.out
    · have HT : Hid (true = (true || decide (er ≠ 0))) := rfl
      go_wp2_with fail
      go_ret
      exact HS.out _ HT.out
set_option maxRecDepth 100000 in
set_option maxHeartbeats 800000 in
theorem parserInstant4_any (g : Nat) (b : Bool) (f : List ByteArray) (A : Option Addr) (n c : Nat) (S : Nat → Prop) (w : World) (hb : BadIs w g b) (hf : Sl Ty.str w S A n c f) (hS : ∀ q, S q → q < w.heap.size) (hi : f.length = 6) (hz : ∀ x ∈ f, x.size ≤ 20000) :
    Calls Tryz.prog 30 #[.pointer (some ⟨g, 0, none⟩), .slice A n c, .int .i64 4] w (NbPost g b (insB (f.getD 4 noStr ++ spS ++ f.getD 5 noStr)) w) := by
  have hn := hf.len
  subst hn
  have z1 := fld_sz (i := 4) hz
  have z2 := fld_sz (i := 5) hz
  obtain ⟨fb, o, rfl, hSb, c1⟩ := hf.name_at (show 4 < f.length by omega)
  obtain ⟨fb', o', e', _, c2⟩ := hf.name_at (show 5 < f.length by omega)
  injection e' with e'
  injection e' with e1 e2
  subst e1 e2
  unfold BadIs at hb
  have hgl : g < w.heap.size := (Array.getElem?_eq_some_iff.1 hb).1
  generalize f.getD 4 noStr = f1 at *
  generalize f.getD 5 noStr = f2 at *
  have hz1 : (f1 ++ spS).size = f1.size + 1 := by rw [ByteArray.size_append, show spS.size = 1 from rfl]
  have hzz : (f1 ++ spS ++ f2).size ≤ maxLen := by
    rw [ByteArray.size_append, hz1]; unfold maxLen; omega
  have HC : Hid (∀ V : World, Calls Tryz.prog 70 #[.string (f1 ++ spS ++ f2)] V (NumPost (insB (f1 ++ spS ++ f2)) V)) := fun V => parseInstantR_any _ V hzz
  unfold NumPost at HC
  have q1 : ¬ 9223372036854775807 < f1.size + 1 := by omega
  have q2 : ¬ 9223372036854775807 < (f1 ++ (⟨#[32]⟩ : ByteArray)).size + f2.size := by rw [show (⟨#[32]⟩ : ByteArray) = spS from rfl, hz1]; omega
  have q3 : ¬ 9223372036854775807 < f1.size + 1 + f2.size := by omega
  have HSP : Hid (spS = ⟨#[32]⟩) := rfl
  generalize insB (f1 ++ spS ++ f2) = z at *
  obtain ⟨x, er⟩ := z
  simp only at HC
  have HB := Lib.hid hb
  have HL := Lib.hid hgl
  have hil : (4 : Int) < (f.length : Int) := by omega
  have hi1 : (5 : Int) < (f.length : Int) := by omega
  have hwr : IntKind.i64.wrap 5 = 5 := by decide
  clear hb hf hz hzz hi hz1 z1 z2 hgl
  go_enter Tryz.func30, Tryz.ntmps30
  go_wp2_with fail
  go_region_law (first
    | (go_simp; go_at_call 70; refine (HC.out _).mono ?_; rintro e w' ⟨rfl, hbl⟩)
    | fail)
  all_goals
    have hg2 : w'.heap[g]? = some (.cells #[.bool b] 67 (0, 0)) := (hbl.block g HL.out).trans HB.out
    have y0 := block_cell hg2 0
    have f0 := block_free hg2 0
    have hbt : But g w w' := ⟨hbl.os, hbl.tape, hbl.output, hbl.size, fun q hq _ => hbl.block q hq⟩
    have HS : Hid (∀ y : Bool, y = (b || decide (er ≠ 0)) → NbPost g b (x, er) w (.returned (.int .i64 x)) (w'.setCell ⟨g, 0, none⟩ (.bool y))) := fun y hy => by
      refine ⟨rfl, ?_, hbt.setCell 0 _⟩
      unfold BadIs
      rw [heap_setCell_same w' g 0 _ _ _ hg2, hy]
      rfl
    clear hg2 hbt hbl
    cases b
    · by_cases h : er = 0
      · subst h
        go_wp2_with fail
        go_ret
        exact HS.out _ rfl
      · have h' : (er != 0) = true := by simpa using h
        have HT : Hid (true = (false || decide (er ≠ 0))) := by show _ = _; rw [decide_eq_true h]; rfl
        clear h
        go_wp2_with fail
        go_ret
        exact HS.out _ HT.out
    · have HT : Hid (true = (true || decide (er ≠ 0))) := rfl
      go_wp2_with fail
      go_ret
      exact HS.out _ HT.out
end Go.Proofs.YtkhedjfdjjeopaaGreatDoor
/-
  The parser of crew.Parse: its memory, and contracts of (*parser).find and (*parser).vacation.
  Condition: the fields read as a list of strings of no more than 20000 bytes.
-/
namespace Go.Proofs.YtkhedjfdjjeopaaGreatDoor
set_option linter.unusedSimpArgs false
set_option linter.unusedVariables false
open Go.RowKit

theorem wpList_pushP {α : Type} {t : Ty α} {e : TypeId} {w : World} {base : Nat} {v : Value} {xs : List α} {P : Program} {ops : Array Oper} {rest : List Oper} {o : Oper} {a : Act} {Q : Exit → Act → World → Prop} (hgd : o.guard = none) (s x : Operand) (T : TypeId)
    (ho : o.op = .call { callee := .builtin .append, args := #[s, x], argTypes := #[T, T] }) (bytes : Nat) (he : Elem P T e t.size bytes) (hs : a.eval s = v) (hown : Own t e w base v xs)
    (g : Nat) (y : α) (hf : t.Flat) (hx : a.eval x = .slice (some ⟨g, 0, none⟩) 1 1) (hy : ∃ cs, t.rep w (fun _ => False) cs y ∧ At w g 0 cs)
    (hlen : (xs.length + 1) * bytes ≤ 140737488355328) (hpos : 0 < bytes) (hbase : base ≤ w.heap.size)
    (h : ∀ v' w', Own t e w' base v' (xs ++ [y]) → w.grownBy w' v.ownBlock → (v'.ownBlock = v.ownBlock ∨ v'.ownBlock = some w.heap.size) → wpList P ops Q rest (a.put o.dst v') w') : wpList P ops Q (o :: rest) a w := by
  obtain ⟨i, z, hi, hz, h1, h2, h3⟩ := he.parts
  obtain ⟨cs, hown1, hown2⟩ := hown
  obtain ⟨c1, hr, hat⟩ := hy
  have h63 : xs.length + 1 ≤ maxLen := by
    have := Nat.le_mul_of_pos_right (xs.length + 1) hpos
    unfold maxLen
    omega
  refine wpList_append_own_at _ hgd s x T ho base e i z t.size bytes he.1 hi hz h1 h2 h3 t.pos v xs.length cs hs hown1 ⟨g, 0, none⟩ 1 1 c1 hx (by rw [t.len hr, Nat.one_mul]) (fun j u hu => by rw [addr_add]; exact hat j u hu) (t.one hr) h63 hlen hbase ?_
  intro v' w' ho' hgr _ hv'
  exact h v' w' ⟨cs ++ c1, by simpa using ho', (hown2.flat hf).snoc (hf hr)⟩ hgr hv'
theorem pcell {cur : Array Value} {i : Nat} {p : GPerson} {tv vv : Value} (e : (cur.toList.drop (i * 7)).take 7 = pCells p tv vv) {j : Nat} (hj : j < 7) : cur[i * 7 + j]? = (pCells p tv vv)[j]? := by
  rw [← e, List.getElem?_take, if_pos hj, List.getElem?_drop, Array.getElem?_toList]
/-- One list of one person: where it lies, and what remains where it has grown by one. -/
theorem PMem.setV {w : World} {v : Value} {ps : List GPerson} {lo hi : Nat} (h : PMem w v ps lo hi) (hhi : hi ≤ w.heap.size) {i : Nat} {p : GPerson} (hp : ps[i]? = some p) :
    ∃ g cap cur A n c, v = .slice (some ⟨g, 0, none⟩) ps.length cap ∧ lo ≤ g ∧ g < hi ∧ w.heap[g]? = some (.cells cur 49 (0, 0)) ∧ w.cell? ⟨g, i * 7 + 6, none⟩ = some (.slice A n c) ∧ n = p.vacs.length ∧
      Own Ty.shift 72 w lo (.slice A n c) p.vacs ∧ (∀ k, (Value.slice A n c).ownBlock = some k → lo ≤ k ∧ k < hi) ∧ some g ≠ (Value.slice A n c).ownBlock ∧
      ∀ (V w6 : World) (x : Value) (s : GShift), Below w.heap.size w V → Own Ty.shift 72 w6 lo x (p.vacs ++ [s]) → V.grownBy w6 (Value.slice A n c).ownBlock → (x.ownBlock = (Value.slice A n c).ownBlock ∨ ∃ k, x.ownBlock = some k ∧ w.heap.size ≤ k) →
        w6.heap[g]? = some (.cells cur 49 (0, 0)) ∧ PMem (w6.setCell ⟨g, i * 7 + 6, none⟩ x) v (ps.set i (p.addV s)) lo w6.heap.size := by
  obtain ⟨g, cap, cur, tv, vv, rfl, h1, h2, h3, h4, h5, h6, h7, h8, _, h10⟩ := h.one hhi hp
  obtain ⟨A, c, e, _⟩ := h7.sl
  refine ⟨g, cap, cur, A, p.vacs.length, c, rfl, h1, h2, h3, ?_, rfl, by rwa [← e], fun k hk => ?_, ?_, fun V w6 x s hV hx hgr hb => ?_⟩
  · rw [block_cell h3, pcell h4 (by decide), e]; rfl
  · rw [← e] at hk; exact ⟨(h7.lt k hk).1, h8 k hk⟩
  · rw [← e]; exact h7.apart h3 (by decide)
  · rw [← e] at hgr hb
    have hk : ∀ q, q < w.heap.size → some q ≠ vv.ownBlock → w6.heap[q]? = w.heap[q]? := fun q hq hne => (hgr.block q (Nat.lt_of_lt_of_le hq hV.size) hne).trans (hV.block q hq)
    exact ⟨(hk g (by omega) (h7.apart h3 (by decide))).trans h3, h10 w6 x s hx hk (Nat.le_trans hV.size hgr.size) hb⟩
theorem PMem.setT {w : World} {v : Value} {ps : List GPerson} {lo hi : Nat} (h : PMem w v ps lo hi) (hhi : hi ≤ w.heap.size) {i : Nat} {p : GPerson} (hp : ps[i]? = some p) :
    ∃ g cap cur A n c, v = .slice (some ⟨g, 0, none⟩) ps.length cap ∧ lo ≤ g ∧ g < hi ∧ w.heap[g]? = some (.cells cur 49 (0, 0)) ∧ w.cell? ⟨g, i * 7 + 5, none⟩ = some (.slice A n c) ∧ n = p.types.length ∧
      Own Ty.str 9 w lo (.slice A n c) p.types ∧ (∀ k, (Value.slice A n c).ownBlock = some k → lo ≤ k ∧ k < hi) ∧ some g ≠ (Value.slice A n c).ownBlock ∧
      ∀ (V w6 : World) (x : Value) (s : ByteArray), Below w.heap.size w V → Own Ty.str 9 w6 lo x (p.types ++ [s]) → V.grownBy w6 (Value.slice A n c).ownBlock → (x.ownBlock = (Value.slice A n c).ownBlock ∨ ∃ k, x.ownBlock = some k ∧ w.heap.size ≤ k) →
        w6.heap[g]? = some (.cells cur 49 (0, 0)) ∧ PMem (w6.setCell ⟨g, i * 7 + 5, none⟩ x) v (ps.set i (p.addT s)) lo w6.heap.size := by
  obtain ⟨g, cap, cur, tv, vv, rfl, h1, h2, h3, h4, h5, h6, h7, h8, h9, _⟩ := h.one hhi hp
  obtain ⟨A, c, e, _⟩ := h5.sl
  refine ⟨g, cap, cur, A, p.types.length, c, rfl, h1, h2, h3, ?_, rfl, by rwa [← e], fun k hk => ?_, ?_, fun V w6 x s hV hx hgr hb => ?_⟩
  · rw [block_cell h3, pcell h4 (by decide), e]; rfl
  · rw [← e] at hk; exact ⟨(h5.lt k hk).1, h6 k hk⟩
  · rw [← e]; exact h5.apart h3 (by decide)
  · rw [← e] at hgr hb
    have hk : ∀ q, q < w.heap.size → some q ≠ tv.ownBlock → w6.heap[q]? = w.heap[q]? := fun q hq hne => (hgr.block q (Nat.lt_of_lt_of_le hq hV.size) hne).trans (hV.block q hq)
    exact ⟨(hk g (by omega) (h5.apart h3 (by decide))).trans h3, h9 w6 x s hx hk (Nat.le_trans hV.size hgr.size) hb⟩
/-- The parser in block g, its map in block mb, its persons from block lo on and ahead of block hi. -/
def PSt (w : World) (g mb : Nat) (v : Value) (ps : List GPerson) (lo hi : Nat) : Prop :=
  w.heap[g]? = some (.cells #[v, .map (some mb)] 61 (0, 0)) ∧ PMem w v ps lo hi ∧ IIdx Tryz.prog 3 3 w mb (ids ps) ∧ g < lo ∧ mb < lo ∧ hi ≤ w.heap.size ∧ lo ≤ hi
/-- Ahead of block lo only the parser and its map have changed. -/
structure PKeep (lo g mb : Nat) (w w' : World) : Prop where
  os : w'.os = w.os
  tape : w'.tape = w.tape
  output : w'.output = w.output
  size : w.heap.size ≤ w'.heap.size
  block : ∀ q, q < lo → q ≠ g → q ≠ mb → w'.heap[q]? = w.heap[q]?
theorem PKeep.of_below {lo g mb B : Nat} {w w' : World} (h : Below B w w') (hl : lo ≤ B) : PKeep lo g mb w w' :=
  ⟨h.os, h.tape, h.output, h.size, fun q hq _ _ => h.block q (by omega)⟩
theorem PSt.keep {w w' : World} {g mb : Nat} {v : Value} {ps : List GPerson} {lo hi : Nat} (h : PSt w g mb v ps lo hi) (hb : Below w.heap.size w w') : PSt w' g mb v ps lo hi := by
  obtain ⟨h1, h2, h3, h4, h5, h6, h7⟩ := h
  have hsz := hb.size
  exact ⟨(hb.block g (by omega)).trans h1, h2.keep (Nat.le_refl _) fun b _ hb2 => hb.block b (by omega), h3.keep (hb.block mb h3.lt), h4, h5, by omega, h7⟩
def findB (s : ByteArray) (ps : List GPerson) : Option Nat × Int := if (parseB s).2 ≠ 0 then (none, 1) else match idAt (ids ps) (parseB s).1 with
  | none => (none, 6)
  | some i => (some i, 0)
def ptrAt (v : Value) : Option Nat → Value
  | none => .pointer none
  | some i => match v with
    | .slice (some a) _ _ => .pointer (some ⟨a.block, i * 7, none⟩)
    | _ => .pointer none
set_option maxRecDepth 100000 in
set_option maxHeartbeats 800000 in
theorem find_any (s : ByteArray) (g mb : Nat) (v : Value) (ps : List GPerson) (lo hi : Nat) (w : World) (hp : PSt w g mb v ps lo hi) (hs : s.size ≤ maxLen) (hpl : ps.length ≤ 1000) :
    Calls Tryz.prog 60 #[.pointer (some ⟨g, 0, none⟩), .string s] w fun e w' => e = .returned (.tuple #[ptrAt v (findB s ps).1, .int .i64 (findB s ps).2]) ∧ w = w' := by
  obtain ⟨h1, h2, h3, h4, h5, h6, h7⟩ := hp
  have y0 := block_cell h1 0
  have y1 := block_cell h1 1
  have HC := Lib.hid (parseInt_any s w hs)
  have hbd := parseB_bd s
  have HQ : Hid (findB s ps = if (parseB s).2 ≠ 0 then ((none, 1) : Option Nat × Int) else match idAt (ids ps) (parseB s).1 with | none => (none, 6) | some i => (some i, 0)) := rfl
  unfold ParsePost at HC
  generalize parseB s = z at *
  obtain ⟨id, er⟩ := z
  simp only at HC HQ hbd
  have HG := Lib.hid (iidx_get h3 id (by omega))
  have HIL : Hid (∀ i, idAt (ids ps) id = some i → i < ps.length) := fun i hi => by have := idAt_lt hi; unfold ids at this; rwa [List.length_map] at this
  have HPM := Lib.hid h2
  clear h1 h2 h3
  by_cases he : er = 0
  case neg =>
    have he' : (er != 0) = true := by simpa using he
    have HR : Hid (findB s ps = (none, 1)) := by show _ = _; rw [HQ.out, if_pos he]
    clear he
    go_enter Tryz.func60, Tryz.ntmps60
    go_wp2_with fail
    refine HC.out.mono ?_
    rintro e w' ⟨rfl, rfl⟩
    go_wp2_with fail
    go_ret2
    refine ⟨?_, rfl⟩
    rw [HR.out]
    rfl
  subst he
  rw [if_neg (by simp)] at HQ
  cases hi : idAt (ids ps) id with
  | none =>
    rw [hi] at HQ HG
    have hlk := HG.out
    have HR : Hid (findB s ps = (none, 6)) := HQ.out
    clear HG HQ hi
    go_enter Tryz.func60, Tryz.ntmps60
    go_wp2_with fail
    refine HC.out.mono ?_
    rintro e w' ⟨rfl, rfl⟩
    go_wp2_with fail
    go_ret2
    refine ⟨?_, rfl⟩
    rw [HR.out]
    rfl
  | some i =>
    rw [hi] at HQ HG
    have hlk := HG.out
    have HR : Hid (findB s ps = (some i, 0)) := HQ.out
    have hil := HIL.out i hi
    obtain ⟨gr, cap, cur, tv, vv, rfl, _⟩ := HPM.out.one (by omega) (List.getElem?_eq_getElem hil)
    have hil' : (i : Int) < (ps.length : Int) := by omega
    have hi0 : (0 : Int) ≤ (i : Int) := by omega
    clear HG HQ hi
    go_enter Tryz.func60, Tryz.ntmps60
    go_wp2_with fail
    refine HC.out.mono ?_
    rintro e w' ⟨rfl, rfl⟩
    go_wp2_with fail
    go_ret2
    refine ⟨?_, rfl⟩
    rw [HR.out]
    rfl
theorem findB_cases (s : ByteArray) (ps : List GPerson) : (∃ i, findB s ps = (some i, 0) ∧ i < ps.length) ∨ findB s ps = (none, 1) ∨ findB s ps = (none, 6) := by
  unfold findB
  split
  · exact .inr (.inl rfl)
  · cases h : idAt (ids ps) (parseB s).1 with
    | none => exact .inr (.inr rfl)
    | some i =>
      have := idAt_lt h
      unfold ids at this
      rw [List.length_map] at this
      exact .inl ⟨i, rfl, this⟩
def vacB (f : List ByteArray) (ps : List GPerson) : List GPerson × Int :=
  if f.length ≠ 6 then (ps, 1) else
    if (insB (f.getD 2 noStr ++ spS ++ f.getD 3 noStr)).2 ≠ 0 then (ps, 1) else
      if (insB (f.getD 4 noStr ++ spS ++ f.getD 5 noStr)).2 ≠ 0 then (ps, 1) else
        match findB (f.getD 1 noStr) ps with
        | (none, e) => (ps, e)
        | (some i, _) => (ps.set i ((ps.getD i noPerson).addV ⟨(insB (f.getD 2 noStr ++ spS ++ f.getD 3 noStr)).1, (insB (f.getD 4 noStr ++ spS ++ f.getD 5 noStr)).1 + 1⟩), 0)
theorem vacB_line {f : List ByteArray} {ps : List GPerson} (h : f.getD 0 noStr = vacS) : lineB f ps = vacB f ps := by
  unfold lineB vacB findB
  rw [h, if_neg (by decide), if_neg (by decide), if_pos rfl]
  by_cases h0 : f.length ≠ 6
  · rw [if_pos h0, if_pos h0]
  rw [if_neg h0, if_neg h0]
  by_cases h1 : (insB (f.getD 2 noStr ++ spS ++ f.getD 3 noStr)).2 ≠ 0
  · rw [if_pos (.inl h1), if_pos h1]
  rw [if_neg h1]
  by_cases h2 : (insB (f.getD 4 noStr ++ spS ++ f.getD 5 noStr)).2 ≠ 0
  · rw [if_pos (.inr (.inl h2)), if_pos h2]
  rw [if_neg h2]
  by_cases h3 : (parseB (f.getD 1 noStr)).2 ≠ 0
  · rw [if_pos (.inr (.inr h3)), if_pos h3]
  rw [if_neg (by rintro (h | h | h); exact h1 h; exact h2 h; exact h3 h), if_neg h3]
  cases idAt (ids ps) (parseB (f.getD 1 noStr)).1 <;> rfl
def typB (f : List ByteArray) (ps : List GPerson) : List GPerson × Int :=
  if f.length ≠ 3 then (ps, 1) else
    match findB (f.getD 1 noStr) ps with
    | (none, e) => (ps, e)
    | (some i, _) => (ps.set i ((ps.getD i noPerson).addT (f.getD 2 noStr)), 0)
theorem typB_line {f : List ByteArray} {ps : List GPerson} (h : f.getD 0 noStr = typeS) : lineB f ps = typB f ps := by
  unfold lineB typB findB
  rw [h, if_neg (by decide), if_pos rfl]
  by_cases h0 : f.length ≠ 3
  · rw [if_pos h0, if_pos h0]
  rw [if_neg h0, if_neg h0]
  by_cases h3 : (parseB (f.getD 1 noStr)).2 ≠ 0
  · rw [if_pos h3, if_pos h3]
  rw [if_neg h3, if_neg h3]
  cases idAt (ids ps) (parseB (f.getD 1 noStr)).1 <;> rfl
/-- The end of the parser's methods. -/
def LPost (g mb lo : Nat) (r : List GPerson × Int) (w : World) (e : Ending) (w' : World) : Prop :=
  e = .returned (.int .i64 r.2) ∧ PKeep lo g mb w w' ∧ (r.2 = 0 → ∃ v', PSt w' g mb v' r.1 lo w'.heap.size)
/-- The parser where one list of one person has grown. -/
theorem PSt.grown {w w6 V : World} {g mb : Nat} {v : Value} {ps qs : List GPerson} {lo hi : Nat} (h : PSt w g mb v ps lo hi) {gr k : Nat} {x : Value} {row : Option Nat} (hgr : lo ≤ gr) (hrow : ∀ k, row = some k → lo ≤ k) (hV : Below w.heap.size w V) (hg6 : V.grownBy w6 row)
    (hm : PMem (w6.setCell ⟨gr, k, none⟩ x) v qs lo w6.heap.size) (hid : ids qs = ids ps) : PSt (w6.setCell ⟨gr, k, none⟩ x) g mb v qs lo (w6.setCell ⟨gr, k, none⟩ x).heap.size ∧ PKeep lo g mb w (w6.setCell ⟨gr, k, none⟩ x) := by
  obtain ⟨h1, h2, h3, h4, h5, h6, h7⟩ := h
  have hsz : (w6.setCell ⟨gr, k, none⟩ x).heap.size = w6.heap.size := by simp
  have hs1 := hV.size
  have hs2 := hg6.size
  have hk : ∀ q, q < lo → (w6.setCell ⟨gr, k, none⟩ x).heap[q]? = w.heap[q]? := fun q hq => by
    rw [heap_setCell_other _ _ _ _ (by show q ≠ gr; omega), hg6.block q (by omega) (fun e => by have := hrow q e.symm; omega), hV.block q (by omega)]
  refine ⟨⟨(hk g h4).trans h1, by rw [hsz]; exact hm, by rw [hid]; exact h3.keep (hk mb h5), h4, h5, Nat.le_refl _, by omega⟩, ⟨?_, ?_, ?_, by omega, fun q hq _ _ => hk q hq⟩⟩
  · exact (hg6.os.trans hV.os)
  · exact (hg6.tape.trans hV.tape)
  · exact (hg6.output.trans hV.output)
end Go.Proofs.YtkhedjfdjjeopaaGreatDoor
/-
  Contract of (*parser).vacation (package crew).
  Condition: the parser's memory; the fields read as a list of strings of no more than 20000 bytes, in blocks from hi on.
-/
namespace Go.Proofs.YtkhedjfdjjeopaaGreatDoor
set_option linter.unusedSimpArgs false
set_option linter.unusedVariables false
open Go.RowKit

theorem size_sp {a b : ByteArray} (ha : a.size ≤ 20000) (hb : b.size ≤ 20000) : (a ++ spS ++ b).size ≤ maxLen ∧ ¬ 9223372036854775807 < a.size + 1 ∧ ¬ 9223372036854775807 < (a ++ (⟨#[32]⟩ : ByteArray)).size + b.size ∧ ¬ 9223372036854775807 < a.size + 1 + b.size := by
  have hz1 : (a ++ spS).size = a.size + 1 := by rw [ByteArray.size_append, show spS.size = 1 from rfl]
  refine ⟨?_, by omega, ?_, by omega⟩
  · rw [ByteArray.size_append, hz1]; unfold maxLen; omega
  · rw [show (⟨#[32]⟩ : ByteArray) = spS from rfl, hz1]; omega
theorem str_cells {f : List ByteArray} {w : World} {S : Nat → Prop} {A : Option Addr} {n c : Nat} (h : Sl Ty.str w S A n c f) (h0 : 0 < f.length) : ∃ b o, A = some ⟨b, o, none⟩ ∧ S b ∧ ∀ k, k < f.length → w.cell? ⟨b, o + k, none⟩ = some (.string (f.getD k noStr)) := by
  obtain ⟨b, o, e, hS, _⟩ := h.name_at h0
  refine ⟨b, o, e, hS, fun k hk => ?_⟩
  obtain ⟨b', o', e', _, hc⟩ := h.name_at hk
  rw [e] at e'
  injection e' with e'
  injection e' with e1 e2
  subst e1 e2
  exact hc
set_option maxRecDepth 100000 in
set_option maxHeartbeats 1600000 in
theorem vacation_any (f : List ByteArray) (A : Option Addr) (n c : Nat) (g mb : Nat) (v : Value) (ps : List GPerson) (lo hi m : Nat) (w : World) (hp : PSt w g mb v ps lo hi) (hok : PsOk m ps) (hm : m ≤ 1000)
    (hf : Sl Ty.str w (fun q => hi ≤ q ∧ q < w.heap.size) A n c f) (hz : ∀ x ∈ f, x.size ≤ 20000) :
    Calls Tryz.prog 61 #[.pointer (some ⟨g, 0, none⟩), .slice A n c] w (LPost g mb lo (vacB f ps) w) := by
  have hn := hf.len
  have hnl := hf.le
  unfold maxLen at hnl
  subst hn
  have hpp := hp
  obtain ⟨_, _, _, _, _, hhi, hlh⟩ := hpp
  have HQ : Hid (vacB f ps = if f.length ≠ 6 then (ps, 1) else
    if (insB (f.getD 2 noStr ++ spS ++ f.getD 3 noStr)).2 ≠ 0 then (ps, 1) else
      if (insB (f.getD 4 noStr ++ spS ++ f.getD 5 noStr)).2 ≠ 0 then (ps, 1) else
        match findB (f.getD 1 noStr) ps with
        | (none, e) => (ps, e)
        | (some i, _) => (ps.set i ((ps.getD i noPerson).addV ⟨(insB (f.getD 2 noStr ++ spS ++ f.getD 3 noStr)).1, (insB (f.getD 4 noStr ++ spS ++ f.getD 5 noStr)).1 + 1⟩), 0)) := rfl
  by_cases h6 : f.length = 6
  case neg =>
    have h6' : ((f.length : Int) != 6) = true := by simp; omega
    have HR : Hid (vacB f ps = (ps, 1)) := by show _ = _; rw [HQ.out, if_pos h6]
    have HK : Hid (PKeep lo g mb w w) := PKeep.of_below (Below.refl w.heap.size w) (by omega)
    clear h6 HQ hp hf
    go_enter Tryz.func61, Tryz.ntmps61
    go_wp2_with fail
    go_ret
    exact ⟨by rw [HR.out]; rfl, HK.out, fun h => by rw [HR.out] at h; exact absurd h (show ¬ (1 : Int) = 0 by decide)⟩
  have h6' : ((f.length : Int) != 6) = false := by simp; omega
  rw [if_neg (by omega)] at HQ
  obtain ⟨fb, o, rfl, hSb, hcells⟩ := str_cells hf (by omega)
  have e1 := hcells 1 (by omega); have e2 := hcells 2 (by omega); have e3 := hcells 3 (by omega); have e4 := hcells 4 (by omega); have e5 := hcells 5 (by omega)
  have z1 := fld_sz (i := 1) hz; have z2 := fld_sz (i := 2) hz; have z3 := fld_sz (i := 3) hz; have z4 := fld_sz (i := 4) hz; have z5 := fld_sz (i := 5) hz
  clear hcells hz hf
  generalize f.getD 1 noStr = f1 at *
  generalize f.getD 2 noStr = f2 at *
  generalize f.getD 3 noStr = f3 at *
  generalize f.getD 4 noStr = f4 at *
  generalize f.getD 5 noStr = f5 at *
  obtain ⟨za, qa1, qa2, qa3⟩ := size_sp z2 z3
  obtain ⟨zb, qb1, qb2, qb3⟩ := size_sp z4 z5
  have HC1 : Hid (∀ V : World, Calls Tryz.prog 98 #[.string (f2 ++ spS ++ f3)] V (NumPost (insB (f2 ++ spS ++ f3)) V)) := fun V => parseInstant_any _ V za
  have HC2 : Hid (∀ V : World, Calls Tryz.prog 98 #[.string (f4 ++ spS ++ f5)] V (NumPost (insB (f4 ++ spS ++ f5)) V)) := fun V => parseInstant_any _ V zb
  have hx1 := insB_bd (f2 ++ spS ++ f3)
  have hx2 := insB_bd (f4 ++ spS ++ f5)
  unfold NumPost at HC1 HC2
  generalize insB (f2 ++ spS ++ f3) = a1 at *
  generalize insB (f4 ++ spS ++ f5) = a2 at *
  obtain ⟨x1, er1⟩ := a1
  obtain ⟨x2, er2⟩ := a2
  simp only at HC1 HC2 HQ hx1 hx2
  have HP := Lib.hid hp
  have HOK := Lib.hid hok
  have HS := Lib.hid hSb
  have HZ1 : Hid (f1.size ≤ maxLen) := by show _ ≤ _; unfold maxLen; omega
  have l1 : (1 : Int) < (f.length : Int) := by omega
  have l2 : (2 : Int) < (f.length : Int) := by omega
  have l3 : (3 : Int) < (f.length : Int) := by omega
  have l4 : (4 : Int) < (f.length : Int) := by omega
  have l5 : (5 : Int) < (f.length : Int) := by omega
  clear hp hok hSb h6 z1 z2 z3 z4 z5 za zb
  go_enter Tryz.func61, Tryz.ntmps61
  go_upto_region 3 with (fail)
  go_cut [5, 6] (fun a b wx => a = .int .i64 x1 ∧ b = .int .i64 er1 ∧ Below w.heap.size w wx)
  case first =>
    go_region_law (first
      | (go_simp; go_at_call 98; refine (HC1.out _).mono ?_; rintro e w1 ⟨rfl, hb1⟩)
      | fail)
    all_goals
      go_wp2_with fail
      go_meet
      exact ⟨rfl, rfl, ⟨hb1.os, hb1.tape, hb1.output, hb1.size, hb1.block⟩⟩
  case rest =>
  obtain ⟨rfl, rfl, hb1⟩ := hcut
  obtain ⟨w1, rfl⟩ : ∃ x : World, x = wc := ⟨_, rfl⟩
  have HB1 := Lib.hid hb1
  have hfb := HS.out
  have e1' := (World.cell?_of_block (a := ⟨fb, o + 1, none⟩) (hb1.block fb hfb.2)).trans e1
  have e4' := (World.cell?_of_block (a := ⟨fb, o + 4, none⟩) (hb1.block fb hfb.2)).trans e4
  have e5' := (World.cell?_of_block (a := ⟨fb, o + 5, none⟩) (hb1.block fb hfb.2)).trans e5
  have hsz1 := hb1.size
  clear e1 e2 e3 e4 e5 hb1 HC1
  by_cases h1 : er1 = 0
  case neg =>
    have h1' : (er1 != 0) = true := by simpa using h1
    have HR : Hid (vacB f ps = (ps, 1)) := by show _ = _; rw [HQ.out, if_pos h1]
    have HK : Hid (PKeep lo g mb w w1) := PKeep.of_below HB1.out (by omega)
    clear h1
    go_wp2_with fail
    go_ret
    exact ⟨by rw [HR.out]; rfl, HK.out, fun h => by rw [HR.out] at h; exact absurd h (show ¬ (1 : Int) = 0 by decide)⟩
  subst h1
  rw [if_neg (by simp)] at HQ
  go_upto_region 6 with (fail)
  go_cut [7, 6] (fun a b wx => a = .int .i64 x2 ∧ b = .int .i64 er2 ∧ Below w1.heap.size w1 wx)
  case first =>
    go_region_law (first
      | (go_simp; go_at_call 98; refine (HC2.out _).mono ?_; rintro e w2 ⟨rfl, hb2⟩)
      | fail)
    all_goals
      go_wp2_with fail
      go_meet
      exact ⟨rfl, rfl, ⟨hb2.os, hb2.tape, hb2.output, hb2.size, hb2.block⟩⟩
  case rest =>
  obtain ⟨rfl, rfl, hb2⟩ := hcut
  obtain ⟨w2, rfl⟩ : ∃ x : World, x = wc := ⟨_, rfl⟩
  have HB2 : Hid (Below w.heap.size w w2) := HB1.out.trans (hb2.mono hsz1)
  have e1 := (World.cell?_of_block (a := ⟨fb, o + 1, none⟩) (hb2.block fb (by omega))).trans e1'
  have hsz2 := hb2.size
  have HK : Hid (PKeep lo g mb w w2) := PKeep.of_below HB2.out (by omega)
  have HP2 : Hid (PSt w2 g mb v ps lo hi) := HP.out.keep HB2.out
  clear e1' e4' e5' hb2 HC2 HB1 HP
  by_cases h2 : er2 = 0
  case neg =>
    have h2' : (er2 != 0) = true := by simpa using h2
    have HR : Hid (vacB f ps = (ps, 1)) := by show _ = _; rw [HQ.out, if_pos h2]
    clear h2
    go_wp2_with fail
    go_ret
    exact ⟨by rw [HR.out]; rfl, HK.out, fun h => by rw [HR.out] at h; exact absurd h (show ¬ (1 : Int) = 0 by decide)⟩
  subst h2
  rw [if_neg (by simp)] at HQ
  have HF := Lib.hid (find_any f1 g mb v ps lo hi w2 HP2.out HZ1.out (Nat.le_trans HOK.out.1 hm))
  go_wp2_with fail
  refine HF.out.mono ?_
  rintro e w' ⟨rfl, rfl⟩
  rcases findB_cases f1 ps with ⟨i, hfi, hil⟩ | hfi | hfi
  · rw [hfi] at HQ ⊢
    have HR : Hid (vacB f ps = (ps.set i ((ps.getD i noPerson).addV ⟨x1, x2 + 1⟩), 0)) := HQ.out
    have hpi : ps[i]? = some (ps.getD i noPerson) := by rw [List.getD_eq_getElem?_getD, List.getElem?_eq_getElem hil]; rfl
    obtain ⟨hov1, hov2, hov3⟩ := HOK.out.get i
    generalize ps.getD i noPerson = p at *
    obtain ⟨gr, cap, cur, Av, nv, cv, rfl, g1, g2, g3, g4, rfl, g6, g7, g8, g9⟩ := HP2.out.2.1.setV (by omega) hpi
    have hid : ids (ps.set i (p.addV ⟨x1, x2 + 1⟩)) = ids ps := set_id hpi rfl
    have HOB := Lib.hid (g6.alloc (.cells #[.int .i64 x1, .int .i64 (x2 + 1)] 72))
    have hlen2 : (p.vacs.length + 1) * 16 ≤ 140737488355328 := by omega
    have hbl : Below w2.heap.size w2 (w2.alloc (.cells #[.int .i64 x1, .int .i64 (x2 + 1)] 72)) := (Below.refl _ _).alloc (Nat.le_refl _) _
    have f4 := block_free g3 (i * 7 + 6)
    have HG := Lib.hid g3; have HG9 := Lib.hid g9; have HBL := Lib.hid hbl; have HG7 := Lib.hid g7; have HID := Lib.hid hid
    clear hfi g3 g9 hbl g7 hid g6 hpi
    dsimp only [ptrAt]
    go_wp2_with (at_builtin; refine wpList_pushP (t := Ty.shift) rfl _ _ _ rfl 16 elem_span rfl HOB.out w2.heap.size ⟨x1, x2 + 1⟩ flat_shift rfl ⟨_, rfl, At.new w2 #[.int .i64 x1, .int .i64 (x2 + 1)] _⟩ hlen2 (by decide) (by simp; omega) ?_)
    intro v6 w6 hown6 hgr6 hob6
    have hob7 : v6.ownBlock = (Value.slice Av p.vacs.length cv).ownBlock ∨ ∃ k, v6.ownBlock = some k ∧ w2.heap.size ≤ k := by
      rcases hob6 with h | h
      · exact .inl h
      · exact .inr ⟨_, h, by simp⟩
    obtain ⟨hg6, hm6⟩ := HG9.out _ w6 v6 _ HBL.out hown6 hgr6 hob7
    obtain ⟨r1, r2⟩ := HP2.out.grown (k := i * 7 + 6) (x := v6) g1 (fun k hk => (HG7.out k hk).1) HBL.out hgr6 hm6 HID.out
    obtain ⟨A6, c6, rfl, -⟩ := hown6.sl
    rw [List.length_append, List.length_singleton] at r1 r2 ⊢
    have y6 : w6.cell? ⟨gr, i * 7 + 6, none⟩ = some (.slice Av p.vacs.length cv) := (World.cell?_of_block (a := ⟨gr, i * 7 + 6, none⟩) (hg6.trans HG.out.symm)).trans g4
    have f6 := block_free hg6 (i * 7 + 6)
    have HR1 := Lib.hid r1; have HR2 := Lib.hid r2
    clear hown6 hgr6 hob6 hob7 hg6 hm6 r1 r2
    go_wp2_with fail
    go_ret
    refine ⟨by rw [HR.out]; rfl, ⟨HR2.out.os.trans HK.out.os, HR2.out.tape.trans HK.out.tape, HR2.out.output.trans HK.out.output, Nat.le_trans HK.out.size HR2.out.size, fun q a1 a2 a3 => (HR2.out.block q a1 a2 a3).trans (HK.out.block q a1 a2 a3)⟩, fun _ => by rw [HR.out]; exact ⟨_, HR1.out⟩⟩
  · rw [hfi] at HQ ⊢
    have HR : Hid (vacB f ps = (ps, 1)) := HQ.out
    go_wp2_with fail
    go_ret
    exact ⟨by rw [HR.out]; rfl, HK.out, fun h => by rw [HR.out] at h; exact absurd h (show ¬ (1 : Int) = 0 by decide)⟩
  · rw [hfi] at HQ ⊢
    have HR : Hid (vacB f ps = (ps, 6)) := HQ.out
    go_wp2_with fail
    go_ret
    exact ⟨by rw [HR.out]; rfl, HK.out, fun h => by rw [HR.out] at h; exact absurd h (show ¬ (6 : Int) = 0 by decide)⟩
end Go.Proofs.YtkhedjfdjjeopaaGreatDoor
