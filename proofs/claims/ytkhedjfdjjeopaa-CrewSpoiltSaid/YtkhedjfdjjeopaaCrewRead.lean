/-
  Contract of crew.readPerson.
  Condition: the reader's bytes are bytes.
-/
import Derived.Test.YtkhedjfdjjeopaaTTRead
import Derived.Test.YtkhedjfdjjeopaaCrewBody
namespace Go.Proofs.Ytkhedjfdjjeopaa
set_option linter.unusedSimpArgs false
set_option linter.unusedVariables false
open Go.RowKit

theorem elem_strs : Elem Try.prog 37 9 1 16 := ⟨Try.underlying37, by kernel_rfl⟩
theorem elem_span : Elem Try.prog 38 42 2 16 := ⟨Try.underlying38, by kernel_rfl⟩
theorem elem_person : Elem Try.prog 27 40 7 104 := ⟨Try.underlying27, by kernel_rfl⟩
def pZero : Array Value := #[.int .i64 0, .string ⟨#[]⟩, .string ⟨#[]⟩, .int .i64 0, .int .i64 0, .slice none 0 0, .slice none 0 0]
/-- What holds while a person is read: the person's box pb, the result's box, the reader. -/
structure PInv (w : World) (g : Nat) (S : Nat → Prop) (pb : Nat) (wr : World) (cs : Array Value) (r : List Int) (b : Bool) : Prop where
  p : wr.heap[pb]? = some (.cells cs 40 (0, 0))
  res : wr.heap[w.heap.size]? = some (.cells pZero 40 (0, 0))
  rd : Rd wr g S r b
  but : But g w wr
  lt : w.heap.size < pb
  gl : g < w.heap.size
  sS : ∀ b, S b → b < g
section
variable {w : World} {g : Nat} {S : Nat → Prop} {pb : Nat} {wr w5 w6 : World} {cs : Array Value} {r r' : List Int} {b b' : Bool} {o : Obj} {row : Option Nat}
theorem PInv.pl (h : PInv w g S pb wr cs r b) : pb < wr.heap.size := (Array.getElem?_eq_some_iff.1 h.p).1
theorem PInv.call (h : PInv w g S pb wr cs r b) (hb : But g wr w5) (hr : Rd w5 g S r' b') : PInv w g S pb w5 cs r' b' := by
  have h1 := h.lt; have h2 := h.gl; have h3 := h.pl
  exact ⟨(hb.block pb h3 (by omega)).trans h.p, (hb.block _ (by omega) (by omega)).trans h.res, hr, h.but.trans hb, h1, h2, h.sS⟩
theorem PInv.keep (h : PInv w g S pb wr cs r b) (hb : But g wr w5) (hgr : (w5.alloc o).grownBy w6 row) (q : Nat) (hq : q < wr.heap.size) (hqg : q ≠ g) (hqr : row ≠ some q) : w6.heap[q]? = wr.heap[q]? := by
  have h3 := hb.size
  rw [hgr.block q (by simp; omega) (fun e => hqr e.symm), Below.heap_alloc _ _ _ (by omega), hb.block q hq hqg]
theorem PInv.p6 (h : PInv w g S pb wr cs r b) (hb : But g wr w5) (hgr : (w5.alloc o).grownBy w6 row) (hrow : ∀ k, row = some k → pb < k) : w6.heap[pb]? = some (.cells cs 40 (0, 0)) := by
  have h1 := h.lt; have h2 := h.gl
  rw [h.keep hb hgr pb h.pl (by omega) (fun e => by have := hrow pb e; omega)]
  exact h.p
theorem PInv.step (h : PInv w g S pb wr cs r b) (hb : But g wr w5) (hr : Rd w5 g S r' b') (hgr : (w5.alloc o).grownBy w6 row) (hrow : ∀ k, row = some k → pb < k) (j : Nat) (v' : Value) : PInv w g S pb (w6.setCell ⟨pb, j, none⟩ v') (cs.setIfInBounds j v') r' b' := by
  have h1 := h.lt; have h2 := h.gl; have h3 := h.pl; have h4 := hb.size; have h5 := hgr.size
  simp only [World.size_alloc] at h5
  refine ⟨heap_setCell_same _ _ _ _ _ _ (h.p6 hb hgr hrow), ?_, ?_, ?_, h1, h2, h.sS⟩
  · rw [heap_setCell_other _ _ _ _ (by simp; omega), h.keep hb hgr _ (by omega) (by omega) (fun e => by have := hrow _ e; omega)]
    exact h.res
  · refine hr.frame (fun q hq hSq => ?_) (by simp; omega)
    have hqg : q ≤ g := by
      rcases hSq with hs | rfl
      · exact Nat.le_of_lt (h.sS q hs)
      · exact Nat.le_refl _
    rw [heap_setCell_other _ _ _ _ (by simp; omega), hgr.block q (by simp; omega) (fun e => by have := hrow q e.symm; omega), Below.heap_alloc _ _ _ (by omega)]
  · exact (((h.but.trans hb).alloc o).grown hgr (fun k hk => by have := hrow k hk; omega)).setFar (by omega) j v'
/-- What lies between the box and the new row stays. -/
theorem PInv.mid (h : PInv w g S pb wr cs r b) (hb : But g wr w5) (hgr : (w5.alloc o).grownBy w6 row) {H : Nat} (hrow : ∀ k, row = some k → H ≤ k) (hH : pb < H) (hHs : H ≤ wr.heap.size) (j : Nat) (v' : Value) (q : Nat) (hq : pb < q ∧ q < H) : (w6.setCell ⟨pb, j, none⟩ v').heap[q]? = wr.heap[q]? := by
  have h1 := h.lt; have h2 := h.gl
  rw [heap_setCell_other _ _ _ _ (by simp; omega), h.keep hb hgr q (by omega) (by omega) (fun e => by have := hrow q e; omega)]
end
def RPPost (g : Nat) (S : Nat → Prop) (w : World) (p : GPerson) (rest : List Int) (bad : Bool) (e : Ending) (w' : World) : Prop :=
  ∃ A1 n1 c1 A2 n2 c2, e = .returned (.agg #[.int .i64 p.id, .string p.name, .string p.base, .int .i64 p.rank, .int .i64 p.sen, .slice A1 n1 c1, .slice A2 n2 c2]) ∧
    Sl Ty.str w' (fun b => w.heap.size < b ∧ b < w'.heap.size) A1 n1 c1 p.types ∧ Sl Ty.shift w' (fun b => w.heap.size < b ∧ b < w'.heap.size) A2 n2 c2 p.vacs ∧ Rd w' g S rest bad ∧ But g w w'

set_option maxRecDepth 100000 in
set_option maxHeartbeats 1600000 in
theorem readPerson_any (g : Nat) (S : Nat → Prop) (rest : List Int) (bad : Bool) (w : World) (h : Rd w g S rest bad) (hS : ∀ b, S b → b < g) :
    Calls Try.prog 37 #[.pointer (some ⟨g, 0, none⟩)] w (RPPost g S w (rdPerson rest bad).1 (rdPerson rest bad).2.1 (rdPerson rest bad).2.2) := by
  have hg := h.glt
  have h0 := h.next ((Below.refl _ _).alloc (Nat.le_refl _) (.cells #[.int .i64 0, .string ⟨#[]⟩, .string ⟨#[]⟩, .int .i64 0, .int .i64 0, .slice none 0 0, .slice none 0 0] 40))
  have hbt0 := (But.refl g w).alloc (.cells #[.int .i64 0, .string ⟨#[]⟩, .string ⟨#[]⟩, .int .i64 0, .int .i64 0, .slice none 0 0, .slice none 0 0] 40)
  have hr0 : (w.alloc (.cells #[.int .i64 0, .string ⟨#[]⟩, .string ⟨#[]⟩, .int .i64 0, .int .i64 0, .slice none 0 0, .slice none 0 0] 40)).heap[w.heap.size]? = some (.cells pZero 40 (0, 0)) := heap_alloc_new _ _
  have hz0 : w.heap.size + 1 ≤ (w.alloc (.cells #[.int .i64 0, .string ⟨#[]⟩, .string ⟨#[]⟩, .int .i64 0, .int .i64 0, .slice none 0 0, .slice none 0 0] 40)).heap.size := by simp
  have HFL : Hid (rdPerson rest bad = (let u1 := rdU rest bad
    let t1 := rdT u1.2.1 u1.2.2
    let t2 := rdT t1.2.1 t1.2.2
    let u2 := rdU t2.2.1 t2.2.2
    let u3 := rdU u2.2.1 u2.2.2
    let n1 := rdN 8 u3.2.1 u3.2.2
    let m1 := rdMany rdT n1.1.toNat n1.2.1 n1.2.2
    let n2 := rdN 8 m1.2.1 m1.2.2
    let m2 := rdMany rdSpan n2.1.toNat n2.2.1 n2.2.2
    (⟨u1.1, t1.1, t2.1, u2.1, u3.1, m1.1, m2.1⟩, m2.2.1, m2.2.2))) := by
    show _ = _
    unfold rdPerson
    simp only
  have HR0 := Lib.hid hr0; have H0 := Lib.hid h0; have HB0 := Lib.hid hbt0; have HZ0 := Lib.hid hz0
  clear h h0 hbt0 hr0 hz0
  go_enter Try.func37, Try.ntmps37
  go_wp2_with fail
  generalize w.alloc (.cells #[.int .i64 0, .string ⟨#[]⟩, .string ⟨#[]⟩, .int .i64 0, .int .i64 0, .slice none 0 0, .slice none 0 0] 40) = W at *
  refine (readerUint_any g S rest bad W H0.out).mono ?_
  rintro e w1 ⟨rfl, hr1, hb1⟩
  generalize rdU rest bad = u1 at *
  go_wp2_with fail
  refine (readerText_any g S u1.2.1 u1.2.2 w1 hr1).mono ?_
  rintro e w2 ⟨rfl, hr2, hb2⟩
  generalize rdT u1.2.1 u1.2.2 = t1 at *
  go_wp2_with fail
  refine (readerText_any g S t1.2.1 t1.2.2 w2 hr2).mono ?_
  rintro e w3 ⟨rfl, hr3, hb3⟩
  generalize rdT t1.2.1 t1.2.2 = t2 at *
  go_wp2_with fail
  refine (readerUint_any g S t2.2.1 t2.2.2 w3 hr3).mono ?_
  rintro e w4 ⟨rfl, hr4, hb4⟩
  generalize rdU t2.2.1 t2.2.2 = u2 at *
  go_wp2_with fail
  refine (readerUint_any g S u2.2.1 u2.2.2 w4 hr4).mono ?_
  rintro e w5 ⟨rfl, hr5, hb5⟩
  generalize rdU u2.2.1 u2.2.2 = u3 at *
  have hbt : But g W w5 := (((hb1.trans hb2).trans hb3).trans hb4).trans hb5
  have hW2 : w.heap.size + 1 ≤ w5.heap.size := Nat.le_trans HZ0.out hbt.size
  have HINV : Hid (PInv w g S w5.heap.size (w5.alloc (.cells #[.int .i64 u1.1, .string t1.1, .string t2.1, .int .i64 u2.1, .int .i64 u3.1, .slice none 0 0, .slice none 0 0] 40)) #[.int .i64 u1.1, .string t1.1, .string t2.1, .int .i64 u2.1, .int .i64 u3.1, .slice none 0 0, .slice none 0 0] u3.2.1 u3.2.2) := by
    refine ⟨heap_alloc_new _ _, ?_, hr5.next ((Below.refl _ _).alloc (Nat.le_refl _) _), (HB0.out.trans hbt).alloc _, by omega, hg, hS⟩
    rw [Below.heap_alloc _ _ _ (by omega), hbt.block _ (by have := HZ0.out; omega) (by omega)]
    exact HR0.out
  clear HR0 H0 HB0 HZ0 hr1 hb1 hb2 hb3 hb4 hb5 hr2 hr3 hr4 hr5 hbt
  go_wp2_with fail
  generalize w5.alloc (.cells #[.int .i64 u1.1, .string t1.1, .string t2.1, .int .i64 u2.1, .int .i64 u3.1, .slice none 0 0, .slice none 0 0] 40) = W6 at *
  generalize w5.heap.size = pb at *
  refine (readerCountTo_any g S u3.2.1 u3.2.2 8 W6 HINV.out.rd).mono ?_
  rintro e w6 ⟨rfl, hr6, hb6⟩
  have hn := rdN_range (m := 8) u3.2.2 HINV.out.rd.by_ (by decide)
  have hinv6 := HINV.out.call hb6 hr6
  clear HINV hr6 hb6
  generalize rdN 8 u3.2.1 u3.2.2 = n1 at *
  obtain ⟨n, r0, b0⟩ := n1
  simp only at hinv6 HFL hn
  obtain ⟨m, rfl⟩ := Int.eq_ofNat_of_zero_le hn.1
  have hm : m ≤ 8 := by omega
  have HINV := Lib.hid hinv6
  clear hn hinv6
  simp only [Int.toNat_natCast] at HFL
  go_wp2_with fail
  go_loopw [17] (fun i wr => ∃ (k : Nat) (v : Value), k ≤ m ∧ i = .int .i64 k ∧ PInv w g S pb wr #[.int .i64 u1.1, .string t1.1, .string t2.1, .int .i64 u2.1, .int .i64 u3.1, v, .slice none 0 0] (rdMany rdT k r0 b0).2.1 (rdMany rdT k r0 b0).2.2 ∧ Own Ty.str 9 wr (pb + 1) v (rdMany rdT k r0 b0).1) (fun i _ => m - (intOf i).toNat)
  case atStart => exact ⟨0, _, Nat.zero_le _, rfl, HINV.out, Own.nil⟩
  case round =>
    obtain ⟨k, v, hk, rfl, hinv, hown⟩ := hrel
    clear HINV
    by_cases hlt : k < m
    · have HSN : Hid (rdMany rdT (k + 1) r0 b0 = ((rdMany rdT k r0 b0).1 ++ [(rdT (rdMany rdT k r0 b0).2.1 (rdMany rdT k r0 b0).2.2).1], (rdT (rdMany rdT k r0 b0).2.1 (rdMany rdT k r0 b0).2.2).2.1, (rdT (rdMany rdT k r0 b0).2.1 (rdMany rdT k r0 b0).2.2).2.2)) := rfl
      have hlen := rdMany_len (f := rdT) k r0 b0
      have hll : (rdMany rdT k r0 b0).1.length ≤ 8 := by omega
      clear hlen
      generalize rdMany rdT k r0 b0 = q at *
      obtain ⟨xs, r, b⟩ := q
      simp only at hinv hown HSN hll
      have HC : Hid (∀ q, (wr.drewN q).cell? ⟨pb, 5, none⟩ = some v) := fun q => block_cell (w := wr.drewN q) hinv.p 5
      have hc1 : wr.cell? ⟨pb, 5, none⟩ = some v := block_cell hinv.p 5
      have HRR : Hid (∀ q, Rd (wr.drewN q) g S r b) := fun q => hinv.rd.frame (fun _ _ _ => rfl) (Nat.le_refl _)
      have HI := Lib.hid hinv
      have HO := Lib.hid hown
      have hwsz := hinv.pl
      have hgp : g < pb := Nat.lt_trans hg hinv.lt
      have hbD := (But.refl g wr).drewN 1
      have HROW : Hid (∀ k, v.ownBlock = some k → pb < k) := fun k hk => (HO.out.lt k hk).1
      clear hinv hown
      go_wp2_with fail
      go_region_law (first
        | (refine step_push rfl (.tmp 20) (.tmp 23) 37 rfl 16 elem_strs (by simp [Act.eval, Act.put]) (HOWN.out _) w4.heap.size (rdT r b).1 (fun _ => False) (by simp [Act.eval, Act.put]) ⟨[.string (rdT r b).1], rfl, At.new w4 #[.string (rdT r b).1] _⟩ (fun _ h => h.elim) (by omega) (by decide) (by simp; omega) ?_; intro g6 cap6 w6 hown6 hgr6 hat6; have hz6 := HI.out.p6 hb7 hgr6 HROW.out; have hc6 : w6.cell? ⟨pb, 5, none⟩ = some v := block_cell hz6 5; have hf6 : w6.frozen? ⟨pb, 5, none⟩ = false := block_free hz6 5; have HSTEP := Lib.hid (HI.out.step hb7 hr4 hgr6 HROW.out 5 (.slice (some ⟨g6, 0, none⟩) (xs.length + 1) cap6)); have HOWN6 := Lib.hid (hown6.setCell (g := pb) (j := 5) (by omega) (.slice (some ⟨g6, 0, none⟩) (xs.length + 1) cap6)); clear hz6)
        | (go_simp; go_at_call 65; refine (readerText_any g S r b _ (HRR.out _)).mono ?_; rintro e w4 ⟨rfl, hr4, hb4⟩; have hc4 : w4.cell? ⟨pb, 5, none⟩ = some v := hb4.cell (HC.out _) (by simp; omega); have hb7 := hbD.trans hb4; have hs5 := hb7.size; have hc5' : ∀ o, (w4.alloc o).cell? ⟨pb, 5, none⟩ = some v := fun o => (World.cell?_alloc_past _ _ _ (by omega)).trans hc4; have HOWN : Hid (∀ o, Own Ty.str 9 (w4.alloc o) (pb + 1) v xs) := fun o => (HO.out.but hb7 (by omega)).alloc o)
        | fail)
      all_goals
        go_wp2_with fail
        go_roundw
        case rel => exact ⟨k + 1, _, by omega, by go_num, by rw [HSN.out]; exact HSTEP.out, by rw [HSN.out]; exact HOWN6.out⟩
        case measure => simp [intOf]; omega
    · have hkm : k = m := by omega
      subst hkm
      generalize rdMany rdT k r0 b0 = qz at *
      obtain ⟨ts, r, b⟩ := qz
      simp only at hinv hown HFL
      obtain ⟨Az, cz, rfl, hslz⟩ := hown.sl
      have HI := Lib.hid hinv
      have HSLZ := Lib.hid hslz
      have hn := rdN_range (m := 8) b hinv.rd.by_ (by decide)
      clear hinv hown hslz hlt hk
      go_wp2_with fail
      refine (readerCountTo_any g S r b 8 wr HI.out.rd).mono ?_
      rintro e w2 ⟨rfl, hr2, hb2⟩
      have hinv2 := HI.out.call hb2 hr2
      have hszz := hinv2.pl
      have hgp : g < pb := Nat.lt_trans hg HI.out.lt
      have HSLZ2 : Hid (Sl Ty.str w2 (fun b => pb < b ∧ b < w2.heap.size) Az ts.length cz ts) := by
        refine (HSLZ.out.keep fun q hq => ?_).more fun q hq => ⟨by omega, by have := hb2.size; omega⟩
        exact hb2.block q hq.2 (by omega)
      clear hr2 hb2 HI HSLZ
      generalize rdN 8 r b = q1 at *
      obtain ⟨nn, r1, b1⟩ := q1
      simp only at hinv2 hn HFL
      obtain ⟨k2, rfl⟩ := Int.eq_ofNat_of_zero_le hn.1
      have hk2 : k2 ≤ 8 := by omega
      have HINV := Lib.hid hinv2
      clear hn hinv2
      go_wp2_with fail
      obtain ⟨wo, rfl⟩ : ∃ wo : World, wo = wr := ⟨_, rfl⟩
      generalize hH2 : w2.heap.size = H2 at *
      have hH2' : H2 ≤ w2.heap.size := by omega
      clear hH2
      simp only [Int.toNat_natCast] at HFL
      go_loopw [29] (fun i wr => ∃ (k : Nat) (v : Value), k ≤ k2 ∧ i = .int .i64 k ∧ PInv w g S pb wr #[.int .i64 u1.1, .string t1.1, .string t2.1, .int .i64 u2.1, .int .i64 u3.1, .slice Az ts.length cz, v] (rdMany rdSpan k r1 b1).2.1 (rdMany rdSpan k r1 b1).2.2 ∧ Own Ty.shift 42 wr H2 v (rdMany rdSpan k r1 b1).1 ∧ H2 ≤ wr.heap.size ∧ Sl Ty.str wr (fun b => pb < b ∧ b < H2) Az ts.length cz ts) (fun i _ => k2 - (intOf i).toNat)
      case atStart => exact ⟨0, _, Nat.zero_le _, rfl, HINV.out, Own.nil, hH2', HSLZ2.out⟩
      case round =>
        obtain ⟨k, v, hk, rfl, hinv, hown, hHs, hslz⟩ := hrel
        clear HINV HSLZ2 hH2'
        by_cases hlt : k < k2
        · have HSN : Hid (rdMany rdSpan (k + 1) r1 b1 = ((rdMany rdSpan k r1 b1).1 ++ [(rdSpan (rdMany rdSpan k r1 b1).2.1 (rdMany rdSpan k r1 b1).2.2).1], (rdSpan (rdMany rdSpan k r1 b1).2.1 (rdMany rdSpan k r1 b1).2.2).2.1, (rdSpan (rdMany rdSpan k r1 b1).2.1 (rdMany rdSpan k r1 b1).2.2).2.2)) := rfl
          have hlen := rdMany_len (f := rdSpan) k r1 b1
          have hll : (rdMany rdSpan k r1 b1).1.length ≤ 8 := by omega
          clear hlen
          generalize rdMany rdSpan k r1 b1 = q at *
          obtain ⟨xs, r, b⟩ := q
          simp only at hinv hown HSN hll
          have HSE : Hid (rdSpan r b = (⟨(rdU r b).1, (rdU (rdU r b).2.1 (rdU r b).2.2).1⟩, (rdU (rdU r b).2.1 (rdU r b).2.2).2)) := rfl
          have HC : Hid (∀ q, (wr.drewN q).cell? ⟨pb, 6, none⟩ = some v) := fun q => block_cell (w := wr.drewN q) hinv.p 6
          have hc1 : wr.cell? ⟨pb, 6, none⟩ = some v := block_cell hinv.p 6
          have HRR : Hid (∀ q, Rd (wr.drewN q) g S r b) := fun q => hinv.rd.frame (fun _ _ _ => rfl) (Nat.le_refl _)
          have HI := Lib.hid hinv
          have HO := Lib.hid hown
          have HSZ := Lib.hid hslz
          have hwsz := hinv.pl
          have hbD := (But.refl g wr).drewN 1
          have HROW0 : Hid (∀ k, v.ownBlock = some k → H2 ≤ k) := fun k hk => (HO.out.lt k hk).1
          have HROW : Hid (∀ k, v.ownBlock = some k → pb < k) := fun k hk => by have := (HO.out.lt k hk).1; omega
          clear hinv hown hslz
          go_wp2_with fail
          go_region_law (first
            | (refine step_push rfl (.tmp 32) (.tmp 38) 38 rfl 16 elem_span (by simp [Act.eval, Act.put]) (HOWN.out _) w5.heap.size ⟨(rdU r b).1, (rdU (rdU r b).2.1 (rdU r b).2.2).1⟩ (fun _ => False) (by simp [Act.eval, Act.put]) ⟨[.int .i64 (rdU r b).1, .int .i64 (rdU (rdU r b).2.1 (rdU r b).2.2).1], rfl, At.new w5 #[.int .i64 (rdU r b).1, .int .i64 (rdU (rdU r b).2.1 (rdU r b).2.2).1] _⟩ (fun _ h => h.elim) (by omega) (by decide) (by simp; omega) ?_; intro g6 cap6 w6 hown6 hgr6 hat6; have hz6 := HI.out.p6 hb7 hgr6 HROW.out; have hc6 : w6.cell? ⟨pb, 6, none⟩ = some v := block_cell hz6 6; have hf6 : w6.frozen? ⟨pb, 6, none⟩ = false := block_free hz6 6; have HSTEP := Lib.hid (HI.out.step hb7 hr5 hgr6 HROW.out 6 (.slice (some ⟨g6, 0, none⟩) (xs.length + 1) cap6)); have HOWN6 := Lib.hid (hown6.setCell (g := pb) (j := 6) (by omega) (.slice (some ⟨g6, 0, none⟩) (xs.length + 1) cap6)); have HS6 := Lib.hid (HSZ.out.keep (HI.out.mid hb7 hgr6 HROW0.out (by omega) hHs 6 (.slice (some ⟨g6, 0, none⟩) (xs.length + 1) cap6))); have hhs6 := hgr6.size; clear hz6)
            | (go_simp; go_at_call 64; refine (readerUint_any g S _ _ _ hr4).mono ?_; rintro e w5 ⟨rfl, hr5, hb5⟩; have hc5 : w5.cell? ⟨pb, 6, none⟩ = some v := hb5.cell hc4 (by simp; omega); have hb7 := (hbD.trans hb4).trans hb5; have hs5 := hb7.size; have hc5' : ∀ o, (w5.alloc o).cell? ⟨pb, 6, none⟩ = some v := fun o => (World.cell?_alloc_past _ _ _ (by omega)).trans hc5; have HOWN : Hid (∀ o, Own Ty.shift 42 (w5.alloc o) H2 v xs) := fun o => (HO.out.but hb7 (by omega)).alloc o)
            | (go_simp; go_at_call 64; refine (readerUint_any g S r b _ (HRR.out _)).mono ?_; rintro e w4 ⟨rfl, hr4, hb4⟩; have hc4 : w4.cell? ⟨pb, 6, none⟩ = some v := hb4.cell (HC.out _) (by simp; omega))
            | fail)
          all_goals
            go_wp2_with fail
            go_roundw
            case rel => exact ⟨k + 1, _, by omega, by go_num, by rw [HSN.out, HSE.out]; exact HSTEP.out, by rw [HSN.out, HSE.out]; exact HOWN6.out, by simp at hhs6; simp; omega, HS6.out⟩
            case measure => simp [intOf]; omega
        · have hkm : k = k2 := by omega
          subst hkm
          generalize rdMany rdSpan k r1 b1 = qa at *
          obtain ⟨vs, r, b⟩ := qa
          simp only at hinv hown HFL
          obtain ⟨Aa, ca, rfl, hsla⟩ := hown.sl
          have y := fun j => block_cell hinv.p j
          have z := fun j => block_cell hinv.res j
          have fz := fun j => block_free hinv.res j
          unfold pZero at z
          have y0 := y 0; have y1 := y 1; have y2 := y 2; have y3 := y 3; have y4 := y 4; have y5 := y 5; have y6 := y 6
          have z0 := z 0; have z1 := z 1; have z2 := z 2; have z3 := z 3; have z4 := z 4; have z5 := z 5; have z6 := z 6
          have f0 := fz 0; have f1 := fz 1; have f2 := fz 2; have f3 := fz 3; have f4 := fz 4; have f5 := fz 5; have f6 := fz 6
          have HI := Lib.hid hinv
          have HSA := Lib.hid hsla; have HSZ := Lib.hid hslz
          have hwp := hinv.lt
          clear y z fz hinv hown hsla hslz
          go_wp2_with fail
          refine bodyPost_ret (v := .agg #[.int .i64 u1.1, .string t1.1, .string t2.1, .int .i64 u2.1, .int .i64 u3.1, .slice Az ts.length cz, .slice Aa vs.length ca]) (by simp [results, Try.results37, go_sem, z0, z1, z2, z3, z4, z5, z6]) rfl ⟨Az, _, cz, Aa, _, ca, by rw [HFL.out], ?_, ?_, ?_, ?_⟩
          · rw [HFL.out]
            refine (HSZ.out.keep fun q hq => ?_).more fun q hq => ⟨by omega, by simp; omega⟩
            repeat rw [heap_setCell_other _ _ _ _ (by simp; omega)]
          · rw [HFL.out]
            refine (HSA.out.keep fun q hq => ?_).more fun q hq => ⟨by omega, by simp; omega⟩
            repeat rw [heap_setCell_other _ _ _ _ (by simp; omega)]
          · rw [HFL.out]
            repeat' refine Rd.setFar ?_ hS hg (Nat.le_refl _) _ _
            exact HI.out.rd
          · repeat' refine But.setFar ?_ (Nat.le_refl _) _ _
            exact HI.out.but
end Go.Proofs.Ytkhedjfdjjeopaa
