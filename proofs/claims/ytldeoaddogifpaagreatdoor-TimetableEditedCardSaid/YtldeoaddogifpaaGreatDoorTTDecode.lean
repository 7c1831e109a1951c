/-
  Contract of timetable.Decode.
  Condition: the bytes are bytes.
-/
import Derived.Test.YtldeoaddogifpaaGreatDoorTTReadF
import Derived.Test.YtldeoaddogifpaaGreatDoorUnframe
import Derived.Test.YtldeoaddogifpaaGreatDoorValidate
namespace Go.Proofs.YtldeoaddogifpaaGreatDoor
set_option linter.unusedSimpArgs false
set_option linter.unusedVariables false
open Go.RowKit

theorem elem_zone : Elem Tryz.prog 23 51 3 48 := ⟨Tryz.underlying23, by kernel_rfl⟩
theorem elem_airport : Elem Tryz.prog 24 66 2 32 := ⟨Tryz.underlying24, by kernel_rfl⟩
theorem elem_flight : Elem Tryz.prog 25 47 9 104 := ⟨Tryz.underlying25, by kernel_rfl⟩
/-- What holds while a timetable is read: its box tb, the result's box, the reader. -/
structure DI (w : World) (g : Nat) (S : Nat → Prop) (tb : Nat) (wr : World) (cs : Array Value) (r : List Int) (b : Bool) : Prop where
  t : wr.heap[tb]? = some (.cells cs 27 (0, 0))
  res : wr.heap[w.heap.size]? = some (.cells #[.slice none 0 0, .slice none 0 0, .slice none 0 0] 27 (0, 0))
  rd : Rd wr g S r b
  bel : Below w.heap.size w wr
  l1 : w.heap.size < g
  l2 : g < tb
  sS : ∀ b, S b → b < g
section
variable {w : World} {g : Nat} {S : Nat → Prop} {tb : Nat} {wr w5 w6 : World} {cs : Array Value} {r r' : List Int} {b b' : Bool} {o : Obj} {row : Option Nat}
theorem DI.lt (h : DI w g S tb wr cs r b) : tb < wr.heap.size := (Array.getElem?_eq_some_iff.1 h.t).1
theorem DI.call (h : DI w g S tb wr cs r b) (hb : But g wr w5) (hr : Rd w5 g S r' b') : DI w g S tb w5 cs r' b' := by
  have h1 := h.l1; have h2 := h.l2; have h3 := h.lt
  refine ⟨(hb.block tb h3 (by omega)).trans h.t, (hb.block _ (by omega) (by omega)).trans h.res, hr, hb.below h.bel (by omega) (by omega), h1, h2, h.sS⟩
theorem DI.keep (h : DI w g S tb wr cs r b) (hb : But g wr w5) (hgr : (w5.alloc o).grownBy w6 row) (hrow : ∀ k, row = some k → tb < k) (q : Nat) (hq : q < wr.heap.size) (hqg : q ≠ g) (hqr : row ≠ some q) : w6.heap[q]? = wr.heap[q]? := by
  have h3 := hb.size
  rw [hgr.block q (by simp; omega) (fun e => hqr e.symm), Below.heap_alloc _ _ _ (by omega), hb.block q hq hqg]
theorem DI.t6 (h : DI w g S tb wr cs r b) (hb : But g wr w5) (hgr : (w5.alloc o).grownBy w6 row) (hrow : ∀ k, row = some k → tb < k) : w6.heap[tb]? = some (.cells cs 27 (0, 0)) := by
  have h1 := h.l1; have h2 := h.l2
  rw [h.keep hb hgr hrow tb h.lt (by omega) (fun e => by have := hrow tb e; omega)]
  exact h.t
theorem DI.step (h : DI w g S tb wr cs r b) (hb : But g wr w5) (hr : Rd w5 g S r' b') (hgr : (w5.alloc o).grownBy w6 row) (hrow : ∀ k, row = some k → tb < k) (j : Nat) (v' : Value) : DI w g S tb (w6.setCell ⟨tb, j, none⟩ v') (cs.setIfInBounds j v') r' b' := by
  have h1 := h.l1; have h2 := h.l2; have h3 := h.lt; have h4 := hb.size; have h5 := hgr.size
  simp only [World.size_alloc] at h5
  have h8 := hb.below h.bel (by omega) (by omega)
  refine ⟨heap_setCell_same _ _ _ _ _ _ (h.t6 hb hgr hrow), ?_, ?_, ?_, h1, h2, h.sS⟩
  · rw [heap_setCell_other _ _ _ _ (by simp; omega), h.keep hb hgr hrow _ (by omega) (by omega) (fun e => by have := hrow _ e; omega)]
    exact h.res
  · refine hr.frame (fun q hq hSq => ?_) (by simp; omega)
    have hqg : q ≤ g := by
      rcases hSq with hs | rfl
      · exact Nat.le_of_lt (h.sS q hs)
      · exact Nat.le_refl _
    rw [heap_setCell_other _ _ _ _ (by simp; omega), hgr.block q (by simp; omega) (fun e => by have := hrow q e.symm; omega), Below.heap_alloc _ _ _ (by omega)]
  · exact ((h8.alloc (by omega) o).grown hgr (by simp; omega) (fun k hk => by have := hrow k hk; omega)).setCell (by simp; omega) _
/-- What lies between the box and the new row stays. -/
theorem DI.mid (h : DI w g S tb wr cs r b) (hb : But g wr w5) (hgr : (w5.alloc o).grownBy w6 row) {H : Nat} (hrow : ∀ k, row = some k → H ≤ k) (hH : tb < H) (hHs : H ≤ wr.heap.size) (j : Nat) (v' : Value) (q : Nat) (hq : tb < q ∧ q < H) : (w6.setCell ⟨tb, j, none⟩ v').heap[q]? = wr.heap[q]? := by
  have h1 := h.l1; have h2 := h.l2
  rw [heap_setCell_other _ _ _ _ (by simp; omega), h.keep hb hgr (fun k hk => by have := hrow k hk; omega) q (by omega) (by omega) (fun e => by have := hrow q e; omega)]
end
def DecPost (t : GTT) (x : Int) (w : World) (e : Ending) (w' : World) : Prop :=
  ∃ A1 n1 c1 A2 n2 c2 A3 n3 c3, e = .returned (.tuple #[.agg #[.slice A1 n1 c1, .slice A2 n2 c2, .slice A3 n3 c3], .int .i64 x]) ∧
    Sl Ty.zone w' (fun b => w.heap.size ≤ b ∧ b < w'.heap.size) A1 n1 c1 t.zones ∧ Sl Ty.airport w' (fun b => w.heap.size ≤ b ∧ b < w'.heap.size) A2 n2 c2 t.airports ∧ Sl Ty.flight w' (fun b => w.heap.size ≤ b ∧ b < w'.heap.size) A3 n3 c3 t.flights ∧ Below w.heap.size w w'
/-- timetable.Decode. -/
def decTT (bs : List Int) : GTT × Int :=
  if (unfr bs).2.2.2 ≠ 0 then (noTT, (unfr bs).2.2.2) else
    if (unfr bs).1 ≠ 1 ∨ (unfr bs).2.2.1 ≠ bs.length then (noTT, 2) else
      if doneB (rdTT (unfr bs).2.1).2.1 (rdTT (unfr bs).2.1).2.2 = false then (noTT, 2) else
        if ttE (rdTT (unfr bs).2.1).1 ≠ 0 then (noTT, ttE (rdTT (unfr bs).2.1).1) else ((rdTT (unfr bs).2.1).1, 0)
theorem unfr_bytes {bs : List Int} (h : bytesL bs) : bytesL (unfr bs).2.1 := by
  unfold unfr
  split
  · exact bytesL_nil
  split
  · exact bytesL_nil
  split
  · exact bytesL_nil
  split
  · exact bytesL_nil
  split
  · exact bytesL_nil
  · exact fun x hx => bytesL_drop h _ x (List.mem_of_mem_take hx)

set_option maxRecDepth 100000 in
set_option maxHeartbeats 1600000 in
theorem ttDecode_any (bs : List Int) (A : Option Addr) (m c : Nat) (w : World) (h : Sl (Ty.int .u8) w (all_ w) A m c bs) (hb : bytesL bs) :
    Calls Tryz.prog 16 #[.slice A m c] w (DecPost (decTT bs).1 (decTT bs).2 w) := by
  have hn1 : m ≤ bs.length := Nat.le_of_eq h.len
  have hn2 : bs.length ≤ m := Nat.le_of_eq h.len.symm
  have hle := h.le
  unfold maxLen at hle
  have ha := (Below.refl w.heap.size w).alloc (Nat.le_refl _) (.cells #[.slice none 0 0, .slice none 0 0, .slice none 0 0] 27)
  have HU := Lib.hid (unframe_any bs A m c _ (h.next ha) hb)
  have HT : Hid (decTT bs = if (unfr bs).2.2.2 ≠ 0 then (noTT, (unfr bs).2.2.2) else
    if (unfr bs).1 ≠ 1 ∨ (unfr bs).2.2.1 ≠ bs.length then (noTT, 2) else
      if doneB (rdTT (unfr bs).2.1).2.1 (rdTT (unfr bs).2.1).2.2 = false then (noTT, 2) else
        if ttE (rdTT (unfr bs).2.1).1 ≠ 0 then (noTT, ttE (rdTT (unfr bs).2.1).1) else ((rdTT (unfr bs).2.1).1, 0)) := rfl
  have HR0 : Hid ((w.alloc (.cells #[.slice none 0 0, .slice none 0 0, .slice none 0 0] 27)).heap[w.heap.size]? = some (.cells #[.slice none 0 0, .slice none 0 0, .slice none 0 0] 27 (0, 0))) := heap_alloc_new _ _
  have HZ0 : Hid ((w.alloc (.cells #[.slice none 0 0, .slice none 0 0, .slice none 0 0] 27)).heap.size = w.heap.size + 1) := by show _ = _; simp
  have HA := Lib.hid ha
  have HBY := Lib.hid (unfr_bytes hb)
  clear h hb ha
  generalize unfr bs = u at *
  obtain ⟨kind, body, used, e0⟩ := u
  simp only at HT HU HBY
  go_enter Tryz.func16, Tryz.ntmps16
  go_wp2_with fail
  refine HU.out.mono ?_
  clear HU
  generalize w.alloc (.cells #[.slice none 0 0, .slice none 0 0, .slice none 0 0] 27) = W at *
  rintro e w1 ⟨A1, n1, c1, rfl, hsl, hb1⟩
  have HR1 : Hid (w1.heap[w.heap.size]? = some (.cells #[.slice none 0 0, .slice none 0 0, .slice none 0 0] 27 (0, 0))) := (hb1.block _ (by have := HZ0.out; omega)).trans HR0.out
  have z0 : w1.cell? ⟨w.heap.size, 0, none⟩ = some (.slice none 0 0) := block_cell HR1.out 0
  have z1 : w1.cell? ⟨w.heap.size, 1, none⟩ = some (.slice none 0 0) := block_cell HR1.out 1
  have z2 : w1.cell? ⟨w.heap.size, 2, none⟩ = some (.slice none 0 0) := block_cell HR1.out 2
  have f0 : w1.frozen? ⟨w.heap.size, 0, none⟩ = false := block_free HR1.out 0
  have f1 : w1.frozen? ⟨w.heap.size, 1, none⟩ = false := block_free HR1.out 1
  have f2 : w1.frozen? ⟨w.heap.size, 2, none⟩ = false := block_free HR1.out 2
  have hbw : Below w.heap.size w w1 := HA.out.trans (hb1.mono (by have := HZ0.out; omega))
  have hbad : ∀ (W' : World) (x : Int), Below w.heap.size w W' → DecPost noTT x w (.returned (.tuple #[.agg #[.slice none 0 0, .slice none 0 0, .slice none 0 0], .int .i64 x])) W' := fun W' x hb => ⟨none, 0, 0, none, 0, 0, none, 0, 0, rfl, Sl.nil0, Sl.nil0, Sl.nil0, hb⟩
  have HBAD := Lib.hid hbad
  clear hbad
  by_cases he : e0 = 0
  case neg =>
    have he' : (e0 != 0) = true := by simpa using he
    have HR : Hid (decTT bs = (noTT, e0)) := by show _ = _; rw [HT.out, if_pos he]
    clear HT he
    go_wp2_with fail
    refine bodyPost_ret (v := .tuple #[.agg #[.slice none 0 0, .slice none 0 0, .slice none 0 0], .int .i64 e0]) (by simp [results, Tryz.results16, go_sem, z0, z1, z2]) rfl ?_
    rw [HR.out]
    exact HBAD.out _ _ (((hbw.setCell (Nat.le_refl _) _).setCell (Nat.le_refl _) _).setCell (Nat.le_refl _) _)
  subst he
  rw [if_neg (by simp)] at HT
  by_cases hk : kind = 1
  case neg =>
    have hk' : (kind != 1) = true := by simpa using hk
    have HR : Hid (decTT bs = (noTT, 2)) := by show _ = _; rw [HT.out, if_pos (.inl hk)]
    clear HT hk
    go_wp2_with fail
    refine bodyPost_ret (v := .tuple #[.agg #[.slice none 0 0, .slice none 0 0, .slice none 0 0], .int .i64 2]) (by simp [results, Tryz.results16, go_sem, z0, z1, z2]) rfl ?_
    rw [HR.out]
    exact HBAD.out _ _ (((hbw.setCell (Nat.le_refl _) _).setCell (Nat.le_refl _) _).setCell (Nat.le_refl _) _)
  subst hk
  by_cases hus : used = m
  case neg =>
    have hu' : ((used : Int) != (m : Int)) = true := by simp; omega
    have HR : Hid (decTT bs = (noTT, 2)) := by show _ = _; rw [HT.out, if_pos (.inr (by omega))]
    clear HT hus
    go_wp2_with fail
    refine bodyPost_ret (v := .tuple #[.agg #[.slice none 0 0, .slice none 0 0, .slice none 0 0], .int .i64 2]) (by simp [results, Tryz.results16, go_sem, z0, z1, z2]) rfl ?_
    rw [HR.out]
    exact HBAD.out _ _ (((hbw.setCell (Nat.le_refl _) _).setCell (Nat.le_refl _) _).setCell (Nat.le_refl _) _)
  subst hus
  rw [if_neg (by rintro (h | h); exact h rfl; omega)] at HT
  have hu' : ((used : Int) != (used : Int)) = false := by simp
  -- the reader and the timetable's box
  have hsz1 : w.heap.size < w1.heap.size := by have := hb1.size; have := HZ0.out; omega
  have HDI0 : Hid (DI w w1.heap.size (fun b => w.heap.size < b ∧ b < w1.heap.size) (w1.heap.size + 1) ((w1.alloc (.cells #[.slice A1 n1 c1, .bool false] 91)).alloc (.cells #[.slice none 0 0, .slice none 0 0, .slice none 0 0] 27)) #[.slice none 0 0, .slice none 0 0, .slice none 0 0] body false) := by
    have hzz := HZ0.out
    refine ⟨heap_alloc2_new _ _ _, ?_, ?_, (hbw.alloc (by omega) _).alloc (by simp; omega) _, hsz1, Nat.lt_succ_self _, fun b hb => hb.2⟩
    · rw [Below.heap_alloc _ _ _ (by simp; omega), Below.heap_alloc _ _ _ hsz1]
      exact HR1.out
    · have hg2 : ((w1.alloc (.cells #[.slice A1 n1 c1, .bool false] 91)).alloc (.cells #[.slice none 0 0, .slice none 0 0, .slice none 0 0] 27)).heap[w1.heap.size]? = some (.cells #[.slice A1 n1 c1, .bool false] 91 (0, 0)) := heap_alloc2_old _ _ _
      refine ⟨⟨A1, n1, c1, block_cell hg2 0, ?_⟩, block_cell hg2 1, fun j => block_free hg2 j, HBY.out, fun h => Nat.lt_irrefl _ h.2, fun b hb => by simp; omega⟩
      refine (hsl.more fun b hb => ⟨by omega, hb.2⟩).keep fun b hb => ?_
      rw [Below.heap_alloc _ _ _ (by simp; omega), Below.heap_alloc _ _ _ hb.2]
  have HRD : Hid (rdTT body = (let n1 := rdN 16 body false
    let z := rdMany rdZone n1.1.toNat n1.2.1 n1.2.2
    let n2 := rdN 64 z.2.1 z.2.2
    let a := rdMany rdAirport n2.1.toNat n2.2.1 n2.2.2
    let n3 := rdN 200 a.2.1 a.2.2
    let f := rdMany rdFlight n3.1.toNat n3.2.1 n3.2.2
    (⟨z.1, a.1, f.1⟩, f.2.1, f.2.2))) := rfl
  have HOK := Lib.hid (rdTT_ok body HBY.out)
  have hn := rdN_range (m := 16) false HBY.out (by decide)
  clear z0 z1 z2 f0 f1 f2 hsl HR1 hb1 hbw HR0 HA HZ0
  go_wp2_with fail
  generalize (w1.alloc (.cells #[.slice A1 n1 c1, .bool false] 91)).alloc (.cells #[.slice none 0 0, .slice none 0 0, .slice none 0 0] 27) = W1 at *
  refine (readerCountTo_any w1.heap.size (fun b => w.heap.size < b ∧ b < w1.heap.size) body false 16 W1 HDI0.out.rd).mono ?_
  rintro e w2 ⟨rfl, hr2, hb2⟩
  generalize hSS : (fun b => w.heap.size < b ∧ b < w1.heap.size) = S at *
  clear hSS
  generalize w1.heap.size = g at *
  have hdi := HDI0.out.call hb2 hr2
  clear hr2 hb2 HDI0
  generalize rdN 16 body false = q1 at *
  obtain ⟨nn, r0, b0⟩ := q1
  simp only at hdi hn
  obtain ⟨k1, rfl⟩ := Int.eq_ofNat_of_zero_le hn.1
  have hk1 : k1 ≤ 16 := by omega
  have HINV := Lib.hid hdi
  clear hn hdi
  go_wp2_with fail
  go_loopw [34] (fun i wr => ∃ (k : Nat) (v : Value), k ≤ k1 ∧ i = .int .i64 k ∧ DI w g S (g + 1) wr #[v, .slice none 0 0, .slice none 0 0] (rdMany rdZone k r0 b0).2.1 (rdMany rdZone k r0 b0).2.2 ∧ Own Ty.zone 51 wr (g + 2) v (rdMany rdZone k r0 b0).1) (fun i _ => k1 - (intOf i).toNat)
  case atStart => exact ⟨0, _, Nat.zero_le _, rfl, HINV.out, Own.nil⟩
  case round =>
    obtain ⟨k, v, hk, rfl, hdi, hown⟩ := hrel
    clear HINV
    by_cases hlt : k < k1
    · have HSN : Hid (rdMany rdZone (k + 1) r0 b0 = ((rdMany rdZone k r0 b0).1 ++ [(rdZone (rdMany rdZone k r0 b0).2.1 (rdMany rdZone k r0 b0).2.2).1], (rdZone (rdMany rdZone k r0 b0).2.1 (rdMany rdZone k r0 b0).2.2).2.1, (rdZone (rdMany rdZone k r0 b0).2.1 (rdMany rdZone k r0 b0).2.2).2.2)) := rfl
      have hlen := rdMany_len (f := rdZone) k r0 b0
      have hll : (rdMany rdZone k r0 b0).1.length ≤ 16 := by omega
      clear hlen
      generalize rdMany rdZone k r0 b0 = q at *
      obtain ⟨xs, r, b⟩ := q
      simp only at hdi hown HSN hll
      have HC : Hid (∀ q, (wr.drewN q).cell? ⟨g + 1, 0, none⟩ = some v) := fun q => block_cell (w := wr.drewN q) hdi.t 0
      have hc1 : wr.cell? ⟨g + 1, 0, none⟩ = some v := block_cell hdi.t 0
      have HRR : Hid (∀ q, Rd (wr.drewN q) g S r b) := fun q => hdi.rd.frame (fun _ _ _ => rfl) (Nat.le_refl _)
      have HI := Lib.hid hdi
      have HO := Lib.hid hown
      have hsS := hdi.sS
      have hwsz := hdi.lt
      have hbD := (But.refl g wr).drewN 1
      clear hdi hown
      go_wp2_with fail
      go_region_law (first
        | (refine step_push rfl (.tmp 37) (.tmp 39) 23 rfl 48 elem_zone (by simp [Act.eval, Act.put]) (HOWN.out _) w4.heap.size (rdZone r b).1 (fun b => wr.heap.size ≤ b ∧ b < w4.heap.size) (by simp [Act.eval, Act.put]) ⟨_, HREP.out.1, HREP.out.2⟩ (HSEP.out _) (by omega) (by decide) (by simp; omega) ?_; intro g6 cap6 w6 hown6 hgr6 hat6; have hz6 := HI.out.t6 hb5 hgr6 HROW.out; have hc6 : w6.cell? ⟨g + 1, 0, none⟩ = some v := block_cell hz6 0; have hf6 : w6.frozen? ⟨g + 1, 0, none⟩ = false := block_free hz6 0; have HSTEP := Lib.hid (HI.out.step hb5 hr4 hgr6 HROW.out 0 (.slice (some ⟨g6, 0, none⟩) (xs.length + 1) cap6)); have HOWN6 := Lib.hid (hown6.setCell (g := g + 1) (j := 0) (by omega) (.slice (some ⟨g6, 0, none⟩) (xs.length + 1) cap6)); clear hz6)
        | (go_simp; go_at_call 47; refine (readZone_any g S r b _ (HRR.out _) hsS).mono ?_; rintro e w4 ⟨v4, rfl, hown4, hr4, hb4⟩; have hb5 := hbD.trans hb4; have hc4 : w4.cell? ⟨g + 1, 0, none⟩ = some v := hb4.cell (HC.out _) (by simp); obtain ⟨A4, c4, rfl, hsl4⟩ := hown4.sl; have hs4 := hb5.size; have hc5 : ∀ o, (w4.alloc o).cell? ⟨g + 1, 0, none⟩ = some v := fun o => (World.cell?_alloc_past _ _ _ (by omega)).trans hc4; have HOWN : Hid (∀ o, Own Ty.zone 51 (w4.alloc o) (g + 2) v xs) := fun o => (HO.out.but hb5 (by omega)).alloc o; have HROW : Hid (∀ k, v.ownBlock = some k → g + 1 < k) := fun k hk => (HO.out.lt k hk).1; have HSEP : Hid (∀ o b, wr.heap.size ≤ b ∧ b < w4.heap.size → g + 2 ≤ b ∧ b < (w4.alloc o).heap.size ∧ some b ≠ v.ownBlock) := fun o b hb => ⟨by omega, by simp; omega, fun e => by have := (HO.out.lt b e.symm).2; omega⟩; have HREP : Hid (Ty.zone.rep (w4.alloc (.cells #[.string (rdZone r b).1.name, .int .i64 (rdZone r b).1.off, .slice A4 (rdZone r b).1.shifts.length c4] 51)) (fun b => wr.heap.size ≤ b ∧ b < w4.heap.size) [.string (rdZone r b).1.name, .int .i64 (rdZone r b).1.off, .slice A4 (rdZone r b).1.shifts.length c4] (rdZone r b).1 ∧ At (w4.alloc (.cells #[.string (rdZone r b).1.name, .int .i64 (rdZone r b).1.off, .slice A4 (rdZone r b).1.shifts.length c4] 51)) w4.heap.size 0 [.string (rdZone r b).1.name, .int .i64 (rdZone r b).1.off, .slice A4 (rdZone r b).1.shifts.length c4]) := ⟨⟨A4, _, c4, rfl, hsl4.keep fun b hb => Below.heap_alloc _ _ _ hb.2⟩, At.new _ _ _⟩; clear hown4 hsl4)
        | fail)
      all_goals
        go_wp2_with fail
        go_roundw
        case rel => exact ⟨k + 1, _, by omega, by go_num, by rw [HSN.out]; exact HSTEP.out, by rw [HSN.out]; exact HOWN6.out⟩
        case measure => simp [intOf]; omega
    · have hkm : k = k1 := by omega
      subst hkm
      simp only [Int.toNat_natCast] at HRD
      generalize rdMany rdZone k r0 b0 = qz at *
      obtain ⟨zs, r, b⟩ := qz
      simp only at hdi hown HRD
      obtain ⟨Az, cz, rfl, hslz⟩ := hown.sl
      have HBY2 := Lib.hid hdi.rd.by_
      have HI := Lib.hid hdi
      have HSLZ := Lib.hid hslz
      have hn := rdN_range (m := 64) b hdi.rd.by_ (by decide)
      clear hdi hown hslz hlt hk
      go_wp2_with fail
      refine (readerCountTo_any g S r b 64 wr HI.out.rd).mono ?_
      rintro e w2 ⟨rfl, hr2, hb2⟩
      have hdi2 := HI.out.call hb2 hr2
      have hszz := hdi2.lt
      have HSLZ2 : Hid (Sl Ty.zone w2 (fun b => g + 1 < b ∧ b < w2.heap.size) Az zs.length cz zs) := by
        refine (HSLZ.out.keep fun q hq => ?_).more fun q hq => ⟨by omega, by have := hb2.size; omega⟩
        exact hb2.block q hq.2 (by omega)
      clear hr2 hb2 HI HSLZ
      generalize rdN 64 r b = q1 at *
      obtain ⟨nn, r1, b1⟩ := q1
      simp only at hdi2 hn HRD
      obtain ⟨k2, rfl⟩ := Int.eq_ofNat_of_zero_le hn.1
      have hk2 : k2 ≤ 64 := by omega
      have HINV := Lib.hid hdi2
      clear hn hdi2
      go_wp2_with fail
      obtain ⟨wo, rfl⟩ : ∃ wo : World, wo = wr := ⟨_, rfl⟩
      generalize hH2 : w2.heap.size = H2 at *
      have hH2' : H2 ≤ w2.heap.size := by omega
      clear hH2
      go_loopw [44] (fun i wr => ∃ (k : Nat) (v : Value), k ≤ k2 ∧ i = .int .i64 k ∧ DI w g S (g + 1) wr #[.slice Az zs.length cz, v, .slice none 0 0] (rdMany rdAirport k r1 b1).2.1 (rdMany rdAirport k r1 b1).2.2 ∧ Own Ty.airport 66 wr H2 v (rdMany rdAirport k r1 b1).1 ∧ H2 ≤ wr.heap.size ∧ Sl Ty.zone wr (fun b => g + 1 < b ∧ b < H2) Az zs.length cz zs) (fun i _ => k2 - (intOf i).toNat)
      case atStart => exact ⟨0, _, Nat.zero_le _, rfl, HINV.out, Own.nil, hH2', HSLZ2.out⟩
      case round =>
        obtain ⟨k, v, hk, rfl, hdi, hown, hHs, hslz⟩ := hrel
        clear HINV HSLZ2 hH2'
        by_cases hlt : k < k2
        · have HSN : Hid (rdMany rdAirport (k + 1) r1 b1 = ((rdMany rdAirport k r1 b1).1 ++ [(rdAirport (rdMany rdAirport k r1 b1).2.1 (rdMany rdAirport k r1 b1).2.2).1], (rdAirport (rdMany rdAirport k r1 b1).2.1 (rdMany rdAirport k r1 b1).2.2).2.1, (rdAirport (rdMany rdAirport k r1 b1).2.1 (rdMany rdAirport k r1 b1).2.2).2.2)) := rfl
          have hlen := rdMany_len (f := rdAirport) k r1 b1
          have hll : (rdMany rdAirport k r1 b1).1.length ≤ 64 := by omega
          clear hlen
          generalize rdMany rdAirport k r1 b1 = q at *
          obtain ⟨xs, r, b⟩ := q
          simp only at hdi hown HSN hll
          have HAE : Hid (rdAirport r b = (⟨(rdT r b).1, (rdT (rdT r b).2.1 (rdT r b).2.2).1⟩, (rdT (rdT r b).2.1 (rdT r b).2.2).2)) := rfl
          have HC : Hid (∀ q, (wr.drewN q).cell? ⟨g + 1, 1, none⟩ = some v) := fun q => block_cell (w := wr.drewN q) hdi.t 1
          have hc1 : wr.cell? ⟨g + 1, 1, none⟩ = some v := block_cell hdi.t 1
          have HRR : Hid (∀ q, Rd (wr.drewN q) g S r b) := fun q => hdi.rd.frame (fun _ _ _ => rfl) (Nat.le_refl _)
          have HI := Lib.hid hdi
          have HO := Lib.hid hown
          have HSZ := Lib.hid hslz
          have hwsz := hdi.lt
          have hbD := (But.refl g wr).drewN 1
          have HROW0 : Hid (∀ k, v.ownBlock = some k → H2 ≤ k) := fun k hk => (HO.out.lt k hk).1
          have HROW : Hid (∀ k, v.ownBlock = some k → g + 1 < k) := fun k hk => by have := (HO.out.lt k hk).1; omega
          clear hdi hown hslz
          go_wp2_with fail
          go_region_law (first
            | (refine step_push rfl (.tmp 47) (.tmp 51) 24 rfl 32 elem_airport (by simp [Act.eval, Act.put]) (HOWN.out _) w5.heap.size ⟨(rdT r b).1, (rdT (rdT r b).2.1 (rdT r b).2.2).1⟩ (fun _ => False) (by simp [Act.eval, Act.put]) ⟨[.string (rdT r b).1, .string (rdT (rdT r b).2.1 (rdT r b).2.2).1], rfl, At.new w5 #[.string (rdT r b).1, .string (rdT (rdT r b).2.1 (rdT r b).2.2).1] _⟩ (fun _ h => h.elim) (by omega) (by decide) (by simp; omega) ?_; intro g6 cap6 w6 hown6 hgr6 hat6; have hz6 := HI.out.t6 hb7 hgr6 HROW.out; have hc6 : w6.cell? ⟨g + 1, 1, none⟩ = some v := block_cell hz6 1; have hf6 : w6.frozen? ⟨g + 1, 1, none⟩ = false := block_free hz6 1; have HSTEP := Lib.hid (HI.out.step hb7 hr5 hgr6 HROW.out 1 (.slice (some ⟨g6, 0, none⟩) (xs.length + 1) cap6)); have HOWN6 := Lib.hid (hown6.setCell (g := g + 1) (j := 1) (by omega) (.slice (some ⟨g6, 0, none⟩) (xs.length + 1) cap6)); have HS6 := Lib.hid (HSZ.out.keep (HI.out.mid hb7 hgr6 HROW0.out (by omega) hHs 1 (.slice (some ⟨g6, 0, none⟩) (xs.length + 1) cap6))); have hhs6 := hgr6.size; clear hz6)
            | (go_simp; go_at_call 48; refine (readerText_any g S _ _ _ hr4).mono ?_; rintro e w5 ⟨rfl, hr5, hb5⟩; have hc5 : w5.cell? ⟨g + 1, 1, none⟩ = some v := hb5.cell hc4 (by simp); have hb7 := (hbD.trans hb4).trans hb5; have hs5 := hb7.size; have hc5' : ∀ o, (w5.alloc o).cell? ⟨g + 1, 1, none⟩ = some v := fun o => (World.cell?_alloc_past _ _ _ (by omega)).trans hc5; have HOWN : Hid (∀ o, Own Ty.airport 66 (w5.alloc o) H2 v xs) := fun o => (HO.out.but hb7 (by omega)).alloc o)
            | (go_simp; go_at_call 48; refine (readerText_any g S r b _ (HRR.out _)).mono ?_; rintro e w4 ⟨rfl, hr4, hb4⟩; have hc4 : w4.cell? ⟨g + 1, 1, none⟩ = some v := hb4.cell (HC.out _) (by simp))
            | fail)
          all_goals
            go_wp2_with fail
            go_roundw
            case rel => exact ⟨k + 1, _, by omega, by go_num, by rw [HSN.out, HAE.out]; exact HSTEP.out, by rw [HSN.out, HAE.out]; exact HOWN6.out, by simp at hhs6; simp; omega, HS6.out⟩
            case measure => simp [intOf]; omega
        · have hkm : k = k2 := by omega
          subst hkm
          simp only [Int.toNat_natCast] at HRD
          generalize rdMany rdAirport k r1 b1 = qa at *
          obtain ⟨aps, r, b⟩ := qa
          simp only at hdi hown HRD
          obtain ⟨Aa, ca, rfl, hsla⟩ := hown.sl
          have HI := Lib.hid hdi
          have HSLA := Lib.hid hsla
          have HSLZ := Lib.hid hslz
          have hn := rdN_range (m := 200) b hdi.rd.by_ (by decide)
          clear hdi hown hsla hslz hlt hk
          go_wp2_with fail
          refine (readerCountTo_any g S r b 200 wr HI.out.rd).mono ?_
          rintro e w3 ⟨rfl, hr2, hb2⟩
          have hdi2 := HI.out.call hb2 hr2
          have hszz3 := hdi2.lt
          have hss := hb2.size
          have HSLA2 : Hid (Sl Ty.airport w3 (fun b => g + 1 < b ∧ b < w3.heap.size) Aa aps.length ca aps) := by
            refine (HSLA.out.keep fun q hq => ?_).more fun q hq => ⟨by omega, by omega⟩
            exact hb2.block q hq.2 (by omega)
          have HSLZ2 : Hid (Sl Ty.zone w3 (fun b => g + 1 < b ∧ b < w3.heap.size) Az zs.length cz zs) := by
            refine (HSLZ.out.keep fun q hq => ?_).more fun q hq => ⟨hq.1, by omega⟩
            exact hb2.block q (by omega) (by omega)
          clear hr2 hb2 HI HSLA HSLZ
          generalize rdN 200 r b = q1 at *
          obtain ⟨nn, r2, b2⟩ := q1
          simp only at hdi2 hn HRD
          obtain ⟨k3, rfl⟩ := Int.eq_ofNat_of_zero_le hn.1
          have hk3 : k3 ≤ 200 := by omega
          have HINV := Lib.hid hdi2
          clear hn hdi2
          go_wp2_with fail
          obtain ⟨wo2, rfl⟩ : ∃ wo : World, wo = wr := ⟨_, rfl⟩
          generalize hH3 : w3.heap.size = H3 at *
          have hH3' : H3 ≤ w3.heap.size := by omega
          clear hH3
          go_loopw [56] (fun i wr => ∃ (k : Nat) (v : Value), k ≤ k3 ∧ i = .int .i64 k ∧ DI w g S (g + 1) wr #[.slice Az zs.length cz, .slice Aa aps.length ca, v] (rdMany rdFlight k r2 b2).2.1 (rdMany rdFlight k r2 b2).2.2 ∧ Own Ty.flight 47 wr H3 v (rdMany rdFlight k r2 b2).1 ∧ H3 ≤ wr.heap.size ∧ Sl Ty.zone wr (fun b => g + 1 < b ∧ b < H3) Az zs.length cz zs ∧ Sl Ty.airport wr (fun b => g + 1 < b ∧ b < H3) Aa aps.length ca aps) (fun i _ => k3 - (intOf i).toNat)
          case atStart => exact ⟨0, _, Nat.zero_le _, rfl, HINV.out, Own.nil, hH3', HSLZ2.out, HSLA2.out⟩
          case round =>
            obtain ⟨k, v, hk, rfl, hdi, hown, hHs3, hslz, hsla⟩ := hrel
            clear HINV HSLZ2 HSLA2 hH3'
            by_cases hlt : k < k3
            · have HSN : Hid (rdMany rdFlight (k + 1) r2 b2 = ((rdMany rdFlight k r2 b2).1 ++ [(rdFlight (rdMany rdFlight k r2 b2).2.1 (rdMany rdFlight k r2 b2).2.2).1], (rdFlight (rdMany rdFlight k r2 b2).2.1 (rdMany rdFlight k r2 b2).2.2).2.1, (rdFlight (rdMany rdFlight k r2 b2).2.1 (rdMany rdFlight k r2 b2).2.2).2.2)) := rfl
              have hlen := rdMany_len (f := rdFlight) k r2 b2
              have hll : (rdMany rdFlight k r2 b2).1.length ≤ 200 := by omega
              clear hlen
              generalize rdMany rdFlight k r2 b2 = q at *
              obtain ⟨xs, r, b⟩ := q
              simp only at hdi hown HSN hll
              have HC : Hid (∀ q, (wr.drewN q).cell? ⟨g + 1, 2, none⟩ = some v) := fun q => block_cell (w := wr.drewN q) hdi.t 2
              have hc1 : wr.cell? ⟨g + 1, 2, none⟩ = some v := block_cell hdi.t 2
              have HRR : Hid (∀ q, Rd (wr.drewN q) g S r b) := fun q => hdi.rd.frame (fun _ _ _ => rfl) (Nat.le_refl _)
              have HI := Lib.hid hdi
              have HO := Lib.hid hown
              have HSZ := Lib.hid hslz
              have HSA := Lib.hid hsla
              have hwsz := hdi.lt
              have hsS := hdi.sS
              have hbD := (But.refl g wr).drewN 1
              have HROW0 : Hid (∀ k, v.ownBlock = some k → H3 ≤ k) := fun k hk => (HO.out.lt k hk).1
              have HROW : Hid (∀ k, v.ownBlock = some k → g + 1 < k) := fun k hk => by have := (HO.out.lt k hk).1; omega
              have HRF : Hid (∀ q, Calls Tryz.prog 49 #[.pointer (some ⟨g, 0, none⟩)] (wr.drewN q) (RFPost g S (wr.drewN q) (rdFlight r b).1 (rdFlight r b).2.1 (rdFlight r b).2.2)) := fun q => readFlight_any g S r b _ (HRR.out q) hsS
              generalize rdFlight r b = fq at *
              obtain ⟨fl, r5, b5⟩ := fq
              simp only at HRF HSN
              clear hdi hown hslz hsla
              go_wp2_with fail
              go_region_law (first
                | (refine step_push rfl (.tmp 59) (.tmp 61) 25 rfl 104 elem_flight (by simp [Act.eval, Act.put]) (HOWN.out _) w4.heap.size fl (fun _ => False) (by simp [Act.eval, Act.put]) ⟨flightCells fl, rfl, At.new w4 #[.string fl.number, .string fl.src, .string fl.dst, .int .i64 fl.dep, .int .i64 fl.arr, .string fl.kind, .int .i64 fl.n0, .int .i64 fl.n1, .int .i64 fl.n2] _⟩ (fun _ h => h.elim) (by omega) (by decide) (by simp; omega) ?_; intro g6 cap6 w6 hown6 hgr6 hat6; have hz6 := HI.out.t6 hb7 hgr6 HROW.out; have hc6 : w6.cell? ⟨g + 1, 2, none⟩ = some v := block_cell hz6 2; have hf6 : w6.frozen? ⟨g + 1, 2, none⟩ = false := block_free hz6 2; have HSTEP := Lib.hid (HI.out.step hb7 hr4 hgr6 HROW.out 2 (.slice (some ⟨g6, 0, none⟩) (xs.length + 1) cap6)); have HOWN6 := Lib.hid (hown6.setCell (g := g + 1) (j := 2) (by omega) (.slice (some ⟨g6, 0, none⟩) (xs.length + 1) cap6)); have HS6 := Lib.hid (HSZ.out.keep (HI.out.mid hb7 hgr6 HROW0.out (by omega) hHs3 2 (.slice (some ⟨g6, 0, none⟩) (xs.length + 1) cap6))); have HS7 := Lib.hid (HSA.out.keep (HI.out.mid hb7 hgr6 HROW0.out (by omega) hHs3 2 (.slice (some ⟨g6, 0, none⟩) (xs.length + 1) cap6))); have hhs6 := hgr6.size; clear hz6)
                | (go_simp; go_at_call 49; refine (HRF.out _).mono ?_; rintro e w4 ⟨rfl, hr4, hb4⟩; have hc4 : w4.cell? ⟨g + 1, 2, none⟩ = some v := hb4.cell (HC.out _) (by simp); have hb7 := hbD.trans hb4; have hs5 := hb7.size; have hc5' : ∀ o, (w4.alloc o).cell? ⟨g + 1, 2, none⟩ = some v := fun o => (World.cell?_alloc_past _ _ _ (by omega)).trans hc4; have HOWN : Hid (∀ o, Own Ty.flight 47 (w4.alloc o) H3 v xs) := fun o => (HO.out.but hb7 (by omega)).alloc o)
                | fail)
              all_goals
                go_wp2_with fail
                go_roundw
                case rel => exact ⟨k + 1, _, by omega, by go_num, by rw [HSN.out]; exact HSTEP.out, by rw [HSN.out]; exact HOWN6.out, by simp at hhs6; simp; omega, HS6.out, HS7.out⟩
                case measure => simp [intOf]; omega
            · have hkm : k = k3 := by omega
              subst hkm
              simp only [Int.toNat_natCast] at HRD
              generalize rdMany rdFlight k r2 b2 = qf at *
              obtain ⟨fs, r, b⟩ := qf
              simp only at hdi hown HRD
              rw [HRD.out] at HOK HT
              obtain ⟨Af, cf, rfl, hslf⟩ := hown.sl
              have hg1 := hdi.l1
              have HSL : Hid (Sl Ty.zone wr (fun b => w.heap.size < b ∧ b < wr.heap.size) Az zs.length cz zs ∧ Sl Ty.airport wr (fun b => w.heap.size < b ∧ b < wr.heap.size) Aa aps.length ca aps ∧ Sl Ty.flight wr (fun b => w.heap.size < b ∧ b < wr.heap.size) Af fs.length cf fs) :=
                ⟨hslz.more fun b hb => ⟨by omega, by omega⟩, hsla.more fun b hb => ⟨by omega, by omega⟩, hslf.more fun b hb => ⟨by omega, by omega⟩⟩
              have x0 : wr.cell? ⟨g + 1, 0, none⟩ = some (.slice Az zs.length cz) := block_cell hdi.t 0
              have x1 : wr.cell? ⟨g + 1, 1, none⟩ = some (.slice Aa aps.length ca) := block_cell hdi.t 1
              have x2 : wr.cell? ⟨g + 1, 2, none⟩ = some (.slice Af fs.length cf) := block_cell hdi.t 2
              have z0 : wr.cell? ⟨w.heap.size, 0, none⟩ = some (.slice none 0 0) := block_cell hdi.res 0
              have z1 : wr.cell? ⟨w.heap.size, 1, none⟩ = some (.slice none 0 0) := block_cell hdi.res 1
              have z2 : wr.cell? ⟨w.heap.size, 2, none⟩ = some (.slice none 0 0) := block_cell hdi.res 2
              have f0 : wr.frozen? ⟨w.heap.size, 0, none⟩ = false := block_free hdi.res 0
              have f1 : wr.frozen? ⟨w.heap.size, 1, none⟩ = false := block_free hdi.res 1
              have f2 : wr.frozen? ⟨w.heap.size, 2, none⟩ = false := block_free hdi.res 2
              have HDN := Lib.hid (readerDone_any g S r b wr hdi.rd)
              have hbel := hdi.bel
              have hDlt := hdi.lt
              have HI := Lib.hid hdi
              clear hdi hown hslz hsla hslf
              go_wp2_with fail
              refine HDN.out.mono ?_
              rintro e w9 ⟨rfl, rfl⟩
              clear HDN
              rcases Bool.eq_false_or_eq_true (doneB r b) with hd | hd
              case inr =>
                have HR : Hid (decTT bs = (noTT, 2)) := by show _ = _; rw [HT.out, if_pos hd]
                rw [hd]
                clear HT hd
                go_wp2_with fail
                refine bodyPost_ret (v := .tuple #[.agg #[.slice none 0 0, .slice none 0 0, .slice none 0 0], .int .i64 2]) (by simp [results, Tryz.results16, go_sem, z0, z1, z2]) rfl ?_
                rw [HR.out]
                exact HBAD.out _ _ (((hbel.setCell (Nat.le_refl _) _).setCell (Nat.le_refl _) _).setCell (Nat.le_refl _) _)
              rw [if_neg (by rw [hd]; simp)] at HT
              rw [hd]
              clear hd
              have HV := Lib.hid (validate_any ⟨zs, aps, fs⟩ Az Aa Af _ _ _ cz ca cf wr HOK.out (HSL.out.1.more fun b hb => hb.2) (HSL.out.2.1.more fun b hb => hb.2) (HSL.out.2.2.more fun b hb => hb.2))
              go_wp2_with fail
              refine HV.out.mono ?_
              rintro e w9 ⟨rfl, hb9⟩
              clear HV
              have hbF : Below w.heap.size w w9 := hbel.trans (hb9.mono hbel.size)
              have x0' := (cell_kept x0 hb9); have x1' := (cell_kept x1 hb9); have x2' := (cell_kept x2 hb9)
              have z0' := (cell_kept z0 hb9); have z1' := (cell_kept z1 hb9); have z2' := (cell_kept z2 hb9)
              have f0' : w9.frozen? ⟨w.heap.size, 0, none⟩ = false := (hb9.frozen (by show w.heap.size < _; omega)).trans f0
              have f1' : w9.frozen? ⟨w.heap.size, 1, none⟩ = false := (hb9.frozen (by show w.heap.size < _; omega)).trans f1
              have f2' : w9.frozen? ⟨w.heap.size, 2, none⟩ = false := (hb9.frozen (by show w.heap.size < _; omega)).trans f2
              clear x0 x1 x2 z0 z1 z2 f0 f1 f2
              by_cases hv : ttE ⟨zs, aps, fs⟩ = 0
              · have HR : Hid (decTT bs = (⟨zs, aps, fs⟩, 0)) := by show _ = _; rw [HT.out, if_neg (by simpa using hv)]
                rw [hv]
                clear HT hv
                go_wp2_with fail
                refine bodyPost_ret (v := .tuple #[.agg #[.slice Az zs.length cz, .slice Aa aps.length ca, .slice Af fs.length cf], .int .i64 0]) (by simp [results, Tryz.results16, go_sem, z0', z1', z2']) rfl ?_
                rw [HR.out]
                have hk9 : ∀ q, (w.heap.size < q ∧ q < wr.heap.size) → ∀ a b c, (((w9.setCell ⟨w.heap.size, 0, none⟩ a).setCell ⟨w.heap.size, 1, none⟩ b).setCell ⟨w.heap.size, 2, none⟩ c).heap[q]? = wr.heap[q]? := fun q hq a b c => by
                  rw [heap_setCell_other _ _ _ _ (by simp; omega), heap_setCell_other _ _ _ _ (by simp; omega), heap_setCell_other _ _ _ _ (by simp; omega), hb9.block q hq.2]
                have hs9 := hb9.size
                refine ⟨Az, _, cz, Aa, _, ca, Af, _, cf, rfl, ?_, ?_, ?_, ((hbF.setCell (Nat.le_refl _) _).setCell (Nat.le_refl _) _).setCell (Nat.le_refl _) _⟩
                · exact (HSL.out.1.keep fun q hq => hk9 q hq _ _ _).more fun q hq => ⟨by omega, by simp; omega⟩
                · exact (HSL.out.2.1.keep fun q hq => hk9 q hq _ _ _).more fun q hq => ⟨by omega, by simp; omega⟩
                · exact (HSL.out.2.2.keep fun q hq => hk9 q hq _ _ _).more fun q hq => ⟨by omega, by simp; omega⟩
              · have hv' : (ttE ⟨zs, aps, fs⟩ != 0) = true := by simpa using hv
                have HR : Hid (decTT bs = (noTT, ttE ⟨zs, aps, fs⟩)) := by show _ = _; rw [HT.out, if_pos hv]
                clear HT hv
                generalize ttE ⟨zs, aps, fs⟩ = ev at *
                go_wp2_with fail
                refine bodyPost_ret (v := .tuple #[.agg #[.slice none 0 0, .slice none 0 0, .slice none 0 0], .int .i64 ev]) (by simp [results, Tryz.results16, go_sem, z0', z1', z2']) rfl ?_
                rw [HR.out]
                exact HBAD.out _ _ (((hbF.setCell (Nat.le_refl _) _).setCell (Nat.le_refl _) _).setCell (Nat.le_refl _) _)
end Go.Proofs.YtldeoaddogifpaaGreatDoor
