/-
  Contract of the reference's Body (package pairingref9): the bytes of a timetable.
  Condition: the timetable's numbers and lengths are small.
-/
import Derived.Test.YtldeoaddogifpaaGreatDoorRef8Enc
import Derived.Test.YtldeoaddogifpaaGreatDoorTTBody
import Derived.Test.YtldeoaddogifpaaGreatDoorCrc
import Derived.Test.YtldeoaddogifpaaGreatDoorTTMem
import Derived.Test.YtldeoaddogifpaaGreatDoorTTEncode
import Derived.Deep.RegionLaw
import Derived.Deep.DeepCutAuto
namespace Go.Proofs.YtldeoaddogifpaaGreatDoor
set_option linter.unusedSimpArgs false
set_option linter.unusedVariables false
open Go.RowKit

theorem box_grown {α : Type} {t : Ty α} {e T : TypeId} {w w' : World} {base b : Nat} {v : Value} {xs : List α} {cs : Array Value} (h : Own t e w base v xs) (hb : w.heap[b]? = some (.cells cs T (0, 0))) (hT : T ≠ e) (hg : w.grownBy w' v.ownBlock) : w'.heap[b]? = some (.cells cs T (0, 0)) :=
  (hg.block b (Array.getElem?_eq_some_iff.1 hb).1 (own_box_ne h hb hT)).trans hb
/-- The row v of the bytes bs, made behind the block g; nothing up to g has changed since w0. -/
structure RW (g : Nat) (w0 w : World) (v : Value) (bs : List Int) : Prop where
  own : Own (Ty.int .u8) 5 w (g + 1) v bs
  bel : Below (g + 1) w0 w
  le : g + 1 ≤ w.heap.size
section
variable {g : Nat} {w0 w w' : World} {v v' : Value} {bs bs' : List Int}
theorem RW.step (h : RW g w0 w v bs) (ho : Own (Ty.int .u8) 5 w' (g + 1) v' bs') (hg : w.grownBy w' v.ownBlock) : RW g w0 w' v' bs' :=
  ⟨ho, h.bel.grown hg h.le fun k hk => (h.own.lt k hk).1, Nat.le_trans h.le hg.size⟩
theorem RW.next (h : RW g w0 w v bs) (hb : Below w.heap.size w w') : RW g w0 w' v bs := ⟨h.own.next hb, h.bel.trans (hb.mono h.le), Nat.le_trans h.le hb.size⟩
theorem RW.alloc (h : RW g w0 w v bs) (o : Obj) : RW g w0 (w.alloc o) v bs := h.next ((Below.refl _ _).alloc (Nat.le_refl _) o)
theorem RW.drewN (h : RW g w0 w v bs) (n : Nat) : RW g w0 (w.drewN n) v bs := h.next (below_drewN (Below.refl _ _) n)
def RWPost (g : Nat) (w0 w : World) (v : Value) (bs : List Int) (e : Ending) (w' : World) : Prop := ∃ v', e = .returned v' ∧ RW g w0 w' v' bs ∧ w.grownBy w' v.ownBlock
theorem rUint (n : Int) (h : RW g w0 w v bs) (hl : bs.length < 900000000) (h0 : 0 ≤ n) (h1 : n ≤ 4611686018427387904) : Calls Tryz.prog 68 #[v, .int .i64 n] w (RWPost g w0 w v (bs ++ uvar n)) :=
  (refUint_any (g + 1) v bs n w h.own h.le hl h0 h1).mono fun _ _ ⟨v', he, h2, h3⟩ => ⟨v', he, h.step h2 h3, h3⟩
theorem rInt (n : Int) (h : RW g w0 w v bs) (hl : bs.length < 900000000) (h0 : -2305843009213693952 ≤ n) (h1 : n ≤ 2305843009213693952) : Calls Tryz.prog 69 #[v, .int .i64 n] w (RWPost g w0 w v (bs ++ uvar (zig n))) :=
  (refInt_any (g + 1) v bs n w h.own h.le hl h0 h1).mono fun _ _ ⟨v', he, h2, h3⟩ => ⟨v', he, h.step h2 h3, h3⟩
theorem rText (s : ByteArray) (h : RW g w0 w v bs) (hl : bs.length < 900000000) (h1 : s.size ≤ 20000) : Calls Tryz.prog 70 #[v, .string s] w (RWPost g w0 w v (bs ++ textB s)) :=
  (refText_any (g + 1) v bs s w h.own h.le hl h1).mono fun _ _ ⟨v', he, h2, h3⟩ => ⟨v', he, h.step h2 h3, h3⟩
end

set_option maxRecDepth 100000 in
set_option maxHeartbeats 3200000 in
theorem refBody_any (t : GTT) (A1 A2 A3 : Option Addr) (n1 n2 n3 c1 c2 c3 : Nat) (w : World) (hf : t.fine) (hs1 : Sl Ty.zone w (all_ w) A1 n1 c1 t.zones) (hs2 : Sl Ty.airport w (all_ w) A2 n2 c2 t.airports) (hs3 : Sl Ty.flight w (all_ w) A3 n3 c3 t.flights) :
    Calls Tryz.prog 27 #[.agg #[.slice A1 n1 c1, .slice A2 n2 c2, .slice A3 n3 c3]] w (NewRow (bodyB t) w) := by
  have e1 : n1 ≤ t.zones.length := Nat.le_of_eq hs1.len
  have e1' : t.zones.length ≤ n1 := Nat.le_of_eq hs1.len.symm
  have e2 : n2 ≤ t.airports.length := Nat.le_of_eq hs2.len
  have e2' : t.airports.length ≤ n2 := Nat.le_of_eq hs2.len.symm
  have e3 : n3 ≤ t.flights.length := Nat.le_of_eq hs3.len
  have e3' : t.flights.length ≤ n3 := Nat.le_of_eq hs3.len.symm
  have b1 := hf.l1; have b2 := hf.l2; have b3 := hf.l3
  have HFI := Lib.hid hf
  have hB0 := (Below.refl w.heap.size w).alloc (Nat.le_refl _) (.cells #[.slice A1 n1 c1, .slice A2 n2 c2, .slice A3 n3 c3] 27)
  have hx0 := heap_alloc_new w (.cells #[.slice A1 n1 c1, .slice A2 n2 c2, .slice A3 n3 c3] 27)
  have hz0 : (w.alloc (.cells #[.slice A1 n1 c1, .slice A2 n2 c2, .slice A3 n3 c3] 27)).heap.size = w.heap.size + 1 := by simp
  -- what every later world keeps
  have HX : Hid (∀ V, Below (w.heap.size + 1) (w.alloc (.cells #[.slice A1 n1 c1, .slice A2 n2 c2, .slice A3 n3 c3] 27)) V → V.heap[w.heap.size]? = some (.cells #[.slice A1 n1 c1, .slice A2 n2 c2, .slice A3 n3 c3] 27 (0, 0)) ∧ Below w.heap.size w V ∧ Sl Ty.zone V (all_ w) A1 n1 c1 t.zones ∧ Sl Ty.airport V (all_ w) A2 n2 c2 t.airports ∧ Sl Ty.flight V (all_ w) A3 n3 c3 t.flights) := fun V hV => by
    have hb : Below w.heap.size w V := hB0.trans (hV.mono (by omega))
    exact ⟨(hV.block _ (by omega)).trans hx0, hb, hs1.keep (all_keep hb), hs2.keep (all_keep hb), hs3.keep (all_keep hb)⟩
  have hrw0 : RW w.heap.size (w.alloc (.cells #[.slice A1 n1 c1, .slice A2 n2 c2, .slice A3 n3 c3] 27)) (w.alloc (.cells #[.slice A1 n1 c1, .slice A2 n2 c2, .slice A3 n3 c3] 27)) (.slice none 0 0) [] := ⟨Own.nil, Below.refl _ _, by simp⟩
  clear hf hs1 hs2 hs3 hB0 hx0 hz0
  go_enter Tryz.func27, Tryz.ntmps27
  go_wp2_with fail
  generalize w.alloc (.cells #[.slice A1 n1 c1, .slice A2 n2 c2, .slice A3 n3 c3] 27) = W at *
  refine (rUint (n1 : Int) hrw0 (by simp) (by omega) (by omega)).mono ?_
  rintro e w2 ⟨v2, rfl, hrw2, -⟩
  rw [List.nil_append] at hrw2
  clear hrw0
  go_wp2_with fail
  go_loopw [3, 4] (fun sb i wr => ∃ (k : Nat), k ≤ n1 ∧ i = .int .i64 k ∧ RW w.heap.size W wr sb (uvar n1 ++ (t.zones.take k).flatMap zoneB)) (fun _ i _ => n1 - (intOf i).toNat)
  case atStart => exact ⟨0, Nat.zero_le _, rfl, by simpa using hrw2⟩
  case round =>
    obtain ⟨k, hk, rfl, hrw⟩ := hrel
    clear hrw2
    have hlen : (uvar n1 ++ (t.zones.take k).flatMap zoneB).length ≤ 7000 := by
      have := flatMap_take_len (f := zoneB) (M := 400) (fun x hx => zoneB_len (HFI.out.z x hx)) k
      have := uvar_len n1
      rw [List.length_append]
      omega
    have x0 : wr.cell? ⟨w.heap.size, 0, none⟩ = some (.slice A1 n1 c1) := block_cell (HX.out wr hrw.bel).1 0
    by_cases hlt : k < n1
    · have hks : k < t.zones.length := by omega
      obtain ⟨b, o, A', n', c', rfl, hbS, y0, y1, y2, hsh⟩ := (HX.out wr hrw.bel).2.2.1.zone_at hks
      have hzf := HFI.out.z _ (getD_mem hks noZone)
      have HSN : Hid (uvar n1 ++ (t.zones.take (k + 1)).flatMap zoneB = uvar n1 ++ (t.zones.take k).flatMap zoneB ++ zoneB (t.zones.getD k noZone)) := by
        show _ = _
        rw [flatMap_take zoneB hks noZone, List.append_assoc]
      generalize t.zones.getD k noZone = z at *
      obtain ⟨hz1, hz2, hz3, hz4⟩ := hzf
      have HZ4 := Lib.hid hz4
      have m1 : n' ≤ z.shifts.length := Nat.le_of_eq hsh.len
      have m2 : z.shifts.length ≤ n' := Nat.le_of_eq hsh.len.symm
      have HZB : Hid (zoneB z = textB z.name ++ uvar (zig z.off) ++ uvar n' ++ z.shifts.flatMap shiftB) := by
        show _ = _
        rw [hsh.len]; rfl
      have HSQ : Hid (∀ V, Below (w.heap.size + 1) W V → Sl Ty.shift V (all_ w) A' n' c' z.shifts) := fun V hV => by
        have h1 := (HX.out wr hrw.bel).2.1
        have h2 := (HX.out V hV).2.1
        exact hsh.keep fun q hq => (h2.block q hq).trans (h1.block q hq).symm
      generalize uvar n1 ++ (t.zones.take k).flatMap zoneB = pre at *
      have hra := hrw.alloc (.cells #[.string z.name, .int .i64 z.off, .slice A' n' c'] 51)
      have hbx := heap_alloc_new wr (.cells #[.string z.name, .int .i64 z.off, .slice A' n' c'] 51)
      clear hz4 hsh hbS hrw
      go_upto_region 6 with (fail)
      clear y0 y1 y2 x0
      generalize wr.alloc (.cells #[.string z.name, .int .i64 z.off, .slice A' n' c'] 51) = V at *
      generalize wr.heap.size = zb at *
      have HBX := Lib.hid hbx
      have q0 : V.cell? ⟨zb, 0, none⟩ = some (.string z.name) := block_cell hbx 0
      have q1 : V.cell? ⟨zb, 1, none⟩ = some (.int .i64 z.off) := block_cell hbx 1
      have t2 := textB_le hz1
      have t3 := uvar_len (zig z.off)
      have t4 := uvar_len n'
      have hrd := Lib.hid (hra.drewN 1)
      have hlp : pre.length ≤ 7000 := hlen
      clear hbx hra hlen
      go_cut [3] (fun sb wx => ∃ vb, sb = vb ∧ RW w.heap.size W wx vb (pre ++ textB z.name ++ uvar (zig z.off)) ∧ wx.heap[zb]? = some (.cells #[.string z.name, .int .i64 z.off, .slice A' n' c'] 51 (0, 0)))
      case first =>
        go_region_law (first
          | (go_simp; go_at_call 70; refine (rText z.name hrd.out (by omega) (by omega)).mono ?_; rintro e wa ⟨va, rfl, hwa, hga⟩; have hza := box_grown hrd.out.own HBX.out (by decide) hga; have q1' : wa.cell? ⟨zb, 1, none⟩ = some (.int .i64 z.off) := block_cell hza 1)
          | (go_simp; go_at_call 69; refine (rInt z.off hwa (by simp; omega) (by omega) (by omega)).mono ?_; rintro e wb ⟨vb, rfl, hwb, hgb⟩; have hzb := box_grown hwa.own hza (by decide) hgb)
          | fail)
        all_goals
          go_wp2_with fail
          go_meet
          exact ⟨vb, rfl, hwb, hzb⟩
      case rest =>
        obtain ⟨vb, rfl, hwb, hzb⟩ := hcut
        clear q0 q1 hrd HBX
        have q2 : wc.cell? ⟨zb, 2, none⟩ = some (.slice A' n' c') := block_cell hzb 2
        have HZB2 := Lib.hid hzb
        clear hzb
        go_wp2_with fail
        refine (rUint (n' : Int) hwb (by simp; omega) (by omega) (by omega)).mono ?_
        rintro e w4 ⟨v4, rfl, hw4, hg4⟩
        have hz4 := box_grown hwb.own HZB2.out (by decide) hg4
        have hl4 : (pre ++ textB z.name ++ uvar (zig z.off) ++ uvar n').length ≤ 7100 := by simp only [List.length_append]; omega
        generalize hp4 : pre ++ textB z.name ++ uvar (zig z.off) ++ uvar n' = pre4 at *
        have HFIN : Hid (pre4 ++ z.shifts.flatMap shiftB = pre ++ zoneB z) := by
          show _ = _
          rw [HZB.out, ← hp4]
          simp only [List.append_assoc]
        clear hwb hg4 q2 hp4 HZB HZB2
        go_wp2_with fail
        go_loopw [3, 6] (fun sb i wq => ∃ (j : Nat), j ≤ n' ∧ i = .int .i64 j ∧ RW w.heap.size W wq sb (pre4 ++ (z.shifts.take j).flatMap shiftB) ∧ wq.heap[zb]? = some (.cells #[.string z.name, .int .i64 z.off, .slice A' n' c'] 51 (0, 0))) (fun _ i _ => n' - (intOf i).toNat)
        case atStart => exact ⟨0, Nat.zero_le _, rfl, by simpa using hw4, hz4⟩
        case round =>
          obtain ⟨j, hj, rfl, hrw, hzb⟩ := hrel
          clear hw4 hz4
          have q2 : wr.cell? ⟨zb, 2, none⟩ = some (.slice A' n' c') := block_cell hzb 2
          have hlen2 : (pre4 ++ (z.shifts.take j).flatMap shiftB).length ≤ 7500 := by
            have := flatMap_take_len (f := shiftB) (M := 20) (l := z.shifts) (fun x hx => shiftB_len x) j
            rw [List.length_append]
            omega
          by_cases hlt2 : j < n'
          · have hjs : j < z.shifts.length := by omega
            obtain ⟨bs, os, rfl, _, y0, y1⟩ := (HSQ.out wr hrw.bel).shift_at hjs
            have hsf := HZ4.out _ (getD_mem hjs noShift)
            have HSN2 : Hid (pre4 ++ (z.shifts.take (j + 1)).flatMap shiftB = pre4 ++ (z.shifts.take j).flatMap shiftB ++ shiftB (z.shifts.getD j noShift)) := by
              show _ = _
              rw [flatMap_take shiftB hjs noShift, List.append_assoc]
            have HSQ' : Hid (∀ V, Below (w.heap.size + 1) W V → V.cell? ⟨bs, os + j * 2, none⟩ = some (.int .i64 (z.shifts.getD j noShift).at_) ∧ V.cell? ⟨bs, os + j * 2 + 1, none⟩ = some (.int .i64 (z.shifts.getD j noShift).off)) := fun V hV => by
              obtain ⟨b', o', e', _, y0', y1'⟩ := (HSQ.out V hV).shift_at hjs
              injection e' with e'
              injection e' with e1 e2
              subst e1 e2
              exact ⟨y0', y1'⟩
            generalize z.shifts.getD j noShift = sh at *
            obtain ⟨hs1, hs2⟩ := hsf
            have u1 := uvar_len sh.at_
            have u2 := uvar_len (zig sh.off)
            have HSB : Hid (shiftB sh = uvar sh.at_ ++ uvar (zig sh.off)) := rfl
            generalize pre4 ++ (z.shifts.take j).flatMap shiftB = pre5 at *
            have hrd := Lib.hid (hrw.drewN 1)
            have HZ9 := Lib.hid hzb
            have hjn : (j : Int) < (n' : Int) := by omega
            have hj0 : (0 : Int) ≤ (j : Int) := by omega
            clear hzb hrw
            have HN : Hid (∀ V v9, RW w.heap.size W V v9 (pre5 ++ uvar sh.at_ ++ uvar (zig sh.off)) → RW w.heap.size W V v9 (pre4 ++ (z.shifts.take (j + 1)).flatMap shiftB)) := fun V v9 h9 => by
              rw [HSN2.out, HSB.out, ← List.append_assoc]
              exact h9
            go_wp2_with fail
            go_region_law (first
              | (go_simp; go_at_call 68; refine (rUint sh.at_ hrd.out (by omega) (by omega) (by omega)).mono ?_; rintro e wa ⟨va, rfl, hwa, hga⟩; have hza := box_grown hrd.out.own HZ9.out (by decide) hga; have q2' : wa.cell? ⟨zb, 2, none⟩ = some (.slice (some ⟨bs, os, none⟩) n' c') := block_cell hza 2; have y0' := (HSQ'.out wa hwa.bel).1; have y1' := (HSQ'.out wa hwa.bel).2)
              | (go_simp; go_at_call 69; refine (rInt sh.off hwa (by simp; omega) (by omega) (by omega)).mono ?_; rintro e wb ⟨vb, rfl, hwb, hgb⟩; have hzb := box_grown hwa.own hza (by decide) hgb)
              | fail)
            all_goals
              have hfin := HN.out _ _ hwb
              clear hwb hwa
              go_wp2_with fail
              go_roundw
              case rel => exact ⟨j + 1, by omega, by go_num, hfin, hzb⟩
              case measure => simp [intOf]; omega
          · have HN : Hid (RW w.heap.size W wr u3 (uvar n1 ++ (t.zones.take (k + 1)).flatMap zoneB)) := by
              show RW _ _ _ _ _
              rw [HSN.out, ← HFIN.out]
              have : z.shifts.take j = z.shifts := List.take_of_length_le (by omega)
              rw [this] at hrw
              exact hrw
            clear hrw
            go_wp2_with fail
            go_roundw
            case rel => exact ⟨k + 1, by omega, by go_num, HN.out⟩
            case measure => simp [intOf]; omega
    · have HZE : Hid (RW w.heap.size W wr u3 (uvar n1 ++ t.zones.flatMap zoneB)) := by
        have : t.zones.take k = t.zones := List.take_of_length_le (by omega)
        rw [this] at hrw
        exact hrw
      have x1 : wr.cell? ⟨w.heap.size, 1, none⟩ = some (.slice A2 n2 c2) := block_cell (HX.out wr hrw.bel).1 1
      have hlz : (uvar n1 ++ t.zones.flatMap zoneB).length ≤ 7000 := by
        have := flatMap_len (f := zoneB) (M := 400) (l := t.zones) (fun x hx => zoneB_len (HFI.out.z x hx))
        have := uvar_len n1
        rw [List.length_append]
        omega
      clear hrw hlen
      generalize hpz : uvar n1 ++ t.zones.flatMap zoneB = preZ at *
      have HPZ := Lib.hid hpz
      clear hpz
      have ua := uvar_len n2
      go_wp2_with fail
      refine (rUint (n2 : Int) HZE.out (by omega) (by omega) (by omega)).mono ?_
      rintro e w3 ⟨v3, rfl, hrw3, -⟩
      clear HZE x0 x1
      go_wp2_with fail
      go_loopw [3, 7] (fun sb i wq => ∃ (j : Nat), j ≤ n2 ∧ i = .int .i64 j ∧ RW w.heap.size W wq sb (preZ ++ uvar n2 ++ (t.airports.take j).flatMap airportB)) (fun _ i _ => n2 - (intOf i).toNat)
      case atStart => exact ⟨0, Nat.zero_le _, rfl, by simpa using hrw3⟩
      case round =>
        obtain ⟨j, hj, rfl, hrw⟩ := hrel
        clear hrw3
        have hlen : (preZ ++ uvar n2 ++ (t.airports.take j).flatMap airportB).length ≤ 11000 := by
          have := flatMap_take_len (f := airportB) (M := 52) (l := t.airports) (fun x hx => airportB_len (HFI.out.a x hx)) j
          rw [List.length_append, List.length_append]
          omega
        have x1 : wr.cell? ⟨w.heap.size, 1, none⟩ = some (.slice A2 n2 c2) := block_cell (HX.out wr hrw.bel).1 1
        by_cases hlt2 : j < n2
        · have hjs : j < t.airports.length := by omega
          obtain ⟨b, o, rfl, _, y0, y1⟩ := (HX.out wr hrw.bel).2.2.2.1.airport_at hjs
          have haf := HFI.out.a _ (getD_mem hjs noAirport)
          have HSN2 : Hid (preZ ++ uvar n2 ++ (t.airports.take (j + 1)).flatMap airportB = preZ ++ uvar n2 ++ (t.airports.take j).flatMap airportB ++ airportB (t.airports.getD j noAirport)) := by
            show _ = _
            rw [flatMap_take airportB hjs noAirport]
            simp only [List.append_assoc]
          have HSQ' : Hid (∀ V, Below (w.heap.size + 1) W V → V.cell? ⟨w.heap.size, 1, none⟩ = some (.slice (some ⟨b, o, none⟩) n2 c2) ∧ V.cell? ⟨b, o + j * 2, none⟩ = some (.string (t.airports.getD j noAirport).code) ∧ V.cell? ⟨b, o + j * 2 + 1, none⟩ = some (.string (t.airports.getD j noAirport).zone)) := fun V hV => by
            obtain ⟨b', o', e', _, y0', y1'⟩ := (HX.out V hV).2.2.2.1.airport_at hjs
            injection e' with e'
            injection e' with e1 e2
            subst e1 e2
            exact ⟨block_cell (HX.out V hV).1 1, y0', y1'⟩
          generalize t.airports.getD j noAirport = ap at *
          obtain ⟨ha1, ha2⟩ := haf
          have u1 := textB_le ha1
          have u2 := textB_le ha2
          have HSB : Hid (airportB ap = textB ap.code ++ textB ap.zone) := rfl
          generalize preZ ++ uvar n2 ++ (t.airports.take j).flatMap airportB = pre5 at *
          have hrd := Lib.hid (hrw.drewN 1)
          have hjn : (j : Int) < (n2 : Int) := by omega
          have hj0 : (0 : Int) ≤ (j : Int) := by omega
          have HN : Hid (∀ V v9, RW w.heap.size W V v9 (pre5 ++ textB ap.code ++ textB ap.zone) → RW w.heap.size W V v9 (preZ ++ uvar n2 ++ (t.airports.take (j + 1)).flatMap airportB)) := fun V v9 h9 => by
            rw [HSN2.out, HSB.out, ← List.append_assoc]
            exact h9
          have tok1 : True := trivial
          clear hrw
          go_wp2_with fail
          go_region_law (first
            | (go_simp; go_at_call 70; have _t1 := tok1; refine (rText ap.code hrd.out (by omega) (by omega)).mono ?_; rintro e wa ⟨va, rfl, hwa, hga⟩; have x1' := (HSQ'.out wa hwa.bel).1; have y0' := (HSQ'.out wa hwa.bel).2.1; have y1' := (HSQ'.out wa hwa.bel).2.2; clear tok1)
            | (go_simp; go_at_call 70; refine (rText ap.zone hwa (by simp; omega) (by omega)).mono ?_; rintro e wb ⟨vb, rfl, hwb, hgb⟩)
            | fail)
          all_goals
            have hfin := HN.out _ _ hwb
            clear hwb hwa
            go_wp2_with fail
            go_roundw
            case rel => exact ⟨j + 1, by omega, by go_num, hfin⟩
            case measure => simp [intOf]; omega
        · have HAE : Hid (RW w.heap.size W wr u3 (preZ ++ uvar n2 ++ t.airports.flatMap airportB)) := by
            have : t.airports.take j = t.airports := List.take_of_length_le (by omega)
            rw [this] at hrw
            exact hrw
          have x2 : wr.cell? ⟨w.heap.size, 2, none⟩ = some (.slice A3 n3 c3) := block_cell (HX.out wr hrw.bel).1 2
          have hla : (preZ ++ uvar n2 ++ t.airports.flatMap airportB).length ≤ 11000 := by
            have : t.airports.take j = t.airports := List.take_of_length_le (by omega)
            rw [this] at hlen
            exact hlen
          clear hrw hlen
          generalize hpa : preZ ++ uvar n2 ++ t.airports.flatMap airportB = preA at *
          have HPA := Lib.hid hpa
          clear hpa
          have uf := uvar_len n3
          go_wp2_with fail
          refine (rUint (n3 : Int) HAE.out (by omega) (by omega) (by omega)).mono ?_
          rintro e w4 ⟨v4, rfl, hrw4, -⟩
          clear HAE x1 x2
          go_wp2_with fail
          go_loopw [3, 8] (fun sb i wq => ∃ (j : Nat), j ≤ n3 ∧ i = .int .i64 j ∧ RW w.heap.size W wq sb (preA ++ uvar n3 ++ (t.flights.take j).flatMap flightB)) (fun _ i _ => n3 - (intOf i).toNat)
          case atStart => exact ⟨0, Nat.zero_le _, rfl, by simpa using hrw4⟩
          case round =>
            obtain ⟨q, hq, rfl, hrw⟩ := hrel
            clear hrw4
            have hlen : (preA ++ uvar n3 ++ (t.flights.take q).flatMap flightB).length ≤ 52000 := by
              have := flatMap_take_len (f := flightB) (M := 200) (l := t.flights) (fun x hx => flightB_len (HFI.out.f x hx)) q
              rw [List.length_append, List.length_append]
              omega
            have x2 : wr.cell? ⟨w.heap.size, 2, none⟩ = some (.slice A3 n3 c3) := block_cell (HX.out wr hrw.bel).1 2
            by_cases hlt3 : q < n3
            · have hqs : q < t.flights.length := by omega
              obtain ⟨b, o, rfl, _, hat⟩ := (HX.out wr hrw.bel).2.2.2.2.flight_at hqs
              have hff := HFI.out.f _ (getD_mem hqs noFlight)
              have HSN3 : Hid (preA ++ uvar n3 ++ (t.flights.take (q + 1)).flatMap flightB = preA ++ uvar n3 ++ (t.flights.take q).flatMap flightB ++ flightB (t.flights.getD q noFlight)) := by
                show _ = _
                rw [flatMap_take flightB hqs noFlight]
                simp only [List.append_assoc]
              generalize t.flights.getD q noFlight = f at *
              have y0 : wr.cell? ⟨b, o + q * 9, none⟩ = some (.string f.number) := hat 0 _ rfl
              have y1 := hat 1 _ rfl; have y2 := hat 2 _ rfl; have y3 := hat 3 _ rfl; have y4 := hat 4 _ rfl; have y5 := hat 5 _ rfl; have y6 := hat 6 _ rfl; have y7 := hat 7 _ rfl; have y8 := hat 8 _ rfl
              obtain ⟨hf1, hf2, hf3, hf4, hf5, hf6, hf7, hf8, hf9⟩ := hff
              have HFB : Hid (flightB f = textB f.number ++ textB f.src ++ textB f.dst ++ uvar f.dep ++ uvar f.arr ++ textB f.kind ++ uvar f.n0 ++ uvar f.n1 ++ uvar f.n2) := rfl
              generalize preA ++ uvar n3 ++ (t.flights.take q).flatMap flightB = pre at *
              have hra := hrw.alloc (.cells #[.string f.number, .string f.src, .string f.dst, .int .i64 f.dep, .int .i64 f.arr, .string f.kind, .int .i64 f.n0, .int .i64 f.n1, .int .i64 f.n2] 47)
              have hbx := heap_alloc_new wr (.cells #[.string f.number, .string f.src, .string f.dst, .int .i64 f.dep, .int .i64 f.arr, .string f.kind, .int .i64 f.n0, .int .i64 f.n1, .int .i64 f.n2] 47)
              clear hat hrw
              go_upto_region 22 with (fail)
              clear y0 y1 y2 y3 y4 y5 y6 y7 y8 x2
              generalize wr.alloc (.cells #[.string f.number, .string f.src, .string f.dst, .int .i64 f.dep, .int .i64 f.arr, .string f.kind, .int .i64 f.n0, .int .i64 f.n1, .int .i64 f.n2] 47) = V at *
              generalize wr.heap.size = fb at *
              have HBX := Lib.hid hbx
              have q0 : V.cell? ⟨fb, 0, none⟩ = some (.string f.number) := block_cell hbx 0
              have q1 : V.cell? ⟨fb, 1, none⟩ = some (.string f.src) := block_cell hbx 1
              have q2 : V.cell? ⟨fb, 2, none⟩ = some (.string f.dst) := block_cell hbx 2
              have t1 := textB_le hf1; have t2 := textB_le hf2; have t3 := textB_le hf3; have t4 := textB_le hf4
              have t5 := uvar_len f.dep; have t6 := uvar_len f.arr; have t7 := uvar_len f.n0; have t8 := uvar_len f.n1; have t9 := uvar_len f.n2
              have hrd := Lib.hid (hra.drewN 1)
              have hlp : pre.length ≤ 52000 := hlen
              have tok1 : True := trivial
              have tok2 : True := trivial
              clear hbx hra hlen
              go_cut [3] (fun sb wx => RW w.heap.size W wx sb (pre ++ textB f.number ++ textB f.src ++ textB f.dst) ∧ wx.heap[fb]? = some (.cells #[.string f.number, .string f.src, .string f.dst, .int .i64 f.dep, .int .i64 f.arr, .string f.kind, .int .i64 f.n0, .int .i64 f.n1, .int .i64 f.n2] 47 (0, 0)))
              case first =>
                go_region_law (first
                  | (go_simp; go_at_call 70; have _t1 := tok1; refine (rText f.number hrd.out (by omega) (by omega)).mono ?_; rintro e wa ⟨va, rfl, hwa, hga⟩; have hza := box_grown hrd.out.own HBX.out (by decide) hga; have q1' : wa.cell? ⟨fb, 1, none⟩ = some (.string f.src) := block_cell hza 1; have q2' : wa.cell? ⟨fb, 2, none⟩ = some (.string f.dst) := block_cell hza 2; clear tok1)
                  | (go_simp; go_at_call 70; have _t2 := tok2; refine (rText f.src hwa (by simp; omega) (by omega)).mono ?_; rintro e wb ⟨vb, rfl, hwb, hgb⟩; have hzb := box_grown hwa.own hza (by decide) hgb; have q2'' : wb.cell? ⟨fb, 2, none⟩ = some (.string f.dst) := block_cell hzb 2; clear tok2)
                  | (go_simp; go_at_call 70; refine (rText f.dst hwb (by simp; omega) (by omega)).mono ?_; rintro e wd ⟨vd, rfl, hwd, hgd⟩; have hzd := box_grown hwb.own hzb (by decide) hgd)
                  | fail)
                all_goals
                  go_wp2_with fail
                  go_meet
                  exact ⟨hwd, hzd⟩
              case rest =>
                obtain ⟨hwb, hzb⟩ := hcut
                clear q0 q1 q2 hrd HBX tok1 tok2
                have hl2 : (pre ++ textB f.number ++ textB f.src ++ textB f.dst).length ≤ 52100 := by simp only [List.length_append]; omega
                generalize hp2 : pre ++ textB f.number ++ textB f.src ++ textB f.dst = pre2 at *
                have HP2 := Lib.hid hp2
                clear hp2
                have q3 : wc.cell? ⟨fb, 3, none⟩ = some (.int .i64 f.dep) := block_cell hzb 3
                have q4 : wc.cell? ⟨fb, 4, none⟩ = some (.int .i64 f.arr) := block_cell hzb 4
                have hrd := Lib.hid (hwb.drewN 1)
                have HBX := Lib.hid hzb
                have tok1 : True := trivial
                clear hwb hzb
                obtain ⟨wo, rfl⟩ : ∃ wo : World, wo = wc := ⟨_, rfl⟩
                go_upto_region 23 with (fail)
                go_cut [3] (fun sb wx => RW w.heap.size W wx sb (pre2 ++ uvar f.dep ++ uvar f.arr) ∧ wx.heap[fb]? = some (.cells #[.string f.number, .string f.src, .string f.dst, .int .i64 f.dep, .int .i64 f.arr, .string f.kind, .int .i64 f.n0, .int .i64 f.n1, .int .i64 f.n2] 47 (0, 0)))
                case first =>
                  go_region_law (first
                    | (go_simp; go_at_call 68; have _t1 := tok1; refine (rUint f.dep hrd.out (by omega) (by omega) (by omega)).mono ?_; rintro e wa ⟨va, rfl, hwa, hga⟩; have hza := box_grown hrd.out.own HBX.out (by decide) hga; have q4' : wa.cell? ⟨fb, 4, none⟩ = some (.int .i64 f.arr) := block_cell hza 4; clear tok1)
                    | (go_simp; go_at_call 68; refine (rUint f.arr hwa (by simp; omega) (by omega) (by omega)).mono ?_; rintro e wd ⟨vd, rfl, hwd, hgd⟩; have hzd := box_grown hwa.own hza (by decide) hgd)
                    | fail)
                  all_goals
                    go_wp2_with fail
                    go_meet
                    exact ⟨hwd, hzd⟩
                case rest =>
                  obtain ⟨hwb, hzb⟩ := hcut
                  clear q3 q4 hrd HBX tok1
                  have hl3 : (pre2 ++ uvar f.dep ++ uvar f.arr).length ≤ 52200 := by simp only [List.length_append]; omega
                  generalize hp3 : pre2 ++ uvar f.dep ++ uvar f.arr = pre3 at *
                  have HP3 := Lib.hid hp3
                  clear hp3
                  have q5 : wc.cell? ⟨fb, 5, none⟩ = some (.string f.kind) := block_cell hzb 5
                  go_wp2_with fail
                  refine (rText f.kind hwb (by omega) (by omega)).mono ?_
                  rintro e w6 ⟨v6, rfl, hw6, hg6⟩
                  have hz6 := box_grown hwb.own hzb (by decide) hg6
                  clear hwb hzb hg6 q5
                  have hl4 : (pre3 ++ textB f.kind).length ≤ 52300 := by simp only [List.length_append]; omega
                  generalize hp4 : pre3 ++ textB f.kind = pre4 at *
                  have HP4 := Lib.hid hp4
                  clear hp4
                  go_wp2_with fail
                  go_loopw [3, 10] (fun sb i wq => ∃ (r : Nat), r ≤ 3 ∧ i = .int .i64 r ∧ RW w.heap.size W wq sb (needTo pre4 f r) ∧ wq.heap[fb]? = some (.cells #[.string f.number, .string f.src, .string f.dst, .int .i64 f.dep, .int .i64 f.arr, .string f.kind, .int .i64 f.n0, .int .i64 f.n1, .int .i64 f.n2] 47 (0, 0))) (fun _ i _ => 3 - (intOf i).toNat)
                  case atStart => exact ⟨0, Nat.zero_le _, rfl, by simpa [needTo] using hw6, hz6⟩
                  case round =>
                    obtain ⟨r, hr, rfl, hrw, hzb⟩ := hrel
                    clear hw6 hz6
                    by_cases hlt4 : r < 3
                    · obtain ⟨nv, hnv, hcell, hnx⟩ : ∃ nv : Int, (0 ≤ nv ∧ nv ≤ 52596000) ∧ wr.cell? ⟨fb, 6 + r, none⟩ = some (.int .i64 nv) ∧ needTo pre4 f (r + 1) = needTo pre4 f r ++ uvar nv := by
                        have : r = 0 ∨ r = 1 ∨ r = 2 := by omega
                        rcases this with rfl | rfl | rfl
                        · exact ⟨f.n0, by omega, block_cell hzb 6, by simp [needTo]⟩
                        · exact ⟨f.n1, by omega, block_cell hzb 7, by simp [needTo]⟩
                        · exact ⟨f.n2, by omega, block_cell hzb 8, by simp [needTo]⟩
                      have hln : (needTo pre4 f r).length ≤ 52400 := by
                        unfold needTo
                        have := flatMap_take_len (f := uvar) (M := 10) (l := [f.n0, f.n1, f.n2]) (fun x _ => uvar_len x) r
                        rw [List.length_append]
                        simp only [List.length_cons, List.length_nil] at this
                        omega
                      have HNX := Lib.hid hnx
                      have HZ9 := Lib.hid hzb
                      clear hnx hzb
                      generalize needTo pre4 f r = pre5 at *
                      have hr0 : (0 : Int) ≤ (r : Int) := by omega
                      have hr3 : (r : Int) < 3 := by omega
                      go_wp2_with fail
                      refine (rUint nv hrw (by omega) (by omega) (by omega)).mono ?_
                      rintro e w7 ⟨v7, rfl, hw7, hg7⟩
                      have hz7 := box_grown hrw.own HZ9.out (by decide) hg7
                      rw [← HNX.out] at hw7
                      clear hrw hg7 hcell
                      go_wp2_with fail
                      go_roundw
                      case rel => exact ⟨r + 1, by omega, by go_num, hw7, hz7⟩
                      case measure => simp [intOf]; omega
                    · have hr3 : r = 3 := by omega
                      subst hr3
                      have HFE : Hid (RW w.heap.size W wr u3 (preA ++ uvar n3 ++ (t.flights.take (q + 1)).flatMap flightB)) := by
                        show RW _ _ _ _ _
                        have e9 : needTo pre4 f 3 = pre ++ flightB f := by
                          rw [HFB.out, ← HP4.out, ← HP3.out, ← HP2.out]
                          simp [needTo]
                        rw [HSN3.out, ← e9]
                        exact hrw
                      clear hrw
                      go_wp2_with fail
                      go_roundw
                      case rel => exact ⟨q + 1, by omega, by go_num, HFE.out⟩
                      case measure => simp [intOf]; omega
            · have HFE : Hid (RW w.heap.size W wr u3 (bodyB t)) := by
                have : t.flights.take q = t.flights := List.take_of_length_le (by omega)
                rw [this] at hrw
                have e9 : bodyB t = preA ++ uvar n3 ++ t.flights.flatMap flightB := by
                  rw [← HPA.out, ← HPZ.out]
                  unfold bodyB
                  rw [show n1 = t.zones.length by omega, show n2 = t.airports.length by omega, show n3 = t.flights.length by omega]
                show RW _ _ _ _ _
                rw [e9]
                exact hrw
              have HBB := Lib.hid (HX.out wr hrw.bel).2.1
              clear hrw hlen
              go_wp2_with fail
              go_ret
              exact ⟨_, rfl, HFE.out.own.lower (Nat.le_succ _), HBB.out⟩
end Go.Proofs.YtldeoaddogifpaaGreatDoor
