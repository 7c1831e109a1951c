/-
  Contract of timetable.Encode.
  Condition: the timetable's data are well formed.
-/
import Derived.Test.YtldeoaddogifpaaGreatDoorFrame
import Derived.Test.YtldeoaddogifpaaGreatDoorWS
import Derived.Test.YtldeoaddogifpaaGreatDoorTTBody
import Derived.Test.YtldeoaddogifpaaGreatDoorValidate
namespace Go.Proofs.YtldeoaddogifpaaGreatDoor
set_option linter.unusedSimpArgs false
set_option linter.unusedVariables false
open Go.RowKit

def EncBad (x : Int) (w : World) (e : Ending) (w' : World) : Prop := e = .returned (.tuple #[.slice none 0 0, .int .i64 x]) ∧ Below w.heap.size w w'
set_option maxRecDepth 100000 in
theorem ttEncode_bad (t : GTT) (A1 A2 A3 : Option Addr) (n1 n2 n3 c1 c2 c3 : Nat) (w : World) (ht : t.ok) (hv : ttE t ≠ 0) (hs1 : Sl Ty.zone w (all_ w) A1 n1 c1 t.zones) (hs2 : Sl Ty.airport w (all_ w) A2 n2 c2 t.airports) (hs3 : Sl Ty.flight w (all_ w) A3 n3 c3 t.flights) :
    Calls Tryz.prog 14 #[.agg #[.slice A1 n1 c1, .slice A2 n2 c2, .slice A3 n3 c3]] w (EncBad (ttE t) w) := by
  have ha : ∀ o, Below w.heap.size w (w.alloc o) := fun o => (Below.refl _ _).alloc (Nat.le_refl _) _
  have HV : Hid (∀ o, Calls Tryz.prog 17 #[.agg #[.slice A1 n1 c1, .slice A2 n2 c2, .slice A3 n3 c3]] (w.alloc o) (ErrPost (ttE t) (w.alloc o))) := fun o => validate_any t A1 A2 A3 n1 n2 n3 c1 c2 c3 (w.alloc o) ht (hs1.next (ha o)) (hs2.next (ha o)) (hs3.next (ha o))
  have HA := Lib.hid ha
  generalize ttE t = x at *
  have hne : (x != 0) = true := by simpa using hv
  clear hs1 hs2 hs3 hv ht ha
  go_enter Tryz.func14, Tryz.ntmps14
  go_wp2_with fail
  refine (HV.out _).mono ?_
  clear HV
  have hb0 := HA.out (.cells #[.slice A1 n1 c1, .slice A2 n2 c2, .slice A3 n3 c3] 27)
  generalize w.alloc (.cells #[.slice A1 n1 c1, .slice A2 n2 c2, .slice A3 n3 c3] 27) = W at *
  rintro e w1 ⟨rfl, hb1⟩
  go_wp2_with fail
  go_ret2
  exact ⟨rfl, hb0.trans (hb1.mono hb0.size)⟩
def needTo (pre : List Int) (f : GFlight) (j : Nat) : List Int := pre ++ ((([f.n0, f.n1, f.n2] : List Int).take j).flatMap uvar)
set_option maxRecDepth 100000 in
set_option maxHeartbeats 3200000 in
theorem ttEncode_ok (t : GTT) (A1 A2 A3 : Option Addr) (n1 n2 n3 c1 c2 c3 : Nat) (w : World) (ht : t.ok) (hv : ttE t = 0) (hs1 : Sl Ty.zone w (all_ w) A1 n1 c1 t.zones) (hs2 : Sl Ty.airport w (all_ w) A2 n2 c2 t.airports) (hs3 : Sl Ty.flight w (all_ w) A3 n3 c3 t.flights) :
    Calls Tryz.prog 14 #[.agg #[.slice A1 n1 c1, .slice A2 n2 c2, .slice A3 n3 c3]] w (EncPost (frameB 1 (bodyB t)) w) := by
  have hf := (ttE_zero.1 hv).fine
  have e1 : n1 ≤ t.zones.length := Nat.le_of_eq hs1.len
  have e1' : t.zones.length ≤ n1 := Nat.le_of_eq hs1.len.symm
  have e2 : n2 ≤ t.airports.length := Nat.le_of_eq hs2.len
  have e2' : t.airports.length ≤ n2 := Nat.le_of_eq hs2.len.symm
  have e3 : n3 ≤ t.flights.length := Nat.le_of_eq hs3.len
  have e3' : t.flights.length ≤ n3 := Nat.le_of_eq hs3.len.symm
  have b1 := hf.l1; have b2 := hf.l2; have b3 := hf.l3
  have HFI := Lib.hid hf
  have ha : ∀ o, Below w.heap.size w (w.alloc o) := fun o => (Below.refl _ _).alloc (Nat.le_refl _) _
  have HV : Hid (∀ o, Calls Tryz.prog 17 #[.agg #[.slice A1 n1 c1, .slice A2 n2 c2, .slice A3 n3 c3]] (w.alloc o) (ErrPost 0 (w.alloc o))) := fun o => hv ▸ validate_any t A1 A2 A3 n1 n2 n3 c1 c2 c3 (w.alloc o) ht (hs1.next (ha o)) (hs2.next (ha o)) (hs3.next (ha o))
  have HS1 := Lib.hid hs1; have HS2 := Lib.hid hs2; have HS3 := Lib.hid hs3
  clear hf hs1 hs2 hs3 hv ht
  have hB0 := ha (.cells #[.slice A1 n1 c1, .slice A2 n2 c2, .slice A3 n3 c3] 27)
  have hx0 : ∀ j, (w.alloc (.cells #[.slice A1 n1 c1, .slice A2 n2 c2, .slice A3 n3 c3] 27)).cell? ⟨w.heap.size, j, none⟩ = (#[Value.slice A1 n1 c1, .slice A2 n2 c2, .slice A3 n3 c3])[j]? := fun j => World.cell?_alloc_at _ _ _ _ rfl
  have hz0 : w.heap.size + 1 ≤ (w.alloc (.cells #[.slice A1 n1 c1, .slice A2 n2 c2, .slice A3 n3 c3] 27)).heap.size := by simp
  have HB0 := Lib.hid hB0; have HX0 := Lib.hid hx0; have HZ0 := Lib.hid hz0
  clear ha hB0 hx0 hz0
  go_enter Tryz.func14, Tryz.ntmps14
  go_wp2_with fail
  refine (HV.out _).mono ?_
  clear HV
  generalize w.alloc (.cells #[.slice A1 n1 c1, .slice A2 n2 c2, .slice A3 n3 c3] 27) = W at *
  rintro e w1 ⟨rfl, hb1⟩
  have hbw : Below w.heap.size w w1 := HB0.out.trans (hb1.mono HB0.out.size)
  have x0 : w1.cell? ⟨w.heap.size, 0, none⟩ = some (.slice A1 n1 c1) := (hb1.cell (by have := HZ0.out; show w.heap.size < _; omega)).trans (HX0.out 0)
  have x1 : w1.cell? ⟨w.heap.size, 1, none⟩ = some (.slice A2 n2 c2) := (hb1.cell (by have := HZ0.out; show w.heap.size < _; omega)).trans (HX0.out 1)
  have x2 : w1.cell? ⟨w.heap.size, 2, none⟩ = some (.slice A3 n3 c3) := (hb1.cell (by have := HZ0.out; show w.heap.size < _; omega)).trans (HX0.out 2)
  have hsz1 : w.heap.size + 1 ≤ w1.heap.size := Nat.le_trans HZ0.out hb1.size
  have HT1 := Lib.hid (HS1.out.keep (all_keep hbw)); have HT2 := Lib.hid (HS2.out.keep (all_keep hbw)); have HT3 := Lib.hid (HS3.out.keep (all_keep hbw))
  clear HS1 HS2 HS3 HB0 HX0 HZ0 hb1
  have hws0 : WS w1.heap.size w1 (w1.alloc (.cells #[.slice none 0 0, .int .i64 0] 84)) (.slice none 0 0) [] := by
    refine ⟨⟨?_, ?_, fun j => ?_, Own.nil, by simp [Value.ownBlock], Nat.lt_succ_self _⟩, (Below.refl _ _).alloc (Nat.le_refl _) _⟩
    · rw [World.cell?_alloc_at _ _ _ _ rfl]; rfl
    · rw [World.cell?_alloc_at _ _ _ _ rfl]; rfl
    · simp
  have hx0 : ∀ o, (w1.alloc o).cell? ⟨w.heap.size, 0, none⟩ = some (.slice A1 n1 c1) := fun o => (World.cell?_alloc_past _ _ _ (by omega)).trans x0
  go_wp2_with fail
  clear hx0
  refine (wUint (n1 : Int) hws0 (by simp) (by omega) (by omega)).mono ?_
  rintro e w2 ⟨x, v2, rfl, hws2, hc2⟩
  clear hc2 hws0
  rw [List.nil_append] at hws2
  have x0' : w2.cell? ⟨w.heap.size, 0, none⟩ = some (.slice A1 n1 c1) := (hws2.bel.cell (by simp; omega)).trans x0
  have HX1 := Lib.hid x1; have HX2 := Lib.hid x2
  clear x0 x1 x2
  go_wp2_with fail
  go_loopw [28] (fun i wr => ∃ (k : Nat) (v : Value), k ≤ n1 ∧ i = .int .i64 k ∧ WS w1.heap.size w1 wr v (uvar n1 ++ (t.zones.take k).flatMap zoneB)) (fun i _ => n1 - (intOf i).toNat)
  case atStart => exact ⟨0, v2, Nat.zero_le _, rfl, by simpa using hws2⟩
  case round =>
    obtain ⟨k, v, hk, rfl, hws⟩ := hrel
    clear hws2 x0'
    have hlen : (uvar n1 ++ (t.zones.take k).flatMap zoneB).length ≤ 7000 := by
      have := flatMap_take_len (f := zoneB) (M := 400) (fun x hx => zoneB_len (HFI.out.z x hx)) k
      have := uvar_len n1
      rw [List.length_append]
      omega
    by_cases hlt : k < n1
    · have hbel := hws.bel
      have hks : k < t.zones.length := by omega
      obtain ⟨b, o, A', n', c', rfl, hbS, y0, y1, y2, hsh⟩ := (HT1.out.keep (w' := wr) fun b hb => hbel.block b (by unfold all_ at hb; omega)).zone_at hks
      have hzf := HFI.out.z _ (getD_mem hks noZone)
      have HSN : Hid (uvar n1 ++ (t.zones.take (k + 1)).flatMap zoneB = uvar n1 ++ (t.zones.take k).flatMap zoneB ++ zoneB (t.zones.getD k noZone)) := by
        show _ = _
        rw [flatMap_take zoneB hks noZone, List.append_assoc]
      have hbS' : b < w.heap.size := hbS
      generalize t.zones.getD k noZone = z at *
      obtain ⟨hz1, hz2, hz3, hz4⟩ := hzf
      have HZ4 := Lib.hid hz4
      have HSH := Lib.hid hsh
      have m1 : n' ≤ z.shifts.length := Nat.le_of_eq hsh.len
      have m2 : z.shifts.length ≤ n' := Nat.le_of_eq hsh.len.symm
      have HZB : Hid (zoneB z = textB z.name ++ uvar (zig z.off) ++ uvar n' ++ z.shifts.flatMap shiftB) := by
        show _ = _
        rw [hsh.len]; rfl
      generalize uvar n1 ++ (t.zones.take k).flatMap zoneB = pre at *
      have hwa := hws.alloc (.cells #[.string z.name, .int .i64 z.off, .slice A' n' c'] 51)
      have hbx := hws.box #[.string z.name, .int .i64 z.off, .slice A' n' c'] 51
      have hgb := hws.hb
      have HTB : Hid (Below w1.heap.size w1 wr) := hbel
      clear hz4 hsh hbS hws hbel
      go_wp2_with fail
      refine (wText z.name hwa (by omega) (by omega)).mono ?_
      rintro e w2 ⟨x, v2, rfl, hws2, hc2⟩
      have hbx2 := hbx.chg hc2 (by omega)
      have q1 : w2.cell? ⟨wr.heap.size, 1, none⟩ = some (.int .i64 z.off) := hbx2.at_ 1 _ rfl
      have t2 := textB_le hz1
      clear hwa hbx hc2 y0 y1 y2
      go_wp2_with fail
      refine (wInt z.off hws2 (by simp; omega) (by omega) (by omega)).mono ?_
      rintro e w3 ⟨x3, v3, rfl, hws3, hc3⟩
      have hbx3 := hbx2.chg hc3 (by omega)
      have q2 : w3.cell? ⟨wr.heap.size, 2, none⟩ = some (.slice A' n' c') := hbx3.at_ 2 _ rfl
      have t3 := uvar_len (zig z.off)
      clear hws2 hbx2 hc3 q1
      go_wp2_with fail
      refine (wUint (n' : Int) hws3 (by simp; omega) (by omega) (by omega)).mono ?_
      rintro e w4 ⟨x4, v4, rfl, hws4, hc4⟩
      have hbx4 := hbx3.chg hc4 (by omega)
      have q3 : w4.cell? ⟨wr.heap.size, 2, none⟩ = some (.slice A' n' c') := hbx4.at_ 2 _ rfl
      have t4 := uvar_len n'
      have hl4 : (pre ++ textB z.name ++ uvar (zig z.off) ++ uvar n').length ≤ 7100 := by simp only [List.length_append]; omega
      generalize hp4 : pre ++ textB z.name ++ uvar (zig z.off) ++ uvar n' = pre4 at *
      have HP4 := Lib.hid hp4
      have HSQ : Hid (∀ wq, Below w1.heap.size w1 wq → Sl Ty.shift wq (all_ w) A' n' c' z.shifts) := fun wq hb => HSH.out.keep fun b hb' => by
        unfold all_ at hb'
        rw [hb.block b (by omega), HTB.out.block b (by omega)]
      have HFIN : Hid (pre4 ++ z.shifts.flatMap shiftB = pre ++ zoneB z) := by
        show _ = _
        rw [HZB.out, ← HP4.out]
        simp only [List.append_assoc]
      clear hws3 hbx3 hc4 q2 hp4 HSH HTB hbx4 HP4 HZB
      go_wp2_with fail
      obtain ⟨wo, rfl⟩ : ∃ wo : World, wo = wr := ⟨_, rfl⟩
      go_loopw [45] (fun i wq => ∃ (j : Nat) (v : Value), j ≤ n' ∧ i = .int .i64 j ∧ WS w1.heap.size w1 wq v (pre4 ++ (z.shifts.take j).flatMap shiftB)) (fun i _ => n' - (intOf i).toNat)
      case atStart => exact ⟨0, v4, Nat.zero_le _, rfl, by simpa using hws4⟩
      case round =>
        obtain ⟨j, v, hj, rfl, hws⟩ := hrel
        clear hws4 q3
        have hlen2 : (pre4 ++ (z.shifts.take j).flatMap shiftB).length ≤ 7500 := by
          have := flatMap_take_len (f := shiftB) (M := 20) (l := z.shifts) (fun x hx => shiftB_len x) j
          rw [List.length_append]
          omega
        by_cases hlt2 : j < n'
        · have hjs : j < z.shifts.length := by omega
          obtain ⟨b, o, rfl, hbS, y0, y1⟩ := (HSQ.out wr hws.bel).shift_at hjs
          have hsf := HZ4.out _ (getD_mem hjs noShift)
          have HSN2 : Hid (pre4 ++ (z.shifts.take (j + 1)).flatMap shiftB = pre4 ++ (z.shifts.take j).flatMap shiftB ++ uvar (z.shifts.getD j noShift).at_ ++ uvar (zig (z.shifts.getD j noShift).off)) := by
            show _ = _
            rw [flatMap_take shiftB hjs noShift]
            simp only [shiftB, List.append_assoc]
          generalize z.shifts.getD j noShift = s at *
          obtain ⟨hs1, hs2⟩ := hsf
          generalize pre4 ++ (z.shifts.take j).flatMap shiftB = pre5 at *
          have hwa := hws.alloc (.cells #[.int .i64 s.at_, .int .i64 s.off] 64)
          have hbx := hws.box #[.int .i64 s.at_, .int .i64 s.off] 64
          have hgb2 := hws.hb
          have t5 := uvar_len s.at_
          clear hws hbS
          go_wp2_with fail
          refine (wUint s.at_ hwa (by omega) (by omega) (by omega)).mono ?_
          rintro e w5 ⟨x5, v5, rfl, hws5, hc5⟩
          have hbx5 := hbx.chg hc5 (by omega)
          have q4 : w5.cell? ⟨wr.heap.size, 1, none⟩ = some (.int .i64 s.off) := hbx5.at_ 1 _ rfl
          clear hwa hbx hc5 y0 y1
          go_wp2_with fail
          refine (wInt s.off hws5 (by simp; omega) (by omega) (by omega)).mono ?_
          rintro e w6 ⟨x6, v6, rfl, hws6, hc6⟩
          clear hws5 hbx5 hc6 q4
          go_wp2_with fail
          go_roundw
          case rel => exact ⟨j + 1, v6, by omega, by go_num, by rw [HSN2.out]; exact hws6⟩
          case measure => simp [intOf]; omega
        · have hws9 : WS w1.heap.size w1 wr v (uvar n1 ++ (t.zones.take (k + 1)).flatMap zoneB) := by
            rw [HSN.out, ← HFIN.out]
            rwa [List.take_of_length_le (by omega)] at hws
          clear hws
          go_wp2_with fail
          go_roundw
          case rel => exact ⟨k + 1, v, by omega, by go_num, hws9⟩
          case measure => simp [intOf]; omega
    · rw [List.take_of_length_le (by omega)] at hws hlen
      generalize hpz : uvar n1 ++ t.zones.flatMap zoneB = pz at *
      have HPZ := Lib.hid hpz
      have x1 : wr.cell? ⟨w.heap.size, 1, none⟩ = some (.slice A2 n2 c2) := (hws.bel.cell (by show w.heap.size < _; omega)).trans HX1.out
      clear hpz
      go_wp2_with fail
      refine (wUint (n2 : Int) hws (by omega) (by omega) (by omega)).mono ?_
      rintro e w2 ⟨xa, va, rfl, hwsa, hca⟩
      have x1 : w2.cell? ⟨w.heap.size, 1, none⟩ = some (.slice A2 n2 c2) := (hwsa.bel.cell (by show w.heap.size < _; omega)).trans HX1.out
      clear hws hca
      go_wp2_with fail
      obtain ⟨wo, rfl⟩ : ∃ wo : World, wo = wr := ⟨_, rfl⟩
      go_loopw [64] (fun i wr => ∃ (k : Nat) (v : Value), k ≤ n2 ∧ i = .int .i64 k ∧ WS w1.heap.size w1 wr v (pz ++ uvar n2 ++ (t.airports.take k).flatMap airportB)) (fun i _ => n2 - (intOf i).toNat)
      case atStart => exact ⟨0, va, Nat.zero_le _, rfl, by simpa using hwsa⟩
      case round =>
        obtain ⟨k2, v, hk2, rfl, hws⟩ := hrel
        clear hwsa x1
        have hlen3 : (pz ++ uvar n2 ++ (t.airports.take k2).flatMap airportB).length ≤ 12000 := by
          have := flatMap_take_len (f := airportB) (M := 52) (fun x hx => airportB_len (HFI.out.a x hx)) k2
          have := uvar_len n2
          simp only [List.length_append]
          omega
        by_cases hlt3 : k2 < n2
        · have hbel := hws.bel
          have hks : k2 < t.airports.length := by omega
          obtain ⟨b, o, rfl, hbS, y0, y1⟩ := (HT2.out.keep (w' := wr) fun b hb => hbel.block b (by unfold all_ at hb; omega)).airport_at hks
          have haf := HFI.out.a _ (getD_mem hks noAirport)
          have HSN : Hid (pz ++ uvar n2 ++ (t.airports.take (k2 + 1)).flatMap airportB = pz ++ uvar n2 ++ (t.airports.take k2).flatMap airportB ++ textB (t.airports.getD k2 noAirport).code ++ textB (t.airports.getD k2 noAirport).zone) := by
            show _ = _
            rw [flatMap_take airportB hks noAirport]
            simp only [airportB, List.append_assoc]
          generalize t.airports.getD k2 noAirport = a at *
          obtain ⟨ha1, ha2⟩ := haf
          generalize pz ++ uvar n2 ++ (t.airports.take k2).flatMap airportB = pre at *
          have hwa := hws.alloc (.cells #[.string a.code, .string a.zone] 66)
          have hbx := hws.box #[.string a.code, .string a.zone] 66
          have hgb := hws.hb
          have t1 := textB_le ha1
          clear hbS hws hbel
          go_wp2_with fail
          refine (wText a.code hwa (by omega) (by omega)).mono ?_
          rintro e w2 ⟨x2, v2, rfl, hws2, hc2⟩
          have hbx2 := hbx.chg hc2 (by omega)
          have q1 : w2.cell? ⟨wr.heap.size, 1, none⟩ = some (.string a.zone) := hbx2.at_ 1 _ rfl
          clear hwa hbx hc2 y0 y1
          go_wp2_with fail
          refine (wText a.zone hws2 (by simp; omega) (by omega)).mono ?_
          rintro e w3 ⟨x3, v3, rfl, hws3, hc3⟩
          clear hws2 hbx2 hc3 q1
          go_wp2_with fail
          go_roundw
          case rel => exact ⟨k2 + 1, v3, by omega, by go_num, by rw [HSN.out]; exact hws3⟩
          case measure => simp [intOf]; omega
        · rw [List.take_of_length_le (by omega)] at hws hlen3
          generalize hpa : pz ++ uvar n2 ++ t.airports.flatMap airportB = pa at *
          have HPA := Lib.hid hpa
          have x2 : wr.cell? ⟨w.heap.size, 2, none⟩ = some (.slice A3 n3 c3) := (hws.bel.cell (by show w.heap.size < _; omega)).trans HX2.out
          clear hpa
          go_wp2_with fail
          refine (wUint (n3 : Int) hws (by omega) (by omega) (by omega)).mono ?_
          rintro e w2 ⟨xb, vb, rfl, hwsb, hcb⟩
          have x2 : w2.cell? ⟨w.heap.size, 2, none⟩ = some (.slice A3 n3 c3) := (hwsb.bel.cell (by show w.heap.size < _; omega)).trans HX2.out
          clear hws hcb
          go_wp2_with fail
          obtain ⟨wo2, rfl⟩ : ∃ wo : World, wo = wr := ⟨_, rfl⟩
          go_loopw [82] (fun i wr => ∃ (k : Nat) (v : Value), k ≤ n3 ∧ i = .int .i64 k ∧ WS w1.heap.size w1 wr v (pa ++ uvar n3 ++ (t.flights.take k).flatMap flightB)) (fun i _ => n3 - (intOf i).toNat)
          case atStart => exact ⟨0, vb, Nat.zero_le _, rfl, by simpa using hwsb⟩
          case round =>
            obtain ⟨k3, v, hk3, rfl, hws⟩ := hrel
            clear hwsb x2
            have hlen4 : (pa ++ uvar n3 ++ (t.flights.take k3).flatMap flightB).length ≤ 60000 := by
              have := flatMap_take_len (f := flightB) (M := 200) (fun x hx => flightB_len (HFI.out.f x hx)) k3
              have := uvar_len n3
              simp only [List.length_append]
              omega
            by_cases hlt4 : k3 < n3
            · have hbel := hws.bel
              have hks : k3 < t.flights.length := by omega
              obtain ⟨b, o, rfl, hbS, hat⟩ := (HT3.out.keep (w' := wr) fun b hb => hbel.block b (by unfold all_ at hb; omega)).flight_at hks
              have hff := HFI.out.f _ (getD_mem hks noFlight)
              have HSN : Hid (pa ++ uvar n3 ++ (t.flights.take (k3 + 1)).flatMap flightB = pa ++ uvar n3 ++ (t.flights.take k3).flatMap flightB ++ flightB (t.flights.getD k3 noFlight)) := by
                show _ = _
                rw [flatMap_take flightB hks noFlight]
                simp only [List.append_assoc]
              generalize t.flights.getD k3 noFlight = f at *
              obtain ⟨hf1, hf2, hf3, hf4, hf5, hf6, hf7, hf8, hf9⟩ := hff
              generalize pa ++ uvar n3 ++ (t.flights.take k3).flatMap flightB = pre at *
              have y0 : wr.cell? ⟨b, o + k3 * 9, none⟩ = some (.string f.number) := hat 0 _ rfl
              have y1 := hat 1 _ rfl; have y2 := hat 2 _ rfl; have y3 := hat 3 _ rfl; have y4 := hat 4 _ rfl; have y5 := hat 5 _ rfl; have y6 := hat 6 _ rfl; have y7 := hat 7 _ rfl; have y8 := hat 8 _ rfl
              have hwa := hws.alloc (.cells #[.string f.number, .string f.src, .string f.dst, .int .i64 f.dep, .int .i64 f.arr, .string f.kind, .int .i64 f.n0, .int .i64 f.n1, .int .i64 f.n2] 47)
              have hbx := hws.box #[.string f.number, .string f.src, .string f.dst, .int .i64 f.dep, .int .i64 f.arr, .string f.kind, .int .i64 f.n0, .int .i64 f.n1, .int .i64 f.n2] 47
              have hgb := hws.hb
              have t1 := textB_le hf1; have t2 := textB_le hf2; have t3 := textB_le hf3; have t4 := textB_le hf4
              have t5 := uvar_len f.dep; have t6 := uvar_len f.arr; have t7 := uvar_len f.n0; have t8 := uvar_len f.n1; have t9 := uvar_len f.n2
              clear hbS hws hbel hat
              go_wp2_with fail
              refine (wText f.number hwa (by omega) (by omega)).mono ?_
              rintro e w2 ⟨x2, v2, rfl, hws2, hc2⟩
              have hbx2 := hbx.chg hc2 (by omega)
              have q1 : w2.cell? ⟨wr.heap.size, 1, none⟩ = some (.string f.src) := hbx2.at_ 1 _ rfl
              clear hwa hbx hc2 y0 y1 y2 y3 y4 y5 y6 y7 y8
              go_wp2_with fail
              refine (wText f.src hws2 (by simp; omega) (by omega)).mono ?_
              rintro e w3 ⟨x3, v3, rfl, hws3, hc3⟩
              have hbx3 := hbx2.chg hc3 (by omega)
              have q2 : w3.cell? ⟨wr.heap.size, 2, none⟩ = some (.string f.dst) := hbx3.at_ 2 _ rfl
              clear hws2 hbx2 hc3 q1
              go_wp2_with fail
              refine (wText f.dst hws3 (by simp; omega) (by omega)).mono ?_
              rintro e w4 ⟨x4, v4, rfl, hws4, hc4⟩
              have hbx4 := hbx3.chg hc4 (by omega)
              have q3 : w4.cell? ⟨wr.heap.size, 3, none⟩ = some (.int .i64 f.dep) := hbx4.at_ 3 _ rfl
              clear hws3 hbx3 hc4 q2
              go_wp2_with fail
              refine (wUint f.dep hws4 (by simp; omega) (by omega) (by omega)).mono ?_
              rintro e w5 ⟨x5, v5, rfl, hws5, hc5⟩
              have hbx5 := hbx4.chg hc5 (by omega)
              have q4 : w5.cell? ⟨wr.heap.size, 4, none⟩ = some (.int .i64 f.arr) := hbx5.at_ 4 _ rfl
              clear hws4 hbx4 hc5 q3
              go_wp2_with fail
              refine (wUint f.arr hws5 (by simp; omega) (by omega) (by omega)).mono ?_
              rintro e w6 ⟨x6, v6, rfl, hws6, hc6⟩
              have hbx6 := hbx5.chg hc6 (by omega)
              have q5 : w6.cell? ⟨wr.heap.size, 5, none⟩ = some (.string f.kind) := hbx6.at_ 5 _ rfl
              clear hws5 hbx5 hc6 q4
              go_wp2_with fail
              refine (wText f.kind hws6 (by simp; omega) (by omega)).mono ?_
              rintro e w7 ⟨x7, v7, rfl, hws7, hc7⟩
              have hbx7 := hbx6.chg hc7 (by omega)
              have q6 : w7.cell? ⟨wr.heap.size, 6, none⟩ = some (.int .i64 f.n0) := hbx7.at_ 6 _ rfl
              have q7 : w7.cell? ⟨wr.heap.size, 7, none⟩ = some (.int .i64 f.n1) := hbx7.at_ 7 _ rfl
              have q8 : w7.cell? ⟨wr.heap.size, 8, none⟩ = some (.int .i64 f.n2) := hbx7.at_ 8 _ rfl
              clear hws6 hbx6 hc7 q5
              have i0 : ∀ w, (Instr.index 45 (.agg #[.int .i64 f.n0, .int .i64 f.n1, .int .i64 f.n2]) (.int .i64 0)).run Tryz.prog w = .ok (.int .i64 f.n0) w := fun _ => by kernel_rfl
              have i1 : ∀ w, (Instr.index 45 (.agg #[.int .i64 f.n0, .int .i64 f.n1, .int .i64 f.n2]) (.int .i64 1)).run Tryz.prog w = .ok (.int .i64 f.n1) w := fun _ => by kernel_rfl
              have i2 : ∀ w, (Instr.index 45 (.agg #[.int .i64 f.n0, .int .i64 f.n1, .int .i64 f.n2]) (.int .i64 2)).run Tryz.prog w = .ok (.int .i64 f.n2) w := fun _ => by kernel_rfl
              have HFB : Hid (pre ++ flightB f = pre ++ textB f.number ++ textB f.src ++ textB f.dst ++ uvar f.dep ++ uvar f.arr ++ textB f.kind ++ ((([f.n0, f.n1, f.n2] : List Int).take 3).flatMap uvar)) := by
                show _ = _
                simp [flightB]
              have hl7 : (pre ++ textB f.number ++ textB f.src ++ textB f.dst ++ uvar f.dep ++ uvar f.arr ++ textB f.kind).length ≤ 61000 := by simp only [List.length_append]; omega
              generalize pre ++ textB f.number ++ textB f.src ++ textB f.dst ++ uvar f.dep ++ uvar f.arr ++ textB f.kind = pre7 at *
              go_wp2_with fail
              clear q6 q7 q8 hbx7
              obtain ⟨wo3, rfl⟩ : ∃ wo : World, wo = wr := ⟨_, rfl⟩
              go_loopw [106] (fun i wr => ∃ (j : Nat) (v : Value), j ≤ 3 ∧ i = .int .i64 j ∧ WS w1.heap.size w1 wr v (needTo pre7 f j)) (fun i _ => 3 - (intOf i).toNat)
              case atStart => exact ⟨0, v7, Nat.zero_le _, rfl, by simpa [needTo] using hws7⟩
              case round =>
                obtain ⟨j, v, hj, rfl, hws⟩ := hrel
                clear hws7
                have hj' : j = 0 ∨ j = 1 ∨ j = 2 ∨ j = 3 := by omega
                have HN1 : Hid (needTo pre7 f 1 = needTo pre7 f 0 ++ uvar f.n0) := by show _ = _; simp [needTo]
                have HN2 : Hid (needTo pre7 f 2 = needTo pre7 f 1 ++ uvar f.n1) := by show _ = _; simp [needTo]
                have HN3 : Hid (needTo pre7 f 3 = needTo pre7 f 2 ++ uvar f.n2) := by show _ = _; simp [needTo]
                have l0 : (needTo pre7 f 0).length ≤ 61000 := by simp [needTo]; omega
                have l1 : (needTo pre7 f 1).length ≤ 61100 := by rw [HN1.out, List.length_append]; omega
                have l2 : (needTo pre7 f 2).length ≤ 61200 := by rw [HN2.out, List.length_append]; omega
                rcases hj' with rfl | rfl | rfl | rfl
                · go_wp2_with fail
                  refine (wUint f.n0 hws (by omega) (by omega) (by omega)).mono ?_
                  rintro e w8 ⟨x8, v8, rfl, hws8, hc8⟩
                  rw [← HN1.out] at hws8
                  clear hws hc8
                  go_wp2_with fail
                  go_roundw
                  case rel => exact ⟨1, v8, by omega, rfl, hws8⟩
                  case measure => simp [intOf]
                · go_wp2_with fail
                  refine (wUint f.n1 hws (by omega) (by omega) (by omega)).mono ?_
                  rintro e w8 ⟨x8, v8, rfl, hws8, hc8⟩
                  rw [← HN2.out] at hws8
                  clear hws hc8
                  go_wp2_with fail
                  go_roundw
                  case rel => exact ⟨2, v8, by omega, rfl, hws8⟩
                  case measure => simp [intOf]
                · go_wp2_with fail
                  refine (wUint f.n2 hws (by omega) (by omega) (by omega)).mono ?_
                  rintro e w8 ⟨x8, v8, rfl, hws8, hc8⟩
                  rw [← HN3.out] at hws8
                  clear hws hc8
                  go_wp2_with fail
                  go_roundw
                  case rel => exact ⟨3, v8, by omega, rfl, hws8⟩
                  case measure => simp [intOf]
                · have hws9 : WS w1.heap.size w1 wr v (pa ++ uvar n3 ++ (t.flights.take (k3 + 1)).flatMap flightB) := by
                    rw [HSN.out, HFB.out]
                    exact hws
                  clear hws
                  go_wp2_with fail
                  go_roundw
                  case rel => exact ⟨k3 + 1, v, by omega, by go_num, hws9⟩
                  case measure => simp [intOf]; omega
            · rw [List.take_of_length_le (by omega)] at hws
              have HBD : Hid (pa ++ uvar n3 ++ t.flights.flatMap flightB = bodyB t) := by
                show _ = _
                have a1 : t.zones.length = n1 := by omega
                have a2 : t.airports.length = n2 := by omega
                have a3 : t.flights.length = n3 := by omega
                unfold bodyB
                rw [a1, a2, a3, ← HPA.out, ← HPZ.out]
              rw [HBD.out] at hws
              have g0 : wr.cell? ⟨w1.heap.size, 0, none⟩ = some v := hws.wr.c0
              have g1 : wr.cell? ⟨w1.heap.size, 1, none⟩ = some (.int .i64 0) := hws.wr.c1
              obtain ⟨A9, c9, rfl, hsl9⟩ := hws.wr.own.sl
              have HFR := Lib.hid (frame_any 1 (bodyB t) A9 _ c9 wr (hsl9.more fun b hb => hb.2) (bodyB_pos t) (by have := bodyB_len HFI.out; omega))
              have hbel := hws.bel
              clear hws hsl9
              go_wp2_with fail
              refine HFR.out.mono ?_
              rintro e w9 ⟨v9, rfl, ho9, hb9⟩
              clear HFR
              have hbF : Below w.heap.size w w9 := hbw.trans ((hbel.mono (by omega)).trans (hb9.mono (by have := hbel.size; omega)))
              have hsF : w.heap.size ≤ wr.heap.size := by have := hbel.size; omega
              go_wp2_with fail
              go_ret2
              exact ⟨_, rfl, ho9.lower hsF, hbF⟩
end Go.Proofs.YtldeoaddogifpaaGreatDoor
