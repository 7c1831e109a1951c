/-
  Contract of the reference's Validate (package pairingref9): the first flaw of a timetable.
  Condition: the timetable's data are well formed.
-/
import Derived.Test.YtldeoaddogifpaaGreatDoorFlightRef
import Derived.Deep.QuietTactic
import Derived.BigQuiet
namespace Go.Proofs.YtldeoaddogifpaaGreatDoor
set_option linter.unusedSimpArgs false
set_option linter.unusedVariables false
open Go.RowKit

theorem quiet_left {P : Program} {f : FuncId} {args : Array Value} {w : World} {n : Nat} {v : Value}
    (h : Calls P f args (w.drewN n) fun e w' => e = .returned v ∧ w.drewN n = w') : Calls P f args (w.drewN n) fun e w'' => e = .returned v ∧ ∃ m, w'' = w.drewN m :=
  h.mono fun _ _ ⟨he, hm⟩ => ⟨he, n, hm.symm⟩
theorem Sl.drewN {α : Type} {t : Ty α} {w : World} {S : Nat → Prop} {A : Option Addr} {n c : Nat} {xs : List α} (h : Sl t w S A n c xs) (m : Nat) : Sl t (w.drewN m) S A n c xs := h.keep fun _ _ => rfl

set_option maxRecDepth 100000 in
set_option maxHeartbeats 3200000 in
theorem validateR_any (t : GTT) (A1 A2 A3 : Option Addr) (n1 n2 n3 c1 c2 c3 : Nat) (w : World) (ht : t.ok) (hs1 : Sl Ty.zone w (all_ w) A1 n1 c1 t.zones) (hs2 : Sl Ty.airport w (all_ w) A2 n2 c2 t.airports) (hs3 : Sl Ty.flight w (all_ w) A3 n3 c3 t.flights) :
    Calls Tryz.prog 26 #[.agg #[.slice A1 n1 c1, .slice A2 n2 c2, .slice A3 n3 c3]] w (ErrPost (ttE t) w) := by
  have HT := Lib.hid ht
  obtain ⟨ok1, ok2, ok3⟩ := ht
  have e1 := hs1.len; have e2 := hs2.len; have e3 := hs3.len
  have m1 := hs1.le; have m2 := hs2.le; have m3 := hs3.le
  have q1 := hs1.2.1; have q2 := hs2.2.1
  unfold maxLen at m1 m2 m3
  have HB1 : Hid (∀ o1, Below w.heap.size w (w.alloc o1)) := fun o1 => (Below.refl _ _).alloc (Nat.le_refl _) _
  by_cases hbig : 16 < n1 ∨ 64 < n2 ∨ 200 < n3
  case pos =>
    have HR : Hid (ttE t = 10) := by show _ = _; unfold ttE; rw [if_pos (by omega)]
    have hb' : 16 < n1 ∨ (¬ 16 < n1 ∧ 64 < n2) ∨ (¬ 16 < n1 ∧ ¬ 64 < n2 ∧ 200 < n3) := by omega
    clear hbig e1 e2 e3 hs1 hs2 hs3 ok1 ok2 ok3
    rcases hb' with h | ⟨h, h'⟩ | ⟨h, h', h''⟩
    all_goals
      go_enter Tryz.func26, Tryz.ntmps26
      go_wp2_with fail
      go_ret
      exact ⟨by rw [HR.out]; rfl, HB1.out _⟩
  have b1 : n1 ≤ 16 := by omega
  have b2 : n2 ≤ 64 := by omega
  have b3 : n3 ≤ 200 := by omega
  have HR : Hid (ttE t = if firstErr (zErr t.zones) t.zones.length ≠ 0 then firstErr (zErr t.zones) t.zones.length else
      if firstErr (aErr t.zones t.airports) t.airports.length ≠ 0 then firstErr (aErr t.zones t.airports) t.airports.length else firstErr (fErr (aCodes t.airports) t.flights) t.flights.length) := by show _ = _; unfold ttE; rw [if_neg (by omega)]
  have l1 : n1 ≤ t.zones.length := by omega
  have l1' : t.zones.length ≤ n1 := by omega
  have l2 : n2 ≤ t.airports.length := by omega
  have l2' : t.airports.length ≤ n2 := by omega
  have l3 : n3 ≤ t.flights.length := by omega
  have l3' : t.flights.length ≤ n3 := by omega
  clear hbig e1 e2 e3
  have OK1 := Lib.hid ok1; have OK2 := Lib.hid ok2
  clear ok1 ok2 ok3
  go_enter Tryz.func26, Tryz.ntmps26
  go_wp2_with fail
  have hb0 := HB1.out (.cells #[.slice A1 n1 c1, .slice A2 n2 c2, .slice A3 n3 c3] 27)
  have hx0 : ∀ j, (w.alloc (.cells #[.slice A1 n1 c1, .slice A2 n2 c2, .slice A3 n3 c3] 27)).cell? ⟨w.heap.size, j, none⟩ = (#[Value.slice A1 n1 c1, .slice A2 n2 c2, .slice A3 n3 c3])[j]? := fun j => by
    rw [World.cell?_alloc_at _ _ _ _ rfl]
  have hsw : (w.alloc (.cells #[.slice A1 n1 c1, .slice A2 n2 c2, .slice A3 n3 c3] 27)).heap.size = w.heap.size + 1 := by simp
  generalize hW : w.alloc (.cells #[.slice A1 n1 c1, .slice A2 n2 c2, .slice A3 n3 c3] 27) = W at *
  have HX0 : Hid (W.cell? ⟨w.heap.size, 0, none⟩ = some (.slice A1 n1 c1)) := hx0 0
  have HX1 : Hid (W.cell? ⟨w.heap.size, 1, none⟩ = some (.slice A2 n2 c2)) := hx0 1
  have HX2 : Hid (W.cell? ⟨w.heap.size, 2, none⟩ = some (.slice A3 n3 c3)) := hx0 2
  have HS1 := Lib.hid (hs1.next hb0); have HS2 := Lib.hid (hs2.next hb0); have HS3 := Lib.hid (hs3.next hb0)
  have HW := Lib.hid hsw
  have HB0 := Lib.hid hb0
  clear hs1 hs2 hs3 hW hx0 hsw hb0 HB1
  go_loopw [2, 3] (fun _ i wr => ∃ k : Nat, k ≤ n1 ∧ i = .int .i64 k ∧ Below W.heap.size W wr ∧ Hid (zeroTo (zErr t.zones) k)) (fun _ i _ => n1 - (intOf i).toNat)
  case atStart => exact ⟨0, Nat.zero_le _, rfl, Below.refl _ _, zeroTo_zero _⟩
  case round =>
    obtain ⟨k, hk, rfl, hbr, HK⟩ := hrel
    have hx0 : wr.cell? ⟨w.heap.size, 0, none⟩ = some (.slice A1 n1 c1) := (hbr.cell (by have := HW.out; simp; omega)).trans HX0.out
    have hsz : w.heap.size + 1 ≤ wr.heap.size := by have := hbr.size; have := HW.out; omega
    by_cases hlt : k < n1
    · have hsr := HS1.out.next hbr
      obtain ⟨b, o, A', n', c', rfl, hbS, hc0, hc1, hc2, hsh⟩ := hsr.zone_at (k := k) (by omega)
      have hzok := OK1.out _ (getD_mem0 (show k < t.zones.length by omega) noZone)
      have HERR : Hid (zErr t.zones k = if zoneE (t.zones.getD k noZone) ≠ 0 then zoneE (t.zones.getD k noZone) else if hasB (zNames (t.zones.take k)) (t.zones.getD k noZone).name = true then 7 else 0) := rfl
      generalize hz : t.zones.getD k noZone = z at *
      have HZC := Lib.hid (zoneValidateR_any z A' n' c' _ hzok hsh)
      have HSR := Lib.hid hsr
      have HC := Lib.hid hc0
      clear hz hsh hzok hsr
      go_wp2_with fail
      refine HZC.out.mono ?_
      rintro e w2 ⟨rfl, hb2⟩
      have hc02 := cell_kept HC.out hb2
      have hx02 := cell_kept hx0 hb2
      have HB2 := Lib.hid (hbr.trans (hb2.mono hbr.size))
      have HS2' := Lib.hid ((HSR.out.next hb2).take hk)
      clear hc0 hc1 hc2 hx0 HZC
      by_cases hz0 : zoneE z = 0
      · rw [hz0]
        have t1 : (0 : Int) ≤ (k : Int) := by omega
        have t2 : (k : Int) ≤ (n1 : Int) := by omega
        have t3 : (k : Int) ≤ (c1 : Int) := by omega
        have t4 : k ≤ c1 := by omega
        by_cases hdup : hasB (zNames (t.zones.take k)) z.name = true
        · have hge : 0 ≤ idxOf (zNames (t.zones.take k)) z.name := by
            have := idxOf_neg (zNames (t.zones.take k)) z.name
            rw [hdup] at this
            simpa using this
          have HF : Hid (ttE t = 7) := by
            have h9 : zErr t.zones k = 7 := by rw [HERR.out, if_neg (by simp [hz0]), if_pos hdup]
            have h8 : firstErr (zErr t.zones) t.zones.length = 7 := by rw [firstErr_hit HK.out (by rw [h9]; decide) (by omega), h9]
            rw [HR.out, h8, if_pos (by decide)]; rfl
          go_wp2_with fail
          go_quiet ((go_at_call 64; exact quiet_left (zoneIndex_any (t.zones.take k) z.name _ _ _ _ _ (HS2'.out.drewN _))))
          go_wp2_with fail
          go_ret
          exact ⟨by rw [HF.out]; rfl, below_drewN (HB0.out.trans (HB2.out.mono (by have := HW.out; omega))) _⟩
        · have hdup' : hasB (zNames (t.zones.take k)) z.name = false := by simpa using hdup
          have HZ : Hid (zeroTo (zErr t.zones) (k + 1)) := zeroTo_succ HK.out (by rw [HERR.out, if_neg (by simp [hz0]), if_neg hdup])
          have hn1 := idxOf_none hdup'
          clear hdup hdup'
          go_wp2_with fail
          go_quiet ((go_at_call 64; exact quiet_left (zoneIndex_any (t.zones.take k) z.name _ _ _ _ _ (HS2'.out.drewN _))))
          go_wp2_with fail
          go_roundw
          case rel => exact ⟨k + 1, by omega, by go_num, below_drewN HB2.out _, HZ⟩
          case measure => simp [intOf]; omega
      · have hne : (zoneE z != 0) = true := by simpa using hz0
        have HF : Hid (ttE t = zoneE z) := by
          have h9 : zErr t.zones k = zoneE z := by rw [HERR.out, if_pos hz0]
          have h8 : firstErr (zErr t.zones) t.zones.length = zoneE z := by rw [firstErr_hit HK.out (by rw [h9]; exact hz0) (by omega), h9]
          rw [HR.out, h8, if_pos hz0]; rfl
        clear hz0
        go_wp2_with fail
        go_ret
        exact ⟨by rw [HF.out]; rfl, HB0.out.trans (HB2.out.mono (by have := HW.out; omega))⟩
    · have HZ0 : Hid (firstErr (zErr t.zones) t.zones.length = 0) := firstErr_none (by rw [show t.zones.length = k by omega]; exact HK.out)
      go_wp2_with fail
      generalize hV : wr = V at *
      have HBV := Lib.hid (HB0.out.trans (hbr.mono (by have := HW.out; omega)))
      have HVW := Lib.hid hbr
      have HSV1 := Lib.hid (HS1.out.next hbr); have HSV2 := Lib.hid (HS2.out.next hbr); have HSV3 := Lib.hid (HS3.out.next hbr)
      have HY1 := Lib.hid ((hbr.cell (by have := HW.out; simp; omega)).trans HX1.out)
      have HY2 := Lib.hid ((hbr.cell (by have := HW.out; simp; omega)).trans HX2.out)
      have HY0 := Lib.hid hx0
      clear HX0 HX1 HX2 HS1 HS2 HS3 hV hx0 hbr HK HVW
      have HVS : Hid (w.heap.size + 1 ≤ V.heap.size) := hsz
      go_loopw [2, 5] (fun _ i wr => ∃ k : Nat, k ≤ n2 ∧ i = .int .i64 k ∧ Below V.heap.size V wr ∧ Hid (zeroTo (aErr t.zones t.airports) k)) (fun _ i _ => n2 - (intOf i).toNat)
      case atStart => exact ⟨0, Nat.zero_le _, rfl, Below.refl _ _, zeroTo_zero _⟩
      case round =>
        obtain ⟨q, hq, rfl, hbr, HK⟩ := hrel
        have hx1 : wr.cell? ⟨w.heap.size, 1, none⟩ = some (.slice A2 n2 c2) := (hbr.cell (by have := HVS.out; simp; omega)).trans HY1.out
        have hsz2 : w.heap.size + 1 ≤ wr.heap.size := by have := hbr.size; omega
        by_cases hlt2 : q < n2
        · have hsr := HSV2.out.next hbr
          obtain ⟨b, o, rfl, hbS, hc0, hc1⟩ := hsr.airport_at (k := q) (by omega)
          have haok := OK2.out _ (getD_mem0 (show q < t.airports.length by omega) noAirport)
          have HERR : Hid (aErr t.zones t.airports q = if isAirportB (t.airports.getD q noAirport).code = false then 1 else if hasB (aCodes (t.airports.take q)) (t.airports.getD q noAirport).code = true then 7 else if hasB (zNames t.zones) (t.airports.getD q noAirport).zone = false then 6 else 0) := rfl
          have hbl : b < wr.heap.size := by unfold all_ at hbS; omega
          have hbne : b ≠ wr.heap.size := by omega
          generalize hz : t.airports.getD q noAirport = a at *
          have hba : Below wr.heap.size wr (wr.alloc (.cells #[.string a.code, .string a.zone] 66)) := (Below.refl _ _).alloc (Nat.le_refl _) _
          have HSA := Lib.hid ((hsr.next hba).take hq)
          have HSZ := Lib.hid ((HSV1.out.next hbr).next hba)
          have HBA := Lib.hid (hbr.trans (hba.mono hbr.size))
          have g1 : (wr.alloc (.cells #[.string a.code, .string a.zone] 66)).cell? ⟨wr.heap.size, 0, none⟩ = some (.string a.code) := by rw [World.cell?_alloc_at _ _ _ _ rfl]; rfl
          have g2 : (wr.alloc (.cells #[.string a.code, .string a.zone] 66)).cell? ⟨wr.heap.size, 1, none⟩ = some (.string a.zone) := by rw [World.cell?_alloc_at _ _ _ _ rfl]; rfl
          have g3 := cell_kept hx1 hba
          have hx0 : wr.cell? ⟨w.heap.size, 0, none⟩ = some (.slice A1 n1 c1) := (hbr.cell (by have := HVS.out; simp; omega)).trans HY0.out
          have g4 := cell_kept hx0 hba
          have HNM := Lib.hid haok.1
          clear hz haok hsr hba hx0
          go_wp2_with fail
          refine (isAirportR_any a.code _ HNM.out).mono ?_
          rintro e w' ⟨rfl, rfl⟩
          generalize hW1 : wr.alloc (.cells #[.string a.code, .string a.zone] 66) = W1 at *
          clear hW1 hc0 hc1 hx1
          by_cases ha1 : isAirportB a.code = true
          case neg =>
            have ha1' : isAirportB a.code = false := by simpa using ha1
            have HF : Hid (ttE t = 1) := by
              have h9 : aErr t.zones t.airports q = 1 := by rw [HERR.out, if_pos ha1']
              have h8 : firstErr (aErr t.zones t.airports) t.airports.length = 1 := by rw [firstErr_hit HK.out (by rw [h9]; decide) (by omega), h9]
              rw [HR.out, HZ0.out, h8]; rfl
            rw [ha1']
            clear ha1
            go_wp2_with fail
            go_ret
            exact ⟨by rw [HF.out]; rfl, HBV.out.trans (HBA.out.mono (by have := HVS.out; omega))⟩
          rw [ha1]
          have t1 : (0 : Int) ≤ (q : Int) := by omega
          have t2 : (q : Int) ≤ (n2 : Int) := by omega
          have t3 : (q : Int) ≤ (c2 : Int) := by omega
          have t4 : q ≤ c2 := by omega
          by_cases ha2 : hasB (aCodes (t.airports.take q)) a.code = true
          case pos =>
            have hge : 0 ≤ idxOf (aCodes (t.airports.take q)) a.code := by
              have := idxOf_neg (aCodes (t.airports.take q)) a.code
              rw [ha2] at this
              simpa using this
            have HF : Hid (ttE t = 7) := by
              have h9 : aErr t.zones t.airports q = 7 := by rw [HERR.out, if_neg (by rw [ha1]; decide), if_pos ha2]
              have h8 : firstErr (aErr t.zones t.airports) t.airports.length = 7 := by rw [firstErr_hit HK.out (by rw [h9]; decide) (by omega), h9]
              rw [HR.out, HZ0.out, h8]; rfl
            go_wp2_with fail
            go_quiet ((go_at_call 66; exact quiet_left (airportIndex_any (t.airports.take q) a.code _ _ _ _ _ (HSA.out.drewN _))))
            go_wp2_with fail
            go_ret
            exact ⟨by rw [HF.out]; rfl, below_drewN (HBV.out.trans (HBA.out.mono (by have := HVS.out; omega))) _⟩
          have ha2' : hasB (aCodes (t.airports.take q)) a.code = false := by simpa using ha2
          have hn1 := idxOf_none ha2'
          clear ha2
          go_wp2_with fail
          go_quiet ((go_at_call 66; exact quiet_left (airportIndex_any (t.airports.take q) a.code _ _ _ _ _ (HSA.out.drewN _))))
          go_wp2_with fail
          refine (zoneIndex_any t.zones a.zone _ _ _ _ _ (HSZ.out.drewN _)).mono ?_
          rintro e w' ⟨rfl, rfl⟩
          by_cases ha3 : hasB (zNames t.zones) a.zone = true
          case neg =>
            have ha3' : hasB (zNames t.zones) a.zone = false := by simpa using ha3
            have HF : Hid (ttE t = 6) := by
              have h9 : aErr t.zones t.airports q = 6 := by rw [HERR.out, if_neg (by rw [ha1]; decide), if_neg (by rw [ha2']; decide), if_pos ha3']
              have h8 : firstErr (aErr t.zones t.airports) t.airports.length = 6 := by rw [firstErr_hit HK.out (by rw [h9]; decide) (by omega), h9]
              rw [HR.out, HZ0.out, h8]; rfl
            rw [idxOf_none ha3']
            clear ha3 ha3'
            go_wp2_with fail
            go_ret
            exact ⟨by rw [HF.out]; rfl, below_drewN (HBV.out.trans (HBA.out.mono (by have := HVS.out; omega))) _⟩
          have hge3 : 0 ≤ idxOf (zNames t.zones) a.zone := by
            have := idxOf_neg (zNames t.zones) a.zone
            rw [ha3] at this
            simpa using this
          have HZ : Hid (zeroTo (aErr t.zones t.airports) (q + 1)) := zeroTo_succ HK.out (by rw [HERR.out, if_neg (by rw [ha1]; decide), if_neg (by rw [ha2']; decide), if_neg (by rw [ha3]; decide)])
          clear ha3
          go_wp2_with fail
          go_roundw
          case rel => exact ⟨q + 1, by omega, by go_num, below_drewN HBA.out _, HZ⟩
          case measure => simp [intOf]; omega
        · have HA0 : Hid (firstErr (aErr t.zones t.airports) t.airports.length = 0) := firstErr_none (by rw [show t.airports.length = q by omega]; exact HK.out)
          go_wp2_with fail
          generalize hU : wr = U at *
          have HBU := Lib.hid (HBV.out.trans (hbr.mono (by have := HVS.out; omega)))
          have HSU1 := Lib.hid (HSV1.out.next hbr); have HSU2 := Lib.hid (HSV2.out.next hbr); have HSU3 := Lib.hid (HSV3.out.next hbr)
          have HZY0 := Lib.hid ((hbr.cell (by have := HVS.out; simp; omega)).trans HY0.out)
          have HZY1 := Lib.hid hx1
          have HZY2 := Lib.hid ((hbr.cell (by have := HVS.out; simp; omega)).trans HY2.out)
          have HUS : Hid (w.heap.size + 1 ≤ U.heap.size) := hsz2
          clear HY0 HY1 HY2 HSV1 HSV2 HSV3 hU hx1 hbr HK HBV
          go_loopw [2, 7] (fun _ i wr => ∃ k : Nat, k ≤ n3 ∧ i = .int .i64 k ∧ Below U.heap.size U wr ∧ Hid (zeroTo (fErr (aCodes t.airports) t.flights) k)) (fun _ i _ => n3 - (intOf i).toNat)
          case atStart => exact ⟨0, Nat.zero_le _, rfl, Below.refl _ _, zeroTo_zero _⟩
          case round =>
            obtain ⟨r, hr, rfl, hbr, HK⟩ := hrel
            have hx2 : wr.cell? ⟨w.heap.size, 2, none⟩ = some (.slice A3 n3 c3) := (hbr.cell (by have := HUS.out; simp; omega)).trans HZY2.out
            have hx1 : wr.cell? ⟨w.heap.size, 1, none⟩ = some (.slice A2 n2 c2) := (hbr.cell (by have := HUS.out; simp; omega)).trans HZY1.out
            have hx0 : wr.cell? ⟨w.heap.size, 0, none⟩ = some (.slice A1 n1 c1) := (hbr.cell (by have := HUS.out; simp; omega)).trans HZY0.out
            by_cases hlt3 : r < n3
            · have HC := Lib.hid (flightR_any t r A1 A2 A3 n1 n2 n3 c1 c2 c3 wr HT.out (HSU2.out.next hbr) (HSU3.out.next hbr) hlt3)
              go_wp2_with fail
              refine HC.out.mono ?_
              rintro e w2 ⟨rfl, hb2⟩
              have HB2 := Lib.hid (hbr.trans (hb2.mono hbr.size))
              clear hx0 hx1 hx2 HC
              by_cases hz0 : fErr (aCodes t.airports) t.flights r = 0
              · rw [hz0]
                have HZ : Hid (zeroTo (fErr (aCodes t.airports) t.flights) (r + 1)) := zeroTo_succ HK.out hz0
                clear hz0
                go_wp2_with fail
                go_roundw
                case rel => exact ⟨r + 1, by omega, by go_num, HB2.out, HZ⟩
                case measure => simp [intOf]; omega
              · have hne : (fErr (aCodes t.airports) t.flights r != 0) = true := by simpa using hz0
                have HF : Hid (ttE t = fErr (aCodes t.airports) t.flights r) := by
                  have h8 : firstErr (fErr (aCodes t.airports) t.flights) t.flights.length = fErr (aCodes t.airports) t.flights r := firstErr_hit HK.out hz0 (by omega)
                  rw [HR.out, HZ0.out, HA0.out, h8]; rfl
                clear hz0
                go_wp2_with fail
                go_ret
                exact ⟨by rw [HF.out]; rfl, HBU.out.trans (HB2.out.mono (by have := HUS.out; omega))⟩
            · have HF0 : Hid (ttE t = 0) := by
                have h8 : firstErr (fErr (aCodes t.airports) t.flights) t.flights.length = 0 := firstErr_none (by rw [show t.flights.length = r by omega]; exact HK.out)
                rw [HR.out, HZ0.out, HA0.out, h8]; rfl
              go_wp2_with fail
              go_ret
              exact ⟨by rw [HF0.out]; rfl, HBU.out.trans (hbr.mono (by have := HUS.out; omega))⟩
end Go.Proofs.YtldeoaddogifpaaGreatDoor
