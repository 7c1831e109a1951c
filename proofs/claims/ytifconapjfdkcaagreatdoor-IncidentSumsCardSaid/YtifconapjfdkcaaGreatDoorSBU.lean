/-
  Contracts of calendar.DayNumber, matches, number, ParseClock.
  Condition: numbers are small, the string's length fits an int.
-/
import Derived.Test.YtifconapjfdkcaaGreatDoorSBR
import Derived.Test.YtifconapjfdkcaaGreatDoorSBT
namespace Go.Proofs.YtifconapjfdkcaaGreatDoor
set_option linter.unusedSimpArgs false
set_option linter.unusedVariables false
open Go.RowKit

/-- A number and an error's number. -/
def NumPost (x : Int × Int) (w : World) (e : Ending) (w' : World) : Prop := e = .returned (.tuple #[.int .i64 x.1, .int .i64 x.2]) ∧ Below w.heap.size w w'
def dayN (y m d : Int) : Int × Int := if validB y m d = true then (dayB y m d, 0) else (0, 5)
theorem yearSum_succ (k : Nat) : yearSum (k + 1) = yearSum k + yDays (1999 + k) := rfl
theorem monSum_succ (y : Int) (k : Nat) : monSum y (k + 1) = monSum y k + mDays y (1 + k) := rfl
set_option maxRecDepth 100000 in
set_option maxHeartbeats 800000 in
theorem dayNumber_any (y m d : Int) (w : World) (hd : -1000000 ≤ d ∧ d ≤ 1000000) : Calls Tryz.prog 133 #[.agg #[.int .i64 y, .int .i64 m, .int .i64 d]] w (NumPost (dayN y m d) w) := by
  have hb0 := (Below.refl w.heap.size w).alloc (Nat.le_refl _) (.cells #[.int .i64 y, .int .i64 m, .int .i64 d] 145)
  have hr0 := heap_alloc_new w (.cells #[.int .i64 y, .int .i64 m, .int .i64 d] 145)
  have hz0 : (w.alloc (.cells #[.int .i64 y, .int .i64 m, .int .i64 d] 145)).heap.size = w.heap.size + 1 := by simp
  have HB0 := Lib.hid hb0; have HR0 := Lib.hid hr0; have HZ0 := Lib.hid hz0
  have HD : Hid (dayN y m d = if validB y m d = true then (dayB y m d, 0) else (0, 5)) := rfl
  clear hb0 hr0 hz0
  go_enter Tryz.func133, Tryz.ntmps133
  go_wp2_with fail
  generalize w.alloc (.cells #[.int .i64 y, .int .i64 m, .int .i64 d] 145) = W at *
  refine (valid_any y m d W).mono ?_
  rintro e w1 ⟨rfl, hb1⟩
  have hbw1 : Below w.heap.size w w1 := HB0.out.trans (hb1.mono HB0.out.size)
  have hr1 := (hb1.block w.heap.size (by have := HZ0.out; omega)).trans HR0.out
  have hs1 : w.heap.size + 1 ≤ w1.heap.size := by have := hb1.size; have := HZ0.out; omega
  clear hb1
  cases hv : validB y m d
  · have HR : Hid (dayN y m d = (0, 5)) := by show _ = _; rw [HD.out, hv]; rfl
    clear hr1
    go_wp2_with fail
    go_ret2
    exact ⟨by rw [HR.out]; rfl, hbw1⟩
  obtain ⟨⟨y1, y2⟩, ⟨m1, m2⟩, d1, d2⟩ := validB_iff.1 hv
  have hmd := mDays_bd y m
  have HR : Hid (dayN y m d = (-365 + yearSum (y - 1999).toNat + monSum y (m - 1).toNat + d - 1, 0)) := by show _ = _; rw [HD.out, hv]; rfl
  obtain ⟨Y, hY⟩ := Int.eq_ofNat_of_zero_le (show 0 ≤ y - 1999 by omega)
  obtain ⟨M, hM⟩ := Int.eq_ofNat_of_zero_le (show 0 ≤ m - 1 by omega)
  rw [hY, hM, Int.toNat_natCast, Int.toNat_natCast] at HR
  obtain rfl : y = 1999 + Y := by omega
  obtain rfl : m = 1 + M := by omega
  have hYl : Y ≤ 101 := by omega
  have hMl : M ≤ 11 := by omega
  have x0 := block_cell hr1 0; have x1 := block_cell hr1 1; have x2 := block_cell hr1 2
  have HR1 := Lib.hid hr1
  have HY0 : Hid ((-365 : Int) = -365 + yearSum 0) := rfl
  clear hr1 hY hM hv hmd HD
  go_wp2_with fail
  go_loop [4, 5] (fun nv yv => ∃ k : Nat, k ≤ Y ∧ yv = .int .i64 (1999 + k) ∧ nv = .int .i64 (-365 + yearSum k)) (fun _ yv => Y - (intOf yv - 1999).toNat)
  case atStart => exact ⟨0, Nat.zero_le _, rfl, by rw [← HY0.out]⟩
  case round =>
    obtain ⟨k, hk, rfl, rfl⟩ := hrel
    have hyb := yearSum_bd k
    by_cases hlt : k < Y
    · have HS := Lib.hid (yearSum_succ k)
      have hyd := yDays_bd (1999 + k)
      have HC := Lib.hid (yearDays_any (1999 + k) w1 (by omega) (by omega))
      have hlt' : (1999 : Int) + k < 1999 + Y := by omega
      generalize yearSum k = ys at *
      generalize yDays (1999 + k) = yd at *
      go_wp2_with fail
      refine HC.out.mono ?_
      rintro e w' ⟨rfl, rfl⟩
      go_wp2_with fail
      go_round
      case rel => exact ⟨k + 1, by omega, by go_num, by rw [HS.out]; congr 1; omega⟩
      case measure => simp [intOf]; omega
    · have hkY : k = Y := by omega
      subst hkY
      have hnl : ¬ (1999 : Int) + k < 1999 + k := by omega
      have HM0 : Hid ((-365 : Int) + yearSum k = -365 + yearSum k + monSum (1999 + k) 0) := by show _ = _; rw [show monSum (1999 + k) 0 = 0 from rfl]; omega
      go_wp2_with fail
      go_loopw [4, 6] (fun nv mv wr => ∃ q : Nat, q ≤ M ∧ mv = .int .i64 (1 + q) ∧ nv = .int .i64 (-365 + yearSum k + monSum (1999 + k) q) ∧ Below (w.heap.size + 1) w1 wr) (fun _ mv _ => M - (intOf mv - 1).toNat)
      case atStart => exact ⟨0, Nat.zero_le _, rfl, by rw [← HM0.out], Below.refl _ _⟩
      case round =>
        obtain ⟨q, hq, rfl, rfl, hbr⟩ := hrel
        have hmb := monSum_bd (1999 + k) q
        have hr2 := (hbr.block w.heap.size (by omega)).trans HR1.out
        have z0 := block_cell hr2 0; have z1 := block_cell hr2 1; have z2 := block_cell hr2 2
        have hszr := hbr.size
        clear hr2
        by_cases hltq : q < M
        · have HS := Lib.hid (monSum_succ (1999 + k) q)
          have hyd := mDays_bd (1999 + k) (1 + q)
          have HC := Lib.hid (monthDays_any (1999 + k) (1 + q) wr (by omega) (by omega) (by omega) (by omega))
          have hlt' : (1 : Int) + q < 1 + M := by omega
          generalize monSum (1999 + k) q = ms at *
          generalize mDays (1999 + k) (1 + q) = md at *
          generalize yearSum k = ys at *
          go_wp2_with fail
          refine HC.out.mono ?_
          rintro e w5 ⟨rfl, hb5⟩
          have hbr5 : Below (w.heap.size + 1) w1 w5 := hbr.trans (hb5.mono (by omega))
          clear hb5
          go_wp2_with fail
          go_roundw
          case rel => exact ⟨q + 1, by omega, by go_num, by rw [HS.out]; congr 1; omega, hbr5⟩
          case measure => simp [intOf]; omega
        · have hqM : q = M := by omega
          subst hqM
          have hnl2 : ¬ (1 : Int) + q < 1 + q := by omega
          have hbF : Below w.heap.size w wr := hbw1.trans (hbr.mono (by omega))
          generalize hms : monSum (1999 + k) q = ms at *
          generalize hys : yearSum k = ys at *
          clear hms hys
          go_wp2_with fail
          go_ret2
          exact ⟨by rw [HR.out]; rfl, hbF⟩
theorem mAt_eq (s p : ByteArray) (i : Nat) : mAt s p i = if byteAt p i = 48 then digAt s i else decide (byteAt s i = byteAt p i) := rfl
set_option maxRecDepth 100000 in
set_option maxHeartbeats 800000 in
theorem matches_any (s p : ByteArray) (w : World) (hs : s.size ≤ maxLen) : Calls Tryz.prog 130 #[.string s, .string p] w (BoolPostC (matchB s p) w) := by
  unfold maxLen at hs
  have HM : Hid (matchB s p = (decide (s.size = p.size) && allTo (mAt s p) s.size)) := rfl
  by_cases hz : s.size = p.size
  case neg =>
    have hz' : ((s.size : Int) != (p.size : Int)) = true := by simp; omega
    have HR : Hid (matchB s p = false) := by show _ = _; rw [HM.out, decide_eq_false hz]; rfl
    clear hz
    go_enter Tryz.func130, Tryz.ntmps130
    go_wp2_with fail
    go_ret
    exact ⟨ret_bool HR.out.symm, Below.refl _ _⟩
  have hz' : ((s.size : Int) != (p.size : Int)) = false := by simp; omega
  have HR : Hid (matchB s p = allTo (mAt s p) s.size) := by show _ = _; rw [HM.out, decide_eq_true hz]; rfl
  have HZ := Lib.hid hz
  clear hz HM
  go_enter Tryz.func130, Tryz.ntmps130
  go_wp2_with fail
  go_loopw [4, 5, 13] (fun _ _ i wr => ∃ k : Nat, k ≤ s.size ∧ i = .int .i64 k ∧ Below w.heap.size w wr ∧ Hid (allTo (mAt s p) k = true)) (fun _ _ i _ => s.size - (intOf i).toNat)
  case atStart => exact ⟨0, Nat.zero_le _, rfl, Below.refl _ _, allTo_zero _⟩
  case round =>
    obtain ⟨k, hk, rfl, hbr, HK⟩ := hrel
    by_cases hlt : k < s.size
    · have hkp : k < p.size := by have := HZ.out; omega
      have HBS := Lib.hid (byteAt_eq s k hlt)
      have HBP := Lib.hid (byteAt_eq p k hkp)
      have HMA := Lib.hid (mAt_eq s p k)
      have HD : Hid (∀ q, Below w.heap.size w (wr.drewN q)) := fun q => below_drewN hbr q
      have HN : Hid (mAt s p k = true → allTo (mAt s p) (k + 1) = true) := fun h => by rw [allTo_succ, HK.out, h]; rfl
      have HF : Hid (mAt s p k = false → matchB s p = false) := fun h => by rw [HR.out]; exact allTo_false hlt h
      have hks : (k : Int) < (s.size : Int) := by omega
      have hkp' : (k : Int) < (p.size : Int) := by omega
      have hk0 : (0 : Int) ≤ (k : Int) := by omega
      by_cases hp : byteAt p k = 48
      · have hp' : ((p[k].toNat : Int) == 48) = true := by rw [HBP.out]; simpa using hp
        rw [if_pos hp] at HMA
        by_cases hdg : digAt s k = true
        · have hdd := hdg
          unfold digAt numberI at hdd
          simp only [Bool.and_eq_true, decide_eq_true_eq] at hdd
          have l1 : 48 ≤ (s[k].toNat : Int) := by rw [HBS.out]; exact hdd.1
          have l2 : (s[k].toNat : Int) ≤ 57 := by rw [HBS.out]; exact hdd.2
          have HN2 := Lib.hid (HN.out (by rw [HMA.out]; exact hdg))
          clear hdd hdg hp
          go_wp2_with fail
          go_roundw
          case rel => exact ⟨k + 1, by omega, by go_num, hbr, HN2⟩
          case measure => simp [intOf]; omega
        · have hdd : digAt s k = false := by simpa using hdg
          have HF2 := Lib.hid (HF.out (by rw [HMA.out]; exact hdd))
          unfold digAt numberI at hdd
          rw [← HBS.out] at hdd
          simp only [Bool.and_eq_false_iff, decide_eq_false_iff_not] at hdd
          have hcs : (s[k].toNat : Int) < 48 ∨ (¬ (s[k].toNat : Int) < 48 ∧ 57 < (s[k].toNat : Int)) := by omega
          clear hdd hdg hp
          rcases hcs with h | ⟨h, h'⟩
          all_goals
            go_wp2_with fail
            go_ret
            exact ⟨ret_bool HF2.out.symm, hbr⟩
      · have hp' : ((p[k].toNat : Int) == 48) = false := by rw [HBP.out]; simpa using hp
        rw [if_neg hp] at HMA
        by_cases hq : byteAt s k = byteAt p k
        · have hq' : ((s[k].toNat : Int) != (p[k].toNat : Int)) = false := by rw [HBS.out, HBP.out]; simpa using hq
          have HN2 := Lib.hid (HN.out (by rw [HMA.out]; exact decide_eq_true hq))
          clear hq hp
          go_wp2_with fail
          go_quiet (fail)
          go_wp2_with fail
          go_roundw
          case rel => exact ⟨k + 1, by omega, by go_num, HD.out _, HN2⟩
          case measure => simp [intOf]; omega
        · have hq' : ((s[k].toNat : Int) != (p[k].toNat : Int)) = true := by rw [HBS.out, HBP.out]; simpa using hq
          have HF2 := Lib.hid (HF.out (by rw [HMA.out]; exact decide_eq_false hq))
          clear hq hp
          go_wp2_with fail
          go_quiet (fail)
          go_wp2_with fail
          go_ret
          exact ⟨ret_bool HF2.out.symm, HD.out _⟩
    · have hks : k = s.size := by omega
      subst hks
      have HF2 : Hid (matchB s p = true) := by show _ = _; rw [HR.out]; exact HK.out
      go_wp2_with fail
      go_ret
      exact ⟨ret_bool HF2.out.symm, hbr⟩
theorem calNumber_any (s : ByteArray) (w : World) (hs : s.size ≤ 11) (hd : allTo (digAt s) s.size = true) : Calls Tryz.prog 171 #[.string s] w fun e w' => e = .returned (.int .i64 (numTo s s.size)) ∧ w = w' := by
  have HDG := Lib.hid (allTo_iff.1 hd)
  clear hd
  go_enter Tryz.func171, Tryz.ntmps171
  go_wp2_with fail
  go_loop [3, 4, 7] (fun n _ i => ∃ k : Nat, k ≤ s.size ∧ n = .int .i64 (numTo s k) ∧ i = .int .i64 k) (fun _ _ i => s.size - (intOf i).toNat)
  case atStart => exact ⟨0, by omega, rfl, rfl⟩
  case round =>
    obtain ⟨k, hk, rfl, rfl⟩ := hrel
    obtain ⟨hn1, hn2⟩ := numTo_bd s k (allTo_iff.2 fun i hi => HDG.out i (by omega))
    have hb : bnd k ≤ 99999999999 := bnd_mono (k := 11) (by omega)
    by_cases hlt : k < s.size
    · have HB := Lib.hid (byteAt_eq s k hlt)
      have hdd := HDG.out k hlt
      unfold digAt numberI at hdd
      simp only [Bool.and_eq_true, decide_eq_true_eq] at hdd
      have l1 : 48 ≤ (s[k].toNat : Int) := by rw [HB.out]; exact hdd.1
      have l2 : (s[k].toNat : Int) ≤ 57 := by rw [HB.out]; exact hdd.2
      have HN : Hid (numTo s (k + 1) = 10 * numTo s k + ((s[k].toNat : Int) - 48)) := by show _ = _; rw [HB.out]; rfl
      clear hdd
      go_wp2_with fail
      go_round
      case rel => exact ⟨k + 1, by omega, by rw [HN.out], by go_num⟩
      case measure => simp [intOf]; omega
    · obtain rfl : k = s.size := by omega
      go_wp2_with fail
      go_ret
      exact ⟨rfl, rfl⟩
end Go.Proofs.YtifconapjfdkcaaGreatDoor
