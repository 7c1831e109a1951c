/-
  Joined texts: FmtRef; FmtRef2; DurRef; RegionR; PBox; RefFields; Lines; TParse; RefLines; TSwitch; Nine; RegionT. What each proves stands ahead of it, with its conditions.
-/
import Derived.Test.YtldeoaddogifpaaGreatDoorMEA
import Derived.Test.YtldeoaddogifpaaGreatDoorMEB
import Derived.Test.YtldeoaddogifpaaGreatDoorRegion
import Derived.Test.YtldeoaddogifpaaGreatDoorReader
import Derived.Deep.RegionLaw
import Derived.Test.YtldeoaddogifpaaGreatDoorValidate
import Derived.Test.YtldeoaddogifpaaGreatDoorValidateRef
import Derived.Laws.Tables
/-
  Contracts of the reference's two, floor, SplitMinute and DateOf.
  Condition: the numbers are small and not negative; the table of powers of ten is laid.
-/
namespace Go.Proofs.YtldeoaddogifpaaGreatDoor
set_option linter.unusedSimpArgs false
set_option linter.unusedVariables false
open Go.RowKit

set_option maxRecDepth 100000 in
set_option maxHeartbeats 800000 in
theorem twoR_any (n d : Int) (w : World) (h0 : 0 ≤ n) (h1 : n ≤ 9999) (hd : d ≤ ((numS n).size : Int) + 1) (hd0 : 0 ≤ d) (hp : Pow10 w) :
    Calls Tryz.prog 111 #[.int .i64 n, .int .i64 d] w (StrB (padB n d.toNat) w) := by
  have HF : Hid (Calls Tryz.prog 30 #[.int .i64 n] w fun e w' => e = .returned (.string (numS n)) ∧ Below w.heap.size w w') := formatIntR_any n w (by omega) (by omega) hp
  have hz := numS_size h0 h1
  have HP : Hid (padB n d.toNat = if (numS n).size < d.toNat then zS ++ numS n else numS n) := rfl
  generalize numS n = s at *
  go_enter Tryz.func111, Tryz.ntmps111
  go_wp2_with fail
  refine HF.out.mono ?_
  rintro e w1 ⟨rfl, hb1⟩
  have HB1 := Lib.hid hb1
  clear hb1 HF
  go_wp2_with fail
  go_loop [5] (fun sv => ∃ x : ByteArray, sv = .string x ∧ (x = s ∨ (x = zS ++ s ∧ (s.size : Int) < d)) ∧ s.size ≤ x.size ∧ x.size ≤ s.size + 1) (fun sv => 100 - (match sv with | .string x => x.size | _ => 0))
  case atStart => exact ⟨s, rfl, .inl rfl, Nat.le_refl _, by omega⟩
  case round =>
    obtain ⟨x, rfl, hx, hx1, hx2⟩ := hrel
    by_cases hlt : (x.size : Int) < d
    · have hxs : x = s := by
        rcases hx with h | ⟨h, _⟩
        · exact h
        · exfalso
          have : x.size = s.size + 1 := by rw [h, ByteArray.size_append, show zS.size = 1 from rfl]; omega
          omega
      subst hxs
      have q3 : ¬ 9223372036854775807 < 1 + x.size := by omega
      have hzz : (zS ++ x).size = x.size + 1 := by rw [ByteArray.size_append, show zS.size = 1 from rfl]; omega
      have HZZ := Lib.hid hzz
      clear hx hzz
      go_wp2_with fail
      go_round
      case rel => exact ⟨zS ++ x, rfl, .inr ⟨rfl, hlt⟩, by have := HZZ.out; omega, by have := HZZ.out; omega⟩
      case measure =>
        have := HZZ.out
        show 100 - (zS ++ x).size < 100 - x.size
        omega
    · have HR : Hid (padB n d.toNat = x) := by
        show _ = _
        rw [HP.out]
        rcases hx with h | ⟨h, h2⟩
        · rw [if_neg (by subst h; omega), h]
        · rw [if_pos (by omega), h]
      clear hx
      go_wp2_with fail
      go_ret
      exact ⟨by rw [HR.out]; rfl, HB1.out⟩
theorem floorR_any (t : Int) (w : World) (h0 : 0 ≤ t) (h1 : t < 52596000) : Calls Tryz.prog 143 #[.int .i64 t, .int .i64 1440] w fun e w' => e = .returned (.int .i64 (t / 1440)) ∧ w = w' := by
  have q1 : t.tdiv 1440 = t / 1440 := Int.tdiv_eq_ediv_of_nonneg h0
  have q2 : t.tmod 1440 = t % 1440 := Int.tmod_eq_emod_of_nonneg h0
  have q3 : IntKind.i64.wrap (t / 1440) = t / 1440 := IntWalk.i64_in _ (by omega)
  have q4 : IntKind.i64.wrap (t % 1440) = t % 1440 := IntWalk.i64_in _ (by omega)
  have q5 : ¬ t % 1440 < 0 := by omega
  go_enter Tryz.func143, Tryz.ntmps143
  go_wp2_with fail
  go_ret
  exact ⟨rfl, rfl⟩
theorem splitMinuteR_any (t : Int) (w : World) (h0 : 0 ≤ t) (h1 : t < 52596000) : Calls Tryz.prog 112 #[.int .i64 t] w fun e w' => e = .returned (.tuple #[.int .i64 (t / 1440), .int .i64 (t % 1440)]) ∧ w = w' := by
  have HF := Lib.hid (floorR_any t w h0 h1)
  have q1 : IntKind.i64.wrap (1440 * (t / 1440)) = 1440 * (t / 1440) := IntWalk.i64_in _ (by omega)
  have q2 : t - 1440 * (t / 1440) = t % 1440 := by omega
  have q3 : IntKind.i64.wrap (t % 1440) = t % 1440 := IntWalk.i64_in _ (by omega)
  go_enter Tryz.func112, Tryz.ntmps112
  go_wp2_with fail
  refine HF.out.mono ?_
  rintro e w' ⟨rfl, rfl⟩
  go_wp2_with fail
  go_ret2
  exact ⟨rfl, rfl⟩
theorem dayN_last : dayN 2100 12 31 = (36889, 0) := by decide +kernel
set_option maxRecDepth 100000 in
set_option maxHeartbeats 1600000 in
theorem dateOfR_any (day : Int) (w : World) (h0 : 0 ≤ day) (h1 : day ≤ 36889) : Calls Tryz.prog 113 #[.int .i64 day] w (DayPost day w) := by
  have hb0 := (Below.refl w.heap.size w).alloc (Nat.le_refl _) (.cells #[.int .i64 0, .int .i64 0, .int .i64 0] 133)
  have hr0 := heap_alloc_new w (.cells #[.int .i64 0, .int .i64 0, .int .i64 0] 133)
  have hz0 : w.heap.size < (w.alloc (.cells #[.int .i64 0, .int .i64 0, .int .i64 0] 133)).heap.size := by simp
  have HB0 := Lib.hid hb0; have HR0 := Lib.hid hr0; have HZ0 := Lib.hid hz0
  clear hb0 hr0 hz0
  have c1 : ¬ day < -365 := by omega
  have c2 : ¬ (36889 : Int) < day := by omega
  have c3 : IntKind.i64.wrap (day + 365) = day + 365 := IntWalk.i64_in _ (by omega)
  go_enter Tryz.func113, Tryz.ntmps113
  go_wp2_with fail
  generalize w.alloc (.cells #[.int .i64 0, .int .i64 0, .int .i64 0] 133) = W at *
  refine (dayNumberR_any 2100 12 31 W ⟨by decide, by decide⟩).mono ?_
  rw [dayN_last]
  rintro e w1 ⟨rfl, hb1⟩
  have hbw : Below w.heap.size w w1 := HB0.out.trans (hb1.mono HB0.out.size)
  have hr1 := (hb1.block w.heap.size HZ0.out).trans HR0.out
  have HBW := Lib.hid hbw; have HR1 := Lib.hid hr1
  clear hb1 hbw hr1 HB0 HR0 HZ0
  go_wp2_with fail
  go_loop [6, 7, 8, 9, 10] (fun r y _ _ _ => ∃ k : Nat, k ≤ 102 ∧ r = .int .i64 (day + 365 - yearSum k) ∧ y = .int .i64 (1999 + k) ∧ 0 ≤ day + 365 - yearSum k) (fun _ y _ _ _ => 2200 - (intOf y).toNat)
  case atStart => exact ⟨0, by omega, by simp [yearSum, sumTo], rfl, by simp [yearSum, sumTo]; omega⟩
  case round =>
    obtain ⟨k, hk, rfl, rfl, hr⟩ := hrel
    have hk2 : k < 102 := by
      rcases Nat.lt_or_ge k 102 with h | h
      · exact h
      · exfalso
        have e : k = 102 := by omega
        subst e
        rw [yearSum_last] at hr
        omega
    have l1 : 1999 + (k : Int) ≤ 2100 := by omega
    have HS : Hid (yearSum (k + 1) = yearSum k + yDays (1999 + k)) := rfl
    have hbs := yearSum_bd k
    have HYV : Hid (yDays (1999 + k) = monSum (1999 + k) 12) := (monSum_year _).symm
    have HDB : Hid (∀ (j : Nat) (d : Int), dayB (1999 + k) (1 + j) d = -365 + yearSum k + monSum (1999 + k) j + d - 1) := fun j d => by
      unfold dayB
      have e1 : (1999 + (k : Int) - 1999).toNat = k := by omega
      have e2 : (1 + (j : Int) - 1).toNat = j := by omega
      rw [e1, e2]
    have HVB : Hid (∀ (j : Nat) (d : Int), j ≤ 11 → 1 ≤ d → d ≤ mDays (1999 + k) (1 + j) → validB (1999 + k) (1 + j) d = true) := fun j d hj a b => validB_iff.2 ⟨⟨by omega, by omega⟩, ⟨by omega, by omega⟩, a, b⟩
    have HDM : Hid (∀ j : Nat, j ≤ 11 → Calls Tryz.prog 141 #[.int .i64 (1999 + k), .int .i64 (1 + j)] w1 fun e w' => e = .returned (.tuple #[.int .i64 (mDays (1999 + k) (1 + j)), .int .i64 0]) ∧ w1 = w') := fun j hj => by
      have := daysInMonthR_any (1999 + k) (1 + j) w1
      have e : dimB (1999 + k) (1 + j) = (mDays (1999 + k) (1 + j), 0) := by unfold dimB; rw [if_neg (by omega)]
      rw [e] at this
      exact this
    have q9 : IntKind.i64.wrap (1999 + (k : Int) + 1) = 1999 + (k : Int) + 1 := IntWalk.i64_in _ (by omega)
    have HNX : Hid (day + 365 - yearSum k - monSum (1999 + k) 12 = day + 365 - yearSum (k + 1)) := by show _ = _; rw [HS.out, HYV.out]; omega
    obtain ⟨ys, hys⟩ : ∃ ys, yearSum k = ys := ⟨_, rfl⟩
    rw [hys] at hr hbs HDB HNX ⊢
    obtain ⟨yy, hyy⟩ : ∃ yy : Int, 1999 + (k : Int) = yy := ⟨_, rfl⟩
    have HYY := Lib.hid hyy
    rw [hyy] at HDB HVB HDM HNX l1 q9 ⊢
    have hyb : 0 ≤ yy ∧ yy ≤ 100000 := by omega
    clear hys HS HYV hyy
    go_wp2_with fail
    go_loop [6, 8, 9, 10] (fun r m _ _ => ∃ j : Nat, j ≤ 12 ∧ r = .int .i64 (day + 365 - ys - monSum yy j) ∧ m = .int .i64 (1 + j) ∧ 0 ≤ day + 365 - ys - monSum yy j) (fun _ m _ _ => 100 - (intOf m).toNat)
    case atStart => exact ⟨0, by omega, by simp [monSum, sumTo], rfl, by simp [monSum, sumTo]; omega⟩
    case round =>
      obtain ⟨j, hj, rfl, rfl, hr2⟩ := hrel
      by_cases hj2 : j ≤ 11
      · have m1 : 1 + (j : Int) ≤ 12 := by omega
        have HM := Lib.hid (HDM.out j hj2)
        have HS : Hid (monSum yy (j + 1) = monSum yy j + mDays yy (1 + j)) := rfl
        have hmb := monSum_bd yy j
        have hmd := mDays_bd yy (1 + j)
        have HDB2 := Lib.hid (HDB.out j (day + 365 - ys - monSum yy j + 1))
        have HVB2 := Lib.hid (HVB.out j (day + 365 - ys - monSum yy j + 1) hj2)
        by_cases hlt : day + 365 - ys - monSum yy j < mDays yy (1 + j)
        · have q1 : IntKind.i64.wrap (day + 365 - ys - monSum yy j + 1) = day + 365 - ys - monSum yy j + 1 := IntWalk.i64_in _ (by omega)
          have HV3 : Hid (validB yy (1 + j) (day + 365 - ys - monSum yy j + 1) = true) := HVB2.out (by omega) (by omega)
          have HD3 : Hid (dayB yy (1 + j) (day + 365 - ys - monSum yy j + 1) = day) := by show _ = _; rw [HDB2.out]; omega
          have hr3 := HR1.out
          have z0 := block_cell hr3 0; have z1 := block_cell hr3 1; have z2 := block_cell hr3 2
          have f0 := block_free hr3 0; have f1 := block_free hr3 1; have f2 := block_free hr3 2
          clear HVB HDB HVB2 HDB2 HS hr3
          generalize mDays yy (1 + j) = md at *
          generalize hms : monSum yy j = ms at *
          obtain ⟨dd, hdd⟩ : ∃ dd : Int, day + 365 - ys - ms + 1 = dd := ⟨_, rfl⟩
          rw [hdd] at q1 HV3 HD3
          clear hms
          go_wp2_with fail
          refine HM.out.mono ?_
          rintro e w' ⟨rfl, rfl⟩
          go_wp2_with fail
          refine bodyPost_ret (v := .tuple #[.agg #[.int .i64 yy, .int .i64 (1 + j), .int .i64 dd], .int .i64 0]) (by simp [results, Tryz.results113, go_sem, z0, z1, z2]) rfl ?_
          exact ⟨yy, 1 + j, dd, rfl, HV3.out, HD3.out, ((HBW.out.setCell (Nat.le_refl _) _).setCell (Nat.le_refl _) _).setCell (Nat.le_refl _) _⟩
        · have q1 : IntKind.i64.wrap (day + 365 - ys - monSum yy j - mDays yy (1 + j)) = day + 365 - ys - monSum yy j - mDays yy (1 + j) := IntWalk.i64_in _ (by omega)
          have q2 : IntKind.i64.wrap (1 + (j : Int) + 1) = 1 + (j : Int) + 1 := IntWalk.i64_in _ (by omega)
          have HE : Hid (day + 365 - ys - monSum yy j - mDays yy (1 + j) = day + 365 - ys - monSum yy (j + 1)) := by show _ = _; rw [HS.out]; omega
          clear HVB2 HDB2 HS
          generalize mDays yy (1 + j) = md at *
          generalize hms : monSum yy j = ms at *
          go_wp2_with fail
          refine HM.out.mono ?_
          rintro e w' ⟨rfl, rfl⟩
          go_wp2_with fail
          go_round
          case rel => exact ⟨j + 1, by omega, by rw [HE.out], by go_num, by rw [← HE.out]; omega⟩
          case measure => simp [intOf]; omega
      · have e : j = 12 := by omega
        subst e
        have m1 : ¬ (1 + ((12 : Nat) : Int)) ≤ 12 := by decide
        rw [HNX.out] at hr2 ⊢
        have HR2 := Lib.hid hr2
        clear hr2
        generalize hyn : yearSum (k + 1) = yn at *
        go_wp2_with fail
        go_round
        case rel => exact ⟨k + 1, by omega, by rw [hyn], by rw [← HYY.out]; go_num, by rw [hyn]; exact HR2.out⟩
        case measure => have := HYY.out; simp [intOf]; omega
end Go.Proofs.YtldeoaddogifpaaGreatDoor
/-
  Contracts of the reference's FormatDate, FormatClock, FormatInstant, and of pairingref9's instant (the text).
  Condition: the date is valid, the instant lies in the calendar; the table of powers of ten is laid.
-/
namespace Go.Proofs.YtldeoaddogifpaaGreatDoor
set_option linter.unusedSimpArgs false
set_option linter.unusedVariables false
open Go.RowKit

set_option maxRecDepth 100000 in
set_option maxHeartbeats 1600000 in
theorem formatDateR_any (y m d : Int) (w : World) (hv : validB y m d = true) (hp : Pow10 w) : Calls Tryz.prog 114 #[.agg #[.int .i64 y, .int .i64 m, .int .i64 d]] w (TxtB (fmtDate y m d) w) := by
  obtain ⟨v1, v2, v3, v4⟩ := validB_iff.1 hv
  have v5 := mDays_bd y m
  have hb0 := (Below.refl w.heap.size w).alloc (Nat.le_refl _) (.cells #[.int .i64 y, .int .i64 m, .int .i64 d] 133)
  have hr0 := heap_alloc_new w (.cells #[.int .i64 y, .int .i64 m, .int .i64 d] 133)
  have HB0 := Lib.hid hb0; have HR0 := Lib.hid hr0
  have HPW : Hid (∀ V, Below w.heap.size w V → Pow10 V) := fun V hV => hp.next hV
  have n1 : ((numS y).size : Int) = 4 := by
    have e := numS_four (n := y.toNat) (by omega) (by omega)
    rw [show ((y.toNat : Nat) : Int) = y by omega] at e
    rw [e, bs_size]; rfl
  have n2 := numS_size (n := m) (by omega) (by omega)
  have n3 := numS_size (n := d) (by omega) (by omega)
  have HP1 : Hid (∀ V, Below w.heap.size w V → Calls Tryz.prog 111 #[.int .i64 y, .int .i64 4] V (StrB (padB y 4) V)) := fun V hV => twoR_any y 4 V (by omega) (by omega) (by omega) (by omega) (HPW.out V hV)
  have HP2 : Hid (∀ V, Below w.heap.size w V → Calls Tryz.prog 111 #[.int .i64 m, .int .i64 2] V (StrB (padB m 2) V)) := fun V hV => twoR_any m 2 V (by omega) (by omega) (by omega) (by omega) (HPW.out V hV)
  have HP3 : Hid (∀ V, Below w.heap.size w V → Calls Tryz.prog 111 #[.int .i64 d, .int .i64 2] V (StrB (padB d 2) V)) := fun V hV => twoR_any d 2 V (by omega) (by omega) (by omega) (by omega) (HPW.out V hV)
  have s1 := padB_size (n := y) (d := 4) (by omega) (by omega)
  have s2 := padB_size (n := m) (d := 2) (by omega) (by omega)
  have s3 := padB_size (n := d) (d := 2) (by omega) (by omega)
  have HQ : Hid (fmtDate y m d = padB y 4 ++ dashS ++ padB m 2 ++ dashS ++ padB d 2) := rfl
  rw [HQ.out]
  have HV := Lib.hid hv
  generalize padB y 4 = P1 at *
  generalize padB m 2 = P2 at *
  generalize padB d 2 = P3 at *
  obtain ⟨X3, hX3⟩ : ∃ X, P1 ++ dashS = X := ⟨_, rfl⟩
  obtain ⟨X7, hX7⟩ : ∃ X, X3 ++ P2 = X := ⟨_, rfl⟩
  obtain ⟨X8, hX8⟩ : ∃ X, X7 ++ dashS = X := ⟨_, rfl⟩
  obtain ⟨X12, hX12⟩ : ∃ X, X8 ++ P3 = X := ⟨_, rfl⟩
  have t3 : X3.size ≤ 30 := by rw [← hX3, ByteArray.size_append, show dashS.size = 1 from rfl]; omega
  have t7 : X7.size ≤ 60 := by rw [← hX7, ByteArray.size_append]; omega
  have t8 : X8.size ≤ 61 := by rw [← hX8, ByteArray.size_append, show dashS.size = 1 from rfl]; omega
  rw [hX3, hX7, hX8, hX12]
  have HX3 := Lib.hid hX3; have HX7 := Lib.hid hX7; have HX8 := Lib.hid hX8; have HX12 := Lib.hid hX12
  have q1 : ¬ 9223372036854775807 < P1.size + 1 := by omega
  have q2 : ¬ 9223372036854775807 < X3.size + P2.size := by omega
  have q3 : ¬ 9223372036854775807 < X7.size + 1 := by omega
  have q4 : ¬ 9223372036854775807 < X8.size + P3.size := by omega
  clear hb0 hr0 hX3 hX7 hX8 hX12 hv HQ v1 v2 v3 v4 v5 n1 n2 n3
  go_enter Tryz.func114, Tryz.ntmps114
  go_wp2_with fail
  generalize w.alloc (.cells #[.int .i64 y, .int .i64 m, .int .i64 d] 133) = W at *
  refine (isDateR_any y m d W).mono ?_
  rw [HV.out]
  rintro e w1 ⟨rfl, hb1⟩
  have hWp : Below w.heap.size w w1 := HB0.out.trans (hb1.mono HB0.out.size)
  have hr1 := (hb1.block w.heap.size (Array.getElem?_eq_some_iff.1 HR0.out).1).trans HR0.out
  obtain ⟨B, hB⟩ : ∃ B, w.heap.size = B := ⟨_, rfl⟩
  rw [hB] at hr1
  have z0 := block_cell hr1 0; have z1 := block_cell hr1 1; have z2 := block_cell hr1 2
  rw [hB]
  clear hr1 hb1 hB
  go_upto_region 3 with (fail)
  refine wp_region_facts 13 [7, 8, 9, 10, 11, 12, 13, 14, 15, 16, 17, 18, 19] (fun i v _ => ([(.pointer (some ⟨B, 0, none⟩) : Value), (.int .i64 y : Value), (.string P1 : Value), (.string X3 : Value), (.pointer (some ⟨B, 1, none⟩) : Value), (.int .i64 m : Value), (.string P2 : Value), (.string X7 : Value), (.string X8 : Value), (.pointer (some ⟨B, 2, none⟩) : Value), (.int .i64 d : Value), (.string P3 : Value), (.string X12 : Value)] : List Value)[i]? = some v) (by kernel_rfl) (by kernel_rfl) (by kernel_rfl) (by kernel_rfl) (by kernel_rfl) (fun _ _ _ _ h _ => h) ?_ ?_
  · intro q o' hq ho a' w' hb' hout hpre K hK
    have hq' : q = 0 ∨ q = 1 ∨ q = 2 ∨ q = 3 ∨ q = 4 ∨ q = 5 ∨ q = 6 ∨ q = 7 ∨ q = 8 ∨ q = 9 ∨ q = 10 ∨ q = 11 ∨ q = 12 := by omega
    rcases hq' with rfl | rfl | rfl | rfl | rfl | rfl | rfl | rfl | rfl | rfl | rfl | rfl | rfl
    · obtain rfl := Option.some.inj ho
      have e1 : a'.tmps[1]? = some (.pointer (some ⟨B, 0, none⟩)) := hout 1 (by decide)
      go_simp
      exact hK (.pointer (some ⟨B, 0, none⟩)) w' rfl (Below.refl _ _)
    · obtain rfl := Option.some.inj ho
      have p0 : a'.tmps.getD 7 undef = .pointer (some ⟨B, 0, none⟩) := (Option.some.inj (hpre ⟨0, .data⟩ (by simp) 7 rfl)).symm
      simp only [Array.getD_eq_getD_getElem?] at p0
      have c0 := cell_kept z0 hb'
      go_simp
      exact hK (.int .i64 y) w' rfl (Below.refl _ _)
    · obtain rfl := Option.some.inj ho
      have p1 : a'.tmps.getD 8 undef = .int .i64 y := (Option.some.inj (hpre ⟨1, .data⟩ (by simp) 8 rfl)).symm
      simp only [Array.getD_eq_getD_getElem?] at p1
      go_simp
      go_at_call 111
      refine (HP1.out w' (hWp.trans (hb'.mono hWp.size))).mono ?_
      rintro e w'' ⟨rfl, hb''⟩
      exact hK _ _ rfl hb''
    · obtain rfl := Option.some.inj ho
      have p2 : a'.tmps.getD 9 undef = .string P1 := (Option.some.inj (hpre ⟨2, .data⟩ (by simp) 9 rfl)).symm
      simp only [Array.getD_eq_getD_getElem?] at p2
      go_simp
      exact hK _ _ (congrArg (fun x => some (Value.string x)) HX3.out.symm) (Below.refl _ _)
    · obtain rfl := Option.some.inj ho
      have e1 : a'.tmps[1]? = some (.pointer (some ⟨B, 0, none⟩)) := hout 1 (by decide)
      go_simp
      exact hK (.pointer (some ⟨B, 1, none⟩)) w' rfl (Below.refl _ _)
    · obtain rfl := Option.some.inj ho
      have p4 : a'.tmps.getD 11 undef = .pointer (some ⟨B, 1, none⟩) := (Option.some.inj (hpre ⟨4, .data⟩ (by simp) 11 rfl)).symm
      simp only [Array.getD_eq_getD_getElem?] at p4
      have c1 := cell_kept z1 hb'
      go_simp
      exact hK (.int .i64 m) w' rfl (Below.refl _ _)
    · obtain rfl := Option.some.inj ho
      have p5 : a'.tmps.getD 12 undef = .int .i64 m := (Option.some.inj (hpre ⟨5, .data⟩ (by simp) 12 rfl)).symm
      simp only [Array.getD_eq_getD_getElem?] at p5
      go_simp
      go_at_call 111
      refine (HP2.out w' (hWp.trans (hb'.mono hWp.size))).mono ?_
      rintro e w'' ⟨rfl, hb''⟩
      exact hK _ _ rfl hb''
    · obtain rfl := Option.some.inj ho
      have p3 : a'.tmps.getD 10 undef = .string X3 := (Option.some.inj (hpre ⟨3, .data⟩ (by simp) 10 rfl)).symm
      simp only [Array.getD_eq_getD_getElem?] at p3
      have p6 : a'.tmps.getD 13 undef = .string P2 := (Option.some.inj (hpre ⟨6, .data⟩ (by simp) 13 rfl)).symm
      simp only [Array.getD_eq_getD_getElem?] at p6
      go_simp
      exact hK _ _ (congrArg (fun x => some (Value.string x)) HX7.out.symm) (Below.refl _ _)
    · obtain rfl := Option.some.inj ho
      have p7 : a'.tmps.getD 14 undef = .string X7 := (Option.some.inj (hpre ⟨7, .data⟩ (by simp) 14 rfl)).symm
      simp only [Array.getD_eq_getD_getElem?] at p7
      go_simp
      exact hK _ _ (congrArg (fun x => some (Value.string x)) HX8.out.symm) (Below.refl _ _)
    · obtain rfl := Option.some.inj ho
      have e1 : a'.tmps[1]? = some (.pointer (some ⟨B, 0, none⟩)) := hout 1 (by decide)
      go_simp
      exact hK (.pointer (some ⟨B, 2, none⟩)) w' rfl (Below.refl _ _)
    · obtain rfl := Option.some.inj ho
      have p9 : a'.tmps.getD 16 undef = .pointer (some ⟨B, 2, none⟩) := (Option.some.inj (hpre ⟨9, .data⟩ (by simp) 16 rfl)).symm
      simp only [Array.getD_eq_getD_getElem?] at p9
      have c2 := cell_kept z2 hb'
      go_simp
      exact hK (.int .i64 d) w' rfl (Below.refl _ _)
    · obtain rfl := Option.some.inj ho
      have p10 : a'.tmps.getD 17 undef = .int .i64 d := (Option.some.inj (hpre ⟨10, .data⟩ (by simp) 17 rfl)).symm
      simp only [Array.getD_eq_getD_getElem?] at p10
      go_simp
      go_at_call 111
      refine (HP3.out w' (hWp.trans (hb'.mono hWp.size))).mono ?_
      rintro e w'' ⟨rfl, hb''⟩
      exact hK _ _ rfl hb''
    · obtain rfl := Option.some.inj ho
      have p8 : a'.tmps.getD 15 undef = .string X8 := (Option.some.inj (hpre ⟨8, .data⟩ (by simp) 15 rfl)).symm
      simp only [Array.getD_eq_getD_getElem?] at p8
      have p11 : a'.tmps.getD 18 undef = .string P3 := (Option.some.inj (hpre ⟨11, .data⟩ (by simp) 18 rfl)).symm
      simp only [Array.getD_eq_getD_getElem?] at p11
      go_simp
      exact hK _ _ (congrArg (fun x => some (Value.string x)) HX12.out.symm) (Below.refl _ _)
  · intro us w' hb' hfacts
    have h12 : us 12 = .string X12 := (Option.some.inj (hfacts 12 (by decide))).symm
    have hfin : Below w.heap.size w w' := hWp.trans (hb'.mono hWp.size)
    simp only [putL, Act.put, List.setIfInBounds_toArray, List.set_cons_zero, List.set_cons_succ]
    generalize us 12 = x12 at *
    subst h12
    simp only [List.drop_succ_cons, List.drop_zero]
    clear hb' hfacts
    go_wp2_with fail
    go_ret2
    exact ⟨rfl, hfin⟩
set_option maxRecDepth 100000 in
set_option maxHeartbeats 1600000 in
theorem formatClockR_any (c : Int) (w : World) (h0 : 0 ≤ c) (h1 : c < 1440) (hp : Pow10 w) : Calls Tryz.prog 115 #[.int .i64 c] w (TxtB (fmtClock c) w) := by
  have HPW : Hid (∀ V, Below w.heap.size w V → Pow10 V) := fun V hV => hp.next hV
  have n2 := numS_size (n := c / 60) (by omega) (by omega)
  have n3 := numS_size (n := c % 60) (by omega) (by omega)
  have HP2 : Hid (∀ V, Below w.heap.size w V → Calls Tryz.prog 111 #[.int .i64 (c / 60), .int .i64 2] V (StrB (padB (c / 60) 2) V)) := fun V hV => twoR_any (c / 60) 2 V (by omega) (by omega) (by omega) (by omega) (HPW.out V hV)
  have HP3 : Hid (∀ V, Below w.heap.size w V → Calls Tryz.prog 111 #[.int .i64 (c % 60), .int .i64 2] V (StrB (padB (c % 60) 2) V)) := fun V hV => twoR_any (c % 60) 2 V (by omega) (by omega) (by omega) (by omega) (HPW.out V hV)
  have s2 := padB_size (n := c / 60) (d := 2) (by omega) (by omega)
  have s3 := padB_size (n := c % 60) (d := 2) (by omega) (by omega)
  have HQ : Hid (fmtClock c = padB (c / 60) 2 ++ colS ++ padB (c % 60) 2) := rfl
  rw [HQ.out]
  generalize padB (c / 60) 2 = P2 at *
  generalize padB (c % 60) 2 = P3 at *
  have u1 : c.tdiv 60 = c / 60 := Int.tdiv_eq_ediv_of_nonneg h0
  have u2 : c.tmod 60 = c % 60 := Int.tmod_eq_emod_of_nonneg h0
  have u3 : IntKind.i64.wrap (c / 60) = c / 60 := IntWalk.i64_in _ (by omega)
  have u4 : IntKind.i64.wrap (c % 60) = c % 60 := IntWalk.i64_in _ (by omega)
  have u5 : ¬ c < 0 := by omega
  have u6 : ¬ (1440 : Int) ≤ c := by omega
  have u7 : ¬ (1439 : Int) < c := by omega
  have q1 : ¬ 9223372036854775807 < P2.size + 1 := by omega
  have q2 : ¬ 9223372036854775807 < P2.size + 1 + P3.size := by omega
  have q3 : ¬ 9223372036854775807 < (P2 ++ (⟨#[58]⟩ : ByteArray)).size + P3.size := by rw [ByteArray.size_append, show (⟨#[58]⟩ : ByteArray).size = 1 from rfl]; omega
  go_enter Tryz.func115, Tryz.ntmps115
  go_wp2_with fail
  refine (HP2.out w (Below.refl _ _)).mono ?_
  rintro e w1 ⟨rfl, hb1⟩
  go_wp2_with fail
  refine (HP3.out w1 hb1).mono ?_
  rintro e w2 ⟨rfl, hb2⟩
  have hfin : Below w.heap.size w w2 := hb1.trans (hb2.mono hb1.size)
  go_wp2_with fail
  go_ret2
  exact ⟨rfl, hfin⟩
set_option maxRecDepth 100000 in
set_option maxHeartbeats 1600000 in
theorem formatInstantR_any (t : Int) (w : World) (h0 : 0 ≤ t) (h1 : t < 52596000) (hp : Pow10 w) : Calls Tryz.prog 72 #[.int .i64 t] w (InsPost t w) := by
  have HPW : Hid (∀ V, Below w.heap.size w V → Pow10 V) := fun V hV => hp.next hV
  have u5 : ¬ t < 0 := by omega
  have u6 : ¬ (52596000 : Int) ≤ t := by omega
  have HSP := Lib.hid (splitMinuteR_any t w h0 h1)
  have HDO := Lib.hid (dateOfR_any (t / 1440) w (by omega) (by omega))
  have HCL : Hid (∀ V, Below w.heap.size w V → Calls Tryz.prog 115 #[.int .i64 (t % 1440)] V (TxtB (fmtClock (t % 1440)) V)) := fun V hV => formatClockR_any (t % 1440) V (by omega) (by omega) (HPW.out V hV)
  have hcs := fmtClock_size (c := t % 1440) (by omega) (by omega)
  have HIS : Hid (∀ y m d, validB y m d = true → dayB y m d = t / 1440 → IsIns t (fmtDate y m d ++ blankS ++ fmtClock (t % 1440))) := fun y m d a b => ⟨y, m, d, a, b, rfl⟩
  generalize fmtClock (t % 1440) = C at *
  go_enter Tryz.func72, Tryz.ntmps72
  go_wp2_with fail
  refine HSP.out.mono ?_
  rintro e w' ⟨rfl, rfl⟩
  go_wp2_with fail
  refine HDO.out.mono ?_
  rintro e w1 ⟨y, m, d, rfl, hv, hd, hb1⟩
  have HI := Lib.hid (HIS.out y m d hv hd)
  have hds := fmtDate_size hv
  have hb2 : Below w.heap.size w (w1.alloc (.cells #[.int .i64 y, .int .i64 m, .int .i64 d] 133)) := hb1.alloc hb1.size _
  have hr2 := heap_alloc_new w1 (.cells #[.int .i64 y, .int .i64 m, .int .i64 d] 133)
  have HFD := Lib.hid (formatDateR_any y m d (w1.alloc (.cells #[.int .i64 y, .int .i64 m, .int .i64 d] 133)) hv (HPW.out _ hb2))
  have HB2 := Lib.hid hb2
  generalize fmtDate y m d = D at *
  have q1 : ¬ 9223372036854775807 < D.size + 1 := by omega
  have q2 : ¬ 9223372036854775807 < D.size + 1 + C.size := by omega
  have q3 : ¬ 9223372036854775807 < (D ++ (⟨#[32]⟩ : ByteArray)).size + C.size := by rw [ByteArray.size_append, show (⟨#[32]⟩ : ByteArray).size = 1 from rfl]; omega
  have z0 := block_cell hr2 0; have z1 := block_cell hr2 1; have z2 := block_cell hr2 2
  clear hb1 hv hd hb2 hr2 HIS HSP HDO
  go_wp2_with fail
  refine HFD.out.mono ?_
  rintro e w2 ⟨rfl, hb3⟩
  have hb4 : Below w.heap.size w w2 := HB2.out.trans (hb3.mono HB2.out.size)
  clear HFD hb3 z0 z1 z2
  go_wp2_with fail
  refine (HCL.out w2 hb4).mono ?_
  rintro e w3 ⟨rfl, hb5⟩
  have HB6 : Hid (Below w.heap.size w w3) := hb4.trans (hb5.mono hb4.size)
  clear hb4 hb5
  go_wp2_with fail
  go_ret2
  exact ⟨_, rfl, HI.out, HB6.out⟩
theorem instantTxtR_any (t : Int) (w : World) (h0 : 0 ≤ t) (h1 : t < 52596000) (hp : Pow10 w) : Calls Tryz.prog 29 #[.int .i64 t] w fun e w' => ∃ s, e = .returned (.string s) ∧ IsIns t s ∧ Below w.heap.size w w' := by
  go_enter Tryz.func29, Tryz.ntmps29
  go_wp2_with fail
  refine (formatInstantR_any t w h0 h1 hp).mono ?_
  rintro e w1 ⟨s, rfl, hi, hb⟩
  have HI := Lib.hid hi
  clear hi
  go_wp2_with fail
  go_ret
  exact ⟨s, rfl, HI.out, hb⟩
end Go.Proofs.YtldeoaddogifpaaGreatDoor
/-
  Contracts of the reference's ParseDuration, FormatDuration, and of pairingref9's duration (the text).
  Condition: the string's length fits an int; the number lies in the limits; the table of powers of ten is laid.
-/
namespace Go.Proofs.YtldeoaddogifpaaGreatDoor
set_option linter.unusedSimpArgs false
set_option linter.unusedVariables false
open Go.RowKit

def DurPost (s : ByteArray) (w : World) (e : Ending) (w' : World) : Prop := e = .returned (.tuple #[.int .i64 (durB s).1, .int .i64 (durB s).2]) ∧ w = w'
theorem durD_congr (t : ByteArray) {p q : Prop} [Decidable p] [Decidable q] (h : p ↔ q) : durD t p = durD t q := by
  unfold durD
  by_cases hp : p
  · have hq := h.1 hp
    simp only [hp, hq]
  · have hq : ¬ q := fun x => hp (h.2 x)
    simp only [hp, hq]
theorem digits_bd11 (x : ByteArray) : 0 ≤ (digitsB x 1 11).1 ∧ (digitsB x 1 11).1 ≤ 99999999999 := by
  unfold digitsB
  split
  · decide
  · split
    · decide
    · rename_i h1 h2
      have h := numTo_bd x x.size (by simpa using h2)
      have hb : bnd x.size ≤ bnd 11 := bnd_mono (by omega)
      have e : bnd 11 = 99999999999 := rfl
      rw [e] at hb
      dsimp only
      omega
theorem digits_bd2 (x : ByteArray) : 0 ≤ (digitsB x 2 2).1 ∧ (digitsB x 2 2).1 ≤ 99 := by
  unfold digitsB
  split
  · decide
  · split
    · decide
    · rename_i h1 h2
      have h := numTo_bd x x.size (by simpa using h2)
      have hb : bnd x.size ≤ bnd 2 := bnd_mono (by omega)
      have e : bnd 2 = 99 := rfl
      rw [e] at hb
      dsimp only
      omega
set_option maxHeartbeats 3200000 in
set_option maxRecDepth 100000 in
theorem parseDurationR_any (s : ByteArray) (w : World) (hs : s.size ≤ maxLen) : Calls Tryz.prog 60 #[.string s] w (DurPost s w) := by
  unfold maxLen at hs
  unfold DurPost
  have hse := stripB_eq s
  have hds := stripB_size s
  have hD : durB s = durD (stripB s) ((stripB s).size < s.size) := rfl
  by_cases h0 : 0 < s.size
  case neg =>
    have hz : s.size = 0 := by omega
    have HR : Hid (durB s = (0, 1)) := by
      show _ = _
      rw [hD]; unfold durD
      rw [if_pos (by rw [hds]; split <;> omega)]
    have q0 : ¬ (0 : Int) < (s.size : Int) := by omega
    have q1 : IntKind.i64.wrap ((s.size : Int) - 3) = (s.size : Int) - 3 := IntWalk.i64_in _ (by omega)
    have q2 : (s.size : Int) - 3 < 1 := by omega
    clear hse hds hD h0 hz
    go_enter Tryz.func60, Tryz.ntmps60
    go_wp2_with fail
    go_ret2
    exact ⟨by rw [HR.out]; rfl, rfl⟩
  have HB0 := Lib.hid (byteAt_eq s 0 h0)
  by_cases h45 : byteAt s 0 = 45
  · have e0 : ((s[0].toNat : Int) == 45) = true := by rw [HB0.out]; simpa using h45
    rw [if_pos ⟨h0, h45⟩] at hse hds
    have HD : Hid (durB s = durD (stripB s) True) := by show _ = _; rw [hD]; exact durD_congr _ ⟨fun _ => trivial, fun _ => by omega⟩
    have HSE := Lib.hid hse
    have htz : (stripB s).size ≤ 9223372036854775807 := by omega
    have q00 : (0 : Int) < (s.size : Int) := by omega
    have q01 : (1 : Int) ≤ (s.size : Int) := by omega
    clear hD h45 hse hds
    go_enter Tryz.func60, Tryz.ntmps60
    go_upto_region 4 with (fail)
    rw [← HSE.out]
    clear HSE e0
    generalize stripB s = t at *
    by_cases h4 : t.size < 4
    · have HR : Hid (durB s = (0, 1)) := by show _ = _; rw [HD.out]; unfold durD; rw [if_pos h4]
      have q0 : IntKind.i64.wrap ((t.size : Int) - 3) = (t.size : Int) - 3 := IntWalk.i64_in _ (by omega)
      have q1 : (t.size : Int) - 3 < 1 := by omega
      clear HD h4
      go_wp2_with fail
      go_ret2
      exact ⟨by rw [HR.out]; rfl, rfl⟩
    obtain ⟨k, hk⟩ : ∃ k, t.size = k + 3 := ⟨t.size - 3, by omega⟩
    have q0 : IntKind.i64.wrap ((t.size : Int) - 3) = (k : Int) := by rw [hk]; rw [show (((k + 3 : Nat) : Int) - 3) = (k : Int) by omega]; exact IntWalk.i64_in _ (by omega)
    have q1 : ¬ (k : Int) < 1 := by omega
    have q2 : (k : Int) < (t.size : Int) := by omega
    have hkl : k < t.size := by omega
    have HB := Lib.hid (byteAt_eq t k hkl)
    have HK := Lib.hid hk
    have HH : Hid (durH t = t.extract 0 k) := by show _ = _; unfold durH; rw [hk, Nat.add_sub_cancel]
    have HM : Hid (durM t = t.extract (k + 1) t.size) := by show _ = _; unfold durM; rw [show t.size - 2 = k + 1 by omega]
    have q3 : IntKind.i64.wrap ((k : Int) + 1) = (k : Int) + 1 := IntWalk.i64_in _ (by omega)
    have q4 : (k : Int) + 1 ≤ (t.size : Int) := by omega
    have q5 : (k : Int) ≤ (t.size : Int) := by omega
    have q6 : ((k : Int) + 1).toNat = k + 1 := by omega
    have HD4 : Hid (durB s = if ¬ byteAt t k = 58 then (0, 1) else
          if (digitsB (t.extract 0 k) 1 11).2 = false ∨ (digitsB (t.extract (k + 1) t.size) 2 2).2 = false ∨ plainB (t.extract 0 k) = false ∨ (True ∧ (digitsB (t.extract 0 k) 1 11).1 = 0 ∧ (digitsB (t.extract (k + 1) t.size) 2 2).1 = 0) then (0, 1) else
            if 59 < (digitsB (t.extract (k + 1) t.size) 2 2).1 ∨ 1099511627776 < 60 * (digitsB (t.extract 0 k) 1 11).1 + (digitsB (t.extract (k + 1) t.size) 2 2).1 then (0, 5) else
              (if True then -(60 * (digitsB (t.extract 0 k) 1 11).1 + (digitsB (t.extract (k + 1) t.size) 2 2).1) else 60 * (digitsB (t.extract 0 k) 1 11).1 + (digitsB (t.extract (k + 1) t.size) 2 2).1, 0)) := by
      show _ = _
      rw [HD.out, ← HH.out, ← HM.out]
      unfold durD
      rw [if_neg h4, show t.size - 3 = k by omega]
    have HDH : Hid (∀ V : World, Calls Tryz.prog 99 #[.string (t.extract 0 k), .int .i64 1, .int .i64 11] V (DigitsPost (t.extract 0 k) 1 11 V)) := fun V => digits_any _ 1 11 V (by decide)
    have HDM : Hid (∀ V : World, Calls Tryz.prog 99 #[.string (t.extract (k + 1) t.size), .int .i64 2, .int .i64 2] V (DigitsPost (t.extract (k + 1) t.size) 2 2 V)) := fun V => digits_any _ 2 2 V (by decide)
    have HPL : Hid (∀ V : World, Calls Tryz.prog 100 #[.string (t.extract 0 k)] V fun e w' => e = .returned (.bool (plainB (t.extract 0 k))) ∧ V = w') := fun V => plain_any _ V
    have hdh := digits_bd11 (t.extract 0 k)
    have hdm := digits_bd2 (t.extract (k + 1) t.size)
    unfold DigitsPost at HDH HDM
    generalize plainB (t.extract 0 k) = pl at *
    generalize digitsB (t.extract 0 k) 1 11 = dh at *
    generalize digitsB (t.extract (k + 1) t.size) 2 2 = dm at *
    obtain ⟨h, a⟩ := dh
    obtain ⟨m, b⟩ := dm
    simp only at HDH HDM hdh hdm HD4
    obtain ⟨hh0, hh1⟩ := hdh
    obtain ⟨hm0, hm1⟩ := hdm
    clear HD h4 hk HH HM
    by_cases h58 : byteAt t k = 58
    case neg =>
      have h58' : ((t[k].toNat : Int) != 58) = true := by rw [HB.out]; simpa using h58
      have HR : Hid (durB s = (0, 1)) := by show _ = _; rw [HD4.out, if_pos h58]
      clear h58 HD4
      go_wp2_with fail
      go_ret2
      exact ⟨by rw [HR.out]; rfl, rfl⟩
    have h58' : ((t[k].toNat : Int) != 58) = false := by rw [HB.out]; simpa using h58
    rw [if_neg (by simpa using h58)] at HD4
    clear h58
    go_wp2_with fail
    refine (HDH.out _).mono ?_
    rintro e w' ⟨rfl, rfl⟩
    go_wp2_with fail
    refine (HDM.out _).mono ?_
    rintro e w' ⟨rfl, rfl⟩
    cases a with
    | false =>
      have HR : Hid (durB s = (0, 1)) := by show _ = _; rw [HD4.out, if_pos (.inl rfl)]
      clear HD4
      go_wp2_with fail
      go_ret2
      exact ⟨by rw [HR.out]; rfl, rfl⟩
    | true =>
    cases b with
    | false =>
      have HR : Hid (durB s = (0, 1)) := by show _ = _; rw [HD4.out, if_pos (.inr (.inl rfl))]
      clear HD4
      go_wp2_with fail
      go_ret2
      exact ⟨by rw [HR.out]; rfl, rfl⟩
    | true =>
    go_wp2_with fail
    refine (HPL.out _).mono ?_
    rintro e w' ⟨rfl, rfl⟩
    cases pl with
    | false =>
      have HR : Hid (durB s = (0, 1)) := by show _ = _; rw [HD4.out, if_pos (.inr (.inr (.inl rfl)))]
      clear HD4
      go_wp2_with fail
      go_ret2
      exact ⟨by rw [HR.out]; rfl, rfl⟩
    | true =>
    have q7 : IntKind.i64.wrap (60 * h) = 60 * h := IntWalk.i64_in _ (by omega)
    have q8 : IntKind.i64.wrap (60 * h + m) = 60 * h + m := IntWalk.i64_in _ (by omega)
    by_cases hz : h = 0 ∧ m = 0
    · have HR : Hid (durB s = (0, 1)) := by show _ = _; rw [HD4.out, if_pos (.inr (.inr (.inr ⟨trivial, hz⟩)))]
      obtain ⟨rfl, rfl⟩ := hz
      clear HD4
      go_wp2_with fail
      go_ret2
      exact ⟨by rw [HR.out]; rfl, rfl⟩
    rw [if_neg (by rintro (h | h | h | ⟨_, h⟩); cases h; cases h; cases h; exact hz h)] at HD4
    have hz' : (h == 0) = false ∨ ((h == 0) = true ∧ (m == 0) = false) := by
      by_cases h0 : h = 0
      · exact .inr ⟨by simpa using h0, by simpa using fun h1 => hz ⟨h0, h1⟩⟩
      · exact .inl (by simpa using h0)
    clear hz
    have q9 : IntKind.i64.wrap (-(60 * h + m)) = -(60 * h + m) := IntWalk.i64_in _ (by omega)
    rcases hz' with hz1 | ⟨hz1, hz2⟩
    all_goals
      by_cases hbig : 59 < m ∨ 1099511627776 < 60 * h + m
      · have HR : Hid (durB s = (0, 5)) := by show _ = _; rw [HD4.out, if_pos hbig]
        have hb2 : (59 < m) ∨ (¬ 59 < m ∧ 1099511627776 < 60 * h + m) := by omega
        clear HD4 hbig
        rcases hb2 with hb2 | ⟨hb2, hb3⟩
        all_goals
          go_wp2_with fail
          go_ret2
          exact ⟨by rw [HR.out]; rfl, rfl⟩
      · have HR : Hid (durB s = (-(60 * h + m), 0)) := by show _ = _; rw [HD4.out, if_neg hbig, if_pos trivial]
        have hb2 : ¬ 59 < m := by omega
        have hb3 : ¬ 1099511627776 < 60 * h + m := by omega
        clear HD4 hbig
        go_wp2_with fail
        go_ret2
        exact ⟨by rw [HR.out]; rfl, rfl⟩
  · have e0 : ((s[0].toNat : Int) == 45) = false := by rw [HB0.out]; simpa using h45
    rw [if_neg (fun h => h45 h.2)] at hse hds
    have HD : Hid (durB s = durD s False) := by show _ = _; rw [hD, durD_congr (q := False) _ ⟨fun h => by omega, fun h => h.elim⟩, hse]
    have htz : s.size ≤ 9223372036854775807 := hs
    have q00 : (0 : Int) < (s.size : Int) := by omega
    clear hD h45 hse hds
    go_enter Tryz.func60, Tryz.ntmps60
    go_upto_region 4 with (fail)
    clear HB0 e0
    by_cases h4 : s.size < 4
    · have HR : Hid (durB s = (0, 1)) := by show _ = _; rw [HD.out]; unfold durD; rw [if_pos h4]
      have q0 : IntKind.i64.wrap ((s.size : Int) - 3) = (s.size : Int) - 3 := IntWalk.i64_in _ (by omega)
      have q1 : (s.size : Int) - 3 < 1 := by omega
      clear HD h4
      go_wp2_with fail
      go_ret2
      exact ⟨by rw [HR.out]; rfl, rfl⟩
    obtain ⟨k, hk⟩ : ∃ k, s.size = k + 3 := ⟨s.size - 3, by omega⟩
    have q0 : IntKind.i64.wrap ((s.size : Int) - 3) = (k : Int) := by rw [hk]; rw [show (((k + 3 : Nat) : Int) - 3) = (k : Int) by omega]; exact IntWalk.i64_in _ (by omega)
    have q1 : ¬ (k : Int) < 1 := by omega
    have q2 : (k : Int) < (s.size : Int) := by omega
    have hkl : k < s.size := by omega
    have HB := Lib.hid (byteAt_eq s k hkl)
    have HK := Lib.hid hk
    have HH : Hid (durH s = s.extract 0 k) := by show _ = _; unfold durH; rw [hk, Nat.add_sub_cancel]
    have HM : Hid (durM s = s.extract (k + 1) s.size) := by show _ = _; unfold durM; rw [show s.size - 2 = k + 1 by omega]
    have q3 : IntKind.i64.wrap ((k : Int) + 1) = (k : Int) + 1 := IntWalk.i64_in _ (by omega)
    have q4 : (k : Int) + 1 ≤ (s.size : Int) := by omega
    have q5 : (k : Int) ≤ (s.size : Int) := by omega
    have q6 : ((k : Int) + 1).toNat = k + 1 := by omega
    have HD4 : Hid (durB s = if ¬ byteAt s k = 58 then (0, 1) else
          if (digitsB (s.extract 0 k) 1 11).2 = false ∨ (digitsB (s.extract (k + 1) s.size) 2 2).2 = false ∨ plainB (s.extract 0 k) = false ∨ (False ∧ (digitsB (s.extract 0 k) 1 11).1 = 0 ∧ (digitsB (s.extract (k + 1) s.size) 2 2).1 = 0) then (0, 1) else
            if 59 < (digitsB (s.extract (k + 1) s.size) 2 2).1 ∨ 1099511627776 < 60 * (digitsB (s.extract 0 k) 1 11).1 + (digitsB (s.extract (k + 1) s.size) 2 2).1 then (0, 5) else
              (if False then -(60 * (digitsB (s.extract 0 k) 1 11).1 + (digitsB (s.extract (k + 1) s.size) 2 2).1) else 60 * (digitsB (s.extract 0 k) 1 11).1 + (digitsB (s.extract (k + 1) s.size) 2 2).1, 0)) := by
      show _ = _
      rw [HD.out, ← HH.out, ← HM.out]
      unfold durD
      rw [if_neg h4, show s.size - 3 = k by omega]
    have HDH : Hid (∀ V : World, Calls Tryz.prog 99 #[.string (s.extract 0 k), .int .i64 1, .int .i64 11] V (DigitsPost (s.extract 0 k) 1 11 V)) := fun V => digits_any _ 1 11 V (by decide)
    have HDM : Hid (∀ V : World, Calls Tryz.prog 99 #[.string (s.extract (k + 1) s.size), .int .i64 2, .int .i64 2] V (DigitsPost (s.extract (k + 1) s.size) 2 2 V)) := fun V => digits_any _ 2 2 V (by decide)
    have HPL : Hid (∀ V : World, Calls Tryz.prog 100 #[.string (s.extract 0 k)] V fun e w' => e = .returned (.bool (plainB (s.extract 0 k))) ∧ V = w') := fun V => plain_any _ V
    have hdh := digits_bd11 (s.extract 0 k)
    have hdm := digits_bd2 (s.extract (k + 1) s.size)
    unfold DigitsPost at HDH HDM
    generalize plainB (s.extract 0 k) = pl at *
    generalize digitsB (s.extract 0 k) 1 11 = dh at *
    generalize digitsB (s.extract (k + 1) s.size) 2 2 = dm at *
    obtain ⟨h, a⟩ := dh
    obtain ⟨m, b⟩ := dm
    simp only at HDH HDM hdh hdm HD4
    obtain ⟨hh0, hh1⟩ := hdh
    obtain ⟨hm0, hm1⟩ := hdm
    clear HD h4 hk HH HM
    by_cases h58 : byteAt s k = 58
    case neg =>
      have h58' : ((s[k].toNat : Int) != 58) = true := by rw [HB.out]; simpa using h58
      have HR : Hid (durB s = (0, 1)) := by show _ = _; rw [HD4.out, if_pos h58]
      clear h58 HD4
      go_wp2_with fail
      go_ret2
      exact ⟨by rw [HR.out]; rfl, rfl⟩
    have h58' : ((s[k].toNat : Int) != 58) = false := by rw [HB.out]; simpa using h58
    rw [if_neg (by simpa using h58)] at HD4
    clear h58
    go_wp2_with fail
    refine (HDH.out _).mono ?_
    rintro e w' ⟨rfl, rfl⟩
    go_wp2_with fail
    refine (HDM.out _).mono ?_
    rintro e w' ⟨rfl, rfl⟩
    cases a with
    | false =>
      have HR : Hid (durB s = (0, 1)) := by show _ = _; rw [HD4.out, if_pos (.inl rfl)]
      clear HD4
      go_wp2_with fail
      go_ret2
      exact ⟨by rw [HR.out]; rfl, rfl⟩
    | true =>
    cases b with
    | false =>
      have HR : Hid (durB s = (0, 1)) := by show _ = _; rw [HD4.out, if_pos (.inr (.inl rfl))]
      clear HD4
      go_wp2_with fail
      go_ret2
      exact ⟨by rw [HR.out]; rfl, rfl⟩
    | true =>
    go_wp2_with fail
    refine (HPL.out _).mono ?_
    rintro e w' ⟨rfl, rfl⟩
    cases pl with
    | false =>
      have HR : Hid (durB s = (0, 1)) := by show _ = _; rw [HD4.out, if_pos (.inr (.inr (.inl rfl)))]
      clear HD4
      go_wp2_with fail
      go_ret2
      exact ⟨by rw [HR.out]; rfl, rfl⟩
    | true =>
    have q7 : IntKind.i64.wrap (60 * h) = 60 * h := IntWalk.i64_in _ (by omega)
    have q8 : IntKind.i64.wrap (60 * h + m) = 60 * h + m := IntWalk.i64_in _ (by omega)
    rw [if_neg (by rintro (h | h | h | ⟨h, _⟩); cases h; cases h; cases h; exact h)] at HD4
    by_cases hbig : 59 < m ∨ 1099511627776 < 60 * h + m
    · have HR : Hid (durB s = (0, 5)) := by show _ = _; rw [HD4.out, if_pos hbig]
      have hb2 : (59 < m) ∨ (¬ 59 < m ∧ 1099511627776 < 60 * h + m) := by omega
      clear HD4 hbig
      rcases hb2 with hb2 | ⟨hb2, hb3⟩
      all_goals
        go_wp2_with fail
        go_ret2
        exact ⟨by rw [HR.out]; rfl, rfl⟩
    · have HR : Hid (durB s = (60 * h + m, 0)) := by show _ = _; rw [HD4.out, if_neg hbig, if_neg (by simp)]
      have hb2 : ¬ 59 < m := by omega
      have hb3 : ¬ 1099511627776 < 60 * h + m := by omega
      clear HD4 hbig
      go_wp2_with fail
      go_ret2
      exact ⟨by rw [HR.out]; rfl, rfl⟩
end Go.Proofs.YtldeoaddogifpaaGreatDoor
/-
  XRegion's rule for a region that draws its order, with a preorder of worlds of one's own in place of Below.
  No condition.
-/
namespace Go.Proofs.YtldeoaddogifpaaGreatDoor
set_option linter.unusedSimpArgs false
set_option linter.unusedVariables false
open Go.RowKit Go

/-- What holds on the way through the heads. -/
structure HIR (R : World → World → Prop) (ops : Array Oper) (n : Nat) (a : Act) (W : World) (F : Nat → Value → World → Prop) (listed : Array Bool) (a' : Act) (w' : World) : Prop where
  lsize : listed.size = ops.size
  tail : ∀ t, n ≤ t → listed.getD t false = false
  defers : a'.defers = a.defers
  size : a'.tmps.size = a.tmps.size
  out : ∀ s, (∀ j, j < n → dstOf ops j ≠ some s) → a'.tmps[s]? = a.tmps[s]?
  facts : ∀ i d, i < n → listed.getD i false = true → dstOf ops i = some d → F i (a'.tmps.getD d undef) w'
  grow : R W w'

section
variable {R : World → World → Prop} {P : Program} {ops : Array Oper} {Q : Exit → Act → World → Prop} {n : Nat} {a : Act} {W : World} {F : Nat → Value → World → Prop}
theorem wpAny_factsR (hRt : ∀ {x y z : World}, R x y → R y z → R x z) {l : List Oper} (hl : l.toArray = ops) (hh : HeadFacts ops n a.tmps.size) (hseq : Region.seqB .any ops (ops.size - n) n (headListed ops n) = true)
    (hF : ∀ i v w w', F i v w → R w w' → F i v w')
    (hstep : ∀ i o, i < n → ops[i]? = some o → ∀ a' w', R W w' → (∀ s, (∀ j, j < n → dstOf ops j ≠ some s) → a'.tmps[s]? = a.tmps[s]?) →
      (∀ e ∈ o.after, ∀ d, dstOf ops e.on = some d → F e.on (a'.tmps.getD d undef) w') → ∀ K : Act → World → Prop, (∀ v w'', F i v w'' → R w' w'' → K (a'.put o.dst v) w'') → o.wp P a' w' K Q)
    (hfin : ∀ us w', R W w' → (∀ i, i < n → F i (us i) w') → wpList P ops Q (l.drop n) (putAll ops a us n) w') (hb : ∀ (i : Nat) (o : Oper), ops[i]? = some o → ∀ e ∈ o.after, Region.binds .any e = true) :
    ∀ (f : Nat) (listed : Array Bool) (a' : Act) (w' : World), left n listed = f → HIR R ops n a W F listed a' w' → wpAny P .any ops Q (f + (ops.size - n)) listed a' w' := by
  have hdl : (l.drop n).length = ops.size - n := by rw [List.length_drop, ← hl]; simp
  intro f
  induction f with
  | zero =>
    intro listed a' w' hlf hi
    have hall := left_zero hlf
    have e1 : listed = headListed ops n := by
      apply Array.ext
      · rw [hi.lsize]; simp [headListed]
      · intro k h1 h2
        have hk : k < ops.size := by rw [← hi.lsize]; exact h1
        have e3 : (headListed ops n)[k] = decide (k < n) := by simp [headListed]
        rw [e3]
        by_cases hkn : k < n
        · have := hall k hkn
          simp [h1] at this
          rw [this]; simp [hkn]
        · have := hi.tail k (by omega)
          simp [h1] at this
          rw [this]; simp [hkn]
    have e2 : a' = putAll ops a (fun i => a'.tmps.getD ((dstOf ops i).getD 0) undef) n := by
      have es : a'.tmps = (putAll ops a (fun i => a'.tmps.getD ((dstOf ops i).getD 0) undef) n).tmps := by
        apply Array.ext_getElem?
        intro s
        by_cases hs : ∃ i, i < n ∧ dstOf ops i = some s
        · obtain ⟨i, hin, hd⟩ := hs
          obtain ⟨d, hd', hlt⟩ := hh.dst i hin
          rw [hd] at hd'
          injection hd' with hd'
          subst hd'
          rw [putAll_in hlt hd hin fun j hj hji e => hji (hh.inj j i s hj hin e hd)]
          have : s < a'.tmps.size := by rw [hi.size]; exact hlt
          simp [hd, this]
        · rw [putAll_out fun j hj e => hs ⟨j, hj, e⟩]
          exact hi.out s fun j hj e => hs ⟨j, hj, e⟩
      have ed : a'.defers = (putAll ops a (fun i => a'.tmps.getD ((dstOf ops i).getD 0) undef) n).defers := by rw [putAll_defers]; exact hi.defers
      cases ha : a' with
      | mk t d =>
        rw [ha] at es ed
        cases hp : putAll ops a (fun i => (Act.mk t d).tmps.getD ((dstOf ops i).getD 0) undef) n with
        | mk t2 d2 =>
          rw [hp] at es ed
          simp only at es ed
          rw [es, ed]
    rw [Nat.zero_add, ← hdl]
    subst e1
    refine wpAny_of_seq (l.drop n) n _ a' w' (fun j => by rw [List.getElem?_drop, ← hl]; simp) (by rw [hdl]; exact hseq) ?_
    rw [e2]
    exact hfin _ w' hi.grow fun i hin => by
      obtain ⟨d, hd, _⟩ := hh.dst i hin
      have := hi.facts i d hin (hall i hin) hd
      simp only [hd, Option.getD_some]
      exact this
  | succ f ih =>
    intro listed a' w' hlf hi
    rw [show f + 1 + (ops.size - n) = (f + (ops.size - n)) + 1 by omega]
    have hle := hh.le
    refine ⟨fun h0 => ?_, fun i hr => ?_⟩
    · exfalso
      have hex : ∃ i, i < n ∧ listed.getD i false = false := by
        have hne : (List.range n).filter (fun i => !listed.getD i false) ≠ [] := fun e => by
          unfold left at hlf
          rw [e] at hlf
          cases hlf
        obtain ⟨i, hi'⟩ := List.exists_mem_of_ne_nil _ hne
        rw [List.mem_filter, List.mem_range] at hi'
        exact ⟨i, hi'.1, by simpa using hi'.2⟩
      have key : ∀ i, i < n → listed.getD i false = true := by
        intro i
        induction i using Nat.strongRecOn with
        | _ i ihi =>
          intro hin
          cases hli : listed.getD i false with
          | true => rfl
          | false =>
            exfalso
            have hil : i < listed.size := by rw [hi.lsize]; omega
            have hmem : i ∈ Region.ready .any ops listed := by
              rw [mem_ready]
              have hio : i < ops.size := by omega
              refine ⟨getD_in hil hli, ops[i], by simp [hio], fun e he _ => ?_⟩
              have hlt := hh.back i _ hin (by simp [hio]) e he
              exact ihi e.on hlt (by omega)
            rw [h0] at hmem
            cases hmem
      obtain ⟨i, hin, hlf'⟩ := hex
      rw [key i hin] at hlf'
      cases hlf'
    · obtain ⟨hun, o, ho, hall⟩ := mem_ready.1 hr
      have hun' := getD_both hun
      have hio : i < ops.size := (Array.getElem?_eq_some_iff.1 ho).1
      have hin : i < n := by
        rcases Nat.lt_or_ge i n with h | h
        · exact h
        · exfalso
          have hz : left n listed = 0 := by
            unfold left
            rw [List.length_eq_zero_iff, List.filter_eq_nil_iff]
            intro j hj
            obtain ⟨e, he, hon, hbd⟩ := hh.cover i o h ho j (List.mem_range.1 hj)
            have := hall e he hbd
            rw [hon] at this
            rw [this]
            simp
          omega
      have hil : i < listed.size := by rw [hi.lsize]; exact hio
      unfold wpOp
      rw [ho]
      have hwant : Region.wanted o (yielded ops a'.tmps) = true := by simp [Region.wanted, hh.guard i o hin ho]
      simp only [hwant, if_true]
      refine .inl (hstep i o hin ho a' w' hi.grow hi.out (fun e he d hd => ?_) _ fun v w'' hfv hbl => ?_)
      · exact hi.facts e.on d (Nat.lt_trans (hh.back i o hin ho e he) hin) (hall e he (hb i o ho e he)) hd
      · obtain ⟨d, hd, hdl'⟩ := hh.dst i hin
        have hod : o.dst = some d := by
          have : dstOf ops i = o.dst := by unfold dstOf; rw [ho]; rfl
          rw [← this]; exact hd
        refine ih _ _ _ ?_ ⟨by simpa using hi.lsize, fun t ht => by rw [getD_set_ne false (by omega)]; exact hi.tail t ht, ?_, ?_, fun s hs => ?_, fun j d' hj hlj hdj => ?_, hRt hi.grow hbl⟩
        · have := left_set hin hil hun'
          omega
        · rw [hod]; exact hi.defers
        · rw [hod]; simpa [Act.put] using hi.size
        · rw [hod]
          simp only [Act.put]
          rw [Array.getElem?_setIfInBounds_ne (fun e => hs i hin (by rw [hd, e]))]
          exact hi.out s hs
        · rw [hod]
          by_cases hji : j = i
          · subst hji
            rw [hd] at hdj
            injection hdj with hdj
            subst hdj
            have : d < a'.tmps.size := by rw [hi.size]; exact hdl'
            simp only [Act.put]
            simpa [this] using hfv
          · have hne : d ≠ d' := fun e => hji (hh.inj j i d' hj hin hdj (e ▸ hd))
            rw [getD_set_ne false (fun e => hji e.symm)] at hlj
            have h9 := hF j _ _ _ (hi.facts j d' hj hlj hdj) hbl
            simp only [Act.put]
            simpa [Array.getElem?_setIfInBounds_ne hne] using h9
/-- THE RULE. -/
theorem wp_region_factsR (R : World → World → Prop) (hRt : ∀ {x y z : World}, R x y → R y z → R x z) {id : Nat} {l : List Oper} {w : World} (n : Nat) (ds : List Nat) (F : Nat → Value → World → Prop) (hD : R w { w with drawn := w.drawn + 1 }) (hm : P.follows .mixedOrders = true) (hok : headOk l.toArray n a.tmps.size = true) (hds : ((List.range n).map (dstOf l.toArray) == ds.map some) = true) (hseq : Region.seqB .any l.toArray (l.toArray.size - n) n (headListed l.toArray n) = true)
    (hbind : (l.all fun o => o.after.all fun e => Region.binds .any e) = true)
    (hF : ∀ i v w w', F i v w → R w w' → F i v w')
    (hstep : ∀ i o, i < n → l[i]? = some o → ∀ a' w', R w w' → (∀ s, s ∉ ds → a'.tmps[s]? = a.tmps[s]?) →
      (∀ e ∈ o.after, ∀ d, ds[e.on]? = some d → F e.on (a'.tmps.getD d undef) w') → ∀ K : Act → World → Prop, (∀ v w'', F i v w'' → R w' w'' → K (a'.put o.dst v) w'') → o.wp P a' w' K Q)
    (hfin : ∀ us w', R w w' → (∀ i, i < n → F i (us i) w') → wpList P l.toArray Q (l.drop n) (putL us a ds 0) w') : (Code.region id l.toArray true).wp P Q a w := by
  have hh := headFacts hok
  have hdl := beq_iff_eq.1 hds
  have hlen : ds.length = n := by
    have := congrArg List.length hdl
    simpa using this.symm
  have hdi : ∀ i, i < n → dstOf l.toArray i = ds[i]? := fun i hi => by
    have := congrArg (·[i]?) hdl
    simp only [List.getElem?_map, List.getElem?_range hi, Option.map_some] at this
    rw [List.getElem?_eq_getElem (by omega)] at this ⊢
    simpa using this
  refine wp_region_any hm ?_
  have hb : ∀ (i : Nat) (o : Oper), l.toArray[i]? = some o → ∀ e ∈ o.after, Region.binds .any e = true := fun i o ho e he => by
    have hmem : o ∈ l := by
      have : l[i]? = some o := by simpa using ho
      exact List.mem_of_getElem? this
    have h1 := List.all_eq_true.1 hbind o hmem
    rw [Array.all_eq_true] at h1
    obtain ⟨k, hk, rfl⟩ := Array.getElem_of_mem he
    exact h1 k hk
  have hl0 : left n (Array.replicate l.toArray.size false) = n := by
    unfold left
    rw [List.filter_eq_self.2 fun i _ => by rw [getD_replicate_false]; rfl, List.length_range]
  have hsz : l.toArray.size = n + (l.toArray.size - n) := by have := hh.le; omega
  have key := wpAny_factsR (P := P) (Q := Q) (ops := l.toArray) (n := n) (a := a) (W := w) (F := F) (R := R) hRt rfl hh hseq hF
    (fun i o hi ho a' w' hb' hout hpre => hstep i o hi (by simpa using ho) a' w' hb'
      (fun s hs => hout s fun j hj e => hs (by rw [hdi j hj] at e; exact List.mem_of_getElem? e))
      (fun e he d hd => hpre e he d (by
        have hlt := hh.back i o hi ho e he
        rw [hdi e.on (by omega)]; exact hd)))
    (fun us w' hb' hf => by
      have := hfin us w' hb' hf
      rw [← List.take_of_length_le (l := ds) (i := n) (by omega)] at this
      rw [putAll_eq n (by omega) hdi]
      exact this) hb n (Array.replicate l.toArray.size false) a { w with drawn := w.drawn + 1 } hl0
    ⟨by simp, fun t _ => getD_replicate_false _ _, rfl, rfl, fun _ _ => rfl, fun i d _ h _ => (by rw [getD_replicate_false] at h; cases h), hD⟩
  rw [← hsz] at key
  exact key
end
end Go.Proofs.YtldeoaddogifpaaGreatDoor
/-
  The reference's parser of fields (a box that keeps whether all had their form): number, duration, instant; the box while a region runs.
  Condition: strings' lengths fit an int.
-/
namespace Go.Proofs.YtldeoaddogifpaaGreatDoor
set_option linter.unusedSimpArgs false
set_option linter.unusedVariables false
open Go.RowKit

/-- The reference's parser p in block g: its one cell. -/
def BadIs (w : World) (g : Nat) (b : Bool) : Prop := w.heap[g]? = some (.cells #[.bool b] 60 (0, 0))
def NbPost (g : Nat) (b : Bool) (x : Int × Int) (w : World) (e : Ending) (w' : World) : Prop := e = .returned (.int .i64 x.1) ∧ BadIs w' g (b || decide (x.2 ≠ 0)) ∧ But g w w'
theorem numberR_any (g : Nat) (b : Bool) (s : ByteArray) (w : World) (hb : BadIs w g b) (hs : s.size ≤ maxLen) : Calls Tryz.prog 25 #[.pointer (some ⟨g, 0, none⟩), .string s] w (NbPost g b (parseB s) w) := by
  have HC := Lib.hid (parseIntR_any s w hs)
  unfold BadIs at hb
  have y0 := block_cell hb 0
  have f0 := block_free hb 0
  have HB := Lib.hid hb
  unfold ParsePost at HC
  generalize parseB s = z at *
  obtain ⟨n, er⟩ := z
  clear hb
  have HS : Hid (∀ x : Bool, x = (b || decide (er ≠ 0)) → NbPost g b (n, er) w (.returned (.int .i64 n)) (w.setCell ⟨g, 0, none⟩ (.bool x))) := fun x hx => by
    refine ⟨rfl, ?_, (But.refl g w).setCell 0 _⟩
    unfold BadIs
    rw [heap_setCell_same w g 0 _ _ _ HB.out, hx]
    rfl
  go_enter Tryz.func25, Tryz.ntmps25
  go_wp2_with fail
  refine HC.out.mono ?_
  rintro e w' ⟨rfl, rfl⟩
  cases b
  · by_cases h : er = 0
    · subst h
      go_wp2_with fail
      go_ret
      exact HS.out _ rfl
    · have h' : (er != 0) = true := by simpa using h
      have HT : Hid (true = (false || decide (er ≠ 0))) := by show _ = _; rw [decide_eq_true h]; rfl
      clear h
      go_wp2_with fail
      go_ret
      exact HS.out _ HT.out
  · have HT : Hid (true = (true || decide (er ≠ 0))) := rfl
    go_wp2_with fail
    go_ret
    exact HS.out _ HT.out
/-- A world where only block g differs, and memory has grown: cells of other blocks stay. -/
theorem Sl.but {α : Type} {t : Ty α} {w w' : World} {S : Nat → Prop} {A : Option Addr} {n c : Nat} {xs : List α} {g : Nat} (h : Sl t w S A n c xs) (hb : But g w w') (hS : ∀ b, S b → b < w.heap.size ∧ b ≠ g) : Sl t w' S A n c xs :=
  h.keep fun b hs => hb.block b (hS b hs).1 (hS b hs).2
theorem durationR_any (g : Nat) (b : Bool) (s : ByteArray) (w : World) (hb : BadIs w g b) (hs : s.size ≤ maxLen) : Calls Tryz.prog 23 #[.pointer (some ⟨g, 0, none⟩), .string s] w (NbPost g b (durB s) w) := by
  have HC := Lib.hid (parseDurationR_any s w hs)
  unfold BadIs at hb
  have y0 := block_cell hb 0
  have f0 := block_free hb 0
  have HB := Lib.hid hb
  unfold DurPost at HC
  generalize durB s = z at *
  obtain ⟨n, er⟩ := z
  clear hb
  have HS : Hid (∀ x : Bool, x = (b || decide (er ≠ 0)) → NbPost g b (n, er) w (.returned (.int .i64 n)) (w.setCell ⟨g, 0, none⟩ (.bool x))) := fun x hx => by
    refine ⟨rfl, ?_, (But.refl g w).setCell 0 _⟩
    unfold BadIs
    rw [heap_setCell_same w g 0 _ _ _ HB.out, hx]
    rfl
  go_enter Tryz.func23, Tryz.ntmps23
  go_wp2_with fail
  refine HC.out.mono ?_
  rintro e w' ⟨rfl, rfl⟩
  cases b
  · by_cases h : er = 0
    · subst h
      go_wp2_with fail
      go_ret
      exact HS.out _ rfl
    · have h' : (er != 0) = true := by simpa using h
      have HT : Hid (true = (false || decide (er ≠ 0))) := by show _ = _; rw [decide_eq_true h]; rfl
      clear h
      go_wp2_with fail
      go_ret
      exact HS.out _ HT.out
  · have HT : Hid (true = (true || decide (er ≠ 0))) := rfl
    go_wp2_with fail
    go_ret
    exact HS.out _ HT.out
set_option maxRecDepth 100000 in
set_option maxHeartbeats 800000 in
theorem parserInstant_any (g : Nat) (b : Bool) (f : List ByteArray) (A : Option Addr) (n c : Nat) (S : Nat → Prop) (i : Nat) (iv : Int) (w : World) (hb : BadIs w g b) (hf : Sl Ty.str w S A n c f) (hi : i + 1 < f.length) (hiv : iv = i) (hl : f.length ≤ 1000000) (hz : ∀ x ∈ f, x.size ≤ 20000) :
    Calls Tryz.prog 24 #[.pointer (some ⟨g, 0, none⟩), .slice A n c, .int .i64 iv] w (NbPost g b (insF f i) w) := by
  have hn := hf.len
  subst hn
  have z1 := fld_le (m := 20000) hz i
  have z2 := fld_le (m := 20000) hz (i + 1)
  obtain ⟨fb, o, e1, hSb, c1⟩ := hf.str_at (show i < f.length by omega)
  obtain ⟨fb', o', e', _, c2⟩ := hf.str_at hi
  subst e1
  injection e' with e'
  injection e' with e1 e2
  subst e1 e2
  have g1 : f[i] = fld f i := Option.some.inj ((List.getElem?_eq_getElem (by omega)).symm.trans (fld_at (by omega)))
  have g2 : f[i + 1] = fld f (i + 1) := Option.some.inj ((List.getElem?_eq_getElem hi).symm.trans (fld_at hi))
  rw [g1] at c1
  rw [g2] at c2
  unfold BadIs at hb
  have hgl : g < w.heap.size := (Array.getElem?_eq_some_iff.1 hb).1
  unfold insF
  generalize fld f i = f1 at *
  generalize fld f (i + 1) = f2 at *
  have hz1 : (f1 ++ spS).size = f1.size + 1 := by rw [ByteArray.size_append, show spS.size = 1 from rfl]
  have hzz : (f1 ++ spS ++ f2).size ≤ maxLen := by
    rw [ByteArray.size_append, hz1]; unfold maxLen; omega
  have HC : Hid (∀ V : World, Calls Tryz.prog 61 #[.string (f1 ++ spS ++ f2)] V (NumPost (insB (f1 ++ spS ++ f2)) V)) := fun V => parseInstantR_any _ V hzz
  unfold NumPost at HC
  have q1 : ¬ 9223372036854775807 < f1.size + 1 := by omega
  have q2 : ¬ 9223372036854775807 < (f1 ++ (⟨#[32]⟩ : ByteArray)).size + f2.size := by rw [show (⟨#[32]⟩ : ByteArray) = spS from rfl, hz1]; omega
  have q3 : ¬ 9223372036854775807 < f1.size + 1 + f2.size := by omega
  have HSP : Hid (spS = ⟨#[32]⟩) := rfl
  generalize insB (f1 ++ spS ++ f2) = z at *
  obtain ⟨x, er⟩ := z
  simp only at HC
  have HB := Lib.hid hb
  have HL := Lib.hid hgl
  have hi0 : 0 ≤ iv := by omega
  have hi2 : 0 ≤ iv + 1 := by omega
  have hil : iv < (f.length : Int) := by omega
  have hi1 : iv + 1 < (f.length : Int) := by omega
  have hwr : IntKind.i64.wrap (iv + 1) = iv + 1 := IntWalk.i64_in _ (by omega)
  have c1' : w.cell? ⟨fb, o + iv.toNat, none⟩ = some (.string f1) := by rw [show iv.toNat = i by omega]; exact c1
  have c2' : w.cell? ⟨fb, o + (iv + 1).toNat, none⟩ = some (.string f2) := by rw [show (iv + 1).toNat = i + 1 by omega]; exact c2
  clear hb hf hz hzz hi hz1 z1 z2 hgl hiv c1 c2 g1 g2 hl
  go_enter Tryz.func24, Tryz.ntmps24
  go_wp2_with fail
  go_region_law (first
    | (go_simp; go_at_call 61; refine (HC.out _).mono ?_; rintro e w' ⟨rfl, hbl⟩)
    | fail)
  all_goals
    have hg2 : w'.heap[g]? = some (.cells #[.bool b] 60 (0, 0)) := (hbl.block g HL.out).trans HB.out
    have y0 := block_cell hg2 0
    have f0 := block_free hg2 0
    have hbt : But g w w' := ⟨hbl.os, hbl.tape, hbl.output, hbl.size, fun q hq _ => hbl.block q hq⟩
    have HS : Hid (∀ y : Bool, y = (b || decide (er ≠ 0)) → NbPost g b (x, er) w (.returned (.int .i64 x)) (w'.setCell ⟨g, 0, none⟩ (.bool y))) := fun y hy => by
      refine ⟨rfl, ?_, hbt.setCell 0 _⟩
      unfold BadIs
      rw [heap_setCell_same w' g 0 _ _ _ hg2, hy]
      rfl
    clear hg2 hbt hbl
    cases b
    · by_cases h : er = 0
      · subst h
        go_wp2_with fail
        go_ret
        exact HS.out _ rfl
      · have h' : (er != 0) = true := by simpa using h
        have HT : Hid (true = (false || decide (er ≠ 0))) := by show _ = _; rw [decide_eq_true h]; rfl
        clear h
        go_wp2_with fail
        go_ret
        exact HS.out _ HT.out
    · have HT : Hid (true = (true || decide (er ≠ 0))) := rfl
      go_wp2_with fail
      go_ret
      exact HS.out _ HT.out
/-- Only the box in block g has changed: true stays true, and it becomes true only where BAD holds. -/
def RB (g : Nat) (BAD : Prop) (w w' : World) : Prop := But g w w' ∧ ∀ b, BadIs w g b → ∃ b', BadIs w' g b' ∧ (b = true → b' = true) ∧ (b' = true → b = true ∨ BAD)
theorem RB.refl (g : Nat) (BAD : Prop) (w : World) : RB g BAD w w := ⟨But.refl g w, fun b h => ⟨b, h, id, .inl⟩⟩
theorem RB.trans {g : Nat} {BAD : Prop} {x y z : World} (h : RB g BAD x y) (h' : RB g BAD y z) : RB g BAD x z := by
  refine ⟨h.1.trans h'.1, fun b hb => ?_⟩
  obtain ⟨b1, h1, h2, h3⟩ := h.2 b hb
  obtain ⟨b2, k1, k2, k3⟩ := h'.2 b1 h1
  exact ⟨b2, k1, fun e => k2 (h2 e), fun e => by
    rcases k3 e with e1 | e1
    · exact h3 e1
    · exact .inr e1⟩
theorem RB.of_below {g : Nat} {BAD : Prop} {w w' : World} (h : Below w.heap.size w w') : RB g BAD w w' :=
  ⟨(But.refl g w).of_below h, fun b hb => ⟨b, (h.block g (Array.getElem?_eq_some_iff.1 hb).1).trans hb, id, .inl⟩⟩
theorem RB.drew {g : Nat} {BAD : Prop} (w : World) : RB g BAD w { w with drawn := w.drawn + 1 } := RB.of_below ⟨rfl, rfl, rfl, Nat.le_refl _, fun _ _ => rfl⟩
theorem RB.of_num {g : Nat} {BAD : Prop} {w w' : World} {b : Bool} {er : Int} (hw : BadIs w g b) (h : BadIs w' g (b || decide (er ≠ 0))) (hb : But g w w') (he : er ≠ 0 → BAD) : RB g BAD w w' := by
  refine ⟨hb, fun b0 h0 => ?_⟩
  have e : b0 = b := by
    unfold BadIs at hw h0
    rw [hw] at h0
    injection h0 with h0
    injection h0 with h0
    have := congrArg (fun x : Array Value => x.toList) h0
    simp at this
    exact this.symm
  subst e
  refine ⟨_, h, fun e => by rw [e]; rfl, fun e => ?_⟩
  by_cases h1 : er = 0
  · subst h1; left; simpa using e
  · exact .inr (he h1)
theorem BadIs.mono {g : Nat} {BAD : Prop} {w w' : World} (h : BadIs w g true) (hr : RB g BAD w w') : BadIs w' g true := by
  obtain ⟨b', h1, h2, _⟩ := hr.2 true h
  rw [h2 rfl] at h1
  exact h1
theorem BadIs.inj {w : World} {g : Nat} {b c : Bool} (h : BadIs w g b) (h' : BadIs w g c) : b = c := by
  unfold BadIs at h h'
  rw [h] at h'
  injection h' with h'
  injection h' with h'
  have := congrArg (fun x : Array Value => x.toList) h'
  simpa using this
theorem BadIs.to {w : World} {g : Nat} {b c : Bool} (h : BadIs w g b) (e : b = c) : BadIs w g c := e ▸ h
theorem BadIs.lt {w : World} {g : Nat} {b : Bool} (h : BadIs w g b) : g < w.heap.size := (Array.getElem?_eq_some_iff.1 h).1
end Go.Proofs.YtldeoaddogifpaaGreatDoor
/-
  Contract of the reference's Fields (package pairingref5): it returns the same fields as text.Fields.
  Condition: the string is shorter than 2^31 bytes.
-/
namespace Go.Proofs.YtldeoaddogifpaaGreatDoor
set_option linter.unusedSimpArgs false
set_option linter.unusedVariables false
open Go.RowKit

theorem byte_is {s : ByteArray} {k : Nat} (h : k < s.size) (c : UInt8) : ((s[k].toNat : Int) == (c.toNat : Int)) = decide (s[k] = c) := by
  rw [Bool.eq_iff_iff, beq_iff_eq, decide_eq_true_eq]
  refine ⟨fun e => UInt8.toNat.inj (by omega), fun e => by rw [e]⟩

set_option maxHeartbeats 800000 in
theorem refFields_own (s : ByteArray) (w : World) (hs : s.size < 2147483648) :
    Calls Tryz.prog 22 #[.string s] w fun e w' => ∃ v, e = .returned v ∧ Own Ty.str 9 w' w.heap.size v (fieldsB s) ∧ Below w.heap.size w w' := by
  go_enter Tryz.func22, Tryz.ntmps22
  go_wp2_with fail
  go_loopw [3, 4, 5] (fun v f i wr => ∃ (k : Nat) (fr : Int) (l : List ByteArray), i = .int .i64 k ∧ f = .int .i64 fr ∧ Own Ty.str 9 wr w.heap.size v l ∧ Below w.heap.size w wr ∧ Hid (RF s k fr l)) (fun _ _ i _ => s.size + 2 - (intOf i).toNat)
  case atStart => exact ⟨0, -1, [], rfl, rfl, Own.nil, Below.refl _ _, RF.start s⟩
  case round =>
    obtain ⟨k, fr, l, rfl, rfl, hown, hbr, HR⟩ := hrel
    obtain ⟨hb1, hb2, hb3⟩ := HR.out.bd
    have hll := HR.out.len
    have hbs := hbr.size
    by_cases hlt : k < s.size
    · have e1 := byte_is hlt 32
      have e2 := byte_is hlt 35
      simp only [show ((32 : UInt8).toNat : Int) = 32 from rfl, show ((35 : UInt8).toNat : Int) = 35 from rfl] at e1 e2
      have hkk : ((k : Int) == (s.size : Int)) = false := by simp; omega
      by_cases h32 : s[k] = 32
      · have hR := HR.out.blank hlt h32
        rw [decide_eq_true h32] at e1
        rw [h32, decide_eq_false (by decide)] at e2
        have e2' : ((s[k].toNat : Int) == 35) = false := by rw [h32]; rfl
        have H32 := Lib.hid h32; clear h32 e2
        by_cases hfr : 0 ≤ fr
        · rw [if_pos hfr] at hR
          have HR2 := Lib.hid hR; clear hR
          go_wp2_with (at_builtin; refine wpList_push_str rfl _ _ rfl strElem rfl (hown.alloc _) wr.heap.size (s.extract fr.toNat k) rfl ?c1 ?c2 ?c3 (Nat.le_refl _) (hbr.alloc hbs _) ?_)
          case c1 => simp
          case c2 => omega
          case c3 => simp; omega
          intro v' w1 hown2 hbr2
          clear hown
          go_wp2_with fail
          go_roundw
          case rel => exact ⟨k + 1, -1, _, by go_num, rfl, hown2, hbr2, HR2⟩
          case measure => simp [intOf]; omega
        · obtain rfl : fr = -1 := by omega
          rw [if_neg hfr] at hR
          have HR2 := Lib.hid hR; clear hR
          go_wp2_with fail
          go_roundw
          case rel => exact ⟨k + 1, -1, _, by go_num, rfl, hown, hbr, HR2⟩
          case measure => simp [intOf]; omega
      · rw [decide_eq_false h32] at e1
        by_cases h35 : s[k] = 35
        · have hR := HR.out.stop (.inr ⟨hlt, h35⟩)
          rw [decide_eq_true h35] at e2
          have H35 := Lib.hid h35; clear h32 h35
          by_cases hfr : 0 ≤ fr
          · rw [if_pos hfr] at hR
            have HR2 := Lib.hid hR; clear hR
            go_wp2_with (at_builtin; refine wpList_push_str rfl _ _ rfl strElem rfl (hown.alloc _) wr.heap.size (s.extract fr.toNat k) rfl ?c1 ?c2 ?c3 (Nat.le_refl _) (hbr.alloc hbs _) ?_)
            case c1 => simp
            case c2 => omega
            case c3 => simp; omega
            intro v' w1 hown2 hbr2
            clear hown
            go_wp2_with fail
            go_ret
            rw [HR2.out] at hown2
            exact ⟨_, rfl, hown2, hbr2⟩
          · rw [if_neg hfr] at hR
            have HR2 := Lib.hid hR; clear hR
            go_wp2_with fail
            go_ret
            rw [HR2.out] at hown
            exact ⟨_, rfl, hown, hbr⟩
        · have hR := HR.out.byte hlt h32 h35
          rw [decide_eq_false h35] at e2
          have H35 := Lib.hid h35; clear h32 h35
          by_cases hfr : fr < 0
          · rw [if_pos hfr] at hR
            have HR2 := Lib.hid hR; clear hR
            go_wp2_with fail
            go_roundw
            case rel => exact ⟨k + 1, k, _, by go_num, rfl, hown, hbr, HR2⟩
            case measure => simp [intOf]; omega
          · rw [if_neg hfr] at hR
            have HR2 := Lib.hid hR; clear hR
            go_wp2_with fail
            go_roundw
            case rel => exact ⟨k + 1, fr, _, by go_num, rfl, hown, hbr, HR2⟩
            case measure => simp [intOf]; omega
    · by_cases heq : k = s.size
      · have hR := HR.out.stop (.inl heq)
        have hkk : ((k : Int) == (s.size : Int)) = true := by simp; omega
        have hle : k ≤ s.size := by omega
        have HE := Lib.hid heq; clear heq
        by_cases hfr : 0 ≤ fr
        · rw [if_pos hfr] at hR
          have HR2 := Lib.hid hR; clear hR
          go_wp2_with (at_builtin; refine wpList_push_str rfl _ _ rfl strElem rfl (hown.alloc _) wr.heap.size (s.extract fr.toNat k) rfl ?c1 ?c2 ?c3 (Nat.le_refl _) (hbr.alloc hbs _) ?_)
          case c1 => simp
          case c2 => omega
          case c3 => simp; omega
          intro v' w1 hown2 hbr2
          clear hown
          go_wp2_with fail
          go_roundw
          case rel => exact ⟨k + 1, -1, _, by go_num, rfl, hown2, hbr2, by rw [HR2.out, HE.out]; exact RF.done⟩
          case measure => simp [intOf]; omega
        · obtain rfl : fr = -1 := by omega
          rw [if_neg hfr] at hR
          have HR2 := Lib.hid hR; clear hR
          go_wp2_with fail
          go_roundw
          case rel => exact ⟨k + 1, -1, _, by go_num, rfl, hown, hbr, by rw [HR2.out, HE.out]; exact RF.done⟩
          case measure => simp [intOf]; omega
      · have hR := HR.out.end_ (by omega)
        have HR2 := Lib.hid hR; clear hR
        have hgt : s.size < k := by omega
        clear heq
        go_wp2_with fail
        go_ret
        rw [HR2.out] at hown
        exact ⟨_, rfl, hown, hbr⟩
theorem refFields_any (s : ByteArray) (w : World) (hs : s.size < 2147483648) :
    Calls Tryz.prog 22 #[.string s] w fun e w' => ∃ A c, e = .returned (.slice A (fieldsB s).length c) ∧ Sl Ty.str w' (all_ w') A (fieldsB s).length c (fieldsB s) ∧ Below w.heap.size w w' := by
  refine (refFields_own s w hs).mono ?_
  rintro e w' ⟨v, rfl, h, hb⟩
  obtain ⟨A, c, rfl, h2⟩ := h.sl
  exact ⟨A, c, rfl, h2.more fun b hb => hb.2, hb⟩
end Go.Proofs.YtldeoaddogifpaaGreatDoor
/-
  Contracts of text.Lines and of the reference's Lines: both return the specified lines or the error's number, in new memory, and change nothing that was there.
  Condition: the string's length fits an int; the library's variable MaxLen holds an int.
-/
namespace Go.Proofs.YtldeoaddogifpaaGreatDoor
set_option linter.unusedSimpArgs false
set_option linter.unusedVariables false
open Go.RowKit

def trimB (s : ByteArray) : ByteArray := bs (Lib.trimSuffix s.data.toList [10])
theorem trimB_size (s : ByteArray) : (trimB s).size ≤ s.size := by
  unfold trimB Lib.trimSuffix
  rw [bs_size, Lib.size_eq]
  split
  · rw [List.length_take]; omega
  · exact Nat.le_refl _
theorem trim_any (s : ByteArray) (w : World) (hs : s.size ≤ 9223372036854775807) :
    Calls Tryz.prog 56 #[.string s, .string ⟨#[10]⟩] w fun e w' => e = .returned (.string (trimB s)) ∧ w = w' := by
  refine (Tryz.strings_TrimSuffix s ⟨#[10]⟩ w hs).mono ?_
  rintro e w' ⟨rfl, rfl⟩
  exact ⟨rfl, rfl⟩
theorem pieces_trim (s : ByteArray) (hne : s.size ≠ 0) : piecesB 10 (trimB s) = (linesL s.data.toList).map bs := by
  unfold piecesB trimB
  rw [bs_data, linesL_trim]
  intro e
  have := Lib.size_eq s
  rw [e] at this
  exact hne this
theorem lines_empty (s : ByteArray) (h : s.size = 0) : linesL s.data.toList = [] := by
  have h2 := Lib.size_eq s
  rw [List.eq_nil_of_length_eq_zero (l := s.data.toList) (by omega)]
  rfl

/-- What Lines hands back: the lines in memory and the error's number. -/
def LinesPost (s : ByteArray) (w : World) (e : Ending) (w' : World) : Prop :=
  ∃ A n c, e = .returned (.tuple #[.slice A n c, .int .i64 (linesB s).2]) ∧ Sl Ty.str w' (all_ w') A n c (linesB s).1 ∧ Below w.heap.size w w'

set_option maxHeartbeats 800000 in
theorem lines_any (s : ByteArray) (w : World) (hs : s.size ≤ maxLen) (hg : Glo w) :
    Calls Tryz.prog 18 #[.string s] w (LinesPost s w) := by
  unfold maxLen at hs
  by_cases hbig : 20000 < s.size
  · have HL : Hid (linesB s = ([], 10)) := by show linesB s = _; unfold linesB; rw [if_pos hbig]
    go_enter Tryz.func18, Tryz.ntmps18
    go_wp2_with fail
    go_ret2
    refine ⟨none, 0, 0, ?_, ?_, Below.refl _ _⟩
    · rw [HL.out]; rfl
    · rw [HL.out]; exact Sl.nil0
  · go_enter Tryz.func18, Tryz.ntmps18
    go_wp2_with fail
    go_loop [11] (fun i => ∃ k : Nat, k ≤ s.size ∧ i = .int .i64 k ∧ Hid (allTo (okByte s) k = true)) (fun i => s.size - (intOf i).toNat)
    case atStart => exact ⟨0, Nat.zero_le _, rfl, rfl⟩
    case round =>
      obtain ⟨k, hk, rfl, HA⟩ := hrel
      by_cases hlt : k < s.size
      · have HB := Lib.hid (byteAt_eq s k hlt)
        go_wp2_with fail
        all_goals
          have HB' := HB.out
          first
          | (have hv : okByte s k = true := by unfold okByte; grind
             go_round
             case rel => exact ⟨k + 1, by omega, by go_num, by show allTo _ _ = true; rw [allTo_succ, HA.out, hv]; rfl⟩
             case measure => simp [intOf]; omega)
          | (have hv : okByte s k = false := by unfold okByte; grind
             have HL : Hid (linesB s = ([], 1)) := by show linesB s = _; unfold linesB; rw [if_neg hbig, if_pos (allTo_false hlt hv)]
             go_ret2
             refine ⟨none, 0, 0, ?_, ?_, Below.refl _ _⟩
             · rw [HL.out]; rfl
             · rw [HL.out]; exact Sl.nil0)
      · have hkk : k = s.size := by omega
        have hall : allTo (okByte s) s.size = true := by rw [← hkk]; exact HA.out
        by_cases h0 : s.size = 0
        · have hemp : s.toList.isEmpty = true := by
            rw [ByteArray.toList_eq, List.isEmpty_iff]
            exact List.eq_nil_of_length_eq_zero (by rw [← Lib.size_eq]; exact h0)
          have HL : Hid (linesB s = ([], 0)) := by
            show linesB s = _
            unfold linesB
            rw [if_neg hbig, if_neg (by rw [hall]; decide), lines_empty s h0, if_neg (by decide)]
            rfl
          clear HA hall h0 hkk
          go_wp2_with fail
          go_ret2
          refine ⟨none, 0, 0, ?_, ?_, Below.refl _ _⟩
          · rw [HL.out]; rfl
          · rw [HL.out]; exact Sl.nil0
        · have hemp : s.toList.isEmpty = false := by
            rw [ByteArray.toList_eq, Bool.eq_false_iff]
            intro h
            rw [List.isEmpty_iff] at h
            have := Lib.size_eq s
            rw [h] at this
            exact h0 this
          have HP := Lib.hid (pieces_trim s h0)
          have hpl := piecesB_le 10 (trimB s)
          have htb := trimB_size s
          have HL : Hid (linesB s = if 1000 < (piecesB 10 (trimB s)).length then ([], 10) else (piecesB 10 (trimB s), 0)) := by
            show linesB s = _
            unfold linesB
            rw [if_neg hbig, if_neg (by rw [hall]; decide), HP.out, List.length_map]
          clear HA hall h0 hkk HP
          go_wp2_with fail
          refine (trim_any s _ (by omega)).mono ?_
          rintro e w' ⟨rfl, rfl⟩
          go_wp2_with fail
          refine (split_any _ _ _ (by omega) hg).mono ?_
          rintro e w' ⟨rfl, rfl⟩
          generalize hps : piecesB 10 (trimB s) = ps at *
          clear hps
          have hbl : Below w.heap.size w (w.alloc (.cells (ps.map Value.string).toArray 9)) := (Below.refl _ _).alloc (Nat.le_refl _) _
          have HS : Hid (Sl Ty.str (w.alloc (.cells (ps.map Value.string).toArray 9)) (all_ (w.alloc (.cells (ps.map Value.string).toArray 9))) (some ⟨w.heap.size, 0, none⟩) ps.length ps.length ps) := by
            refine ⟨rfl, Nat.le_refl _, by unfold maxLen; omega, fun _ => ⟨_, _, rfl, by unfold all_; simp, fun i x hi => ⟨[.string x], rfl, fun j u hu => ?_⟩⟩⟩
            rcases j with _ | j
            · simp at hu
              subst hu
              simp only [Ty.str, Nat.zero_add, Nat.mul_one, Nat.add_zero]
              rw [World.cell?_alloc_at _ _ _ _ rfl]
              simp [hi]
            · simp at hu
          by_cases h1000 : 1000 < ps.length
          · go_wp2_with fail
            go_ret2
            refine ⟨none, 0, 0, ?_, ?_, hbl⟩
            · rw [HL.out, if_pos h1000]; rfl
            · rw [HL.out, if_pos h1000]; exact Sl.nil0
          · go_wp2_with fail
            go_ret2
            refine ⟨some ⟨w.heap.size, 0, none⟩, ps.length, ps.length, ?_, ?_, hbl⟩
            · rw [HL.out, if_neg h1000]; rfl
            · rw [HL.out, if_neg h1000]; exact HS.out
end Go.Proofs.YtldeoaddogifpaaGreatDoor
/-
  Contract of timetable.Parse: the timetable, line and error of the plain parser (parseT).
  Condition: the string's length fits an int.
-/
namespace Go.Proofs.YtldeoaddogifpaaGreatDoor
set_option linter.unusedSimpArgs false
set_option linter.unusedVariables false
open Go.RowKit

def TParPost (r : GTT × Int × Int) (w : World) (e : Ending) (w' : World) : Prop :=
  ∃ A1 n1 c1 A2 n2 c2 A3 n3 c3, e = .returned (.tuple #[.agg #[.slice A1 n1 c1, .slice A2 n2 c2, .slice A3 n3 c3], .int .i64 r.2.1, .int .i64 r.2.2]) ∧
    Sl Ty.zone w' (all_ w') A1 n1 c1 r.1.zones ∧ Sl Ty.airport w' (all_ w') A2 n2 c2 r.1.airports ∧ Sl Ty.flight w' (all_ w') A3 n3 c3 r.1.flights ∧ Below w.heap.size w w'
theorem stepT9_nil {s : ByteArray} {t : GTT} (h : fieldsB s = []) : stepT9 s t = some t := by unfold stepT9; rw [if_pos h]
theorem stepT9_line {s : ByteArray} {t : GTT} (h : ¬ fieldsB s = []) : stepT9 s t = lineT9 (fieldsB s) t := by unfold stepT9; rw [if_neg h]
theorem TtOk.up {m m' : Nat} {t : GTT} (h : TtOk m t) (hm : m ≤ m') : TtOk m' t := ⟨h.1, Nat.le_trans h.2.1 hm, Nat.le_trans h.2.2.1 hm, Nat.le_trans h.2.2.2 hm⟩
theorem fieldsB_len (s : ByteArray) : (fieldsB s).length ≤ s.size + 1 := by
  unfold fieldsB fieldsL
  rw [List.length_map, Lib.size_eq]
  have h1 := List.length_filter_le (fun f : List UInt8 => !f.isEmpty) (splitL 32 (s.data.toList.takeWhile (fun b => b != 35)))
  have h2 := splitL_length 32 (s.data.toList.takeWhile (fun b => b != 35))
  have h3 : (s.data.toList.takeWhile (fun b => b != 35)).count 32 ≤ (s.data.toList.takeWhile (fun b => b != 35)).length := List.count_le_length
  have h4 := takeWhile_len (fun b => b != 35) s.data.toList
  omega
/-- A list of strings lies in no block that holds no string. -/
theorem Sl.str_apart {w : World} {S : Nat → Prop} {A : Option Addr} {n c g : Nat} {xs : List ByteArray} (h : Sl Ty.str w S A n c xs) (hg : ∀ j x, w.cell? ⟨g, j, none⟩ ≠ some (.string x)) : Sl Ty.str w (fun b => S b ∧ b ≠ g) A n c xs := by
  obtain ⟨h1, h2, h3, h4⟩ := h
  refine ⟨h1, h2, h3, fun hn => ?_⟩
  obtain ⟨b, o, e, hs, hx⟩ := h4 hn
  refine ⟨b, o, e, ⟨hs, fun hbg => ?_⟩, hx⟩
  subst hbg
  obtain ⟨cs, hr, ha⟩ := hx 0 xs[0] (List.getElem?_eq_getElem (by omega))
  have hr' : cs = [.string xs[0]] := hr
  subst hr'
  exact hg _ _ (ha 0 _ rfl)
theorem box_nostr {w : World} {g : Nat} {T : TypeId} {v1 v2 v3 : Value} (h : w.heap[g]? = some (.cells #[v1, v2, v3] T (0, 0))) (h1 : ∀ x, v1 ≠ .string x) (h2 : ∀ x, v2 ≠ .string x) (h3 : ∀ x, v3 ≠ .string x) : ∀ j x, w.cell? ⟨g, j, none⟩ ≠ some (.string x) := fun j x he => by
  rw [block_cell h j] at he
  match j, he with
  | 0, he => exact h1 x (Option.some.inj he)
  | 1, he => exact h2 x (Option.some.inj he)
  | 2, he => exact h3 x (Option.some.inj he)
set_option maxRecDepth 100000 in
set_option maxHeartbeats 6400000 in
theorem ttParse_any (s : ByteArray) (w : World) (hs : s.size ≤ maxLen) (hg : Glo w) : Calls Tryz.prog 7 #[.string s] w (TParPost (parseT s) w) := by
  have HGL : Hid (∀ V, Below w.heap.size w V → Glo V) := fun V hV => hg.next hV
  have HSS := Lib.hid hs
  have ha := (Below.refl w.heap.size w).alloc (Nat.le_refl _) (.cells #[.slice none 0 0, .slice none 0 0, .slice none 0 0] 27)
  have hx0 := heap_alloc_new w (.cells #[.slice none 0 0, .slice none 0 0, .slice none 0 0] 27)
  have hz0 : (w.alloc (.cells #[.slice none 0 0, .slice none 0 0, .slice none 0 0] 27)).heap.size = w.heap.size + 1 := by simp
  have HA := Lib.hid ha; have HX0 := Lib.hid hx0; have HZ0 := Lib.hid hz0
  have HBAD : Hid (∀ (W' : World) (ln x : Int), parseT s = (emTT, ln, x) → Below w.heap.size w W' → TParPost (parseT s) w (.returned (.tuple #[.agg #[.slice none 0 0, .slice none 0 0, .slice none 0 0], .int .i64 ln, .int .i64 x])) W') := fun W' ln x he hb => by
    rw [he]
    exact ⟨none, 0, 0, none, 0, 0, none, 0, 0, rfl, Sl.nil0, Sl.nil0, Sl.nil0, hb⟩
  have HT2 : Hid ((linesB s).2 ≠ 0 → parseT s = (emTT, 0, (linesB s).2)) := fun h => by show _ = _; unfold parseT; rw [if_pos h]
  clear ha hx0 hz0 hg hs
  go_enter Tryz.func7, Tryz.ntmps7
  go_upto_region 1 with (fail)
  generalize w.alloc (.cells #[.slice none 0 0, .slice none 0 0, .slice none 0 0] 27) = W at *
  go_wp2_with fail
  refine (lines_any s W HSS.out (HGL.out W HA.out)).mono ?_
  rintro e w2 ⟨Al, nl, cl, rfl, hsl, hb2⟩
  have hbw2 : Below w.heap.size w w2 := HA.out.trans (hb2.mono HA.out.size)
  have hx2 : w2.heap[w.heap.size]? = some (.cells #[.slice none 0 0, .slice none 0 0, .slice none 0 0] 27 (0, 0)) := (hb2.block _ (by have := HZ0.out; omega)).trans HX0.out
  have hz2 : w.heap.size + 1 ≤ w2.heap.size := by have := hb2.size; have := HZ0.out; omega
  have HX2 := Lib.hid hx2
  have HBW2 := Lib.hid hbw2
  by_cases he : (linesB s).2 = 0
  case neg =>
    have he' : ((linesB s).2 != 0) = true := by simpa using he
    have HR := Lib.hid (HT2.out he)
    have z0 := block_cell hx2 0; have z1 := block_cell hx2 1; have z2 := block_cell hx2 2
    have f0 := block_free hx2 0; have f1 := block_free hx2 1; have f2 := block_free hx2 2
    generalize (linesB s).2 = er at *
    clear he hx2
    go_wp2_with fail
    refine bodyPost_ret (v := .tuple #[.agg #[.slice none 0 0, .slice none 0 0, .slice none 0 0], .int .i64 0, .int .i64 er]) (by simp [results, Tryz.results7, go_sem, z0, z1, z2]) rfl ?_
    exact HBAD.out _ _ _ HR.out (((HBW2.out.setCell (Nat.le_refl _) _).setCell (Nat.le_refl _) _).setCell (Nat.le_refl _) _)
  rw [he]
  have HLM : Hid (∀ f ∈ (linesB s).1, f.size ≤ 20000) := fun f hf => by have := linesB_mem hf; omega
  have hll := linesB_len s
  have HPO : Hid (∀ k, TtOk k (ttAt (linesB s).1 k)) := TtOk.at_ HLM.out
  have HPE : Hid (∀ k : Nat, k < (linesB s).1.length → ttBad (linesB s).1 k = true → (∀ j, j < k → ttBad (linesB s).1 j = false) → parseT s = (emTT, (k : Int) + 1, 1)) := fun k h1 h2 h3 => parseT_bad he h1 h2 h3
  have HPA : Hid ((∀ j, j < (linesB s).1.length → ttBad (linesB s).1 j = false) → parseT s = if ttE (ttAt (linesB s).1 (linesB s).1.length) ≠ 0 then (emTT, 0, ttE (ttAt (linesB s).1 (linesB s).1.length)) else (ttAt (linesB s).1 (linesB s).1.length, 0, 0)) := fun h => parseT_all he h
  generalize (linesB s).1 = ls at *
  have hnl := hsl.len
  subst hnl
  have HTB0 : Hid (TBx w2 w.heap.size w2.heap.size (.slice none 0 0) (.slice none 0 0) (.slice none 0 0) (ttAt ls 0)) := ⟨hx2, TPM.nil _ _, hz2, Nat.le_refl _⟩
  have HSL := Lib.hid (hsl.str_apart (box_nostr hx2 (fun _ h => by cases h) (fun _ h => by cases h) (fun _ h => by cases h)))
  have HKB : Hid (∀ V, TKeep w.heap.size w2.heap.size w2 V → Below w.heap.size w V ∧ Sl Ty.str V (all_ V) Al ls.length cl ls) := fun V hV => by
    refine ⟨⟨hV.os.trans HBW2.out.os, hV.tape.trans HBW2.out.tape, hV.output.trans HBW2.out.output, by have := hV.size; omega, fun q hq => (hV.block q (by omega) (by omega)).trans (HBW2.out.block q hq)⟩, (HSL.out.keep fun q hq => hV.block q hq.1 hq.2).more fun q hq => Nat.lt_of_lt_of_le hq.1 hV.size⟩
  clear hsl hb2 hbw2 HT2 he hx2 HX0 HZ0 HA
  go_wp2_with fail
  go_loopw [6, 7, 8, 21] (fun _ _ _ i wr => ∃ (k : Nat) (v1 v2 v3 : Value), k ≤ ls.length ∧ i = .int .i64 k ∧ Hid (TBx wr w.heap.size w2.heap.size v1 v2 v3 (ttAt ls k)) ∧ Hid (TKeep w.heap.size w2.heap.size w2 wr) ∧ Hid (∀ j, j < k → ttBad ls j = false)) (fun _ _ _ i _ => ls.length - (intOf i).toNat)
  case atStart => exact ⟨0, _, _, _, Nat.zero_le _, rfl, HTB0, TKeep.of_below (Below.refl _ _) (Nat.le_refl _), fun j hj => by omega⟩
  case round =>
    clear HTB0
    obtain ⟨k, v1, v2, v3, hk, rfl, HST, HKP, HNE⟩ := hrel
    obtain ⟨hbr, hslr⟩ := HKB.out wr HKP.out
    by_cases hlt : k < ls.length
    · have hlt' : (k : Int) < (ls.length : Int) := by omega
      obtain ⟨lb, lo2, rfl, -, hcl⟩ := hslr.str_at hlt
      have hge : ls[k] = ls.getD k emS := by rw [List.getD_eq_getElem?_getD, List.getElem?_eq_getElem hlt]; rfl
      rw [hge] at hcl
      have hsz : (ls.getD k emS).size ≤ 20000 := fld_le HLM.out k
      have HFO := Lib.hid (fields_own (ls.getD k emS) wr (by omega) (HGL.out wr hbr))
      have HFM : Hid (∀ x ∈ fieldsB (ls.getD k emS), x.size ≤ 20000) := fun x hx => by have := fieldsB_mem hx; omega
      have HFL : Hid ((fieldsB (ls.getD k emS)).length ≤ 100000) := by
        have := fieldsB_len (ls.getD k emS)
        show _ ≤ _
        omega
      have HSUC : Hid (∀ x, stepT9 (ls.getD k emS) (ttAt ls k) = some x → ttAt ls (k + 1) = x ∧ ttBad ls k = false) := fun x hx => ttAt_succ hx
      have HBD : Hid (stepT9 (ls.getD k emS) (ttAt ls k) = none → ttBad ls k = true) := fun hx => ttBad_of hx
      generalize ls.getD k emS = ln at *
      clear hslr hsz hge
      go_wp2_with fail
      refine HFO.out.mono ?_
      rintro e wf ⟨vf, rfl, hof, hbf⟩
      obtain ⟨Af, cf, rfl, hslf⟩ := hof.sl
      have hszf := hbf.size
      have HSF : Hid (TBx wf w.heap.size w2.heap.size v1 v2 v3 (ttAt ls k)) := HST.out.next hbf
      have HKF : Hid (TKeep w.heap.size w2.heap.size w2 wf) := HKP.out.trans (TKeep.of_below hbf HST.out.le)
      have HBF := Lib.hid (HKB.out wf HKF.out).1
      have HSLF : Hid (Sl Ty.str wf (all_ wf) Af (fieldsB ln).length cf (fieldsB ln)) := hslf.more fun q hq => hq.2
      have HNIL := Lib.hid (stepT9_nil (s := ln) (t := ttAt ls k))
      have HLIN := Lib.hid (stepT9_line (s := ln) (t := ttAt ls k))
      have HOKK : Hid (TtOk 1000 (ttAt ls k)) := (HPO.out k).up (by omega)
      clear hof hslf HFO HST HKP hbf hbr hcl
      generalize fieldsB ln = fs at *
      by_cases hfs : fs = []
      · have hl0 : ((fs.length : Int) == 0) = true := by rw [hfs]; rfl
        have HE := Lib.hid (HSUC.out _ (HNIL.out hfs))
        have HN1 : Hid (∀ j, j < k + 1 → ttBad ls j = false) := fun j hj => by
          rcases Nat.lt_or_eq_of_le (Nat.le_of_lt_succ hj) with h | h
          · exact HNE.out j h
          · subst h; exact HE.out.2
        have HST1 : Hid (TBx wf w.heap.size w2.heap.size v1 v2 v3 (ttAt ls (k + 1))) := by show TBx _ _ _ _ _ _ _; rw [HE.out.1]; exact HSF.out
        clear hfs
        go_wp2_with fail
        go_roundw
        case rel => exact ⟨k + 1, v1, v2, v3, by omega, by go_num, HST1, HKF, HN1⟩
        case measure => simp [intOf]; omega
      have hl0 : ((fs.length : Int) == 0) = false := by
        have := List.length_pos_iff.2 hfs
        simp; omega
      have HLN := Lib.hid (parseLine9_any fs Af fs.length cf (ttAt ls k) w.heap.size w2.heap.size v1 v2 v3 wf HSF.out HOKK.out HSLF.out (List.length_pos_iff.2 hfs) HFL.out HFM.out (HGL.out wf HBF.out))
      have HLI := Lib.hid (HLIN.out hfs)
      clear hfs HNIL HLIN
      rw [HLI.out] at HSUC HBD
      unfold LnPost9 at HLN
      generalize lineT9 fs (ttAt ls k) = r at *
      go_wp2_with fail
      refine HLN.out.mono ?_
      rintro e w5 ⟨rfl, hk5, u1, u2, u3, t5, hx5, ht5⟩
      have HK5 : Hid (TKeep w.heap.size w2.heap.size w2 w5) := HKF.out.trans hk5
      have HB5 := Lib.hid (HKB.out w5 HK5.out).1
      have HX5 := Lib.hid hx5
      have HT5 := Lib.hid ht5
      clear hk5 HLN hx5 ht5
      cases r with
      | some x =>
        obtain rfl := HT5.out x rfl
        have HE := Lib.hid (HSUC.out t5 rfl)
        have HN1 : Hid (∀ j, j < k + 1 → ttBad ls j = false) := fun j hj => by
          rcases Nat.lt_or_eq_of_le (Nat.le_of_lt_succ hj) with h | h
          · exact HNE.out j h
          · subst h; exact HE.out.2
        have HST1 : Hid (TBx w5 w.heap.size w2.heap.size u1 u2 u3 (ttAt ls (k + 1))) := by show TBx _ _ _ _ _ _ _; rw [HE.out.1]; exact HX5.out
        go_wp2_with fail
        go_roundw
        case rel => exact ⟨k + 1, u1, u2, u3, by omega, by go_num, HST1, HK5, HN1⟩
        case measure => simp [intOf]; omega
      | none =>
        have HR : Hid (parseT s = (emTT, (k : Int) + 1, 1)) := HPE.out k hlt (HBD.out rfl) HNE.out
        have hx := HX5.out.box
        obtain ⟨B1, d1, B2, d2, B3, d3, rfl, rfl, rfl, -⟩ := HX5.out.m.sl
        have z0 := block_cell hx 0; have z1 := block_cell hx 1; have z2 := block_cell hx 2
        have f0 := block_free hx 0; have f1 := block_free hx 1; have f2 := block_free hx 2
        clear hx
        go_wp2_with fail
        refine bodyPost_ret (v := .tuple #[.agg #[.slice none 0 0, .slice none 0 0, .slice none 0 0], .int .i64 ((k : Int) + 1), .int .i64 1]) (by simp [results, Tryz.results7, go_sem, z0, z1, z2]) rfl ?_
        exact HBAD.out _ _ _ HR.out (((HB5.out.setCell (Nat.le_refl _) _).setCell (Nat.le_refl _) _).setCell (Nat.le_refl _) _)
    · have hkl : k = ls.length := by omega
      subst hkl
      have hge : ¬ (ls.length : Int) < (ls.length : Int) := by omega
      have HPAX := Lib.hid (HPA.out HNE.out)
      have HOKP := HPO.out ls.length
      have hx := HST.out.box
      have hm := HST.out.m
      obtain ⟨B1, d1, B2, d2, B3, d3, rfl, rfl, rfl, s1, s2, s3⟩ := hm.sl
      have hbr' := Lib.hid hbr
      have hV := validate_any (ttAt ls ls.length) B1 B2 B3 _ _ _ d1 d2 d3 wr HOKP.1 (s1.more fun q hq => hq.2) (s2.more fun q hq => hq.2) (s3.more fun q hq => hq.2)
      have HV := Lib.hid hV
      have HM := Lib.hid hm
      have HX := Lib.hid hx
      have htl := HST.out.lt
      have hle := HST.out.le
      generalize ttAt ls ls.length = tt at *
      have z0 := block_cell hx 0; have z1 := block_cell hx 1; have z2 := block_cell hx 2
      clear hx hm s1 s2 s3 hV hbr hslr hlt hk HOKP HST HKP HNE
      go_wp2_with fail
      refine HV.out.mono ?_
      rintro e w6 ⟨rfl, hb6⟩
      have HB6 : Hid (Below w.heap.size w w6) := hbr'.out.trans (hb6.mono hbr'.out.size)
      have hx6 := (hb6.block w.heap.size (by omega)).trans HX.out
      have HM6 := Lib.hid (HM.out.next hb6)
      clear z0 z1 z2 hb6 HV
      have z0 := block_cell hx6 0; have z1 := block_cell hx6 1; have z2 := block_cell hx6 2
      have f0 := block_free hx6 0; have f1 := block_free hx6 1; have f2 := block_free hx6 2
      clear hx6
      generalize ttE tt = ce at *
      by_cases hce : ce = 0
      · have HR : Hid (parseT s = (tt, 0, 0)) := by show _ = _; rw [HPAX.out, if_neg (by simp [hce])]
        have HRES : Hid (∀ V, TPM V w2.heap.size (.slice B1 tt.zones.length d1) (.slice B2 tt.airports.length d2) (.slice B3 tt.flights.length d3) tt → Below w.heap.size w V → TParPost (parseT s) w (.returned (.tuple #[.agg #[.slice B1 tt.zones.length d1, .slice B2 tt.airports.length d2, .slice B3 tt.flights.length d3], .int .i64 0, .int .i64 0])) V) := fun V hm hb => by
          rw [HR.out]
          obtain ⟨B1', d1', B2', d2', B3', d3', e1, e2, e3, s1, s2, s3⟩ := hm.sl
          injection e1 with e1 _ e1'
          injection e2 with e2 _ e2'
          injection e3 with e3 _ e3'
          subst e1 e1' e2 e2' e3 e3'
          exact ⟨_, _, _, _, _, _, _, _, _, rfl, s1.more fun q hq => hq.2, s2.more fun q hq => hq.2, s3.more fun q hq => hq.2, hb⟩
        subst hce
        go_wp2_with fail
        refine bodyPost_ret (v := .tuple #[.agg #[.slice B1 tt.zones.length d1, .slice B2 tt.airports.length d2, .slice B3 tt.flights.length d3], .int .i64 0, .int .i64 0]) (by simp [results, Tryz.results7, go_sem, z0, z1, z2]) rfl ?_
        exact HRES.out _ (((HM6.out.setBox htl).setBox htl).setBox htl) (((HB6.out.setCell (Nat.le_refl _) _).setCell (Nat.le_refl _) _).setCell (Nat.le_refl _) _)
      · have hne : (ce != 0) = true := by simpa using hce
        have HR : Hid (parseT s = (emTT, 0, ce)) := by show _ = _; rw [HPAX.out, if_pos hce]
        clear hce HPAX
        go_wp2_with fail
        refine bodyPost_ret (v := .tuple #[.agg #[.slice none 0 0, .slice none 0 0, .slice none 0 0], .int .i64 0, .int .i64 ce]) (by simp [results, Tryz.results7, go_sem, z0, z1, z2]) rfl ?_
        exact HBAD.out _ _ _ HR.out (((HB6.out.setCell (Nat.le_refl _) _).setCell (Nat.le_refl _) _).setCell (Nat.le_refl _) _)
end Go.Proofs.YtldeoaddogifpaaGreatDoor
/-
  Contract of the reference's Lines (package pairingref5).
  Condition: the string's length fits an int.
-/
namespace Go.Proofs.YtldeoaddogifpaaGreatDoor
set_option linter.unusedSimpArgs false
set_option linter.unusedVariables false
open Go.RowKit

set_option maxHeartbeats 800000 in
theorem refLines_any (s : ByteArray) (w : World) (hs : s.size ≤ maxLen) :
    Calls Tryz.prog 21 #[.string s] w (LinesPost s w) := by
  unfold maxLen at hs
  by_cases hbig : 20000 < s.size
  · have HL : Hid (linesB s = ([], 10)) := by show linesB s = _; unfold linesB; rw [if_pos hbig]
    go_enter Tryz.func21, Tryz.ntmps21
    go_wp2_with fail
    go_ret2
    refine ⟨none, 0, 0, ?_, ?_, Below.refl _ _⟩
    · rw [HL.out]; rfl
    · rw [HL.out]; exact Sl.nil0
  · go_enter Tryz.func21, Tryz.ntmps21
    go_wp2_with fail
    go_loop [4] (fun i => ∃ k : Nat, k ≤ s.size ∧ i = .int .i64 k ∧ Hid (allTo (okByte s) k = true)) (fun i => s.size - (intOf i).toNat)
    case atStart => exact ⟨0, Nat.zero_le _, rfl, rfl⟩
    case round =>
      obtain ⟨k, hk, rfl, HA⟩ := hrel
      by_cases hlt : k < s.size
      · have HB := Lib.hid (byteAt_eq s k hlt)
        go_wp2_with fail
        all_goals
          have HB' := HB.out
          first
          | (have hv : okByte s k = true := by unfold okByte; grind
             go_round
             case rel => exact ⟨k + 1, by omega, by go_num, by show allTo _ _ = true; rw [allTo_succ, HA.out, hv]; rfl⟩
             case measure => simp [intOf]; omega)
          | (have hv : okByte s k = false := by unfold okByte; grind
             have HL : Hid (linesB s = ([], 1)) := by show linesB s = _; unfold linesB; rw [if_neg hbig, if_pos (allTo_false hlt hv)]
             go_ret2
             refine ⟨none, 0, 0, ?_, ?_, Below.refl _ _⟩
             · rw [HL.out]; rfl
             · rw [HL.out]; exact Sl.nil0)
      · have hkk : k = s.size := by omega
        have hall : allTo (okByte s) s.size = true := by rw [← hkk]; exact HA.out
        have HL : Hid (linesB s = if 1000 < (linesL s.data.toList).length then ([], 10) else ((linesL s.data.toList).map bs, 0)) := by
          show linesB s = _
          unfold linesB
          rw [if_neg hbig, if_neg (by rw [hall]; decide)]
        have hmx := linesL_length s.data.toList
        rw [← Lib.size_eq] at hmx
        clear HA hall hkk
        go_wp2_with fail
        go_loopw [5, 6, 7] (fun v f i wr => ∃ (k fr : Nat) (l : List ByteArray), k ≤ s.size ∧ fr ≤ k ∧ i = .int .i64 k ∧ f = .int .i64 fr ∧ Own Ty.str 9 wr w.heap.size v l ∧ Below w.heap.size w wr ∧ Hid (RL s k fr l)) (fun _ _ i _ => s.size - (intOf i).toNat)
        case atStart => exact ⟨0, 0, [], Nat.zero_le _, Nat.le_refl _, rfl, rfl, Own.nil, Below.refl _ _, RL.start s⟩
        case round =>
          obtain ⟨k2, fr, l, hk2, hfr, rfl, rfl, hown, hbr, HR⟩ := hrel
          have hll := HR.out.len
          have hbs := hbr.size
          by_cases hlt2 : k2 < s.size
          · have e1 := byte_is hlt2 10
            simp only [show ((10 : UInt8).toNat : Int) = 10 from rfl] at e1
            by_cases h10 : s[k2] = 10
            · have HR2 := Lib.hid (HR.out.line hlt2 h10)
              rw [decide_eq_true h10] at e1
              clear h10 HR
              go_wp2_with (at_builtin; refine wpList_push_str rfl _ _ rfl strElem rfl (hown.alloc _) wr.heap.size (s.extract fr k2) rfl ?c1 ?c2 ?c3 (Nat.le_refl _) (hbr.alloc hbs _) ?_)
              case c1 => simp
              case c2 => omega
              case c3 => simp; omega
              intro v' w1 hown2 hbr2
              clear hown
              go_wp2_with fail
              go_roundw
              case rel => exact ⟨k2 + 1, k2 + 1, _, by omega, by omega, by go_num, by go_num, hown2, hbr2, HR2⟩
              case measure => simp [intOf]; omega
            · have HR2 := Lib.hid (HR.out.byte hlt2 h10)
              rw [decide_eq_false h10] at e1
              clear h10 HR
              go_wp2_with fail
              go_roundw
              case rel => exact ⟨k2 + 1, fr, _, by omega, by omega, by go_num, rfl, hown, hbr, HR2⟩
              case measure => simp [intOf]; omega
          · obtain rfl : k2 = s.size := by omega
            have hst := HR.out.stop
            have HST := Lib.hid hst; clear hst HR
            by_cases hf : fr < s.size
            · have HS2 : Hid (l ++ [s.extract fr s.size] = (linesL s.data.toList).map bs) := by have := HST.out; rw [if_pos hf] at this; exact this
              go_wp2_with (at_builtin; refine wpList_push_str rfl _ _ rfl strElem rfl (hown.alloc _) wr.heap.size (s.extract fr s.size) rfl ?c1 ?c2 ?c3 (Nat.le_refl _) (hbr.alloc hbs _) ?_)
              case c1 => simp
              case c2 => omega
              case c3 => simp; omega
              intro v' w1 hown2 hbr2
              rw [HS2.out] at hown2
              obtain ⟨A, c, rfl, hsl⟩ := hown2.sl
              rw [List.length_map] at hsl
              have HSL := Lib.hid (hsl.more fun b hb => (hb.2 : all_ w1 b))
              clear hown hown2 hsl
              rw [List.length_map]
              by_cases h1000 : 1000 < (linesL s.data.toList).length
              · go_wp2_with fail
                go_ret2
                refine ⟨none, 0, 0, ?_, ?_, hbr2⟩
                · rw [HL.out, if_pos h1000]; rfl
                · rw [HL.out, if_pos h1000]; exact Sl.nil0
              · go_wp2_with fail
                go_ret2
                refine ⟨A, (linesL s.data.toList).length, c, ?_, ?_, hbr2⟩
                · rw [HL.out, if_neg h1000]; rfl
                · rw [HL.out, if_neg h1000]; exact HSL.out
            · have HS2 : Hid (l = (linesL s.data.toList).map bs) := by have := HST.out; rw [if_neg hf] at this; exact this
              rw [HS2.out] at hown
              obtain ⟨A, c, rfl, hsl⟩ := hown.sl
              rw [List.length_map] at hsl
              have HSL := Lib.hid (hsl.more fun b hb => (hb.2 : all_ wr b))
              clear hown hsl HST HS2
              rw [List.length_map]
              by_cases h1000 : 1000 < (linesL s.data.toList).length
              · go_wp2_with fail
                go_ret2
                refine ⟨none, 0, 0, ?_, ?_, hbr⟩
                · rw [HL.out, if_pos h1000]; rfl
                · rw [HL.out, if_pos h1000]; exact Sl.nil0
              · go_wp2_with fail
                go_ret2
                refine ⟨A, (linesL s.data.toList).length, c, ?_, ?_, hbr⟩
                · rw [HL.out, if_neg h1000]; rfl
                · rw [HL.out, if_neg h1000]; exact HSL.out
end Go.Proofs.YtldeoaddogifpaaGreatDoor
/-
  Words for the switch of the reference's Parse of a timetable: the timetable's box while the parser's box changes; the end of the switch.
  No condition.
-/
namespace Go.Proofs.YtldeoaddogifpaaGreatDoor
set_option linter.unusedSimpArgs false
set_option linter.unusedVariables false
open Go.RowKit

section
variable {w w' : World} {tb lo g : Nat} {v1 v2 v3 : Value} {t : GTT} {b : Bool}
theorem TPM.but (h : TPM w lo v1 v2 v3 t) (hb : But g w w') (hg : BadIs w g b) : TPM w' lo v1 v2 v3 t :=
  h.keep fun q cur T hc hq hT => hb.block q (Array.getElem?_eq_some_iff.1 hc).1 fun e => by
    subst e
    unfold BadIs at hg
    rw [hg] at hc
    injection hc with hc
    injection hc with _ hT'
    subst hT'
    rcases hT with h | h | h | h <;> exact absurd h (by decide)
theorem TBx.but (h : TBx w tb lo v1 v2 v3 t) (hb : But g w w') (hg : BadIs w g b) (hl : lo ≤ g) : TBx w' tb lo v1 v2 v3 t :=
  ⟨(hb.block tb (Nat.lt_of_lt_of_le h.lt h.le) (by have := h.lt; omega)).trans h.box, h.m.but hb hg, h.lt, Nat.le_trans h.le hb.size⟩
theorem TKeep.of_but (hb : But g w w') (hl : lo ≤ g) (hw : lo ≤ w.heap.size) : TKeep tb lo w w' :=
  ⟨hb.os, hb.tape, hb.output, hb.size, fun q hq _ => hb.block q (by omega) (by omega)⟩
/-- What the switch over a line leaves. -/
def SwP9 (r : Option GTT) (tb lo g : Nat) (w2 wx : World) : Prop :=
  ∃ v1 v2 v3 t', BadIs wx g r.isNone ∧ TKeep tb lo w2 wx ∧ TBx wx tb lo v1 v2 v3 t' ∧ ∀ x, r = some x → t' = x
theorem sw_bad9 {r : Option GTT} {w2 wp : World} (hr : r = none) (hx : TBx wp tb lo v1 v2 v3 t) (hk : TKeep tb lo w2 wp) (hg : BadIs wp g b) (hl : lo ≤ g) : SwP9 r tb lo g w2 (wp.setCell ⟨g, 0, none⟩ (.bool true)) := by
  have hbt : But g wp (wp.setCell ⟨g, 0, none⟩ (.bool true)) := (But.refl g wp).setCell 0 _
  refine ⟨v1, v2, v3, t, ?_, hk.trans (TKeep.of_but hbt hl hx.le), hx.but hbt hg hl, fun x h => by rw [hr] at h; cases h⟩
  rw [hr]
  unfold BadIs at hg ⊢
  rw [heap_setCell_same wp g 0 _ _ _ hg]
  rfl
end
end Go.Proofs.YtldeoaddogifpaaGreatDoor
/-
  A whole row stored into a new block, beside the reference's parser.
  No condition.
-/
namespace Go.Proofs.YtldeoaddogifpaaGreatDoor
set_option linter.unusedSimpArgs false
set_option linter.unusedVariables false
open Go.RowKit

/-- A world in which a block holds these cells, beside the parser's flag. -/
def Nine (wp : World) (G H : Nat) (T : TypeId) (b : Bool) (cs : Array Value) (w : World) : Prop := w.heap[H]? = some (.cells cs T (0, 0)) ∧ BadIs w G b ∧ But G wp w
theorem Nine.row {wp : World} {G H : Nat} {T : TypeId} {b : Bool} {old : Array Value} {w : World} (h : Nine wp G H T b old w) (hH : wp.heap.size ≤ H) (hG : G ≠ H) (cs : Array Value) : Nine wp G H T b cs (w.setRow H cs) := by
  refine ⟨setRow_heap _ _ _ _ _ _ h.1, ?_, h.2.2.far rfl rfl rfl (by simp) fun k hk => setRow_other _ _ _ _ (show k ≠ H by omega)⟩
  have := h.2.1
  unfold BadIs at this ⊢
  rw [setRow_other _ _ _ _ hG]
  exact this
section
variable {P : Program} {ops : Array Oper} {rest : List Oper} {o : Oper} {a : Act} {Q : Exit → Act → World → Prop} {w w' : World}
theorem wpList_bslice (hgd : o.guard = none) (T : TypeId) (x : Operand) (ho : o.op = .buildSlice T 1 #[(0, x)]) (cells : Array Value) (hx : a.eval x = .agg cells) (v : Value)
    (hb : (Instr.buildSlice T 1 #[(0, .agg cells)]).run P w = .ok v w') (h : wpList P ops Q rest (a.put o.dst v) w') : wpList P ops Q (o :: rest) a w := by
  refine wpList_plain hgd fun K hK => ?_
  have e : ((#[(0, x)] : Array (Nat × Operand)).map fun (i, x) => (i, a.eval x)) = #[(0, Value.agg cells)] := by simp [hx]
  unfold Oper.wp execOp
  simp only [ho, e, Sem.run_bind, hb, Result.andThen_ok]
  exact hK _ _ h
end
theorem bslice_fli (w : World) (v0 v1 v2 v3 v4 v5 v6 v7 v8 : Value) : (Instr.buildSlice 25 1 #[(0, .agg #[v0, v1, v2, v3, v4, v5, v6, v7, v8])]).run Tryz.prog w = .ok (.slice (some ⟨w.heap.size, 0, none⟩) 1 1) (w.alloc (.cells #[v0, v1, v2, v3, v4, v5, v6, v7, v8] 47)) := by kernel_rfl
end Go.Proofs.YtldeoaddogifpaaGreatDoor
/-
  XRegionR's rule where the last operations wait for the heads through others.
  No condition.
-/
namespace Go.Proofs.YtldeoaddogifpaaGreatDoor
set_option linter.unusedSimpArgs false
set_option linter.unusedVariables false
open Go.RowKit Go

/-- What an operation waits for, through others, too. -/
def cloFrom (ops : Array Oper) (t : Nat) : List Nat :=
  (List.range (t + 1)).reverse.foldl (fun acc i => if acc.contains i then acc ++ (match ops[i]? with
    | some o => o.after.toList.map (·.on)
    | none => []) else acc) [t]
theorem cloFrom_listed {ops : Array Oper} {t : Nat} {L : Nat → Prop} (h : ∀ i o, ops[i]? = some o → (i = t ∨ L i) → ∀ e ∈ o.after, L e.on) : ∀ x ∈ cloFrom ops t, x = t ∨ L x := by
  unfold cloFrom
  have key : ∀ (l : List Nat) (acc : List Nat), (∀ x ∈ acc, x = t ∨ L x) → ∀ x ∈ l.foldl (fun acc i => if acc.contains i then acc ++ (match ops[i]? with
    | some o => o.after.toList.map (·.on)
    | none => []) else acc) acc, x = t ∨ L x := by
    intro l
    induction l with
    | nil => intro acc ha x hx; exact ha x hx
    | cons i l ih =>
      intro acc ha
      rw [List.foldl_cons]
      apply ih
      intro x hx
      split at hx
      · rename_i hc
        have hi := ha i (by simpa using hc)
        rcases List.mem_append.1 hx with hx | hx
        · exact ha x hx
        · split at hx
          · rename_i o ho
            obtain ⟨e, he, rfl⟩ := List.mem_map.1 hx
            exact .inr (h i o ho hi e (by simpa using he))
          · cases hx
      · exact ha x hx
  exact key _ _ (fun x hx => .inl (by simpa using hx))
def headOkT (ops : Array Oper) (n size : Nat) : Bool :=
  (List.range n).all (fun i => match dstOf ops i with
    | some d => decide (d < size) && (List.range i).all (fun j => dstOf ops j != some d)
    | none => false) &&
  (List.range n).all (fun i => match ops[i]? with
    | some o => o.guard.isNone && o.after.all (fun e => decide (e.on < i))
    | none => false) &&
  (List.range ops.size).all (fun t => decide (t < n) || (List.range n).all fun i => (cloFrom ops t).contains i) && decide (n ≤ ops.size)
structure HeadFactsT (ops : Array Oper) (n size : Nat) : Prop where
  dst : ∀ i, i < n → ∃ d, dstOf ops i = some d ∧ d < size
  inj : ∀ i j d, i < n → j < n → dstOf ops i = some d → dstOf ops j = some d → i = j
  guard : ∀ i o, i < n → ops[i]? = some o → o.guard = none
  back : ∀ i o, i < n → ops[i]? = some o → ∀ e ∈ o.after, e.on < i
  cover : ∀ t o, n ≤ t → ops[t]? = some o → ∀ i, i < n → i ∈ cloFrom ops t
  le : n ≤ ops.size
theorem headFactsT {ops : Array Oper} {n size : Nat} (h : headOkT ops n size = true) : HeadFactsT ops n size := by
  unfold headOkT at h
  simp only [Bool.and_eq_true, List.all_eq_true, List.mem_range, decide_eq_true_eq] at h
  obtain ⟨⟨⟨h1, h2⟩, h3⟩, h4⟩ := h
  have h1' : ∀ i, i < n → ∃ d, dstOf ops i = some d ∧ d < size ∧ ∀ j, j < i → dstOf ops j ≠ some d := fun i hi => by
    have := h1 i hi
    cases hd : dstOf ops i with
    | none => rw [hd] at this; cases this
    | some d =>
      rw [hd] at this
      simp only [Bool.and_eq_true, decide_eq_true_eq, List.all_eq_true, List.mem_range, bne_iff_ne] at this
      exact ⟨d, rfl, this.1, this.2⟩
  refine ⟨fun i hi => ?_, fun i j d hi hj e1 e2 => ?_, fun i o hi ho => ?_, fun i o hi ho e he => ?_, fun t o ht ho i hi => ?_, h4⟩
  · obtain ⟨d, e, hl, _⟩ := h1' i hi
    exact ⟨d, e, hl⟩
  · rcases Nat.lt_trichotomy i j with hlt | rfl | hlt
    · obtain ⟨d', e', _, hn⟩ := h1' j hj
      rw [e2] at e'
      injection e' with e'
      subst e'
      exact absurd e1 (hn i hlt)
    · rfl
    · obtain ⟨d', e', _, hn⟩ := h1' i hi
      rw [e1] at e'
      injection e' with e'
      subst e'
      exact absurd e2 (hn j hlt)
  · have := h2 i hi
    rw [ho] at this
    simp only [Bool.and_eq_true, Option.isNone_iff_eq_none] at this
    exact this.1
  · have := h2 i hi
    rw [ho] at this
    simp only [Bool.and_eq_true, Array.all_eq_true] at this
    obtain ⟨k, hk, rfl⟩ := Array.getElem_of_mem he
    exact of_decide_eq_true (this.2 k hk)
  · have hts : t < ops.size := (Array.getElem?_eq_some_iff.1 ho).1
    have := h3 t hts
    simp only [Bool.or_eq_true, decide_eq_true_eq, List.all_eq_true, List.mem_range, List.contains_iff_mem] at this
    rcases this with h | h
    · omega
    · exact h i hi
/-- What holds on the way through the heads. -/
structure HIT (R : World → World → Prop) (ops : Array Oper) (n : Nat) (a : Act) (W : World) (F : Nat → Value → World → Prop) (listed : Array Bool) (a' : Act) (w' : World) : Prop where
  lsize : listed.size = ops.size
  tail : ∀ t, n ≤ t → listed.getD t false = false
  defers : a'.defers = a.defers
  size : a'.tmps.size = a.tmps.size
  out : ∀ s, (∀ j, j < n → dstOf ops j ≠ some s) → a'.tmps[s]? = a.tmps[s]?
  facts : ∀ i d, i < n → listed.getD i false = true → dstOf ops i = some d → F i (a'.tmps.getD d undef) w'
  grow : R W w'
  closed : ∀ i o, ops[i]? = some o → listed.getD i false = true → ∀ e ∈ o.after, listed.getD e.on false = true

section
variable {R : World → World → Prop} {P : Program} {ops : Array Oper} {Q : Exit → Act → World → Prop} {n : Nat} {a : Act} {W : World} {F : Nat → Value → World → Prop}
theorem wpAny_factsT (hRt : ∀ {x y z : World}, R x y → R y z → R x z) {l : List Oper} (hl : l.toArray = ops) (hh : HeadFactsT ops n a.tmps.size) (hseq : Region.seqB .any ops (ops.size - n) n (headListed ops n) = true)
    (hF : ∀ i v w w', F i v w → R w w' → F i v w')
    (hstep : ∀ i o, i < n → ops[i]? = some o → ∀ a' w', R W w' → (∀ s, (∀ j, j < n → dstOf ops j ≠ some s) → a'.tmps[s]? = a.tmps[s]?) →
      (∀ e ∈ o.after, ∀ d, dstOf ops e.on = some d → F e.on (a'.tmps.getD d undef) w') → ∀ K : Act → World → Prop, (∀ v w'', F i v w'' → R w' w'' → K (a'.put o.dst v) w'') → o.wp P a' w' K Q)
    (hfin : ∀ us w', R W w' → (∀ i, i < n → F i (us i) w') → wpList P ops Q (l.drop n) (putAll ops a us n) w') (hb : ∀ (i : Nat) (o : Oper), ops[i]? = some o → ∀ e ∈ o.after, Region.binds .any e = true) :
    ∀ (f : Nat) (listed : Array Bool) (a' : Act) (w' : World), left n listed = f → HIT R ops n a W F listed a' w' → wpAny P .any ops Q (f + (ops.size - n)) listed a' w' := by
  have hdl : (l.drop n).length = ops.size - n := by rw [List.length_drop, ← hl]; simp
  intro f
  induction f with
  | zero =>
    intro listed a' w' hlf hi
    have hall := left_zero hlf
    have e1 : listed = headListed ops n := by
      apply Array.ext
      · rw [hi.lsize]; simp [headListed]
      · intro k h1 h2
        have hk : k < ops.size := by rw [← hi.lsize]; exact h1
        have e3 : (headListed ops n)[k] = decide (k < n) := by simp [headListed]
        rw [e3]
        by_cases hkn : k < n
        · have := hall k hkn
          simp [h1] at this
          rw [this]; simp [hkn]
        · have := hi.tail k (by omega)
          simp [h1] at this
          rw [this]; simp [hkn]
    have e2 : a' = putAll ops a (fun i => a'.tmps.getD ((dstOf ops i).getD 0) undef) n := by
      have es : a'.tmps = (putAll ops a (fun i => a'.tmps.getD ((dstOf ops i).getD 0) undef) n).tmps := by
        apply Array.ext_getElem?
        intro s
        by_cases hs : ∃ i, i < n ∧ dstOf ops i = some s
        · obtain ⟨i, hin, hd⟩ := hs
          obtain ⟨d, hd', hlt⟩ := hh.dst i hin
          rw [hd] at hd'
          injection hd' with hd'
          subst hd'
          rw [putAll_in hlt hd hin fun j hj hji e => hji (hh.inj j i s hj hin e hd)]
          have : s < a'.tmps.size := by rw [hi.size]; exact hlt
          simp [hd, this]
        · rw [putAll_out fun j hj e => hs ⟨j, hj, e⟩]
          exact hi.out s fun j hj e => hs ⟨j, hj, e⟩
      have ed : a'.defers = (putAll ops a (fun i => a'.tmps.getD ((dstOf ops i).getD 0) undef) n).defers := by rw [putAll_defers]; exact hi.defers
      cases ha : a' with
      | mk t d =>
        rw [ha] at es ed
        cases hp : putAll ops a (fun i => (Act.mk t d).tmps.getD ((dstOf ops i).getD 0) undef) n with
        | mk t2 d2 =>
          rw [hp] at es ed
          simp only at es ed
          rw [es, ed]
    rw [Nat.zero_add, ← hdl]
    subst e1
    refine wpAny_of_seq (l.drop n) n _ a' w' (fun j => by rw [List.getElem?_drop, ← hl]; simp) (by rw [hdl]; exact hseq) ?_
    rw [e2]
    exact hfin _ w' hi.grow fun i hin => by
      obtain ⟨d, hd, _⟩ := hh.dst i hin
      have := hi.facts i d hin (hall i hin) hd
      simp only [hd, Option.getD_some]
      exact this
  | succ f ih =>
    intro listed a' w' hlf hi
    rw [show f + 1 + (ops.size - n) = (f + (ops.size - n)) + 1 by omega]
    have hle := hh.le
    refine ⟨fun h0 => ?_, fun i hr => ?_⟩
    · exfalso
      have hex : ∃ i, i < n ∧ listed.getD i false = false := by
        have hne : (List.range n).filter (fun i => !listed.getD i false) ≠ [] := fun e => by
          unfold left at hlf
          rw [e] at hlf
          cases hlf
        obtain ⟨i, hi'⟩ := List.exists_mem_of_ne_nil _ hne
        rw [List.mem_filter, List.mem_range] at hi'
        exact ⟨i, hi'.1, by simpa using hi'.2⟩
      have key : ∀ i, i < n → listed.getD i false = true := by
        intro i
        induction i using Nat.strongRecOn with
        | _ i ihi =>
          intro hin
          cases hli : listed.getD i false with
          | true => rfl
          | false =>
            exfalso
            have hil : i < listed.size := by rw [hi.lsize]; omega
            have hmem : i ∈ Region.ready .any ops listed := by
              rw [mem_ready]
              have hio : i < ops.size := by omega
              refine ⟨getD_in hil hli, ops[i], by simp [hio], fun e he _ => ?_⟩
              have hlt := hh.back i _ hin (by simp [hio]) e he
              exact ihi e.on hlt (by omega)
            rw [h0] at hmem
            cases hmem
      obtain ⟨i, hin, hlf'⟩ := hex
      rw [key i hin] at hlf'
      cases hlf'
    · obtain ⟨hun, o, ho, hall⟩ := mem_ready.1 hr
      have hun' := getD_both hun
      have hio : i < ops.size := (Array.getElem?_eq_some_iff.1 ho).1
      have hin : i < n := by
        rcases Nat.lt_or_ge i n with h | h
        · exact h
        · exfalso
          have hz : left n listed = 0 := by
            unfold left
            rw [List.length_eq_zero_iff, List.filter_eq_nil_iff]
            intro j hj
            have hjn := List.mem_range.1 hj
            have hcl := cloFrom_listed (t := i) (L := fun x => listed.getD x false = true) (fun k ok hok hk e he => by
              rcases hk with rfl | hk
              · rw [ho] at hok
                obtain rfl := Option.some.inj hok
                exact hall e he (hb k o ho e he)
              · exact hi.closed k ok hok hk e he) j (hh.cover i o h ho j hjn)
            rcases hcl with h9 | h9
            · omega
            · rw [h9]; simp
          omega
      have hil : i < listed.size := by rw [hi.lsize]; exact hio
      unfold wpOp
      rw [ho]
      have hwant : Region.wanted o (yielded ops a'.tmps) = true := by simp [Region.wanted, hh.guard i o hin ho]
      simp only [hwant, if_true]
      refine .inl (hstep i o hin ho a' w' hi.grow hi.out (fun e he d hd => ?_) _ fun v w'' hfv hbl => ?_)
      · exact hi.facts e.on d (Nat.lt_trans (hh.back i o hin ho e he) hin) (hall e he (hb i o ho e he)) hd
      · obtain ⟨d, hd, hdl'⟩ := hh.dst i hin
        have hod : o.dst = some d := by
          have : dstOf ops i = o.dst := by unfold dstOf; rw [ho]; rfl
          rw [← this]; exact hd
        refine ih _ _ _ ?_ ⟨by simpa using hi.lsize, fun t ht => by rw [getD_set_ne false (by omega)]; exact hi.tail t ht, ?_, ?_, fun s hs => ?_, fun j d' hj hlj hdj => ?_, hRt hi.grow hbl, fun k ok hok hk e he => ?_⟩
        · have := left_set hin hil hun'
          omega
        · rw [hod]; exact hi.defers
        · rw [hod]; simpa [Act.put] using hi.size
        · rw [hod]
          simp only [Act.put]
          rw [Array.getElem?_setIfInBounds_ne (fun e => hs i hin (by rw [hd, e]))]
          exact hi.out s hs
        · rw [hod]
          by_cases hji : j = i
          · subst hji
            rw [hd] at hdj
            injection hdj with hdj
            subst hdj
            have : d < a'.tmps.size := by rw [hi.size]; exact hdl'
            simp only [Act.put]
            simpa [this] using hfv
          · have hne : d ≠ d' := fun e => hji (hh.inj j i d' hj hin hdj (e ▸ hd))
            rw [getD_set_ne false (fun e => hji e.symm)] at hlj
            have h9 := hF j _ _ _ (hi.facts j d' hj hlj hdj) hbl
            simp only [Act.put]
            simpa [Array.getElem?_setIfInBounds_ne hne] using h9
        · have hmon : ∀ x, listed.getD x false = true → (listed.setIfInBounds i true).getD x false = true := fun x hx => by
            by_cases hxi : x = i
            · subst hxi; simp [hil]
            · rw [getD_set_ne false (fun e => hxi e.symm)]; exact hx
          by_cases hki : k = i
          · subst hki
            rw [ho] at hok
            obtain rfl := Option.some.inj hok
            exact hmon _ (hall e he (hb k o ho e he))
          · rw [getD_set_ne false (fun e => hki e.symm)] at hk
            exact hmon _ (hi.closed k ok hok hk e he)
/-- THE RULE. -/
theorem wp_region_factsT (R : World → World → Prop) (hRt : ∀ {x y z : World}, R x y → R y z → R x z) {id : Nat} {l : List Oper} {w : World} (n : Nat) (ds : List Nat) (F : Nat → Value → World → Prop) (hD : R w { w with drawn := w.drawn + 1 }) (hm : P.follows .mixedOrders = true) (hok : headOkT l.toArray n a.tmps.size = true) (hds : ((List.range n).map (dstOf l.toArray) == ds.map some) = true) (hseq : Region.seqB .any l.toArray (l.toArray.size - n) n (headListed l.toArray n) = true)
    (hbind : (l.all fun o => o.after.all fun e => Region.binds .any e) = true)
    (hF : ∀ i v w w', F i v w → R w w' → F i v w')
    (hstep : ∀ i o, i < n → l[i]? = some o → ∀ a' w', R w w' → (∀ s, s ∉ ds → a'.tmps[s]? = a.tmps[s]?) →
      (∀ e ∈ o.after, ∀ d, ds[e.on]? = some d → F e.on (a'.tmps.getD d undef) w') → ∀ K : Act → World → Prop, (∀ v w'', F i v w'' → R w' w'' → K (a'.put o.dst v) w'') → o.wp P a' w' K Q)
    (hfin : ∀ us w', R w w' → (∀ i, i < n → F i (us i) w') → wpList P l.toArray Q (l.drop n) (putL us a ds 0) w') : (Code.region id l.toArray true).wp P Q a w := by
  have hh := headFactsT hok
  have hdl := beq_iff_eq.1 hds
  have hlen : ds.length = n := by
    have := congrArg List.length hdl
    simpa using this.symm
  have hdi : ∀ i, i < n → dstOf l.toArray i = ds[i]? := fun i hi => by
    have := congrArg (·[i]?) hdl
    simp only [List.getElem?_map, List.getElem?_range hi, Option.map_some] at this
    rw [List.getElem?_eq_getElem (by omega)] at this ⊢
    simpa using this
  refine wp_region_any hm ?_
  have hb : ∀ (i : Nat) (o : Oper), l.toArray[i]? = some o → ∀ e ∈ o.after, Region.binds .any e = true := fun i o ho e he => by
    have hmem : o ∈ l := by
      have : l[i]? = some o := by simpa using ho
      exact List.mem_of_getElem? this
    have h1 := List.all_eq_true.1 hbind o hmem
    rw [Array.all_eq_true] at h1
    obtain ⟨k, hk, rfl⟩ := Array.getElem_of_mem he
    exact h1 k hk
  have hl0 : left n (Array.replicate l.toArray.size false) = n := by
    unfold left
    rw [List.filter_eq_self.2 fun i _ => by rw [getD_replicate_false]; rfl, List.length_range]
  have hsz : l.toArray.size = n + (l.toArray.size - n) := by have := hh.le; omega
  have key := wpAny_factsT (P := P) (Q := Q) (ops := l.toArray) (n := n) (a := a) (W := w) (F := F) (R := R) hRt rfl hh hseq hF
    (fun i o hi ho a' w' hb' hout hpre => hstep i o hi (by simpa using ho) a' w' hb'
      (fun s hs => hout s fun j hj e => hs (by rw [hdi j hj] at e; exact List.mem_of_getElem? e))
      (fun e he d hd => hpre e he d (by
        have hlt := hh.back i o hi ho e he
        rw [hdi e.on (by omega)]; exact hd)))
    (fun us w' hb' hf => by
      have := hfin us w' hb' hf
      rw [← List.take_of_length_le (l := ds) (i := n) (by omega)] at this
      rw [putAll_eq n (by omega) hdi]
      exact this) hb n (Array.replicate l.toArray.size false) a { w with drawn := w.drawn + 1 } hl0
    ⟨by simp, fun t _ => getD_replicate_false _ _, rfl, rfl, fun _ _ => rfl, fun i d _ h _ => (by rw [getD_replicate_false] at h; cases h), hD, fun i o _ h => (by rw [getD_replicate_false] at h; cases h)⟩
  rw [← hsz] at key
  exact key
end
end Go.Proofs.YtldeoaddogifpaaGreatDoor
