/-
  Contracts of package calendar: leap, monthDays, yearDays, valid, DayNumber, matches, number, ParseDate, ParseClock, ParseInstant.
  Condition: numbers are small, the string's length fits an int.
-/
import Derived.Test.YtifconapjfdkcaaGreatDoorSAU
import Derived.Test.YtifconapjfdkcaaGreatDoorSAJ
import Derived.Test.YtifconapjfdkcaaGreatDoorSAK
import Derived.Test.YtifconapjfdkcaaGreatDoorSBQ
import Derived.Deep.RegionLaw
import Derived.Deep.RegionWith
namespace Go.Proofs.YtifconapjfdkcaaGreatDoor
set_option linter.unusedSimpArgs false
set_option linter.unusedVariables false
open Go.RowKit

theorem leap_any (y : Int) (w : World) (h0 : 0 ≤ y) (h1 : y ≤ 100000) : Calls Tryz.prog 159 #[.int .i64 y] w fun e w' => e = .returned (.bool (leapB y)) ∧ w = w' := by
  have HL : Hid (leapB y = (decide (y % 4 = 0) && (decide (y % 100 ≠ 0) || decide (y % 400 = 0)))) := rfl
  by_cases a : y % 4 = 0
  · have a' : (y % 4 == 0) = true := by simpa using a
    by_cases b : y % 100 = 0
    · have b' : (y % 100 != 0) = false := by simpa using b
      by_cases c : y % 400 = 0
      · have c' : (y % 400 == 0) = true := by simpa using c
        have HR : Hid (leapB y = true) := by show _ = _; rw [HL.out]; simp [a, b, c]
        clear a b c
        go_enter Tryz.func159, Tryz.ntmps159
        go_wp2_with fail
        go_ret
        exact ⟨ret_bool HR.out.symm, rfl⟩
      · have c' : (y % 400 == 0) = false := by simpa using c
        have HR : Hid (leapB y = false) := by show _ = _; rw [HL.out]; simp [a, b, c]
        clear a b c
        go_enter Tryz.func159, Tryz.ntmps159
        go_wp2_with fail
        go_ret
        exact ⟨ret_bool HR.out.symm, rfl⟩
    · have b' : (y % 100 != 0) = true := by simpa using b
      have HR : Hid (leapB y = true) := by show _ = _; rw [HL.out]; simp [a, b]
      clear a b
      go_enter Tryz.func159, Tryz.ntmps159
      go_wp2_with fail
      go_ret
      exact ⟨ret_bool HR.out.symm, rfl⟩
  · have a' : (y % 4 == 0) = false := by simpa using a
    have HR : Hid (leapB y = false) := by show _ = _; rw [HL.out]; simp [a]
    clear a
    go_enter Tryz.func159, Tryz.ntmps159
    go_wp2_with fail
    go_ret
    exact ⟨ret_bool HR.out.symm, rfl⟩
theorem yearDays_any (y : Int) (w : World) (h0 : 0 ≤ y) (h1 : y ≤ 100000) : Calls Tryz.prog 117 #[.int .i64 y] w fun e w' => e = .returned (.int .i64 (yDays y)) ∧ w = w' := by
  have HC := Lib.hid (leap_any y w h0 h1)
  have HY : Hid (yDays y = if leapB y = true then 366 else 365) := rfl
  go_enter Tryz.func117, Tryz.ntmps117
  go_wp2_with fail
  refine HC.out.mono ?_
  rintro e w' ⟨rfl, rfl⟩
  cases hl : leapB y
  · have HR : Hid (yDays y = 365) := by show _ = _; rw [HY.out, hl]; rfl
    go_wp2_with fail
    go_ret
    exact ⟨ret_int HR.out.symm, rfl⟩
  · have HR : Hid (yDays y = 366) := by show _ = _; rw [HY.out, hl]; rfl
    go_wp2_with fail
    go_ret
    exact ⟨ret_int HR.out.symm, rfl⟩
def monCells : Array Value := #[.int .i64 31, .int .i64 28, .int .i64 31, .int .i64 30, .int .i64 31, .int .i64 30, .int .i64 31, .int .i64 31, .int .i64 30, .int .i64 31, .int .i64 30, .int .i64 31]
theorem mon_cell (k : Nat) (h : k < 12) : monCells[k]? = some (.int .i64 (mTab.getD k 0)) := by
  have : k = 0 ∨ k = 1 ∨ k = 2 ∨ k = 3 ∨ k = 4 ∨ k = 5 ∨ k = 6 ∨ k = 7 ∨ k = 8 ∨ k = 9 ∨ k = 10 ∨ k = 11 := by omega
  rcases this with rfl | rfl | rfl | rfl | rfl | rfl | rfl | rfl | rfl | rfl | rfl | rfl <;> rfl
set_option maxRecDepth 100000 in
theorem monthDays_any (y m : Int) (w : World) (h0 : 0 ≤ y) (h1 : y ≤ 100000) (m0 : 1 ≤ m) (m1 : m ≤ 12) : Calls Tryz.prog 118 #[.int .i64 y, .int .i64 m] w (IntPost (mDays y m) w) := by
  have hb0 := (Below.refl w.heap.size w).alloc (Nat.le_refl _) (.cells monCells 210)
  have hr0 := heap_alloc_new w (.cells monCells 210)
  have hc : (w.alloc (.cells monCells 210)).cell? ⟨w.heap.size, (m - 1).toNat, none⟩ = some (.int .i64 (mTab.getD (m - 1).toNat 0)) := (block_cell hr0 _).trans (mon_cell _ (by omega))
  have hme : (m - 1).toNat = m.toNat - 1 := by omega
  have hc2 : (w.alloc (.cells monCells 210)).cell? ⟨w.heap.size, m.toNat - 1, none⟩ = some (.int .i64 (mTab.getD (m - 1).toNat 0)) := by rw [← hme]; exact hc
  have hc3 : monCells[m.toNat - 1]? = some (.int .i64 (mTab.getD (m - 1).toNat 0)) := by rw [← hme]; exact mon_cell _ (by omega)
  have HB := Lib.hid hb0
  have HM : Hid (mDays y m = if m = 2 ∧ leapB y = true then 29 else mTab.getD (m - 1).toNat 0) := rfl
  have HC := Lib.hid (leap_any y (w.alloc (.cells monCells 210)) h0 h1)
  unfold monCells at hc hc2 hc3 HB HC
  have q1 : IntKind.i64.wrap (m - 1) = m - 1 := IntWalk.i64_in _ (by omega)
  have q2 : 0 ≤ m - 1 := by omega
  have q3 : m - 1 < 12 := by omega
  clear hb0 hr0 hme
  go_enter Tryz.func118, Tryz.ntmps118
  by_cases hm : m = 2
  · subst hm
    go_wp2_with fail
    refine HC.out.mono ?_
    rintro e w' ⟨rfl, rfl⟩
    cases hl : leapB y
    · have HR : Hid (mDays y 2 = 28) := by show _ = _; rw [HM.out, hl]; rfl
      go_wp2_with fail
      go_ret
      exact ⟨ret_int HR.out.symm, HB.out⟩
    · have HR : Hid (mDays y 2 = 29) := by show _ = _; rw [HM.out, hl]; simp
      go_wp2_with fail
      go_ret
      exact ⟨ret_int HR.out.symm, HB.out⟩
  · have hm' : (m == 2) = false := by simpa using hm
    have HR : Hid (mDays y m = mTab.getD (m - 1).toNat 0) := by show _ = _; rw [HM.out, if_neg (fun h => hm h.1)]
    generalize mTab.getD (m - 1).toNat 0 = md at *
    clear hm
    go_wp2_with fail
    go_ret
    exact ⟨ret_int HR.out.symm, HB.out⟩
/-- What the operations of valid's region leave, where all its guards are met. -/
def valF (w : World) (y m d md : Int) (R : Bool) (k : Nat) (v : Value) (_ : World) : Prop := ([.pointer (some ⟨w.heap.size, 0, none⟩), .int .i64 y, .bool true, .bool true, .pointer (some ⟨w.heap.size, 0, none⟩), .int .i64 y, .bool true, .bool true, .bool true, .pointer (some ⟨w.heap.size, 1, none⟩), .int .i64 m, .bool true, .bool true, .bool true, .pointer (some ⟨w.heap.size, 1, none⟩), .int .i64 m, .bool true, .bool true, .bool true, .pointer (some ⟨w.heap.size, 2, none⟩), .int .i64 d, .bool true, .bool true, .bool true, .pointer (some ⟨w.heap.size, 2, none⟩), .int .i64 d, .pointer (some ⟨w.heap.size, 0, none⟩), .int .i64 y, .pointer (some ⟨w.heap.size, 1, none⟩), .int .i64 m, .int .i64 md, .bool R, .bool R] : List Value)[k]? = some v
def BoolPostC (x : Bool) (w : World) (e : Ending) (w' : World) : Prop := e = .returned (.bool x) ∧ Below w.heap.size w w'
set_option maxRecDepth 100000 in
set_option maxHeartbeats 800000 in
theorem valid_any (y m d : Int) (w : World) : Calls Tryz.prog 119 #[.agg #[.int .i64 y, .int .i64 m, .int .i64 d]] w (BoolPostC (validB y m d) w) := by
  have hb0 := (Below.refl w.heap.size w).alloc (Nat.le_refl _) (.cells #[.int .i64 y, .int .i64 m, .int .i64 d] 145)
  have hr0 := heap_alloc_new w (.cells #[.int .i64 y, .int .i64 m, .int .i64 d] 145)
  have HB := Lib.hid hb0
  have HBD : Hid (∀ q, Below w.heap.size w ((w.alloc (.cells #[.int .i64 y, .int .i64 m, .int .i64 d] 145)).drewN q)) := fun q => below_drewN hb0 q
  have HC : Hid (0 ≤ y → y ≤ 100000 → 1 ≤ m → m ≤ 12 → ∀ q, Calls Tryz.prog 118 #[.int .i64 y, .int .i64 m] ((w.alloc (.cells #[.int .i64 y, .int .i64 m, .int .i64 d] 145)).drewN q) (IntPost (mDays y m) ((w.alloc (.cells #[.int .i64 y, .int .i64 m, .int .i64 d] 145)).drewN q))) := fun h0 h1 h2 h3 q => monthDays_any y m _ h0 h1 h2 h3
  have HV : Hid (validB y m d = (decide (1999 ≤ y) && decide (y ≤ 2100) && decide (1 ≤ m) && decide (m ≤ 12) && decide (1 ≤ d) && decide (d ≤ mDays y m))) := rfl
  have x0 := block_cell hr0 0; have x1 := block_cell hr0 1; have x2 := block_cell hr0 2
  generalize validB y m d = V at *
  clear hb0 hr0
  go_enter Tryz.func119, Tryz.ntmps119
  go_wp2_with fail
  have HBW := Lib.hid HB.out
  generalize w.alloc (.cells #[.int .i64 y, .int .i64 m, .int .i64 d] 145) = W at *
  by_cases a1 : 1999 ≤ y
  case neg =>
    have HR : Hid (V = false) := by show _ = _; rw [HV.out, decide_eq_false a1]; simp
    go_quiet (fail)
    go_wp2_with fail
    go_ret
    exact ⟨ret_bool HR.out.symm, HBD.out _⟩
  by_cases a2 : y ≤ 2100
  case neg =>
    have HR : Hid (V = false) := by show _ = _; rw [HV.out, decide_eq_false a2]; simp
    go_quiet (fail)
    go_wp2_with fail
    go_ret
    exact ⟨ret_bool HR.out.symm, HBD.out _⟩
  by_cases a3 : 1 ≤ m
  case neg =>
    have HR : Hid (V = false) := by show _ = _; rw [HV.out, decide_eq_false a3]; simp
    go_quiet (fail)
    go_wp2_with fail
    go_ret
    exact ⟨ret_bool HR.out.symm, HBD.out _⟩
  by_cases a4 : m ≤ 12
  case neg =>
    have HR : Hid (V = false) := by show _ = _; rw [HV.out, decide_eq_false a4]; simp
    go_quiet (fail)
    go_wp2_with fail
    go_ret
    exact ⟨ret_bool HR.out.symm, HBD.out _⟩
  by_cases a5 : 1 ≤ d
  case neg =>
    have HR : Hid (V = false) := by show _ = _; rw [HV.out, decide_eq_false a5]; simp
    go_quiet (fail)
    go_wp2_with fail
    go_ret
    exact ⟨ret_bool HR.out.symm, HBD.out _⟩
  have HR : Hid (V = decide (d ≤ mDays y m)) := by show _ = _; rw [HV.out, decide_eq_true a1, decide_eq_true a2, decide_eq_true a3, decide_eq_true a4, decide_eq_true a5]; simp
  have HCC : Hid (∀ V : World, Calls Tryz.prog 118 #[.int .i64 y, .int .i64 m] V (IntPost (mDays y m) V)) := fun V => monthDays_any y m V (by omega) (by omega) a3 a4
  generalize mDays y m = md at *
  generalize hR : decide (d ≤ md) = R at *
  have hdl : (d ≤ md) ∨ ¬ (d ≤ md) := Classical.em _
  refine wp_region_factsG 33 [3, 4, 5, 6, 7, 8, 9, 10, 11, 12, 13, 14, 15, 16, 17, 18, 19, 20, 21, 22, 23, 24, 25, 26, 27, 28, 29, 30, 31, 32, 33, 34, 35] (valF w y m d md R) (by kernel_rfl) (by kernel_rfl) (by kernel_rfl) (by kernel_rfl) (by kernel_rfl) ?gd (fun _ _ _ _ h _ => h) ?_ ?_
  case gd =>
    intro i o j b hi ho hg v ww hv
    have hi' : i = 0 ∨ i = 1 ∨ i = 2 ∨ i = 3 ∨ i = 4 ∨ i = 5 ∨ i = 6 ∨ i = 7 ∨ i = 8 ∨ i = 9 ∨ i = 10 ∨ i = 11 ∨ i = 12 ∨ i = 13 ∨ i = 14 ∨ i = 15 ∨ i = 16 ∨ i = 17 ∨ i = 18 ∨ i = 19 ∨ i = 20 ∨ i = 21 ∨ i = 22 ∨ i = 23 ∨ i = 24 ∨ i = 25 ∨ i = 26 ∨ i = 27 ∨ i = 28 ∨ i = 29 ∨ i = 30 ∨ i = 31 ∨ i = 32 := by omega
    rcases hi' with rfl | rfl | rfl | rfl | rfl | rfl | rfl | rfl | rfl | rfl | rfl | rfl | rfl | rfl | rfl | rfl | rfl | rfl | rfl | rfl | rfl | rfl | rfl | rfl | rfl | rfl | rfl | rfl | rfl | rfl | rfl | rfl | rfl
    all_goals
      obtain rfl := Option.some.inj ho
      first
        | (cases hg; exact (Option.some.inj hv).symm)
        | (cases hg)
  · intro q o hq ho a' w' hb' hout hpre K hK
    clear HV HR HBD HB HC
    have hq' : q = 0 ∨ q = 1 ∨ q = 2 ∨ q = 3 ∨ q = 4 ∨ q = 5 ∨ q = 6 ∨ q = 7 ∨ q = 8 ∨ q = 9 ∨ q = 10 ∨ q = 11 ∨ q = 12 ∨ q = 13 ∨ q = 14 ∨ q = 15 ∨ q = 16 ∨ q = 17 ∨ q = 18 ∨ q = 19 ∨ q = 20 ∨ q = 21 ∨ q = 22 ∨ q = 23 ∨ q = 24 ∨ q = 25 ∨ q = 26 ∨ q = 27 ∨ q = 28 ∨ q = 29 ∨ q = 30 ∨ q = 31 ∨ q = 32 := by omega
    rcases hq' with rfl | rfl | rfl | rfl | rfl | rfl | rfl | rfl | rfl | rfl | rfl | rfl | rfl | rfl | rfl | rfl | rfl | rfl | rfl | rfl | rfl | rfl | rfl | rfl | rfl | rfl | rfl | rfl | rfl | rfl | rfl | rfl | rfl
    · obtain rfl := Option.some.inj ho
      have e1 : a'.tmps[1]? = some (.pointer (some ⟨w.heap.size, 0, none⟩)) := hout 1 (by decide)
      go_simp
      exact hK (.pointer (some ⟨w.heap.size, 0, none⟩)) w' rfl (Below.refl _ _)
    · obtain rfl := Option.some.inj ho
      have p0 : a'.tmps.getD 3 undef = .pointer (some ⟨w.heap.size, 0, none⟩) := (Option.some.inj (hpre ⟨0, .data⟩ (by simp) 3 rfl)).symm
      simp only [Array.getD_eq_getD_getElem?] at p0
      have hx := (hb'.cell (World.block_lt_of_cell? _ _ x0)).trans x0
      go_simp
      exact hK (.int .i64 y) w' rfl (Below.refl _ _)
    · obtain rfl := Option.some.inj ho
      have p1 : a'.tmps.getD 4 undef = .int .i64 y := (Option.some.inj (hpre ⟨1, .data⟩ (by simp) 4 rfl)).symm
      simp only [Array.getD_eq_getD_getElem?] at p1
      go_simp
      exact hK (.bool true) w' rfl (Below.refl _ _)
    · obtain rfl := Option.some.inj ho
      have p2 : a'.tmps.getD 5 undef = .bool true := (Option.some.inj (hpre ⟨2, .data⟩ (by simp) 5 rfl)).symm
      simp only [Array.getD_eq_getD_getElem?] at p2
      go_simp
      exact hK (.bool true) w' rfl (Below.refl _ _)
    · obtain rfl := Option.some.inj ho
      have e1 : a'.tmps[1]? = some (.pointer (some ⟨w.heap.size, 0, none⟩)) := hout 1 (by decide)
      go_simp
      exact hK (.pointer (some ⟨w.heap.size, 0, none⟩)) w' rfl (Below.refl _ _)
    · obtain rfl := Option.some.inj ho
      have p4 : a'.tmps.getD 7 undef = .pointer (some ⟨w.heap.size, 0, none⟩) := (Option.some.inj (hpre ⟨4, .data⟩ (by simp) 7 rfl)).symm
      simp only [Array.getD_eq_getD_getElem?] at p4
      have hx := (hb'.cell (World.block_lt_of_cell? _ _ x0)).trans x0
      go_simp
      exact hK (.int .i64 y) w' rfl (Below.refl _ _)
    · obtain rfl := Option.some.inj ho
      have p5 : a'.tmps.getD 8 undef = .int .i64 y := (Option.some.inj (hpre ⟨5, .data⟩ (by simp) 8 rfl)).symm
      simp only [Array.getD_eq_getD_getElem?] at p5
      go_simp
      exact hK (.bool true) w' rfl (Below.refl _ _)
    · obtain rfl := Option.some.inj ho
      have p3 : a'.tmps.getD 6 undef = .bool true := (Option.some.inj (hpre ⟨3, .data⟩ (by simp) 6 rfl)).symm
      simp only [Array.getD_eq_getD_getElem?] at p3
      have p6 : a'.tmps.getD 9 undef = .bool true := (Option.some.inj (hpre ⟨6, .data⟩ (by simp) 9 rfl)).symm
      simp only [Array.getD_eq_getD_getElem?] at p6
      go_simp
      exact hK (.bool true) w' rfl (Below.refl _ _)
    · obtain rfl := Option.some.inj ho
      have p7 : a'.tmps.getD 10 undef = .bool true := (Option.some.inj (hpre ⟨7, .data⟩ (by simp) 10 rfl)).symm
      simp only [Array.getD_eq_getD_getElem?] at p7
      go_simp
      exact hK (.bool true) w' rfl (Below.refl _ _)
    · obtain rfl := Option.some.inj ho
      have e1 : a'.tmps[1]? = some (.pointer (some ⟨w.heap.size, 0, none⟩)) := hout 1 (by decide)
      go_simp
      exact hK (.pointer (some ⟨w.heap.size, 1, none⟩)) w' rfl (Below.refl _ _)
    · obtain rfl := Option.some.inj ho
      have p9 : a'.tmps.getD 12 undef = .pointer (some ⟨w.heap.size, 1, none⟩) := (Option.some.inj (hpre ⟨9, .data⟩ (by simp) 12 rfl)).symm
      simp only [Array.getD_eq_getD_getElem?] at p9
      have hx := (hb'.cell (World.block_lt_of_cell? _ _ x1)).trans x1
      go_simp
      exact hK (.int .i64 m) w' rfl (Below.refl _ _)
    · obtain rfl := Option.some.inj ho
      have p10 : a'.tmps.getD 13 undef = .int .i64 m := (Option.some.inj (hpre ⟨10, .data⟩ (by simp) 13 rfl)).symm
      simp only [Array.getD_eq_getD_getElem?] at p10
      go_simp
      exact hK (.bool true) w' rfl (Below.refl _ _)
    · obtain rfl := Option.some.inj ho
      have p8 : a'.tmps.getD 11 undef = .bool true := (Option.some.inj (hpre ⟨8, .data⟩ (by simp) 11 rfl)).symm
      simp only [Array.getD_eq_getD_getElem?] at p8
      have p11 : a'.tmps.getD 14 undef = .bool true := (Option.some.inj (hpre ⟨11, .data⟩ (by simp) 14 rfl)).symm
      simp only [Array.getD_eq_getD_getElem?] at p11
      go_simp
      exact hK (.bool true) w' rfl (Below.refl _ _)
    · obtain rfl := Option.some.inj ho
      have p12 : a'.tmps.getD 15 undef = .bool true := (Option.some.inj (hpre ⟨12, .data⟩ (by simp) 15 rfl)).symm
      simp only [Array.getD_eq_getD_getElem?] at p12
      go_simp
      exact hK (.bool true) w' rfl (Below.refl _ _)
    · obtain rfl := Option.some.inj ho
      have e1 : a'.tmps[1]? = some (.pointer (some ⟨w.heap.size, 0, none⟩)) := hout 1 (by decide)
      go_simp
      exact hK (.pointer (some ⟨w.heap.size, 1, none⟩)) w' rfl (Below.refl _ _)
    · obtain rfl := Option.some.inj ho
      have p14 : a'.tmps.getD 17 undef = .pointer (some ⟨w.heap.size, 1, none⟩) := (Option.some.inj (hpre ⟨14, .data⟩ (by simp) 17 rfl)).symm
      simp only [Array.getD_eq_getD_getElem?] at p14
      have hx := (hb'.cell (World.block_lt_of_cell? _ _ x1)).trans x1
      go_simp
      exact hK (.int .i64 m) w' rfl (Below.refl _ _)
    · obtain rfl := Option.some.inj ho
      have p15 : a'.tmps.getD 18 undef = .int .i64 m := (Option.some.inj (hpre ⟨15, .data⟩ (by simp) 18 rfl)).symm
      simp only [Array.getD_eq_getD_getElem?] at p15
      go_simp
      exact hK (.bool true) w' rfl (Below.refl _ _)
    · obtain rfl := Option.some.inj ho
      have p13 : a'.tmps.getD 16 undef = .bool true := (Option.some.inj (hpre ⟨13, .data⟩ (by simp) 16 rfl)).symm
      simp only [Array.getD_eq_getD_getElem?] at p13
      have p16 : a'.tmps.getD 19 undef = .bool true := (Option.some.inj (hpre ⟨16, .data⟩ (by simp) 19 rfl)).symm
      simp only [Array.getD_eq_getD_getElem?] at p16
      go_simp
      exact hK (.bool true) w' rfl (Below.refl _ _)
    · obtain rfl := Option.some.inj ho
      have p17 : a'.tmps.getD 20 undef = .bool true := (Option.some.inj (hpre ⟨17, .data⟩ (by simp) 20 rfl)).symm
      simp only [Array.getD_eq_getD_getElem?] at p17
      go_simp
      exact hK (.bool true) w' rfl (Below.refl _ _)
    · obtain rfl := Option.some.inj ho
      have e1 : a'.tmps[1]? = some (.pointer (some ⟨w.heap.size, 0, none⟩)) := hout 1 (by decide)
      go_simp
      exact hK (.pointer (some ⟨w.heap.size, 2, none⟩)) w' rfl (Below.refl _ _)
    · obtain rfl := Option.some.inj ho
      have p19 : a'.tmps.getD 22 undef = .pointer (some ⟨w.heap.size, 2, none⟩) := (Option.some.inj (hpre ⟨19, .data⟩ (by simp) 22 rfl)).symm
      simp only [Array.getD_eq_getD_getElem?] at p19
      have hx := (hb'.cell (World.block_lt_of_cell? _ _ x2)).trans x2
      go_simp
      exact hK (.int .i64 d) w' rfl (Below.refl _ _)
    · obtain rfl := Option.some.inj ho
      have p20 : a'.tmps.getD 23 undef = .int .i64 d := (Option.some.inj (hpre ⟨20, .data⟩ (by simp) 23 rfl)).symm
      simp only [Array.getD_eq_getD_getElem?] at p20
      go_simp
      exact hK (.bool true) w' rfl (Below.refl _ _)
    · obtain rfl := Option.some.inj ho
      have p18 : a'.tmps.getD 21 undef = .bool true := (Option.some.inj (hpre ⟨18, .data⟩ (by simp) 21 rfl)).symm
      simp only [Array.getD_eq_getD_getElem?] at p18
      have p21 : a'.tmps.getD 24 undef = .bool true := (Option.some.inj (hpre ⟨21, .data⟩ (by simp) 24 rfl)).symm
      simp only [Array.getD_eq_getD_getElem?] at p21
      go_simp
      exact hK (.bool true) w' rfl (Below.refl _ _)
    · obtain rfl := Option.some.inj ho
      have p22 : a'.tmps.getD 25 undef = .bool true := (Option.some.inj (hpre ⟨22, .data⟩ (by simp) 25 rfl)).symm
      simp only [Array.getD_eq_getD_getElem?] at p22
      go_simp
      exact hK (.bool true) w' rfl (Below.refl _ _)
    · obtain rfl := Option.some.inj ho
      have e1 : a'.tmps[1]? = some (.pointer (some ⟨w.heap.size, 0, none⟩)) := hout 1 (by decide)
      go_simp
      exact hK (.pointer (some ⟨w.heap.size, 2, none⟩)) w' rfl (Below.refl _ _)
    · obtain rfl := Option.some.inj ho
      have p24 : a'.tmps.getD 27 undef = .pointer (some ⟨w.heap.size, 2, none⟩) := (Option.some.inj (hpre ⟨24, .data⟩ (by simp) 27 rfl)).symm
      simp only [Array.getD_eq_getD_getElem?] at p24
      have hx := (hb'.cell (World.block_lt_of_cell? _ _ x2)).trans x2
      go_simp
      exact hK (.int .i64 d) w' rfl (Below.refl _ _)
    · obtain rfl := Option.some.inj ho
      have e1 : a'.tmps[1]? = some (.pointer (some ⟨w.heap.size, 0, none⟩)) := hout 1 (by decide)
      go_simp
      exact hK (.pointer (some ⟨w.heap.size, 0, none⟩)) w' rfl (Below.refl _ _)
    · obtain rfl := Option.some.inj ho
      have p26 : a'.tmps.getD 29 undef = .pointer (some ⟨w.heap.size, 0, none⟩) := (Option.some.inj (hpre ⟨26, .data⟩ (by simp) 29 rfl)).symm
      simp only [Array.getD_eq_getD_getElem?] at p26
      have hx := (hb'.cell (World.block_lt_of_cell? _ _ x0)).trans x0
      go_simp
      exact hK (.int .i64 y) w' rfl (Below.refl _ _)
    · obtain rfl := Option.some.inj ho
      have e1 : a'.tmps[1]? = some (.pointer (some ⟨w.heap.size, 0, none⟩)) := hout 1 (by decide)
      go_simp
      exact hK (.pointer (some ⟨w.heap.size, 1, none⟩)) w' rfl (Below.refl _ _)
    · obtain rfl := Option.some.inj ho
      have p28 : a'.tmps.getD 31 undef = .pointer (some ⟨w.heap.size, 1, none⟩) := (Option.some.inj (hpre ⟨28, .data⟩ (by simp) 31 rfl)).symm
      simp only [Array.getD_eq_getD_getElem?] at p28
      have hx := (hb'.cell (World.block_lt_of_cell? _ _ x1)).trans x1
      go_simp
      exact hK (.int .i64 m) w' rfl (Below.refl _ _)
    · obtain rfl := Option.some.inj ho
      have p27 : a'.tmps.getD 30 undef = .int .i64 y := (Option.some.inj (hpre ⟨27, .data⟩ (by simp) 30 rfl)).symm
      simp only [Array.getD_eq_getD_getElem?] at p27
      have p29 : a'.tmps.getD 32 undef = .int .i64 m := (Option.some.inj (hpre ⟨29, .data⟩ (by simp) 32 rfl)).symm
      simp only [Array.getD_eq_getD_getElem?] at p29
      go_simp
      go_at_call 118
      refine (HCC.out w').mono ?_
      rintro e w'' ⟨rfl, hb1⟩
      exact hK _ _ rfl hb1
    · obtain rfl := Option.some.inj ho
      have p25 : a'.tmps.getD 28 undef = .int .i64 d := (Option.some.inj (hpre ⟨25, .data⟩ (by simp) 28 rfl)).symm
      simp only [Array.getD_eq_getD_getElem?] at p25
      have p30 : a'.tmps.getD 33 undef = .int .i64 md := (Option.some.inj (hpre ⟨30, .data⟩ (by simp) 33 rfl)).symm
      simp only [Array.getD_eq_getD_getElem?] at p30
      go_simp
      exact hK (.bool R) w' rfl (Below.refl _ _)
    · obtain rfl := Option.some.inj ho
      have p23 : a'.tmps.getD 26 undef = .bool true := (Option.some.inj (hpre ⟨23, .data⟩ (by simp) 26 rfl)).symm
      simp only [Array.getD_eq_getD_getElem?] at p23
      have p31 : a'.tmps.getD 34 undef = .bool R := (Option.some.inj (hpre ⟨31, .data⟩ (by simp) 34 rfl)).symm
      simp only [Array.getD_eq_getD_getElem?] at p31
      go_simp
      exact hK (.bool R) w' rfl (Below.refl _ _)
  · intro us w' hb' hfacts
    have h32 : us 32 = .bool R := Option.some.inj (hfacts 32 (by decide)).symm
    have HFIN : Hid (Below w.heap.size w w') := HBW.out.trans (hb'.mono HBW.out.size)
    clear hfacts
    simp only [putL, Act.put, List.setIfInBounds_toArray, List.set_cons_zero, List.set_cons_succ]
    generalize us 32 = x32 at *
    subst h32
    simp only [List.drop_succ_cons, List.drop_zero]
    go_wp2_with fail
    go_ret
    exact ⟨ret_bool (by rw [HR.out]), HFIN.out⟩
end Go.Proofs.YtifconapjfdkcaaGreatDoor
