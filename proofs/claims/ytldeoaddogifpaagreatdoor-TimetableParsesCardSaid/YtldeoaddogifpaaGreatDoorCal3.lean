/-
  Contracts of calendar.ParseDate, ParseClock, ParseInstant.
  Condition: the string's length fits an int.
-/
import Derived.Test.YtldeoaddogifpaaGreatDoorCal2
import Derived.Test.YtldeoaddogifpaaGreatDoorRegion
import Derived.Deep.DeepCutAuto
namespace Go.Proofs.YtldeoaddogifpaaGreatDoor
set_option linter.unusedSimpArgs false
set_option linter.unusedVariables false
open Go.RowKit

def DatePost (x : (Int × Int × Int) × Int) (w : World) (e : Ending) (w' : World) : Prop := e = .returned (.tuple #[.agg #[.int .i64 x.1.1, .int .i64 x.1.2.1, .int .i64 x.1.2.2], .int .i64 x.2]) ∧ Below w.heap.size w w'
/-- What the operations of ParseDate's region leave. -/
def datF (s : ByteArray) (H : Nat) : Nat → Value → World → Prop
  | 0, v, _ => v = .string s
  | 1, v, _ => v = .string (s.extract 0 4)
  | 2, v, _ => v = .int .i64 (subN s 0 4)
  | 3, v, _ => v = .string s
  | 4, v, _ => v = .string (s.extract 5 7)
  | 5, v, _ => v = .int .i64 (subN s 5 7)
  | 6, v, _ => v = .string s
  | 7, v, _ => v = .string (s.extract 8 s.size)
  | 8, v, _ => v = .int .i64 (subN s 8 s.size)
  | 9, v, _ => v = .agg #[.int .i64 (subN s 0 4), .int .i64 (subN s 5 7), .int .i64 (subN s 8 s.size)]
  | 10, v, w => ∃ b, v = .pointer (some ⟨b, 0, none⟩) ∧ H ≤ b ∧ w.heap[b]? = some (.cells #[.int .i64 0, .int .i64 0, .int .i64 0] 133 (0, 0))
  | _, _, _ => True
theorem datF_keep {s : ByteArray} {H : Nat} : ∀ (i : Nat) (v : Value) (w w' : World), datF s H i v w → Below w.heap.size w w' → datF s H i v w' := by
  intro i v w w' h hb
  unfold datF at h ⊢
  split at h <;> try exact h
  obtain ⟨b, e, hH, hc⟩ := h; exact ⟨b, e, hH, (hb.block b (Array.getElem?_eq_some_iff.1 hc).1).trans hc⟩
theorem date_info : (Tryz.prog.info? 133).map (·.size) = some 3 := by kernel_rfl
theorem below_setRowc {w0 w : World} {B b : Nat} {cs : Array Value} (h : Below B w0 w) (hb : B ≤ b) : Below B w0 (w.setRow b cs) :=
  ⟨h.os, h.tape, h.output, by simpa using h.size, fun q hq => (setRow_other _ _ _ _ (by omega)).trans (h.block q hq)⟩
set_option maxRecDepth 100000 in
set_option maxHeartbeats 1600000 in
theorem parseDate_any (s : ByteArray) (w : World) (hs : s.size ≤ maxLen) : Calls Tryz.prog 135 #[.string s] w (DatePost (dateB s) w) := by
  have HS := Lib.hid hs
  have hb0 := (Below.refl w.heap.size w).alloc (Nat.le_refl _) (.cells #[.int .i64 0, .int .i64 0, .int .i64 0] 133)
  have hr0 := heap_alloc_new w (.cells #[.int .i64 0, .int .i64 0, .int .i64 0] 133)
  have hz0 : (w.alloc (.cells #[.int .i64 0, .int .i64 0, .int .i64 0] 133)).heap.size = w.heap.size + 1 := by simp
  have HB0 := Lib.hid hb0; have HR0 := Lib.hid hr0; have HZ0 := Lib.hid hz0
  have HD : Hid (dateB s = if matchB s patD = false then ((0, 0, 0), 1) else if validB (subN s 0 4) (subN s 5 7) (subN s 8 s.size) = false then ((0, 0, 0), 5) else ((subN s 0 4, subN s 5 7, subN s 8 s.size), 0)) := rfl
  have HPD : Hid (patD = ⟨#[48, 48, 48, 48, 45, 48, 48, 45, 48, 48]⟩) := rfl
  clear hb0 hr0 hz0
  unfold maxLen at hs
  go_enter Tryz.func135, Tryz.ntmps135
  go_wp2_with fail
  generalize w.alloc (.cells #[.int .i64 0, .int .i64 0, .int .i64 0] 133) = W at *
  rw [← HPD.out]
  refine (matches_any s patD W HS.out).mono ?_
  rintro e w1 ⟨rfl, hb1⟩
  have hbw1 : Below w.heap.size w w1 := HB0.out.trans (hb1.mono HB0.out.size)
  have hr1 := (hb1.block w.heap.size (by have := HZ0.out; omega)).trans HR0.out
  have hs1 : w.heap.size + 1 ≤ w1.heap.size := by have := hb1.size; have := HZ0.out; omega
  have HR1 := Lib.hid hr1
  clear hb1 HR0
  cases hm : matchB s patD
  · have HR : Hid (dateB s = ((0, 0, 0), 1)) := by show _ = _; rw [HD.out, if_pos hm]
    have z0 := block_cell hr1 0; have z1 := block_cell hr1 1; have z2 := block_cell hr1 2
    have f0 := block_free hr1 0; have f1 := block_free hr1 1; have f2 := block_free hr1 2
    clear hr1 hm
    go_wp2_with fail
    refine bodyPost_ret (v := .tuple #[.agg #[.int .i64 0, .int .i64 0, .int .i64 0], .int .i64 1]) (by simp [results, Tryz.results135, go_sem, z0, z1, z2]) rfl ?_
    exact ⟨by rw [HR.out], ((hbw1.setCell (Nat.le_refl _) _).setCell (Nat.le_refl _) _).setCell (Nat.le_refl _) _⟩
  rw [if_neg (by rw [hm]; decide)] at HD
  have hm2 := hm
  rw [matchD_iff] at hm2
  simp only [Bool.and_eq_true, decide_eq_true_eq] at hm2
  obtain ⟨hsz, ⟨⟨⟨hd1, -⟩, hd2⟩, -⟩, hd3⟩ := hm2
  have HC1 : Hid (∀ V : World, Calls Tryz.prog 133 #[.string (s.extract 0 4)] V fun e w' => e = .returned (.int .i64 (subN s 0 4)) ∧ V = w') := fun V => calNumber_any _ V (by rw [size_sub (by omega)]; omega) (by rw [dig_sub (by omega)]; exact hd1)
  have HC2 : Hid (∀ V : World, Calls Tryz.prog 133 #[.string (s.extract 5 7)] V fun e w' => e = .returned (.int .i64 (subN s 5 7)) ∧ V = w') := fun V => calNumber_any _ V (by rw [size_sub (by omega)]; omega) (by rw [dig_sub (by omega)]; exact hd2)
  have HC3 : Hid (∀ V : World, Calls Tryz.prog 133 #[.string (s.extract 8 s.size)] V fun e w' => e = .returned (.int .i64 (subN s 8 s.size)) ∧ V = w') := fun V => calNumber_any _ V (by rw [size_sub (Nat.le_refl _)]; omega) (by rw [dig_sub (Nat.le_refl _), hsz]; exact hd3)
  have tz4 : (4 : Int) ≤ (s.size : Int) := by omega
  have tz7 : (7 : Int) ≤ (s.size : Int) := by omega
  have tz8 : (8 : Int) ≤ (s.size : Int) := by omega
  clear hr1 hm hd1 hd2 hd3 hsz
  go_upto_region 3 with (fail)
  refine wp_region_facts 11 [9, 10, 11, 12, 13, 14, 15, 16, 17, 18, 4] (datF s w1.heap.size) (by kernel_rfl) (by kernel_rfl) (by kernel_rfl) (by kernel_rfl) (by kernel_rfl) datF_keep ?_ ?_
  · intro q o hq ho a' w' hb' hout hpre K hK
    have hq' : q = 0 ∨ q = 1 ∨ q = 2 ∨ q = 3 ∨ q = 4 ∨ q = 5 ∨ q = 6 ∨ q = 7 ∨ q = 8 ∨ q = 9 ∨ q = 10 := by omega
    clear HD HR1 HB0 HZ0 hbw1
    rcases hq' with rfl | rfl | rfl | rfl | rfl | rfl | rfl | rfl | rfl | rfl | rfl
    · obtain rfl := Option.some.inj ho
      have e0 : a'.tmps[0]? = some (.string s) := hout 0 (by decide)
      go_simp
      exact hK (.string s) w' rfl (Below.refl _ _)
    · obtain rfl := Option.some.inj ho
      have p0 : a'.tmps.getD 9 undef = .string s := hpre ⟨0, .data⟩ (by simp) 9 rfl
      simp only [Array.getD_eq_getD_getElem?] at p0
      go_simp
      exact hK (.string (s.extract 0 4)) w' rfl (Below.refl _ _)
    · obtain rfl := Option.some.inj ho
      have p1 : a'.tmps.getD 10 undef = .string (s.extract 0 4) := hpre ⟨1, .data⟩ (by simp) 10 rfl
      simp only [Array.getD_eq_getD_getElem?] at p1
      go_simp
      go_at_call 133
      refine (HC1.out w').mono ?_
      rintro e w'' ⟨rfl, rfl⟩
      exact hK _ _ rfl (Below.refl _ _)
    · obtain rfl := Option.some.inj ho
      have e0 : a'.tmps[0]? = some (.string s) := hout 0 (by decide)
      go_simp
      exact hK (.string s) w' rfl (Below.refl _ _)
    · obtain rfl := Option.some.inj ho
      have p3 : a'.tmps.getD 12 undef = .string s := hpre ⟨3, .data⟩ (by simp) 12 rfl
      simp only [Array.getD_eq_getD_getElem?] at p3
      go_simp
      exact hK (.string (s.extract 5 7)) w' rfl (Below.refl _ _)
    · obtain rfl := Option.some.inj ho
      have p4 : a'.tmps.getD 13 undef = .string (s.extract 5 7) := hpre ⟨4, .data⟩ (by simp) 13 rfl
      simp only [Array.getD_eq_getD_getElem?] at p4
      go_simp
      go_at_call 133
      refine (HC2.out w').mono ?_
      rintro e w'' ⟨rfl, rfl⟩
      exact hK _ _ rfl (Below.refl _ _)
    · obtain rfl := Option.some.inj ho
      have e0 : a'.tmps[0]? = some (.string s) := hout 0 (by decide)
      go_simp
      exact hK (.string s) w' rfl (Below.refl _ _)
    · obtain rfl := Option.some.inj ho
      have p6 : a'.tmps.getD 15 undef = .string s := hpre ⟨6, .data⟩ (by simp) 15 rfl
      simp only [Array.getD_eq_getD_getElem?] at p6
      go_simp
      exact hK (.string (s.extract 8 s.size)) w' rfl (Below.refl _ _)
    · obtain rfl := Option.some.inj ho
      have p7 : a'.tmps.getD 16 undef = .string (s.extract 8 s.size) := hpre ⟨7, .data⟩ (by simp) 16 rfl
      simp only [Array.getD_eq_getD_getElem?] at p7
      go_simp
      go_at_call 133
      refine (HC3.out w').mono ?_
      rintro e w'' ⟨rfl, rfl⟩
      exact hK _ _ rfl (Below.refl _ _)
    · obtain rfl := Option.some.inj ho
      have p2 : a'.tmps.getD 11 undef = .int .i64 (subN s 0 4) := hpre ⟨2, .data⟩ (by simp) 11 rfl
      have p5 : a'.tmps.getD 14 undef = .int .i64 (subN s 5 7) := hpre ⟨5, .data⟩ (by simp) 14 rfl
      have p8 : a'.tmps.getD 17 undef = .int .i64 (subN s 8 s.size) := hpre ⟨8, .data⟩ (by simp) 17 rfl
      simp only [Array.getD_eq_getD_getElem?] at p2 p5 p8
      go_simp
      exact hK _ _ rfl (Below.refl _ _)
    · obtain rfl := Option.some.inj ho
      go_simp
      exact hK _ _ ⟨w'.heap.size, rfl, hb'.size, heap_alloc_new _ _⟩ ((Below.refl _ _).alloc (Nat.le_refl _) _)
  · intro us w' hb' hfacts
    have h9 : us 9 = .agg #[.int .i64 (subN s 0 4), .int .i64 (subN s 5 7), .int .i64 (subN s 8 s.size)] := hfacts 9 (by decide)
    obtain ⟨pb, h10, hpH, hpb⟩ := hfacts 10 (by decide)
    clear hfacts HC1 HC2 HC3
    generalize subN s 0 4 = y at *
    generalize subN s 5 7 = m at *
    generalize subN s 8 s.size = d at *
    simp only [putL, Act.put, List.setIfInBounds_toArray, List.set_cons_zero, List.set_cons_succ]
    generalize us 10 = x10 at *
    generalize us 9 = x9 at *
    subst h10 h9
    have HPB := Lib.hid hpb
    have hfb := below_setRowc (cs := #[.int .i64 y, .int .i64 m, .int .i64 d]) hb' hpH
    have hrow := setRow_heap w' pb _ #[.int .i64 y, .int .i64 m, .int .i64 d] _ _ hpb
    clear hpb
    simp only [List.drop_succ_cons, List.drop_zero]
    refine wpList_store_row rfl _ _ _ rfl pb #[.int .i64 y, .int .i64 m, .int .i64 d] rfl rfl _ _ HPB.out date_info rfl (by simp [Value.oneCell']) ?_
    generalize w'.setRow pb #[.int .i64 y, .int .i64 m, .int .i64 d] = V at *
    have hplt : pb < V.heap.size := (Array.getElem?_eq_some_iff.1 hrow).1
    have x0 := block_cell hrow 0; have x1 := block_cell hrow 1; have x2 := block_cell hrow 2
    have hbV : Below w.heap.size w V := hbw1.trans (hfb.mono (by omega))
    have hrV := (hfb.block w.heap.size (by omega)).trans HR1.out
    have HRW := Lib.hid hrow
    clear hrow hb'
    go_wp2_with fail
    refine (valid_any y m d V).mono ?_
    rintro e w2 ⟨rfl, hb2⟩
    have hbw2 : Below w.heap.size w w2 := hbV.trans (hb2.mono hbV.size)
    have hsv := hfb.size
    have hr2 := (hb2.block w.heap.size (by omega)).trans hrV
    have hp2 := (hb2.block pb hplt).trans HRW.out
    have z0 := block_cell hr2 0; have z1 := block_cell hr2 1; have z2 := block_cell hr2 2
    have f0 := block_free hr2 0; have f1 := block_free hr2 1; have f2 := block_free hr2 2
    have y0 := block_cell hp2 0; have y1 := block_cell hp2 1; have y2 := block_cell hp2 2
    have hpw : pb ≠ w.heap.size := by omega
    clear hr2 hp2 hrV hb2 x0 x1 x2
    cases hv : validB y m d
    · have HR : Hid (dateB s = ((0, 0, 0), 5)) := by show _ = _; rw [HD.out, if_pos hv]
      go_wp2_with fail
      refine bodyPost_ret (v := .tuple #[.agg #[.int .i64 0, .int .i64 0, .int .i64 0], .int .i64 5]) (by simp [results, Tryz.results135, go_sem, z0, z1, z2]) rfl ?_
      exact ⟨by rw [HR.out], ((hbw2.setCell (Nat.le_refl _) _).setCell (Nat.le_refl _) _).setCell (Nat.le_refl _) _⟩
    · have HR : Hid (dateB s = ((y, m, d), 0)) := by show _ = _; rw [HD.out, if_neg (by rw [hv]; decide)]
      go_wp2_with fail
      refine bodyPost_ret (v := .tuple #[.agg #[.int .i64 y, .int .i64 m, .int .i64 d], .int .i64 0]) (by simp [results, Tryz.results135, go_sem, z0, z1, z2]) rfl ?_
      exact ⟨by rw [HR.out], ((hbw2.setCell (Nat.le_refl _) _).setCell (Nat.le_refl _) _).setCell (Nat.le_refl _) _⟩
set_option maxRecDepth 100000 in
set_option maxHeartbeats 800000 in
theorem parseClock_any (s : ByteArray) (w : World) (hs : s.size ≤ maxLen) : Calls Tryz.prog 136 #[.string s] w (NumPost (clockB s) w) := by
  have HS := Lib.hid hs
  have HD : Hid (clockB s = if matchB s patC = false then (0, 1) else if 23 < subN s 0 2 ∨ 59 < subN s 3 s.size then (0, 5) else (subN s 0 2 * 60 + subN s 3 s.size, 0)) := rfl
  have HPD : Hid (patC = ⟨#[48, 48, 58, 48, 48]⟩) := rfl
  unfold maxLen at hs
  go_enter Tryz.func136, Tryz.ntmps136
  go_wp2_with fail
  rw [← HPD.out]
  refine (matches_any s patC w HS.out).mono ?_
  rintro e w1 ⟨rfl, hb1⟩
  cases hm : matchB s patC
  · have HR : Hid (clockB s = (0, 1)) := by show _ = _; rw [HD.out, if_pos hm]
    clear hm
    go_wp2_with fail
    go_ret2
    exact ⟨by rw [HR.out]; rfl, hb1⟩
  rw [if_neg (by rw [hm]; decide)] at HD
  have hm2 := hm
  rw [matchC_iff] at hm2
  simp only [Bool.and_eq_true, decide_eq_true_eq] at hm2
  obtain ⟨hsz, ⟨hd1, -⟩, hd2⟩ := hm2
  have n1 := numTo_bd (s.extract 0 2) (s.extract 0 2).size (by rw [dig_sub (by omega)]; exact hd1)
  have n2 := numTo_bd (s.extract 3 s.size) (s.extract 3 s.size).size (by rw [dig_sub (Nat.le_refl _), hsz]; exact hd2)
  have HC1 : Hid (∀ V : World, Calls Tryz.prog 133 #[.string (s.extract 0 2)] V fun e w' => e = .returned (.int .i64 (subN s 0 2)) ∧ V = w') := fun V => calNumber_any _ V (by rw [size_sub (by omega)]; omega) (by rw [dig_sub (by omega)]; exact hd1)
  have HC2 : Hid (∀ V : World, Calls Tryz.prog 133 #[.string (s.extract 3 s.size)] V fun e w' => e = .returned (.int .i64 (subN s 3 s.size)) ∧ V = w') := fun V => calNumber_any _ V (by rw [size_sub (Nat.le_refl _)]; omega) (by rw [dig_sub (Nat.le_refl _), hsz]; exact hd2)
  have b1 : bnd (s.extract 0 2).size = 99 := by rw [size_sub (show 2 ≤ s.size by omega)]; rfl
  have b2 : bnd (s.extract 3 s.size).size = 99 := by rw [size_sub (Nat.le_refl s.size), hsz]; rfl
  rw [b1] at n1
  rw [b2] at n2
  have k1 : 0 ≤ subN s 0 2 ∧ subN s 0 2 ≤ 99 := n1
  have k2 : 0 ≤ subN s 3 s.size ∧ subN s 3 s.size ≤ 99 := n2
  have t1 : 2 ≤ s.size := by omega
  have t2 : 3 ≤ s.size := by omega
  have t1' : (2 : Int) ≤ (s.size : Int) := by omega
  have t2' : (3 : Int) ≤ (s.size : Int) := by omega
  have HBD : Hid (∀ q, Below w.heap.size w (w1.drewN q)) := fun q => below_drewN hb1 q
  generalize subN s 0 2 = hh at *
  generalize subN s 3 s.size = mm at *
  clear n1 n2 hd1 hd2 hm hb1 b1 b2 hsz
  go_wp2_with fail
  go_quiet (first
    | (go_at_call 133; with_reducible exact quiet_left (HC1.out _))
    | (go_at_call 133; with_reducible exact quiet_left (HC2.out _)))
  by_cases h1 : 23 < hh
  · have HR : Hid (clockB s = (0, 5)) := by show _ = _; rw [HD.out, if_pos (.inl h1)]
    go_wp2_with fail
    go_ret2
    exact ⟨by rw [HR.out]; rfl, HBD.out _⟩
  by_cases h2 : 59 < mm
  · have HR : Hid (clockB s = (0, 5)) := by show _ = _; rw [HD.out, if_pos (.inr h2)]
    go_wp2_with fail
    go_ret2
    exact ⟨by rw [HR.out]; rfl, HBD.out _⟩
  have HR : Hid (clockB s = (hh * 60 + mm, 0)) := by show _ = _; rw [HD.out, if_neg (by rintro (h | h); exact h1 h; exact h2 h)]
  go_wp2_with fail
  go_ret2
  exact ⟨by rw [HR.out]; rfl, HBD.out _⟩
set_option maxRecDepth 100000 in
set_option maxHeartbeats 800000 in
theorem parseInstant_any (s : ByteArray) (w : World) (hs : s.size ≤ maxLen) : Calls Tryz.prog 97 #[.string s] w (NumPost (insB s) w) := by
  have HS := Lib.hid hs
  have HD : Hid (insB s = if matchB s patI = false then (0, 1) else
    if (dateB (s.extract 0 10)).2 ≠ 0 then (0, (dateB (s.extract 0 10)).2) else
      if (clockB (s.extract 11 s.size)).2 ≠ 0 then (0, (clockB (s.extract 11 s.size)).2) else
        if dayB (dateB (s.extract 0 10)).1.1 (dateB (s.extract 0 10)).1.2.1 (dateB (s.extract 0 10)).1.2.2 * 1440 + (clockB (s.extract 11 s.size)).1 < 0 ∨ 52596000 ≤ dayB (dateB (s.extract 0 10)).1.1 (dateB (s.extract 0 10)).1.2.1 (dateB (s.extract 0 10)).1.2.2 * 1440 + (clockB (s.extract 11 s.size)).1 then (0, 5) else
          (dayB (dateB (s.extract 0 10)).1.1 (dateB (s.extract 0 10)).1.2.1 (dateB (s.extract 0 10)).1.2.2 * 1440 + (clockB (s.extract 11 s.size)).1, 0)) := rfl
  have HPD : Hid (patI = ⟨#[48, 48, 48, 48, 45, 48, 48, 45, 48, 48, 32, 48, 48, 58, 48, 48]⟩) := rfl
  unfold maxLen at hs
  go_enter Tryz.func97, Tryz.ntmps97
  go_wp2_with fail
  rw [← HPD.out]
  refine (matches_any s patI w HS.out).mono ?_
  rintro e w1 ⟨rfl, hb1⟩
  cases hm : matchB s patI
  · have HR : Hid (insB s = (0, 1)) := by show _ = _; rw [HD.out, if_pos hm]
    clear hm
    go_wp2_with fail
    go_ret2
    exact ⟨by rw [HR.out]; rfl, hb1⟩
  rw [if_neg (by rw [hm]; decide)] at HD
  have hsz : s.size = 16 := by
    rw [matchI_iff] at hm
    simp only [Bool.and_eq_true, decide_eq_true_eq] at hm
    exact hm.1
  have t1 : 10 ≤ s.size := by omega
  have t2 : 11 ≤ s.size := by omega
  have HPDt := Lib.hid (parseDate_any (s.extract 0 10) w1 (by rw [size_sub t1]; unfold maxLen; omega))
  have HPC : Hid (∀ V : World, Calls Tryz.prog 136 #[.string (s.extract 11 s.size)] V (NumPost (clockB (s.extract 11 s.size)) V)) := fun V => parseClock_any _ V (by rw [size_sub (Nat.le_refl _)]; unfold maxLen; omega)
  have HVD := Lib.hid (dateB_valid (s := s.extract 0 10))
  have hcb := clockB_bd (s.extract 11 s.size)
  generalize dateB (s.extract 0 10) = D at *
  generalize clockB (s.extract 11 s.size) = C at *
  obtain ⟨⟨y, m, d⟩, e0⟩ := D
  obtain ⟨cl, f0⟩ := C
  simp only at HD HPDt HPC HVD hcb
  clear hm hsz
  go_wp2_with fail
  refine HPDt.out.mono ?_
  rintro e w2 ⟨rfl, hb2⟩
  have hbw2 : Below w.heap.size w w2 := hb1.trans (hb2.mono hb1.size)
  clear hb2 HPDt
  have hbA := hbw2.alloc hbw2.size (.cells #[.int .i64 y, .int .i64 m, .int .i64 d] 133)
  have hrA := heap_alloc_new w2 (.cells #[.int .i64 y, .int .i64 m, .int .i64 d] 133)
  have hzA : (w2.alloc (.cells #[.int .i64 y, .int .i64 m, .int .i64 d] 133)).heap.size = w2.heap.size + 1 := by simp
  have HBA := Lib.hid hbA; have HRA := Lib.hid hrA; have HZA := Lib.hid hzA
  clear hbA hrA hzA
  by_cases he : e0 = 0
  case neg =>
    have he' : (e0 != 0) = true := by simpa using he
    have HR : Hid (insB s = (0, e0)) := by show _ = _; rw [HD.out, if_pos he]
    clear he
    go_wp2_with fail
    go_ret2
    exact ⟨by rw [HR.out]; rfl, HBA.out⟩
  subst he
  rw [if_neg (by simp)] at HD
  have hdv := HVD.out rfl
  have hdb := dayB_bd hdv
  obtain ⟨⟨v1, v2⟩, ⟨v3, v4⟩, v5, v6⟩ := validB_iff.1 hdv
  have hmd := mDays_bd y m
  go_wp2_with fail
  generalize w2.alloc (.cells #[.int .i64 y, .int .i64 m, .int .i64 d] 133) = V at *
  refine (HPC.out V).mono ?_
  rintro e w3 ⟨rfl, hb3⟩
  have hbw3 : Below w.heap.size w w3 := HBA.out.trans (hb3.mono HBA.out.size)
  by_cases hf : f0 = 0
  case neg =>
    have hf' : (f0 != 0) = true := by simpa using hf
    have HR : Hid (insB s = (0, f0)) := by show _ = _; rw [HD.out, if_pos hf]
    clear hf
    go_wp2_with fail
    go_ret2
    exact ⟨by rw [HR.out]; rfl, hbw3⟩
  subst hf
  rw [if_neg (by simp)] at HD
  have hr3 := (hb3.block w2.heap.size (by have := HZA.out; omega)).trans HRA.out
  have x0 := block_cell hr3 0; have x1 := block_cell hr3 1; have x2 := block_cell hr3 2
  have HDN := Lib.hid (dayNumber_any y m d w3 (by omega))
  have HDE : Hid (dayN y m d = (dayB y m d, 0)) := by show _ = _; unfold dayN; rw [if_pos hdv]
  rw [HDE.out] at HDN
  generalize dayB y m d = dn at *
  clear hr3 hdv HVD HPC hb3
  go_wp2_with fail
  refine HDN.out.mono ?_
  rintro e w4 ⟨rfl, hb4⟩
  have hbw4 : Below w.heap.size w w4 := hbw3.trans (hb4.mono hbw3.size)
  clear HDN hb4 x0 x1 x2
  by_cases h1 : dn * 1440 + cl < 0
  · have HR : Hid (insB s = (0, 5)) := by show _ = _; rw [HD.out, if_pos (.inl h1)]
    go_wp2_with fail
    go_ret2
    exact ⟨by rw [HR.out]; rfl, hbw4⟩
  by_cases h2 : 52596000 ≤ dn * 1440 + cl
  · have HR : Hid (insB s = (0, 5)) := by show _ = _; rw [HD.out, if_pos (.inr h2)]
    go_wp2_with fail
    go_ret2
    exact ⟨by rw [HR.out]; rfl, hbw4⟩
  have HR : Hid (insB s = (dn * 1440 + cl, 0)) := by show _ = _; rw [HD.out, if_neg (by rintro (h | h); exact h1 h; exact h2 h)]
  go_wp2_with fail
  go_ret2
  exact ⟨by rw [HR.out]; rfl, hbw4⟩
end Go.Proofs.YtldeoaddogifpaaGreatDoor
