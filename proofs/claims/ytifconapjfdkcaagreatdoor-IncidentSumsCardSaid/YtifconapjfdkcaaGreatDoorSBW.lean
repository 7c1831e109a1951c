/-
  Joined texts: Cal3; IncSickP; Find; IncFlight; IncLine. What each proves stands ahead of it, with its conditions.
-/
import Derived.Test.YtifconapjfdkcaaGreatDoorSBU
import Derived.Test.YtifconapjfdkcaaGreatDoorSBP
import Derived.Deep.DeepCutAuto
import Derived.Test.YtifconapjfdkcaaGreatDoorSBE
import Derived.Test.YtifconapjfdkcaaGreatDoorSBM
import Derived.Test.YtifconapjfdkcaaGreatDoorSBO
import Derived.Test.YtifconapjfdkcaaGreatDoorSBI
import Derived.Test.YtifconapjfdkcaaGreatDoorSAM
import Derived.Test.YtifconapjfdkcaaGreatDoorSAJ
import Derived.Test.YtifconapjfdkcaaGreatDoorSAG
import Derived.Test.YtifconapjfdkcaaGreatDoorSBS
import Derived.Deep.QuietTactic
import Derived.Test.YtifconapjfdkcaaGreatDoorSBV
import Derived.Laws.Tables
import Derived.Laws.Rows
/-
  Contracts of calendar.ParseDate, ParseClock, ParseInstant.
  Condition: the string's length fits an int.
-/
namespace Go.Proofs.YtifconapjfdkcaaGreatDoor
set_option linter.unusedSimpArgs false
set_option linter.unusedVariables false
open Go.RowKit

def DatePost (x : (Int × Int × Int) × Int) (w : World) (e : Ending) (w' : World) : Prop := e = .returned (.tuple #[.agg #[.int .i64 x.1.1, .int .i64 x.1.2.1, .int .i64 x.1.2.2], .int .i64 x.2]) ∧ Below w.heap.size w w'
/-- What the operations of ParseDate's region leave. -/
def datF (s : ByteArray) (H : Nat) : Nat → Value → World → Prop
  | 0, v, _ => v = .string s
  | 1, v, _ => v = .string (s.extract 0 4)
  | 2, v, _ => v = .int .i64 (subN s 0 4)
  | 3, v, _ => v = .string s
  | 4, v, _ => v = .string (s.extract 5 7)
  | 5, v, _ => v = .int .i64 (subN s 5 7)
  | 6, v, _ => v = .string s
  | 7, v, _ => v = .string (s.extract 8 s.size)
  | 8, v, _ => v = .int .i64 (subN s 8 s.size)
  | 9, v, _ => v = .agg #[.int .i64 (subN s 0 4), .int .i64 (subN s 5 7), .int .i64 (subN s 8 s.size)]
  | 10, v, w => ∃ b, v = .pointer (some ⟨b, 0, none⟩) ∧ H ≤ b ∧ w.heap[b]? = some (.cells #[.int .i64 0, .int .i64 0, .int .i64 0] 145 (0, 0))
  | _, _, _ => True
theorem datF_keep {s : ByteArray} {H : Nat} : ∀ (i : Nat) (v : Value) (w w' : World), datF s H i v w → Below w.heap.size w w' → datF s H i v w' := by
  intro i v w w' h hb
  unfold datF at h ⊢
  split at h <;> try exact h
  obtain ⟨b, e, hH, hc⟩ := h; exact ⟨b, e, hH, (hb.block b (Array.getElem?_eq_some_iff.1 hc).1).trans hc⟩
theorem date_info : (Tryz.prog.info? 145).map (·.size) = some 3 := by kernel_rfl
theorem below_setRowc {w0 w : World} {B b : Nat} {cs : Array Value} (h : Below B w0 w) (hb : B ≤ b) : Below B w0 (w.setRow b cs) :=
  ⟨h.os, h.tape, h.output, by simpa using h.size, fun q hq => (setRow_other _ _ _ _ (by omega)).trans (h.block q hq)⟩
set_option maxRecDepth 100000 in
set_option maxHeartbeats 1600000 in
theorem parseDate_any (s : ByteArray) (w : World) (hs : s.size ≤ maxLen) : Calls Tryz.prog 131 #[.string s] w (DatePost (dateB s) w) := by
  have HS := Lib.hid hs
  have hb0 := (Below.refl w.heap.size w).alloc (Nat.le_refl _) (.cells #[.int .i64 0, .int .i64 0, .int .i64 0] 145)
  have hr0 := heap_alloc_new w (.cells #[.int .i64 0, .int .i64 0, .int .i64 0] 145)
  have hz0 : (w.alloc (.cells #[.int .i64 0, .int .i64 0, .int .i64 0] 145)).heap.size = w.heap.size + 1 := by simp
  have HB0 := Lib.hid hb0; have HR0 := Lib.hid hr0; have HZ0 := Lib.hid hz0
  have HD : Hid (dateB s = if matchB s patD = false then ((0, 0, 0), 1) else if validB (subN s 0 4) (subN s 5 7) (subN s 8 s.size) = false then ((0, 0, 0), 5) else ((subN s 0 4, subN s 5 7, subN s 8 s.size), 0)) := rfl
  have HPD : Hid (patD = ⟨#[48, 48, 48, 48, 45, 48, 48, 45, 48, 48]⟩) := rfl
  clear hb0 hr0 hz0
  unfold maxLen at hs
  go_enter Tryz.func131, Tryz.ntmps131
  go_wp2_with fail
  generalize w.alloc (.cells #[.int .i64 0, .int .i64 0, .int .i64 0] 145) = W at *
  rw [← HPD.out]
  refine (matches_any s patD W HS.out).mono ?_
  rintro e w1 ⟨rfl, hb1⟩
  have hbw1 : Below w.heap.size w w1 := HB0.out.trans (hb1.mono HB0.out.size)
  have hr1 := (hb1.block w.heap.size (by have := HZ0.out; omega)).trans HR0.out
  have hs1 : w.heap.size + 1 ≤ w1.heap.size := by have := hb1.size; have := HZ0.out; omega
  have HR1 := Lib.hid hr1
  clear hb1 HR0
  cases hm : matchB s patD
  · have HR : Hid (dateB s = ((0, 0, 0), 1)) := by show _ = _; rw [HD.out, if_pos hm]
    have z0 := block_cell hr1 0; have z1 := block_cell hr1 1; have z2 := block_cell hr1 2
    have f0 := block_free hr1 0; have f1 := block_free hr1 1; have f2 := block_free hr1 2
    clear hr1 hm
    go_wp2_with fail
    refine bodyPost_ret (v := .tuple #[.agg #[.int .i64 0, .int .i64 0, .int .i64 0], .int .i64 1]) (by simp [results, Tryz.results131, go_sem, z0, z1, z2]) rfl ?_
    exact ⟨by rw [HR.out], ((hbw1.setCell (Nat.le_refl _) _).setCell (Nat.le_refl _) _).setCell (Nat.le_refl _) _⟩
  rw [if_neg (by rw [hm]; decide)] at HD
  have hm2 := hm
  rw [matchD_iff] at hm2
  simp only [Bool.and_eq_true, decide_eq_true_eq] at hm2
  obtain ⟨hsz, ⟨⟨⟨hd1, -⟩, hd2⟩, -⟩, hd3⟩ := hm2
  have HC1 : Hid (∀ V : World, Calls Tryz.prog 171 #[.string (s.extract 0 4)] V fun e w' => e = .returned (.int .i64 (subN s 0 4)) ∧ V = w') := fun V => calNumber_any _ V (by rw [size_sub (by omega)]; omega) (by rw [dig_sub (by omega)]; exact hd1)
  have HC2 : Hid (∀ V : World, Calls Tryz.prog 171 #[.string (s.extract 5 7)] V fun e w' => e = .returned (.int .i64 (subN s 5 7)) ∧ V = w') := fun V => calNumber_any _ V (by rw [size_sub (by omega)]; omega) (by rw [dig_sub (by omega)]; exact hd2)
  have HC3 : Hid (∀ V : World, Calls Tryz.prog 171 #[.string (s.extract 8 s.size)] V fun e w' => e = .returned (.int .i64 (subN s 8 s.size)) ∧ V = w') := fun V => calNumber_any _ V (by rw [size_sub (Nat.le_refl _)]; omega) (by rw [dig_sub (Nat.le_refl _), hsz]; exact hd3)
  have tz4 : (4 : Int) ≤ (s.size : Int) := by omega
  have tz7 : (7 : Int) ≤ (s.size : Int) := by omega
  have tz8 : (8 : Int) ≤ (s.size : Int) := by omega
  clear hr1 hm hd1 hd2 hd3 hsz
  go_upto_region 3 with (fail)
  refine wp_region_facts 11 [9, 10, 11, 12, 13, 14, 15, 16, 17, 18, 4] (datF s w1.heap.size) (by kernel_rfl) (by kernel_rfl) (by kernel_rfl) (by kernel_rfl) (by kernel_rfl) datF_keep ?_ ?_
  · intro q o hq ho a' w' hb' hout hpre K hK
    have hq' : q = 0 ∨ q = 1 ∨ q = 2 ∨ q = 3 ∨ q = 4 ∨ q = 5 ∨ q = 6 ∨ q = 7 ∨ q = 8 ∨ q = 9 ∨ q = 10 := by omega
    clear HD HR1 HB0 HZ0 hbw1
    rcases hq' with rfl | rfl | rfl | rfl | rfl | rfl | rfl | rfl | rfl | rfl | rfl
    · obtain rfl := Option.some.inj ho
      have e0 : a'.tmps[0]? = some (.string s) := hout 0 (by decide)
      go_simp
      exact hK (.string s) w' rfl (Below.refl _ _)
    · obtain rfl := Option.some.inj ho
      have p0 : a'.tmps.getD 9 undef = .string s := hpre ⟨0, .data⟩ (by simp) 9 rfl
      simp only [Array.getD_eq_getD_getElem?] at p0
      go_simp
      exact hK (.string (s.extract 0 4)) w' rfl (Below.refl _ _)
    · obtain rfl := Option.some.inj ho
      have p1 : a'.tmps.getD 10 undef = .string (s.extract 0 4) := hpre ⟨1, .data⟩ (by simp) 10 rfl
      simp only [Array.getD_eq_getD_getElem?] at p1
      go_simp
      go_at_call 171
      refine (HC1.out w').mono ?_
      rintro e w'' ⟨rfl, rfl⟩
      exact hK _ _ rfl (Below.refl _ _)
    · obtain rfl := Option.some.inj ho
      have e0 : a'.tmps[0]? = some (.string s) := hout 0 (by decide)
      go_simp
      exact hK (.string s) w' rfl (Below.refl _ _)
    · obtain rfl := Option.some.inj ho
      have p3 : a'.tmps.getD 12 undef = .string s := hpre ⟨3, .data⟩ (by simp) 12 rfl
      simp only [Array.getD_eq_getD_getElem?] at p3
      go_simp
      exact hK (.string (s.extract 5 7)) w' rfl (Below.refl _ _)
    · obtain rfl := Option.some.inj ho
      have p4 : a'.tmps.getD 13 undef = .string (s.extract 5 7) := hpre ⟨4, .data⟩ (by simp) 13 rfl
      simp only [Array.getD_eq_getD_getElem?] at p4
      go_simp
      go_at_call 171
      refine (HC2.out w').mono ?_
      rintro e w'' ⟨rfl, rfl⟩
      exact hK _ _ rfl (Below.refl _ _)
    · obtain rfl := Option.some.inj ho
      have e0 : a'.tmps[0]? = some (.string s) := hout 0 (by decide)
      go_simp
      exact hK (.string s) w' rfl (Below.refl _ _)
    · obtain rfl := Option.some.inj ho
      have p6 : a'.tmps.getD 15 undef = .string s := hpre ⟨6, .data⟩ (by simp) 15 rfl
      simp only [Array.getD_eq_getD_getElem?] at p6
      go_simp
      exact hK (.string (s.extract 8 s.size)) w' rfl (Below.refl _ _)
    · obtain rfl := Option.some.inj ho
      have p7 : a'.tmps.getD 16 undef = .string (s.extract 8 s.size) := hpre ⟨7, .data⟩ (by simp) 16 rfl
      simp only [Array.getD_eq_getD_getElem?] at p7
      go_simp
      go_at_call 171
      refine (HC3.out w').mono ?_
      rintro e w'' ⟨rfl, rfl⟩
      exact hK _ _ rfl (Below.refl _ _)
    · obtain rfl := Option.some.inj ho
      have p2 : a'.tmps.getD 11 undef = .int .i64 (subN s 0 4) := hpre ⟨2, .data⟩ (by simp) 11 rfl
      have p5 : a'.tmps.getD 14 undef = .int .i64 (subN s 5 7) := hpre ⟨5, .data⟩ (by simp) 14 rfl
      have p8 : a'.tmps.getD 17 undef = .int .i64 (subN s 8 s.size) := hpre ⟨8, .data⟩ (by simp) 17 rfl
      simp only [Array.getD_eq_getD_getElem?] at p2 p5 p8
      go_simp
      exact hK _ _ rfl (Below.refl _ _)
    · obtain rfl := Option.some.inj ho
      go_simp
      exact hK _ _ ⟨w'.heap.size, rfl, hb'.size, heap_alloc_new _ _⟩ ((Below.refl _ _).alloc (Nat.le_refl _) _)
  · intro us w' hb' hfacts
    have h9 : us 9 = .agg #[.int .i64 (subN s 0 4), .int .i64 (subN s 5 7), .int .i64 (subN s 8 s.size)] := hfacts 9 (by decide)
    obtain ⟨pb, h10, hpH, hpb⟩ := hfacts 10 (by decide)
    clear hfacts HC1 HC2 HC3
    generalize subN s 0 4 = y at *
    generalize subN s 5 7 = m at *
    generalize subN s 8 s.size = d at *
    simp only [putL, Act.put, List.setIfInBounds_toArray, List.set_cons_zero, List.set_cons_succ]
    generalize us 10 = x10 at *
    generalize us 9 = x9 at *
    subst h10 h9
    have HPB := Lib.hid hpb
    have hfb := below_setRowc (cs := #[.int .i64 y, .int .i64 m, .int .i64 d]) hb' hpH
    have hrow := setRow_heap w' pb _ #[.int .i64 y, .int .i64 m, .int .i64 d] _ _ hpb
    clear hpb
    simp only [List.drop_succ_cons, List.drop_zero]
    refine wpList_store_row rfl _ _ _ rfl pb #[.int .i64 y, .int .i64 m, .int .i64 d] rfl rfl _ _ HPB.out date_info rfl (by simp [Value.oneCell']) ?_
    generalize w'.setRow pb #[.int .i64 y, .int .i64 m, .int .i64 d] = V at *
    have hplt : pb < V.heap.size := (Array.getElem?_eq_some_iff.1 hrow).1
    have x0 := block_cell hrow 0; have x1 := block_cell hrow 1; have x2 := block_cell hrow 2
    have hbV : Below w.heap.size w V := hbw1.trans (hfb.mono (by omega))
    have hrV := (hfb.block w.heap.size (by omega)).trans HR1.out
    have HRW := Lib.hid hrow
    clear hrow hb'
    go_wp2_with fail
    refine (valid_any y m d V).mono ?_
    rintro e w2 ⟨rfl, hb2⟩
    have hbw2 : Below w.heap.size w w2 := hbV.trans (hb2.mono hbV.size)
    have hsv := hfb.size
    have hr2 := (hb2.block w.heap.size (by omega)).trans hrV
    have hp2 := (hb2.block pb hplt).trans HRW.out
    have z0 := block_cell hr2 0; have z1 := block_cell hr2 1; have z2 := block_cell hr2 2
    have f0 := block_free hr2 0; have f1 := block_free hr2 1; have f2 := block_free hr2 2
    have y0 := block_cell hp2 0; have y1 := block_cell hp2 1; have y2 := block_cell hp2 2
    have hpw : pb ≠ w.heap.size := by omega
    clear hr2 hp2 hrV hb2 x0 x1 x2
    cases hv : validB y m d
    · have HR : Hid (dateB s = ((0, 0, 0), 5)) := by show _ = _; rw [HD.out, if_pos hv]
      go_wp2_with fail
      refine bodyPost_ret (v := .tuple #[.agg #[.int .i64 0, .int .i64 0, .int .i64 0], .int .i64 5]) (by simp [results, Tryz.results131, go_sem, z0, z1, z2]) rfl ?_
      exact ⟨by rw [HR.out], ((hbw2.setCell (Nat.le_refl _) _).setCell (Nat.le_refl _) _).setCell (Nat.le_refl _) _⟩
    · have HR : Hid (dateB s = ((y, m, d), 0)) := by show _ = _; rw [HD.out, if_neg (by rw [hv]; decide)]
      go_wp2_with fail
      refine bodyPost_ret (v := .tuple #[.agg #[.int .i64 y, .int .i64 m, .int .i64 d], .int .i64 0]) (by simp [results, Tryz.results131, go_sem, z0, z1, z2]) rfl ?_
      exact ⟨by rw [HR.out], ((hbw2.setCell (Nat.le_refl _) _).setCell (Nat.le_refl _) _).setCell (Nat.le_refl _) _⟩
set_option maxRecDepth 100000 in
set_option maxHeartbeats 800000 in
theorem parseClock_any (s : ByteArray) (w : World) (hs : s.size ≤ maxLen) : Calls Tryz.prog 132 #[.string s] w (NumPost (clockB s) w) := by
  have HS := Lib.hid hs
  have HD : Hid (clockB s = if matchB s patC = false then (0, 1) else if 23 < subN s 0 2 ∨ 59 < subN s 3 s.size then (0, 5) else (subN s 0 2 * 60 + subN s 3 s.size, 0)) := rfl
  have HPD : Hid (patC = ⟨#[48, 48, 58, 48, 48]⟩) := rfl
  unfold maxLen at hs
  go_enter Tryz.func132, Tryz.ntmps132
  go_wp2_with fail
  rw [← HPD.out]
  refine (matches_any s patC w HS.out).mono ?_
  rintro e w1 ⟨rfl, hb1⟩
  cases hm : matchB s patC
  · have HR : Hid (clockB s = (0, 1)) := by show _ = _; rw [HD.out, if_pos hm]
    clear hm
    go_wp2_with fail
    go_ret2
    exact ⟨by rw [HR.out]; rfl, hb1⟩
  rw [if_neg (by rw [hm]; decide)] at HD
  have hm2 := hm
  rw [matchC_iff] at hm2
  simp only [Bool.and_eq_true, decide_eq_true_eq] at hm2
  obtain ⟨hsz, ⟨hd1, -⟩, hd2⟩ := hm2
  have n1 := numTo_bd (s.extract 0 2) (s.extract 0 2).size (by rw [dig_sub (by omega)]; exact hd1)
  have n2 := numTo_bd (s.extract 3 s.size) (s.extract 3 s.size).size (by rw [dig_sub (Nat.le_refl _), hsz]; exact hd2)
  have HC1 : Hid (∀ V : World, Calls Tryz.prog 171 #[.string (s.extract 0 2)] V fun e w' => e = .returned (.int .i64 (subN s 0 2)) ∧ V = w') := fun V => calNumber_any _ V (by rw [size_sub (by omega)]; omega) (by rw [dig_sub (by omega)]; exact hd1)
  have HC2 : Hid (∀ V : World, Calls Tryz.prog 171 #[.string (s.extract 3 s.size)] V fun e w' => e = .returned (.int .i64 (subN s 3 s.size)) ∧ V = w') := fun V => calNumber_any _ V (by rw [size_sub (Nat.le_refl _)]; omega) (by rw [dig_sub (Nat.le_refl _), hsz]; exact hd2)
  have b1 : bnd (s.extract 0 2).size = 99 := by rw [size_sub (show 2 ≤ s.size by omega)]; rfl
  have b2 : bnd (s.extract 3 s.size).size = 99 := by rw [size_sub (Nat.le_refl s.size), hsz]; rfl
  rw [b1] at n1
  rw [b2] at n2
  have k1 : 0 ≤ subN s 0 2 ∧ subN s 0 2 ≤ 99 := n1
  have k2 : 0 ≤ subN s 3 s.size ∧ subN s 3 s.size ≤ 99 := n2
  have t1 : 2 ≤ s.size := by omega
  have t2 : 3 ≤ s.size := by omega
  have t1' : (2 : Int) ≤ (s.size : Int) := by omega
  have t2' : (3 : Int) ≤ (s.size : Int) := by omega
  have HBD : Hid (∀ q, Below w.heap.size w (w1.drewN q)) := fun q => below_drewN hb1 q
  generalize subN s 0 2 = hh at *
  generalize subN s 3 s.size = mm at *
  clear n1 n2 hd1 hd2 hm hb1 b1 b2 hsz
  go_wp2_with fail
  go_quiet (first
    | (go_at_call 171; with_reducible exact quiet_left (HC1.out _))
    | (go_at_call 171; with_reducible exact quiet_left (HC2.out _)))
  by_cases h1 : 23 < hh
  · have HR : Hid (clockB s = (0, 5)) := by show _ = _; rw [HD.out, if_pos (.inl h1)]
    go_wp2_with fail
    go_ret2
    exact ⟨by rw [HR.out]; rfl, HBD.out _⟩
  by_cases h2 : 59 < mm
  · have HR : Hid (clockB s = (0, 5)) := by show _ = _; rw [HD.out, if_pos (.inr h2)]
    go_wp2_with fail
    go_ret2
    exact ⟨by rw [HR.out]; rfl, HBD.out _⟩
  have HR : Hid (clockB s = (hh * 60 + mm, 0)) := by show _ = _; rw [HD.out, if_neg (by rintro (h | h); exact h1 h; exact h2 h)]
  go_wp2_with fail
  go_ret2
  exact ⟨by rw [HR.out]; rfl, HBD.out _⟩
set_option maxRecDepth 100000 in
set_option maxHeartbeats 800000 in
theorem parseInstant_any (s : ByteArray) (w : World) (hs : s.size ≤ maxLen) : Calls Tryz.prog 99 #[.string s] w (NumPost (insB s) w) := by
  have HS := Lib.hid hs
  have HD : Hid (insB s = if matchB s patI = false then (0, 1) else
    if (dateB (s.extract 0 10)).2 ≠ 0 then (0, (dateB (s.extract 0 10)).2) else
      if (clockB (s.extract 11 s.size)).2 ≠ 0 then (0, (clockB (s.extract 11 s.size)).2) else
        if dayB (dateB (s.extract 0 10)).1.1 (dateB (s.extract 0 10)).1.2.1 (dateB (s.extract 0 10)).1.2.2 * 1440 + (clockB (s.extract 11 s.size)).1 < 0 ∨ 52596000 ≤ dayB (dateB (s.extract 0 10)).1.1 (dateB (s.extract 0 10)).1.2.1 (dateB (s.extract 0 10)).1.2.2 * 1440 + (clockB (s.extract 11 s.size)).1 then (0, 5) else
          (dayB (dateB (s.extract 0 10)).1.1 (dateB (s.extract 0 10)).1.2.1 (dateB (s.extract 0 10)).1.2.2 * 1440 + (clockB (s.extract 11 s.size)).1, 0)) := rfl
  have HPD : Hid (patI = ⟨#[48, 48, 48, 48, 45, 48, 48, 45, 48, 48, 32, 48, 48, 58, 48, 48]⟩) := rfl
  unfold maxLen at hs
  go_enter Tryz.func99, Tryz.ntmps99
  go_wp2_with fail
  rw [← HPD.out]
  refine (matches_any s patI w HS.out).mono ?_
  rintro e w1 ⟨rfl, hb1⟩
  cases hm : matchB s patI
  · have HR : Hid (insB s = (0, 1)) := by show _ = _; rw [HD.out, if_pos hm]
    clear hm
    go_wp2_with fail
    go_ret2
    exact ⟨by rw [HR.out]; rfl, hb1⟩
  rw [if_neg (by rw [hm]; decide)] at HD
  have hsz : s.size = 16 := by
    rw [matchI_iff] at hm
    simp only [Bool.and_eq_true, decide_eq_true_eq] at hm
    exact hm.1
  have t1 : 10 ≤ s.size := by omega
  have t2 : 11 ≤ s.size := by omega
  have HPDt := Lib.hid (parseDate_any (s.extract 0 10) w1 (by rw [size_sub t1]; unfold maxLen; omega))
  have HPC : Hid (∀ V : World, Calls Tryz.prog 132 #[.string (s.extract 11 s.size)] V (NumPost (clockB (s.extract 11 s.size)) V)) := fun V => parseClock_any _ V (by rw [size_sub (Nat.le_refl _)]; unfold maxLen; omega)
  have HVD := Lib.hid (dateB_valid (s := s.extract 0 10))
  have hcb := clockB_bd (s.extract 11 s.size)
  generalize dateB (s.extract 0 10) = D at *
  generalize clockB (s.extract 11 s.size) = C at *
  obtain ⟨⟨y, m, d⟩, e0⟩ := D
  obtain ⟨cl, f0⟩ := C
  simp only at HD HPDt HPC HVD hcb
  clear hm hsz
  go_wp2_with fail
  refine HPDt.out.mono ?_
  rintro e w2 ⟨rfl, hb2⟩
  have hbw2 : Below w.heap.size w w2 := hb1.trans (hb2.mono hb1.size)
  clear hb2 HPDt
  have hbA := hbw2.alloc hbw2.size (.cells #[.int .i64 y, .int .i64 m, .int .i64 d] 145)
  have hrA := heap_alloc_new w2 (.cells #[.int .i64 y, .int .i64 m, .int .i64 d] 145)
  have hzA : (w2.alloc (.cells #[.int .i64 y, .int .i64 m, .int .i64 d] 145)).heap.size = w2.heap.size + 1 := by simp
  have HBA := Lib.hid hbA; have HRA := Lib.hid hrA; have HZA := Lib.hid hzA
  clear hbA hrA hzA
  by_cases he : e0 = 0
  case neg =>
    have he' : (e0 != 0) = true := by simpa using he
    have HR : Hid (insB s = (0, e0)) := by show _ = _; rw [HD.out, if_pos he]
    clear he
    go_wp2_with fail
    go_ret2
    exact ⟨by rw [HR.out]; rfl, HBA.out⟩
  subst he
  rw [if_neg (by simp)] at HD
  have hdv := HVD.out rfl
  have hdb := dayB_bd hdv
  obtain ⟨⟨v1, v2⟩, ⟨v3, v4⟩, v5, v6⟩ := validB_iff.1 hdv
  have hmd := mDays_bd y m
  go_wp2_with fail
  generalize w2.alloc (.cells #[.int .i64 y, .int .i64 m, .int .i64 d] 145) = V at *
  refine (HPC.out V).mono ?_
  rintro e w3 ⟨rfl, hb3⟩
  have hbw3 : Below w.heap.size w w3 := HBA.out.trans (hb3.mono HBA.out.size)
  by_cases hf : f0 = 0
  case neg =>
    have hf' : (f0 != 0) = true := by simpa using hf
    have HR : Hid (insB s = (0, f0)) := by show _ = _; rw [HD.out, if_pos hf]
    clear hf
    go_wp2_with fail
    go_ret2
    exact ⟨by rw [HR.out]; rfl, hbw3⟩
  subst hf
  rw [if_neg (by simp)] at HD
  have hr3 := (hb3.block w2.heap.size (by have := HZA.out; omega)).trans HRA.out
  have x0 := block_cell hr3 0; have x1 := block_cell hr3 1; have x2 := block_cell hr3 2
  have HDN := Lib.hid (dayNumber_any y m d w3 (by omega))
  have HDE : Hid (dayN y m d = (dayB y m d, 0)) := by show _ = _; unfold dayN; rw [if_pos hdv]
  rw [HDE.out] at HDN
  generalize dayB y m d = dn at *
  clear hr3 hdv HVD HPC hb3
  go_wp2_with fail
  refine HDN.out.mono ?_
  rintro e w4 ⟨rfl, hb4⟩
  have hbw4 : Below w.heap.size w w4 := hbw3.trans (hb4.mono hbw3.size)
  clear HDN hb4 x0 x1 x2
  by_cases h1 : dn * 1440 + cl < 0
  · have HR : Hid (insB s = (0, 5)) := by show _ = _; rw [HD.out, if_pos (.inl h1)]
    go_wp2_with fail
    go_ret2
    exact ⟨by rw [HR.out]; rfl, hbw4⟩
  by_cases h2 : 52596000 ≤ dn * 1440 + cl
  · have HR : Hid (insB s = (0, 5)) := by show _ = _; rw [HD.out, if_pos (.inr h2)]
    go_wp2_with fail
    go_ret2
    exact ⟨by rw [HR.out]; rfl, hbw4⟩
  have HR : Hid (insB s = (dn * 1440 + cl, 0)) := by show _ = _; rw [HD.out, if_neg (by rintro (h | h); exact h1 h; exact h2 h)]
  go_wp2_with fail
  go_ret2
  exact ⟨by rw [HR.out]; rfl, hbw4⟩
end Go.Proofs.YtifconapjfdkcaaGreatDoor
/-
  Contract of incident.parseSick: the incident of the six fields of a sickness.
  Condition: the fields read as a list of six strings of no more than 20000 bytes.
-/
namespace Go.Proofs.YtifconapjfdkcaaGreatDoor
set_option linter.unusedSimpArgs false
set_option linter.unusedVariables false
open Go.RowKit

theorem size_sp {a b : ByteArray} (ha : a.size ≤ 20000) (hb : b.size ≤ 20000) : (a ++ spS ++ b).size ≤ maxLen ∧ ¬ 9223372036854775807 < a.size + 1 ∧ ¬ 9223372036854775807 < (a ++ (⟨#[32]⟩ : ByteArray)).size + b.size ∧ ¬ 9223372036854775807 < a.size + 1 + b.size := by
  have hz1 : (a ++ spS).size = a.size + 1 := by rw [ByteArray.size_append, show spS.size = 1 from rfl]
  refine ⟨?_, by omega, ?_, by omega⟩
  · rw [ByteArray.size_append, hz1]; unfold maxLen; omega
  · rw [show (⟨#[32]⟩ : ByteArray) = spS from rfl, hz1]; omega
theorem name_cell {w : World} {S : Nat → Prop} {A : Option Addr} {n c : Nat} {xs : List ByteArray} (h : Sl Ty.str w S A n c xs) {k : Nat} (hk : k < xs.length) : ∃ b o, A = some ⟨b, o, none⟩ ∧ S b ∧ w.cell? ⟨b, o + k, none⟩ = some (.string (xs.getD k noStr)) := by
  obtain ⟨b, o, e, hs, hc⟩ := h.str_at hk
  refine ⟨b, o, e, hs, ?_⟩
  rw [hc, List.getD_eq_getElem?_getD, List.getElem?_eq_getElem hk]
  rfl
theorem str_cells {f : List ByteArray} {w : World} {S : Nat → Prop} {A : Option Addr} {n c : Nat} (h : Sl Ty.str w S A n c f) (h0 : 0 < f.length) : ∃ b o, A = some ⟨b, o, none⟩ ∧ S b ∧ ∀ k, k < f.length → w.cell? ⟨b, o + k, none⟩ = some (.string (f.getD k noStr)) := by
  obtain ⟨b, o, e, hS, _⟩ := name_cell h h0
  refine ⟨b, o, e, hS, fun k hk => ?_⟩
  obtain ⟨b', o', e', _, hc⟩ := name_cell h hk
  rw [e] at e'
  injection e' with e'
  injection e' with e1 e2
  subst e1 e2
  exact hc
theorem fld_sz {f : List ByteArray} {i : Nat} (h : ∀ x ∈ f, x.size ≤ 20000) : (f.getD i noStr).size ≤ 20000 := by
  by_cases hi : i < f.length
  · exact h _ (getD_in hi noStr)
  · rw [List.getD_eq_getElem?_getD, List.getElem?_eq_none (by omega)]; decide
/-- An incident of a line, and the error. -/
def LinPost (r : GInc × Int) (w : World) (e : Ending) (w' : World) : Prop := e = .returned (.tuple #[incVal r.1, .int .i64 r.2]) ∧ Below w.heap.size w w'
def sickL (f : List ByteArray) : GInc × Int := if (parseB (f.getD 1 noStr)).2 ≠ 0 ∨ (insI f 2).2 ≠ 0 ∨ (insI f 4).2 ≠ 0 then (noInc, 1) else (⟨4, 0, 0, noStr, (parseB (f.getD 1 noStr)).1, ⟨(insI f 2).1, (insI f 4).1 + 1⟩⟩, 0)
set_option maxRecDepth 100000 in
set_option maxHeartbeats 3200000 in
theorem parseSick_any (f : List ByteArray) (A : Option Addr) (n c : Nat) (w : World) (hf : Sl Ty.str w (all_ w) A n c f) (h6 : f.length = 6) (hz : ∀ x ∈ f, x.size ≤ 20000) :
    Calls Tryz.prog 98 #[.agg #[.int .i64 4, .int .i64 0, .int .i64 0, .string ⟨#[]⟩, .int .i64 0, .int .i64 0, .int .i64 0], .slice A n c] w (LinPost (sickL f) w) := by
  have hn := hf.len
  rw [h6] at hn
  subst hn
  obtain ⟨fb, o, rfl, hSb, hcells⟩ := str_cells hf (by omega)
  have HC : Hid (∀ V, Below w.heap.size w V → ∀ k, k < 6 → V.cell? ⟨fb, o + k, none⟩ = some (.string (f.getD k noStr))) := fun V hV k hk => cell_kept (hcells k (by omega)) hV
  have z1 := fld_sz (i := 1) hz; have z2 := fld_sz (i := 2) hz; have z3 := fld_sz (i := 3) hz; have z4 := fld_sz (i := 4) hz; have z5 := fld_sz (i := 5) hz
  have HQ : Hid (sickL f = if (parseB (f.getD 1 noStr)).2 ≠ 0 ∨ (insB (f.getD 2 noStr ++ spS ++ f.getD 3 noStr)).2 ≠ 0 ∨ (insB (f.getD 4 noStr ++ spS ++ f.getD 5 noStr)).2 ≠ 0 then (noInc, 1) else (⟨4, 0, 0, noStr, (parseB (f.getD 1 noStr)).1, ⟨(insB (f.getD 2 noStr ++ spS ++ f.getD 3 noStr)).1, (insB (f.getD 4 noStr ++ spS ++ f.getD 5 noStr)).1 + 1⟩⟩, 0)) := rfl
  have HC : Hid (∀ V, Below w.heap.size w V → V.cell? ⟨fb, o + 1, none⟩ = some (.string (f.getD 1 noStr)) ∧ V.cell? ⟨fb, o + 2, none⟩ = some (.string (f.getD 2 noStr)) ∧ V.cell? ⟨fb, o + 3, none⟩ = some (.string (f.getD 3 noStr)) ∧ V.cell? ⟨fb, o + 4, none⟩ = some (.string (f.getD 4 noStr)) ∧ V.cell? ⟨fb, o + 5, none⟩ = some (.string (f.getD 5 noStr))) := fun V hV => ⟨HC.out V hV 1 (by omega), HC.out V hV 2 (by omega), HC.out V hV 3 (by omega), HC.out V hV 4 (by omega), HC.out V hV 5 (by omega)⟩
  clear hcells hz hf h6
  generalize sickL f = R at *
  generalize f.getD 1 noStr = f1 at *
  generalize f.getD 2 noStr = f2 at *
  generalize f.getD 3 noStr = f3 at *
  generalize f.getD 4 noStr = f4 at *
  generalize f.getD 5 noStr = f5 at *
  obtain ⟨za, qa1, qa2, qa3⟩ := size_sp z2 z3
  obtain ⟨zb, qb1, qb2, qb3⟩ := size_sp z4 z5
  have HC0 : Hid (∀ V : World, Calls Tryz.prog 100 #[.string f1] V (ParsePost f1 V)) := fun V => parseInt_any _ V (by unfold maxLen; omega)
  have HC1 : Hid (∀ V : World, Calls Tryz.prog 99 #[.string (f2 ++ spS ++ f3)] V (NumPost (insB (f2 ++ spS ++ f3)) V)) := fun V => parseInstant_any _ V za
  have HC2 : Hid (∀ V : World, Calls Tryz.prog 99 #[.string (f4 ++ spS ++ f5)] V (NumPost (insB (f4 ++ spS ++ f5)) V)) := fun V => parseInstant_any _ V zb
  have hx1 := insB_bd (f2 ++ spS ++ f3)
  have hx2 := insB_bd (f4 ++ spS ++ f5)
  unfold NumPost at HC1 HC2
  unfold ParsePost at HC0
  generalize parseB f1 = a0 at *
  generalize insB (f2 ++ spS ++ f3) = a1 at *
  generalize insB (f4 ++ spS ++ f5) = a2 at *
  obtain ⟨x0, er0⟩ := a0
  obtain ⟨x1, er1⟩ := a1
  obtain ⟨x2, er2⟩ := a2
  simp only at HC0 HC1 HC2 HQ hx1 hx2
  have hA := ((Below.refl w.heap.size w).alloc (Nat.le_refl _) (.cells #[.int .i64 4, .int .i64 0, .int .i64 0, .string ⟨#[]⟩, .int .i64 0, .int .i64 0, .int .i64 0] 59)).alloc (by simp) (.cells #[.int .i64 0, .int .i64 0, .int .i64 0, .string ⟨#[]⟩, .int .i64 0, .int .i64 0, .int .i64 0] 59)
  have hX : ((w.alloc (.cells #[.int .i64 4, .int .i64 0, .int .i64 0, .string ⟨#[]⟩, .int .i64 0, .int .i64 0, .int .i64 0] 59)).alloc (.cells #[.int .i64 0, .int .i64 0, .int .i64 0, .string ⟨#[]⟩, .int .i64 0, .int .i64 0, .int .i64 0] 59)).heap[w.heap.size]? = _ := heap_alloc2_old _ _ _
  have hR : ((w.alloc (.cells #[.int .i64 4, .int .i64 0, .int .i64 0, .string ⟨#[]⟩, .int .i64 0, .int .i64 0, .int .i64 0] 59)).alloc (.cells #[.int .i64 0, .int .i64 0, .int .i64 0, .string ⟨#[]⟩, .int .i64 0, .int .i64 0, .int .i64 0] 59)).heap[w.heap.size + 1]? = _ := heap_alloc2_new _ _ _
  have HA := Lib.hid hA; have HX := Lib.hid hX; have HRB := Lib.hid hR
  have hfb : fb < w.heap.size := hSb
  clear hA hX hR z1 z2 z3 z4 z5 za zb hSb
  go_enter Tryz.func98, Tryz.ntmps98
  go_upto_region 1 with (fail)
  generalize (w.alloc (.cells #[.int .i64 4, .int .i64 0, .int .i64 0, .string ⟨#[]⟩, .int .i64 0, .int .i64 0, .int .i64 0] 59)).alloc (.cells #[.int .i64 0, .int .i64 0, .int .i64 0, .string ⟨#[]⟩, .int .i64 0, .int .i64 0, .int .i64 0] 59) = W at *
  have c1 := (HC.out W HA.out).1
  go_wp2_with fail
  refine (HC0.out W).mono ?_
  rintro e w1 ⟨rfl, rfl⟩
  clear c1 HC0
  by_cases h0 : er0 = 0
  case neg =>
    have h0' : (er0 == 0) = false := by simpa using h0
    have HR : Hid (R = (noInc, 1)) := by show _ = _; rw [HQ.out, if_pos (.inl h0)]
    have hr := HRB.out
    have u0 := block_cell hr 0; have u1 := block_cell hr 1; have u2 := block_cell hr 2; have u3 := block_cell hr 3; have u4 := block_cell hr 4; have u5 := block_cell hr 5; have u6 := block_cell hr 6
    have g0 := block_free hr 0; have g1 := block_free hr 1; have g2 := block_free hr 2; have g3 := block_free hr 3; have g4 := block_free hr 4; have g5 := block_free hr 5; have g6 := block_free hr 6
    clear h0 hr
    go_wp2_with fail
    refine bodyPost_ret (v := .tuple #[.agg #[.int .i64 0, .int .i64 0, .int .i64 0, .string ⟨#[]⟩, .int .i64 0, .int .i64 0, .int .i64 0], .int .i64 1]) (by simp [results, Tryz.results98, go_sem, u0, u1, u2, u3, u4, u5, u6]) rfl ?_
    rw [HR.out]
    exact ⟨rfl, ((((((HA.out.setCell (Nat.le_succ _) _).setCell (Nat.le_succ _) _).setCell (Nat.le_succ _) _).setCell (Nat.le_succ _) _).setCell (Nat.le_succ _) _).setCell (Nat.le_succ _) _).setCell (Nat.le_succ _) _⟩
  subst h0
  obtain ⟨-, c2, c3, -, -⟩ := HC.out W HA.out
  go_upto_region 4 with (fail)
  go_cut [8, 7] (fun a b wx => a = .int .i64 x1 ∧ b = .int .i64 er1 ∧ Below W.heap.size W wx)
  case first =>
    go_region_law (first
      | (go_simp; go_at_call 99; refine (HC1.out _).mono ?_; rintro e w1 ⟨rfl, hb1⟩)
      | fail)
    all_goals
      go_wp2_with fail
      go_meet
      exact ⟨rfl, rfl, ⟨hb1.os, hb1.tape, hb1.output, hb1.size, hb1.block⟩⟩
  case rest =>
  obtain ⟨rfl, rfl, hb1⟩ := hcut
  obtain ⟨w1, rfl⟩ : ∃ x : World, x = wc := ⟨_, rfl⟩
  have hws : w.heap.size + 2 ≤ W.heap.size := by have := (Array.getElem?_eq_some_iff.1 HRB.out).1; omega
  have HA1 : Hid (Below w.heap.size w w1) := HA.out.trans (hb1.mono (by omega))
  have HX1 : Hid (w1.heap[w.heap.size]? = _) := (hb1.block _ (by omega)).trans HX.out
  have HR1 : Hid (w1.heap[w.heap.size + 1]? = _) := (hb1.block _ (by omega)).trans HRB.out
  have hws1 : w.heap.size + 2 ≤ w1.heap.size := by have := hb1.size; omega
  clear c2 c3 HC1 hb1 HA HX HRB hws
  by_cases h1 : er1 = 0
  case neg =>
    have h0' : (er1 == 0) = false := by simpa using h1
    have HR : Hid (R = (noInc, 1)) := by show _ = _; rw [HQ.out, if_pos (.inr (.inl h1))]
    have hr := HR1.out
    have u0 := block_cell hr 0; have u1 := block_cell hr 1; have u2 := block_cell hr 2; have u3 := block_cell hr 3; have u4 := block_cell hr 4; have u5 := block_cell hr 5; have u6 := block_cell hr 6
    have g0 := block_free hr 0; have g1 := block_free hr 1; have g2 := block_free hr 2; have g3 := block_free hr 3; have g4 := block_free hr 4; have g5 := block_free hr 5; have g6 := block_free hr 6
    clear h1 hr
    go_wp2_with fail
    refine bodyPost_ret (v := .tuple #[.agg #[.int .i64 0, .int .i64 0, .int .i64 0, .string ⟨#[]⟩, .int .i64 0, .int .i64 0, .int .i64 0], .int .i64 1]) (by simp [results, Tryz.results98, go_sem, u0, u1, u2, u3, u4, u5, u6]) rfl ?_
    rw [HR.out]
    exact ⟨rfl, ((((((HA1.out.setCell (Nat.le_succ _) _).setCell (Nat.le_succ _) _).setCell (Nat.le_succ _) _).setCell (Nat.le_succ _) _).setCell (Nat.le_succ _) _).setCell (Nat.le_succ _) _).setCell (Nat.le_succ _) _⟩
  subst h1
  obtain ⟨-, -, -, c4, c5⟩ := HC.out w1 HA1.out
  go_upto_region 7 with (fail)
  go_cut [9, 7] (fun a b wx => a = .int .i64 x2 ∧ b = .int .i64 er2 ∧ Below w1.heap.size w1 wx)
  case first =>
    go_region_law (first
      | (go_simp; go_at_call 99; refine (HC2.out _).mono ?_; rintro e w2 ⟨rfl, hb1⟩)
      | fail)
    all_goals
      go_wp2_with fail
      go_meet
      exact ⟨rfl, rfl, ⟨hb1.os, hb1.tape, hb1.output, hb1.size, hb1.block⟩⟩
  case rest =>
  obtain ⟨rfl, rfl, hb1⟩ := hcut
  obtain ⟨w2, rfl⟩ : ∃ x : World, x = wc := ⟨_, rfl⟩
  have HA2 : Hid (Below w.heap.size w w2) := HA1.out.trans (hb1.mono (by omega))
  have hx := (hb1.block w.heap.size (by omega)).trans HX1.out
  have hr := (hb1.block (w.heap.size + 1) (by omega)).trans HR1.out
  have u0 := block_cell hr 0; have u1 := block_cell hr 1; have u2 := block_cell hr 2; have u3 := block_cell hr 3; have u4 := block_cell hr 4; have u5 := block_cell hr 5; have u6 := block_cell hr 6
  have g0 := block_free hr 0; have g1 := block_free hr 1; have g2 := block_free hr 2; have g3 := block_free hr 3; have g4 := block_free hr 4; have g5 := block_free hr 5; have g6 := block_free hr 6
  clear c4 c5 HC2 hb1 HA1 HX1 HR1 HC
  by_cases h2 : er2 = 0
  case neg =>
    have h0' : (er2 == 0) = false := by simpa using h2
    have HR : Hid (R = (noInc, 1)) := by show _ = _; rw [HQ.out, if_pos (.inr (.inr h2))]
    clear h2 hr hx
    go_wp2_with fail
    refine bodyPost_ret (v := .tuple #[.agg #[.int .i64 0, .int .i64 0, .int .i64 0, .string ⟨#[]⟩, .int .i64 0, .int .i64 0, .int .i64 0], .int .i64 1]) (by simp [results, Tryz.results98, go_sem, u0, u1, u2, u3, u4, u5, u6]) rfl ?_
    rw [HR.out]
    exact ⟨rfl, ((((((HA2.out.setCell (Nat.le_succ _) _).setCell (Nat.le_succ _) _).setCell (Nat.le_succ _) _).setCell (Nat.le_succ _) _).setCell (Nat.le_succ _) _).setCell (Nat.le_succ _) _).setCell (Nat.le_succ _) _⟩
  subst h2
  have HR : Hid (R = (⟨4, 0, 0, noStr, x0, ⟨x1, x2 + 1⟩⟩, 0)) := by show _ = _; rw [HQ.out, if_neg (by simp)]
  have y0 := block_cell hx 0; have y1 := block_cell hx 1; have y2 := block_cell hx 2; have y3 := block_cell hx 3; have y4 := block_cell hx 4; have y5 := block_cell hx 5; have y6 := block_cell hx 6
  have f4 := block_free hx 4; have f5 := block_free hx 5; have f6 := block_free hx 6
  have hne : w.heap.size ≠ w.heap.size + 1 := by omega
  have hne' : w.heap.size + 1 ≠ w.heap.size := by omega
  have hsum : IntKind.i64.wrap (x2 + 1) = x2 + 1 := IntWalk.i64_in _ (by omega)
  clear hr hx HQ
  go_wp2_with fail
  refine bodyPost_ret (v := .tuple #[.agg #[.int .i64 4, .int .i64 0, .int .i64 0, .string ⟨#[]⟩, .int .i64 x0, .int .i64 x1, .int .i64 (x2 + 1)], .int .i64 0]) (by simp [results, Tryz.results98, go_sem, u0, u1, u2, u3, u4, u5, u6]) rfl ?_
  rw [HR.out]
  exact ⟨rfl, (((((((((HA2.out.setCell (Nat.le_refl _) _).setCell (Nat.le_refl _) _).setCell (Nat.le_refl _) _).setCell (Nat.le_succ _) _).setCell (Nat.le_succ _) _).setCell (Nat.le_succ _) _).setCell (Nat.le_succ _) _).setCell (Nat.le_succ _) _).setCell (Nat.le_succ _) _).setCell (Nat.le_succ _) _⟩
end Go.Proofs.YtifconapjfdkcaaGreatDoor
/-
  Contract of timetable.FindFlight.
  Condition: the timetable's data are well formed.
-/
namespace Go.Proofs.YtifconapjfdkcaaGreatDoor
set_option linter.unusedSimpArgs false
set_option linter.unusedVariables false
open Go.RowKit

/-- The first place that fits. -/
def firstHit (p : Nat → Bool) (n : Nat) : Option Nat := (List.range n).find? p
theorem firstHit_none {p : Nat → Bool} {n : Nat} (h : ∀ j, j < n → p j = false) : firstHit p n = none := by
  unfold firstHit
  rw [List.find?_eq_none]
  intro x hx
  rw [h x (List.mem_range.1 hx)]
  simp
theorem firstHit_some {p : Nat → Bool} {n k : Nat} (hk : k < n) (h : ∀ j, j < k → p j = false) (hp : p k = true) : firstHit p n = some k := by
  unfold firstHit
  rw [List.find?_range_eq_some]
  exact ⟨hp, List.mem_range.2 hk, fun j hj => by rw [h j hj]; rfl⟩
end Go.Proofs.YtifconapjfdkcaaGreatDoor
/-
  Contracts of slices.ContainsFunc over airports with the closure of incident.validateFlight, and of incident.validateFlight.
  Condition: the timetable's data are well formed.
-/
namespace Go.Proofs.YtifconapjfdkcaaGreatDoor
set_option linter.unusedSimpArgs false
set_option linter.unusedVariables false
open Go.RowKit

theorem codeIs_any (a : GAirport) (g : Nat) (code : ByteArray) (w : World) (h : w.cell? ⟨g, 3, none⟩ = some (.string code)) :
    Calls Tryz.prog 71 #[.agg #[.string a.code, .string a.zone], .pointer (some ⟨g, 0, none⟩)] w fun e w' => e = .returned (.bool (decide (a.code = code))) ∧ Below w.heap.size w w' := by
  have hg : g < w.heap.size := World.block_lt_of_cell? w _ h
  have hc : ∀ o, (w.alloc o).cell? ⟨g, 3, none⟩ = some (.string code) := fun o => (World.cell?_alloc_past _ _ _ hg).trans h
  have HSB := Lib.hid (str_beq a.code code)
  have HA : Hid (∀ o, Below w.heap.size w (w.alloc o)) := fun o => (Below.refl _ _).alloc (Nat.le_refl _) o
  by_cases he : a.code = code
  · have hs : (a.code.toList == code.toList) = true := by rw [HSB.out]; simpa using he
    have HE : Hid (decide (a.code = code) = true) := by show _ = _; simpa using he
    clear he
    go_enter Tryz.func71, Tryz.ntmps71
    go_wp2_with fail
    go_ret
    exact ⟨by rw [HE.out]; rfl, HA.out _⟩
  · have hs : (a.code.toList == code.toList) = false := by rw [HSB.out]; simpa using he
    have HE : Hid (decide (a.code = code) = false) := by show _ = _; simpa using he
    clear he
    go_enter Tryz.func71, Tryz.ntmps71
    go_wp2_with fail
    go_ret
    exact ⟨by rw [HE.out]; rfl, HA.out _⟩
def aHit (l : List GAirport) (code : ByteArray) (i : Nat) : Bool := decide ((l.getD i noAirport).code = code)
def ixOpt (o : Option Nat) : Int := match o with | some i => (i : Int) | none => -1
def IxPost (x : Int) (w : World) (e : Ending) (w' : World) : Prop := e = .returned (.int .i64 x) ∧ Below w.heap.size w w'
set_option maxRecDepth 100000 in
theorem indexFunc_any (l : List GAirport) (A : Option Addr) (n c g : Nat) (code : ByteArray) (w : World) (hs : Sl Ty.airport w (all_ w) A n c l) (h : w.cell? ⟨g, 3, none⟩ = some (.string code)) :
    Calls Tryz.prog 109 #[.slice A n c, .func (.func 71) #[] #[.pointer (some ⟨g, 0, none⟩)]] w (IxPost (ixOpt (firstHit (aHit l code) l.length)) w) := by
  have hn1 : n ≤ l.length := Nat.le_of_eq hs.len
  have hn2 : l.length ≤ n := Nat.le_of_eq hs.len.symm
  have hle := hs.le
  unfold maxLen at hle
  have HS := Lib.hid hs
  have HG := Lib.hid h
  clear hs h
  go_enter Tryz.func109, Tryz.ntmps109
  go_wp2_with fail
  go_loopw [5, 8] (fun _ s wr => ∃ k : Nat, k ≤ n ∧ s = .int .i64 k ∧ Below w.heap.size w wr ∧ Hid (∀ j, j < k → aHit l code j = false)) (fun _ s _ => n - (intOf s).toNat)
  case atStart => exact ⟨0, Nat.zero_le _, rfl, Below.refl _ _, fun j hj => absurd hj (by omega)⟩
  case round =>
    obtain ⟨k, hk, rfl, hbr, HK⟩ := hrel
    by_cases hlt : k < n
    · have hks : k < l.length := by omega
      obtain ⟨b, o, rfl, hbS, y0, y1⟩ := (HS.out.keep (all_keep hbr)).airport_at hks
      have HAH : Hid (aHit l code k = decide ((l.getD k noAirport).code = code)) := rfl
      generalize l.getD k noAirport = a at *
      have HC := Lib.hid (codeIs_any a g code wr (cell_kept HG.out hbr))
      go_wp2_with fail
      refine HC.out.mono ?_
      rintro e w1 ⟨rfl, hb1⟩
      clear HC y0 y1
      have hw1 : Below w.heap.size w w1 := hbr.trans (hb1.mono hbr.size)
      rw [← HAH.out]
      rcases Bool.eq_false_or_eq_true (aHit l code k) with hh | hh
      · have HF : Hid (ixOpt (firstHit (aHit l code) l.length) = (k : Int)) := by show _ = _; rw [firstHit_some hks HK.out hh]; rfl
        rw [hh]
        clear hh
        go_wp2_with fail
        go_ret
        exact ⟨by rw [HF.out]; rfl, hw1⟩
      · have HM : Hid (∀ j, j < k + 1 → aHit l code j = false) := fun j hj => by
          rcases Nat.lt_or_eq_of_le (Nat.le_of_lt_succ hj) with h1 | rfl
          · exact HK.out j h1
          · exact hh
        rw [hh]
        clear hh
        go_wp2_with fail
        go_roundw
        case rel => exact ⟨k + 1, by omega, by go_num, hw1, HM⟩
        case measure => simp [intOf]; omega
    · have HF : Hid (ixOpt (firstHit (aHit l code) l.length) = -1) := by
        show _ = _
        rw [firstHit_none (fun j hj => HK.out j (by omega))]
        rfl
      go_wp2_with fail
      go_ret
      exact ⟨by rw [HF.out]; rfl, hbr⟩
def BoolPost (x : Bool) (w : World) (e : Ending) (w' : World) : Prop := e = .returned (.bool x) ∧ Below w.heap.size w w'
theorem containsFunc_any (l : List GAirport) (A : Option Addr) (n c g : Nat) (code : ByteArray) (w : World) (hs : Sl Ty.airport w (all_ w) A n c l) (h : w.cell? ⟨g, 3, none⟩ = some (.string code)) :
    Calls Tryz.prog 72 #[.slice A n c, .func (.func 71) #[] #[.pointer (some ⟨g, 0, none⟩)]] w (BoolPost (firstHit (aHit l code) l.length).isSome w) := by
  have HC := Lib.hid (indexFunc_any l A n c g code w hs h)
  clear hs h
  cases hf : firstHit (aHit l code) l.length with
  | none =>
    rw [hf] at HC
    have HC' : Hid (Calls Tryz.prog 109 #[.slice A n c, .func (.func 71) #[] #[.pointer (some ⟨g, 0, none⟩)]] w (IxPost (-1) w)) := HC
    clear HC hf
    go_enter Tryz.func72, Tryz.ntmps72
    go_wp2_with fail
    refine HC'.out.mono ?_
    rintro e w1 ⟨rfl, hb1⟩
    go_wp2_with fail
    go_ret
    exact ⟨rfl, hb1⟩
  | some i =>
    rw [hf] at HC
    have HC' : Hid (Calls Tryz.prog 109 #[.slice A n c, .func (.func 71) #[] #[.pointer (some ⟨g, 0, none⟩)]] w (IxPost (i : Int) w)) := HC
    have hd : decide ((0 : Int) ≤ (i : Int)) = true := by simp
    clear HC hf
    go_enter Tryz.func72, Tryz.ntmps72
    go_wp2_with fail
    refine HC'.out.mono ?_
    rintro e w1 ⟨rfl, hb1⟩
    go_wp2_with fail
    go_ret
    exact ⟨by simp, hb1⟩

theorem known_has (l : List GAirport) (code : ByteArray) : (firstHit (aHit l code) l.length).isSome = hasB (aCodes l) code := by
  unfold firstHit
  rw [Bool.eq_iff_iff, List.find?_isSome, hasB_iff]
  unfold aCodes
  rw [List.mem_map]
  constructor
  · rintro ⟨x, hx, hp⟩
    have hx' := List.mem_range.1 hx
    unfold aHit at hp
    exact ⟨l.getD x noAirport, getD_mem0 hx' noAirport, of_decide_eq_true hp⟩
  · rintro ⟨a, ha, rfl⟩
    obtain ⟨i, hi, e⟩ := mem_getD ha noAirport
    exact ⟨i, List.mem_range.2 hi, by unfold aHit; rw [e]; simp⟩

set_option maxRecDepth 100000 in
set_option maxHeartbeats 1600000 in
theorem incFlight_any (t : GTT) (x : GInc) (A1 A2 A3 : Option Addr) (n1 n2 n3 c1 c2 c3 : Nat) (w : World) (hs2 : Sl Ty.airport w (all_ w) A2 n2 c2 t.airports) (hs3 : Sl Ty.flight w (all_ w) A3 n3 c3 t.flights) (hk : 1 ≤ x.kind ∧ x.kind ≤ 3) :
    Calls Tryz.prog 38 #[.agg #[.slice A1 n1 c1, .slice A2 n2 c2, .slice A3 n3 c3], incVal x] w (ErrPost (flightIncE t x) w) := by
  have hn1 : n3 ≤ t.flights.length := Nat.le_of_eq hs3.len
  have hn2 : t.flights.length ≤ n3 := Nat.le_of_eq hs3.len.symm
  have hle := hs3.le
  unfold maxLen at hle
  have HA : Hid (∀ o p, Below w.heap.size w ((w.alloc o).alloc p)) := fun o p => ((Below.refl _ _).alloc (Nat.le_refl _) o).alloc (by simp) p
  unfold incVal
  obtain ⟨kind, fl, mi, ai, pe, ⟨s1, s2⟩⟩ := x
  simp only at hk ⊢
  by_cases hf : fl < 0 ∨ (t.flights.length : Int) ≤ fl
  · have HR : Hid (flightIncE t ⟨kind, fl, mi, ai, pe, ⟨s1, s2⟩⟩ = 6) := by show _ = _; unfold flightIncE; exact if_pos hf
    have hf' : fl < 0 ∨ (¬ fl < 0 ∧ (n3 : Int) ≤ fl) := by omega
    clear hf hs2 hs3
    rcases hf' with h | ⟨h, h'⟩
    all_goals
      go_enter Tryz.func38, Tryz.ntmps38
      go_wp2_with fail
      go_ret
      exact ⟨by rw [HR.out]; rfl, HA.out _ _⟩
  have hf0 : 0 ≤ fl := by omega
  have hf1 : fl < (n3 : Int) := by omega
  have hk' : kind = 1 ∨ kind = 2 ∨ kind = 3 := by omega
  rcases hk' with rfl | rfl | rfl
  · have HR : Hid (flightIncE t ⟨1, fl, mi, ai, pe, ⟨s1, s2⟩⟩ = if mi < 1 ∨ 1440 < mi then 5 else 0) := by show _ = _; unfold flightIncE; rw [if_neg hf, if_pos rfl]
    clear hf hs2 hs3
    by_cases hm : mi < 1 ∨ 1440 < mi
    · rw [if_pos hm] at HR
      have hm' : mi < 1 ∨ (¬ mi < 1 ∧ 1440 < mi) := by omega
      clear hm
      rcases hm' with h | ⟨h, h'⟩
      all_goals
        go_enter Tryz.func38, Tryz.ntmps38
        go_wp2_with fail
        go_ret
        exact ⟨by rw [HR.out]; rfl, HA.out _ _⟩
    · rw [if_neg hm] at HR
      have h1 : ¬ mi < 1 := by omega
      have h2 : ¬ 1440 < mi := by omega
      clear hm
      go_enter Tryz.func38, Tryz.ntmps38
      go_wp2_with fail
      go_ret
      exact ⟨by rw [HR.out]; rfl, HA.out _ _⟩
  · have HR : Hid (flightIncE t ⟨2, fl, mi, ai, pe, ⟨s1, s2⟩⟩ = 0) := by show _ = _; unfold flightIncE; rw [if_neg hf, if_neg (show ¬ (2 : Int) = 1 by decide), if_neg (show ¬ (2 : Int) = 3 by decide)]
    clear hf hs2 hs3
    go_enter Tryz.func38, Tryz.ntmps38
    go_wp2_with fail
    go_ret
    exact ⟨by rw [HR.out]; rfl, HA.out _ _⟩
  · have HR : Hid (flightIncE t ⟨3, fl, mi, ai, pe, ⟨s1, s2⟩⟩ = if hasB (aCodes t.airports) ai = false then 6 else if ai = (t.flights.getD fl.toNat noFlight).src then 14 else if mi < 0 ∨ 720 < mi then 5 else 0) := by show _ = _; unfold flightIncE; rw [if_neg hf, if_neg (show ¬ (3 : Int) = 1 by decide), if_pos rfl]
    have hA0 := HA.out (.cells #[.slice A1 n1 c1, .slice A2 n2 c2, .slice A3 n3 c3] 27) (.cells #[.int .i64 3, .int .i64 fl, .int .i64 mi, .string ai, .int .i64 pe, .int .i64 s1, .int .i64 s2] 59)
    have HC := Lib.hid (containsFunc_any t.airports A2 n2 c2 (w.heap.size + 1) ai _ (hs2.next hA0) (block_cell (heap_alloc2_new _ _ _) 3))
    rw [known_has] at HC
    have HS : Hid (∀ V, Below w.heap.size w V → Sl Ty.flight V (all_ w) A3 n3 c3 t.flights) := fun V hV => hs3.keep (all_keep hV)
    have HA1 := Lib.hid hA0
    have g0 : ((w.alloc (.cells #[.slice A1 n1 c1, .slice A2 n2 c2, .slice A3 n3 c3] 27)).alloc (.cells #[.int .i64 3, .int .i64 fl, .int .i64 mi, .string ai, .int .i64 pe, .int .i64 s1, .int .i64 s2] 59)).heap[w.heap.size]? = some (.cells #[.slice A1 n1 c1, .slice A2 n2 c2, .slice A3 n3 c3] 27 (0, 0)) := heap_alloc2_old _ _ _
    have g1 : ((w.alloc (.cells #[.slice A1 n1 c1, .slice A2 n2 c2, .slice A3 n3 c3] 27)).alloc (.cells #[.int .i64 3, .int .i64 fl, .int .i64 mi, .string ai, .int .i64 pe, .int .i64 s1, .int .i64 s2] 59)).heap[w.heap.size + 1]? = some (.cells #[.int .i64 3, .int .i64 fl, .int .i64 mi, .string ai, .int .i64 pe, .int .i64 s1, .int .i64 s2] 59 (0, 0)) := heap_alloc2_new _ _ _
    have HZ : Hid (w.heap.size + 2 ≤ ((w.alloc (.cells #[.slice A1 n1 c1, .slice A2 n2 c2, .slice A3 n3 c3] 27)).alloc (.cells #[.int .i64 3, .int .i64 fl, .int .i64 mi, .string ai, .int .i64 pe, .int .i64 s1, .int .i64 s2] 59)).heap.size) := by show _ ≤ _; simp
    have G0 := Lib.hid g0; have G1 := Lib.hid g1
    clear hf hs2 hs3 g0 g1 hA0 HA
    go_enter Tryz.func38, Tryz.ntmps38
    go_wp2_with fail
    refine HC.out.mono ?_
    clear HC
    generalize (w.alloc (.cells #[.slice A1 n1 c1, .slice A2 n2 c2, .slice A3 n3 c3] 27)).alloc (.cells #[.int .i64 3, .int .i64 fl, .int .i64 mi, .string ai, .int .i64 pe, .int .i64 s1, .int .i64 s2] 59) = W at *
    rintro e w1 ⟨rfl, hb1⟩
    have hw1 := HA1.out.trans (hb1.mono (by have := HZ.out; omega))
    have k0 : w1.heap[w.heap.size]? = _ := (hb1.block _ (by have := HZ.out; omega)).trans G0.out
    have k1 : w1.heap[w.heap.size + 1]? = _ := (hb1.block _ (by have := HZ.out; omega)).trans G1.out
    have y0 := fun j => block_cell k0 j
    have y1 := fun j => block_cell k1 j
    have z1 := y0 1; have z2 := y0 2; have z3 := y1 1; have z4 := y1 2; have z5 := y1 3
    obtain ⟨b, o, rfl, hbS, hfl⟩ := (HS.out w1 hw1).flight_at (k := fl.toNat) (by omega)
    have z6 : w1.cell? ⟨b, o + fl.toNat * 9 + 1, none⟩ = some (.string (t.flights.getD fl.toNat noFlight).src) := hfl 1 _ rfl
    generalize (t.flights.getD fl.toNat noFlight).src = src at *
    have HW1 := Lib.hid hw1
    clear k0 k1 y0 y1 hfl HS hb1 hw1 G0 G1
    rcases Bool.eq_false_or_eq_true (hasB (aCodes t.airports) ai) with hh | hh
    case inr =>
      rw [hh] at HR ⊢
      clear hh
      rw [if_pos rfl] at HR
      go_wp2_with fail
      go_ret
      exact ⟨by rw [HR.out]; rfl, HW1.out⟩
    case inl =>
      rw [hh] at HR ⊢
      clear hh
      rw [if_neg (by simp)] at HR
      have HSB := Lib.hid (str_beq ai src)
      by_cases he : ai = src
      · rw [if_pos he] at HR
        have hs : (ai.toList == src.toList) = true := by rw [HSB.out]; simpa using he
        clear he
        go_wp2_with fail
        go_quiet (fail)
        go_wp2_with fail
        go_ret
        exact ⟨by rw [HR.out]; rfl, below_drewN HW1.out _⟩
      · rw [if_neg he] at HR
        have hs : (ai.toList == src.toList) = false := by rw [HSB.out]; simpa using he
        clear he
        by_cases hm : mi < 0 ∨ 720 < mi
        · rw [if_pos hm] at HR
          have hm' : mi < 0 ∨ (¬ mi < 0 ∧ 720 < mi) := by omega
          clear hm
          rcases hm' with h | ⟨h, h'⟩
          all_goals
            go_wp2_with fail
            go_quiet (fail)
            go_wp2_with fail
            go_ret
            exact ⟨by rw [HR.out]; rfl, below_drewN HW1.out _⟩
        · rw [if_neg hm] at HR
          have h1 : ¬ mi < 0 := by omega
          have h2 : ¬ 720 < mi := by omega
          clear hm
          go_wp2_with fail
          go_quiet (fail)
          go_wp2_with fail
          go_ret
          exact ⟨by rw [HR.out]; rfl, below_drewN HW1.out _⟩
end Go.Proofs.YtifconapjfdkcaaGreatDoor
/-
  Contracts of slices.IndexFunc over flights with the closure of incident.parseLine, and of incident.parseLine.
  Condition: the fields read as a list of strings of no more than 20000 bytes; the timetable's flights are few.
-/
namespace Go.Proofs.YtifconapjfdkcaaGreatDoor
set_option linter.unusedSimpArgs false
set_option linter.unusedVariables false
open Go.RowKit

theorem flAt_none {l : List GFlight} {n : ByteArray} {d : Int} (h : ∀ j, j < l.length → ¬ ((l.getD j noFlight).number = n ∧ (l.getD j noFlight).dep = d)) : flAt l n d = none := by
  induction l with
  | nil => rfl
  | cons f l ih =>
    rw [flAt, if_neg (show ¬ (f.number = n ∧ f.dep = d) from h 0 (by simp)), ih fun j hj => by have := h (j + 1) (by simpa using hj); simpa using this]
    rfl
def flHit (l : List GFlight) (n : ByteArray) (d : Int) (i : Nat) : Bool := decide ((l.getD i noFlight).number = n) && decide ((l.getD i noFlight).dep = d)
theorem flAt_hit {l : List GFlight} {n : ByteArray} {d : Int} {k : Nat} (hk : k < l.length) (h : ∀ j, j < k → flHit l n d j = false) (hp : flHit l n d k = true) : flAt l n d = some k := by
  unfold flHit at hp h
  simp only [Bool.and_eq_true, decide_eq_true_eq] at hp
  obtain ⟨rfl, rfl⟩ := hp
  exact flAt_first hk fun j hj hc => by
    have := h j hj
    simp only [Bool.and_eq_false_iff, decide_eq_false_iff_not] at this
    rcases this with h1 | h1
    · exact h1 hc.1
    · exact h1 hc.2
set_option maxRecDepth 100000 in
theorem flIs_any (x : GFlight) (g3 g8 : Nat) (num : ByteArray) (dep : Int) (A : Option Addr) (n c fb o : Nat) (hA : A = some ⟨fb, o, none⟩) (w : World) (h3 : w.cell? ⟨g3, 0, none⟩ = some (.slice A n c)) (hn : 1 < n) (h1 : w.cell? ⟨fb, o + 1, none⟩ = some (.string num)) (h8 : w.cell? ⟨g8, 0, none⟩ = some (.int .i64 dep)) :
    Calls Tryz.prog 102 #[.agg #[.string x.number, .string x.src, .string x.dst, .int .i64 x.dep, .int .i64 x.arr, .string x.kind, .int .i64 x.n0, .int .i64 x.n1, .int .i64 x.n2], .pointer (some ⟨g3, 0, none⟩), .pointer (some ⟨g8, 0, none⟩)] w (BoolPost (decide (x.number = num) && decide (x.dep = dep)) w) := by
  subst hA
  have l3 : g3 < w.heap.size := World.block_lt_of_cell? w _ h3
  have l8 : g8 < w.heap.size := World.block_lt_of_cell? w _ h8
  have lf : fb < w.heap.size := World.block_lt_of_cell? w _ h1
  have k3 : (w.alloc (.cells #[.string x.number, .string x.src, .string x.dst, .int .i64 x.dep, .int .i64 x.arr, .string x.kind, .int .i64 x.n0, .int .i64 x.n1, .int .i64 x.n2] 62)).cell? ⟨g3, 0, none⟩ = some (.slice (some ⟨fb, o, none⟩) n c) := (World.cell?_alloc_past _ _ _ l3).trans h3
  have k8 : (w.alloc (.cells #[.string x.number, .string x.src, .string x.dst, .int .i64 x.dep, .int .i64 x.arr, .string x.kind, .int .i64 x.n0, .int .i64 x.n1, .int .i64 x.n2] 62)).cell? ⟨g8, 0, none⟩ = some (.int .i64 dep) := (World.cell?_alloc_past _ _ _ l8).trans h8
  have k1 : (w.alloc (.cells #[.string x.number, .string x.src, .string x.dst, .int .i64 x.dep, .int .i64 x.arr, .string x.kind, .int .i64 x.n0, .int .i64 x.n1, .int .i64 x.n2] 62)).cell? ⟨fb, o + 1, none⟩ = some (.string num) := (World.cell?_alloc_past _ _ _ lf).trans h1
  have hb := heap_alloc_new w (.cells #[.string x.number, .string x.src, .string x.dst, .int .i64 x.dep, .int .i64 x.arr, .string x.kind, .int .i64 x.n0, .int .i64 x.n1, .int .i64 x.n2] 62)
  have y0 := block_cell hb 0
  have y3 := block_cell hb 3
  have HA : Hid (Below w.heap.size w (w.alloc (.cells #[.string x.number, .string x.src, .string x.dst, .int .i64 x.dep, .int .i64 x.arr, .string x.kind, .int .i64 x.n0, .int .i64 x.n1, .int .i64 x.n2] 62))) := (Below.refl _ _).alloc (Nat.le_refl _) _
  have hn' : (1 : Int) < (n : Int) := by omega
  have HSB := Lib.hid (str_beq x.number num)
  clear hb h3 h8 h1 l3 l8 lf
  by_cases he : x.number = num
  · have hs : (x.number.toList == num.toList) = true := by rw [HSB.out]; simpa using he
    by_cases hd : x.dep = dep
    · have hs2 : (x.dep == dep) = true := by simpa using hd
      have HE : Hid ((decide (x.number = num) && decide (x.dep = dep)) = true) := by show _ = _; simp [he, hd]
      clear he hd
      go_enter Tryz.func102, Tryz.ntmps102
      go_upto_region 1 with (fail)
      generalize w.alloc (.cells #[.string x.number, .string x.src, .string x.dst, .int .i64 x.dep, .int .i64 x.arr, .string x.kind, .int .i64 x.n0, .int .i64 x.n1, .int .i64 x.n2] 62) = W at *
      go_quiet (fail)
      go_wp2_with fail
      go_ret
      exact ⟨by rw [HE.out]; rfl, below_drewN HA.out _⟩
    · have hs2 : (x.dep == dep) = false := by simpa using hd
      have HE : Hid ((decide (x.number = num) && decide (x.dep = dep)) = false) := by show _ = _; simp [he, hd]
      clear he hd
      go_enter Tryz.func102, Tryz.ntmps102
      go_upto_region 1 with (fail)
      generalize w.alloc (.cells #[.string x.number, .string x.src, .string x.dst, .int .i64 x.dep, .int .i64 x.arr, .string x.kind, .int .i64 x.n0, .int .i64 x.n1, .int .i64 x.n2] 62) = W at *
      go_quiet (fail)
      go_wp2_with fail
      go_ret
      exact ⟨by rw [HE.out]; rfl, below_drewN HA.out _⟩
  · have hs : (x.number.toList == num.toList) = false := by rw [HSB.out]; simpa using he
    have HE : Hid ((decide (x.number = num) && decide (x.dep = dep)) = false) := by show _ = _; simp [he]
    clear he
    go_enter Tryz.func102, Tryz.ntmps102
    go_upto_region 1 with (fail)
    generalize w.alloc (.cells #[.string x.number, .string x.src, .string x.dst, .int .i64 x.dep, .int .i64 x.arr, .string x.kind, .int .i64 x.n0, .int .i64 x.n1, .int .i64 x.n2] 62) = W at *
    go_quiet (fail)
    go_wp2_with fail
    go_ret
    exact ⟨by rw [HE.out]; rfl, below_drewN HA.out _⟩
set_option maxRecDepth 100000 in
theorem indexFl_any (l : List GFlight) (A : Option Addr) (n c g3 g8 : Nat) (num : ByteArray) (dep : Int) (w : World) (hs : Sl Ty.flight w (all_ w) A n c l) (A' : Option Addr) (n' c' fb o : Nat) (hA : A' = some ⟨fb, o, none⟩) (h3 : w.cell? ⟨g3, 0, none⟩ = some (.slice A' n' c')) (hn : 1 < n') (h1 : w.cell? ⟨fb, o + 1, none⟩ = some (.string num)) (h8 : w.cell? ⟨g8, 0, none⟩ = some (.int .i64 dep)) :
    Calls Tryz.prog 101 #[.slice A n c, .func (.func 102) #[] #[.pointer (some ⟨g3, 0, none⟩), .pointer (some ⟨g8, 0, none⟩)]] w (IxPost (ixOpt (flAt l num dep)) w) := by
  have hn1 : n ≤ l.length := Nat.le_of_eq hs.len
  have hn2 : l.length ≤ n := Nat.le_of_eq hs.len.symm
  have hle := hs.le
  unfold maxLen at hle
  have HS := Lib.hid hs
  have HCL : Hid (∀ (x : GFlight) (V : World), Below w.heap.size w V → Calls Tryz.prog 102 #[.agg #[.string x.number, .string x.src, .string x.dst, .int .i64 x.dep, .int .i64 x.arr, .string x.kind, .int .i64 x.n0, .int .i64 x.n1, .int .i64 x.n2], .pointer (some ⟨g3, 0, none⟩), .pointer (some ⟨g8, 0, none⟩)] V (BoolPost (decide (x.number = num) && decide (x.dep = dep)) V)) := fun x V hV => flIs_any x g3 g8 num dep A' n' c' fb o hA V (cell_kept h3 hV) hn (cell_kept h1 hV) (cell_kept h8 hV)
  clear hs h3 h1 h8 hA hn
  go_enter Tryz.func101, Tryz.ntmps101
  go_wp2_with fail
  go_loopw [5, 8] (fun _ s wr => ∃ k : Nat, k ≤ n ∧ s = .int .i64 k ∧ Below w.heap.size w wr ∧ Hid (∀ j, j < k → flHit l num dep j = false)) (fun _ s _ => n - (intOf s).toNat)
  case atStart => exact ⟨0, Nat.zero_le _, rfl, Below.refl _ _, fun j hj => absurd hj (by omega)⟩
  case round =>
    obtain ⟨k, hk, rfl, hbr, HK⟩ := hrel
    by_cases hlt : k < n
    · have hks : k < l.length := by omega
      obtain ⟨b, o2, rfl, hbS, hat⟩ := (HS.out.keep (all_keep hbr)).flight_at hks
      have y0 : wr.cell? ⟨b, o2 + k * 9, none⟩ = some (.string (l.getD k noFlight).number) := hat 0 _ rfl
      have y1 := hat 1 _ rfl; have y2 := hat 2 _ rfl; have y3 := hat 3 _ rfl; have y4 := hat 4 _ rfl; have y5 := hat 5 _ rfl; have y6 := hat 6 _ rfl; have y7 := hat 7 _ rfl; have y8 := hat 8 _ rfl
      have HAH : Hid (flHit l num dep k = (decide ((l.getD k noFlight).number = num) && decide ((l.getD k noFlight).dep = dep))) := rfl
      generalize l.getD k noFlight = a at *
      have HC := Lib.hid (HCL.out a wr hbr)
      clear hat
      go_wp2_with fail
      refine HC.out.mono ?_
      rintro e w1 ⟨rfl, hb1⟩
      clear HC y0 y1 y2 y3 y4 y5 y6 y7 y8
      have hw1 : Below w.heap.size w w1 := hbr.trans (hb1.mono hbr.size)
      rw [← HAH.out]
      rcases Bool.eq_false_or_eq_true (flHit l num dep k) with hh | hh
      · have HF : Hid (ixOpt (flAt l num dep) = (k : Int)) := by show _ = _; rw [flAt_hit hks HK.out hh]; rfl
        rw [hh]
        clear hh
        go_wp2_with fail
        go_ret
        exact ⟨by rw [HF.out]; rfl, hw1⟩
      · have HM : Hid (∀ j, j < k + 1 → flHit l num dep j = false) := fun j hj => by
          rcases Nat.lt_or_eq_of_le (Nat.le_of_lt_succ hj) with h1 | rfl
          · exact HK.out j h1
          · exact hh
        rw [hh]
        clear hh
        go_wp2_with fail
        go_roundw
        case rel => exact ⟨k + 1, by omega, by go_num, hw1, HM⟩
        case measure => simp [intOf]; omega
    · have HF : Hid (ixOpt (flAt l num dep) = -1) := by
        show _ = _
        rw [flAt_none (fun j hj hc => by
          have h9 := HK.out j (by omega)
          rw [show flHit l num dep j = true by unfold flHit; rw [decide_eq_true hc.1, decide_eq_true hc.2]; rfl] at h9
          cases h9)]
        rfl
      go_wp2_with fail
      go_ret
      exact ⟨by rw [HF.out]; rfl, hbr⟩
theorem eq_delay (a : ByteArray) : (a.toList == [100, 101, 108, 97, 121]) = decide (a = delayS) := by
  rw [← str_beq, ByteArray.toList_eq delayS]; rfl
theorem eq_cancel (a : ByteArray) : (a.toList == [99, 97, 110, 99, 101, 108]) = decide (a = cancelS) := by
  rw [← str_beq, ByteArray.toList_eq cancelS]; rfl
theorem eq_divert (a : ByteArray) : (a.toList == [100, 105, 118, 101, 114, 116]) = decide (a = divertS) := by
  rw [← str_beq, ByteArray.toList_eq divertS]; rfl
theorem eq_sick (a : ByteArray) : (a.toList == [115, 105, 99, 107]) = decide (a = sickS) := by
  rw [← str_beq, ByteArray.toList_eq sickS]; rfl
theorem inc_info : (Tryz.prog.info? 59).map (·.size) = some 7 := by kernel_rfl
theorem inc_built : (Tryz.prog.built 59 []) = some #[.int .i64 0, .int .i64 0, .int .i64 0, .string ⟨#[]⟩, .int .i64 0, .int .i64 0, .int .i64 0] := by kernel_rfl
section
variable {ops : Array Oper} {rest : List Oper} {oo : Oper} {a : Act} {Q : Exit → Act → World → Prop} {w w' : World}
theorem wpList_zero (hgd : oo.guard = none) (ho : oo.op = .build 59 #[]) (h : wpList Tryz.prog ops Q rest (a.put oo.dst (.agg #[.int .i64 0, .int .i64 0, .int .i64 0, .string ⟨#[]⟩, .int .i64 0, .int .i64 0, .int .i64 0])) w) : wpList Tryz.prog ops Q (oo :: rest) a w :=
  wpList_build hgd _ _ ho (by simp [inc_built]) (by simpa [inc_built] using h)
theorem below_alloc_drew {o : Obj} (h : Below (w.alloc o).drew.heap.size (w.alloc o).drew w') : Below w.heap.size w w' := (below_drewN ((Below.refl w.heap.size w).alloc (Nat.le_refl _) o) 1).trans (h.mono (by simp [World.drew]))
theorem cell_new_set {T : TypeId} {x y : Value} : ((w.alloc (.cells #[x] T (0, 0))).setCell ⟨w.heap.size, 0, none⟩ y).cell? ⟨w.heap.size, 0, none⟩ = some y :=
  World.cell?_setCell_same (w.alloc (.cells #[x] T (0, 0))) ⟨w.heap.size, 0, none⟩ y (u := x) (block_cell (heap_alloc_new _ _) 0)
theorem cell_old_set {b : Nat} {x y : Value} (h : w.cell? ⟨b, 0, none⟩ = #[x][0]?) : (w.setCell ⟨b, 0, none⟩ y).cell? ⟨b, 0, none⟩ = some y :=
  World.cell?_setCell_same w ⟨b, 0, none⟩ y (u := x) h
theorem below_setRow {n b : Nat} {cs : Array Value} (h : Below n w w') (hb : n ≤ b) : Below n w (w'.setRow b cs) :=
  ⟨h.os, h.tape, h.output, by simpa using h.size, fun q hq => (setRow_other _ _ _ _ (by omega)).trans (h.block q hq)⟩
end
def onFl2 (t : GTT) (n : ByteArray) (d : Int) (x : Nat → GInc) : GInc × Int := match flAt t.flights n d with
  | some i => (x i, 0)
  | none => (noInc, 6)
set_option maxRecDepth 100000 in
set_option maxHeartbeats 12800000 in
theorem incLine_any (t : GTT) (f : List ByteArray) (A1 A2 A3 A : Option Addr) (n1 n2 n3 n c1 c2 c3 c : Nat) (w : World) (hs3 : Sl Ty.flight w (all_ w) A3 n3 c3 t.flights) (hf : Sl Ty.str w (all_ w) A n c f) (h1 : 1 ≤ f.length) (hz : ∀ x ∈ f, x.size ≤ 20000) :
    Calls Tryz.prog 62 #[.agg #[.slice A1 n1 c1, .slice A2 n2 c2, .slice A3 n3 c3], .slice A n c] w (LinPost (lineI t f) w) := by
  have hn := hf.len
  have hnl := hf.le
  unfold maxLen at hnl
  subst hn
  obtain ⟨fb, o, rfl, hSb, hcells⟩ := str_cells hf (by omega)
  have HC : Hid (∀ V, Below w.heap.size w V → ∀ k, k < f.length → V.cell? ⟨fb, o + k, none⟩ = some (.string (f.getD k noStr))) := fun V hV k hk => cell_kept (hcells k (by omega)) hV
  have HFS : Hid (∀ V, Below w.heap.size w V → Sl Ty.str V (all_ V) (some ⟨fb, o, none⟩) f.length c f) := fun V hV => hf.next hV
  have HS3 : Hid (∀ V, Below w.heap.size w V → Sl Ty.flight V (all_ V) A3 n3 c3 t.flights) := fun V hV => hs3.next hV
  have HFZ := Lib.hid hz
  have z1 := fld_sz (i := 1) hz; have z2 := fld_sz (i := 2) hz; have z3 := fld_sz (i := 3) hz; have z4 := fld_sz (i := 4) hz; have z5 := fld_sz (i := 5) hz
  have HQL : Hid (lineI t f = if f.getD 0 noStr = delayS then
      (if f.length ≠ 5 ∨ (insB (f.getD 2 noStr ++ spS ++ f.getD 3 noStr)).2 ≠ 0 ∨ (parseB (f.getD 4 noStr)).2 ≠ 0 then (noInc, 1) else onFl2 t (f.getD 1 noStr) (insB (f.getD 2 noStr ++ spS ++ f.getD 3 noStr)).1 fun i => ⟨1, i, (parseB (f.getD 4 noStr)).1, noStr, 0, noShift⟩)
    else if f.getD 0 noStr = cancelS then
      (if f.length ≠ 4 ∨ (insB (f.getD 2 noStr ++ spS ++ f.getD 3 noStr)).2 ≠ 0 then (noInc, 1) else onFl2 t (f.getD 1 noStr) (insB (f.getD 2 noStr ++ spS ++ f.getD 3 noStr)).1 fun i => ⟨2, i, 0, noStr, 0, noShift⟩)
    else if f.getD 0 noStr = divertS then
      (if f.length ≠ 6 ∨ (insB (f.getD 2 noStr ++ spS ++ f.getD 3 noStr)).2 ≠ 0 ∨ (parseB (f.getD 5 noStr)).2 ≠ 0 then (noInc, 1) else onFl2 t (f.getD 1 noStr) (insB (f.getD 2 noStr ++ spS ++ f.getD 3 noStr)).1 fun i => ⟨3, i, (parseB (f.getD 5 noStr)).1, f.getD 4 noStr, 0, noShift⟩)
    else if f.getD 0 noStr = sickS then (if f.length ≠ 6 then (noInc, 1) else sickL f) else (noInc, 1)) := by
    show _ = _
    have e : (if f.length ≠ 6 ∨ (parseB (f.getD 1 noStr)).2 ≠ 0 ∨ (insI f 2).2 ≠ 0 ∨ (insI f 4).2 ≠ 0 then (noInc, (1 : Int)) else (⟨4, 0, 0, noStr, (parseB (f.getD 1 noStr)).1, ⟨(insI f 2).1, (insI f 4).1 + 1⟩⟩, 0)) = if f.length ≠ 6 then (noInc, 1) else sickL f := by
      unfold sickL
      by_cases h : f.length ≠ 6
      · rw [if_pos h, if_pos (.inl h)]
      · rw [if_neg h]
        by_cases h2 : (parseB (f.getD 1 noStr)).2 ≠ 0 ∨ (insI f 2).2 ≠ 0 ∨ (insI f 4).2 ≠ 0
        · rw [if_pos h2, if_pos (.inr h2)]
        · rw [if_neg h2, if_neg (fun h3 => h3.elim h h2)]
    rw [← e]
    rfl
  obtain ⟨za, qa1, qa2, qa3⟩ := size_sp z2 z3
  have hfb : fb < w.heap.size := hSb
  have HA : Hid (Below w.heap.size w ((((w.alloc (.cells #[.slice A1 n1 c1, .slice A2 n2 c2, .slice A3 n3 c3] 27)).alloc (.cells #[.slice (some ⟨fb, o, none⟩) f.length c] 36)).alloc (.cells #[.int .i64 0, .int .i64 0, .int .i64 0, .string ⟨#[]⟩, .int .i64 0, .int .i64 0, .int .i64 0] 59)).alloc (.cells #[.int .i64 0, .int .i64 0, .int .i64 0, .string ⟨#[]⟩, .int .i64 0, .int .i64 0, .int .i64 0] 59))) := ((((Below.refl w.heap.size w).alloc (Nat.le_refl _) _).alloc (by simp) _).alloc (by simp <;> omega) _).alloc (by simp <;> omega) _
  have HT : Hid (((((w.alloc (.cells #[.slice A1 n1 c1, .slice A2 n2 c2, .slice A3 n3 c3] 27)).alloc (.cells #[.slice (some ⟨fb, o, none⟩) f.length c] 36)).alloc (.cells #[.int .i64 0, .int .i64 0, .int .i64 0, .string ⟨#[]⟩, .int .i64 0, .int .i64 0, .int .i64 0] 59)).alloc (.cells #[.int .i64 0, .int .i64 0, .int .i64 0, .string ⟨#[]⟩, .int .i64 0, .int .i64 0, .int .i64 0] 59)).heap[w.heap.size]? = some (.cells #[.slice A1 n1 c1, .slice A2 n2 c2, .slice A3 n3 c3] 27 (0, 0))) := by
    show _ = _
    rw [Below.heap_alloc _ _ _ (by simp <;> omega), Below.heap_alloc _ _ _ (by simp <;> omega), Below.heap_alloc _ _ _ (by simp), heap_alloc_new]
  have HF : Hid (((((w.alloc (.cells #[.slice A1 n1 c1, .slice A2 n2 c2, .slice A3 n3 c3] 27)).alloc (.cells #[.slice (some ⟨fb, o, none⟩) f.length c] 36)).alloc (.cells #[.int .i64 0, .int .i64 0, .int .i64 0, .string ⟨#[]⟩, .int .i64 0, .int .i64 0, .int .i64 0] 59)).alloc (.cells #[.int .i64 0, .int .i64 0, .int .i64 0, .string ⟨#[]⟩, .int .i64 0, .int .i64 0, .int .i64 0] 59)).heap[w.heap.size + 1]? = some (.cells #[.slice (some ⟨fb, o, none⟩) f.length c] 36 (0, 0))) := by
    show _ = _
    rw [Below.heap_alloc _ _ _ (by simp <;> omega), Below.heap_alloc _ _ _ (by simp)]
    exact heap_alloc2_new _ _ _
  have HR : Hid (((((w.alloc (.cells #[.slice A1 n1 c1, .slice A2 n2 c2, .slice A3 n3 c3] 27)).alloc (.cells #[.slice (some ⟨fb, o, none⟩) f.length c] 36)).alloc (.cells #[.int .i64 0, .int .i64 0, .int .i64 0, .string ⟨#[]⟩, .int .i64 0, .int .i64 0, .int .i64 0] 59)).alloc (.cells #[.int .i64 0, .int .i64 0, .int .i64 0, .string ⟨#[]⟩, .int .i64 0, .int .i64 0, .int .i64 0] 59)).heap[w.heap.size + 1 + 1]? = some (.cells #[.int .i64 0, .int .i64 0, .int .i64 0, .string ⟨#[]⟩, .int .i64 0, .int .i64 0, .int .i64 0] 59 (0, 0))) := by
    show _ = _
    rw [Below.heap_alloc _ _ _ (by simp)]
    have := heap_alloc_new ((w.alloc (.cells #[.slice A1 n1 c1, .slice A2 n2 c2, .slice A3 n3 c3] 27)).alloc (.cells #[.slice (some ⟨fb, o, none⟩) f.length c] 36)) (.cells #[.int .i64 0, .int .i64 0, .int .i64 0, .string ⟨#[]⟩, .int .i64 0, .int .i64 0, .int .i64 0] 59)
    simpa using this
  have HX : Hid (((((w.alloc (.cells #[.slice A1 n1 c1, .slice A2 n2 c2, .slice A3 n3 c3] 27)).alloc (.cells #[.slice (some ⟨fb, o, none⟩) f.length c] 36)).alloc (.cells #[.int .i64 0, .int .i64 0, .int .i64 0, .string ⟨#[]⟩, .int .i64 0, .int .i64 0, .int .i64 0] 59)).alloc (.cells #[.int .i64 0, .int .i64 0, .int .i64 0, .string ⟨#[]⟩, .int .i64 0, .int .i64 0, .int .i64 0] 59)).heap[w.heap.size + 1 + 1 + 1]? = some (.cells #[.int .i64 0, .int .i64 0, .int .i64 0, .string ⟨#[]⟩, .int .i64 0, .int .i64 0, .int .i64 0] 59 (0, 0))) := by
    show _ = _
    have := heap_alloc_new (((w.alloc (.cells #[.slice A1 n1 c1, .slice A2 n2 c2, .slice A3 n3 c3] 27)).alloc (.cells #[.slice (some ⟨fb, o, none⟩) f.length c] 36)).alloc (.cells #[.int .i64 0, .int .i64 0, .int .i64 0, .string ⟨#[]⟩, .int .i64 0, .int .i64 0, .int .i64 0] 59)) (.cells #[.int .i64 0, .int .i64 0, .int .i64 0, .string ⟨#[]⟩, .int .i64 0, .int .i64 0, .int .i64 0] 59)
    simpa using this
  have HZ : Hid (w.heap.size + 4 ≤ ((((w.alloc (.cells #[.slice A1 n1 c1, .slice A2 n2 c2, .slice A3 n3 c3] 27)).alloc (.cells #[.slice (some ⟨fb, o, none⟩) f.length c] 36)).alloc (.cells #[.int .i64 0, .int .i64 0, .int .i64 0, .string ⟨#[]⟩, .int .i64 0, .int .i64 0, .int .i64 0] 59)).alloc (.cells #[.int .i64 0, .int .i64 0, .int .i64 0, .string ⟨#[]⟩, .int .i64 0, .int .i64 0, .int .i64 0] 59)).heap.size) := by show _ ≤ _; simp
  clear hcells hz hf hs3 hSb
  generalize lineI t f = R at *
  have HC0 : Hid (f.getD 0 noStr = f.getD 0 noStr) := rfl
  clear HC0
  have HC : Hid (∀ V, Below w.heap.size w V → ∀ k, k < f.length → V.cell? ⟨fb, o + k, none⟩ = some (.string ([f.getD 0 noStr, f.getD 1 noStr, f.getD 2 noStr, f.getD 3 noStr, f.getD 4 noStr, f.getD 5 noStr].getD k (f.getD k noStr)))) := fun V hV k hk => by
    rw [HC.out V hV k hk]
    have : k = 0 ∨ k = 1 ∨ k = 2 ∨ k = 3 ∨ k = 4 ∨ k = 5 ∨ 6 ≤ k := by omega
    rcases this with rfl | rfl | rfl | rfl | rfl | rfl | h
    all_goals first | rfl | (rw [List.getD_eq_getElem?_getD (l := [_, _, _, _, _, _]), List.getElem?_eq_none (by simpa using h)]; rfl)
  have edelay := eq_delay (f.getD 0 noStr); have ecancel := eq_cancel (f.getD 0 noStr); have edivert := eq_divert (f.getD 0 noStr); have esick := eq_sick (f.getD 0 noStr)
  generalize f.getD 0 noStr = f0 at *
  generalize f.getD 1 noStr = f1 at *
  generalize f.getD 2 noStr = f2 at *
  generalize f.getD 3 noStr = f3 at *
  generalize f.getD 4 noStr = f4 at *
  generalize f.getD 5 noStr = f5 at *
  by_cases hw : f0 = delayS
  · as_aux_lemma =>
      rw [decide_eq_true hw] at edelay
      clear ecancel edivert esick
      have HQ : Hid (R = if f.length ≠ 5 ∨ (insB (f2 ++ spS ++ f3)).2 ≠ 0 ∨ (parseB f4).2 ≠ 0 then (noInc, 1) else onFl2 t f1 (insB (f2 ++ spS ++ f3)).1 fun i => ⟨1, i, (parseB f4).1, noStr, 0, noShift⟩) := by show _ = _; rw [HQL.out]; rw [if_pos hw]
      clear HQL hw
      have HC1 : Hid (∀ V : World, Calls Tryz.prog 99 #[.string (f2 ++ spS ++ f3)] V (NumPost (insB (f2 ++ spS ++ f3)) V)) := fun V => parseInstant_any _ V za
      have hx1 := insB_bd (f2 ++ spS ++ f3)
      unfold NumPost at HC1
      generalize insB (f2 ++ spS ++ f3) = a1 at *
      obtain ⟨x1, er1⟩ := a1
      simp only at HC1 HQ hx1
      have HNF : Hid (∀ V : World, Calls Tryz.prog 100 #[.string f4] V (ParsePost f4 V)) := fun V => parseInt_any _ V (by unfold maxLen; omega)
      unfold ParsePost at HNF
      generalize parseB f4 = a2 at *
      obtain ⟨m4, er2⟩ := a2
      simp only at HNF HQ
      clear za z1 z2 z3 z4 z5
      by_cases hl : f.length = 5
      case neg =>
        have hl' : ((f.length : Int) != 5) = true := by simp; omega
        clear HC1 HNF
        go_enter Tryz.func62, Tryz.ntmps62
        go_upto_region 3 with (fail)
        generalize ((((w.alloc (.cells #[.slice A1 n1 c1, .slice A2 n2 c2, .slice A3 n3 c3] 27)).alloc (.cells #[.slice (some ⟨fb, o, none⟩) f.length c] 36)).alloc (.cells #[.int .i64 0, .int .i64 0, .int .i64 0, .string ⟨#[]⟩, .int .i64 0, .int .i64 0, .int .i64 0] 59)).alloc (.cells #[.int .i64 0, .int .i64 0, .int .i64 0, .string ⟨#[]⟩, .int .i64 0, .int .i64 0, .int .i64 0] 59)) = W at *
        generalize hbx : w.heap.size + 1 + 1 + 1 = bx at *
        generalize hbr : w.heap.size + 1 + 1 = br at *
        generalize hbf : w.heap.size + 1 = bf at *
        have hx := HX.out
        have z0 := block_cell hx 0; have f0' := block_free hx 0
        have q0 : W.cell? ⟨bf, 0, none⟩ = some (.slice (some ⟨fb, o, none⟩) f.length c) := block_cell HF.out 0
        have c0 : W.cell? ⟨fb, o, none⟩ = some (.string f0) := HC.out W HA.out 0 (by omega)
        go_upto_region 12 with (fail)
        have HX1 : Hid ((W.setCell ⟨bx, 0, none⟩ (.int .i64 1)).heap[bx]? = some (.cells #[.int .i64 1, .int .i64 0, .int .i64 0, .string ⟨#[]⟩, .int .i64 0, .int .i64 0, .int .i64 0] 59 (0, 0))) := heap_setCell_same _ _ _ _ _ _ hx
        have HT1 : Hid ((W.setCell ⟨bx, 0, none⟩ (.int .i64 1)).heap[w.heap.size]? = _) := (heap_setCell_other _ _ _ _ (by dsimp only; omega)).trans HT.out
        have HF1 : Hid ((W.setCell ⟨bx, 0, none⟩ (.int .i64 1)).heap[bf]? = _) := (heap_setCell_other _ _ _ _ (by dsimp only; omega)).trans HF.out
        have HR1 : Hid ((W.setCell ⟨bx, 0, none⟩ (.int .i64 1)).heap[br]? = _) := (heap_setCell_other _ _ _ _ (by dsimp only; omega)).trans HR.out
        have HA1 : Hid (Below w.heap.size w (W.setCell ⟨bx, 0, none⟩ (.int .i64 1))) := HA.out.setCell (by dsimp only; omega) _
        have hz1 : w.heap.size + 4 ≤ (W.setCell ⟨bx, 0, none⟩ (.int .i64 1)).heap.size := by simp; exact HZ.out
        generalize W.setCell ⟨bx, 0, none⟩ (.int .i64 1) = W1 at *
        have q1 : W1.cell? ⟨bf, 0, none⟩ = some (.slice (some ⟨fb, o, none⟩) f.length c) := block_cell HF1.out 0
        clear hx z0 f0' q0 c0 HX HT HF HR HA HZ
        have HRR : Hid (R = (noInc, 1)) := by show _ = _; rw [HQ.out, if_pos (.inl hl)]
        clear hl
        go_upto_region 13 with (fail)
        refine wp_region_lit ?_
        refine wpList_zero rfl rfl ?_
        refine wpList_store_row rfl _ _ _ rfl br #[.int .i64 0, .int .i64 0, .int .i64 0, .string ⟨#[]⟩, .int .i64 0, .int .i64 0, .int .i64 0] (by simp [Act.eval, Act.put]) (by simp [Act.eval, Act.put]) _ _ HR1.out inc_info rfl (by simp [Value.oneCell']) ?_
        have hr := setRow_heap _ _ _ #[.int .i64 0, .int .i64 0, .int .i64 0, .string ⟨#[]⟩, .int .i64 0, .int .i64 0, .int .i64 0] _ _ HR1.out
        have u0 := block_cell hr 0; have u1 := block_cell hr 1; have u2 := block_cell hr 2; have u3 := block_cell hr 3; have u4 := block_cell hr 4; have u5 := block_cell hr 5; have u6 := block_cell hr 6
        have HAE := Lib.hid (below_setRow HA1.out (b := br) (cs := #[.int .i64 0, .int .i64 0, .int .i64 0, .string ⟨#[]⟩, .int .i64 0, .int .i64 0, .int .i64 0]) (by omega))
        clear hr
        go_wp2_with fail
        refine bodyPost_ret (v := .tuple #[.agg #[.int .i64 0, .int .i64 0, .int .i64 0, .string ⟨#[]⟩, .int .i64 0, .int .i64 0, .int .i64 0], .int .i64 1]) (by simp [results, Tryz.results62, go_sem, u0, u1, u2, u3, u4, u5, u6]) rfl ?_
        rw [HRR.out]
        exact ⟨rfl, HAE.out⟩
      have hl' : ((f.length : Int) != 5) = false := by simp; omega
      have hge : 5 ≤ f.length := by omega
      rw [hl] at HQ
      simp only [ne_eq, not_true_eq_false, false_or] at HQ
      clear hl
      go_enter Tryz.func62, Tryz.ntmps62
      go_upto_region 3 with (fail)
      generalize ((((w.alloc (.cells #[.slice A1 n1 c1, .slice A2 n2 c2, .slice A3 n3 c3] 27)).alloc (.cells #[.slice (some ⟨fb, o, none⟩) f.length c] 36)).alloc (.cells #[.int .i64 0, .int .i64 0, .int .i64 0, .string ⟨#[]⟩, .int .i64 0, .int .i64 0, .int .i64 0] 59)).alloc (.cells #[.int .i64 0, .int .i64 0, .int .i64 0, .string ⟨#[]⟩, .int .i64 0, .int .i64 0, .int .i64 0] 59)) = W at *
      generalize hbx : w.heap.size + 1 + 1 + 1 = bx at *
      generalize hbr : w.heap.size + 1 + 1 = br at *
      generalize hbf : w.heap.size + 1 = bf at *
      have hx := HX.out
      have z0 := block_cell hx 0; have f0' := block_free hx 0
      have q0 : W.cell? ⟨bf, 0, none⟩ = some (.slice (some ⟨fb, o, none⟩) f.length c) := block_cell HF.out 0
      have c0 : W.cell? ⟨fb, o, none⟩ = some (.string f0) := HC.out W HA.out 0 (by omega)
      go_upto_region 12 with (fail)
      have HX1 : Hid ((W.setCell ⟨bx, 0, none⟩ (.int .i64 1)).heap[bx]? = some (.cells #[.int .i64 1, .int .i64 0, .int .i64 0, .string ⟨#[]⟩, .int .i64 0, .int .i64 0, .int .i64 0] 59 (0, 0))) := heap_setCell_same _ _ _ _ _ _ hx
      have HT1 : Hid ((W.setCell ⟨bx, 0, none⟩ (.int .i64 1)).heap[w.heap.size]? = _) := (heap_setCell_other _ _ _ _ (by dsimp only; omega)).trans HT.out
      have HF1 : Hid ((W.setCell ⟨bx, 0, none⟩ (.int .i64 1)).heap[bf]? = _) := (heap_setCell_other _ _ _ _ (by dsimp only; omega)).trans HF.out
      have HR1 : Hid ((W.setCell ⟨bx, 0, none⟩ (.int .i64 1)).heap[br]? = _) := (heap_setCell_other _ _ _ _ (by dsimp only; omega)).trans HR.out
      have HA1 : Hid (Below w.heap.size w (W.setCell ⟨bx, 0, none⟩ (.int .i64 1))) := HA.out.setCell (by dsimp only; omega) _
      have hz1 : w.heap.size + 4 ≤ (W.setCell ⟨bx, 0, none⟩ (.int .i64 1)).heap.size := by simp; exact HZ.out
      generalize W.setCell ⟨bx, 0, none⟩ (.int .i64 1) = W1 at *
      have q1 : W1.cell? ⟨bf, 0, none⟩ = some (.slice (some ⟨fb, o, none⟩) f.length c) := block_cell HF1.out 0
      clear hx z0 f0' q0 c0 HX HT HF HR HA HZ
      have c2 : W1.cell? ⟨fb, o + 2, none⟩ = some (.string f2) := HC.out W1 HA1.out 2 (by omega)
      have c3' : W1.cell? ⟨fb, o + 3, none⟩ = some (.string f3) := HC.out W1 HA1.out 3 (by omega)
      have z0 : W1.cell? ⟨bx, 0, none⟩ = some (.int .i64 1) := block_cell HX1.out 0
      have c2a : ∀ oo, (W1.alloc oo).cell? ⟨fb, o + 2, none⟩ = some (.string f2) := fun oo => (World.cell?_alloc_past _ _ _ (show fb < _ by omega)).trans c2
      have c3a : ∀ oo, (W1.alloc oo).cell? ⟨fb, o + 3, none⟩ = some (.string f3) := fun oo => (World.cell?_alloc_past _ _ _ (show fb < _ by omega)).trans c3'
      have q1a : ∀ oo, (W1.alloc oo).cell? ⟨bf, 0, none⟩ = some (.slice (some ⟨fb, o, none⟩) f.length c) := fun oo => (World.cell?_alloc_past _ _ _ (show bf < _ by omega)).trans q1
      have j2 : (2 : Int) < (f.length : Int) := by omega
      have j3 : (3 : Int) < (f.length : Int) := by omega
      go_upto_region 16 with (fail)
      go_cut [8, 9] (fun a b wx => ∃ g8, a = .pointer (some ⟨g8, 0, none⟩) ∧ b = .int .i64 er1 ∧ wx.cell? ⟨g8, 0, none⟩ = some (.int .i64 x1) ∧ W1.heap.size ≤ g8 ∧ Below W1.heap.size W1 wx)
      case first =>
        go_region_law (first
          | (go_simp; go_at_call 99; refine (HC1.out _).mono ?_; rintro e w1 ⟨rfl, hb1⟩; try (have hq := (hb1.block W1.heap.size (by simp)).trans (heap_alloc_new _ _); have hqc := block_cell hq 0; have hqf := block_free hq 0))
          | fail)
        all_goals
          go_wp2_with fail
          go_meet
          first
          | (have hbz : Below W1.heap.size W1 w1 := ⟨hb1.os, hb1.tape, hb1.output, hb1.size, hb1.block⟩
             exact ⟨_, rfl, rfl, cell_new_set, hbz.size, (hbz.alloc hbz.size _).setCell (by exact hbz.size) _⟩)
          | exact ⟨_, rfl, rfl, cell_old_set hqc, Nat.le_refl _, (below_alloc_drew hb1).setCell (by exact Nat.le_refl _) _⟩
          | (have hbz : Below W1.heap.size W1 w1 := ⟨hb1.os, hb1.tape, hb1.output, hb1.size, hb1.block⟩
             exact ⟨_, rfl, rfl, block_cell (heap_alloc_new _ _) 0, hbz.size, hbz.alloc hbz.size _⟩)
      case rest =>
      obtain ⟨g8, rfl, rfl, hg8, hgn, hb1⟩ := hcut
      replace hgn : w.heap.size + 4 ≤ g8 := by omega
      obtain ⟨V, rfl⟩ : ∃ x : World, x = wc := ⟨_, rfl⟩
      have HAV : Hid (Below w.heap.size w V) := HA1.out.trans (hb1.mono (by omega))
      have HTV : Hid (V.heap[w.heap.size]? = _) := (hb1.block _ (by omega)).trans HT1.out
      have HFV : Hid (V.heap[bf]? = _) := (hb1.block _ (by omega)).trans HF1.out
      have HRV : Hid (V.heap[br]? = _) := (hb1.block _ (by omega)).trans HR1.out
      have HXV : Hid (V.heap[bx]? = _) := (hb1.block _ (by omega)).trans HX1.out
      have HGV := Lib.hid hg8
      have HS3V := Lib.hid (HS3.out V HAV.out)
      have hzv : w.heap.size + 4 ≤ V.heap.size := by have := hb1.size; omega
      clear c2 c3' c2a c3a q1a z0 q1 hb1 hg8 HC1 HA1 HT1 HF1 HR1 HX1 hz1
      by_cases he1 : er1 = 0
      case neg =>
        have h0' : (er1 == 0) = false := by simpa using he1
        clear HNF
        have HRR : Hid (R = (noInc, 1)) := by show _ = _; rw [HQ.out, if_pos (.inl he1)]
        clear he1
        go_upto_region 18 with (fail)
        refine wp_region_lit ?_
        refine wpList_zero rfl rfl ?_
        refine wpList_store_row rfl _ _ _ rfl br #[.int .i64 0, .int .i64 0, .int .i64 0, .string ⟨#[]⟩, .int .i64 0, .int .i64 0, .int .i64 0] (by simp [Act.eval, Act.put]) (by simp [Act.eval, Act.put]) _ _ HRV.out inc_info rfl (by simp [Value.oneCell']) ?_
        have hr := setRow_heap _ _ _ #[.int .i64 0, .int .i64 0, .int .i64 0, .string ⟨#[]⟩, .int .i64 0, .int .i64 0, .int .i64 0] _ _ HRV.out
        have u0 := block_cell hr 0; have u1 := block_cell hr 1; have u2 := block_cell hr 2; have u3 := block_cell hr 3; have u4 := block_cell hr 4; have u5 := block_cell hr 5; have u6 := block_cell hr 6
        have HAE := Lib.hid (below_setRow HAV.out (b := br) (cs := #[.int .i64 0, .int .i64 0, .int .i64 0, .string ⟨#[]⟩, .int .i64 0, .int .i64 0, .int .i64 0]) (by omega))
        clear hr
        go_wp2_with fail
        refine bodyPost_ret (v := .tuple #[.agg #[.int .i64 0, .int .i64 0, .int .i64 0, .string ⟨#[]⟩, .int .i64 0, .int .i64 0, .int .i64 0], .int .i64 1]) (by simp [results, Tryz.results62, go_sem, u0, u1, u2, u3, u4, u5, u6]) rfl ?_
        rw [HRR.out]
        exact ⟨rfl, HAE.out⟩
      subst he1
      have q1 : V.cell? ⟨bf, 0, none⟩ = some (.slice (some ⟨fb, o, none⟩) f.length c) := block_cell HFV.out 0
      have c5' : V.cell? ⟨fb, o + 4, none⟩ = some (.string f4) := HC.out V HAV.out 4 (by omega)
      have hxv := HXV.out
      have z0 : V.cell? ⟨bx, 0, none⟩ = some (.int .i64 1) := block_cell hxv 0
      have f2' := block_free hxv 2
      have y2 := block_cell hxv 2
      have j5 : (4 : Int) < (f.length : Int) := by omega
      clear hxv
      go_upto_region 20 with (fail)
      go_wp2_with fail
      refine (HNF.out V).mono ?_
      rintro e w2 ⟨rfl, rfl⟩
      go_upto_region 21 with (fail)
      have HX2 : Hid ((V.setCell ⟨bx, 2, none⟩ (.int .i64 m4)).heap[bx]? = some (.cells #[.int .i64 1, .int .i64 0, .int .i64 m4, .string ⟨#[]⟩, .int .i64 0, .int .i64 0, .int .i64 0] 59 (0, 0))) := heap_setCell_same _ _ _ _ _ _ HXV.out
      have HT2 : Hid ((V.setCell ⟨bx, 2, none⟩ (.int .i64 m4)).heap[w.heap.size]? = _) := (heap_setCell_other _ _ _ _ (by dsimp only; omega)).trans HTV.out
      have HF2 : Hid ((V.setCell ⟨bx, 2, none⟩ (.int .i64 m4)).heap[bf]? = _) := (heap_setCell_other _ _ _ _ (by dsimp only; omega)).trans HFV.out
      have HR2 : Hid ((V.setCell ⟨bx, 2, none⟩ (.int .i64 m4)).heap[br]? = _) := (heap_setCell_other _ _ _ _ (by dsimp only; omega)).trans HRV.out
      have HA2 : Hid (Below w.heap.size w (V.setCell ⟨bx, 2, none⟩ (.int .i64 m4))) := HAV.out.setCell (by dsimp only; omega) _
      have HG2 : Hid ((V.setCell ⟨bx, 2, none⟩ (.int .i64 m4)).cell? ⟨g8, 0, none⟩ = some (.int .i64 x1)) := (World.cell?_setCell_other _ _ _ _ (fun h9 => absurd (congrArg Addr.block h9) (show bx ≠ g8 by omega))).trans HGV.out
      have hz2 : w.heap.size + 4 ≤ (V.setCell ⟨bx, 2, none⟩ (.int .i64 m4)).heap.size := by simp; exact hzv
      generalize V.setCell ⟨bx, 2, none⟩ (.int .i64 m4) = V2 at *
      clear q1 c5' z0 f2' y2 HAV HTV HFV HRV HXV HGV HS3V hzv HNF
      obtain ⟨V, rfl⟩ : ∃ x : World, x = V2 := ⟨_, rfl⟩
      obtain ⟨HAV, HTV, HFV, HRV, HXV, HGV, hzv⟩ := And.intro HA2 (And.intro HT2 (And.intro HF2 (And.intro HR2 (And.intro HX2 (And.intro HG2 hz2)))))
      clear HA2 HT2 HF2 HR2 HX2 HG2 hz2
      have HS3V := Lib.hid (HS3.out V HAV.out)
      by_cases he2 : er2 = 0
      case neg =>
        have h0' : (er2 == 0) = false := by simpa using he2
        have HRR : Hid (R = (noInc, 1)) := by show _ = _; rw [HQ.out, if_pos (.inr he2)]
        clear he2
        go_upto_region 22 with (fail)
        refine wp_region_lit ?_
        refine wpList_zero rfl rfl ?_
        refine wpList_store_row rfl _ _ _ rfl br #[.int .i64 0, .int .i64 0, .int .i64 0, .string ⟨#[]⟩, .int .i64 0, .int .i64 0, .int .i64 0] (by simp [Act.eval, Act.put]) (by simp [Act.eval, Act.put]) _ _ HRV.out inc_info rfl (by simp [Value.oneCell']) ?_
        have hr := setRow_heap _ _ _ #[.int .i64 0, .int .i64 0, .int .i64 0, .string ⟨#[]⟩, .int .i64 0, .int .i64 0, .int .i64 0] _ _ HRV.out
        have u0 := block_cell hr 0; have u1 := block_cell hr 1; have u2 := block_cell hr 2; have u3 := block_cell hr 3; have u4 := block_cell hr 4; have u5 := block_cell hr 5; have u6 := block_cell hr 6
        have HAE := Lib.hid (below_setRow HAV.out (b := br) (cs := #[.int .i64 0, .int .i64 0, .int .i64 0, .string ⟨#[]⟩, .int .i64 0, .int .i64 0, .int .i64 0]) (by omega))
        clear hr
        go_wp2_with fail
        refine bodyPost_ret (v := .tuple #[.agg #[.int .i64 0, .int .i64 0, .int .i64 0, .string ⟨#[]⟩, .int .i64 0, .int .i64 0, .int .i64 0], .int .i64 1]) (by simp [results, Tryz.results62, go_sem, u0, u1, u2, u3, u4, u5, u6]) rfl ?_
        rw [HRR.out]
        exact ⟨rfl, HAE.out⟩
      subst he2
      rw [if_neg (by simp)] at HQ
      have hxv := HXV.out
      have y0 := block_cell hxv 0; have y1 := block_cell hxv 1; have y2 := block_cell hxv 2; have y3 := block_cell hxv 3; have y4 := block_cell hxv 4; have y5 := block_cell hxv 5; have y6 := block_cell hxv 6
      have k0 := block_free hxv 0; have k1 := block_free hxv 1; have k2 := block_free hxv 2; have k3 := block_free hxv 3; have k4 := block_free hxv 4; have k5 := block_free hxv 5; have k6 := block_free hxv 6
      have HIX := Lib.hid (indexFl_any t.flights A3 n3 c3 bf g8 f1 x1 V HS3V.out (some ⟨fb, o, none⟩) f.length c fb o rfl (block_cell HFV.out 0) (by omega) (HC.out V HAV.out 1 (by omega)) HGV.out)
      have t2 : V.cell? ⟨w.heap.size, 2, none⟩ = some (.slice A3 n3 c3) := block_cell HTV.out 2
      clear hxv
      go_upto_region 25 with (fail)
      go_wp2_with fail
      refine HIX.out.mono ?_
      rintro e w6 ⟨rfl, hb6⟩
      clear HIX t2 y0 y1 y2 y3 y4 y5 y6 k0 k1 k2 k3 k4 k5 k6
      have hA6 := HAV.out.trans (hb6.mono (by omega))
      have hx6 := (hb6.block (bx) (by omega)).trans HXV.out
      have hr6 := (hb6.block (br) (by omega)).trans HRV.out
      have HX6 := Lib.hid (heap_setCell_same _ _ 1 _ _ (.int .i64 (ixOpt (flAt t.flights f1 x1))) hx6)
      have HR6 := Lib.hid ((heap_setCell_other w6 ⟨bx, 1, none⟩ br (.int .i64 (ixOpt (flAt t.flights f1 x1))) (show br ≠ bx by omega)).trans hr6)
      have HA6 : Hid (Below w.heap.size w (w6.setCell ⟨bx, 1, none⟩ (.int .i64 (ixOpt (flAt t.flights f1 x1))))) := hA6.setCell (by dsimp only; omega) _
      have y1 := block_cell hx6 1
      have k1 := block_free hx6 1
      clear hb6 hx6 hr6 hA6 HAV HTV HFV HRV HXV HGV HS3V
      go_upto_region 26 with (fail)
      generalize w6.setCell ⟨bx, 1, none⟩ (.int .i64 (ixOpt (flAt t.flights f1 x1))) = W6 at *
      clear y1 k1
      cases hfa : flAt t.flights f1 x1 with
      | none =>
        have hi : ixOpt none = -1 := rfl
        rw [hfa, hi] at HX6
        have y1 := block_cell HX6.out 1
        have HRR : Hid (R = (noInc, 6)) := by show _ = _; rw [HQ.out]; unfold onFl2; rw [hfa]
        clear hfa
        go_upto_region 27 with (fail)
        refine wp_region_lit ?_
        refine wpList_zero rfl rfl ?_
        refine wpList_store_row rfl _ _ _ rfl br #[.int .i64 0, .int .i64 0, .int .i64 0, .string ⟨#[]⟩, .int .i64 0, .int .i64 0, .int .i64 0] (by simp [Act.eval, Act.put]) (by simp [Act.eval, Act.put]) _ _ HR6.out inc_info rfl (by simp [Value.oneCell']) ?_
        have hr := setRow_heap _ _ _ #[.int .i64 0, .int .i64 0, .int .i64 0, .string ⟨#[]⟩, .int .i64 0, .int .i64 0, .int .i64 0] _ _ HR6.out
        have u0 := block_cell hr 0; have u1 := block_cell hr 1; have u2 := block_cell hr 2; have u3 := block_cell hr 3; have u4 := block_cell hr 4; have u5 := block_cell hr 5; have u6 := block_cell hr 6
        have HAE := Lib.hid (below_setRow HA6.out (b := br) (cs := #[.int .i64 0, .int .i64 0, .int .i64 0, .string ⟨#[]⟩, .int .i64 0, .int .i64 0, .int .i64 0]) (by omega))
        clear hr
        go_wp2_with fail
        refine bodyPost_ret (v := .tuple #[.agg #[.int .i64 0, .int .i64 0, .int .i64 0, .string ⟨#[]⟩, .int .i64 0, .int .i64 0, .int .i64 0], .int .i64 6]) (by simp [results, Tryz.results62, go_sem, u0, u1, u2, u3, u4, u5, u6]) rfl ?_
        rw [HRR.out]
        exact ⟨rfl, HAE.out⟩
      | some i =>
        have HRR : Hid (R = (⟨1, i, m4, noStr, 0, noShift⟩, 0)) := by show _ = _; rw [HQ.out]; unfold onFl2; rw [hfa]
        have hi : ixOpt (some i) = (i : Int) := rfl
        rw [hfa, hi] at HX6
        have y1 : W6.cell? ⟨bx, 1, none⟩ = some (.int .i64 i) := block_cell HX6.out 1
        clear hfa
        go_upto_region 28 with (fail)
        refine wp_region_lit ?_
        refine wpList_load_row rfl _ _ rfl bx (by simp [Act.eval]) _ _ _ _ HX6.out Tryz.underlying59 rfl inc_info ?_
        refine wpList_store_row rfl _ _ _ rfl br #[.int .i64 1, .int .i64 i, .int .i64 m4, .string ⟨#[]⟩, .int .i64 0, .int .i64 0, .int .i64 0] (by simp [Act.eval, Act.put]) (by simp [Act.eval, Act.put]) _ _ HR6.out inc_info rfl (by simp [Value.oneCell']) ?_
        have hr := setRow_heap _ _ _ #[.int .i64 1, .int .i64 i, .int .i64 m4, .string ⟨#[]⟩, .int .i64 0, .int .i64 0, .int .i64 0] _ _ HR6.out
        have u0 := block_cell hr 0; have u1 := block_cell hr 1; have u2 := block_cell hr 2; have u3 := block_cell hr 3; have u4 := block_cell hr 4; have u5 := block_cell hr 5; have u6 := block_cell hr 6
        have HAE := Lib.hid (below_setRow HA6.out (b := br) (cs := #[.int .i64 1, .int .i64 i, .int .i64 m4, .string ⟨#[]⟩, .int .i64 0, .int .i64 0, .int .i64 0]) (by omega))
        clear hr y1
        go_wp2_with fail
        refine bodyPost_ret (v := .tuple #[.agg #[.int .i64 1, .int .i64 i, .int .i64 m4, .string ⟨#[]⟩, .int .i64 0, .int .i64 0, .int .i64 0], .int .i64 0]) (by simp [results, Tryz.results62, go_sem, u0, u1, u2, u3, u4, u5, u6]) rfl ?_
        rw [HRR.out]
        exact ⟨rfl, HAE.out⟩
  have hw1 := hw
  clear hw
  by_cases hw : f0 = cancelS
  · clear hw1
    as_aux_lemma =>
      rw [decide_eq_false (by rw [hw]; exact words_ne.1)] at edelay
      rw [decide_eq_true hw] at ecancel
      clear edivert esick
      have HQ : Hid (R = if f.length ≠ 4 ∨ (insB (f2 ++ spS ++ f3)).2 ≠ 0 then (noInc, 1) else onFl2 t f1 (insB (f2 ++ spS ++ f3)).1 fun i => ⟨2, i, 0, noStr, 0, noShift⟩) := by show _ = _; rw [HQL.out]; rw [if_neg (by rw [hw]; exact words_ne.1), if_pos hw]
      clear HQL hw
      have HC1 : Hid (∀ V : World, Calls Tryz.prog 99 #[.string (f2 ++ spS ++ f3)] V (NumPost (insB (f2 ++ spS ++ f3)) V)) := fun V => parseInstant_any _ V za
      have hx1 := insB_bd (f2 ++ spS ++ f3)
      unfold NumPost at HC1
      generalize insB (f2 ++ spS ++ f3) = a1 at *
      obtain ⟨x1, er1⟩ := a1
      simp only at HC1 HQ hx1
      clear za z1 z2 z3 z4 z5
      by_cases hl : f.length = 4
      case neg =>
        have hl' : ((f.length : Int) != 4) = true := by simp; omega
        clear HC1
        go_enter Tryz.func62, Tryz.ntmps62
        go_upto_region 3 with (fail)
        generalize ((((w.alloc (.cells #[.slice A1 n1 c1, .slice A2 n2 c2, .slice A3 n3 c3] 27)).alloc (.cells #[.slice (some ⟨fb, o, none⟩) f.length c] 36)).alloc (.cells #[.int .i64 0, .int .i64 0, .int .i64 0, .string ⟨#[]⟩, .int .i64 0, .int .i64 0, .int .i64 0] 59)).alloc (.cells #[.int .i64 0, .int .i64 0, .int .i64 0, .string ⟨#[]⟩, .int .i64 0, .int .i64 0, .int .i64 0] 59)) = W at *
        generalize hbx : w.heap.size + 1 + 1 + 1 = bx at *
        generalize hbr : w.heap.size + 1 + 1 = br at *
        generalize hbf : w.heap.size + 1 = bf at *
        have hx := HX.out
        have z0 := block_cell hx 0; have f0' := block_free hx 0
        have q0 : W.cell? ⟨bf, 0, none⟩ = some (.slice (some ⟨fb, o, none⟩) f.length c) := block_cell HF.out 0
        have c0 : W.cell? ⟨fb, o, none⟩ = some (.string f0) := HC.out W HA.out 0 (by omega)
        go_upto_region 12 with (fail)
        have HX1 : Hid ((W.setCell ⟨bx, 0, none⟩ (.int .i64 2)).heap[bx]? = some (.cells #[.int .i64 2, .int .i64 0, .int .i64 0, .string ⟨#[]⟩, .int .i64 0, .int .i64 0, .int .i64 0] 59 (0, 0))) := heap_setCell_same _ _ _ _ _ _ hx
        have HT1 : Hid ((W.setCell ⟨bx, 0, none⟩ (.int .i64 2)).heap[w.heap.size]? = _) := (heap_setCell_other _ _ _ _ (by dsimp only; omega)).trans HT.out
        have HF1 : Hid ((W.setCell ⟨bx, 0, none⟩ (.int .i64 2)).heap[bf]? = _) := (heap_setCell_other _ _ _ _ (by dsimp only; omega)).trans HF.out
        have HR1 : Hid ((W.setCell ⟨bx, 0, none⟩ (.int .i64 2)).heap[br]? = _) := (heap_setCell_other _ _ _ _ (by dsimp only; omega)).trans HR.out
        have HA1 : Hid (Below w.heap.size w (W.setCell ⟨bx, 0, none⟩ (.int .i64 2))) := HA.out.setCell (by dsimp only; omega) _
        have hz1 : w.heap.size + 4 ≤ (W.setCell ⟨bx, 0, none⟩ (.int .i64 2)).heap.size := by simp; exact HZ.out
        generalize W.setCell ⟨bx, 0, none⟩ (.int .i64 2) = W1 at *
        have q1 : W1.cell? ⟨bf, 0, none⟩ = some (.slice (some ⟨fb, o, none⟩) f.length c) := block_cell HF1.out 0
        clear hx z0 f0' q0 c0 HX HT HF HR HA HZ
        have HRR : Hid (R = (noInc, 1)) := by show _ = _; rw [HQ.out, if_pos (.inl hl)]
        clear hl
        go_upto_region 13 with (fail)
        refine wp_region_lit ?_
        refine wpList_zero rfl rfl ?_
        refine wpList_store_row rfl _ _ _ rfl br #[.int .i64 0, .int .i64 0, .int .i64 0, .string ⟨#[]⟩, .int .i64 0, .int .i64 0, .int .i64 0] (by simp [Act.eval, Act.put]) (by simp [Act.eval, Act.put]) _ _ HR1.out inc_info rfl (by simp [Value.oneCell']) ?_
        have hr := setRow_heap _ _ _ #[.int .i64 0, .int .i64 0, .int .i64 0, .string ⟨#[]⟩, .int .i64 0, .int .i64 0, .int .i64 0] _ _ HR1.out
        have u0 := block_cell hr 0; have u1 := block_cell hr 1; have u2 := block_cell hr 2; have u3 := block_cell hr 3; have u4 := block_cell hr 4; have u5 := block_cell hr 5; have u6 := block_cell hr 6
        have HAE := Lib.hid (below_setRow HA1.out (b := br) (cs := #[.int .i64 0, .int .i64 0, .int .i64 0, .string ⟨#[]⟩, .int .i64 0, .int .i64 0, .int .i64 0]) (by omega))
        clear hr
        go_wp2_with fail
        refine bodyPost_ret (v := .tuple #[.agg #[.int .i64 0, .int .i64 0, .int .i64 0, .string ⟨#[]⟩, .int .i64 0, .int .i64 0, .int .i64 0], .int .i64 1]) (by simp [results, Tryz.results62, go_sem, u0, u1, u2, u3, u4, u5, u6]) rfl ?_
        rw [HRR.out]
        exact ⟨rfl, HAE.out⟩
      have hl' : ((f.length : Int) != 4) = false := by simp; omega
      have hge : 4 ≤ f.length := by omega
      rw [hl] at HQ
      simp only [ne_eq, not_true_eq_false, false_or] at HQ
      clear hl
      go_enter Tryz.func62, Tryz.ntmps62
      go_upto_region 3 with (fail)
      generalize ((((w.alloc (.cells #[.slice A1 n1 c1, .slice A2 n2 c2, .slice A3 n3 c3] 27)).alloc (.cells #[.slice (some ⟨fb, o, none⟩) f.length c] 36)).alloc (.cells #[.int .i64 0, .int .i64 0, .int .i64 0, .string ⟨#[]⟩, .int .i64 0, .int .i64 0, .int .i64 0] 59)).alloc (.cells #[.int .i64 0, .int .i64 0, .int .i64 0, .string ⟨#[]⟩, .int .i64 0, .int .i64 0, .int .i64 0] 59)) = W at *
      generalize hbx : w.heap.size + 1 + 1 + 1 = bx at *
      generalize hbr : w.heap.size + 1 + 1 = br at *
      generalize hbf : w.heap.size + 1 = bf at *
      have hx := HX.out
      have z0 := block_cell hx 0; have f0' := block_free hx 0
      have q0 : W.cell? ⟨bf, 0, none⟩ = some (.slice (some ⟨fb, o, none⟩) f.length c) := block_cell HF.out 0
      have c0 : W.cell? ⟨fb, o, none⟩ = some (.string f0) := HC.out W HA.out 0 (by omega)
      go_upto_region 12 with (fail)
      have HX1 : Hid ((W.setCell ⟨bx, 0, none⟩ (.int .i64 2)).heap[bx]? = some (.cells #[.int .i64 2, .int .i64 0, .int .i64 0, .string ⟨#[]⟩, .int .i64 0, .int .i64 0, .int .i64 0] 59 (0, 0))) := heap_setCell_same _ _ _ _ _ _ hx
      have HT1 : Hid ((W.setCell ⟨bx, 0, none⟩ (.int .i64 2)).heap[w.heap.size]? = _) := (heap_setCell_other _ _ _ _ (by dsimp only; omega)).trans HT.out
      have HF1 : Hid ((W.setCell ⟨bx, 0, none⟩ (.int .i64 2)).heap[bf]? = _) := (heap_setCell_other _ _ _ _ (by dsimp only; omega)).trans HF.out
      have HR1 : Hid ((W.setCell ⟨bx, 0, none⟩ (.int .i64 2)).heap[br]? = _) := (heap_setCell_other _ _ _ _ (by dsimp only; omega)).trans HR.out
      have HA1 : Hid (Below w.heap.size w (W.setCell ⟨bx, 0, none⟩ (.int .i64 2))) := HA.out.setCell (by dsimp only; omega) _
      have hz1 : w.heap.size + 4 ≤ (W.setCell ⟨bx, 0, none⟩ (.int .i64 2)).heap.size := by simp; exact HZ.out
      generalize W.setCell ⟨bx, 0, none⟩ (.int .i64 2) = W1 at *
      have q1 : W1.cell? ⟨bf, 0, none⟩ = some (.slice (some ⟨fb, o, none⟩) f.length c) := block_cell HF1.out 0
      clear hx z0 f0' q0 c0 HX HT HF HR HA HZ
      have c2 : W1.cell? ⟨fb, o + 2, none⟩ = some (.string f2) := HC.out W1 HA1.out 2 (by omega)
      have c3' : W1.cell? ⟨fb, o + 3, none⟩ = some (.string f3) := HC.out W1 HA1.out 3 (by omega)
      have z0 : W1.cell? ⟨bx, 0, none⟩ = some (.int .i64 2) := block_cell HX1.out 0
      have c2a : ∀ oo, (W1.alloc oo).cell? ⟨fb, o + 2, none⟩ = some (.string f2) := fun oo => (World.cell?_alloc_past _ _ _ (show fb < _ by omega)).trans c2
      have c3a : ∀ oo, (W1.alloc oo).cell? ⟨fb, o + 3, none⟩ = some (.string f3) := fun oo => (World.cell?_alloc_past _ _ _ (show fb < _ by omega)).trans c3'
      have q1a : ∀ oo, (W1.alloc oo).cell? ⟨bf, 0, none⟩ = some (.slice (some ⟨fb, o, none⟩) f.length c) := fun oo => (World.cell?_alloc_past _ _ _ (show bf < _ by omega)).trans q1
      have j2 : (2 : Int) < (f.length : Int) := by omega
      have j3 : (3 : Int) < (f.length : Int) := by omega
      go_upto_region 16 with (fail)
      go_cut [8, 9] (fun a b wx => ∃ g8, a = .pointer (some ⟨g8, 0, none⟩) ∧ b = .int .i64 er1 ∧ wx.cell? ⟨g8, 0, none⟩ = some (.int .i64 x1) ∧ W1.heap.size ≤ g8 ∧ Below W1.heap.size W1 wx)
      case first =>
        go_region_law (first
          | (go_simp; go_at_call 99; refine (HC1.out _).mono ?_; rintro e w1 ⟨rfl, hb1⟩; try (have hq := (hb1.block W1.heap.size (by simp)).trans (heap_alloc_new _ _); have hqc := block_cell hq 0; have hqf := block_free hq 0))
          | fail)
        all_goals
          go_wp2_with fail
          go_meet
          first
          | (have hbz : Below W1.heap.size W1 w1 := ⟨hb1.os, hb1.tape, hb1.output, hb1.size, hb1.block⟩
             exact ⟨_, rfl, rfl, cell_new_set, hbz.size, (hbz.alloc hbz.size _).setCell (by exact hbz.size) _⟩)
          | exact ⟨_, rfl, rfl, cell_old_set hqc, Nat.le_refl _, (below_alloc_drew hb1).setCell (by exact Nat.le_refl _) _⟩
          | (have hbz : Below W1.heap.size W1 w1 := ⟨hb1.os, hb1.tape, hb1.output, hb1.size, hb1.block⟩
             exact ⟨_, rfl, rfl, block_cell (heap_alloc_new _ _) 0, hbz.size, hbz.alloc hbz.size _⟩)
      case rest =>
      obtain ⟨g8, rfl, rfl, hg8, hgn, hb1⟩ := hcut
      replace hgn : w.heap.size + 4 ≤ g8 := by omega
      obtain ⟨V, rfl⟩ : ∃ x : World, x = wc := ⟨_, rfl⟩
      have HAV : Hid (Below w.heap.size w V) := HA1.out.trans (hb1.mono (by omega))
      have HTV : Hid (V.heap[w.heap.size]? = _) := (hb1.block _ (by omega)).trans HT1.out
      have HFV : Hid (V.heap[bf]? = _) := (hb1.block _ (by omega)).trans HF1.out
      have HRV : Hid (V.heap[br]? = _) := (hb1.block _ (by omega)).trans HR1.out
      have HXV : Hid (V.heap[bx]? = _) := (hb1.block _ (by omega)).trans HX1.out
      have HGV := Lib.hid hg8
      have HS3V := Lib.hid (HS3.out V HAV.out)
      have hzv : w.heap.size + 4 ≤ V.heap.size := by have := hb1.size; omega
      clear c2 c3' c2a c3a q1a z0 q1 hb1 hg8 HC1 HA1 HT1 HF1 HR1 HX1 hz1
      by_cases he1 : er1 = 0
      case neg =>
        have h0' : (er1 == 0) = false := by simpa using he1
        have HRR : Hid (R = (noInc, 1)) := by show _ = _; rw [HQ.out, if_pos (he1)]
        clear he1
        go_upto_region 18 with (fail)
        refine wp_region_lit ?_
        refine wpList_zero rfl rfl ?_
        refine wpList_store_row rfl _ _ _ rfl br #[.int .i64 0, .int .i64 0, .int .i64 0, .string ⟨#[]⟩, .int .i64 0, .int .i64 0, .int .i64 0] (by simp [Act.eval, Act.put]) (by simp [Act.eval, Act.put]) _ _ HRV.out inc_info rfl (by simp [Value.oneCell']) ?_
        have hr := setRow_heap _ _ _ #[.int .i64 0, .int .i64 0, .int .i64 0, .string ⟨#[]⟩, .int .i64 0, .int .i64 0, .int .i64 0] _ _ HRV.out
        have u0 := block_cell hr 0; have u1 := block_cell hr 1; have u2 := block_cell hr 2; have u3 := block_cell hr 3; have u4 := block_cell hr 4; have u5 := block_cell hr 5; have u6 := block_cell hr 6
        have HAE := Lib.hid (below_setRow HAV.out (b := br) (cs := #[.int .i64 0, .int .i64 0, .int .i64 0, .string ⟨#[]⟩, .int .i64 0, .int .i64 0, .int .i64 0]) (by omega))
        clear hr
        go_wp2_with fail
        refine bodyPost_ret (v := .tuple #[.agg #[.int .i64 0, .int .i64 0, .int .i64 0, .string ⟨#[]⟩, .int .i64 0, .int .i64 0, .int .i64 0], .int .i64 1]) (by simp [results, Tryz.results62, go_sem, u0, u1, u2, u3, u4, u5, u6]) rfl ?_
        rw [HRR.out]
        exact ⟨rfl, HAE.out⟩
      subst he1
      rw [if_neg (by simp)] at HQ
      have hxv := HXV.out
      have y0 := block_cell hxv 0; have y1 := block_cell hxv 1; have y2 := block_cell hxv 2; have y3 := block_cell hxv 3; have y4 := block_cell hxv 4; have y5 := block_cell hxv 5; have y6 := block_cell hxv 6
      have k0 := block_free hxv 0; have k1 := block_free hxv 1; have k2 := block_free hxv 2; have k3 := block_free hxv 3; have k4 := block_free hxv 4; have k5 := block_free hxv 5; have k6 := block_free hxv 6
      have HIX := Lib.hid (indexFl_any t.flights A3 n3 c3 bf g8 f1 x1 V HS3V.out (some ⟨fb, o, none⟩) f.length c fb o rfl (block_cell HFV.out 0) (by omega) (HC.out V HAV.out 1 (by omega)) HGV.out)
      have t2 : V.cell? ⟨w.heap.size, 2, none⟩ = some (.slice A3 n3 c3) := block_cell HTV.out 2
      clear hxv
      go_upto_region 25 with (fail)
      go_wp2_with fail
      refine HIX.out.mono ?_
      rintro e w6 ⟨rfl, hb6⟩
      clear HIX t2 y0 y1 y2 y3 y4 y5 y6 k0 k1 k2 k3 k4 k5 k6
      have hA6 := HAV.out.trans (hb6.mono (by omega))
      have hx6 := (hb6.block (bx) (by omega)).trans HXV.out
      have hr6 := (hb6.block (br) (by omega)).trans HRV.out
      have HX6 := Lib.hid (heap_setCell_same _ _ 1 _ _ (.int .i64 (ixOpt (flAt t.flights f1 x1))) hx6)
      have HR6 := Lib.hid ((heap_setCell_other w6 ⟨bx, 1, none⟩ br (.int .i64 (ixOpt (flAt t.flights f1 x1))) (show br ≠ bx by omega)).trans hr6)
      have HA6 : Hid (Below w.heap.size w (w6.setCell ⟨bx, 1, none⟩ (.int .i64 (ixOpt (flAt t.flights f1 x1))))) := hA6.setCell (by dsimp only; omega) _
      have y1 := block_cell hx6 1
      have k1 := block_free hx6 1
      clear hb6 hx6 hr6 hA6 HAV HTV HFV HRV HXV HGV HS3V
      go_upto_region 26 with (fail)
      generalize w6.setCell ⟨bx, 1, none⟩ (.int .i64 (ixOpt (flAt t.flights f1 x1))) = W6 at *
      clear y1 k1
      cases hfa : flAt t.flights f1 x1 with
      | none =>
        have hi : ixOpt none = -1 := rfl
        rw [hfa, hi] at HX6
        have y1 := block_cell HX6.out 1
        have HRR : Hid (R = (noInc, 6)) := by show _ = _; rw [HQ.out]; unfold onFl2; rw [hfa]
        clear hfa
        go_upto_region 27 with (fail)
        refine wp_region_lit ?_
        refine wpList_zero rfl rfl ?_
        refine wpList_store_row rfl _ _ _ rfl br #[.int .i64 0, .int .i64 0, .int .i64 0, .string ⟨#[]⟩, .int .i64 0, .int .i64 0, .int .i64 0] (by simp [Act.eval, Act.put]) (by simp [Act.eval, Act.put]) _ _ HR6.out inc_info rfl (by simp [Value.oneCell']) ?_
        have hr := setRow_heap _ _ _ #[.int .i64 0, .int .i64 0, .int .i64 0, .string ⟨#[]⟩, .int .i64 0, .int .i64 0, .int .i64 0] _ _ HR6.out
        have u0 := block_cell hr 0; have u1 := block_cell hr 1; have u2 := block_cell hr 2; have u3 := block_cell hr 3; have u4 := block_cell hr 4; have u5 := block_cell hr 5; have u6 := block_cell hr 6
        have HAE := Lib.hid (below_setRow HA6.out (b := br) (cs := #[.int .i64 0, .int .i64 0, .int .i64 0, .string ⟨#[]⟩, .int .i64 0, .int .i64 0, .int .i64 0]) (by omega))
        clear hr
        go_wp2_with fail
        refine bodyPost_ret (v := .tuple #[.agg #[.int .i64 0, .int .i64 0, .int .i64 0, .string ⟨#[]⟩, .int .i64 0, .int .i64 0, .int .i64 0], .int .i64 6]) (by simp [results, Tryz.results62, go_sem, u0, u1, u2, u3, u4, u5, u6]) rfl ?_
        rw [HRR.out]
        exact ⟨rfl, HAE.out⟩
      | some i =>
        have HRR : Hid (R = (⟨2, i, 0, noStr, 0, noShift⟩, 0)) := by show _ = _; rw [HQ.out]; unfold onFl2; rw [hfa]
        have hi : ixOpt (some i) = (i : Int) := rfl
        rw [hfa, hi] at HX6
        have y1 : W6.cell? ⟨bx, 1, none⟩ = some (.int .i64 i) := block_cell HX6.out 1
        clear hfa
        go_upto_region 28 with (fail)
        refine wp_region_lit ?_
        refine wpList_load_row rfl _ _ rfl bx (by simp [Act.eval]) _ _ _ _ HX6.out Tryz.underlying59 rfl inc_info ?_
        refine wpList_store_row rfl _ _ _ rfl br #[.int .i64 2, .int .i64 i, .int .i64 0, .string ⟨#[]⟩, .int .i64 0, .int .i64 0, .int .i64 0] (by simp [Act.eval, Act.put]) (by simp [Act.eval, Act.put]) _ _ HR6.out inc_info rfl (by simp [Value.oneCell']) ?_
        have hr := setRow_heap _ _ _ #[.int .i64 2, .int .i64 i, .int .i64 0, .string ⟨#[]⟩, .int .i64 0, .int .i64 0, .int .i64 0] _ _ HR6.out
        have u0 := block_cell hr 0; have u1 := block_cell hr 1; have u2 := block_cell hr 2; have u3 := block_cell hr 3; have u4 := block_cell hr 4; have u5 := block_cell hr 5; have u6 := block_cell hr 6
        have HAE := Lib.hid (below_setRow HA6.out (b := br) (cs := #[.int .i64 2, .int .i64 i, .int .i64 0, .string ⟨#[]⟩, .int .i64 0, .int .i64 0, .int .i64 0]) (by omega))
        clear hr y1
        go_wp2_with fail
        refine bodyPost_ret (v := .tuple #[.agg #[.int .i64 2, .int .i64 i, .int .i64 0, .string ⟨#[]⟩, .int .i64 0, .int .i64 0, .int .i64 0], .int .i64 0]) (by simp [results, Tryz.results62, go_sem, u0, u1, u2, u3, u4, u5, u6]) rfl ?_
        rw [HRR.out]
        exact ⟨rfl, HAE.out⟩
  have hw2 := hw
  clear hw
  by_cases hw : f0 = divertS
  · clear hw1 hw2
    as_aux_lemma =>
      rw [decide_eq_false (by rw [hw]; exact words_ne.2.1)] at edelay
      rw [decide_eq_false (by rw [hw]; exact words_ne.2.2.1)] at ecancel
      rw [decide_eq_true hw] at edivert
      clear esick
      have HQ : Hid (R = if f.length ≠ 6 ∨ (insB (f2 ++ spS ++ f3)).2 ≠ 0 ∨ (parseB f5).2 ≠ 0 then (noInc, 1) else onFl2 t f1 (insB (f2 ++ spS ++ f3)).1 fun i => ⟨3, i, (parseB f5).1, f4, 0, noShift⟩) := by show _ = _; rw [HQL.out]; rw [if_neg (by rw [hw]; exact words_ne.2.1), if_neg (by rw [hw]; exact words_ne.2.2.1), if_pos hw]
      clear HQL hw
      have HC1 : Hid (∀ V : World, Calls Tryz.prog 99 #[.string (f2 ++ spS ++ f3)] V (NumPost (insB (f2 ++ spS ++ f3)) V)) := fun V => parseInstant_any _ V za
      have hx1 := insB_bd (f2 ++ spS ++ f3)
      unfold NumPost at HC1
      generalize insB (f2 ++ spS ++ f3) = a1 at *
      obtain ⟨x1, er1⟩ := a1
      simp only at HC1 HQ hx1
      have HNF : Hid (∀ V : World, Calls Tryz.prog 100 #[.string f5] V (ParsePost f5 V)) := fun V => parseInt_any _ V (by unfold maxLen; omega)
      unfold ParsePost at HNF
      generalize parseB f5 = a2 at *
      obtain ⟨m5, er2⟩ := a2
      simp only at HNF HQ
      clear za z1 z2 z3 z4 z5
      by_cases hl : f.length = 6
      case neg =>
        have hl' : ((f.length : Int) != 6) = true := by simp; omega
        clear HC1 HNF
        go_enter Tryz.func62, Tryz.ntmps62
        go_upto_region 3 with (fail)
        generalize ((((w.alloc (.cells #[.slice A1 n1 c1, .slice A2 n2 c2, .slice A3 n3 c3] 27)).alloc (.cells #[.slice (some ⟨fb, o, none⟩) f.length c] 36)).alloc (.cells #[.int .i64 0, .int .i64 0, .int .i64 0, .string ⟨#[]⟩, .int .i64 0, .int .i64 0, .int .i64 0] 59)).alloc (.cells #[.int .i64 0, .int .i64 0, .int .i64 0, .string ⟨#[]⟩, .int .i64 0, .int .i64 0, .int .i64 0] 59)) = W at *
        generalize hbx : w.heap.size + 1 + 1 + 1 = bx at *
        generalize hbr : w.heap.size + 1 + 1 = br at *
        generalize hbf : w.heap.size + 1 = bf at *
        have hx := HX.out
        have z0 := block_cell hx 0; have f0' := block_free hx 0
        have q0 : W.cell? ⟨bf, 0, none⟩ = some (.slice (some ⟨fb, o, none⟩) f.length c) := block_cell HF.out 0
        have c0 : W.cell? ⟨fb, o, none⟩ = some (.string f0) := HC.out W HA.out 0 (by omega)
        go_upto_region 12 with (fail)
        have HX1 : Hid ((W.setCell ⟨bx, 0, none⟩ (.int .i64 3)).heap[bx]? = some (.cells #[.int .i64 3, .int .i64 0, .int .i64 0, .string ⟨#[]⟩, .int .i64 0, .int .i64 0, .int .i64 0] 59 (0, 0))) := heap_setCell_same _ _ _ _ _ _ hx
        have HT1 : Hid ((W.setCell ⟨bx, 0, none⟩ (.int .i64 3)).heap[w.heap.size]? = _) := (heap_setCell_other _ _ _ _ (by dsimp only; omega)).trans HT.out
        have HF1 : Hid ((W.setCell ⟨bx, 0, none⟩ (.int .i64 3)).heap[bf]? = _) := (heap_setCell_other _ _ _ _ (by dsimp only; omega)).trans HF.out
        have HR1 : Hid ((W.setCell ⟨bx, 0, none⟩ (.int .i64 3)).heap[br]? = _) := (heap_setCell_other _ _ _ _ (by dsimp only; omega)).trans HR.out
        have HA1 : Hid (Below w.heap.size w (W.setCell ⟨bx, 0, none⟩ (.int .i64 3))) := HA.out.setCell (by dsimp only; omega) _
        have hz1 : w.heap.size + 4 ≤ (W.setCell ⟨bx, 0, none⟩ (.int .i64 3)).heap.size := by simp; exact HZ.out
        generalize W.setCell ⟨bx, 0, none⟩ (.int .i64 3) = W1 at *
        have q1 : W1.cell? ⟨bf, 0, none⟩ = some (.slice (some ⟨fb, o, none⟩) f.length c) := block_cell HF1.out 0
        clear hx z0 f0' q0 c0 HX HT HF HR HA HZ
        have HRR : Hid (R = (noInc, 1)) := by show _ = _; rw [HQ.out, if_pos (.inl hl)]
        clear hl
        go_upto_region 13 with (fail)
        refine wp_region_lit ?_
        refine wpList_zero rfl rfl ?_
        refine wpList_store_row rfl _ _ _ rfl br #[.int .i64 0, .int .i64 0, .int .i64 0, .string ⟨#[]⟩, .int .i64 0, .int .i64 0, .int .i64 0] (by simp [Act.eval, Act.put]) (by simp [Act.eval, Act.put]) _ _ HR1.out inc_info rfl (by simp [Value.oneCell']) ?_
        have hr := setRow_heap _ _ _ #[.int .i64 0, .int .i64 0, .int .i64 0, .string ⟨#[]⟩, .int .i64 0, .int .i64 0, .int .i64 0] _ _ HR1.out
        have u0 := block_cell hr 0; have u1 := block_cell hr 1; have u2 := block_cell hr 2; have u3 := block_cell hr 3; have u4 := block_cell hr 4; have u5 := block_cell hr 5; have u6 := block_cell hr 6
        have HAE := Lib.hid (below_setRow HA1.out (b := br) (cs := #[.int .i64 0, .int .i64 0, .int .i64 0, .string ⟨#[]⟩, .int .i64 0, .int .i64 0, .int .i64 0]) (by omega))
        clear hr
        go_wp2_with fail
        refine bodyPost_ret (v := .tuple #[.agg #[.int .i64 0, .int .i64 0, .int .i64 0, .string ⟨#[]⟩, .int .i64 0, .int .i64 0, .int .i64 0], .int .i64 1]) (by simp [results, Tryz.results62, go_sem, u0, u1, u2, u3, u4, u5, u6]) rfl ?_
        rw [HRR.out]
        exact ⟨rfl, HAE.out⟩
      have hl' : ((f.length : Int) != 6) = false := by simp; omega
      have hge : 6 ≤ f.length := by omega
      rw [hl] at HQ
      simp only [ne_eq, not_true_eq_false, false_or] at HQ
      clear hl
      go_enter Tryz.func62, Tryz.ntmps62
      go_upto_region 3 with (fail)
      generalize ((((w.alloc (.cells #[.slice A1 n1 c1, .slice A2 n2 c2, .slice A3 n3 c3] 27)).alloc (.cells #[.slice (some ⟨fb, o, none⟩) f.length c] 36)).alloc (.cells #[.int .i64 0, .int .i64 0, .int .i64 0, .string ⟨#[]⟩, .int .i64 0, .int .i64 0, .int .i64 0] 59)).alloc (.cells #[.int .i64 0, .int .i64 0, .int .i64 0, .string ⟨#[]⟩, .int .i64 0, .int .i64 0, .int .i64 0] 59)) = W at *
      generalize hbx : w.heap.size + 1 + 1 + 1 = bx at *
      generalize hbr : w.heap.size + 1 + 1 = br at *
      generalize hbf : w.heap.size + 1 = bf at *
      have hx := HX.out
      have z0 := block_cell hx 0; have f0' := block_free hx 0
      have q0 : W.cell? ⟨bf, 0, none⟩ = some (.slice (some ⟨fb, o, none⟩) f.length c) := block_cell HF.out 0
      have c0 : W.cell? ⟨fb, o, none⟩ = some (.string f0) := HC.out W HA.out 0 (by omega)
      go_upto_region 12 with (fail)
      have HX1 : Hid ((W.setCell ⟨bx, 0, none⟩ (.int .i64 3)).heap[bx]? = some (.cells #[.int .i64 3, .int .i64 0, .int .i64 0, .string ⟨#[]⟩, .int .i64 0, .int .i64 0, .int .i64 0] 59 (0, 0))) := heap_setCell_same _ _ _ _ _ _ hx
      have HT1 : Hid ((W.setCell ⟨bx, 0, none⟩ (.int .i64 3)).heap[w.heap.size]? = _) := (heap_setCell_other _ _ _ _ (by dsimp only; omega)).trans HT.out
      have HF1 : Hid ((W.setCell ⟨bx, 0, none⟩ (.int .i64 3)).heap[bf]? = _) := (heap_setCell_other _ _ _ _ (by dsimp only; omega)).trans HF.out
      have HR1 : Hid ((W.setCell ⟨bx, 0, none⟩ (.int .i64 3)).heap[br]? = _) := (heap_setCell_other _ _ _ _ (by dsimp only; omega)).trans HR.out
      have HA1 : Hid (Below w.heap.size w (W.setCell ⟨bx, 0, none⟩ (.int .i64 3))) := HA.out.setCell (by dsimp only; omega) _
      have hz1 : w.heap.size + 4 ≤ (W.setCell ⟨bx, 0, none⟩ (.int .i64 3)).heap.size := by simp; exact HZ.out
      generalize W.setCell ⟨bx, 0, none⟩ (.int .i64 3) = W1 at *
      have q1 : W1.cell? ⟨bf, 0, none⟩ = some (.slice (some ⟨fb, o, none⟩) f.length c) := block_cell HF1.out 0
      clear hx z0 f0' q0 c0 HX HT HF HR HA HZ
      have c2 : W1.cell? ⟨fb, o + 2, none⟩ = some (.string f2) := HC.out W1 HA1.out 2 (by omega)
      have c3' : W1.cell? ⟨fb, o + 3, none⟩ = some (.string f3) := HC.out W1 HA1.out 3 (by omega)
      have z0 : W1.cell? ⟨bx, 0, none⟩ = some (.int .i64 3) := block_cell HX1.out 0
      have c2a : ∀ oo, (W1.alloc oo).cell? ⟨fb, o + 2, none⟩ = some (.string f2) := fun oo => (World.cell?_alloc_past _ _ _ (show fb < _ by omega)).trans c2
      have c3a : ∀ oo, (W1.alloc oo).cell? ⟨fb, o + 3, none⟩ = some (.string f3) := fun oo => (World.cell?_alloc_past _ _ _ (show fb < _ by omega)).trans c3'
      have q1a : ∀ oo, (W1.alloc oo).cell? ⟨bf, 0, none⟩ = some (.slice (some ⟨fb, o, none⟩) f.length c) := fun oo => (World.cell?_alloc_past _ _ _ (show bf < _ by omega)).trans q1
      have j2 : (2 : Int) < (f.length : Int) := by omega
      have j3 : (3 : Int) < (f.length : Int) := by omega
      go_upto_region 16 with (fail)
      go_cut [8, 9] (fun a b wx => ∃ g8, a = .pointer (some ⟨g8, 0, none⟩) ∧ b = .int .i64 er1 ∧ wx.cell? ⟨g8, 0, none⟩ = some (.int .i64 x1) ∧ W1.heap.size ≤ g8 ∧ Below W1.heap.size W1 wx)
      case first =>
        go_region_law (first
          | (go_simp; go_at_call 99; refine (HC1.out _).mono ?_; rintro e w1 ⟨rfl, hb1⟩; try (have hq := (hb1.block W1.heap.size (by simp)).trans (heap_alloc_new _ _); have hqc := block_cell hq 0; have hqf := block_free hq 0))
          | fail)
        all_goals
          go_wp2_with fail
          go_meet
          first
          | (have hbz : Below W1.heap.size W1 w1 := ⟨hb1.os, hb1.tape, hb1.output, hb1.size, hb1.block⟩
             exact ⟨_, rfl, rfl, cell_new_set, hbz.size, (hbz.alloc hbz.size _).setCell (by exact hbz.size) _⟩)
          | exact ⟨_, rfl, rfl, cell_old_set hqc, Nat.le_refl _, (below_alloc_drew hb1).setCell (by exact Nat.le_refl _) _⟩
          | (have hbz : Below W1.heap.size W1 w1 := ⟨hb1.os, hb1.tape, hb1.output, hb1.size, hb1.block⟩
             exact ⟨_, rfl, rfl, block_cell (heap_alloc_new _ _) 0, hbz.size, hbz.alloc hbz.size _⟩)
      case rest =>
      obtain ⟨g8, rfl, rfl, hg8, hgn, hb1⟩ := hcut
      replace hgn : w.heap.size + 4 ≤ g8 := by omega
      obtain ⟨V, rfl⟩ : ∃ x : World, x = wc := ⟨_, rfl⟩
      have HAV : Hid (Below w.heap.size w V) := HA1.out.trans (hb1.mono (by omega))
      have HTV : Hid (V.heap[w.heap.size]? = _) := (hb1.block _ (by omega)).trans HT1.out
      have HFV : Hid (V.heap[bf]? = _) := (hb1.block _ (by omega)).trans HF1.out
      have HRV : Hid (V.heap[br]? = _) := (hb1.block _ (by omega)).trans HR1.out
      have HXV : Hid (V.heap[bx]? = _) := (hb1.block _ (by omega)).trans HX1.out
      have HGV := Lib.hid hg8
      have HS3V := Lib.hid (HS3.out V HAV.out)
      have hzv : w.heap.size + 4 ≤ V.heap.size := by have := hb1.size; omega
      clear c2 c3' c2a c3a q1a z0 q1 hb1 hg8 HC1 HA1 HT1 HF1 HR1 HX1 hz1
      by_cases he1 : er1 = 0
      case neg =>
        have h0' : (er1 == 0) = false := by simpa using he1
        clear HNF
        have HRR : Hid (R = (noInc, 1)) := by show _ = _; rw [HQ.out, if_pos (.inl he1)]
        clear he1
        go_upto_region 18 with (fail)
        refine wp_region_lit ?_
        refine wpList_zero rfl rfl ?_
        refine wpList_store_row rfl _ _ _ rfl br #[.int .i64 0, .int .i64 0, .int .i64 0, .string ⟨#[]⟩, .int .i64 0, .int .i64 0, .int .i64 0] (by simp [Act.eval, Act.put]) (by simp [Act.eval, Act.put]) _ _ HRV.out inc_info rfl (by simp [Value.oneCell']) ?_
        have hr := setRow_heap _ _ _ #[.int .i64 0, .int .i64 0, .int .i64 0, .string ⟨#[]⟩, .int .i64 0, .int .i64 0, .int .i64 0] _ _ HRV.out
        have u0 := block_cell hr 0; have u1 := block_cell hr 1; have u2 := block_cell hr 2; have u3 := block_cell hr 3; have u4 := block_cell hr 4; have u5 := block_cell hr 5; have u6 := block_cell hr 6
        have HAE := Lib.hid (below_setRow HAV.out (b := br) (cs := #[.int .i64 0, .int .i64 0, .int .i64 0, .string ⟨#[]⟩, .int .i64 0, .int .i64 0, .int .i64 0]) (by omega))
        clear hr
        go_wp2_with fail
        refine bodyPost_ret (v := .tuple #[.agg #[.int .i64 0, .int .i64 0, .int .i64 0, .string ⟨#[]⟩, .int .i64 0, .int .i64 0, .int .i64 0], .int .i64 1]) (by simp [results, Tryz.results62, go_sem, u0, u1, u2, u3, u4, u5, u6]) rfl ?_
        rw [HRR.out]
        exact ⟨rfl, HAE.out⟩
      subst he1
      have q1 : V.cell? ⟨bf, 0, none⟩ = some (.slice (some ⟨fb, o, none⟩) f.length c) := block_cell HFV.out 0
      have c5' : V.cell? ⟨fb, o + 5, none⟩ = some (.string f5) := HC.out V HAV.out 5 (by omega)
      have hxv := HXV.out
      have z0 : V.cell? ⟨bx, 0, none⟩ = some (.int .i64 3) := block_cell hxv 0
      have f2' := block_free hxv 2
      have y2 := block_cell hxv 2
      have j5 : (5 : Int) < (f.length : Int) := by omega
      clear hxv
      go_upto_region 20 with (fail)
      go_wp2_with fail
      refine (HNF.out V).mono ?_
      rintro e w2 ⟨rfl, rfl⟩
      go_upto_region 21 with (fail)
      have HX2 : Hid ((V.setCell ⟨bx, 2, none⟩ (.int .i64 m5)).heap[bx]? = some (.cells #[.int .i64 3, .int .i64 0, .int .i64 m5, .string ⟨#[]⟩, .int .i64 0, .int .i64 0, .int .i64 0] 59 (0, 0))) := heap_setCell_same _ _ _ _ _ _ HXV.out
      have HT2 : Hid ((V.setCell ⟨bx, 2, none⟩ (.int .i64 m5)).heap[w.heap.size]? = _) := (heap_setCell_other _ _ _ _ (by dsimp only; omega)).trans HTV.out
      have HF2 : Hid ((V.setCell ⟨bx, 2, none⟩ (.int .i64 m5)).heap[bf]? = _) := (heap_setCell_other _ _ _ _ (by dsimp only; omega)).trans HFV.out
      have HR2 : Hid ((V.setCell ⟨bx, 2, none⟩ (.int .i64 m5)).heap[br]? = _) := (heap_setCell_other _ _ _ _ (by dsimp only; omega)).trans HRV.out
      have HA2 : Hid (Below w.heap.size w (V.setCell ⟨bx, 2, none⟩ (.int .i64 m5))) := HAV.out.setCell (by dsimp only; omega) _
      have HG2 : Hid ((V.setCell ⟨bx, 2, none⟩ (.int .i64 m5)).cell? ⟨g8, 0, none⟩ = some (.int .i64 x1)) := (World.cell?_setCell_other _ _ _ _ (fun h9 => absurd (congrArg Addr.block h9) (show bx ≠ g8 by omega))).trans HGV.out
      have hz2 : w.heap.size + 4 ≤ (V.setCell ⟨bx, 2, none⟩ (.int .i64 m5)).heap.size := by simp; exact hzv
      generalize V.setCell ⟨bx, 2, none⟩ (.int .i64 m5) = V2 at *
      clear q1 c5' z0 f2' y2 HAV HTV HFV HRV HXV HGV HS3V hzv HNF
      obtain ⟨V, rfl⟩ : ∃ x : World, x = V2 := ⟨_, rfl⟩
      obtain ⟨HAV, HTV, HFV, HRV, HXV, HGV, hzv⟩ := And.intro HA2 (And.intro HT2 (And.intro HF2 (And.intro HR2 (And.intro HX2 (And.intro HG2 hz2)))))
      clear HA2 HT2 HF2 HR2 HX2 HG2 hz2
      have HS3V := Lib.hid (HS3.out V HAV.out)
      by_cases he2 : er2 = 0
      case neg =>
        have h0' : (er2 == 0) = false := by simpa using he2
        have HRR : Hid (R = (noInc, 1)) := by show _ = _; rw [HQ.out, if_pos (.inr he2)]
        clear he2
        go_upto_region 22 with (fail)
        refine wp_region_lit ?_
        refine wpList_zero rfl rfl ?_
        refine wpList_store_row rfl _ _ _ rfl br #[.int .i64 0, .int .i64 0, .int .i64 0, .string ⟨#[]⟩, .int .i64 0, .int .i64 0, .int .i64 0] (by simp [Act.eval, Act.put]) (by simp [Act.eval, Act.put]) _ _ HRV.out inc_info rfl (by simp [Value.oneCell']) ?_
        have hr := setRow_heap _ _ _ #[.int .i64 0, .int .i64 0, .int .i64 0, .string ⟨#[]⟩, .int .i64 0, .int .i64 0, .int .i64 0] _ _ HRV.out
        have u0 := block_cell hr 0; have u1 := block_cell hr 1; have u2 := block_cell hr 2; have u3 := block_cell hr 3; have u4 := block_cell hr 4; have u5 := block_cell hr 5; have u6 := block_cell hr 6
        have HAE := Lib.hid (below_setRow HAV.out (b := br) (cs := #[.int .i64 0, .int .i64 0, .int .i64 0, .string ⟨#[]⟩, .int .i64 0, .int .i64 0, .int .i64 0]) (by omega))
        clear hr
        go_wp2_with fail
        refine bodyPost_ret (v := .tuple #[.agg #[.int .i64 0, .int .i64 0, .int .i64 0, .string ⟨#[]⟩, .int .i64 0, .int .i64 0, .int .i64 0], .int .i64 1]) (by simp [results, Tryz.results62, go_sem, u0, u1, u2, u3, u4, u5, u6]) rfl ?_
        rw [HRR.out]
        exact ⟨rfl, HAE.out⟩
      subst he2
      have q1 : V.cell? ⟨bf, 0, none⟩ = some (.slice (some ⟨fb, o, none⟩) f.length c) := block_cell HFV.out 0
      have c5' : V.cell? ⟨fb, o + 4, none⟩ = some (.string f4) := HC.out V HAV.out 4 (by omega)
      have hxv := HXV.out
      have z0 : V.cell? ⟨bx, 0, none⟩ = some (.int .i64 3) := block_cell hxv 0
      have f3' := block_free hxv 3
      have y3 := block_cell hxv 3
      have j5 : (4 : Int) < (f.length : Int) := by omega
      clear hxv
      go_upto_region 25 with (fail)
      have HX2 : Hid ((V.setCell ⟨bx, 3, none⟩ (.string f4)).heap[bx]? = some (.cells #[.int .i64 3, .int .i64 0, .int .i64 m5, .string f4, .int .i64 0, .int .i64 0, .int .i64 0] 59 (0, 0))) := heap_setCell_same _ _ _ _ _ _ HXV.out
      have HT2 : Hid ((V.setCell ⟨bx, 3, none⟩ (.string f4)).heap[w.heap.size]? = _) := (heap_setCell_other _ _ _ _ (by dsimp only; omega)).trans HTV.out
      have HF2 : Hid ((V.setCell ⟨bx, 3, none⟩ (.string f4)).heap[bf]? = _) := (heap_setCell_other _ _ _ _ (by dsimp only; omega)).trans HFV.out
      have HR2 : Hid ((V.setCell ⟨bx, 3, none⟩ (.string f4)).heap[br]? = _) := (heap_setCell_other _ _ _ _ (by dsimp only; omega)).trans HRV.out
      have HA2 : Hid (Below w.heap.size w (V.setCell ⟨bx, 3, none⟩ (.string f4))) := HAV.out.setCell (by dsimp only; omega) _
      have HG2 : Hid ((V.setCell ⟨bx, 3, none⟩ (.string f4)).cell? ⟨g8, 0, none⟩ = some (.int .i64 x1)) := (World.cell?_setCell_other _ _ _ _ (fun h9 => absurd (congrArg Addr.block h9) (show bx ≠ g8 by omega))).trans HGV.out
      have hz2 : w.heap.size + 4 ≤ (V.setCell ⟨bx, 3, none⟩ (.string f4)).heap.size := by simp; exact hzv
      generalize V.setCell ⟨bx, 3, none⟩ (.string f4) = V2 at *
      clear q1 c5' z0 f3' y3 HAV HTV HFV HRV HXV HGV HS3V hzv
      obtain ⟨V, rfl⟩ : ∃ x : World, x = V2 := ⟨_, rfl⟩
      obtain ⟨HAV, HTV, HFV, HRV, HXV, HGV, hzv⟩ := And.intro HA2 (And.intro HT2 (And.intro HF2 (And.intro HR2 (And.intro HX2 (And.intro HG2 hz2)))))
      clear HA2 HT2 HF2 HR2 HX2 HG2 hz2
      have HS3V := Lib.hid (HS3.out V HAV.out)
      rw [if_neg (by simp)] at HQ
      have hxv := HXV.out
      have y0 := block_cell hxv 0; have y1 := block_cell hxv 1; have y2 := block_cell hxv 2; have y3 := block_cell hxv 3; have y4 := block_cell hxv 4; have y5 := block_cell hxv 5; have y6 := block_cell hxv 6
      have k0 := block_free hxv 0; have k1 := block_free hxv 1; have k2 := block_free hxv 2; have k3 := block_free hxv 3; have k4 := block_free hxv 4; have k5 := block_free hxv 5; have k6 := block_free hxv 6
      have HIX := Lib.hid (indexFl_any t.flights A3 n3 c3 bf g8 f1 x1 V HS3V.out (some ⟨fb, o, none⟩) f.length c fb o rfl (block_cell HFV.out 0) (by omega) (HC.out V HAV.out 1 (by omega)) HGV.out)
      have t2 : V.cell? ⟨w.heap.size, 2, none⟩ = some (.slice A3 n3 c3) := block_cell HTV.out 2
      clear hxv
      go_wp2_with fail
      refine HIX.out.mono ?_
      rintro e w6 ⟨rfl, hb6⟩
      clear HIX t2 y0 y1 y2 y3 y4 y5 y6 k0 k1 k2 k3 k4 k5 k6
      have hA6 := HAV.out.trans (hb6.mono (by omega))
      have hx6 := (hb6.block (bx) (by omega)).trans HXV.out
      have hr6 := (hb6.block (br) (by omega)).trans HRV.out
      have HX6 := Lib.hid (heap_setCell_same _ _ 1 _ _ (.int .i64 (ixOpt (flAt t.flights f1 x1))) hx6)
      have HR6 := Lib.hid ((heap_setCell_other w6 ⟨bx, 1, none⟩ br (.int .i64 (ixOpt (flAt t.flights f1 x1))) (show br ≠ bx by omega)).trans hr6)
      have HA6 : Hid (Below w.heap.size w (w6.setCell ⟨bx, 1, none⟩ (.int .i64 (ixOpt (flAt t.flights f1 x1))))) := hA6.setCell (by dsimp only; omega) _
      have y1 := block_cell hx6 1
      have k1 := block_free hx6 1
      clear hb6 hx6 hr6 hA6 HAV HTV HFV HRV HXV HGV HS3V
      go_upto_region 26 with (fail)
      generalize w6.setCell ⟨bx, 1, none⟩ (.int .i64 (ixOpt (flAt t.flights f1 x1))) = W6 at *
      clear y1 k1
      cases hfa : flAt t.flights f1 x1 with
      | none =>
        have hi : ixOpt none = -1 := rfl
        rw [hfa, hi] at HX6
        have y1 := block_cell HX6.out 1
        have HRR : Hid (R = (noInc, 6)) := by show _ = _; rw [HQ.out]; unfold onFl2; rw [hfa]
        clear hfa
        go_upto_region 27 with (fail)
        refine wp_region_lit ?_
        refine wpList_zero rfl rfl ?_
        refine wpList_store_row rfl _ _ _ rfl br #[.int .i64 0, .int .i64 0, .int .i64 0, .string ⟨#[]⟩, .int .i64 0, .int .i64 0, .int .i64 0] (by simp [Act.eval, Act.put]) (by simp [Act.eval, Act.put]) _ _ HR6.out inc_info rfl (by simp [Value.oneCell']) ?_
        have hr := setRow_heap _ _ _ #[.int .i64 0, .int .i64 0, .int .i64 0, .string ⟨#[]⟩, .int .i64 0, .int .i64 0, .int .i64 0] _ _ HR6.out
        have u0 := block_cell hr 0; have u1 := block_cell hr 1; have u2 := block_cell hr 2; have u3 := block_cell hr 3; have u4 := block_cell hr 4; have u5 := block_cell hr 5; have u6 := block_cell hr 6
        have HAE := Lib.hid (below_setRow HA6.out (b := br) (cs := #[.int .i64 0, .int .i64 0, .int .i64 0, .string ⟨#[]⟩, .int .i64 0, .int .i64 0, .int .i64 0]) (by omega))
        clear hr
        go_wp2_with fail
        refine bodyPost_ret (v := .tuple #[.agg #[.int .i64 0, .int .i64 0, .int .i64 0, .string ⟨#[]⟩, .int .i64 0, .int .i64 0, .int .i64 0], .int .i64 6]) (by simp [results, Tryz.results62, go_sem, u0, u1, u2, u3, u4, u5, u6]) rfl ?_
        rw [HRR.out]
        exact ⟨rfl, HAE.out⟩
      | some i =>
        have HRR : Hid (R = (⟨3, i, m5, f4, 0, noShift⟩, 0)) := by show _ = _; rw [HQ.out]; unfold onFl2; rw [hfa]
        have hi : ixOpt (some i) = (i : Int) := rfl
        rw [hfa, hi] at HX6
        have y1 : W6.cell? ⟨bx, 1, none⟩ = some (.int .i64 i) := block_cell HX6.out 1
        clear hfa
        go_upto_region 28 with (fail)
        refine wp_region_lit ?_
        refine wpList_load_row rfl _ _ rfl bx (by simp [Act.eval]) _ _ _ _ HX6.out Tryz.underlying59 rfl inc_info ?_
        refine wpList_store_row rfl _ _ _ rfl br #[.int .i64 3, .int .i64 i, .int .i64 m5, .string f4, .int .i64 0, .int .i64 0, .int .i64 0] (by simp [Act.eval, Act.put]) (by simp [Act.eval, Act.put]) _ _ HR6.out inc_info rfl (by simp [Value.oneCell']) ?_
        have hr := setRow_heap _ _ _ #[.int .i64 3, .int .i64 i, .int .i64 m5, .string f4, .int .i64 0, .int .i64 0, .int .i64 0] _ _ HR6.out
        have u0 := block_cell hr 0; have u1 := block_cell hr 1; have u2 := block_cell hr 2; have u3 := block_cell hr 3; have u4 := block_cell hr 4; have u5 := block_cell hr 5; have u6 := block_cell hr 6
        have HAE := Lib.hid (below_setRow HA6.out (b := br) (cs := #[.int .i64 3, .int .i64 i, .int .i64 m5, .string f4, .int .i64 0, .int .i64 0, .int .i64 0]) (by omega))
        clear hr y1
        go_wp2_with fail
        refine bodyPost_ret (v := .tuple #[.agg #[.int .i64 3, .int .i64 i, .int .i64 m5, .string f4, .int .i64 0, .int .i64 0, .int .i64 0], .int .i64 0]) (by simp [results, Tryz.results62, go_sem, u0, u1, u2, u3, u4, u5, u6]) rfl ?_
        rw [HRR.out]
        exact ⟨rfl, HAE.out⟩
  have hw3 := hw
  clear hw
  by_cases hw : f0 = sickS
  · clear hw1 hw2 hw3
    as_aux_lemma =>
      rw [decide_eq_false (by rw [hw]; exact words_ne.2.2.2.1)] at edelay
      rw [decide_eq_false (by rw [hw]; exact words_ne.2.2.2.2.1)] at ecancel
      rw [decide_eq_false (by rw [hw]; exact words_ne.2.2.2.2.2)] at edivert
      rw [decide_eq_true hw] at esick
      have HQ : Hid (R = if f.length ≠ 6 then (noInc, 1) else sickL f) := by
        show _ = _
        rw [HQL.out, if_neg (by rw [hw]; exact words_ne.2.2.2.1), if_neg (by rw [hw]; exact words_ne.2.2.2.2.1), if_neg (by rw [hw]; exact words_ne.2.2.2.2.2), if_pos hw]
      clear HQL hw za z1 z2 z3 z4 z5
      by_cases hl : f.length = 6
      case neg =>
        have hl' : ((f.length : Int) != 6) = true := by simp; omega
        go_enter Tryz.func62, Tryz.ntmps62
        go_upto_region 3 with (fail)
        generalize ((((w.alloc (.cells #[.slice A1 n1 c1, .slice A2 n2 c2, .slice A3 n3 c3] 27)).alloc (.cells #[.slice (some ⟨fb, o, none⟩) f.length c] 36)).alloc (.cells #[.int .i64 0, .int .i64 0, .int .i64 0, .string ⟨#[]⟩, .int .i64 0, .int .i64 0, .int .i64 0] 59)).alloc (.cells #[.int .i64 0, .int .i64 0, .int .i64 0, .string ⟨#[]⟩, .int .i64 0, .int .i64 0, .int .i64 0] 59)) = W at *
        generalize hbx : w.heap.size + 1 + 1 + 1 = bx at *
        generalize hbr : w.heap.size + 1 + 1 = br at *
        generalize hbf : w.heap.size + 1 = bf at *
        have hx := HX.out
        have z0 := block_cell hx 0; have f0' := block_free hx 0
        have q0 : W.cell? ⟨bf, 0, none⟩ = some (.slice (some ⟨fb, o, none⟩) f.length c) := block_cell HF.out 0
        have c0 : W.cell? ⟨fb, o, none⟩ = some (.string f0) := HC.out W HA.out 0 (by omega)
        go_upto_region 12 with (fail)
        have HX1 : Hid ((W.setCell ⟨bx, 0, none⟩ (.int .i64 4)).heap[bx]? = some (.cells #[.int .i64 4, .int .i64 0, .int .i64 0, .string ⟨#[]⟩, .int .i64 0, .int .i64 0, .int .i64 0] 59 (0, 0))) := heap_setCell_same _ _ _ _ _ _ hx
        have HT1 : Hid ((W.setCell ⟨bx, 0, none⟩ (.int .i64 4)).heap[w.heap.size]? = _) := (heap_setCell_other _ _ _ _ (by dsimp only; omega)).trans HT.out
        have HF1 : Hid ((W.setCell ⟨bx, 0, none⟩ (.int .i64 4)).heap[bf]? = _) := (heap_setCell_other _ _ _ _ (by dsimp only; omega)).trans HF.out
        have HR1 : Hid ((W.setCell ⟨bx, 0, none⟩ (.int .i64 4)).heap[br]? = _) := (heap_setCell_other _ _ _ _ (by dsimp only; omega)).trans HR.out
        have HA1 : Hid (Below w.heap.size w (W.setCell ⟨bx, 0, none⟩ (.int .i64 4))) := HA.out.setCell (by dsimp only; omega) _
        have hz1 : w.heap.size + 4 ≤ (W.setCell ⟨bx, 0, none⟩ (.int .i64 4)).heap.size := by simp; exact HZ.out
        generalize W.setCell ⟨bx, 0, none⟩ (.int .i64 4) = W1 at *
        have q1 : W1.cell? ⟨bf, 0, none⟩ = some (.slice (some ⟨fb, o, none⟩) f.length c) := block_cell HF1.out 0
        clear hx z0 f0' q0 c0 HX HT HF HR HA HZ
        have HRR : Hid (R = (noInc, 1)) := by show _ = _; rw [HQ.out, if_pos hl]
        clear hl
        go_upto_region 13 with (fail)
        refine wp_region_lit ?_
        refine wpList_zero rfl rfl ?_
        refine wpList_store_row rfl _ _ _ rfl br #[.int .i64 0, .int .i64 0, .int .i64 0, .string ⟨#[]⟩, .int .i64 0, .int .i64 0, .int .i64 0] (by simp [Act.eval, Act.put]) (by simp [Act.eval, Act.put]) _ _ HR1.out inc_info rfl (by simp [Value.oneCell']) ?_
        have hr := setRow_heap _ _ _ #[.int .i64 0, .int .i64 0, .int .i64 0, .string ⟨#[]⟩, .int .i64 0, .int .i64 0, .int .i64 0] _ _ HR1.out
        have u0 := block_cell hr 0; have u1 := block_cell hr 1; have u2 := block_cell hr 2; have u3 := block_cell hr 3; have u4 := block_cell hr 4; have u5 := block_cell hr 5; have u6 := block_cell hr 6
        have HAE := Lib.hid (below_setRow HA1.out (b := br) (cs := #[.int .i64 0, .int .i64 0, .int .i64 0, .string ⟨#[]⟩, .int .i64 0, .int .i64 0, .int .i64 0]) (by omega))
        clear hr
        go_wp2_with fail
        refine bodyPost_ret (v := .tuple #[.agg #[.int .i64 0, .int .i64 0, .int .i64 0, .string ⟨#[]⟩, .int .i64 0, .int .i64 0, .int .i64 0], .int .i64 1]) (by simp [results, Tryz.results62, go_sem, u0, u1, u2, u3, u4, u5, u6]) rfl ?_
        rw [HRR.out]
        exact ⟨rfl, HAE.out⟩
      have hl' : ((f.length : Int) != 6) = false := by simp; omega
      rw [if_neg (by omega)] at HQ
      have HL6 := Lib.hid hl
      clear hl
      go_enter Tryz.func62, Tryz.ntmps62
      go_upto_region 3 with (fail)
      generalize ((((w.alloc (.cells #[.slice A1 n1 c1, .slice A2 n2 c2, .slice A3 n3 c3] 27)).alloc (.cells #[.slice (some ⟨fb, o, none⟩) f.length c] 36)).alloc (.cells #[.int .i64 0, .int .i64 0, .int .i64 0, .string ⟨#[]⟩, .int .i64 0, .int .i64 0, .int .i64 0] 59)).alloc (.cells #[.int .i64 0, .int .i64 0, .int .i64 0, .string ⟨#[]⟩, .int .i64 0, .int .i64 0, .int .i64 0] 59)) = W at *
      generalize hbx : w.heap.size + 1 + 1 + 1 = bx at *
      generalize hbr : w.heap.size + 1 + 1 = br at *
      generalize hbf : w.heap.size + 1 = bf at *
      have hx := HX.out
      have z0 := block_cell hx 0; have f0' := block_free hx 0
      have q0 : W.cell? ⟨bf, 0, none⟩ = some (.slice (some ⟨fb, o, none⟩) f.length c) := block_cell HF.out 0
      have c0 : W.cell? ⟨fb, o, none⟩ = some (.string f0) := HC.out W HA.out 0 (by omega)
      go_upto_region 12 with (fail)
      have HX1 : Hid ((W.setCell ⟨bx, 0, none⟩ (.int .i64 4)).heap[bx]? = some (.cells #[.int .i64 4, .int .i64 0, .int .i64 0, .string ⟨#[]⟩, .int .i64 0, .int .i64 0, .int .i64 0] 59 (0, 0))) := heap_setCell_same _ _ _ _ _ _ hx
      have HT1 : Hid ((W.setCell ⟨bx, 0, none⟩ (.int .i64 4)).heap[w.heap.size]? = _) := (heap_setCell_other _ _ _ _ (by dsimp only; omega)).trans HT.out
      have HF1 : Hid ((W.setCell ⟨bx, 0, none⟩ (.int .i64 4)).heap[bf]? = _) := (heap_setCell_other _ _ _ _ (by dsimp only; omega)).trans HF.out
      have HR1 : Hid ((W.setCell ⟨bx, 0, none⟩ (.int .i64 4)).heap[br]? = _) := (heap_setCell_other _ _ _ _ (by dsimp only; omega)).trans HR.out
      have HA1 : Hid (Below w.heap.size w (W.setCell ⟨bx, 0, none⟩ (.int .i64 4))) := HA.out.setCell (by dsimp only; omega) _
      have hz1 : w.heap.size + 4 ≤ (W.setCell ⟨bx, 0, none⟩ (.int .i64 4)).heap.size := by simp; exact HZ.out
      generalize W.setCell ⟨bx, 0, none⟩ (.int .i64 4) = W1 at *
      have q1 : W1.cell? ⟨bf, 0, none⟩ = some (.slice (some ⟨fb, o, none⟩) f.length c) := block_cell HF1.out 0
      clear hx z0 f0' q0 c0 HX HT HF HR HA HZ
      have HS := Lib.hid (parseSick_any f (some ⟨fb, o, none⟩) f.length c W1 (HFS.out W1 HA1.out) HL6.out HFZ.out)
      have z0 : W1.cell? ⟨bx, 0, none⟩ = some (.int .i64 4) := block_cell HX1.out 0
      go_upto_region 15 with (fail)
      refine wp_region_lit ?_
      refine wpList_load_row rfl _ _ rfl bx (by simp [Act.eval]) _ _ _ _ HX1.out Tryz.underlying59 rfl inc_info ?_
      refine wpList_plain rfl fun K9 hK9 => ?_
      go_simp
      refine hK9 _ _ ?_
      clear hK9
      refine wpList_plain rfl fun K9 hK9 => ?_
      go_simp
      go_at_call 98
      refine HS.out.mono ?_
      rintro e w6 ⟨rfl, hb6⟩
      refine hK9 _ _ ?_
      clear hK9
      have HR6 : Hid (w6.heap[br]? = _) := (hb6.block br (by omega)).trans HR1.out
      have HA6 : Hid (Below w.heap.size w w6) := HA1.out.trans (hb6.mono (by omega))
      clear HS hb6 q1 z0
      unfold incVal
      rw [← HQ.out]
      generalize R = R' at *
      obtain ⟨⟨rk, rf, rm, ra, rp, ⟨r1, r2⟩⟩, re⟩ := R'
      refine wpList_plain rfl fun K9 hK9 => ?_
      go_simp
      refine hK9 _ _ ?_
      clear hK9
      refine wpList_plain rfl fun K9 hK9 => ?_
      go_simp
      refine hK9 _ _ ?_
      clear hK9
      refine wpList_store_row rfl _ _ _ rfl br #[.int .i64 rk, .int .i64 rf, .int .i64 rm, .string ra, .int .i64 rp, .int .i64 r1, .int .i64 r2] (by simp [Act.eval, Act.put]) (by simp [Act.eval, Act.put]) _ _ HR6.out inc_info rfl (by simp [Value.oneCell']) ?_
      have hr := setRow_heap _ _ _ #[.int .i64 rk, .int .i64 rf, .int .i64 rm, .string ra, .int .i64 rp, .int .i64 r1, .int .i64 r2] _ _ HR6.out
      have u0 := block_cell hr 0; have u1 := block_cell hr 1; have u2 := block_cell hr 2; have u3 := block_cell hr 3; have u4 := block_cell hr 4; have u5 := block_cell hr 5; have u6 := block_cell hr 6
      have HAE := Lib.hid (below_setRow HA6.out (b := br) (cs := #[.int .i64 rk, .int .i64 rf, .int .i64 rm, .string ra, .int .i64 rp, .int .i64 r1, .int .i64 r2]) (by omega))
      clear hr
      go_wp2_with fail
      refine bodyPost_ret (v := .tuple #[.agg #[.int .i64 rk, .int .i64 rf, .int .i64 rm, .string ra, .int .i64 rp, .int .i64 r1, .int .i64 r2], .int .i64 re]) (by simp [results, Tryz.results62, go_sem, u0, u1, u2, u3, u4, u5, u6]) rfl ?_
      exact ⟨rfl, HAE.out⟩
  have hw4 := hw
  clear hw
  rw [decide_eq_false hw1] at edelay
  rw [decide_eq_false hw2] at ecancel
  rw [decide_eq_false hw3] at edivert
  rw [decide_eq_false hw4] at esick
  have HQ : Hid (R = (noInc, 1)) := by
    show _ = _
    rw [HQL.out, if_neg hw1, if_neg hw2, if_neg hw3, if_neg hw4]
  clear HQL hw1 hw2 hw3 hw4 za z1 z2 z3 z4 z5
  go_enter Tryz.func62, Tryz.ntmps62
  go_upto_region 3 with (fail)
  generalize ((((w.alloc (.cells #[.slice A1 n1 c1, .slice A2 n2 c2, .slice A3 n3 c3] 27)).alloc (.cells #[.slice (some ⟨fb, o, none⟩) f.length c] 36)).alloc (.cells #[.int .i64 0, .int .i64 0, .int .i64 0, .string ⟨#[]⟩, .int .i64 0, .int .i64 0, .int .i64 0] 59)).alloc (.cells #[.int .i64 0, .int .i64 0, .int .i64 0, .string ⟨#[]⟩, .int .i64 0, .int .i64 0, .int .i64 0] 59)) = W at *
  generalize hbx : w.heap.size + 1 + 1 + 1 = bx at *
  generalize hbr : w.heap.size + 1 + 1 = br at *
  generalize hbf : w.heap.size + 1 = bf at *
  have hx := HX.out
  have z0 := block_cell hx 0; have f0' := block_free hx 0
  have q0 : W.cell? ⟨bf, 0, none⟩ = some (.slice (some ⟨fb, o, none⟩) f.length c) := block_cell HF.out 0
  have c0 : W.cell? ⟨fb, o, none⟩ = some (.string f0) := HC.out W HA.out 0 (by omega)
  have HRR : Hid (R = (noInc, 1)) := by show _ = _; rw [HQ.out]

  go_upto_region 13 with (fail)
  refine wp_region_lit ?_
  refine wpList_zero rfl rfl ?_
  refine wpList_store_row rfl _ _ _ rfl br #[.int .i64 0, .int .i64 0, .int .i64 0, .string ⟨#[]⟩, .int .i64 0, .int .i64 0, .int .i64 0] (by simp [Act.eval, Act.put]) (by simp [Act.eval, Act.put]) _ _ HR.out inc_info rfl (by simp [Value.oneCell']) ?_
  have hr := setRow_heap _ _ _ #[.int .i64 0, .int .i64 0, .int .i64 0, .string ⟨#[]⟩, .int .i64 0, .int .i64 0, .int .i64 0] _ _ HR.out
  have u0 := block_cell hr 0; have u1 := block_cell hr 1; have u2 := block_cell hr 2; have u3 := block_cell hr 3; have u4 := block_cell hr 4; have u5 := block_cell hr 5; have u6 := block_cell hr 6
  have HAE := Lib.hid (below_setRow HA.out (b := br) (cs := #[.int .i64 0, .int .i64 0, .int .i64 0, .string ⟨#[]⟩, .int .i64 0, .int .i64 0, .int .i64 0]) (by omega))
  clear hr
  go_wp2_with fail
  refine bodyPost_ret (v := .tuple #[.agg #[.int .i64 0, .int .i64 0, .int .i64 0, .string ⟨#[]⟩, .int .i64 0, .int .i64 0, .int .i64 0], .int .i64 1]) (by simp [results, Tryz.results62, go_sem, u0, u1, u2, u3, u4, u5, u6]) rfl ?_
  rw [HRR.out]
  exact ⟨rfl, HAE.out⟩
end Go.Proofs.YtifconapjfdkcaaGreatDoor
