/-
  Joined texts: Dur; TParsePlain; Copy; TPMem; TParseZ; TParseF. What each proves stands ahead of it, with its conditions.
-/
import Derived.Test.YtldeoaddogifpaaGreatDoorCal3
import Derived.Test.YtldeoaddogifpaaGreatDoorMPA
import Derived.Test.YtldeoaddogifpaaGreatDoorTTPlain
import Derived.Test.YtldeoaddogifpaaGreatDoorCalPlain
import Derived.Test.YtldeoaddogifpaaGreatDoorTTMem
import Derived.Test.YtldeoaddogifpaaGreatDoorTTRead
import Derived.Test.YtldeoaddogifpaaGreatDoorBase
import Derived.Maps.AppendAt
import Derived.Test.YtldeoaddogifpaaGreatDoorStep
import Derived.Test.YtldeoaddogifpaaGreatDoorReader
import Derived.Deep.RegionLaw
import Derived.Deep.DeepCutAuto
import Derived.Test.YtldeoaddogifpaaGreatDoorTTReadF
import Derived.Test.YtldeoaddogifpaaGreatDoorRegion
/-
  Contracts of calendar.ParseDuration, calendar.FormatDuration, timetable.duration, timetable.instant.
  Condition: the string takes less than 4294967281 bytes; the number lies in the limits; the table of powers of ten is laid.
-/
namespace Go.Proofs.YtldeoaddogifpaaGreatDoor
set_option linter.unusedSimpArgs false
set_option linter.unusedVariables false
open Go.RowKit

theorem negZ_eq (s : ByteArray) : (s.toList == [45, 48, 58, 48, 48]) = decide (s = negZ) := by
  rw [← str_beq, ByteArray.toList_eq negZ]
  rfl
def zrs (c : Nat) : ByteArray := ⟨(Lib.repeatL (⟨#[48]⟩ : ByteArray).data.toList c).toArray⟩
theorem zrs_at (c : Nat) : (zrs c).size = c ∧ ∀ i, i < c → byteAt (zrs c) i = 48 := by
  have e : Lib.repeatL (⟨#[48]⟩ : ByteArray).data.toList c = List.replicate c 48 := by
    have := Lib.repeatL_replicate 48 1 c
    rw [Nat.mul_one] at this
    exact this
  have ez : zrs c = bs (List.replicate c 48) := by
    unfold zrs
    rw [e]
    rfl
  rw [ez]
  refine ⟨by rw [bs_size, List.length_replicate], fun i hi => ?_⟩
  rw [byteAt_bs, List.getD_eq_getElem?_getD, List.getElem?_replicate, if_pos hi]
  rfl
theorem match_zrs (x : ByteArray) : matchB x (zrs x.size) = allTo (digAt x) x.size := by
  unfold matchB
  rw [(zrs_at x.size).1, decide_eq_true rfl, Bool.true_and]
  refine allTo_ext fun i hi => ?_
  rw [mAt_eq, if_pos ((zrs_at x.size).2 i hi)]
theorem hasPrefix_strip (s : ByteArray) : Lib.hasPrefix s.data.toList [45] = decide ((stripB s).size < s.size) := by
  unfold stripB
  rw [bs_size, Lib.size_eq]
  unfold Lib.trimPrefix
  by_cases h : Lib.hasPrefix s.data.toList [45] = true
  · rw [h, if_pos rfl]
    have : 1 ≤ s.data.toList.length := by
      unfold Lib.hasPrefix at h
      obtain ⟨t, ht⟩ := List.isPrefixOf_iff_prefix.1 h
      rw [← ht]; simp
    symm
    rw [decide_eq_true_eq, List.length_drop]
    show s.data.toList.length - 1 < _
    omega
  · have h' : Lib.hasPrefix s.data.toList [45] = false := by simpa using h
    rw [h', if_neg (by simp)]
    symm
    rw [decide_eq_false_iff_not]
    omega
theorem cut_len (c : UInt8) (l : List UInt8) : (Lib.cut l [c]).1.length ≤ l.length ∧ (Lib.cut l [c]).2.1.length ≤ l.length := by
  rcases cut_split c l with ⟨a, b, rfl, _, h⟩ | ⟨_, h⟩
  · rw [h]; simp; omega
  · rw [h]; simp
set_option maxHeartbeats 3200000 in
set_option maxRecDepth 100000 in
theorem parseDuration_any (s : ByteArray) (w : World) (hs : s.size < 4294967281) (hg : Glo w) : Calls Tryz.prog 96 #[.string s] w (NumPost (durB s) w) := by
  have HR0 : Hid (∀ x : Int × Int, durB s = x → ∀ V, Below w.heap.size w V → NumPost (durB s) w (.returned (.tuple #[.int .i64 x.1, .int .i64 x.2])) V) := fun x hx V hV => ⟨by rw [hx], hV⟩
  have HBW := Lib.hid (Below.refl w.heap.size w)
  have hzt := negZ_eq s
  by_cases hz : s = negZ
  · rw [decide_eq_true hz] at hzt
    have HR : Hid (durB s = (0, 1)) := by show _ = _; rw [hz]; exact durB_negZ
    clear hz
    go_enter Tryz.func96, Tryz.ntmps96
    go_wp2_with fail
    go_ret2
    exact HR0.out _ HR.out _ HBW.out
  rw [decide_eq_false hz] at hzt
  have hP := durP_eq s
  unfold durP at hP
  rw [if_neg hz] at hP
  have hts : (stripB s).size ≤ s.size := by rw [stripB_size]; split <;> omega
  have hHP : Lib.hasPrefix s.data.toList [45] = decide ((stripB s).size < s.size) := hasPrefix_strip s
  have HTP : Hid (∀ V, Calls Tryz.prog 130 #[.string s, .string ⟨#[45]⟩] V fun e w' => e = .returned (.string (stripB s)) ∧ V = w') := fun V => trimPrefix_any s V
  have HHP : Hid (∀ V, Calls Tryz.prog 134 #[.string s, .string ⟨#[45]⟩] V fun e w' => e = .returned (.bool (decide ((stripB s).size < s.size))) ∧ w' = V) := fun V => hHP ▸ Tryz.strings_HasPrefix s ⟨#[45]⟩ V
  have hcl := cut_len 58 (stripB s).data.toList
  have HCU : Hid (∀ V, Glo V → Calls Tryz.prog 57 #[.string (stripB s), .string ⟨#[58]⟩] V fun e w' => e = .returned (.tuple #[.string (bs (Lib.cut (stripB s).data.toList [58]).1), .string (bs (Lib.cut (stripB s).data.toList [58]).2.1), .bool (Lib.cut (stripB s).data.toList [58]).2.2]) ∧ ∃ n, w' = V.drewN n) := fun V hV => by
    obtain ⟨m, hm⟩ := hV
    exact Tryz.strings_Cut (stripB s) ⟨#[58]⟩ m V (by omega) hm
  rw [← Lib.size_eq (stripB s)] at hcl
  generalize hneg : decide ((stripB s).size < s.size) = neg at *
  have hNP : ((stripB s).size < s.size) ↔ neg = true := by rw [← hneg]; simp
  generalize Lib.cut (stripB s).data.toList [58] = c at *
  obtain ⟨a, b, f⟩ := c
  simp only at hP HCU hcl
  rw [← bs_size a] at hP hcl
  rw [← bs_size b] at hcl
  obtain ⟨hxl, hyl⟩ := hcl
  generalize bs a = x at *
  generalize bs b = y at *
  have hnif : ∀ (p q : Int), (if (stripB s).size < s.size then p else q) = if neg = true then p else q := fun p q => by
    by_cases h : neg = true
    · rw [if_pos h, if_pos (hNP.2 h)]
    · rw [if_neg h, if_neg (fun h2 => h (hNP.1 h2))]
  rw [hnif] at hP
  have HP := Lib.hid hP
  have HGL := Lib.hid hg
  have hx2 : x.size < 4294967281 := by omega
  have hy2 : y.size < 4294967281 := by omega
  have HM2 : Hid (∀ V, Calls Tryz.prog 131 #[.string y, .string ⟨#[48, 48]⟩] V (BoolPostC (matchB y pat2) V)) := fun V => matches_any y pat2 V (by unfold maxLen; omega)
  have HMX : Hid (∀ V, Calls Tryz.prog 131 #[.string x, .string (zrs x.size)] V (BoolPostC (allTo (digAt x) x.size) V)) := fun V => match_zrs x ▸ matches_any x (zrs x.size) V (by unfold maxLen; omega)
  have HRP : Hid (∀ V, Calls Tryz.prog 132 #[.string ⟨#[48]⟩, .int .i64 x.size] V fun e w' => e = .returned (.string (zrs x.size)) ∧ Below V.heap.size V w') := fun V => Tryz.strings_Repeat ⟨#[48]⟩ x.size V (by omega) (by show 1 * x.size ≤ _; omega)
  have HNX : Hid (∀ V, x.size ≤ 11 → allTo (digAt x) x.size = true → Calls Tryz.prog 133 #[.string x] V fun e w' => e = .returned (.int .i64 (numTo x x.size)) ∧ V = w') := fun V h1 h2 => calNumber_any x V h1 h2
  have HNY : Hid (∀ V, matchB y pat2 = true → Calls Tryz.prog 133 #[.string y] V fun e w' => e = .returned (.int .i64 (numTo y 2)) ∧ V = w') := fun V h => by
    unfold matchB at h
    rw [Bool.and_eq_true, decide_eq_true_eq] at h
    have hys : y.size = 2 := h.1
    have hd : allTo (digAt y) y.size = true := by
      rw [← h.2]
      refine allTo_ext fun i hi => ?_
      have : i = 0 ∨ i = 1 := by omega
      rcases this with rfl | rfl <;> rfl
    have := calNumber_any y V (by omega) hd
    rw [hys] at this
    exact this
  have hxb : x.size ≤ 11 → allTo (digAt x) x.size = true → 0 ≤ numTo x x.size ∧ numTo x x.size ≤ 99999999999 := fun h1 h2 => by
    have h := numTo_bd x x.size h2
    have hb : bnd x.size ≤ bnd 11 := bnd_mono h1
    have e : bnd 11 = 99999999999 := rfl
    omega
  have hyb : matchB y pat2 = true → 0 ≤ numTo y 2 ∧ numTo y 2 ≤ 99 := fun h => by
    unfold matchB at h
    rw [Bool.and_eq_true, decide_eq_true_eq] at h
    have hys : y.size = 2 := h.1
    have hd : allTo (digAt y) 2 = true := by
      have := h.2
      rw [hys] at this
      rw [← this]
      refine allTo_ext fun i hi => ?_
      have : i = 0 ∨ i = 1 := by omega
      rcases this with rfl | rfl <;> rfl
    have h2 := numTo_bd y 2 hd
    have e : bnd 2 = 99 := rfl
    omega
  have HXB := Lib.hid hxb; have HYB := Lib.hid hyb
  unfold BoolPostC at HM2 HMX
  clear hP hts hHP hnif hg hneg hNP hxl hyl hz hxb hyb
  generalize matchB y pat2 = my at *
  generalize allTo (digAt x) x.size = dx at *
  go_enter Tryz.func96, Tryz.ntmps96
  go_wp2_with fail
  refine (HTP.out _).mono ?_
  rintro e w' ⟨rfl, rfl⟩
  go_wp2_with fail
  refine (HCU.out _ HGL.out).mono ?_
  rintro e w1 ⟨rfl, n1, hw1⟩
  have HB1 : Hid (Below w.heap.size w w1) := by show Below _ _ _; rw [hw1]; exact below_drewN (Below.refl _ _) n1
  clear hw1 HCU HTP HGL
  cases f with
  | false =>
    have HR : Hid (durB s = (0, 1)) := by show _ = _; rw [← HP.out, if_pos (.inl rfl)]
    clear HP
    go_wp2_with fail
    go_ret2
    exact HR0.out _ HR.out _ HB1.out
  | true =>
  by_cases h1 : x.size < 1
  · have HR : Hid (durB s = (0, 1)) := by show _ = _; rw [← HP.out, if_pos (.inr (.inl h1))]
    have h1' : (x.size : Int) < 1 := by omega
    clear HP h1
    go_wp2_with fail
    go_ret2
    exact HR0.out _ HR.out _ HB1.out
  have h1' : ¬ (x.size : Int) < 1 := by omega
  by_cases h11 : 11 < x.size
  · have HR : Hid (durB s = (0, 1)) := by show _ = _; rw [← HP.out, if_pos (.inr (.inr (.inl h11)))]
    have h11' : 11 < (x.size : Int) := by omega
    clear HP h11
    go_wp2_with fail
    go_ret2
    exact HR0.out _ HR.out _ HB1.out
  have h11' : ¬ 11 < (x.size : Int) := by omega
  go_wp2_with fail
  refine (HM2.out _).mono ?_
  rintro e w2 ⟨rfl, hb2⟩
  have HB2 : Hid (Below w.heap.size w w2) := HB1.out.trans (hb2.mono HB1.out.size)
  clear hb2 HB1
  cases my with
  | false =>
    have HR : Hid (durB s = (0, 1)) := by show _ = _; rw [← HP.out, if_pos (.inr (.inr (.inr rfl)))]
    clear HP
    go_wp2_with fail
    go_ret2
    exact HR0.out _ HR.out _ HB2.out
  | true =>
  go_wp2_with fail
  refine (HRP.out _).mono ?_
  rintro e w3 ⟨rfl, hb3⟩
  have HB3 : Hid (Below w.heap.size w w3) := HB2.out.trans (hb3.mono HB2.out.size)
  clear hb3 HB2
  go_wp2_with fail
  refine (HMX.out _).mono ?_
  rintro e w4 ⟨rfl, hb4⟩
  have HB4 : Hid (Below w.heap.size w w4) := HB3.out.trans (hb4.mono HB3.out.size)
  clear hb4 HB3
  have HP2 : Hid ((if dx = false ∨ (byteAt x 0 = 48 ∧ 1 < x.size) then (0, 1) else
        if 59 < numTo y 2 ∨ 1099511627776 < 60 * numTo x x.size + numTo y 2 then (0, 5) else
          ((if neg = true then -(60 * numTo x x.size + numTo y 2) else 60 * numTo x x.size + numTo y 2), 0)) = durB s) := by
    have h9 := HP.out
    rw [if_neg (by rintro (h | h | h | h) <;> first | cases h | omega)] at h9
    exact h9
  clear HP
  cases dx with
  | false =>
    have HR : Hid (durB s = (0, 1)) := by show _ = _; rw [← HP2.out, if_pos (.inl rfl)]
    clear HP2
    go_wp2_with fail
    go_ret2
    exact HR0.out _ HR.out _ HB4.out
  | true =>
  have hx0 : 0 < x.size := by omega
  have hx0' : (0 : Int) < (x.size : Int) := by omega
  have HBX := Lib.hid (byteAt_eq x 0 hx0)
  by_cases hz : byteAt x 0 = 48 ∧ 1 < x.size
  · have HR : Hid (durB s = (0, 1)) := by show _ = _; rw [← HP2.out, if_pos (.inr hz)]
    have e0 : ((x[0].toNat : Int) == 48) = true := by rw [HBX.out]; simpa using hz.1
    have e1 : 1 < (x.size : Int) := by omega
    clear HP2 hz
    go_wp2_with fail
    go_ret2
    exact HR0.out _ HR.out _ HB4.out
  have HP3 : Hid ((if 59 < numTo y 2 ∨ 1099511627776 < 60 * numTo x x.size + numTo y 2 then (0, 5) else
          ((if neg = true then -(60 * numTo x x.size + numTo y 2) else 60 * numTo x x.size + numTo y 2), 0)) = durB s) := by
    have h9 := HP2.out
    rw [if_neg (by rintro (h | h) <;> first | exact hz h | cases h)] at h9
    exact h9
  have hzz : ((x[0].toNat : Int) == 48) = false ∨ (((x[0].toNat : Int) == 48) = true ∧ ¬ 1 < (x.size : Int)) := by
    rw [HBX.out]
    by_cases h : byteAt x 0 = 48
    · exact .inr ⟨by simpa using h, fun h2 => hz ⟨h, by omega⟩⟩
    · exact .inl (by simpa using h)
  have hxx := HXB.out (by omega) (by first | rfl | trivial)
  have hyy := HYB.out (by first | rfl | trivial)
  have HNX2 : Hid (∀ V, Calls Tryz.prog 133 #[.string x] V fun e w' => e = .returned (.int .i64 (numTo x x.size)) ∧ V = w') := fun V => HNX.out V (by omega) (by first | rfl | trivial)
  have HNY2 : Hid (∀ V, Calls Tryz.prog 133 #[.string y] V fun e w' => e = .returned (.int .i64 (numTo y 2)) ∧ V = w') := fun V => HNY.out V (by first | rfl | trivial)
  clear HP2 hz HBX HXB HYB HNX HNY
  generalize numTo x x.size = h at *
  generalize numTo y 2 = m at *
  have q1 : IntKind.i64.wrap (h * 60) = h * 60 := IntWalk.i64_in _ (by omega)
  have q2 : IntKind.i64.wrap (h * 60 + m) = 60 * h + m := by rw [Int.mul_comm h 60]; exact IntWalk.i64_in _ (by omega)
  have q3 : IntKind.i64.wrap (-(60 * h + m)) = -(60 * h + m) := IntWalk.i64_in _ (by omega)
  rcases hzz with hzz | ⟨hzz, hz1⟩
  all_goals
    go_wp2_with fail
    refine (HNX2.out _).mono ?_
    rintro e w' ⟨rfl, rfl⟩
    go_wp2_with fail
    refine (HNY2.out _).mono ?_
    rintro e w' ⟨rfl, rfl⟩
    go_wp2_with fail
    refine (HNY2.out _).mono ?_
    rintro e w' ⟨rfl, rfl⟩
    by_cases hbig : 59 < m ∨ 1099511627776 < 60 * h + m
    · have HR : Hid (durB s = (0, 5)) := by show _ = _; rw [← HP3.out, if_pos hbig]
      have hb2 : (59 < m) ∨ (¬ 59 < m ∧ 1099511627776 < 60 * h + m) := by omega
      clear HP3 hbig
      rcases hb2 with hb2 | ⟨hb2, hb3⟩
      all_goals
        go_wp2_with fail
        go_ret2
        exact HR0.out _ HR.out _ HB4.out
    · have HR : Hid (durB s = ((if neg = true then -(60 * h + m) else 60 * h + m), 0)) := by show _ = _; rw [← HP3.out, if_neg hbig]
      have hb2 : ¬ 59 < m := by omega
      have hb3 : ¬ 1099511627776 < 60 * h + m := by omega
      clear HP3 hbig
      go_wp2_with fail
      refine (HHP.out _).mono ?_
      rintro e w' ⟨rfl, rfl⟩
      cases neg with
      | true =>
        go_wp2_with fail
        go_ret2
        exact HR0.out _ HR.out _ HB4.out
      | false =>
        go_wp2_with fail
        go_ret2
        exact HR0.out _ HR.out _ HB4.out
def DurTxtP (n : Int) (w : World) (e : Ending) (w' : World) : Prop := e = .returned (.tuple #[.string (durF n), .int .i64 0]) ∧ Below w.heap.size w w'
theorem durF_partsP {n : Int} (h : -1099511627776 ≤ n ∧ n ≤ 1099511627776) : (numS ((n.natAbs / 60 : Nat))).size ≤ 11 ∧ (padB ((n.natAbs % 60 : Nat)) 2).size ≤ 2 := by
  refine ⟨?_, ?_⟩
  · rw [numS_nat, bs_size]; exact nDigits_11 _ (by omega)
  · rw [pad2 (by omega), bs_size]; exact Nat.le_refl 2
set_option maxHeartbeats 1600000 in
set_option maxRecDepth 100000 in
theorem formatDuration_any (n : Int) (w : World) (h : -1099511627776 ≤ n ∧ n ≤ 1099511627776) (hp : Pow10 w) : Calls Tryz.prog 75 #[.int .i64 n] w (DurTxtP n w) := by
  obtain ⟨z1, z2⟩ := durF_partsP h
  have HPW : Hid (∀ V, Below w.heap.size w V → Pow10 V) := fun V hV => hp.next hV
  have HF1 : Hid (∀ V, Below w.heap.size w V → Calls Tryz.prog 38 #[.int .i64 ((n.natAbs / 60 : Nat) : Int)] V fun e w' => e = .returned (.string (numS ((n.natAbs / 60 : Nat)))) ∧ Below V.heap.size V w') := fun V hV => formatInt_any _ V (by omega) (by omega) (HPW.out V hV)
  have hns : ((numS ((n.natAbs % 60 : Nat) : Int)).size : Int) ≥ 1 := by
    rw [numS_nat, bs_size]
    have := dec_pos (n.natAbs % 60)
    omega
  have HF2 : Hid (∀ V, Below w.heap.size w V → Calls Tryz.prog 118 #[.int .i64 ((n.natAbs % 60 : Nat) : Int), .int .i64 2] V (StrB (padB ((n.natAbs % 60 : Nat)) 2) V)) := fun V hV => padded_any _ 2 V (by omega) (by omega) (by omega) (by omega) (HPW.out V hV)
  unfold StrB at HF2
  have HQ : Hid (durF n = (if n < 0 then dashS else emS) ++ numS ((n.natAbs / 60 : Nat)) ++ colS ++ padB ((n.natAbs % 60 : Nat)) 2) := rfl
  have u0 : ¬ n < -1099511627776 := by omega
  have u1 : ¬ 1099511627776 < n := by omega
  have HDF : Hid ((∀ (x : ByteArray), (⟨#[45]⟩ : ByteArray) = dashS ∧ (⟨#[]⟩ : ByteArray) = emS ∧ (⟨#[58]⟩ : ByteArray) = colS)) := fun _ => ⟨rfl, rfl, rfl⟩
  have HBR := Lib.hid (Below.refl w.heap.size w)
  by_cases hn : n < 0
  · have HR : Hid (durF n = (⟨#[45]⟩ : ByteArray) ++ numS ((n.natAbs / 60 : Nat)) ++ (⟨#[58]⟩ : ByteArray) ++ padB ((n.natAbs % 60 : Nat)) 2) := by show _ = _; rw [HQ.out, if_pos hn]; rfl
    obtain ⟨a, ha⟩ : ∃ a : Nat, n.natAbs = a := ⟨_, rfl⟩
    have hna : n = -(a : Int) := by omega
    rw [ha] at HF1 HF2 HR z1 z2
    have q1 : IntKind.i64.wrap (-n) = (a : Int) := by rw [hna, Int.neg_neg]; exact IntWalk.i64_in _ (by omega)
    have q2 : (a : Int).tdiv 60 = ((a / 60 : Nat) : Int) := by rw [Int.tdiv_eq_ediv_of_nonneg (by omega)]; omega
    have q3 : (a : Int).tmod 60 = ((a % 60 : Nat) : Int) := by rw [Int.tmod_eq_emod_of_nonneg (by omega)]; omega
    have hal : a ≤ 1099511627776 := by omega
    have q4 : IntKind.i64.wrap ((a / 60 : Nat) : Int) = ((a / 60 : Nat) : Int) := IntWalk.i64_in _ (by omega)
    have q5 : IntKind.i64.wrap ((a % 60 : Nat) : Int) = ((a % 60 : Nat) : Int) := IntWalk.i64_in _ (by omega)
    generalize numS ((a / 60 : Nat)) = P1 at *
    generalize padB ((a % 60 : Nat)) 2 = P2 at *
    generalize a / 60 = d1 at *
    generalize a % 60 = d2 at *
    clear HQ ha hna hns
    have qa0a : ¬ 9223372036854775807 < 1 + P1.size := by omega
    have qa0b : ¬ 9223372036854775807 < ((⟨#[45]⟩ : ByteArray)).size + P1.size := by rw [show ((⟨#[45]⟩ : ByteArray)).size = 1 by first | rfl | (simp only [ByteArray.size_append]; rfl)]; omega
    have qa1a : ¬ 9223372036854775807 < 1 + P1.size + 1 := by omega
    have qa1b : ¬ 9223372036854775807 < ((⟨#[45]⟩ : ByteArray) ++ P1).size + 1 := by rw [show ((⟨#[45]⟩ : ByteArray) ++ P1).size = 1 + P1.size by first | rfl | (simp only [ByteArray.size_append]; rfl)]; omega
    have qa2a : ¬ 9223372036854775807 < 1 + P1.size + 1 + P2.size := by omega
    have qa2b : ¬ 9223372036854775807 < ((⟨#[45]⟩ : ByteArray) ++ P1 ++ (⟨#[58]⟩ : ByteArray)).size + P2.size := by rw [show ((⟨#[45]⟩ : ByteArray) ++ P1 ++ (⟨#[58]⟩ : ByteArray)).size = 1 + P1.size + 1 by first | rfl | (simp only [ByteArray.size_append]; rfl)]; omega
    clear hal HDF h
    go_enter Tryz.func75, Tryz.ntmps75
    go_wp2_with fail
    refine (HF1.out _ HBR.out).mono ?_
    rintro e w1 ⟨rfl, hb1⟩
    have HB1 := Lib.hid hb1
    clear hb1
    go_wp2_with fail
    refine (HF2.out _ HB1.out).mono ?_
    rintro e w2 ⟨rfl, hb2⟩
    have HB2 : Hid (Below w.heap.size w w2) := HB1.out.trans (hb2.mono HB1.out.size)
    clear hb2
    go_wp2_with fail
    go_ret2
    exact ⟨by rw [HR.out]; rfl, HB2.out⟩
  · have HR : Hid (durF n = (⟨#[]⟩ : ByteArray) ++ numS ((n.natAbs / 60 : Nat)) ++ (⟨#[58]⟩ : ByteArray) ++ padB ((n.natAbs % 60 : Nat)) 2) := by show _ = _; rw [HQ.out, if_neg hn]; rfl
    obtain ⟨a, ha⟩ : ∃ a : Nat, n.natAbs = a := ⟨_, rfl⟩
    have hna : n = (a : Int) := by omega
    rw [ha] at HF1 HF2 HR z1 z2
    subst hna
    have q2 : (a : Int).tdiv 60 = ((a / 60 : Nat) : Int) := by rw [Int.tdiv_eq_ediv_of_nonneg (by omega)]; omega
    have q3 : (a : Int).tmod 60 = ((a % 60 : Nat) : Int) := by rw [Int.tmod_eq_emod_of_nonneg (by omega)]; omega
    have q4 : IntKind.i64.wrap ((a / 60 : Nat) : Int) = ((a / 60 : Nat) : Int) := IntWalk.i64_in _ (by omega)
    have q5 : IntKind.i64.wrap ((a % 60 : Nat) : Int) = ((a % 60 : Nat) : Int) := IntWalk.i64_in _ (by omega)
    generalize numS ((a / 60 : Nat)) = P1 at *
    generalize padB ((a % 60 : Nat)) 2 = P2 at *
    generalize a / 60 = d1 at *
    generalize a % 60 = d2 at *
    clear HQ ha hns
    have qa0a : ¬ 9223372036854775807 < 0 + P1.size := by omega
    have qa0b : ¬ 9223372036854775807 < ((⟨#[]⟩ : ByteArray)).size + P1.size := by rw [show ((⟨#[]⟩ : ByteArray)).size = 0 by first | rfl | (simp only [ByteArray.size_append]; rfl)]; omega
    have qa1a : ¬ 9223372036854775807 < 0 + P1.size + 1 := by omega
    have qa1b : ¬ 9223372036854775807 < ((⟨#[]⟩ : ByteArray) ++ P1).size + 1 := by rw [show ((⟨#[]⟩ : ByteArray) ++ P1).size = 0 + P1.size by first | rfl | (simp only [ByteArray.size_append]; rfl)]; omega
    have qa2a : ¬ 9223372036854775807 < 0 + P1.size + 1 + P2.size := by omega
    have qa2b : ¬ 9223372036854775807 < ((⟨#[]⟩ : ByteArray) ++ P1 ++ (⟨#[58]⟩ : ByteArray)).size + P2.size := by rw [show ((⟨#[]⟩ : ByteArray) ++ P1 ++ (⟨#[58]⟩ : ByteArray)).size = 0 + P1.size + 1 by first | rfl | (simp only [ByteArray.size_append]; rfl)]; omega
    clear HDF h
    go_enter Tryz.func75, Tryz.ntmps75
    go_wp2_with fail
    refine (HF1.out _ HBR.out).mono ?_
    rintro e w1 ⟨rfl, hb1⟩
    have HB1 := Lib.hid hb1
    clear hb1
    go_wp2_with fail
    refine (HF2.out _ HB1.out).mono ?_
    rintro e w2 ⟨rfl, hb2⟩
    have HB2 : Hid (Below w.heap.size w w2) := HB1.out.trans (hb2.mono HB1.out.size)
    clear hb2
    go_wp2_with fail
    go_ret2
    exact ⟨by rw [HR.out]; rfl, HB2.out⟩
theorem durTxt_any (n : Int) (w : World) (h : -1099511627776 ≤ n ∧ n ≤ 1099511627776) (hp : Pow10 w) : Calls Tryz.prog 36 #[.int .i64 n] w (StrB (durF n) w) := by
  have HC := Lib.hid (formatDuration_any n w h hp)
  unfold DurTxtP at HC
  generalize durF n = x at *
  clear h
  go_enter Tryz.func36, Tryz.ntmps36
  go_wp2_with fail
  refine HC.out.mono ?_
  rintro e w1 ⟨rfl, hb1⟩
  go_wp2_with fail
  go_ret
  exact ⟨rfl, hb1⟩
theorem instantTxt_any (t : Int) (w : World) (h0 : 0 ≤ t) (h1 : t < 52596000) (hp : Pow10 w) : Calls Tryz.prog 37 #[.int .i64 t] w (StrB (insD t ++ blankS ++ insC t) w) := by
  have HC := Lib.hid (formatInstant_any t w h0 h1 hp)
  have HE : Hid (∀ s, IsIns t s → s = insD t ++ blankS ++ insC t) := fun s hs => hs.eqT h0 h1
  unfold InsPost at HC
  clear h0 h1 hp
  go_enter Tryz.func37, Tryz.ntmps37
  go_wp2_with fail
  refine HC.out.mono ?_
  rintro e w1 ⟨s, rfl, hi, hb1⟩
  have HI := Lib.hid hi
  clear hi
  go_wp2_with fail
  go_ret
  exact ⟨by rw [HE.out s HI.out]; rfl, hb1⟩
end Go.Proofs.YtldeoaddogifpaaGreatDoor
/-
  Plain: what a parser of a timetable's text does with a line and with all lines; sizes.
  No condition.
-/
namespace Go.Proofs.YtldeoaddogifpaaGreatDoor
set_option linter.unusedSimpArgs false
set_option linter.unusedVariables false
open Go.RowKit

/-- Field i, the empty string past the end. -/
def fld (f : List ByteArray) (i : Nat) : ByteArray := f.getD i emS
def zoneS : ByteArray := ⟨#[122, 111, 110, 101]⟩
def airS : ByteArray := ⟨#[97, 105, 114, 112, 111, 114, 116]⟩
def fliS : ByteArray := ⟨#[102, 108, 105, 103, 104, 116]⟩
/-- Two fields read as an instant. -/
def insF (f : List ByteArray) (i : Nat) : Int × Int := insB (fld f i ++ spS ++ fld f (i + 1))
def shiftF (f : List ByteArray) (k : Nat) : GShift := ⟨(insF f (3 + 3 * k)).1, (durB (fld f (5 + 3 * k))).1⟩
def shiftBad (f : List ByteArray) (k : Nat) : Bool := decide ((insF f (3 + 3 * k)).2 ≠ 0) || decide ((durB (fld f (5 + 3 * k))).2 ≠ 0)
def shiftsF (f : List ByteArray) (k : Nat) : List GShift := (List.range k).map (shiftF f)
def shiftsBad (f : List ByteArray) (k : Nat) : Bool := (List.range k).any (shiftBad f)
def zoneF (f : List ByteArray) : GZone := ⟨fld f 1, (durB (fld f 2)).1, shiftsF f ((f.length - 3) / 3)⟩
def zoneBad (f : List ByteArray) : Bool := decide (f.length < 3) || decide ((f.length - 3) % 3 ≠ 0) || decide ((durB (fld f 2)).2 ≠ 0) || shiftsBad f ((f.length - 3) / 3)
def flightF (f : List ByteArray) : GFlight := ⟨fld f 1, fld f 2, fld f 3, (insF f 5).1, (insF f 7).1, fld f 4, (parseB (fld f 9)).1, (parseB (fld f 10)).1, (parseB (fld f 11)).1⟩
def flightBad (f : List ByteArray) : Bool := decide (f.length ≠ 12) || decide ((insF f 5).2 ≠ 0) || decide ((insF f 7).2 ≠ 0) || decide ((parseB (fld f 9)).2 ≠ 0) || decide ((parseB (fld f 10)).2 ≠ 0) || decide ((parseB (fld f 11)).2 ≠ 0)
def GTT.addZ (t : GTT) (z : GZone) : GTT := ⟨t.zones ++ [z], t.airports, t.flights⟩
def GTT.addA (t : GTT) (a : GAirport) : GTT := ⟨t.zones, t.airports ++ [a], t.flights⟩
def GTT.addF (t : GTT) (x : GFlight) : GTT := ⟨t.zones, t.airports, t.flights ++ [x]⟩
def emTT : GTT := ⟨[], [], []⟩
/-- A line's fields: the timetable after it, none if the line has not its form. -/
def lineT9 (f : List ByteArray) (t : GTT) : Option GTT :=
  if fld f 0 = zoneS then (if zoneBad f = true then none else some (t.addZ (zoneF f)))
  else if fld f 0 = airS then (if f.length ≠ 3 then none else some (t.addA ⟨fld f 1, fld f 2⟩))
  else if fld f 0 = fliS then (if flightBad f = true then none else some (t.addF (flightF f)))
  else none
def stepT9 (s : ByteArray) (t : GTT) : Option GTT := if fieldsB s = [] then some t else lineT9 (fieldsB s) t
/-- The timetable after k lines (a line of no form adds nothing), and whether line k has no form. -/
def ttAt (ls : List ByteArray) : Nat → GTT
  | 0 => emTT
  | k + 1 => (stepT9 (ls.getD k emS) (ttAt ls k)).getD (ttAt ls k)
def ttBad (ls : List ByteArray) (k : Nat) : Bool := (stepT9 (ls.getD k emS) (ttAt ls k)).isNone
/-- timetable.Parse: the timetable, the line, the error. -/
def parseT (s : ByteArray) : GTT × Int × Int :=
  if (linesB s).2 ≠ 0 then (emTT, 0, (linesB s).2) else
    match (List.range (linesB s).1.length).find? (ttBad (linesB s).1) with
    | some k => (emTT, (k : Int) + 1, 1)
    | none => if ttE (ttAt (linesB s).1 (linesB s).1.length) ≠ 0 then (emTT, 0, ttE (ttAt (linesB s).1 (linesB s).1.length)) else (ttAt (linesB s).1 (linesB s).1.length, 0, 0)
theorem parseT_bad {s : ByteArray} {k : Nat} (h2 : (linesB s).2 = 0) (hk : k < (linesB s).1.length) (he : ttBad (linesB s).1 k = true) (hn : ∀ j, j < k → ttBad (linesB s).1 j = false) :
    parseT s = (emTT, (k : Int) + 1, 1) := by
  unfold parseT
  rw [if_neg (by simp [h2]), find_first hk he hn]
theorem parseT_all {s : ByteArray} (h2 : (linesB s).2 = 0) (hn : ∀ j, j < (linesB s).1.length → ttBad (linesB s).1 j = false) :
    parseT s = if ttE (ttAt (linesB s).1 (linesB s).1.length) ≠ 0 then (emTT, 0, ttE (ttAt (linesB s).1 (linesB s).1.length)) else (ttAt (linesB s).1 (linesB s).1.length, 0, 0) := by
  unfold parseT
  rw [if_neg (by simp [h2]), find_no hn]
theorem ttAt_succ {ls : List ByteArray} {k : Nat} {t : GTT} (h : stepT9 (ls.getD k emS) (ttAt ls k) = some t) : ttAt ls (k + 1) = t ∧ ttBad ls k = false := by
  refine ⟨?_, ?_⟩
  · show (stepT9 (ls.getD k emS) (ttAt ls k)).getD (ttAt ls k) = t
    rw [h]; rfl
  · unfold ttBad; rw [h]; rfl
theorem ttBad_of {ls : List ByteArray} {k : Nat} (h : stepT9 (ls.getD k emS) (ttAt ls k) = none) : ttBad ls k = true := by
  unfold ttBad; rw [h]; rfl
theorem shiftsF_succ (f : List ByteArray) (k : Nat) : shiftsF f (k + 1) = shiftsF f k ++ [shiftF f k] := by
  unfold shiftsF
  rw [List.range_succ, List.map_append]
  rfl
theorem shiftsF_len (f : List ByteArray) (k : Nat) : (shiftsF f k).length = k := by simp [shiftsF]
theorem shiftsBad_succ (f : List ByteArray) (k : Nat) : shiftsBad f (k + 1) = (shiftsBad f k || shiftBad f k) := by
  unfold shiftsBad
  rw [List.range_succ, List.any_append]
  simp
theorem shiftsBad_hit {f : List ByteArray} {k n : Nat} (hk : k < n) (h : shiftBad f k = true) : shiftsBad f n = true := by
  unfold shiftsBad
  rw [List.any_eq_true]
  exact ⟨k, List.mem_range.2 hk, h⟩
theorem fld_at {f : List ByteArray} {i : Nat} (h : i < f.length) : f[i]? = some (fld f i) := by
  unfold fld
  rw [List.getD_eq_getElem?_getD, List.getElem?_eq_getElem h]
  rfl
theorem fld_le {f : List ByteArray} {m : Nat} (hf : ∀ x ∈ f, x.size ≤ m) (i : Nat) : (fld f i).size ≤ m := by
  unfold fld
  rw [List.getD_eq_getElem?_getD]
  cases h : f[i]? with
  | none => exact Nat.zero_le _
  | some x => exact hf x (List.mem_of_getElem? h)
/-- What holds of the timetable on the way: sizes. -/
def TtOk (m : Nat) (t : GTT) : Prop := t.ok ∧ t.zones.length ≤ m ∧ t.airports.length ≤ m ∧ t.flights.length ≤ m
theorem TtOk.nil : TtOk 0 emTT := ⟨⟨fun x hx => (by cases hx), fun x hx => (by cases hx), fun x hx => (by cases hx)⟩, Nat.le_refl _, Nat.le_refl _, Nat.le_refl _⟩
theorem TtOk.more {m : Nat} {t : GTT} (h : TtOk m t) : TtOk (m + 1) t := ⟨h.1, Nat.le_succ_of_le h.2.1, Nat.le_succ_of_le h.2.2.1, Nat.le_succ_of_le h.2.2.2⟩
theorem ins_i64 (s : ByteArray) : -9223372036854775808 ≤ (insB s).1 ∧ (insB s).1 ≤ 9223372036854775807 := by have := insB_bd s; omega
theorem dur_i64 (s : ByteArray) : -9223372036854775808 ≤ (durB s).1 ∧ (durB s).1 ≤ 9223372036854775807 := by have := dur_bd s; omega
theorem par_i64 (s : ByteArray) : -9223372036854775808 ≤ (parseB s).1 ∧ (parseB s).1 ≤ 9223372036854775807 := by have := parseB_bd s; omega
theorem TtOk.line {m : Nat} {t : GTT} (h : TtOk m t) {f : List ByteArray} (hf : ∀ x ∈ f, x.size ≤ 20000) {t' : GTT} (he : lineT9 f t = some t') : TtOk (m + 1) t' := by
  have hml : (20000 : Nat) ≤ maxLen := by unfold maxLen; omega
  have hfl : ∀ i, (fld f i).size ≤ maxLen := fun i => Nat.le_trans (fld_le hf i) hml
  unfold lineT9 at he
  obtain ⟨⟨o1, o2, o3⟩, l1, l2, l3⟩ := h
  split at he
  · split at he
    · cases he
    · injection he with he
      subst he
      refine ⟨⟨fun z hz => ?_, o2, o3⟩, by simp [GTT.addZ]; exact l1, Nat.le_succ_of_le l2, Nat.le_succ_of_le l3⟩
      rcases List.mem_append.1 hz with h1 | h1
      · exact o1 z h1
      · obtain rfl := List.mem_singleton.1 h1
        refine ⟨hfl 1, dur_i64 _, fun s hs => ?_⟩
        obtain ⟨k, _, rfl⟩ := List.mem_map.1 hs
        exact ⟨ins_i64 _, dur_i64 _⟩
  · split at he
    · split at he
      · cases he
      · injection he with he
        subst he
        refine ⟨⟨o1, fun a ha => ?_, o3⟩, Nat.le_succ_of_le l1, by simp [GTT.addA]; exact l2, Nat.le_succ_of_le l3⟩
        rcases List.mem_append.1 ha with h1 | h1
        · exact o2 a h1
        · obtain rfl := List.mem_singleton.1 h1
          exact ⟨hfl 1, hfl 2⟩
    · split at he
      · split at he
        · cases he
        · injection he with he
          subst he
          refine ⟨⟨o1, o2, fun x hx => ?_⟩, Nat.le_succ_of_le l1, Nat.le_succ_of_le l2, by simp [GTT.addF]; exact l3⟩
          rcases List.mem_append.1 hx with h1 | h1
          · exact o3 x h1
          · obtain rfl := List.mem_singleton.1 h1
            exact ⟨hfl 1, hfl 2, hfl 3, hfl 4, ins_i64 _, ins_i64 _, par_i64 _, par_i64 _, par_i64 _⟩
      · cases he
theorem TtOk.step {m : Nat} {t : GTT} (h : TtOk m t) {s : ByteArray} (hs : s.size ≤ 20000) {t' : GTT} (he : stepT9 s t = some t') : TtOk (m + 1) t' := by
  unfold stepT9 at he
  split at he
  · injection he with he; subst he; exact h.more
  · exact h.line (fun x hx => Nat.le_trans (fieldsB_mem hx) hs) he
theorem TtOk.at_ {ls : List ByteArray} (hl : ∀ x ∈ ls, x.size ≤ 20000) : ∀ k, TtOk k (ttAt ls k)
  | 0 => TtOk.nil
  | k + 1 => by
    have ih := TtOk.at_ hl k
    have hs : (ls.getD k emS).size ≤ 20000 := by
      rw [List.getD_eq_getElem?_getD]
      cases h : ls[k]? with
      | none => exact Nat.zero_le _
      | some x => exact hl x (List.mem_of_getElem? h)
    show TtOk (k + 1) ((stepT9 (ls.getD k emS) (ttAt ls k)).getD (ttAt ls k))
    cases h : stepT9 (ls.getD k emS) (ttAt ls k) with
    | none => exact ih.more
    | some t' => exact ih.step hs h
end Go.Proofs.YtldeoaddogifpaaGreatDoor
/-
  append of a whole slice of plain data to a row of the call's own, and slices.Clone over shifts.
  Condition: the slice reads as a list.
-/
namespace Go.Proofs.YtldeoaddogifpaaGreatDoor
set_option linter.unusedSimpArgs false
set_option linter.unusedVariables false
open Go.RowKit

/-- Data without inner blocks. -/
def Ty.Flat {α : Type} (t : Ty α) : Prop := ∀ {w w' : World} {S S' : Nat → Prop} {cs : List Value} {x : α}, t.rep w S cs x → t.rep w' S' cs x
theorem flat_shift : Ty.shift.Flat := fun h => h
theorem flat_str : Ty.str.Flat := fun h => h
theorem flat_int (k : IntKind) : (Ty.int k).Flat := fun h => h
theorem flat_airport : Ty.airport.Flat := fun h => h
theorem flat_flight : Ty.flight.Flat := fun h => h
section
variable {α : Type} {t : Ty α} {w w' : World} {S : Nat → Prop} {n c : Nat} {xs : List α}
theorem RepAll.flat {S' : Nat → Prop} {cs : List Value} (ht : t.Flat) (h : RepAll t w S cs xs) : RepAll t w' S' cs xs := ⟨h.1, fun i x hi => ht (h.2 i x hi)⟩
/-- The cells of a slice, one behind the other. -/
theorem Sl.cells {ad : Addr} (h : Sl t w S (some ad) n c xs) : ∃ cs, RepAll t w S cs xs ∧ (∀ j u, cs[j]? = some u → w.cell? (ad.add j) = some u) ∧ ∀ u ∈ cs, u.oneCell' = true := by
  obtain ⟨h1, h2, h3, h4⟩ := h
  rcases Nat.eq_zero_or_pos n with h0 | h0
  · have : xs = [] := List.eq_nil_of_length_eq_zero (by omega)
    subst this
    exact ⟨[], RepAll.nil _ _ _, fun j u hu => by simp at hu, fun u hu => by cases hu⟩
  · obtain ⟨b, o, e, hs, hx⟩ := h4 h0
    cases e
    have key : ∀ k, k ≤ xs.length → ∃ cs, RepAll t w S cs (xs.take k) ∧ At w b o cs ∧ ∀ u ∈ cs, u.oneCell' = true := fun k => by
      induction k with
      | zero => exact fun _ => ⟨[], RepAll.nil _ _ _, fun j u hu => by simp at hu, fun u hu => by cases hu⟩
      | succ k ih =>
        intro hk
        obtain ⟨cs, hr, ha, ho⟩ := ih (by omega)
        obtain ⟨c1, hr1, ha1⟩ := hx k _ (List.getElem?_eq_getElem (by omega))
        refine ⟨cs ++ c1, ?_, fun j u hu => ?_, fun u hu => ?_⟩
        · rw [List.take_succ_eq_append_getElem (by omega)]
          exact hr.snoc hr1
        · have hl : cs.length = k * t.size := by rw [hr.1, List.length_take]; congr 1; omega
          rcases Nat.lt_or_ge j cs.length with hj | hj
          · exact ha j u (by rwa [List.getElem?_append_left hj] at hu)
          · rw [List.getElem?_append_right hj] at hu
            have := ha1 _ u hu
            rw [hl] at this hj
            rw [← this]
            congr 2
            omega
        · rcases List.mem_append.1 hu with hu | hu
          · exact ho u hu
          · exact t.one hr1 u hu
    obtain ⟨cs, hr, ha, ho⟩ := key xs.length (Nat.le_refl _)
    rw [List.take_length] at hr
    exact ⟨cs, hr, fun j u hu => by rw [addr_add]; exact ha j u hu, ho⟩
theorem Own.made {e : TypeId} {base cap : Nat} {cur : Array Value} (hb : base ≤ w.heap.size) (hm : cap ≤ maxLen) (hs : cur.size = cap * t.size) : Own t e (w.alloc (.cells cur e)) base (.slice (some ⟨w.heap.size, 0, none⟩) 0 cap) ([] : List α) :=
  ⟨[], World.ownsRow_made w cur cap hb hm hs, RepAll.nil _ _ _⟩
/-- append of a slice of plain data. -/
theorem wpList_concat {P : Program} {ops : Array Oper} {rest : List Oper} {o : Oper} {a : Act} {Q : Exit → Act → World → Prop} {T e : TypeId} {v : Value} {base : Nat} {ys : List α} (ht : t.Flat) (hgd : o.guard = none) (s x : Operand)
    (ho : o.op = .call { callee := .builtin .append, args := #[s, x], argTypes := #[T, T] }) (bytes : Nat) (he : Elem P T e t.size bytes) (hs : a.eval s = v) (hown : Own t e w base v xs)
    (ad : Addr) (m c : Nat) (hx : a.eval x = .slice (some ad) m c) (hy : Sl t w S (some ad) m c ys)
    (hlen : (xs.length + m) * bytes ≤ 140737488355328) (hpos : 0 < bytes) (hbase : base ≤ w.heap.size)
    (h : ∀ v' w', Own t e w' base v' (xs ++ ys) → w.grownBy w' v.ownBlock → wpList P ops Q rest (a.put o.dst v') w') : wpList P ops Q (o :: rest) a w := by
  obtain ⟨i, z, hi, hz, h1, h2, h3⟩ := he.parts
  obtain ⟨cs, hown1, hown2⟩ := hown
  have hm := hy.len
  obtain ⟨c1, hr, hat, hone⟩ := hy.cells
  have h63 : xs.length + m ≤ maxLen := by
    have := Nat.le_mul_of_pos_right (xs.length + m) hpos
    unfold maxLen
    omega
  refine wpList_append_own_at _ hgd s x T ho base e i z t.size bytes he.1 hi hz h1 h2 h3 t.pos v xs.length cs hs hown1 ad m c c1 hx (by rw [hr.1, hm]) hat hone h63 hlen hbase ?_
  intro v' w' ho' hgr _ hv'
  refine h v' w' ⟨cs ++ c1, by rw [List.length_append, ← hm]; exact ho', ?_⟩ hgr
  have hb := hgr.block
  have hsz := hgr.size
  have hcat : ∀ (zs : List α) (dz : List Value), RepAll t w S dz zs → RepAll t w' (fun b => base ≤ b ∧ b < w'.heap.size ∧ some b ≠ v'.ownBlock) dz zs := fun zs dz hz => hz.flat ht
  refine ⟨by rw [List.length_append, List.length_append, hown2.1, hr.1, Nat.add_mul], fun i x hi => ?_⟩
  rcases Nat.lt_or_ge i xs.length with hlt | hge
  · have e1 : xs[i]? = some x := by rwa [List.getElem?_append_left hlt] at hi
    have h9 : i * t.size + t.size ≤ cs.length := by
      rw [hown2.1, ← Nat.succ_mul]
      exact Nat.mul_le_mul_right _ hlt
    rw [List.drop_append_of_le_length (by omega), List.take_append_of_le_length (by rw [List.length_drop]; omega)]
    exact ht (hown2.2 i x e1)
  · rw [List.getElem?_append_right hge] at hi
    have e2 : i * t.size = cs.length + (i - xs.length) * t.size := by
      rw [hown2.1, ← Nat.add_mul]
      congr 1
      omega
    rw [e2, List.drop_append]
    have e3 : cs.drop (cs.length + (i - xs.length) * t.size) = [] := List.drop_eq_nil_of_le (by omega)
    rw [e3, List.nil_append, Nat.add_sub_cancel_left]
    exact ht (hr.2 _ x hi)
end

end Go.Proofs.YtldeoaddogifpaaGreatDoor
/-
  A timetable under construction by a parser: three rows of its own, the zones' shifts in blocks of their own type; append of a zone, an airport, a flight.
  No condition.
-/
namespace Go.Proofs.YtldeoaddogifpaaGreatDoor
set_option linter.unusedSimpArgs false
set_option linter.unusedVariables false
open Go.RowKit

/-- The block is a whole row of shifts. -/
def shTag (w : World) (b : Nat) : Prop := ∃ cur, w.heap[b]? = some (.cells cur 64 (0, 0))
def shS (w : World) (lo : Nat) : Nat → Prop := fun b => lo ≤ b ∧ shTag w b
theorem shTag.lt {w : World} {b : Nat} (h : shTag w b) : b < w.heap.size := by
  obtain ⟨cur, h⟩ := h
  exact (Array.getElem?_eq_some_iff.1 h).1
structure TPM (w : World) (lo : Nat) (v1 v2 v3 : Value) (t : GTT) : Prop where
  z : ∃ cs, w.ownsRow lo 51 3 v1 t.zones.length cs ∧ RepAll Ty.zone w (shS w lo) cs t.zones
  a : Own Ty.airport 66 w lo v2 t.airports
  f : Own Ty.flight 47 w lo v3 t.flights
theorem flat_air : Ty.airport.Flat := fun h => h
theorem flat_fli : Ty.flight.Flat := fun h => h
section
variable {α : Type} {T : Ty α} {e : TypeId} {w w' : World} {base : Nat} {v : Value} {xs : List α}
theorem Own.flatT (ht : T.Flat) (h : Own T e w base v xs) (hk : ∀ b, v.ownBlock = some b → w'.heap[b]? = w.heap[b]?) : Own T e w' base v xs := by
  obtain ⟨cs, h1, h2⟩ := h
  refine ⟨cs, ⟨h1.1, ?_⟩, h2.flat ht⟩
  rcases h1.2 with h3 | ⟨g, cap, cur, hv, hg, hb, r⟩
  · exact .inl h3
  · exact .inr ⟨g, cap, cur, hv, hg, (hk g (by rw [hv]; rfl)).trans hb, r⟩
theorem rowTag {n z : Nat} {cs : List Value} (h : w.ownsRow base e z v n cs) {b : Nat} (hb : v.ownBlock = some b) : base ≤ b ∧ ∃ cur, w.heap[b]? = some (.cells cur e (0, 0)) := by
  rcases h.2 with ⟨rfl, _⟩ | ⟨g, cap, cur, rfl, hg0, hg, _⟩
  · simp [Value.ownBlock] at hb
  · simp [Value.ownBlock] at hb
    subst hb
    exact ⟨hg0, cur, hg⟩
theorem Own.rowTag (h : Own T e w base v xs) {b : Nat} (hb : v.ownBlock = some b) : base ≤ b ∧ ∃ cur, w.heap[b]? = some (.cells cur e (0, 0)) := by
  obtain ⟨cs, h1, _⟩ := h
  exact Go.Proofs.YtldeoaddogifpaaGreatDoor.rowTag h1 hb
/-- A block of another type is not the row. -/
theorem row_ne {n z : Nat} {cs : List Value} (h : w.ownsRow base e z v n cs) {b : Nat} {cur : Array Value} {U : TypeId} (hb : w.heap[b]? = some (.cells cur U (0, 0))) (hU : U ≠ e) : some b ≠ v.ownBlock := by
  intro e1
  obtain ⟨_, c2, h2⟩ := Go.Proofs.YtldeoaddogifpaaGreatDoor.rowTag h e1.symm
  rw [hb] at h2
  injection h2 with h2
  injection h2 with _ h3
  exact hU h3
theorem row_keep {n z : Nat} {cs : List Value} (h : w.ownsRow base e z v n cs) (hk : ∀ b, v.ownBlock = some b → w'.heap[b]? = w.heap[b]?) : w'.ownsRow base e z v n cs := by
  refine ⟨h.1, ?_⟩
  rcases h.2 with h3 | ⟨g, cap, cur, hv, hg, hb, r⟩
  · exact .inl h3
  · exact .inr ⟨g, cap, cur, hv, hg, (hk g (by rw [hv]; rfl)).trans hb, r⟩
/-- A call's own row of flat data, read as a slice of a block of its type. -/
theorem Own.slTag (ht : T.Flat) (h : Own T e w base v xs) : ∃ A c, v = .slice A xs.length c ∧ Sl T w (fun b => base ≤ b ∧ ∃ cur, w.heap[b]? = some (.cells cur e (0, 0))) A xs.length c xs := by
  obtain ⟨cs, h1, h2⟩ := h
  rcases h1.2 with ⟨rfl, h0⟩ | ⟨g, cap, cur, rfl, hb, hg, hnc, hm, hcur, htake⟩
  · rw [h0, List.eq_nil_of_length_eq_zero h0]
    exact ⟨none, 0, rfl, Sl.nil0⟩
  · refine ⟨_, _, rfl, rfl, hnc, hm, fun _ => ⟨_, _, rfl, ⟨hb, cur, hg⟩, fun i x hi => ⟨_, ht (h2.2 i x hi), fun j u hu => ?_⟩⟩⟩
    rw [List.getElem?_take] at hu
    split at hu
    · rw [List.getElem?_drop] at hu
      have := h1.cells (g := g) rfl _ _ hu
      rw [addr_add] at this
      rw [← this]
      congr 2
      omega
    · cases hu
end
theorem TPM.nil (w : World) (lo : Nat) : TPM w lo (.slice none 0 0) (.slice none 0 0) (.slice none 0 0) emTT :=
  ⟨⟨[], World.ownsRow_nil _ _ _ _, RepAll.nil _ _ _⟩, Own.nil, Own.nil⟩
section
variable {w w' : World} {lo : Nat} {v1 v2 v3 : Value} {t : GTT}
/-- Kept, if the blocks of the four types stay. -/
theorem TPM.keep (h : TPM w lo v1 v2 v3 t) (hk : ∀ b cur T, w.heap[b]? = some (.cells cur T (0, 0)) → lo ≤ b → (T = 51 ∨ T = 66 ∨ T = 47 ∨ T = 64) → w'.heap[b]? = w.heap[b]?) : TPM w' lo v1 v2 v3 t := by
  obtain ⟨⟨cs, h1, h2⟩, h3, h4⟩ := h
  refine ⟨⟨cs, row_keep h1 fun b hb => ?_, h2.keep (fun b hb => ?_) fun b hb => ?_⟩, h3.flatT flat_air fun b hb => ?_, h4.flatT flat_fli fun b hb => ?_⟩
  · obtain ⟨hl, cur, hc⟩ := rowTag h1 hb
    exact hk b cur _ hc hl (.inl rfl)
  · obtain ⟨hl, cur, hc⟩ := hb
    exact hk b cur _ hc hl (.inr (.inr (.inr rfl)))
  · obtain ⟨hl, cur, hc⟩ := hb
    exact ⟨hl, cur, (hk b cur _ hc hl (.inr (.inr (.inr rfl)))).trans hc⟩
  · obtain ⟨hl, cur, hc⟩ := h3.rowTag hb
    exact hk b cur _ hc hl (.inr (.inl rfl))
  · obtain ⟨hl, cur, hc⟩ := h4.rowTag hb
    exact hk b cur _ hc hl (.inr (.inr (.inl rfl)))
theorem TPM.next (h : TPM w lo v1 v2 v3 t) (hb : Below w.heap.size w w') : TPM w' lo v1 v2 v3 t :=
  h.keep fun b cur T hc _ _ => hb.block b (Array.getElem?_eq_some_iff.1 hc).1
/-- A box of another type, or one ahead of the rows, may change. -/
theorem TPM.setBox (h : TPM w lo v1 v2 v3 t) {tb j : Nat} {x : Value} (hb : tb < lo) : TPM (w.setCell ⟨tb, j, none⟩ x) lo v1 v2 v3 t :=
  h.keep fun b cur T hc hl _ => heap_setCell_other _ _ _ _ (by show b ≠ tb; omega)
theorem TPM.grownZ {v' : Value} {cs cz : List Value} {z : GZone} (h : TPM w lo v1 v2 v3 t) (h1 : w.ownsRow lo 51 3 v1 t.zones.length cs) (h2 : RepAll Ty.zone w (shS w lo) cs t.zones) (hz : Ty.zone.rep w (shS w lo) cz z)
    (ho' : w'.ownsRow lo 51 3 v' (t.zones.length + 1) (cs ++ cz)) (hg : w.grownBy w' v1.ownBlock) : TPM w' lo v' v2 v3 (t.addZ z) := by
  have hk : ∀ (b : Nat) (cur : Array Value) (T : TypeId), w.heap[b]? = some (Obj.cells cur T (0, 0)) → T ≠ 51 → w'.heap[b]? = w.heap[b]? := fun b cur T hc hT => hg.block b (Array.getElem?_eq_some_iff.1 hc).1 (row_ne h1 hc hT)
  have hs : ∀ b, shS w lo b → w'.heap[b]? = w.heap[b]? := fun b ⟨_, cur, hc⟩ => hk b cur _ hc (by decide)
  have hm : ∀ b, shS w lo b → shS w' lo b := fun b hb => ⟨hb.1, by obtain ⟨cur, hc⟩ := hb.2; exact ⟨cur, (hs b hb).trans hc⟩⟩
  refine ⟨⟨_, by simpa [GTT.addZ] using ho', (h2.keep hs hm).snoc (Ty.zone.more (Ty.zone.keep hz hs) hm)⟩, h.a.flatT flat_air fun b hb => ?_, h.f.flatT flat_fli fun b hb => ?_⟩
  · obtain ⟨_, cur, hc⟩ := h.a.rowTag hb
    exact hk b cur _ hc (by decide)
  · obtain ⟨_, cur, hc⟩ := h.f.rowTag hb
    exact hk b cur _ hc (by decide)
theorem TPM.grownA {v' : Value} {a : GAirport} (h : TPM w lo v1 v2 v3 t) (ho' : Own Ty.airport 66 w' lo v' (t.airports ++ [a])) (hg : w.grownBy w' v2.ownBlock) : TPM w' lo v1 v' v3 (t.addA a) := by
  obtain ⟨⟨cs, h1, h2⟩, ⟨ca, h3, h3'⟩, h4⟩ := h
  have hk : ∀ (b : Nat) (cur : Array Value) (T : TypeId), w.heap[b]? = some (Obj.cells cur T (0, 0)) → T ≠ 66 → w'.heap[b]? = w.heap[b]? := fun b cur T hc hT => hg.block b (Array.getElem?_eq_some_iff.1 hc).1 (row_ne h3 hc hT)
  have hs : ∀ b, shS w lo b → w'.heap[b]? = w.heap[b]? := fun b ⟨_, cur, hc⟩ => hk b cur _ hc (by decide)
  have hm : ∀ b, shS w lo b → shS w' lo b := fun b hb => ⟨hb.1, by obtain ⟨cur, hc⟩ := hb.2; exact ⟨cur, (hs b hb).trans hc⟩⟩
  refine ⟨⟨cs, row_keep h1 fun b hb => ?_, h2.keep hs hm⟩, ho', h4.flatT flat_fli fun b hb => ?_⟩
  · obtain ⟨_, cur, hc⟩ := rowTag h1 hb
    exact hk b cur _ hc (by decide)
  · obtain ⟨_, cur, hc⟩ := h4.rowTag hb
    exact hk b cur _ hc (by decide)
theorem TPM.grownF {v' : Value} {x : GFlight} (h : TPM w lo v1 v2 v3 t) (ho' : Own Ty.flight 47 w' lo v' (t.flights ++ [x])) (hg : w.grownBy w' v3.ownBlock) : TPM w' lo v1 v2 v' (t.addF x) := by
  obtain ⟨⟨cs, h1, h2⟩, h3, ⟨ca, h4, h4'⟩⟩ := h
  have hk : ∀ (b : Nat) (cur : Array Value) (T : TypeId), w.heap[b]? = some (Obj.cells cur T (0, 0)) → T ≠ 47 → w'.heap[b]? = w.heap[b]? := fun b cur T hc hT => hg.block b (Array.getElem?_eq_some_iff.1 hc).1 (row_ne h4 hc hT)
  have hs : ∀ b, shS w lo b → w'.heap[b]? = w.heap[b]? := fun b ⟨_, cur, hc⟩ => hk b cur _ hc (by decide)
  have hm : ∀ b, shS w lo b → shS w' lo b := fun b hb => ⟨hb.1, by obtain ⟨cur, hc⟩ := hb.2; exact ⟨cur, (hs b hb).trans hc⟩⟩
  refine ⟨⟨cs, row_keep h1 fun b hb => ?_, h2.keep hs hm⟩, h3.flatT flat_air fun b hb => ?_, ho'⟩
  · obtain ⟨_, cur, hc⟩ := rowTag h1 hb
    exact hk b cur _ hc (by decide)
  · obtain ⟨_, cur, hc⟩ := h3.rowTag hb
    exact hk b cur _ hc (by decide)
theorem TPM.lt (h : TPM w lo v1 v2 v3 t) : (∀ k, v1.ownBlock = some k → lo ≤ k ∧ k < w.heap.size) ∧ (∀ k, v2.ownBlock = some k → lo ≤ k ∧ k < w.heap.size) ∧ ∀ k, v3.ownBlock = some k → lo ≤ k ∧ k < w.heap.size := by
  obtain ⟨⟨cs, h1, h2⟩, h3, h4⟩ := h
  exact ⟨h1.lt, h3.lt, h4.lt⟩
/-- Read as three slices. -/
theorem TPM.sl (h : TPM w lo v1 v2 v3 t) : ∃ A1 c1 A2 c2 A3 c3, v1 = .slice A1 t.zones.length c1 ∧ v2 = .slice A2 t.airports.length c2 ∧ v3 = .slice A3 t.flights.length c3 ∧
    Sl Ty.zone w (fun b => lo ≤ b ∧ b < w.heap.size) A1 t.zones.length c1 t.zones ∧ Sl Ty.airport w (fun b => lo ≤ b ∧ b < w.heap.size) A2 t.airports.length c2 t.airports ∧ Sl Ty.flight w (fun b => lo ≤ b ∧ b < w.heap.size) A3 t.flights.length c3 t.flights := by
  obtain ⟨⟨cs, h1, h2⟩, h3, h4⟩ := h
  obtain ⟨A2, c2, e2, s2⟩ := h3.sl
  obtain ⟨A3, c3, e3, s3⟩ := h4.sl
  have hz : ∃ A1 c1, v1 = .slice A1 t.zones.length c1 ∧ Sl Ty.zone w (fun b => lo ≤ b ∧ b < w.heap.size) A1 t.zones.length c1 t.zones := by
    rcases h1.2 with ⟨rfl, h0⟩ | ⟨g, cap, cur, rfl, hb, hg, hnc, hm, hcur, htake⟩
    · rw [h0, List.eq_nil_of_length_eq_zero h0]
      exact ⟨none, 0, rfl, Sl.nil0⟩
    · refine ⟨_, _, rfl, rfl, hnc, hm, fun _ => ⟨_, _, rfl, ⟨hb, (Array.getElem?_eq_some_iff.1 hg).1⟩, fun i x hi => ⟨_, Ty.zone.more (h2.2 i x hi) fun b hS => ⟨hS.1, hS.2.lt⟩, fun j u hu => ?_⟩⟩⟩
      rw [List.getElem?_take] at hu
      split at hu
      · rw [List.getElem?_drop] at hu
        have := h1.cells (g := g) rfl _ _ hu
        rw [addr_add] at this
        rw [← this]
        congr 2
        show 0 + i * Ty.zone.size + j = 0 + (i * Ty.zone.size + j)
        omega
      · cases hu
  obtain ⟨A1, c1, e1, s1⟩ := hz
  exact ⟨A1, c1, A2, c2, A3, c3, e1, e2, e3, s1, s2, s3⟩
end
theorem zone_row : Elem Tryz.prog 23 51 3 48 := ⟨Tryz.underlying23, by kernel_rfl⟩
theorem air_row : Elem Tryz.prog 24 66 2 32 := ⟨Tryz.underlying24, by kernel_rfl⟩
theorem fli_row : Elem Tryz.prog 25 47 9 104 := ⟨Tryz.underlying25, by kernel_rfl⟩
section
variable {P : Program} {ops : Array Oper} {rest : List Oper} {o : Oper} {a : Act} {Q : Exit → Act → World → Prop} {w : World} {lo : Nat} {v1 v2 v3 : Value} {t : GTT}
/-- append of a zone that lies in a block of its own. -/
theorem wpList_pushZ (hgd : o.guard = none) (s x : Operand) (T : TypeId) (ho : o.op = .call { callee := .builtin .append, args := #[s, x], argTypes := #[T, T] }) (he : Elem P T 51 3 48) (hs : a.eval s = v1) (h : TPM w lo v1 v2 v3 t)
    (g : Nat) (z : GZone) (hx : a.eval x = .slice (some ⟨g, 0, none⟩) 1 1) (hz : ∃ cz, Ty.zone.rep w (shS w lo) cz z ∧ At w g 0 cz) (hlen : t.zones.length ≤ 1000) (hlo : lo ≤ w.heap.size)
    (hn : ∀ v' w', TPM w' lo v' v2 v3 (t.addZ z) → w.grownBy w' v1.ownBlock → wpList P ops Q rest (a.put o.dst v') w') : wpList P ops Q (o :: rest) a w := by
  obtain ⟨i, zr, hi, hzr, h1, h2, h3⟩ := he.parts
  obtain ⟨cs, r1, r2⟩ := h.z
  obtain ⟨cz, hr, hat⟩ := hz
  refine wpList_append_own_at _ hgd s x T ho lo 51 i zr 3 48 he.1 hi hzr h1 h2 h3 (by decide) v1 _ cs hs r1 ⟨g, 0, none⟩ 1 1 cz hx (by rw [Ty.zone.len hr]; rfl) (fun j u hu => by rw [addr_add]; exact hat j u hu) (Ty.zone.one hr) (by unfold maxLen; omega) (by omega) hlo ?_
  intro v' w' ho' hgr _ _
  exact hn v' w' (h.grownZ r1 r2 hr ho' hgr) hgr
theorem wpList_pushA (hgd : o.guard = none) (s x : Operand) (T : TypeId) (ho : o.op = .call { callee := .builtin .append, args := #[s, x], argTypes := #[T, T] }) (he : Elem P T 66 2 32) (hs : a.eval s = v2) (h : TPM w lo v1 v2 v3 t)
    (g : Nat) (z : GAirport) (hx : a.eval x = .slice (some ⟨g, 0, none⟩) 1 1) (hz : At w g 0 [.string z.code, .string z.zone]) (hlen : t.airports.length ≤ 1000) (hlo : lo ≤ w.heap.size)
    (hn : ∀ v' w', TPM w' lo v1 v' v3 (t.addA z) → w.grownBy w' v2.ownBlock → wpList P ops Q rest (a.put o.dst v') w') : wpList P ops Q (o :: rest) a w :=
  wpList_push hgd s x T ho 32 he hs h.a g z (fun _ => False) hx ⟨_, rfl, hz⟩ (fun _ h => h.elim) (by omega) (by decide) hlo fun v' w' ho' hg => hn v' w' (h.grownA ho' hg) hg
theorem wpList_pushF (hgd : o.guard = none) (s x : Operand) (T : TypeId) (ho : o.op = .call { callee := .builtin .append, args := #[s, x], argTypes := #[T, T] }) (he : Elem P T 47 9 104) (hs : a.eval s = v3) (h : TPM w lo v1 v2 v3 t)
    (g : Nat) (z : GFlight) (hx : a.eval x = .slice (some ⟨g, 0, none⟩) 1 1) (hz : At w g 0 (flightCells z)) (hlen : t.flights.length ≤ 1000) (hlo : lo ≤ w.heap.size)
    (hn : ∀ v' w', TPM w' lo v1 v2 v' (t.addF z) → w.grownBy w' v3.ownBlock → wpList P ops Q rest (a.put o.dst v') w') : wpList P ops Q (o :: rest) a w :=
  wpList_push hgd s x T ho 104 he hs h.f g z (fun _ => False) hx ⟨_, rfl, hz⟩ (fun _ h => h.elim) (by omega) (by decide) hlo fun v' w' ho' hg => hn v' w' (h.grownF ho' hg) hg
end
end Go.Proofs.YtldeoaddogifpaaGreatDoor
/-
  Contract of timetable.parseZone.
  Condition: the fields read as a list of strings of no more than 20000 bytes, no more than 100000 of them.
-/
namespace Go.Proofs.YtldeoaddogifpaaGreatDoor
set_option linter.unusedSimpArgs false
set_option linter.unusedVariables false
open Go.RowKit

theorem size_sp9 {a b : ByteArray} (ha : a.size ≤ 20000) (hb : b.size ≤ 20000) : (a ++ spS ++ b).size ≤ maxLen ∧ ¬ 9223372036854775807 < a.size + 1 ∧ ¬ 9223372036854775807 < (a ++ (⟨#[32]⟩ : ByteArray)).size + b.size ∧ ¬ 9223372036854775807 < a.size + 1 + b.size := by
  have hz1 : (a ++ spS).size = a.size + 1 := by rw [ByteArray.size_append, show spS.size = 1 from rfl]
  refine ⟨?_, by omega, ?_, by omega⟩
  · rw [ByteArray.size_append, hz1]; unfold maxLen; omega
  · rw [show (⟨#[32]⟩ : ByteArray) = spS from rfl, hz1]; omega
theorem fld_cells {f : List ByteArray} {w : World} {S : Nat → Prop} {A : Option Addr} {n c : Nat} (h : Sl Ty.str w S A n c f) (h0 : 0 < f.length) : ∃ b o, A = some ⟨b, o, none⟩ ∧ S b ∧ ∀ k, k < f.length → w.cell? ⟨b, o + k, none⟩ = some (.string (fld f k)) := by
  obtain ⟨b, o, e, hS, _⟩ := h.str_at h0
  refine ⟨b, o, e, hS, fun k hk => ?_⟩
  obtain ⟨b', o', e', _, hc⟩ := h.str_at hk
  rw [e] at e'
  injection e' with e'
  injection e' with e1 e2
  subst e1 e2
  have : f[k] = fld f k := Option.some.inj ((List.getElem?_eq_getElem hk).symm.trans (fld_at hk))
  rw [← this]
  exact hc
def sliceLen : Value → Nat
  | .slice _ n _ => n
  | _ => 0
def ZPost (fs : List ByteArray) (w : World) (e : Ending) (w' : World) : Prop := ∃ (z : GZone) (v : Value), e = .returned (.tuple #[.agg #[.string z.name, .int .i64 z.off, v], .bool (!zoneBad fs)]) ∧
  Own Ty.shift 64 w' w.heap.size v z.shifts ∧ Below w.heap.size w w' ∧ (zoneBad fs = false → z = zoneF fs)
theorem zbad {fs : List ByteArray} {w w' : World} (h : zoneBad fs = true) (hb : Below w.heap.size w w') : ZPost fs w (.returned (.tuple #[.agg #[.string (⟨#[]⟩ : ByteArray), .int .i64 0, .slice none 0 0], .bool false])) w' :=
  ⟨noZone, .slice none 0 0, by rw [h]; rfl, Own.nil, hb, fun h2 => by rw [h] at h2; cases h2⟩
set_option maxRecDepth 100000 in
set_option maxHeartbeats 3200000 in
theorem parseZone_any (fs : List ByteArray) (A : Option Addr) (n c : Nat) (w : World) (hf : Sl Ty.str w (all_ w) A n c fs) (h1 : 1 ≤ fs.length) (hl : fs.length ≤ 100000) (hz : ∀ x ∈ fs, x.size ≤ 20000) (hg : Glo w) :
    Calls Tryz.prog 58 #[.slice A n c] w (ZPost fs w) := by
  have hn := hf.len
  have hnc := hf.2.1
  have hcm := hf.2.2.1
  unfold maxLen at hcm
  obtain ⟨fb, o, rfl, hSb, hcells⟩ := fld_cells hf (by omega)
  have hfb : fb < w.heap.size := hSb
  subst hn
  have ha := (Below.refl w.heap.size w).alloc (Nat.le_refl _) (.cells #[.string ⟨#[]⟩, .int .i64 0, .slice none 0 0] 51)
  have hx := heap_alloc_new w (.cells #[.string ⟨#[]⟩, .int .i64 0, .slice none 0 0] 51)
  have hsz0 : (w.alloc (.cells #[.string ⟨#[]⟩, .int .i64 0, .slice none 0 0] 51)).heap.size = w.heap.size + 1 := by simp
  have HA := Lib.hid ha; have HX := Lib.hid hx; have HS0 := Lib.hid hsz0
  have HC : Hid (∀ V : World, Below w.heap.size w V → ∀ k, k < fs.length → V.cell? ⟨fb, o + k, none⟩ = some (.string (fld fs k))) := fun V hV k hk => (World.cell?_of_block (a := ⟨fb, o + k, none⟩) (hV.block fb hfb)).trans (hcells k hk)
  have HZ := Lib.hid (fld_le (m := 20000) hz)
  have HGL : Hid (∀ V, Below w.heap.size w V → Glo V) := fun V hV => hg.next hV
  have HBAD : Hid (∀ V, zoneBad fs = true → Below w.heap.size w V → ZPost fs w (.returned (.tuple #[.agg #[.string (⟨#[]⟩ : ByteArray), .int .i64 0, .slice none 0 0], .bool false])) V) := fun V h hb => zbad h hb
  clear hf hSb hcells ha hx hsz0 hz hg
  have HZB : Hid (zoneBad fs = (decide (fs.length < 3) || decide ((fs.length - 3) % 3 ≠ 0) || decide ((durB (fld fs 2)).2 ≠ 0) || shiftsBad fs ((fs.length - 3) / 3))) := rfl
  obtain ⟨W, hW⟩ : ∃ W, W = w.alloc (.cells #[.string ⟨#[]⟩, .int .i64 0, .slice none 0 0] 51) := ⟨_, rfl⟩
  have HW0 := Lib.hid hW
  rw [← hW] at HA HX HS0
  have z0 : W.cell? ⟨w.heap.size, 0, none⟩ = some (.string ⟨#[]⟩) := block_cell HX.out 0
  have z1 : W.cell? ⟨w.heap.size, 1, none⟩ = some (.int .i64 0) := block_cell HX.out 1
  have z2 : W.cell? ⟨w.heap.size, 2, none⟩ = some (.slice none 0 0) := block_cell HX.out 2
  have f0 := block_free HX.out 0; have f1 := block_free HX.out 1; have f2 := block_free HX.out 2
  clear hW
  by_cases h3 : fs.length < 3
  · have HR : Hid (zoneBad fs = true) := by show _ = _; rw [HZB.out, decide_eq_true h3]; rfl
    have h3' : (fs.length : Int) < 3 := by omega
    clear HZB h3
    go_enter Tryz.func58, Tryz.ntmps58
    go_upto_region 1 with (fail)
    rw [← HW0.out]
    go_wp2_with fail
    refine bodyPost_ret (v := .tuple #[.agg #[.string ⟨#[]⟩, .int .i64 0, .slice none 0 0], .bool false]) (by simp [results, Tryz.results58, go_sem, z0, z1, z2]) rfl ?_
    exact HBAD.out _ HR.out (((HA.out.setCell (Nat.le_refl _) _).setCell (Nat.le_refl _) _).setCell (Nat.le_refl _) _)
  have h3' : ¬ (fs.length : Int) < 3 := by omega
  obtain ⟨p, hp⟩ : ∃ p, fs.length = p + 3 := ⟨fs.length - 3, by omega⟩
  have q0 : IntKind.i64.wrap ((fs.length : Int) - 3) = (p : Int) := by rw [show (fs.length : Int) - 3 = p by omega]; exact IntWalk.i64_in _ (by omega)
  have q1 : (p : Int).tmod 3 = ((p % 3 : Nat) : Int) := by rw [Int.tmod_eq_emod_of_nonneg (by omega)]; omega
  have q2 : IntKind.i64.wrap ((p % 3 : Nat) : Int) = ((p % 3 : Nat) : Int) := IntWalk.i64_in _ (by omega)
  have hpz : fs.length - 3 = p := by omega
  rw [hpz] at HZB
  have HPE := Lib.hid hp
  have hpl : p + 3 ≤ fs.length := by omega
  have hpl2 : fs.length ≤ p + 3 := by omega
  clear hp hpz
  by_cases hm : p % 3 = 0
  case neg =>
    have HR : Hid (zoneBad fs = true) := by show _ = _; rw [HZB.out, decide_eq_true hm]; simp
    have hm' : (((p % 3 : Nat) : Int) != 0) = true := by simp; omega
    clear HZB hm
    generalize p % 3 = pm at *
    go_enter Tryz.func58, Tryz.ntmps58
    go_upto_region 1 with (fail)
    rw [← HW0.out]
    go_wp2_with fail
    refine bodyPost_ret (v := .tuple #[.agg #[.string ⟨#[]⟩, .int .i64 0, .slice none 0 0], .bool false]) (by simp [results, Tryz.results58, go_sem, z0, z1, z2]) rfl ?_
    exact HBAD.out _ HR.out (((HA.out.setCell (Nat.le_refl _) _).setCell (Nat.le_refl _) _).setCell (Nat.le_refl _) _)
  have hm' : (((p % 3 : Nat) : Int) != 0) = false := by simp; omega
  obtain ⟨m, hpm⟩ : ∃ m, p = 3 * m := ⟨p / 3, by omega⟩
  have hpd : p / 3 = m := by omega
  rw [hpd, decide_eq_false h3, decide_eq_false (by simpa using hm)] at HZB
  generalize p % 3 = pm at *
  have HPM := Lib.hid hpm
  have hpm1 : 3 * m ≤ p := by omega
  have hpm2 : p ≤ 3 * m := by omega
  have c2 := HC.out W HA.out 2 (by omega)
  have l2 : (2 : Int) < (fs.length : Int) := by omega
  have HD : Hid (∀ k V, Below w.heap.size w V → Calls Tryz.prog 96 #[.string (fld fs k)] V (NumPost (durB (fld fs k)) V)) := fun k V hV => parseDuration_any _ V (by have := HZ.out k; omega) (HGL.out V hV)
  have HD2 := Lib.hid (HD.out 2 W HA.out)
  have HZF : Hid (zoneF fs = ⟨fld fs 1, (durB (fld fs 2)).1, shiftsF fs m⟩) := by show _ = _; unfold zoneF; rw [show (fs.length - 3) / 3 = m by omega]
  unfold NumPost at HD2
  generalize durB (fld fs 2) = d2 at *
  obtain ⟨off, er⟩ := d2
  simp only at HD2 HZB HZF
  clear hpm hpd hm h3
  go_enter Tryz.func58, Tryz.ntmps58
  go_upto_region 1 with (fail)
  rw [← HW0.out]
  go_wp2_with fail
  refine HD2.out.mono ?_
  rintro e w1 ⟨rfl, hb1⟩
  have hx1 := (hb1.block w.heap.size (by have := HS0.out; omega)).trans HX.out
  have HX1 := Lib.hid hx1
  have HB1 : Hid (Below w.heap.size w w1) := HA.out.trans (hb1.mono HA.out.size)
  have hs1 : w.heap.size + 1 ≤ w1.heap.size := by have := hb1.size; have := HS0.out; omega
  clear z0 z1 z2 f0 f1 f2 c2 hb1 HD2
  have z0 : w1.cell? ⟨w.heap.size, 0, none⟩ = some (.string ⟨#[]⟩) := block_cell hx1 0
  have z1 : w1.cell? ⟨w.heap.size, 1, none⟩ = some (.int .i64 0) := block_cell hx1 1
  have z2 : w1.cell? ⟨w.heap.size, 2, none⟩ = some (.slice none 0 0) := block_cell hx1 2
  have f0 := block_free hx1 0; have f1 := block_free hx1 1; have f2 := block_free hx1 2
  clear hx1
  by_cases her : er = 0
  case neg =>
    have HR : Hid (zoneBad fs = true) := by show _ = _; rw [HZB.out, decide_eq_true her]; simp
    have her' : (er != 0) = true := by simpa using her
    clear HZB her
    go_wp2_with fail
    refine bodyPost_ret (v := .tuple #[.agg #[.string ⟨#[]⟩, .int .i64 0, .slice none 0 0], .bool false]) (by simp [results, Tryz.results58, go_sem, z0, z1, z2]) rfl ?_
    exact HBAD.out _ HR.out (((HB1.out.setCell (Nat.le_refl _) _).setCell (Nat.le_refl _) _).setCell (Nat.le_refl _) _)
  subst her
  have HZB2 : Hid (zoneBad fs = shiftsBad fs m) := by show _ = _; rw [HZB.out]; simp
  clear HZB
  have c1 := HC.out w1 HB1.out 1 (by omega)
  have l1 : (1 : Int) < (fs.length : Int) := by omega
  have l3 : (3 : Int) ≤ (c : Int) := by omega
  have l4 : (3 : Int) ≤ (fs.length : Int) := by omega
  have hxz := heap_alloc_new w1 (.cells #[.string (fld fs 1), .int .i64 off, .slice none 0 0] 51)
  have hbz : Below w1.heap.size w1 (w1.alloc (.cells #[.string (fld fs 1), .int .i64 off, .slice none 0 0] 51)) := (Below.refl _ _).alloc (Nat.le_refl _) _
  have hsz2 : (w1.alloc (.cells #[.string (fld fs 1), .int .i64 off, .slice none 0 0] 51)).heap.size = w1.heap.size + 1 := by simp
  have HXZ := Lib.hid hxz; have HBZ := Lib.hid hbz; have HSZ2 := Lib.hid hsz2
  clear hxz hbz hsz2
  go_upto_region 7 with (fail)
  go_cut [7] (fun r wx => ∃ (A' : Option Addr) (c' : Nat), r = .slice A' (3 * m) c' ∧ (0 < m → A' = some ⟨fb, o + 3, none⟩) ∧ 3 * m ≤ c' ∧ c' ≤ 9223372036854775807 ∧ wx = w1.alloc (.cells #[.string (fld fs 1), .int .i64 off, .slice none 0 0] 51))
  case first =>
    go_wp2_with fail
    · have hcc : c = 3 := by assumption
      subst hcc
      go_meet
      exact ⟨_, _, congrArg (fun k => Value.slice (some ⟨fb, o, none⟩) k 0) (show fs.length - 3 = 3 * m by omega), fun h => by omega, by omega, by omega, rfl⟩
    · go_meet
      exact ⟨_, _, congrArg (fun k => Value.slice (some ⟨fb, o + 3, none⟩) k (c - 3)) (show fs.length - 3 = 3 * m by omega), fun _ => rfl, by omega, by omega, rfl⟩
  case rest =>
  obtain ⟨A0, cc0, rfl, hA0, hc0, hcm0, rfl⟩ := hcut
  have HA0 := Lib.hid hA0
  clear z0 z1 z2 f0 f1 f2 c1 hA0 q0 q1 q2 hm' l1 l2 l3 l4
  obtain ⟨w2, hw2⟩ : ∃ x, x = w1.alloc (.cells #[.string (fld fs 1), .int .i64 off, .slice none 0 0] 51) := ⟨_, rfl⟩
  rw [← hw2] at HXZ HBZ HSZ2 ⊢
  clear hw2
  have HX2 : Hid (w2.heap[w.heap.size]? = some (.cells #[.string ⟨#[]⟩, .int .i64 0, .slice none 0 0] 51 (0, 0))) := (HBZ.out.block _ (by omega)).trans HX1.out
  have HB2 : Hid (Below w.heap.size w w2) := HB1.out.trans (HBZ.out.mono (by omega))
  obtain ⟨H1, hH1⟩ : ∃ x, x = w1.heap.size := ⟨_, rfl⟩
  rw [← hH1] at HXZ HSZ2 hs1 ⊢
  clear HX1 HB1 HBZ hH1
  go_upto_block 1 with (fail)
  go_loopw [7] (fun r wr => ∃ (k : Nat) (v : Value) (A' : Option Addr) (c' : Nat), k ≤ m ∧ r = .slice A' (3 * (m - k)) c' ∧ Hid (k < m → A' = some ⟨fb, o + 3 + 3 * k, none⟩) ∧ 3 * (m - k) ≤ c' ∧ c' ≤ 9223372036854775807 ∧ Hid (shiftsBad fs k = false) ∧ Hid (wr.heap[H1]? = some (.cells #[.string (fld fs 1), .int .i64 off, v] 51 (0, 0))) ∧ Hid (Own Ty.shift 64 wr (H1 + 1) v (shiftsF fs k)) ∧ Hid (wr.heap[w.heap.size]? = some (.cells #[.string ⟨#[]⟩, .int .i64 0, .slice none 0 0] 51 (0, 0))) ∧ Hid (Below w.heap.size w wr)) (fun r _ => sliceLen r)
  case atStart => exact ⟨0, _, A0, cc0, Nat.zero_le _, rfl, Lib.hid (fun h => HA0.out h), hc0, hcm0, rfl, HXZ, Lib.hid Own.nil, HX2, HB2⟩
  case round =>
    clear HXZ HX2 HB2 HA0 HSZ2 hc0 hcm0
    obtain ⟨k, v, A', c', hk, rfl, HA', hc1, hc2, HSB, HXH, HOW, HXR, HBW⟩ := hrel
    have hx := HXR.out
    have z0 : wr.cell? ⟨w.heap.size, 0, none⟩ = some (.string ⟨#[]⟩) := block_cell hx 0
    have z1 : wr.cell? ⟨w.heap.size, 1, none⟩ = some (.int .i64 0) := block_cell hx 1
    have z2 : wr.cell? ⟨w.heap.size, 2, none⟩ = some (.slice none 0 0) := block_cell hx 2
    have f0 := block_free hx 0; have f1 := block_free hx 1; have f2 := block_free hx 2
    have hHl : H1 < wr.heap.size := (Array.getElem?_eq_some_iff.1 HXH.out).1
    have hRl : w.heap.size < wr.heap.size := (Array.getElem?_eq_some_iff.1 hx).1
    clear hx
    by_cases hlt : k < m
    · obtain rfl := HA'.out hlt
      obtain ⟨L, hL⟩ : ∃ L, L = 3 * (m - k) := ⟨_, rfl⟩
      rw [← hL] at hc1 ⊢
      have hL3 : 3 ≤ L := by omega
      have l0 : (0 : Int) < (L : Int) := by omega
      have l1 : (1 : Int) < (L : Int) := by omega
      have l2 : (2 : Int) < (L : Int) := by omega
      have l3 : (3 : Int) ≤ (L : Int) := by omega
      have l4 : (3 : Int) ≤ (c' : Int) := by omega
      have d0 := HC.out wr HBW.out (3 + 3 * k) (by omega)
      have d1 := HC.out wr HBW.out (3 + 3 * k + 1) (by omega)
      have d2 := HC.out wr HBW.out (5 + 3 * k) (by omega)
      have D2 : Hid (∀ V, Below w.heap.size w V → V.cell? ⟨fb, o + 3 + 3 * k + 2, none⟩ = some (.string (fld fs (5 + 3 * k)))) := fun V hV => by
        have := HC.out V hV (5 + 3 * k) (by omega)
        rw [show o + (5 + 3 * k) = o + 3 + 3 * k + 2 by omega] at this
        exact this
      rw [show o + (3 + 3 * k) = o + 3 + 3 * k by omega] at d0
      rw [show o + (3 + 3 * k + 1) = o + 3 + 3 * k + 1 by omega] at d1
      clear d2
      have HLK : Hid (L = 3 * (m - k)) := hL
      clear hL
      have zz0 := HZ.out (3 + 3 * k); have zz1 := HZ.out (3 + 3 * k + 1)
      obtain ⟨za, qa1, qa2, qa3⟩ := size_sp9 zz0 zz1
      have HI1 : Hid (∀ V : World, Calls Tryz.prog 97 #[.string (fld fs (3 + 3 * k) ++ spS ++ fld fs (3 + 3 * k + 1))] V (NumPost (insF fs (3 + 3 * k)) V)) := fun V => parseInstant_any _ V za
      have HD3 : Hid (∀ V, Below w.heap.size w V → Calls Tryz.prog 96 #[.string (fld fs (5 + 3 * k))] V (NumPost (durB (fld fs (5 + 3 * k))) V)) := fun V hV => HD.out _ V hV
      have HSF : Hid (shiftsF fs (k + 1) = shiftsF fs k ++ [⟨(insF fs (3 + 3 * k)).1, (durB (fld fs (5 + 3 * k))).1⟩]) := shiftsF_succ fs k
      have HSB2 : Hid (shiftBad fs k = (decide ((insF fs (3 + 3 * k)).2 ≠ 0) || decide ((durB (fld fs (5 + 3 * k))).2 ≠ 0))) := rfl
      have HSS : Hid (shiftsBad fs (k + 1) = shiftBad fs k) := by show _ = _; rw [shiftsBad_succ, HSB.out, Bool.false_or]
      have HLEN := Lib.hid (shiftsF_len fs k)
      unfold NumPost at HI1 HD3
      generalize insF fs (3 + 3 * k) = a1 at *
      generalize durB (fld fs (5 + 3 * k)) = a2 at *
      generalize fld fs (3 + 3 * k) = g1 at *
      generalize fld fs (3 + 3 * k + 1) = g2 at *
      obtain ⟨x1, er1⟩ := a1
      obtain ⟨x2, er2⟩ := a2
      simp only at HI1 HD3 HSF HSB2
      clear zz0 zz1 za
      go_upto_region 10 with (fail)
      go_cut [8, 9] (fun a b wx => a = .int .i64 x1 ∧ b = .int .i64 er1 ∧ Below wr.heap.size wr wx)
      case first =>
        go_region_law (first
          | (go_simp; go_at_call 97; refine (HI1.out _).mono ?_; rintro e w3 ⟨rfl, hb3⟩)
          | fail)
        all_goals
          go_wp2_with fail
          go_meet
          exact ⟨rfl, rfl, ⟨hb3.os, hb3.tape, hb3.output, hb3.size, hb3.block⟩⟩
      case rest =>
      obtain ⟨rfl, rfl, hb3⟩ := hcut
      obtain ⟨w3, rfl⟩ : ∃ x : World, x = wc := ⟨_, rfl⟩
      have hx3 := (hb3.block w.heap.size hRl).trans HXR.out
      have HXR3 := Lib.hid hx3
      have HXH3 := Lib.hid ((hb3.block H1 hHl).trans HXH.out)
      have HB3 : Hid (Below w.heap.size w w3) := HBW.out.trans (hb3.mono (by omega))
      have HOW3 := Lib.hid (HOW.out.next hb3)
      have hs3 := hb3.size
      have d2 := D2.out w3 HB3.out
      clear z0 z1 z2 f0 f1 f2 d0 d1 hb3 HI1 HXR HXH HBW HOW qa1 qa2 qa3
      have z0 : w3.cell? ⟨w.heap.size, 0, none⟩ = some (.string ⟨#[]⟩) := block_cell hx3 0
      have z1 : w3.cell? ⟨w.heap.size, 1, none⟩ = some (.int .i64 0) := block_cell hx3 1
      have z2 : w3.cell? ⟨w.heap.size, 2, none⟩ = some (.slice none 0 0) := block_cell hx3 2
      have f0 := block_free hx3 0; have f1 := block_free hx3 1; have f2 := block_free hx3 2
      clear hx3
      by_cases he1 : er1 = 0
      case neg =>
        have HR : Hid (zoneBad fs = true) := by show _ = _; rw [HZB2.out]; exact shiftsBad_hit hlt (by rw [HSB2.out, decide_eq_true he1]; rfl)
        have he1' : (er1 != 0) = true := by simpa using he1
        clear he1
        go_wp2_with fail
        refine bodyPost_ret (v := .tuple #[.agg #[.string ⟨#[]⟩, .int .i64 0, .slice none 0 0], .bool false]) (by simp [results, Tryz.results58, go_sem, z0, z1, z2]) rfl ?_
        exact HBAD.out _ HR.out (((HB3.out.setCell (Nat.le_refl _) _).setCell (Nat.le_refl _) _).setCell (Nat.le_refl _) _)
      subst he1
      go_wp2_with fail
      refine (HD3.out w3 HB3.out).mono ?_
      rintro e w4 ⟨rfl, hb4⟩
      have hx4 := (hb4.block w.heap.size (by omega)).trans HXR3.out
      have HXR4 := Lib.hid hx4
      have hxh4 := (hb4.block H1 (by omega)).trans HXH3.out
      have HXH4 := Lib.hid hxh4
      have HB4 : Hid (Below w.heap.size w w4) := HB3.out.trans (hb4.mono (by omega))
      have HOW4 := Lib.hid (HOW3.out.next hb4)
      have hs4 := hb4.size
      clear z0 z1 z2 f0 f1 f2 d2 hb4 HXR3 HXH3 HB3 HOW3 HD3
      have z0 : w4.cell? ⟨w.heap.size, 0, none⟩ = some (.string ⟨#[]⟩) := block_cell hx4 0
      have z1 : w4.cell? ⟨w.heap.size, 1, none⟩ = some (.int .i64 0) := block_cell hx4 1
      have z2 : w4.cell? ⟨w.heap.size, 2, none⟩ = some (.slice none 0 0) := block_cell hx4 2
      have f0 := block_free hx4 0; have f1 := block_free hx4 1; have f2 := block_free hx4 2
      clear hx4
      by_cases he2 : er2 = 0
      case neg =>
        have HR : Hid (zoneBad fs = true) := by show _ = _; rw [HZB2.out]; exact shiftsBad_hit hlt (by rw [HSB2.out, decide_eq_true he2]; simp)
        have he2' : (er2 != 0) = true := by simpa using he2
        clear he2 hxh4
        go_wp2_with fail
        refine bodyPost_ret (v := .tuple #[.agg #[.string ⟨#[]⟩, .int .i64 0, .slice none 0 0], .bool false]) (by simp [results, Tryz.results58, go_sem, z0, z1, z2]) rfl ?_
        exact HBAD.out _ HR.out (((HB4.out.setCell (Nat.le_refl _) _).setCell (Nat.le_refl _) _).setCell (Nat.le_refl _) _)
      subst he2
      have HSB5 : Hid (shiftsBad fs (k + 1) = false) := by show _ = _; rw [HSS.out, HSB2.out]; simp
      have y2 : w4.cell? ⟨H1, 2, none⟩ = some v := block_cell hxh4 2
      have g2' := block_free hxh4 2
      have hl4 : (shiftsF fs k).length ≤ 100000 := by rw [HLEN.out]; omega
      have hbl : Below w4.heap.size w4 (w4.alloc (.cells #[.int .i64 x1, .int .i64 x2] 64)) := (Below.refl _ _).alloc (Nat.le_refl _) _
      have HOA := Lib.hid (HOW4.out.alloc (.cells #[.int .i64 x1, .int .i64 x2] 64))
      have HOL := Lib.hid HOW4.out.lt
      have HBL := Lib.hid hbl
      obtain ⟨As, cs, hvs, -⟩ := HOW4.out.sl
      have HVS := Lib.hid hvs
      clear z0 z1 z2 f0 f1 f2 hxh4 hbl HSS HSB2 hvs HSB
      go_wp2_with (at_builtin; refine wpList_push (t := Ty.shift) rfl _ _ _ rfl 16 elem_shift rfl HOA.out w4.heap.size ⟨x1, x2⟩ (fun _ => False) rfl ⟨_, rfl, At.new w4 #[.int .i64 x1, .int .i64 x2] _⟩ (fun _ h => h.elim) (by omega) (by decide) (by simp; omega) ?_)
      intro v6 w6 hown6 hgr6
      have hz4 : (w4.alloc (.cells #[.int .i64 x1, .int .i64 x2] 64)).heap.size = w4.heap.size + 1 := by simp
      have hk6 : ∀ b, b ≤ H1 → w6.heap[b]? = w4.heap[b]? := fun b hb => by
        rw [hgr6.block b (by omega) (fun e => by have := HOL.out b e.symm; omega)]
        exact HBL.out.block b (by omega)
      have hxh6 := (hk6 H1 (Nat.le_refl _)).trans HXH4.out
      have f6 := block_free hxh6 2
      have y6 : w6.cell? ⟨H1, 2, none⟩ = some v := block_cell hxh6 2
      have HXH7 : Hid ((w6.setCell ⟨H1, 2, none⟩ v6).heap[H1]? = some (.cells #[.string (fld fs 1), .int .i64 off, v6] 51 (0, 0))) := heap_setCell_same _ _ _ _ _ _ hxh6
      have HXR7 : Hid ((w6.setCell ⟨H1, 2, none⟩ v6).heap[w.heap.size]? = some (.cells #[.string ⟨#[]⟩, .int .i64 0, .slice none 0 0] 51 (0, 0))) := (heap_setCell_other _ _ _ _ (by show w.heap.size ≠ H1; omega)).trans ((hk6 _ (by omega)).trans HXR4.out)
      have HOW7 : Hid (Own Ty.shift 64 (w6.setCell ⟨H1, 2, none⟩ v6) (H1 + 1) v6 (shiftsF fs (k + 1))) := by
        show Own _ _ _ _ _ _
        rw [HSF.out]
        exact hown6.flatT flat_shift fun b hb => heap_setCell_other _ _ _ _ (by show b ≠ H1; have := hown6.lt b hb; omega)
      have HB7 : Hid (Below w.heap.size w (w6.setCell ⟨H1, 2, none⟩ v6)) := ((HB4.out.trans (HBL.out.mono (by omega))).grown hgr6 (by omega) (fun q hq => by have := HOL.out q hq; omega)).setCell (by show w.heap.size ≤ H1; omega) _
      have hh6 := hgr6.size
      obtain ⟨A6, c6, e6, -⟩ := hown6.sl
      subst e6
      generalize (shiftsF fs k ++ [(⟨x1, x2⟩ : GShift)]).length = nl at *
      clear hgr6 hown6 hk6 hxh6 HXH4 HXR4 HOW4 HB4 HBL HOL HOA y2 g2' HVS
      go_wp2_with fail
      refine ⟨⟨k + 1, .slice A6 nl c6, _, _, by omega, congrArg (fun q => Value.slice _ q (c' - 3)) (show L - 3 = 3 * (m - (k + 1)) by have := HLK.out; omega), Lib.hid fun h => ?_, by have := HLK.out; omega, by omega, HSB5, HXH7, HOW7, HXR7, HB7⟩, ?_⟩
      · have := HLK.out
        rw [if_neg (by omega)]
        congr 1
      · show L - 3 < L
        omega
    · obtain rfl : k = m := by omega
      have l0 : ¬ (0 : Int) < ((3 * (k - k) : Nat) : Int) := by omega
      have hsl : 3 * (k - k) = 0 := by omega
      rw [hsl] at l0 ⊢
      have hxh := HXH.out
      have y0 : wr.cell? ⟨H1, 0, none⟩ = some (.string (fld fs 1)) := block_cell hxh 0
      have y1 : wr.cell? ⟨H1, 1, none⟩ = some (.int .i64 off) := block_cell hxh 1
      have y2 : wr.cell? ⟨H1, 2, none⟩ = some v := block_cell hxh 2
      have HRES : Hid (∀ V, (∀ b, H1 ≤ b → V.heap[b]? = wr.heap[b]?) → Below w.heap.size w V → ZPost fs w (.returned (.tuple #[.agg #[.string (fld fs 1), .int .i64 off, v], .bool true])) V) := fun V hV hb => by
        have hz0 : zoneBad fs = false := by rw [HZB2.out]; exact HSB.out
        refine ⟨zoneF fs, v, ?_, ?_, hb, fun _ => rfl⟩
        · rw [hz0, HZF.out]; rfl
        · rw [HZF.out]
          exact (HOW.out.flatT flat_shift fun b hb => hV b (by have := HOW.out.lt b hb; omega)).lower (by omega)
      clear hxh hlt hsl
      obtain ⟨Av, cv, rfl, -⟩ := HOW.out.sl
      go_wp2_with fail
      refine bodyPost_ret (v := .tuple #[.agg #[.string (fld fs 1), .int .i64 off, .slice Av (shiftsF fs k).length cv], .bool true]) (by simp [results, Tryz.results58, go_sem, z0, z1, z2]) rfl ?_
      refine HRES.out _ (fun b hb => ?_) (((HBW.out.setCell (Nat.le_refl _) _).setCell (Nat.le_refl _) _).setCell (Nat.le_refl _) _)
      rw [heap_setCell_other _ _ _ _ (by show b ≠ w.heap.size; omega), heap_setCell_other _ _ _ _ (by show b ≠ w.heap.size; omega), heap_setCell_other _ _ _ _ (by show b ≠ w.heap.size; omega)]
end Go.Proofs.YtldeoaddogifpaaGreatDoor
/-
  Contract of timetable.parseFlight.
  Condition: the fields read as a list of strings of no more than 20000 bytes, no more than 100000 of them.
-/
namespace Go.Proofs.YtldeoaddogifpaaGreatDoor
set_option linter.unusedSimpArgs false
set_option linter.unusedVariables false
open Go.RowKit

def FPost (fs : List ByteArray) (w : World) (e : Ending) (w' : World) : Prop := ∃ x : GFlight, e = .returned (.tuple #[.agg #[.string x.number, .string x.src, .string x.dst, .int .i64 x.dep, .int .i64 x.arr, .string x.kind, .int .i64 x.n0, .int .i64 x.n1, .int .i64 x.n2], .bool (!flightBad fs)]) ∧
  Below w.heap.size w w' ∧ (flightBad fs = false → x = flightF fs)
theorem fbad {fs : List ByteArray} {w w' : World} (h : flightBad fs = true) (hb : Below w.heap.size w w') : FPost fs w (.returned (.tuple #[.agg #[.string ⟨#[]⟩, .string ⟨#[]⟩, .string ⟨#[]⟩, .int .i64 0, .int .i64 0, .string ⟨#[]⟩, .int .i64 0, .int .i64 0, .int .i64 0], .bool false])) w' :=
  ⟨noFlight, by rw [h]; rfl, hb, fun h2 => by rw [h] at h2; cases h2⟩
/-- The needs' fields, j of them. -/
def needsBad (fs : List ByteArray) (j : Nat) : Bool := (List.range j).any fun k => decide ((parseB (fld fs (9 + k))).2 ≠ 0)
theorem needsBad_succ (fs : List ByteArray) (j : Nat) : needsBad fs (j + 1) = (needsBad fs j || decide ((parseB (fld fs (9 + j))).2 ≠ 0)) := by
  unfold needsBad
  rw [List.range_succ, List.any_append]
  simp
def needsF (fs : List ByteArray) : Nat → Int × Int × Int
  | 0 => (0, 0, 0)
  | j + 1 => need3 (parseB (fld fs (9 + j))).1 (needsF fs j) j
theorem flightBad_eq (fs : List ByteArray) : flightBad fs = (decide (fs.length ≠ 12) || decide ((insF fs 5).2 ≠ 0) || decide ((insF fs 7).2 ≠ 0) || needsBad fs 3) := by
  unfold flightBad needsBad
  simp only [List.range_succ, List.range_zero, List.nil_append, List.any_append, List.any_cons, List.any_nil, Bool.or_false, Bool.or_assoc]
theorem needsBad_hit {fs : List ByteArray} {j n : Nat} (hj : j < n) (h : (parseB (fld fs (9 + j))).2 ≠ 0) : needsBad fs n = true := by
  unfold needsBad
  rw [List.any_eq_true]
  exact ⟨j, List.mem_range.2 hj, decide_eq_true h⟩
set_option maxRecDepth 100000 in
set_option maxHeartbeats 6400000 in
theorem parseFlight_any (fs : List ByteArray) (A : Option Addr) (n c : Nat) (w : World) (hf : Sl Ty.str w (all_ w) A n c fs) (h1 : 1 ≤ fs.length) (hl : fs.length ≤ 100000) (hz : ∀ x ∈ fs, x.size ≤ 20000) :
    Calls Tryz.prog 59 #[.slice A n c] w (FPost fs w) := by
  have hn := hf.len
  have hnc := hf.2.1
  have hcm := hf.2.2.1
  unfold maxLen at hcm
  obtain ⟨fb, o, rfl, hSb, hcells⟩ := fld_cells hf (by omega)
  have hfb : fb < w.heap.size := hSb
  subst hn
  have ha := (Below.refl w.heap.size w).alloc (Nat.le_refl _) (.cells #[.string ⟨#[]⟩, .string ⟨#[]⟩, .string ⟨#[]⟩, .int .i64 0, .int .i64 0, .string ⟨#[]⟩, .int .i64 0, .int .i64 0, .int .i64 0] 47)
  have hx := heap_alloc_new w (.cells #[.string ⟨#[]⟩, .string ⟨#[]⟩, .string ⟨#[]⟩, .int .i64 0, .int .i64 0, .string ⟨#[]⟩, .int .i64 0, .int .i64 0, .int .i64 0] 47)
  have hsz0 : (w.alloc (.cells #[.string ⟨#[]⟩, .string ⟨#[]⟩, .string ⟨#[]⟩, .int .i64 0, .int .i64 0, .string ⟨#[]⟩, .int .i64 0, .int .i64 0, .int .i64 0] 47)).heap.size = w.heap.size + 1 := by simp
  have HA := Lib.hid ha; have HX := Lib.hid hx; have HS0 := Lib.hid hsz0
  have HC : Hid (∀ V : World, Below w.heap.size w V → ∀ k, k < fs.length → V.cell? ⟨fb, o + k, none⟩ = some (.string (fld fs k))) := fun V hV k hk => (World.cell?_of_block (a := ⟨fb, o + k, none⟩) (hV.block fb hfb)).trans (hcells k hk)
  have HZ := Lib.hid (fld_le (m := 20000) hz)
  have HBAD : Hid (∀ V, flightBad fs = true → Below w.heap.size w V → FPost fs w (.returned (.tuple #[.agg #[.string ⟨#[]⟩, .string ⟨#[]⟩, .string ⟨#[]⟩, .int .i64 0, .int .i64 0, .string ⟨#[]⟩, .int .i64 0, .int .i64 0, .int .i64 0], .bool false])) V) := fun V h hb => fbad h hb
  clear hf hSb hcells ha hx hsz0 hz
  have HZB := Lib.hid (flightBad_eq fs)
  obtain ⟨W, hW⟩ : ∃ W, W = w.alloc (.cells #[.string ⟨#[]⟩, .string ⟨#[]⟩, .string ⟨#[]⟩, .int .i64 0, .int .i64 0, .string ⟨#[]⟩, .int .i64 0, .int .i64 0, .int .i64 0] 47) := ⟨_, rfl⟩
  have HW0 := Lib.hid hW
  rw [← hW] at HA HX HS0
  have z0 : W.cell? ⟨w.heap.size, 0, none⟩ = some (.string ⟨#[]⟩) := block_cell HX.out 0
  have z1 : W.cell? ⟨w.heap.size, 1, none⟩ = some (.string ⟨#[]⟩) := block_cell HX.out 1
  have z2 : W.cell? ⟨w.heap.size, 2, none⟩ = some (.string ⟨#[]⟩) := block_cell HX.out 2
  have z3 : W.cell? ⟨w.heap.size, 3, none⟩ = some (.int .i64 0) := block_cell HX.out 3
  have z4 : W.cell? ⟨w.heap.size, 4, none⟩ = some (.int .i64 0) := block_cell HX.out 4
  have z5 : W.cell? ⟨w.heap.size, 5, none⟩ = some (.string ⟨#[]⟩) := block_cell HX.out 5
  have z6 : W.cell? ⟨w.heap.size, 6, none⟩ = some (.int .i64 0) := block_cell HX.out 6
  have z7 : W.cell? ⟨w.heap.size, 7, none⟩ = some (.int .i64 0) := block_cell HX.out 7
  have z8 : W.cell? ⟨w.heap.size, 8, none⟩ = some (.int .i64 0) := block_cell HX.out 8
  have f0 := block_free HX.out 0; have f1 := block_free HX.out 1; have f2 := block_free HX.out 2; have f3 := block_free HX.out 3; have f4 := block_free HX.out 4; have f5 := block_free HX.out 5; have f6 := block_free HX.out 6; have f7 := block_free HX.out 7; have f8 := block_free HX.out 8
  clear hW
  by_cases h3 : fs.length = 12
  case neg =>
    have HR : Hid (flightBad fs = true) := by show _ = _; rw [HZB.out, decide_eq_true h3]; rfl
    have h3' : ((fs.length : Int) != 12) = true := by simp; omega
    clear HZB h3
    go_enter Tryz.func59, Tryz.ntmps59
    go_upto_region 1 with (fail)
    rw [← HW0.out]
    go_wp2_with fail
    refine bodyPost_ret (v := .tuple #[.agg #[.string ⟨#[]⟩, .string ⟨#[]⟩, .string ⟨#[]⟩, .int .i64 0, .int .i64 0, .string ⟨#[]⟩, .int .i64 0, .int .i64 0, .int .i64 0], .bool false]) (by simp [results, Tryz.results59, go_sem, z0, z1, z2, z3, z4, z5, z6, z7, z8]) rfl ?_
    exact HBAD.out _ HR.out (((((((((HA.out.setCell (Nat.le_refl _) _).setCell (Nat.le_refl _) _).setCell (Nat.le_refl _) _).setCell (Nat.le_refl _) _).setCell (Nat.le_refl _) _).setCell (Nat.le_refl _) _).setCell (Nat.le_refl _) _).setCell (Nat.le_refl _) _).setCell (Nat.le_refl _) _)
  have h3' : ((fs.length : Int) != 12) = false := by simp; omega
  rw [decide_eq_false (by simpa using h3)] at HZB
  have HL12 := Lib.hid h3
  have l1 : (1 : Int) < (fs.length : Int) := by omega
  have l2 : (2 : Int) < (fs.length : Int) := by omega
  have l3 : (3 : Int) < (fs.length : Int) := by omega
  have l4 : (4 : Int) < (fs.length : Int) := by omega
  have l5 : (5 : Int) < (fs.length : Int) := by omega
  have l6 : (6 : Int) < (fs.length : Int) := by omega
  have l7 : (7 : Int) < (fs.length : Int) := by omega
  have l8 : (8 : Int) < (fs.length : Int) := by omega
  have c1x := HC.out W HA.out 1 (by omega); have c2x := HC.out W HA.out 2 (by omega); have c3x := HC.out W HA.out 3 (by omega); have c4x := HC.out W HA.out 4 (by omega)
  obtain ⟨za, qa1, qa2, qa3⟩ := size_sp9 (HZ.out 5) (HZ.out 6)
  obtain ⟨zb, qb1, qb2, qb3⟩ := size_sp9 (HZ.out 7) (HZ.out 8)
  have HI1 : Hid (∀ V : World, Calls Tryz.prog 97 #[.string (fld fs 5 ++ spS ++ fld fs 6)] V (NumPost (insF fs 5) V)) := fun V => parseInstant_any _ V za
  have HI2 : Hid (∀ V : World, Calls Tryz.prog 97 #[.string (fld fs 7 ++ spS ++ fld fs 8)] V (NumPost (insF fs 7) V)) := fun V => parseInstant_any _ V zb
  have HFF : Hid (flightF fs = ⟨fld fs 1, fld fs 2, fld fs 3, (insF fs 5).1, (insF fs 7).1, fld fs 4, (needsF fs 3).1, (needsF fs 3).2.1, (needsF fs 3).2.2⟩) := rfl
  unfold NumPost at HI1 HI2
  generalize insF fs 5 = a1 at *
  generalize insF fs 7 = a2 at *
  obtain ⟨x1, er1⟩ := a1
  obtain ⟨x2, er2⟩ := a2
  simp only at HI1 HI2 HFF HZB
  clear za zb h3
  have hH0 : w.heap.size < W.heap.size := by have := HS0.out; omega
  go_enter Tryz.func59, Tryz.ntmps59
  go_upto_region 1 with (fail)
  rw [← HW0.out]
  go_upto_region 3 with (fail)
  obtain ⟨H0, hH0e⟩ : ∃ x, x = W.heap.size := ⟨_, rfl⟩
  rw [← hH0e] at hH0
  go_cut [4] (fun v wx => ∃ H1, v = .pointer (some ⟨H1, 0, none⟩) ∧ H0 ≤ H1 ∧ wx.heap[H1]? = some (.cells (fCells (fld fs 1) (fld fs 2) (fld fs 3) 0 0 (fld fs 4) (0, 0, 0)) 47 (0, 0)) ∧ Below W.heap.size W wx)
  case first =>
    refine wp_region_facts 14 [15, 16, 17, 18, 19, 20, 21, 22, 23, 24, 25, 26, 27, 4] (fun i v x => (([(fun v _ => v = .slice (some ⟨fb, o, none⟩) fs.length c), (fun v _ => v = .pointer (some ⟨fb, o + 1, none⟩)), (fun v _ => v = .string (fld fs 1)), (fun v _ => v = .slice (some ⟨fb, o, none⟩) fs.length c), (fun v _ => v = .pointer (some ⟨fb, o + 2, none⟩)), (fun v _ => v = .string (fld fs 2)), (fun v _ => v = .slice (some ⟨fb, o, none⟩) fs.length c), (fun v _ => v = .pointer (some ⟨fb, o + 3, none⟩)), (fun v _ => v = .string (fld fs 3)), (fun v _ => v = .slice (some ⟨fb, o, none⟩) fs.length c), (fun v _ => v = .pointer (some ⟨fb, o + 4, none⟩)), (fun v _ => v = .string (fld fs 4)), (fun v _ => v = .agg #[.string (fld fs 1), .string (fld fs 2), .string (fld fs 3), .int .i64 0, .int .i64 0, .string (fld fs 4), .int .i64 0, .int .i64 0, .int .i64 0]), (fun v x => ∃ b, v = .pointer (some ⟨b, 0, none⟩) ∧ W.heap.size ≤ b ∧ x.heap[b]? = some (.cells #[.string ⟨#[]⟩, .string ⟨#[]⟩, .string ⟨#[]⟩, .int .i64 0, .int .i64 0, .string ⟨#[]⟩, .int .i64 0, .int .i64 0, .int .i64 0] 47 (0, 0)))] : List (Value → World → Prop)).getD i (fun _ _ => True)) v x) (by kernel_rfl) (by kernel_rfl) (by kernel_rfl) (by kernel_rfl) (by kernel_rfl) ?_ ?_ ?_
    · intro i v x x' h hx
      rcases Nat.lt_or_ge i 14 with hi | hi
      · have hi' : i = 0 ∨ i = 1 ∨ i = 2 ∨ i = 3 ∨ i = 4 ∨ i = 5 ∨ i = 6 ∨ i = 7 ∨ i = 8 ∨ i = 9 ∨ i = 10 ∨ i = 11 ∨ i = 12 ∨ i = 13 := by omega
        rcases hi' with rfl | rfl | rfl | rfl | rfl | rfl | rfl | rfl | rfl | rfl | rfl | rfl | rfl | rfl
        · exact h
        · exact h
        · exact h
        · exact h
        · exact h
        · exact h
        · exact h
        · exact h
        · exact h
        · exact h
        · exact h
        · exact h
        · exact h
        · exact let ⟨b, e, hl, hc⟩ := h; ⟨b, e, hl, (hx.block b (Array.getElem?_eq_some_iff.1 hc).1).trans hc⟩
      · rw [List.getD_eq_getElem?_getD, List.getElem?_eq_none (by simpa using hi)]; trivial
    · intro q o' hq ho a' w' hb' hout hpre K hK
      have hq' : q = 0 ∨ q = 1 ∨ q = 2 ∨ q = 3 ∨ q = 4 ∨ q = 5 ∨ q = 6 ∨ q = 7 ∨ q = 8 ∨ q = 9 ∨ q = 10 ∨ q = 11 ∨ q = 12 ∨ q = 13 := by omega
      rcases hq' with rfl | rfl | rfl | rfl | rfl | rfl | rfl | rfl | rfl | rfl | rfl | rfl | rfl | rfl
      · obtain rfl := Option.some.inj ho
        have e0 : a'.tmps[0]? = some (.slice (some ⟨fb, o, none⟩) fs.length c) := hout 0 (by decide)
        go_simp
        exact hK (.slice (some ⟨fb, o, none⟩) fs.length c) w' rfl (Below.refl _ _)
      · obtain rfl := Option.some.inj ho
        have p0 : a'.tmps.getD 15 undef = .slice (some ⟨fb, o, none⟩) fs.length c := hpre ⟨0, .data⟩ (by simp) 15 rfl
        simp only [Array.getD_eq_getD_getElem?] at p0
        go_simp
        exact hK (.pointer (some ⟨fb, o + 1, none⟩)) w' rfl (Below.refl _ _)
      · obtain rfl := Option.some.inj ho
        have p1 : a'.tmps.getD 16 undef = .pointer (some ⟨fb, o + 1, none⟩) := hpre ⟨1, .data⟩ (by simp) 16 rfl
        simp only [Array.getD_eq_getD_getElem?] at p1
        have c2 := cell_kept c1x hb'
        go_simp
        exact hK (.string (fld fs 1)) w' rfl (Below.refl _ _)
      · obtain rfl := Option.some.inj ho
        have e0 : a'.tmps[0]? = some (.slice (some ⟨fb, o, none⟩) fs.length c) := hout 0 (by decide)
        go_simp
        exact hK (.slice (some ⟨fb, o, none⟩) fs.length c) w' rfl (Below.refl _ _)
      · obtain rfl := Option.some.inj ho
        have p3 : a'.tmps.getD 18 undef = .slice (some ⟨fb, o, none⟩) fs.length c := hpre ⟨3, .data⟩ (by simp) 18 rfl
        simp only [Array.getD_eq_getD_getElem?] at p3
        go_simp
        exact hK (.pointer (some ⟨fb, o + 2, none⟩)) w' rfl (Below.refl _ _)
      · obtain rfl := Option.some.inj ho
        have p4 : a'.tmps.getD 19 undef = .pointer (some ⟨fb, o + 2, none⟩) := hpre ⟨4, .data⟩ (by simp) 19 rfl
        simp only [Array.getD_eq_getD_getElem?] at p4
        have c5 := cell_kept c2x hb'
        go_simp
        exact hK (.string (fld fs 2)) w' rfl (Below.refl _ _)
      · obtain rfl := Option.some.inj ho
        have e0 : a'.tmps[0]? = some (.slice (some ⟨fb, o, none⟩) fs.length c) := hout 0 (by decide)
        go_simp
        exact hK (.slice (some ⟨fb, o, none⟩) fs.length c) w' rfl (Below.refl _ _)
      · obtain rfl := Option.some.inj ho
        have p6 : a'.tmps.getD 21 undef = .slice (some ⟨fb, o, none⟩) fs.length c := hpre ⟨6, .data⟩ (by simp) 21 rfl
        simp only [Array.getD_eq_getD_getElem?] at p6
        go_simp
        exact hK (.pointer (some ⟨fb, o + 3, none⟩)) w' rfl (Below.refl _ _)
      · obtain rfl := Option.some.inj ho
        have p7 : a'.tmps.getD 22 undef = .pointer (some ⟨fb, o + 3, none⟩) := hpre ⟨7, .data⟩ (by simp) 22 rfl
        simp only [Array.getD_eq_getD_getElem?] at p7
        have c8 := cell_kept c3x hb'
        go_simp
        exact hK (.string (fld fs 3)) w' rfl (Below.refl _ _)
      · obtain rfl := Option.some.inj ho
        have e0 : a'.tmps[0]? = some (.slice (some ⟨fb, o, none⟩) fs.length c) := hout 0 (by decide)
        go_simp
        exact hK (.slice (some ⟨fb, o, none⟩) fs.length c) w' rfl (Below.refl _ _)
      · obtain rfl := Option.some.inj ho
        have p9 : a'.tmps.getD 24 undef = .slice (some ⟨fb, o, none⟩) fs.length c := hpre ⟨9, .data⟩ (by simp) 24 rfl
        simp only [Array.getD_eq_getD_getElem?] at p9
        go_simp
        exact hK (.pointer (some ⟨fb, o + 4, none⟩)) w' rfl (Below.refl _ _)
      · obtain rfl := Option.some.inj ho
        have p10 : a'.tmps.getD 25 undef = .pointer (some ⟨fb, o + 4, none⟩) := hpre ⟨10, .data⟩ (by simp) 25 rfl
        simp only [Array.getD_eq_getD_getElem?] at p10
        have c11 := cell_kept c4x hb'
        go_simp
        exact hK (.string (fld fs 4)) w' rfl (Below.refl _ _)
      · obtain rfl := Option.some.inj ho
        have p2 : a'.tmps.getD 17 undef = .string (fld fs 1) := hpre ⟨2, .data⟩ (by simp) 17 rfl
        simp only [Array.getD_eq_getD_getElem?] at p2
        have p5 : a'.tmps.getD 20 undef = .string (fld fs 2) := hpre ⟨5, .data⟩ (by simp) 20 rfl
        simp only [Array.getD_eq_getD_getElem?] at p5
        have p8 : a'.tmps.getD 23 undef = .string (fld fs 3) := hpre ⟨8, .data⟩ (by simp) 23 rfl
        simp only [Array.getD_eq_getD_getElem?] at p8
        have p11 : a'.tmps.getD 26 undef = .string (fld fs 4) := hpre ⟨11, .data⟩ (by simp) 26 rfl
        simp only [Array.getD_eq_getD_getElem?] at p11
        go_simp
        exact hK (.agg #[.string (fld fs 1), .string (fld fs 2), .string (fld fs 3), .int .i64 0, .int .i64 0, .string (fld fs 4), .int .i64 0, .int .i64 0, .int .i64 0]) w' rfl (Below.refl _ _)
      · obtain rfl := Option.some.inj ho
        go_simp
        exact hK _ _ ⟨w'.heap.size, rfl, hb'.size, heap_alloc_new _ _⟩ ((Below.refl _ _).alloc (Nat.le_refl _) _)
    · intro us w' hb' hfacts
      have hbi : us 12 = .agg #[.string (fld fs 1), .string (fld fs 2), .string (fld fs 3), .int .i64 0, .int .i64 0, .string (fld fs 4), .int .i64 0, .int .i64 0, .int .i64 0] := hfacts 12 (by decide)
      obtain ⟨H1, hxa, hH1, hbox⟩ := hfacts 13 (by decide)
      simp only [putL, Act.put, List.setIfInBounds_toArray, List.set_cons_zero, List.set_cons_succ]
      generalize us 12 = x12 at *
      generalize us 13 = x13 at *
      subst hbi
      simp only [List.drop_succ_cons, List.drop_zero]
      clear hfacts
      subst hxa
      have y0 : w'.cell? ⟨H1, 0, none⟩ = some (.string ⟨#[]⟩) := block_cell hbox 0
      have y1 : w'.cell? ⟨H1, 1, none⟩ = some (.string ⟨#[]⟩) := block_cell hbox 1
      have y2 : w'.cell? ⟨H1, 2, none⟩ = some (.string ⟨#[]⟩) := block_cell hbox 2
      have y3 : w'.cell? ⟨H1, 3, none⟩ = some (.int .i64 0) := block_cell hbox 3
      have y4 : w'.cell? ⟨H1, 4, none⟩ = some (.int .i64 0) := block_cell hbox 4
      have y5 : w'.cell? ⟨H1, 5, none⟩ = some (.string ⟨#[]⟩) := block_cell hbox 5
      have y6 : w'.cell? ⟨H1, 6, none⟩ = some (.int .i64 0) := block_cell hbox 6
      have y7 : w'.cell? ⟨H1, 7, none⟩ = some (.int .i64 0) := block_cell hbox 7
      have y8 : w'.cell? ⟨H1, 8, none⟩ = some (.int .i64 0) := block_cell hbox 8
      have g0 := block_free hbox 0; have g1 := block_free hbox 1; have g2 := block_free hbox 2; have g3 := block_free hbox 3; have g4 := block_free hbox 4; have g5 := block_free hbox 5; have g6 := block_free hbox 6; have g7 := block_free hbox 7; have g8 := block_free hbox 8
      have s0 : _ = some (Obj.cells #[.string (fld fs 1), .string ⟨#[]⟩, .string ⟨#[]⟩, .int .i64 0, .int .i64 0, .string ⟨#[]⟩, .int .i64 0, .int .i64 0, .int .i64 0] 47 (0, 0)) := heap_setCell_same w' H1 0 _ _ (.string (fld fs 1)) hbox
      have s1 : _ = some (Obj.cells #[.string (fld fs 1), .string (fld fs 2), .string ⟨#[]⟩, .int .i64 0, .int .i64 0, .string ⟨#[]⟩, .int .i64 0, .int .i64 0, .int .i64 0] 47 (0, 0)) := heap_setCell_same _ H1 1 _ _ (.string (fld fs 2)) s0
      have s2 : _ = some (Obj.cells #[.string (fld fs 1), .string (fld fs 2), .string (fld fs 3), .int .i64 0, .int .i64 0, .string ⟨#[]⟩, .int .i64 0, .int .i64 0, .int .i64 0] 47 (0, 0)) := heap_setCell_same _ H1 2 _ _ (.string (fld fs 3)) s1
      have s3 : _ = some (Obj.cells #[.string (fld fs 1), .string (fld fs 2), .string (fld fs 3), .int .i64 0, .int .i64 0, .string ⟨#[]⟩, .int .i64 0, .int .i64 0, .int .i64 0] 47 (0, 0)) := heap_setCell_same _ H1 3 _ _ (.int .i64 0) s2
      have s4 : _ = some (Obj.cells #[.string (fld fs 1), .string (fld fs 2), .string (fld fs 3), .int .i64 0, .int .i64 0, .string ⟨#[]⟩, .int .i64 0, .int .i64 0, .int .i64 0] 47 (0, 0)) := heap_setCell_same _ H1 4 _ _ (.int .i64 0) s3
      have s5 : _ = some (Obj.cells #[.string (fld fs 1), .string (fld fs 2), .string (fld fs 3), .int .i64 0, .int .i64 0, .string (fld fs 4), .int .i64 0, .int .i64 0, .int .i64 0] 47 (0, 0)) := heap_setCell_same _ H1 5 _ _ (.string (fld fs 4)) s4
      have s6 : _ = some (Obj.cells #[.string (fld fs 1), .string (fld fs 2), .string (fld fs 3), .int .i64 0, .int .i64 0, .string (fld fs 4), .int .i64 0, .int .i64 0, .int .i64 0] 47 (0, 0)) := heap_setCell_same _ H1 6 _ _ (.int .i64 0) s5
      have s7 : _ = some (Obj.cells #[.string (fld fs 1), .string (fld fs 2), .string (fld fs 3), .int .i64 0, .int .i64 0, .string (fld fs 4), .int .i64 0, .int .i64 0, .int .i64 0] 47 (0, 0)) := heap_setCell_same _ H1 7 _ _ (.int .i64 0) s6
      have s8 : _ = some (Obj.cells #[.string (fld fs 1), .string (fld fs 2), .string (fld fs 3), .int .i64 0, .int .i64 0, .string (fld fs 4), .int .i64 0, .int .i64 0, .int .i64 0] 47 (0, 0)) := heap_setCell_same _ H1 8 _ _ (.int .i64 0) s7
      have hbk : ∀ k, W.heap.size ≤ (⟨H1, k, none⟩ : Addr).block := fun _ => hH1
      have HB9 := Lib.hid (((((((((hb'.setCell (hbk 0) (.string (fld fs 1))).setCell (hbk 1) (.string (fld fs 2))).setCell (hbk 2) (.string (fld fs 3))).setCell (hbk 3) (.int .i64 0)).setCell (hbk 4) (.int .i64 0)).setCell (hbk 5) (.string (fld fs 4))).setCell (hbk 6) (.int .i64 0)).setCell (hbk 7) (.int .i64 0)).setCell (hbk 8) (.int .i64 0))
      have HS9 := Lib.hid s8
      clear hb' hbox s0 s1 s2 s3 s4 s5 s6 s7 s8
      go_wp2_with fail
      go_meet
      refine ⟨H1, rfl, by omega, ?_, ?_⟩
      · exact HS9.out
      · exact HB9.out
  case rest =>
  obtain ⟨H1, rfl, hH1, hbox, hbw⟩ := hcut
  obtain ⟨w1, rfl⟩ : ∃ x : World, x = wc := ⟨_, rfl⟩
  have hxr := (hbw.block w.heap.size (by omega)).trans HX.out
  have HX1 := Lib.hid hxr; have HF1 := Lib.hid hbox
  have HB1 : Hid (Below w.heap.size w w1) := HA.out.trans (hbw.mono (by omega))
  clear z0 f0 z1 f1 z2 f2 z3 f3 z4 f4 z5 f5 z6 f6 z7 f7 z8 f8
  clear c1x c2x c3x c4x hbw
  have c5 := HC.out w1 HB1.out 5 (by have := HL12.out; omega); have c6 := HC.out w1 HB1.out 6 (by have := HL12.out; omega)
  have hHl1 : H1 < w1.heap.size := (Array.getElem?_eq_some_iff.1 hbox).1
  clear hbox hxr
  go_upto_region 4 with (fail)
  go_cut [5, 6] (fun a b wx => a = .int .i64 x1 ∧ b = .int .i64 er1 ∧ Below w1.heap.size w1 wx)
  case first =>
    go_region_law (first
      | (go_simp; go_at_call 97; refine (HI1.out _).mono ?_; rintro e w3 ⟨rfl, hb3⟩)
      | fail)
    all_goals
      go_wp2_with fail
      go_meet
      exact ⟨rfl, rfl, ⟨hb3.os, hb3.tape, hb3.output, hb3.size, hb3.block⟩⟩
  case rest =>
  obtain ⟨rfl, rfl, hb3⟩ := hcut
  obtain ⟨w2, rfl⟩ : ∃ x : World, x = wc := ⟨_, rfl⟩
  have hxr := (hb3.block w.heap.size (by omega)).trans HX1.out
  have HX2 := Lib.hid hxr
  have HF2 := Lib.hid ((hb3.block H1 hHl1).trans HF1.out)
  have HB2 : Hid (Below w.heap.size w w2) := HB1.out.trans (hb3.mono (by omega))
  have hs2 := hb3.size
  clear c5 c6 hb3 HX1 HF1 HB1 HI1 qa1 qa2 qa3
  have z0 : w2.cell? ⟨w.heap.size, 0, none⟩ = some (.string ⟨#[]⟩) := block_cell hxr 0
  have z1 : w2.cell? ⟨w.heap.size, 1, none⟩ = some (.string ⟨#[]⟩) := block_cell hxr 1
  have z2 : w2.cell? ⟨w.heap.size, 2, none⟩ = some (.string ⟨#[]⟩) := block_cell hxr 2
  have z3 : w2.cell? ⟨w.heap.size, 3, none⟩ = some (.int .i64 0) := block_cell hxr 3
  have z4 : w2.cell? ⟨w.heap.size, 4, none⟩ = some (.int .i64 0) := block_cell hxr 4
  have z5 : w2.cell? ⟨w.heap.size, 5, none⟩ = some (.string ⟨#[]⟩) := block_cell hxr 5
  have z6 : w2.cell? ⟨w.heap.size, 6, none⟩ = some (.int .i64 0) := block_cell hxr 6
  have z7 : w2.cell? ⟨w.heap.size, 7, none⟩ = some (.int .i64 0) := block_cell hxr 7
  have z8 : w2.cell? ⟨w.heap.size, 8, none⟩ = some (.int .i64 0) := block_cell hxr 8
  have f0 := block_free hxr 0; have f1 := block_free hxr 1; have f2 := block_free hxr 2; have f3 := block_free hxr 3; have f4 := block_free hxr 4; have f5 := block_free hxr 5; have f6 := block_free hxr 6; have f7 := block_free hxr 7; have f8 := block_free hxr 8
  clear hxr
  by_cases he1 : er1 = 0
  case neg =>
    have HR : Hid (flightBad fs = true) := by show _ = _; rw [HZB.out, decide_eq_true he1]; simp
    have he1' : (er1 != 0) = true := by simpa using he1
    clear he1
    go_wp2_with fail
    refine bodyPost_ret (v := .tuple #[.agg #[.string ⟨#[]⟩, .string ⟨#[]⟩, .string ⟨#[]⟩, .int .i64 0, .int .i64 0, .string ⟨#[]⟩, .int .i64 0, .int .i64 0, .int .i64 0], .bool false]) (by simp [results, Tryz.results59, go_sem, z0, z1, z2, z3, z4, z5, z6, z7, z8]) rfl ?_
    exact HBAD.out _ HR.out (((((((((HB2.out.setCell (Nat.le_refl _) _).setCell (Nat.le_refl _) _).setCell (Nat.le_refl _) _).setCell (Nat.le_refl _) _).setCell (Nat.le_refl _) _).setCell (Nat.le_refl _) _).setCell (Nat.le_refl _) _).setCell (Nat.le_refl _) _).setCell (Nat.le_refl _) _)
  subst he1
  clear z0 f0 z1 f1 z2 f2 z3 f3 z4 f4 z5 f5 z6 f6 z7 f7 z8 f8
  have c7 := HC.out w2 HB2.out 7 (by have := HL12.out; omega); have c8 := HC.out w2 HB2.out 8 (by have := HL12.out; omega)
  go_upto_region 7 with (fail)
  go_cut [7, 6] (fun a b wx => a = .int .i64 x2 ∧ b = .int .i64 er2 ∧ Below w2.heap.size w2 wx)
  case first =>
    go_region_law (first
      | (go_simp; go_at_call 97; refine (HI2.out _).mono ?_; rintro e w3 ⟨rfl, hb3⟩)
      | fail)
    all_goals
      go_wp2_with fail
      go_meet
      exact ⟨rfl, rfl, ⟨hb3.os, hb3.tape, hb3.output, hb3.size, hb3.block⟩⟩
  case rest =>
  obtain ⟨rfl, rfl, hb3⟩ := hcut
  obtain ⟨w3, rfl⟩ : ∃ x : World, x = wc := ⟨_, rfl⟩
  have hxr := (hb3.block w.heap.size (by omega)).trans HX2.out
  have HX3 := Lib.hid hxr
  have hf3 := (hb3.block H1 (by omega)).trans HF2.out
  have HF3 := Lib.hid hf3
  have HB3 : Hid (Below w.heap.size w w3) := HB2.out.trans (hb3.mono (by omega))
  have hs3 := hb3.size
  clear c7 c8 hb3 HX2 HF2 HB2 HI2 qb1 qb2 qb3
  have z0 : w3.cell? ⟨w.heap.size, 0, none⟩ = some (.string ⟨#[]⟩) := block_cell hxr 0
  have z1 : w3.cell? ⟨w.heap.size, 1, none⟩ = some (.string ⟨#[]⟩) := block_cell hxr 1
  have z2 : w3.cell? ⟨w.heap.size, 2, none⟩ = some (.string ⟨#[]⟩) := block_cell hxr 2
  have z3 : w3.cell? ⟨w.heap.size, 3, none⟩ = some (.int .i64 0) := block_cell hxr 3
  have z4 : w3.cell? ⟨w.heap.size, 4, none⟩ = some (.int .i64 0) := block_cell hxr 4
  have z5 : w3.cell? ⟨w.heap.size, 5, none⟩ = some (.string ⟨#[]⟩) := block_cell hxr 5
  have z6 : w3.cell? ⟨w.heap.size, 6, none⟩ = some (.int .i64 0) := block_cell hxr 6
  have z7 : w3.cell? ⟨w.heap.size, 7, none⟩ = some (.int .i64 0) := block_cell hxr 7
  have z8 : w3.cell? ⟨w.heap.size, 8, none⟩ = some (.int .i64 0) := block_cell hxr 8
  have f0 := block_free hxr 0; have f1 := block_free hxr 1; have f2 := block_free hxr 2; have f3 := block_free hxr 3; have f4 := block_free hxr 4; have f5 := block_free hxr 5; have f6 := block_free hxr 6; have f7 := block_free hxr 7; have f8 := block_free hxr 8
  clear hxr
  by_cases he2 : er2 = 0
  case neg =>
    have HR : Hid (flightBad fs = true) := by show _ = _; rw [HZB.out, decide_eq_true he2]; simp
    have he2' : (er2 != 0) = true := by simpa using he2
    clear he2 hf3
    go_wp2_with fail
    refine bodyPost_ret (v := .tuple #[.agg #[.string ⟨#[]⟩, .string ⟨#[]⟩, .string ⟨#[]⟩, .int .i64 0, .int .i64 0, .string ⟨#[]⟩, .int .i64 0, .int .i64 0, .int .i64 0], .bool false]) (by simp [results, Tryz.results59, go_sem, z0, z1, z2, z3, z4, z5, z6, z7, z8]) rfl ?_
    exact HBAD.out _ HR.out (((((((((HB3.out.setCell (Nat.le_refl _) _).setCell (Nat.le_refl _) _).setCell (Nat.le_refl _) _).setCell (Nat.le_refl _) _).setCell (Nat.le_refl _) _).setCell (Nat.le_refl _) _).setCell (Nat.le_refl _) _).setCell (Nat.le_refl _) _).setCell (Nat.le_refl _) _)
  subst he2
  have HZB2 : Hid (flightBad fs = needsBad fs 3) := by show _ = _; rw [HZB.out]; simp
  clear z0 f0 z1 f1 z2 f2 z3 f3 z4 f4 z5 f5 z6 f6 z7 f7 z8 f8
  have y3 : w3.cell? ⟨H1, 3, none⟩ = some (.int .i64 0) := block_cell hf3 3
  have g3 := block_free hf3 3
  have hf4 := heap_setCell_same w3 H1 3 _ _ (.int .i64 x1) hf3
  have y4 : (w3.setCell ⟨H1, 3, none⟩ (.int .i64 x1)).cell? ⟨H1, 4, none⟩ = some (.int .i64 0) := block_cell hf4 4
  have g4 := block_free hf4 4
  have hf5 := heap_setCell_same _ H1 4 _ _ (.int .i64 x2) hf4
  have HF5 : Hid (((w3.setCell ⟨H1, 3, none⟩ (.int .i64 x1)).setCell ⟨H1, 4, none⟩ (.int .i64 x2)).heap[H1]? = some (.cells (fCells (fld fs 1) (fld fs 2) (fld fs 3) x1 x2 (fld fs 4) (needsF fs 0)) 47 (0, 0))) := hf5
  have HX5 : Hid (((w3.setCell ⟨H1, 3, none⟩ (.int .i64 x1)).setCell ⟨H1, 4, none⟩ (.int .i64 x2)).heap[w.heap.size]? = some (.cells #[.string ⟨#[]⟩, .string ⟨#[]⟩, .string ⟨#[]⟩, .int .i64 0, .int .i64 0, .string ⟨#[]⟩, .int .i64 0, .int .i64 0, .int .i64 0] 47 (0, 0))) := by
    show _ = _
    rw [heap_setCell_other _ _ _ _ (by show w.heap.size ≠ H1; omega), heap_setCell_other _ _ _ _ (by show w.heap.size ≠ H1; omega)]
    exact HX3.out
  have HB5 : Hid (Below w.heap.size w ((w3.setCell ⟨H1, 3, none⟩ (.int .i64 x1)).setCell ⟨H1, 4, none⟩ (.int .i64 x2))) := (HB3.out.setCell (by show w.heap.size ≤ H1; omega) _).setCell (by show w.heap.size ≤ H1; omega) _
  clear hf3 hf4 hf5 HX3 HF3 HB3 HZB
  go_wp2_with fail
  generalize (w3.setCell ⟨H1, 3, none⟩ (.int .i64 x1)).setCell ⟨H1, 4, none⟩ (.int .i64 x2) = w5 at *
  clear y3 y4 g3 g4
  go_loopw [62] (fun i wr => ∃ (j : Nat), j ≤ 3 ∧ i = .int .i64 j ∧ Hid (needsBad fs j = false) ∧ Hid (wr.heap[H1]? = some (.cells (fCells (fld fs 1) (fld fs 2) (fld fs 3) x1 x2 (fld fs 4) (needsF fs j)) 47 (0, 0))) ∧ Hid (wr.heap[w.heap.size]? = some (.cells #[.string ⟨#[]⟩, .string ⟨#[]⟩, .string ⟨#[]⟩, .int .i64 0, .int .i64 0, .string ⟨#[]⟩, .int .i64 0, .int .i64 0, .int .i64 0] 47 (0, 0))) ∧ Hid (Below w.heap.size w wr)) (fun i _ => 3 - (intOf i).toNat)
  case atStart => exact ⟨0, Nat.zero_le _, rfl, rfl, HF5, HX5, HB5⟩
  case round =>
    clear HF5 HX5 HB5
    obtain ⟨j, hj, rfl, HNB, HF, HXR, HB⟩ := hrel
    have hxr := HXR.out
    have z0 : wr.cell? ⟨w.heap.size, 0, none⟩ = some (.string ⟨#[]⟩) := block_cell hxr 0
    have z1 : wr.cell? ⟨w.heap.size, 1, none⟩ = some (.string ⟨#[]⟩) := block_cell hxr 1
    have z2 : wr.cell? ⟨w.heap.size, 2, none⟩ = some (.string ⟨#[]⟩) := block_cell hxr 2
    have z3 : wr.cell? ⟨w.heap.size, 3, none⟩ = some (.int .i64 0) := block_cell hxr 3
    have z4 : wr.cell? ⟨w.heap.size, 4, none⟩ = some (.int .i64 0) := block_cell hxr 4
    have z5 : wr.cell? ⟨w.heap.size, 5, none⟩ = some (.string ⟨#[]⟩) := block_cell hxr 5
    have z6 : wr.cell? ⟨w.heap.size, 6, none⟩ = some (.int .i64 0) := block_cell hxr 6
    have z7 : wr.cell? ⟨w.heap.size, 7, none⟩ = some (.int .i64 0) := block_cell hxr 7
    have z8 : wr.cell? ⟨w.heap.size, 8, none⟩ = some (.int .i64 0) := block_cell hxr 8
    have f0 := block_free hxr 0; have f1 := block_free hxr 1; have f2 := block_free hxr 2; have f3 := block_free hxr 3; have f4 := block_free hxr 4; have f5 := block_free hxr 5; have f6 := block_free hxr 6; have f7 := block_free hxr 7; have f8 := block_free hxr 8
    clear hxr
    by_cases hlt : j < 3
    · have cj := HC.out wr HB.out (9 + j) (by have := HL12.out; omega)
      have hcj : wr.cell? ⟨fb, o + (9 + (j : Int)).toNat, none⟩ = some (.string (fld fs (9 + j))) := by rw [show (9 + (j : Int)).toNat = 9 + j by omega]; exact cj
      have lj : 9 + (j : Int) < (fs.length : Int) := by have := HL12.out; omega
      have lj0 : 0 ≤ 9 + (j : Int) := by omega
      have qj : IntKind.i64.wrap (9 + (j : Int)) = 9 + j := IntWalk.i64_in _ (by omega)
      have HPI : Hid (∀ V, Calls Tryz.prog 98 #[.string (fld fs (9 + j))] V (ParsePost (fld fs (9 + j)) V)) := fun V => parseInt_any _ V (by have := HZ.out (9 + j); unfold maxLen; omega)
      have HNS : Hid (needsF fs (j + 1) = need3 (parseB (fld fs (9 + j))).1 (needsF fs j) j) := rfl
      have HNB2 := Lib.hid (needsBad_succ fs j)
      have HHIT : Hid ((parseB (fld fs (9 + j))).2 ≠ 0 → needsBad fs 3 = true) := fun h => needsBad_hit hlt h
      unfold ParsePost at HPI
      generalize parseB (fld fs (9 + j)) = pj at *
      obtain ⟨nj, ej⟩ := pj
      simp only at HPI HNS HNB2 HHIT
      go_wp2_with fail
      refine (HPI.out _).mono ?_
      rintro e w' ⟨rfl, rfl⟩
      by_cases hej : ej = 0
      case neg =>
        have HR : Hid (flightBad fs = true) := by show _ = _; rw [HZB2.out]; exact HHIT.out hej
        have hej' : (ej != 0) = true := by simpa using hej
        clear hej
        go_wp2_with fail
        refine bodyPost_ret (v := .tuple #[.agg #[.string ⟨#[]⟩, .string ⟨#[]⟩, .string ⟨#[]⟩, .int .i64 0, .int .i64 0, .string ⟨#[]⟩, .int .i64 0, .int .i64 0, .int .i64 0], .bool false]) (by simp [results, Tryz.results59, go_sem, z0, z1, z2, z3, z4, z5, z6, z7, z8]) rfl ?_
        exact HBAD.out _ HR.out (((((((((HB.out.setCell (Nat.le_refl _) _).setCell (Nat.le_refl _) _).setCell (Nat.le_refl _) _).setCell (Nat.le_refl _) _).setCell (Nat.le_refl _) _).setCell (Nat.le_refl _) _).setCell (Nat.le_refl _) _).setCell (Nat.le_refl _) _).setCell (Nat.le_refl _) _)
      subst hej
      have HNB3 : Hid (needsBad fs (j + 1) = false) := by show _ = _; rw [HNB2.out, HNB.out]; simp
      obtain ⟨y, hy⟩ := fCells_get (fld fs 1) (fld fs 2) (fld fs 3) x1 x2 (fld fs 4) (needsF fs j) j hlt
      have hc7 : wr.cell? ⟨H1, 6 + j, none⟩ = some (.int .i64 y) := (block_cell HF.out _).trans hy
      have hf7 : wr.frozen? ⟨H1, 6 + j, none⟩ = false := block_free HF.out _
      have HF7 : Hid ((wr.setCell ⟨H1, 6 + j, none⟩ (.int .i64 nj)).heap[H1]? = some (.cells (fCells (fld fs 1) (fld fs 2) (fld fs 3) x1 x2 (fld fs 4) (needsF fs (j + 1))) 47 (0, 0))) := by
        show _ = _
        rw [heap_setCell_same _ _ _ _ _ _ HF.out, fCells_set _ _ _ _ _ _ _ _ _ hlt, HNS.out]
      have HX7 : Hid ((wr.setCell ⟨H1, 6 + j, none⟩ (.int .i64 nj)).heap[w.heap.size]? = some (.cells #[.string ⟨#[]⟩, .string ⟨#[]⟩, .string ⟨#[]⟩, .int .i64 0, .int .i64 0, .string ⟨#[]⟩, .int .i64 0, .int .i64 0, .int .i64 0] 47 (0, 0))) := (heap_setCell_other _ _ _ _ (by show w.heap.size ≠ H1; omega)).trans HXR.out
      have HB7 : Hid (Below w.heap.size w (wr.setCell ⟨H1, 6 + j, none⟩ (.int .i64 nj))) := HB.out.setCell (by show w.heap.size ≤ H1; omega) _
      have lj3 : (j : Int) < 3 := by omega
      clear z0 f0 z1 f1 z2 f2 z3 f3 z4 f4 z5 f5 z6 f6 z7 f7 z8 f8
      clear hy hcj cj
      go_wp2_with fail
      go_roundw
      case rel => exact ⟨j + 1, by omega, by go_num, HNB3, HF7, HX7, HB7⟩
      case measure => simp [intOf]; omega
    · have hj3 : j = 3 := by omega
      subst hj3
      have HRES : Hid (∀ V, Below w.heap.size w V → FPost fs w (.returned (.tuple #[.agg #[.string (fld fs 1), .string (fld fs 2), .string (fld fs 3), .int .i64 x1, .int .i64 x2, .string (fld fs 4), .int .i64 (needsF fs 3).1, .int .i64 (needsF fs 3).2.1, .int .i64 (needsF fs 3).2.2], .bool true])) V) := fun V hb => by
        have hz0 : flightBad fs = false := by rw [HZB2.out]; exact HNB.out
        exact ⟨flightF fs, by rw [hz0, HFF.out]; rfl, hb, fun _ => rfl⟩
      generalize needsF fs 3 = nf at *
      obtain ⟨m0, m1, m2⟩ := nf
      simp only at HRES
      have hxh := HF.out
      have y0 : wr.cell? ⟨H1, 0, none⟩ = some (.string (fld fs 1)) := block_cell hxh 0
      have y1 : wr.cell? ⟨H1, 1, none⟩ = some (.string (fld fs 2)) := block_cell hxh 1
      have y2 : wr.cell? ⟨H1, 2, none⟩ = some (.string (fld fs 3)) := block_cell hxh 2
      have y3 : wr.cell? ⟨H1, 3, none⟩ = some (.int .i64 x1) := block_cell hxh 3
      have y4 : wr.cell? ⟨H1, 4, none⟩ = some (.int .i64 x2) := block_cell hxh 4
      have y5 : wr.cell? ⟨H1, 5, none⟩ = some (.string (fld fs 4)) := block_cell hxh 5
      have y6 : wr.cell? ⟨H1, 6, none⟩ = some (.int .i64 m0) := block_cell hxh 6
      have y7 : wr.cell? ⟨H1, 7, none⟩ = some (.int .i64 m1) := block_cell hxh 7
      have y8 : wr.cell? ⟨H1, 8, none⟩ = some (.int .i64 m2) := block_cell hxh 8
      clear hxh hlt
      go_wp2_with fail
      refine bodyPost_ret (v := .tuple #[.agg #[.string (fld fs 1), .string (fld fs 2), .string (fld fs 3), .int .i64 x1, .int .i64 x2, .string (fld fs 4), .int .i64 m0, .int .i64 m1, .int .i64 m2], .bool true]) (by simp [results, Tryz.results59, go_sem, z0, z1, z2, z3, z4, z5, z6, z7, z8]) rfl ?_
      exact HRES.out _ (((((((((HB.out.setCell (Nat.le_refl _) _).setCell (Nat.le_refl _) _).setCell (Nat.le_refl _) _).setCell (Nat.le_refl _) _).setCell (Nat.le_refl _) _).setCell (Nat.le_refl _) _).setCell (Nat.le_refl _) _).setCell (Nat.le_refl _) _).setCell (Nat.le_refl _) _)
end Go.Proofs.YtldeoaddogifpaaGreatDoor
