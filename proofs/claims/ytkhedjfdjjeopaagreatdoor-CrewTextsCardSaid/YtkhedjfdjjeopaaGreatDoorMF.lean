/-
  Joined texts: CrewParseR. What each proves stands ahead of it, with its conditions.
-/
import Derived.Test.YtkhedjfdjjeopaaGreatDoorME
import Derived.Test.YtkhedjfdjjeopaaGreatDoorCrewVR
import Derived.Test.YtkhedjfdjjeopaaGreatDoorValidateRef
import Derived.Test.YtkhedjfdjjeopaaGreatDoorMA
/-
  Contract of the reference's ParseCrew: the persons, line and error of the plain parser (parseC).
  Condition: the timetable is well-formed and reads as one; the string's length fits an int.
-/
namespace Go.Proofs.YtkhedjfdjjeopaaGreatDoor
set_option linter.unusedSimpArgs false
set_option linter.unusedVariables false
open Go.RowKit

set_option maxRecDepth 100000 in
set_option maxHeartbeats 12800000 in
theorem parseCrewR_any (t : GTT) (s : ByteArray) (A1 A2 A3 : Option Addr) (n1 n2 n3 c1 c2 c3 : Nat) (w : World) (ht : t.ok) (hs1 : Sl Ty.zone w (all_ w) A1 n1 c1 t.zones) (hs2 : Sl Ty.airport w (all_ w) A2 n2 c2 t.airports) (hs3 : Sl Ty.flight w (all_ w) A3 n3 c3 t.flights) (hs : s.size ≤ maxLen) :
    Calls Tryz.prog 9 #[.agg #[.slice A1 n1 c1, .slice A2 n2 c2, .slice A3 n3 c3], .string s] w (CParPost (parseC t s) w) := by
  have HS : Hid (∀ V, Below w.heap.size w V → (Sl Ty.zone V (all_ V) A1 n1 c1 t.zones ∧ Sl Ty.airport V (all_ V) A2 n2 c2 t.airports ∧ Sl Ty.flight V (all_ V) A3 n3 c3 t.flights)) := fun V hV => ⟨hs1.next hV, hs2.next hV, hs3.next hV⟩
  have ha := (Below.refl w.heap.size w).alloc (Nat.le_refl _) (.cells #[.slice A1 n1 c1, .slice A2 n2 c2, .slice A3 n3 c3] 26)
  have hx0 := heap_alloc_new w (.cells #[.slice A1 n1 c1, .slice A2 n2 c2, .slice A3 n3 c3] 26)
  have hz0 : (w.alloc (.cells #[.slice A1 n1 c1, .slice A2 n2 c2, .slice A3 n3 c3] 26)).heap.size = w.heap.size + 1 := by simp
  have HA := Lib.hid ha; have HX0 := Lib.hid hx0; have HZ0 := Lib.hid hz0
  have HTO := Lib.hid ht
  have HSS := Lib.hid hs
  have HBAD : Hid (∀ (W' : World) (ln x : Int), Below w.heap.size w W' → CParPost ([], ln, x) w (.returned (.tuple #[.slice none 0 0, .int .i64 ln, .int .i64 x])) W') := fun W' ln x hb => ⟨none, 0, 0, rfl, Sl.nil0, hb⟩
  have HT1 : Hid (ttE t ≠ 0 → parseC t s = ([], 0, ttE t)) := fun h => by show _ = _; unfold parseC; rw [if_pos h]
  have HT2 : Hid (ttE t = 0 → (linesB s).2 ≠ 0 → parseC t s = ([], 0, (linesB s).2)) := fun h h2 => by show _ = _; unfold parseC; rw [if_neg (by simp [h]), if_pos h2]
  clear ha hs1 hs2 hs3 hx0 hz0 ht hs
  go_enter Tryz.func9, Tryz.ntmps9
  go_wp2_with fail
  generalize w.alloc (.cells #[.slice A1 n1 c1, .slice A2 n2 c2, .slice A3 n3 c3] 26) = W at *
  refine (validateR_any t A1 A2 A3 n1 n2 n3 c1 c2 c3 W HTO.out (HS.out W HA.out).1 (HS.out W HA.out).2.1 (HS.out W HA.out).2.2).mono ?_
  rintro e w1 ⟨rfl, hb1⟩
  have hbw1 : Below w.heap.size w w1 := HA.out.trans (hb1.mono HA.out.size)
  by_cases h0 : ttE t = 0
  case neg =>
    have hne : (ttE t != 0) = true := by simpa using h0
    have HR : Hid (parseC t s = ([], 0, ttE t)) := HT1.out h0
    clear h0 HT1 HT2
    generalize ttE t = ev at *
    as_aux_lemma =>
      go_wp2_with fail
      go_ret3
      rw [HR.out]
      exact HBAD.out _ _ _ hbw1
  rw [h0]
  have H0 := Lib.hid h0
  have HX1 : Hid (w1.heap[w.heap.size]? = some (.cells #[.slice A1 n1 c1, .slice A2 n2 c2, .slice A3 n3 c3] 26)) := (hb1.block _ (by have := HZ0.out; omega)).trans HX0.out
  have hz1 : w.heap.size + 1 ≤ w1.heap.size := by have := hb1.size; have := HZ0.out; omega
  clear hb1 HX0 HZ0 HA h0
  go_wp2_with fail
  refine (refLines_any s w1 HSS.out).mono ?_
  rintro e w2 ⟨Al, nl, cl, rfl, hsl, hb2⟩
  have hbw2 : Below w.heap.size w w2 := hbw1.trans (hb2.mono hbw1.size)
  have HX2 : Hid (w2.heap[w.heap.size]? = some (.cells #[.slice A1 n1 c1, .slice A2 n2 c2, .slice A3 n3 c3] 26)) := (hb2.block _ (by omega)).trans HX1.out
  have hz2 : w.heap.size + 1 ≤ w2.heap.size := by have := hb2.size; omega
  by_cases he : (linesB s).2 = 0
  case neg =>
    have he' : ((linesB s).2 != 0) = true := by simpa using he
    have HR := Lib.hid (HT2.out H0.out he)
    clear he
    as_aux_lemma =>
      go_wp2_with fail
      go_ret3
      rw [HR.out]
      exact HBAD.out _ _ _ hbw2
  have HLE := Lib.hid he
  rw [he]
  have HLM : Hid (∀ f ∈ (linesB s).1, f.size ≤ 20000) := fun f hf => by have := linesB_mem hf; omega
  have hll := linesB_len s
  have hmm := @run_makeMap Tryz.prog
  have HPO : Hid (∀ k, PsOk k (psAt (linesB s).1 k)) := psAt_ok s
  have HPE : Hid (∀ k : Nat, k < (linesB s).1.length → errAt (linesB s).1 k ≠ 0 → (∀ j, j < k → errAt (linesB s).1 j = 0) → parseC t s = ([], (k : Int) + 1, errAt (linesB s).1 k)) := fun k h1 h2 h3 => parseC_err H0.out he h1 h2 h3
  have HPA : Hid ((∀ j, j < (linesB s).1.length → errAt (linesB s).1 j = 0) → parseC t s = if crewE t (psAt (linesB s).1 (linesB s).1.length) ≠ 0 then ([], 0, crewE t (psAt (linesB s).1 (linesB s).1.length)) else (psAt (linesB s).1 (linesB s).1.length, 0, 0)) := fun h => parseC_all H0.out he h
  generalize (linesB s).1 = ls at *
  have hnl := hsl.len
  subst hnl
  have HSL := Lib.hid hsl
  have HBW2 := Lib.hid hbw2
  clear hsl hb2 hbw2 HT1 HT2 HX1 he hbw1
  go_wp2_with fail
  have HKB : Hid (∀ V, Below w2.heap.size w2 V → Below w.heap.size w V ∧ Sl Ty.str V (all_ V) Al ls.length cl ls ∧ V.heap[w.heap.size]? = some (.cells #[.slice A1 n1 c1, .slice A2 n2 c2, .slice A3 n3 c3] 26)) := fun V hV =>
    ⟨HBW2.out.trans (hV.mono HBW2.out.size), HSL.out.next hV, (hV.block _ (by omega)).trans HX2.out⟩
  go_loopw [10, 11, 12, 13, 14] (fun lv i _ _ _ wr => ∃ (k : Nat) (v : Value), k ≤ ls.length ∧ i = .int .i64 k ∧ lv = v ∧ PMem wr v (psAt ls k) w2.heap.size wr.heap.size ∧ Below w2.heap.size w2 wr ∧ Hid (∀ j, j < k → errAt ls j = 0)) (fun _ i _ _ _ _ => ls.length - (intOf i).toNat)
  case atStart => exact ⟨0, _, Nat.zero_le _, rfl, rfl, PMem.nil _ _ _, Below.refl _ _, fun j hj => by omega⟩
  case round =>
    obtain ⟨k, v, hk, rfl, hlv, hpm, hb2r, HNE⟩ := hrel
    have hlv' := hlv.symm
    subst hlv'
    clear hlv
    obtain ⟨hbr, hslr, hxr⟩ := HKB.out wr hb2r
    by_cases hlt : k < ls.length
    · have hlt' : (k : Int) < (ls.length : Int) := by omega
      obtain ⟨lb, lo2, rfl, -, hcl⟩ := hslr.name_at hlt
      have HSTEP : Hid (psAt ls (k + 1) = (stepB (ls.getD k noStr) (psAt ls k)).1) := rfl
      have HERR : Hid (errAt ls k = (stepB (ls.getD k noStr) (psAt ls k)).2) := rfl
      have hsz : (ls.getD k noStr).size ≤ 20000 := fld_sz HLM.out
      have HFO := Lib.hid (refFields_own (ls.getD k noStr) wr (by omega))
      have HFM : Hid (∀ x ∈ fieldsB (ls.getD k noStr), x.size ≤ 20000) := fun x hx => by have := fieldsB_mem hx; omega
      generalize ls.getD k noStr = ln at *
      have HPM := Lib.hid hpm; have HB2R := Lib.hid hb2r
      clear hpm hb2r hslr hxr hsz
      go_wp2_with fail
      refine HFO.out.mono ?_
      rintro e wf ⟨vf, rfl, hof, hbf⟩
      obtain ⟨Af, cf, rfl, hslf⟩ := hof.sl
      have hszf := hbf.size
      have HPF : Hid (PMem wf v (psAt ls k) w2.heap.size wr.heap.size) := HPM.out.keep (Nat.le_refl _) fun b _ hb => hbf.block b hb
      have HBF : Hid (Below w2.heap.size w2 wf) := HB2R.out.trans (hbf.mono HB2R.out.size)
      have HSLF := Lib.hid hslf
      have HNIL := Lib.hid (stepB_nil (s := ln) (ps := psAt ls k))
      have HLIN := Lib.hid (stepB_line (s := ln) (ps := psAt ls k))
      have hlo := HB2R.out.size
      clear hof hslf HFO HPM HB2R hbf
      generalize fieldsB ln = fs at *
      by_cases hfs : fs = []
      · have hl0 : ((fs.length : Int) == 0) = true := by rw [hfs]; rfl
        have HE := Lib.hid (HNIL.out hfs)
        have HP1 : Hid (psAt ls (k + 1) = psAt ls k) := by show _ = _; rw [HSTEP.out, HE.out]
        have HN1 : Hid (∀ j, j < k + 1 → errAt ls j = 0) := fun j hj => by
          rcases Nat.lt_or_eq_of_le (Nat.le_of_lt_succ hj) with h | h
          · exact HNE.out j h
          · subst h; rw [HERR.out, HE.out]
        clear hfs
        go_wp2_with fail
        go_roundw
        case rel => exact ⟨k + 1, v, by omega, by go_num, rfl, by rw [HP1.out]; exact HPF.out.keep hszf fun _ _ _ => rfl, HBF.out, HN1⟩
        case measure => simp [intOf]; omega
      have hl0 : ((fs.length : Int) == 0) = false := by
        have := List.length_pos_iff.2 hfs
        simp; omega
      have HE := Lib.hid (HLIN.out hfs)
      have H3 := Lib.hid (lineB_err fs (psAt ls k))
      have hrb := heap_alloc_new wf (.cells #[.bool false] 67)
      have HRB := Lib.hid hrb
      have HBB : Hid (Below w2.heap.size w2 (wf.alloc (.cells #[.bool false] 67))) := HBF.out.alloc HBF.out.size _
      clear hrb
      go_upto_block 2 with (fail)
      go_cut [10, 14] (fun lv av wx => SwPost (lineB fs (psAt ls k)) w2.heap.size wf.heap.size w2 lv av wx)
      case first =>
        have HSP : Hid (Sl Ty.str (wf.alloc (.cells #[.bool false] 67)) (fun b => wr.heap.size ≤ b ∧ b < wf.heap.size) Af fs.length cf fs) := HSLF.out.keep fun b hb => Below.heap_alloc _ _ _ hb.2
        have HPP : Hid (PMem (wf.alloc (.cells #[.bool false] 67)) v (psAt ls k) w2.heap.size wr.heap.size) := HPF.out.keep (Nat.le_refl _) fun b _ hb => Below.heap_alloc _ _ _ (by omega)
        have hwz : wf.heap.size < (wf.alloc (.cells #[.bool false] 67)).heap.size := by simp
        have HBI : Hid (BadIs (wf.alloc (.cells #[.bool false] 67)) wf.heap.size false) := HRB.out
        have HOK := Lib.hid (HPO.out k)
        have hnl := HSP.out.le
        unfold maxLen at hnl
        generalize wf.alloc (.cells #[.bool false] 67) = wp at *
        have hfl := List.length_pos_iff.2 hfs
        obtain ⟨fb, o, rfl, hSb, hcells⟩ := str_cells HSP.out hfl
        have HCE := Lib.hid hcells
        have e0 : wp.cell? ⟨fb, o, none⟩ = some (.string (fs.getD 0 noStr)) := hcells 0 hfl
        have l0 : (0 : Int) < (fs.length : Int) := by omega
        have HLB : Hid (lineB fs (psAt ls k) = lineB fs (psAt ls k)) := rfl
        generalize psAt ls k = ps at *
        obtain ⟨Av, cv, rfl, -⟩ := HPP.out.sl
        have g0 : wp.cell? ⟨wf.heap.size, 0, none⟩ = some (.bool false) := block_cell HBI.out 0
        have fr0 : wp.frozen? ⟨wf.heap.size, 0, none⟩ = false := block_free HBI.out 0
        have HBAD2 : Hid ((lineB fs ps).2 = 1 → SwPost (lineB fs ps) w2.heap.size wf.heap.size w2 (.slice Av ps.length cv) (.int .i64 0) (wp.setCell ⟨wf.heap.size, 0, none⟩ (.bool true))) := fun hr =>
          sw_end (b := true) ⟨by decide, by decide⟩ (heap_setCell_same wp _ 0 _ _ (.bool true) HBI.out) (HBB.out.setCell HBF.out.size _) (fun _ => hr) (fun h => by cases h)
        have HL1 := Lib.hid (perB_line (f := fs) (ps := ps))
        have HL2 := Lib.hid (typB_line (f := fs) (ps := ps))
        have HL3 := Lib.hid (vacB_line (f := fs) (ps := ps))
        have HL4 := Lib.hid (lineB_else (f := fs) (ps := ps))
        clear hcells hfs HNIL HLIN HE H3 HLB HERR HSTEP HNE
        generalize hf0 : fs.getD 0 noStr = f0 at *
        by_cases h1 : f0 = personS
        · have hb1 : (f0.toList == ([112, 101, 114, 115, 111, 110] : List UInt8)) = true := by rw [h1, personS_l]; decide
          have hb2 : (f0.toList == ([116, 121, 112, 101] : List UInt8)) = false := by rw [h1, personS_l]; decide
          have hb3 : (f0.toList == ([118, 97, 99, 97, 116, 105, 111, 110] : List UInt8)) = false := by rw [h1, personS_l]; decide
          have HRL := Lib.hid (HL1.out h1)
          clear h1 hf0 HL1 HL2 HL3 HL4
          by_cases h6 : fs.length = 6
          case neg =>
            have h6' : ((fs.length : Int) == 6) = false := by simp; omega
            have HR : Hid ((lineB fs ps).2 = 1) := by show _ = _; rw [HRL.out]; unfold perB; rw [if_pos h6]
            clear h6
            as_aux_lemma =>
              go_wp2_with fail
              go_meet
              exact HBAD2.out HR.out
          have h6' : ((fs.length : Int) == 6) = true := by simp; omega
          have l1 : (1 : Int) < (fs.length : Int) := by omega
          have l2 : (2 : Int) < (fs.length : Int) := by omega
          have l3 : (3 : Int) < (fs.length : Int) := by omega
          have l4 : (4 : Int) < (fs.length : Int) := by omega
          have l5 : (5 : Int) < (fs.length : Int) := by omega
          have e1 := HCE.out 1 (by omega); have e2 := HCE.out 2 (by omega); have e3 := HCE.out 3 (by omega); have e4 := HCE.out 4 (by omega); have e5 := HCE.out 5 (by omega)
          have z1 : (fs.getD 1 noStr).size ≤ maxLen := by have := fld_sz (i := 1) HFM.out; unfold maxLen; omega
          have z5 : (fs.getD 5 noStr).size ≤ maxLen := by have := fld_sz (i := 5) HFM.out; unfold maxLen; omega
          have HQ : Hid (lineB fs ps = if (parseB (fs.getD 1 noStr)).2 ≠ 0 then (ps, 1) else
              if (parseB (fs.getD 5 noStr)).2 ≠ 0 then (ps, 1) else
                if rankB (fs.getD 4 noStr) = -1 then (ps, 1) else
                  (ps ++ [⟨(parseB (fs.getD 1 noStr)).1, fs.getD 2 noStr, fs.getD 3 noStr, rankB (fs.getD 4 noStr), (parseB (fs.getD 5 noStr)).1, [], []⟩], 0)) := by show _ = _; rw [HRL.out]; unfold perB; rw [if_neg (by omega)]
          generalize fs.getD 1 noStr = f1 at *
          generalize fs.getD 2 noStr = f2 at *
          generalize fs.getD 3 noStr = f3 at *
          generalize fs.getD 4 noStr = f4 at *
          generalize fs.getD 5 noStr = f5 at *
          have HN1 : Hid (∀ (V : World) (b : Bool), BadIs V wf.heap.size b → Calls Tryz.prog 27 #[.pointer (some ⟨wf.heap.size, 0, none⟩), .string f1] V (NbPost wf.heap.size b (parseB f1) V)) := fun V b hb => numberR_any _ b f1 V hb z1
          have HN5 : Hid (∀ (V : World) (b : Bool), BadIs V wf.heap.size b → Calls Tryz.prog 27 #[.pointer (some ⟨wf.heap.size, 0, none⟩), .string f5] V (NbPost wf.heap.size b (parseB f5) V)) := fun V b hb => numberR_any _ b f5 V hb z5
          have HRK : Hid (∀ V : World, Calls Tryz.prog 28 #[.string f4] V fun e w' => e = .returned (.int .i64 (rankB f4)) ∧ Below V.heap.size V w') := fun V => rankR_any f4 V
          have hrk := rankB_bd f4
          unfold NbPost at HN1 HN5
          generalize parseB f1 = a1 at *
          generalize parseB f5 = a5 at *
          generalize rankB f4 = rk at *
          obtain ⟨id, er1⟩ := a1
          obtain ⟨sen, er5⟩ := a5
          simp only at HN1 HN5 HQ
          clear h6 HRL HCE z1 z5
          go_upto_region 17 with (fail)
          go_cut [15] (fun xv wx => ∃ (pb : Nat) (b : Bool), xv = .pointer (some ⟨pb, 0, none⟩) ∧ wp.heap.size ≤ pb ∧ wx.heap[pb]? = some (.cells #[.int .i64 id, .string f2, .string f3, .int .i64 rk, .int .i64 sen, .slice none 0 0, .slice none 0 0] 49 (0, 0)) ∧ BadIs wx wf.heap.size b ∧ (b = true ↔ (er1 ≠ 0 ∨ er5 ≠ 0)) ∧ But wf.heap.size wp wx)
          case first =>
            refine wp_region_factsR (RB wf.heap.size (er1 ≠ 0 ∨ er5 ≠ 0)) RB.trans 22 [60, 61, 62, 63, 64, 65, 66, 67, 68, 69, 70, 71, 72, 73, 74, 75, 76, 77, 78, 79, 80, 15] (regR wf.heap.size fb o fs.length cf f1 f2 f3 f4 f5 id er1 rk sen er5 wp.heap.size) (RB.drew _) (by kernel_rfl) (by kernel_rfl) (by kernel_rfl) (by kernel_rfl) (by kernel_rfl) (regR_keep hwz) ?_ ?_
            · intro q o' hq ho a' w' hR hout hpre K hK
              have hq' : q = 0 ∨ q = 1 ∨ q = 2 ∨ q = 3 ∨ q = 4 ∨ q = 5 ∨ q = 6 ∨ q = 7 ∨ q = 8 ∨ q = 9 ∨ q = 10 ∨ q = 11 ∨ q = 12 ∨ q = 13 ∨ q = 14 ∨ q = 15 ∨ q = 16 ∨ q = 17 ∨ q = 18 ∨ q = 19 ∨ q = 20 ∨ q = 21 := by omega
              rcases hq' with rfl | rfl | rfl | rfl | rfl | rfl | rfl | rfl | rfl | rfl | rfl | rfl | rfl | rfl | rfl | rfl | rfl | rfl | rfl | rfl | rfl | rfl
              · obtain rfl := Option.some.inj ho
                have e13 : a'.tmps[13]? = some (.pointer (some ⟨wf.heap.size, 0, none⟩)) := hout 13 (by decide)
                go_simp
                exact hK (.pointer (some ⟨wf.heap.size, 0, none⟩)) w' rfl (RB.refl _ _ _)
              · obtain rfl := Option.some.inj ho
                have e12 : a'.tmps[12]? = some (.slice (some ⟨fb, o, none⟩) fs.length cf) := hout 12 (by decide)
                go_simp
                exact hK (.slice (some ⟨fb, o, none⟩) fs.length cf) w' rfl (RB.refl _ _ _)
              · obtain rfl := Option.some.inj ho
                have p1 : a'.tmps.getD 61 undef = .slice (some ⟨fb, o, none⟩) fs.length cf := hpre ⟨1, .data⟩ (by simp) 61 rfl
                simp only [Array.getD_eq_getD_getElem?] at p1
                go_simp
                exact hK (.pointer (some ⟨fb, o + 1, none⟩)) w' rfl (RB.refl _ _ _)
              · obtain rfl := Option.some.inj ho
                have p2 : a'.tmps.getD 62 undef = .pointer (some ⟨fb, o + 1, none⟩) := hpre ⟨2, .data⟩ (by simp) 62 rfl
                simp only [Array.getD_eq_getD_getElem?] at p2
                have c1 := hR.1.cell e1 (show fb ≠ _ by omega)
                go_simp
                exact hK (.string f1) w' rfl (RB.refl _ _ _)
              · obtain rfl := Option.some.inj ho
                have p0 : a'.tmps.getD 60 undef = .pointer (some ⟨wf.heap.size, 0, none⟩) := hpre ⟨0, .data⟩ (by simp) 60 rfl
                simp only [Array.getD_eq_getD_getElem?] at p0
                have p3 : a'.tmps.getD 63 undef = .string f1 := hpre ⟨3, .data⟩ (by simp) 63 rfl
                simp only [Array.getD_eq_getD_getElem?] at p3
                obtain ⟨b', hb', -, -⟩ := hR.2 false HBI.out
                go_simp
                go_at_call 27
                refine (HN1.out w' b' hb').mono ?_
                rintro e w'' ⟨rfl, hbi, hbut⟩
                exact hK _ _ ⟨rfl, fun h => hbi.to (by simp [h])⟩ (RB.of_num hb' hbi hbut .inl)
              · obtain rfl := Option.some.inj ho
                have e12 : a'.tmps[12]? = some (.slice (some ⟨fb, o, none⟩) fs.length cf) := hout 12 (by decide)
                go_simp
                exact hK (.slice (some ⟨fb, o, none⟩) fs.length cf) w' rfl (RB.refl _ _ _)
              · obtain rfl := Option.some.inj ho
                have p5 : a'.tmps.getD 65 undef = .slice (some ⟨fb, o, none⟩) fs.length cf := hpre ⟨5, .data⟩ (by simp) 65 rfl
                simp only [Array.getD_eq_getD_getElem?] at p5
                go_simp
                exact hK (.pointer (some ⟨fb, o + 2, none⟩)) w' rfl (RB.refl _ _ _)
              · obtain rfl := Option.some.inj ho
                have p6 : a'.tmps.getD 66 undef = .pointer (some ⟨fb, o + 2, none⟩) := hpre ⟨6, .data⟩ (by simp) 66 rfl
                simp only [Array.getD_eq_getD_getElem?] at p6
                have c2 := hR.1.cell e2 (show fb ≠ _ by omega)
                go_simp
                exact hK (.string f2) w' rfl (RB.refl _ _ _)
              · obtain rfl := Option.some.inj ho
                have e12 : a'.tmps[12]? = some (.slice (some ⟨fb, o, none⟩) fs.length cf) := hout 12 (by decide)
                go_simp
                exact hK (.slice (some ⟨fb, o, none⟩) fs.length cf) w' rfl (RB.refl _ _ _)
              · obtain rfl := Option.some.inj ho
                have p8 : a'.tmps.getD 68 undef = .slice (some ⟨fb, o, none⟩) fs.length cf := hpre ⟨8, .data⟩ (by simp) 68 rfl
                simp only [Array.getD_eq_getD_getElem?] at p8
                go_simp
                exact hK (.pointer (some ⟨fb, o + 3, none⟩)) w' rfl (RB.refl _ _ _)
              · obtain rfl := Option.some.inj ho
                have p9 : a'.tmps.getD 69 undef = .pointer (some ⟨fb, o + 3, none⟩) := hpre ⟨9, .data⟩ (by simp) 69 rfl
                simp only [Array.getD_eq_getD_getElem?] at p9
                have c3 := hR.1.cell e3 (show fb ≠ _ by omega)
                go_simp
                exact hK (.string f3) w' rfl (RB.refl _ _ _)
              · obtain rfl := Option.some.inj ho
                have e12 : a'.tmps[12]? = some (.slice (some ⟨fb, o, none⟩) fs.length cf) := hout 12 (by decide)
                go_simp
                exact hK (.slice (some ⟨fb, o, none⟩) fs.length cf) w' rfl (RB.refl _ _ _)
              · obtain rfl := Option.some.inj ho
                have p11 : a'.tmps.getD 71 undef = .slice (some ⟨fb, o, none⟩) fs.length cf := hpre ⟨11, .data⟩ (by simp) 71 rfl
                simp only [Array.getD_eq_getD_getElem?] at p11
                go_simp
                exact hK (.pointer (some ⟨fb, o + 4, none⟩)) w' rfl (RB.refl _ _ _)
              · obtain rfl := Option.some.inj ho
                have p12 : a'.tmps.getD 72 undef = .pointer (some ⟨fb, o + 4, none⟩) := hpre ⟨12, .data⟩ (by simp) 72 rfl
                simp only [Array.getD_eq_getD_getElem?] at p12
                have c4 := hR.1.cell e4 (show fb ≠ _ by omega)
                go_simp
                exact hK (.string f4) w' rfl (RB.refl _ _ _)
              · obtain rfl := Option.some.inj ho
                have p13 : a'.tmps.getD 73 undef = .string f4 := hpre ⟨13, .data⟩ (by simp) 73 rfl
                simp only [Array.getD_eq_getD_getElem?] at p13
                go_simp
                go_at_call 28
                refine (HRK.out w').mono ?_
                rintro e w'' ⟨rfl, hb⟩
                exact hK _ _ rfl (RB.of_below hb)
              · obtain rfl := Option.some.inj ho
                have e13 : a'.tmps[13]? = some (.pointer (some ⟨wf.heap.size, 0, none⟩)) := hout 13 (by decide)
                go_simp
                exact hK (.pointer (some ⟨wf.heap.size, 0, none⟩)) w' rfl (RB.refl _ _ _)
              · obtain rfl := Option.some.inj ho
                have e12 : a'.tmps[12]? = some (.slice (some ⟨fb, o, none⟩) fs.length cf) := hout 12 (by decide)
                go_simp
                exact hK (.slice (some ⟨fb, o, none⟩) fs.length cf) w' rfl (RB.refl _ _ _)
              · obtain rfl := Option.some.inj ho
                have p16 : a'.tmps.getD 76 undef = .slice (some ⟨fb, o, none⟩) fs.length cf := hpre ⟨16, .data⟩ (by simp) 76 rfl
                simp only [Array.getD_eq_getD_getElem?] at p16
                go_simp
                exact hK (.pointer (some ⟨fb, o + 5, none⟩)) w' rfl (RB.refl _ _ _)
              · obtain rfl := Option.some.inj ho
                have p17 : a'.tmps.getD 77 undef = .pointer (some ⟨fb, o + 5, none⟩) := hpre ⟨17, .data⟩ (by simp) 77 rfl
                simp only [Array.getD_eq_getD_getElem?] at p17
                have c5 := hR.1.cell e5 (show fb ≠ _ by omega)
                go_simp
                exact hK (.string f5) w' rfl (RB.refl _ _ _)
              · obtain rfl := Option.some.inj ho
                have p15 : a'.tmps.getD 75 undef = .pointer (some ⟨wf.heap.size, 0, none⟩) := hpre ⟨15, .data⟩ (by simp) 75 rfl
                simp only [Array.getD_eq_getD_getElem?] at p15
                have p18 : a'.tmps.getD 78 undef = .string f5 := hpre ⟨18, .data⟩ (by simp) 78 rfl
                simp only [Array.getD_eq_getD_getElem?] at p18
                obtain ⟨b', hb', -, -⟩ := hR.2 false HBI.out
                go_simp
                go_at_call 27
                refine (HN5.out w' b' hb').mono ?_
                rintro e w'' ⟨rfl, hbi, hbut⟩
                exact hK _ _ ⟨rfl, fun h => hbi.to (by simp [h])⟩ (RB.of_num hb' hbi hbut .inr)
              · obtain rfl := Option.some.inj ho
                obtain ⟨p4, -⟩ := hpre ⟨4, .data⟩ (by simp) 64 rfl
                simp only [Array.getD_eq_getD_getElem?] at p4
                have p7 : a'.tmps.getD 67 undef = .string f2 := hpre ⟨7, .data⟩ (by simp) 67 rfl
                simp only [Array.getD_eq_getD_getElem?] at p7
                have p10 : a'.tmps.getD 70 undef = .string f3 := hpre ⟨10, .data⟩ (by simp) 70 rfl
                simp only [Array.getD_eq_getD_getElem?] at p10
                have p14 : a'.tmps.getD 74 undef = .int .i64 rk := hpre ⟨14, .data⟩ (by simp) 74 rfl
                simp only [Array.getD_eq_getD_getElem?] at p14
                obtain ⟨p19, -⟩ := hpre ⟨19, .data⟩ (by simp) 79 rfl
                simp only [Array.getD_eq_getD_getElem?] at p19
                go_simp
                exact hK _ _ rfl (RB.refl _ _ _)
              · obtain rfl := Option.some.inj ho
                go_simp
                exact hK _ _ ⟨w'.heap.size, rfl, hR.1.size, heap_alloc_new _ _⟩ (RB.of_below ((Below.refl _ _).alloc (Nat.le_refl _) _))
            · intro us w' hR hfacts
              have h20 : us 20 = .agg #[.int .i64 id, .string f2, .string f3, .int .i64 rk, .int .i64 sen, .slice none 0 0, .slice none 0 0] := hfacts 20 (by decide)
              obtain ⟨pb, h21, hpH, hpb⟩ := hfacts 21 (by decide)
              obtain ⟨-, hB1⟩ := hfacts 4 (by decide)
              obtain ⟨-, hB5⟩ := hfacts 19 (by decide)
              obtain ⟨b', hbi, -, hbb⟩ := hR.2 false HBI.out
              have hbt : b' = true ↔ (er1 ≠ 0 ∨ er5 ≠ 0) := ⟨fun h => by rcases hbb h with h2 | h2; cases h2; exact h2, fun h => by
                rcases h with h | h
                · exact hbi.inj (hB1 h)
                · exact hbi.inj (hB5 h)⟩
              clear hfacts hB1 hB5 hbb
              simp only [putL, Act.put, List.setIfInBounds_toArray, List.set_cons_zero, List.set_cons_succ]
              generalize us 21 = x21 at *
              generalize us 20 = x20 at *
              subst h21 h20
              have HPB := Lib.hid hpb
              have HFIN : Hid (But wf.heap.size wp (w'.setRow pb #[.int .i64 id, .string f2, .string f3, .int .i64 rk, .int .i64 sen, .slice none 0 0, .slice none 0 0])) := ⟨hR.1.os, hR.1.tape, hR.1.output, by simpa using hR.1.size, fun q a1 a2 => (setRow_other _ _ _ _ (by omega)).trans (hR.1.block q a1 a2)⟩
              have HROW := Lib.hid (setRow_heap w' pb _ #[.int .i64 id, .string f2, .string f3, .int .i64 rk, .int .i64 sen, .slice none 0 0, .slice none 0 0] _ _ hpb)
              have HBI6 : Hid (BadIs (w'.setRow pb #[.int .i64 id, .string f2, .string f3, .int .i64 rk, .int .i64 sen, .slice none 0 0, .slice none 0 0]) wf.heap.size b') := (setRow_other _ _ _ _ (show wf.heap.size ≠ pb by omega)).trans hbi
              clear hpb hbi
              simp only [List.drop_succ_cons, List.drop_zero]
              refine wpList_store_row rfl _ _ _ rfl pb #[.int .i64 id, .string f2, .string f3, .int .i64 rk, .int .i64 sen, .slice none 0 0, .slice none 0 0] rfl rfl _ _ HPB.out person_infoR rfl (by simp [Value.oneCell']) ?_
              as_aux_lemma =>
                go_wp2_with fail
                go_meet
                exact ⟨pb, b', rfl, hpH, HROW.out, HBI6.out, hbt, HFIN.out⟩
          case rest =>
          obtain ⟨pb, b, rfl, hpH, hpb, hbi, hbt, hbut⟩ := hcut
          obtain ⟨w3, rfl⟩ : ∃ x : World, x = wc := ⟨_, rfl⟩
          have y3 : w3.cell? ⟨pb, 3, none⟩ = some (.int .i64 rk) := block_cell hpb 3
          have yb : w3.cell? ⟨wf.heap.size, 0, none⟩ = some (.bool b) := block_cell hbi 0
          have fb0 : w3.frozen? ⟨wf.heap.size, 0, none⟩ = false := block_free hbi 0
          have HBU3 := Lib.hid hbut; have HBI3 := Lib.hid hbi; have HPB3 := Lib.hid hpb
          have hplt : pb < w3.heap.size := (Array.getElem?_eq_some_iff.1 hpb).1
          have hs3 := hbut.size
          have HBT := Lib.hid hbt
          clear hpb hbi hbut hbt e0 e1 e2 e3 e4 e5 g0 fr0 HN1 HN5 HRK
          go_upto_region 18 with (fail)
          go_cut [] (fun wx => BadIs wx wf.heap.size (b || decide (rk < 0)) ∧ But wf.heap.size w3 wx)
          case first =>
            have HST : Hid (∀ c : Bool, c = (b || decide (rk < 0)) → BadIs (w3.setCell ⟨wf.heap.size, 0, none⟩ (.bool c)) wf.heap.size (b || decide (rk < 0)) ∧ But wf.heap.size w3 (w3.setCell ⟨wf.heap.size, 0, none⟩ (.bool c))) := fun c hc => ⟨hc ▸ heap_setCell_same w3 _ 0 _ _ (.bool c) HBI3.out, (But.refl _ _).setCell 0 _⟩
            cases b with
            | true =>
              as_aux_lemma =>
                go_wp2_with fail
                go_meet
                exact HST.out _ rfl
            | false =>
              by_cases hneg : rk < 0
              · have hd : decide (rk < 0) = true := decide_eq_true hneg
                have HD := Lib.hid hd
                clear hd
                as_aux_lemma =>
                  go_wp2_with fail
                  go_meet
                  exact HST.out _ (by rw [HD.out]; rfl)
              · have HD := Lib.hid (decide_eq_false hneg)
                as_aux_lemma =>
                  go_wp2_with fail
                  go_meet
                  exact HST.out _ (by rw [HD.out]; rfl)
          case rest =>
          obtain ⟨hbi5, hbut5⟩ := hcut
          obtain ⟨w5, rfl⟩ : ∃ x : World, x = wc := ⟨_, rfl⟩
          have hp5 : w5.heap[pb]? = some (.cells #[.int .i64 id, .string f2, .string f3, .int .i64 rk, .int .i64 sen, .slice none 0 0, .slice none 0 0] 49 (0, 0)) := (hbut5.block pb hplt (by omega)).trans HPB3.out
          have HBU5 := Lib.hid (HBU3.out.trans hbut5)
          have HBI5 := Lib.hid hbi5
          have hs5 := HBU5.out.size
          have q0 : w5.cell? ⟨pb, 0, none⟩ = some (.int .i64 id) := block_cell hp5 0
          have q1 : w5.cell? ⟨pb, 1, none⟩ = some (.string f2) := block_cell hp5 1
          have q2 : w5.cell? ⟨pb, 2, none⟩ = some (.string f3) := block_cell hp5 2
          have q3 : w5.cell? ⟨pb, 3, none⟩ = some (.int .i64 rk) := block_cell hp5 3
          have q4 : w5.cell? ⟨pb, 4, none⟩ = some (.int .i64 sen) := block_cell hp5 4
          have q5 : w5.cell? ⟨pb, 5, none⟩ = some (.slice none 0 0) := block_cell hp5 5
          have q6 : w5.cell? ⟨pb, 6, none⟩ = some (.slice none 0 0) := block_cell hp5 6
          have HBL5 : Hid (Below w2.heap.size w2 w5) := HBU5.out.below HBB.out HBB.out.size HBF.out.size
          have HAL : Hid (∀ ob, Below w5.heap.size w5 (w5.alloc ob)) := fun ob => (Below.refl _ _).alloc (Nat.le_refl _) _
          have HPM5 : Hid (∀ ob, PMem (w5.alloc ob) (.slice Av ps.length cv) ps w2.heap.size wr.heap.size) := fun ob => HPP.out.keep (Nat.le_refl _) fun b _ hb => ((HAL.out ob).block b (by omega)).trans (HBU5.out.block b (by omega) (by omega))
          have HVL : Hid (∀ k, (Value.slice Av ps.length cv).ownBlock = some k → w2.heap.size ≤ k ∧ k < wr.heap.size) := fun k hk => HPP.out.lt k hk
          have hps : ps.length < 2000 := by have := HOK.out.1; omega
          have HQ1 : Hid ((b || decide (rk < 0)) = true → (lineB fs ps).2 = 1) := fun h => by
            rw [HQ.out]
            by_cases k1 : er1 ≠ 0
            · rw [if_pos k1]
            rw [if_neg k1]
            by_cases k2 : er5 ≠ 0
            · rw [if_pos k2]
            rw [if_neg k2]
            rw [Bool.or_eq_true] at h
            rcases h with h | h
            · rcases HBT.out.1 h with h2 | h2
              · exact absurd h2 k1
              · exact absurd h2 k2
            · have := of_decide_eq_true h
              rw [if_pos (by omega)]
          have HQ0 : Hid ((b || decide (rk < 0)) = false → lineB fs ps = (ps ++ [⟨id, f2, f3, rk, sen, [], []⟩], 0)) := fun h => by
            rw [Bool.or_eq_false_iff] at h
            have n1 : ¬ (er1 ≠ 0 ∨ er5 ≠ 0) := fun h2 => by have := HBT.out.2 h2; rw [h.1] at this; cases this
            have n2 := of_decide_eq_false h.2
            rw [HQ.out, if_neg (fun h2 => n1 (.inl h2)), if_neg (fun h2 => n1 (.inr h2)), if_neg (by omega)]
          generalize (b || decide (rk < 0)) = bb at *
          clear hbi5 hbut5 hp5 y3 yb fb0 HQ HBT HBU3 HBI3 HPB3
          go_wp2_with (at_builtin; refine wpList_pushC (p := ⟨id, f2, f3, rk, sen, [], []⟩) rfl _ _ _ rfl elem_person rfl (HPM5.out _) (by simp; omega) w5.heap.size rfl (At.new w5 (pCells ⟨id, f2, f3, rk, sen, [], []⟩ (.slice none 0 0) (.slice none 0 0)).toArray _) rfl rfl hps (by simp; omega) ?_)
          intro v6 w6 hpm6 hgr6
          have HRR := Lib.hid (sw_pushed HBL5.out hlo HVL.out hszf (HAL.out _) hgr6 HBI5.out)
          have HMM := Lib.hid hpm6
          clear hpm6 hgr6
          as_aux_lemma =>
            go_wp2_with fail
            go_meet
            exact sw_end ⟨by decide, by decide⟩ HRR.out.1 HRR.out.2 HQ1.out (fun h => .inr (by rw [HQ0.out h]; exact ⟨rfl, by decide, HMM.out⟩))
        have hb1 : (f0.toList == ([112, 101, 114, 115, 111, 110] : List UInt8)) = false := by
          have : (f0.toList == personS.toList) = false := by rw [str_beq, decide_eq_false h1]
          rwa [personS_l] at this
        by_cases h2 : f0 = typeS
        · have hb2 : (f0.toList == ([116, 121, 112, 101] : List UInt8)) = true := by rw [h2, typeS_l]; decide
          have hb3 : (f0.toList == ([118, 97, 99, 97, 116, 105, 111, 110] : List UInt8)) = false := by rw [h2, typeS_l]; decide
          have HRL := Lib.hid (HL2.out h2)
          clear h1 h2 hf0 HL1 HL2 HL3 HL4
          by_cases h3 : fs.length = 3
          case neg =>
            have h3' : ((fs.length : Int) == 3) = false := by simp; omega
            have HR : Hid ((lineB fs ps).2 = 1) := by show _ = _; rw [HRL.out]; unfold typB; rw [if_pos h3]
            clear h3
            as_aux_lemma =>
              go_wp2_with fail
              go_meet
              exact HBAD2.out HR.out
          have h3' : ((fs.length : Int) == 3) = true := by simp; omega
          have l1 : (1 : Int) < (fs.length : Int) := by omega
          have l2 : (2 : Int) < (fs.length : Int) := by omega
          have e1 := HCE.out 1 (by omega); have e2 := HCE.out 2 (by omega)
          have z1 : (fs.getD 1 noStr).size ≤ maxLen := by have := fld_sz (i := 1) HFM.out; unfold maxLen; omega
          have HQ : Hid (lineB fs ps = match findB (fs.getD 1 noStr) ps with
            | (none, e) => (ps, e)
            | (some i, _) => (ps.set i ((ps.getD i noPerson).addT (fs.getD 2 noStr)), 0)) := by show _ = _; rw [HRL.out]; unfold typB; rw [if_neg (by omega)]; rfl
          unfold findB at HQ
          generalize fs.getD 1 noStr = f1 at *
          generalize fs.getD 2 noStr = f2 at *
          have HN := Lib.hid (numberR_any wf.heap.size false f1 wp HBI.out z1)
          have hbd := parseB_bd f1
          unfold NbPost at HN
          generalize parseB f1 = a1 at *
          obtain ⟨id, er⟩ := a1
          simp only at HN HQ hbd
          clear h3 HRL HCE z1
          go_wp2_with fail
          refine HN.out.mono ?_
          rintro e w1 ⟨rfl, hbi1, hbut1⟩
          have HPM1 : Hid (PMem w1 (.slice Av ps.length cv) ps w2.heap.size wr.heap.size) := HPP.out.keep (Nat.le_refl _) fun b _ hb => hbut1.block b (by omega) (by omega)
          have HBL1 : Hid (Below w2.heap.size w2 w1) := hbut1.below HBB.out HBB.out.size HBF.out.size
          have HBI1 : Hid (BadIs w1 wf.heap.size (decide (er ≠ 0))) := hbi1.to (by simp)
          obtain ⟨Aw, cw, ew, hsp⟩ := HPM1.out.sl
          simp only [Value.slice.injEq] at ew
          obtain ⟨rfl, -, rfl⟩ := ew
          have HPI := Lib.hid (personIndexR_any ps id Av ps.length cv _ w1 hsp)
          have e2' := hbut1.cell e2 (show fb ≠ _ by omega)
          have hsz1 := hbut1.size
          clear hsp hbi1 hbut1 HN e0 e1 e2 g0 fr0
          go_wp2_with fail
          refine HPI.out.mono ?_
          rintro e w' ⟨rfl, rfl⟩
          clear HPI
          generalize hpl : idAt (ids ps) id = pl at *
          cases pl with
          | none =>
            have HR1 : Hid (decide (er ≠ 0) = true → (lineB fs ps).2 = 1) := fun h => by rw [HQ.out, if_pos (of_decide_eq_true h)]
            have HR0 : Hid (decide (er ≠ 0) = false → (lineB fs ps).2 = 6) := fun h => by rw [HQ.out, if_neg (of_decide_eq_false h)]
            clear HQ
            simp only [placeI]
            as_aux_lemma =>
              go_wp2_with fail
              go_meet
              exact sw_end ⟨by decide, by decide⟩ HBI1.out HBL1.out HR1.out (fun h => .inl ⟨HR0.out h, by decide⟩)
          | some i =>
            have hil : i < ps.length := by have := idAt_lt hpl; rwa [ids_len] at this
            have hpi : ps[i]? = some (ps.getD i noPerson) := by rw [List.getD_eq_getElem?_getD, List.getElem?_eq_getElem hil]; rfl
            obtain ⟨hov1, hov2, hov3⟩ := HOK.out.get i
            have hov0 := HOK.out.1
            have HR1 : Hid (decide (er ≠ 0) = true → (lineB fs ps).2 = 1) := fun h => by rw [HQ.out, if_pos (of_decide_eq_true h)]
            have HR0 : Hid (decide (er ≠ 0) = false → lineB fs ps = (ps.set i ((ps.getD i noPerson).addT f2), 0)) := fun h => by rw [HQ.out, if_neg (of_decide_eq_false h)]
            clear HQ hpl
            generalize ps.getD i noPerson = p at *
            obtain ⟨gr, cap, cur, Au, nv, cu, hv, g1, g2, g3, g4, rfl, g6, g7, g8, g9⟩ := HPM1.out.setT (by omega) hpi
            simp only [Value.slice.injEq] at hv
            obtain ⟨rfl, -, rfl⟩ := hv
            have HOB : Hid (∀ ob, Own Ty.str 9 (w1.drew.alloc ob) w2.heap.size (.slice Au p.types.length cu) p.types) := fun ob => (g6.drewN 1).alloc ob
            have hlen2 : (p.types.length + 1) * 16 ≤ 140737488355328 := by omega
            have HBL : Hid (∀ ob, Below w1.heap.size w1 (w1.drew.alloc ob)) := fun ob => (below_drewN (Below.refl w1.heap.size w1) 1).alloc (Nat.le_refl _) ob
            have g4a : ∀ ob, (w1.alloc ob).cell? ⟨gr, i * 7 + 5, none⟩ = some (.slice Au p.types.length cu) := fun ob => (World.cell?_alloc_past _ _ _ (show gr < w1.heap.size by omega)).trans g4
            have e2a : ∀ ob, (w1.alloc ob).cell? ⟨fb, o + 2, none⟩ = some (.string f2) := fun ob => (World.cell?_alloc_past _ _ _ (show fb < w1.heap.size by omega)).trans e2'
            have HG := Lib.hid g3; have HG9 := Lib.hid g9; have HG7 := Lib.hid g7
            have hil' : (i : Int) < (ps.length : Int) := by omega
            have hi0 : ¬ (i : Int) < 0 := by omega
            have hi1 : (0 : Int) ≤ (i : Int) := by omega
            clear g3 g9 g7 g6 hpi
            simp only [placeI]
            go_wp2_with fail
            go_region_law (first
              | (refine step_push (t := Ty.str) rfl (.tmp 122) (.tmp 126) 36 rfl 16 elem_strs (by simp [Act.eval, Act.put]) (HOB.out _) w1.heap.size f2 (fun _ => False) (by simp [Act.eval, Act.put]) ⟨[.string f2], rfl, At.new w1.drew #[.string f2] _⟩ (fun _ h => h.elim) hlen2 (by decide) (by simp; omega) ?_; intro g6 cap6 w6 hown6 hgr6 hat6; obtain ⟨hg6, hm6⟩ := HG9.out _ w6 _ _ (HBL.out _) hown6 hgr6 (by rcases hat6 with h | h; exact .inl h.symm; exact .inr ⟨g6, rfl, by simp at h; omega⟩); have r1 := fun x => sw_grown (k := i * 7 + 5) (x := x) HBL1.out g1 g2 (fun k hk => HG7.out k hk) hszf (HBL.out _) hgr6 HBI1.out; have y6 : w6.cell? ⟨gr, i * 7 + 5, none⟩ = some (.slice Au p.types.length cu) := (World.cell?_of_block (a := ⟨gr, i * 7 + 5, none⟩) (hg6.trans HG.out.symm)).trans g4; have f6 := block_free hg6 (i * 7 + 5); have HRR := Lib.hid r1; have HMM := Lib.hid hm6; clear hg6 hm6 r1 hown6 hgr6 hat6)
              | fail)
            all_goals
              as_aux_lemma =>
                go_wp2_with fail
                go_meet
                exact sw_end ⟨by omega, by omega⟩ (HRR.out _).1 (HRR.out _).2 HR1.out (fun h => .inr (by rw [HR0.out h]; exact ⟨rfl, by omega, (HMM.out).keep (by simp) fun _ _ _ => rfl⟩))
        have hb2 : (f0.toList == ([116, 121, 112, 101] : List UInt8)) = false := by
          have : (f0.toList == typeS.toList) = false := by rw [str_beq, decide_eq_false h2]
          rwa [typeS_l] at this
        by_cases h3 : f0 = vacS
        · have hb3 : (f0.toList == ([118, 97, 99, 97, 116, 105, 111, 110] : List UInt8)) = true := by rw [h3, vacS_l]; decide
          have HRL := Lib.hid (HL3.out h3)
          clear h1 h2 h3 hf0 HL1 HL2 HL3 HL4
          by_cases h6 : fs.length = 6
          case neg =>
            have h6' : ((fs.length : Int) == 6) = false := by simp; omega
            have HR : Hid ((lineB fs ps).2 = 1) := by show _ = _; rw [HRL.out]; unfold vacB; rw [if_pos h6]
            clear h6
            as_aux_lemma =>
              go_wp2_with fail
              go_meet
              exact HBAD2.out HR.out
          have h6' : ((fs.length : Int) == 6) = true := by simp; omega
          have l1 : (1 : Int) < (fs.length : Int) := by omega
          have e1 := HCE.out 1 (by omega)
          have z1 : (fs.getD 1 noStr).size ≤ maxLen := by have := fld_sz (i := 1) HFM.out; unfold maxLen; omega
          have HI2 : Hid (∀ (V : World) (b : Bool), BadIs V wf.heap.size b → But wf.heap.size wp V → Calls Tryz.prog 30 #[.pointer (some ⟨wf.heap.size, 0, none⟩), .slice (some ⟨fb, o, none⟩) fs.length cf, .int .i64 2] V (NbPost wf.heap.size b (insB (fs.getD 2 noStr ++ spS ++ fs.getD 3 noStr)) V)) := fun V b hb hV =>
            parserInstant2_any _ b fs _ _ _ (fun q => wr.heap.size ≤ q ∧ q < wf.heap.size) V hb (HSP.out.keep fun q hq => hV.block q (by omega) (by omega)) (fun q hq => by have := hV.size; omega) h6 HFM.out
          have HI4 : Hid (∀ (V : World) (b : Bool), BadIs V wf.heap.size b → But wf.heap.size wp V → Calls Tryz.prog 30 #[.pointer (some ⟨wf.heap.size, 0, none⟩), .slice (some ⟨fb, o, none⟩) fs.length cf, .int .i64 4] V (NbPost wf.heap.size b (insB (fs.getD 4 noStr ++ spS ++ fs.getD 5 noStr)) V)) := fun V b hb hV =>
            parserInstant4_any _ b fs _ _ _ (fun q => wr.heap.size ≤ q ∧ q < wf.heap.size) V hb (HSP.out.keep fun q hq => hV.block q (by omega) (by omega)) (fun q hq => by have := hV.size; omega) h6 HFM.out
          have HQ : Hid (lineB fs ps = if (insB (fs.getD 2 noStr ++ spS ++ fs.getD 3 noStr)).2 ≠ 0 then (ps, 1) else
              if (insB (fs.getD 4 noStr ++ spS ++ fs.getD 5 noStr)).2 ≠ 0 then (ps, 1) else
                match findB (fs.getD 1 noStr) ps with
                | (none, e) => (ps, e)
                | (some i, _) => (ps.set i ((ps.getD i noPerson).addV ⟨(insB (fs.getD 2 noStr ++ spS ++ fs.getD 3 noStr)).1, (insB (fs.getD 4 noStr ++ spS ++ fs.getD 5 noStr)).1 + 1⟩), 0)) := by show _ = _; rw [HRL.out]; unfold vacB; rw [if_neg (by omega)]; rfl
          unfold findB at HQ
          have hx2 := insB_bd (fs.getD 2 noStr ++ spS ++ fs.getD 3 noStr)
          have hx4 := insB_bd (fs.getD 4 noStr ++ spS ++ fs.getD 5 noStr)
          generalize insB (fs.getD 2 noStr ++ spS ++ fs.getD 3 noStr) = a2 at *
          generalize insB (fs.getD 4 noStr ++ spS ++ fs.getD 5 noStr) = a4 at *
          obtain ⟨x2, er2⟩ := a2
          obtain ⟨x4, er4⟩ := a4
          generalize fs.getD 1 noStr = f1 at *
          have HN := Lib.hid (numberR_any wf.heap.size false f1 wp HBI.out z1)
          have hbd := parseB_bd f1
          unfold NbPost at HN HI2 HI4
          generalize parseB f1 = a1 at *
          obtain ⟨id, er⟩ := a1
          simp only at HN HQ hbd HI2 HI4 hx2 hx4
          clear h6 HRL HCE z1
          go_wp2_with fail
          refine HN.out.mono ?_
          rintro e w1 ⟨rfl, hbi1, hbut1⟩
          have HPM1 : Hid (PMem w1 (.slice Av ps.length cv) ps w2.heap.size wr.heap.size) := HPP.out.keep (Nat.le_refl _) fun b _ hb => hbut1.block b (by omega) (by omega)
          have HBI1 : Hid (BadIs w1 wf.heap.size (decide (er ≠ 0))) := hbi1.to (by simp)
          have HBU1 := Lib.hid hbut1
          obtain ⟨Aw, cw, ew, hsp⟩ := HPM1.out.sl
          simp only [Value.slice.injEq] at ew
          obtain ⟨rfl, -, rfl⟩ := ew
          have HPI := Lib.hid (personIndexR_any ps id Av ps.length cv _ w1 hsp)
          clear hsp hbi1 hbut1 HN e0 e1 g0 fr0 HPM1
          go_wp2_with fail
          refine HPI.out.mono ?_
          rintro e w' ⟨rfl, rfl⟩
          clear HPI
          generalize hpl : idAt (ids ps) id = pl at *
          go_wp2_with fail
          refine (HI2.out w1 _ HBI1.out HBU1.out).mono ?_
          rintro e w3 ⟨rfl, hbi3, hbut3⟩
          have HBI3 := Lib.hid hbi3
          have HBU3 := Lib.hid (HBU1.out.trans hbut3)
          clear hbi3 hbut3 HI2
          go_wp2_with fail
          refine (HI4.out w3 _ HBI3.out HBU3.out).mono ?_
          rintro e w4 ⟨rfl, hbi4, hbut4⟩
          have HBU4 := Lib.hid (HBU3.out.trans hbut4)
          have HPM4 : Hid (PMem w4 (.slice Av ps.length cv) ps w2.heap.size wr.heap.size) := HPP.out.keep (Nat.le_refl _) fun b _ hb => HBU4.out.block b (by omega) (by omega)
          have HBL4 : Hid (Below w2.heap.size w2 w4) := HBU4.out.below HBB.out HBB.out.size HBF.out.size
          have HQ1 : Hid (((decide (er ≠ 0) || decide (er2 ≠ 0)) || decide (er4 ≠ 0)) = true → (lineB fs ps).2 = 1) := fun h => by
            rw [HQ.out]
            by_cases q1 : er2 ≠ 0
            · rw [if_pos q1]
            rw [if_neg q1]
            by_cases q2 : er4 ≠ 0
            · rw [if_pos q2]
            rw [if_neg q2]
            by_cases q3 : er ≠ 0
            · rw [if_pos q3]
            rw [decide_eq_false q1, decide_eq_false q2, decide_eq_false q3] at h
            cases h
          have HQ0 : Hid (((decide (er ≠ 0) || decide (er2 ≠ 0)) || decide (er4 ≠ 0)) = false → lineB fs ps = match (generalizing := false) pl with
              | none => (ps, 6)
              | some i => (ps.set i ((ps.getD i noPerson).addV ⟨x2, x4 + 1⟩), 0)) := fun h => by
            simp only [Bool.or_eq_false_iff, decide_eq_false_iff_not] at h
            rw [HQ.out, if_neg h.1.2, if_neg h.2, if_neg h.1.1]
            cases pl <;> rfl
          have HBI4 := Lib.hid hbi4
          have hsz4 := HBU4.out.size
          generalize ((decide (er ≠ 0) || decide (er2 ≠ 0)) || decide (er4 ≠ 0)) = bb at *
          clear hbi4 hbut4 HI4 HBI3 HBU3 HBI1 HBU1 HQ
          have HAL : Hid (Below w4.heap.size w4 (w4.alloc (.cells #[.int .i64 x2, .int .i64 (x4 + 1)] 72))) := (Below.refl _ _).alloc (Nat.le_refl _) _
          have HBI5 : Hid (BadIs (w4.alloc (.cells #[.int .i64 x2, .int .i64 (x4 + 1)] 72)) wf.heap.size bb) := (HAL.out.block _ HBI4.out.lt).trans HBI4.out
          have HBL5 : Hid (Below w2.heap.size w2 (w4.alloc (.cells #[.int .i64 x2, .int .i64 (x4 + 1)] 72))) := HBL4.out.alloc HBL4.out.size _
          have HPM5 : Hid (PMem (w4.alloc (.cells #[.int .i64 x2, .int .i64 (x4 + 1)] 72)) (.slice Av ps.length cv) ps w2.heap.size wr.heap.size) := HPM4.out.keep (Nat.le_refl _) fun b _ hb => HAL.out.block b (by omega)
          have hs5 := heap_alloc_new w4 (.cells #[.int .i64 x2, .int .i64 (x4 + 1)] 72)
          have hz5 : w4.heap.size < (w4.alloc (.cells #[.int .i64 x2, .int .i64 (x4 + 1)] 72)).heap.size := by simp
          cases pl with
          | none =>
            clear hs5 hz5
            simp only [placeI]
            as_aux_lemma =>
              go_wp2_with fail
              go_meet
              exact sw_end ⟨by decide, by decide⟩ HBI5.out HBL5.out HQ1.out (fun h => .inl ⟨by rw [HQ0.out h], by decide⟩)
          | some i =>
            have hil : i < ps.length := by have := idAt_lt hpl; rwa [ids_len] at this
            have hpi : ps[i]? = some (ps.getD i noPerson) := by rw [List.getD_eq_getElem?_getD, List.getElem?_eq_getElem hil]; rfl
            obtain ⟨hov1, hov2, hov3⟩ := HOK.out.get i
            have hov0 := HOK.out.1
            simp only at HQ0
            have HS5 := Lib.hid hs5
            have HZ5 := Lib.hid hz5
            clear hpl hs5 hz5 HBL4 HBI4 HPM4 HBU4
            generalize ps.getD i noPerson = p at *
            have hil' : (i : Int) < (ps.length : Int) := by omega
            have hi0 : ¬ (i : Int) < 0 := by omega
            have hi1 : (0 : Int) ≤ (i : Int) := by omega
            simp only [placeI]
            go_wp2_with fail
            generalize hw5 : w4.alloc (.cells #[.int .i64 x2, .int .i64 (x4 + 1)] 72) = w5 at *
            have hs5 := HS5.out; have hz5 := HZ5.out
            clear hw5
            obtain ⟨gr, cap, cur, Au, nv, cu, hv, g1, g2, g3, g4, rfl, g6, g7, g8, g9⟩ := HPM5.out.setV (by omega) hpi
            simp only [Value.slice.injEq] at hv
            obtain ⟨rfl, -, rfl⟩ := hv
            have HOB : Hid (∀ ob, Own Ty.shift 72 (w5.drew.alloc ob) w2.heap.size (.slice Au p.vacs.length cu) p.vacs) := fun ob => (g6.drewN 1).alloc ob
            have hlen2 : (p.vacs.length + 1) * 16 ≤ 140737488355328 := by omega
            have HBL : Hid (∀ ob, Below w5.heap.size w5 (w5.drew.alloc ob)) := fun ob => (below_drewN (Below.refl w5.heap.size w5) 1).alloc (Nat.le_refl _) ob
            have g4a : ∀ ob, (w5.alloc ob).cell? ⟨gr, i * 7 + 6, none⟩ = some (.slice Au p.vacs.length cu) := fun ob => (World.cell?_alloc_past _ _ _ (show gr < w5.heap.size by omega)).trans g4
            have s0 : w5.cell? ⟨w4.heap.size, 0, none⟩ = some (.int .i64 x2) := block_cell hs5 0
            have s1 : w5.cell? ⟨w4.heap.size, 1, none⟩ = some (.int .i64 (x4 + 1)) := block_cell hs5 1
            have HG := Lib.hid g3; have HG9 := Lib.hid g9; have HG7 := Lib.hid g7
            clear g3 g9 g7 g6 hpi hs5
            go_region_law (first
              | (refine step_push (t := Ty.shift) rfl (.tmp 163) (.tmp 165) 47 rfl 16 elem_span (by simp [Act.eval, Act.put]) (HOB.out _) w5.heap.size ⟨x2, x4 + 1⟩ (fun _ => False) (by simp [Act.eval, Act.put]) ⟨[.int .i64 x2, .int .i64 (x4 + 1)], rfl, At.new w5.drew #[.int .i64 x2, .int .i64 (x4 + 1)] _⟩ (fun _ h => h.elim) hlen2 (by decide) (by simp; omega) ?_; intro g6 cap6 w6 hown6 hgr6 hat6; obtain ⟨hg6, hm6⟩ := HG9.out _ w6 _ _ (HBL.out _) hown6 hgr6 (by rcases hat6 with h | h; exact .inl h.symm; exact .inr ⟨g6, rfl, by simp at h; omega⟩); have r1 := fun x => sw_grown (k := i * 7 + 6) (x := x) HBL5.out g1 g2 (fun k hk => HG7.out k hk) hszf (HBL.out _) hgr6 HBI5.out; have y6 : w6.cell? ⟨gr, i * 7 + 6, none⟩ = some (.slice Au p.vacs.length cu) := (World.cell?_of_block (a := ⟨gr, i * 7 + 6, none⟩) (hg6.trans HG.out.symm)).trans g4; have f6 := block_free hg6 (i * 7 + 6); have HRR := Lib.hid r1; have HMM := Lib.hid hm6; clear hg6 hm6 r1 hown6 hgr6 hat6)
              | fail)
            all_goals
              as_aux_lemma =>
                go_wp2_with fail
                go_meet
                exact sw_end ⟨by omega, by omega⟩ (HRR.out _).1 (HRR.out _).2 HQ1.out (fun h => .inr (by rw [HQ0.out h]; exact ⟨rfl, by omega, (HMM.out).keep (by simp) fun _ _ _ => rfl⟩))
        · have hb3 : (f0.toList == ([118, 97, 99, 97, 116, 105, 111, 110] : List UInt8)) = false := by
            have : (f0.toList == vacS.toList) = false := by rw [str_beq, decide_eq_false h3]
            rwa [vacS_l] at this
          have HR : Hid ((lineB fs ps).2 = 1) := by show _ = _; rw [HL4.out h1 h2 h3]
          clear h1 h2 h3 hf0
          as_aux_lemma =>
            go_wp2_with fail
            go_meet
            exact HBAD2.out HR.out
      case rest =>
      obtain ⟨b, at_, rfl, ⟨hat1, hat2⟩, hbad, hbx, hq1, hq6, hq0⟩ := hcut
      unfold BadIs at hbad
      have yb := block_cell hbad 0
      have HBX := Lib.hid (HKB.out wc hbx).1
      have HBX2 := Lib.hid hbx
      clear hbad hbx
      rcases H3.out with h | h | h
      · obtain ⟨rfl, ha0, hpmx⟩ := hq0 h
        have HPX := Lib.hid hpmx
        have HP1 : Hid (psAt ls (k + 1) = (lineB fs (psAt ls k)).1) := by show _ = _; rw [HSTEP.out, HE.out]
        have HN1 : Hid (∀ j, j < k + 1 → errAt ls j = 0) := fun j hj => by
          rcases Nat.lt_or_eq_of_le (Nat.le_of_lt_succ hj) with h9 | h9
          · exact HNE.out j h9
          · subst h9; rw [HERR.out, HE.out, h]
        have ha' : ¬ at_ < 0 := by omega
        clear hq0 hq1 hq6 hpmx h
        go_wp2_with fail
        go_roundw
        case rel => exact ⟨k + 1, _, by omega, by go_num, rfl, by rw [HP1.out]; exact HPX.out, HBX2.out, HN1⟩
        case measure => simp [intOf]; omega
      · have hbt := hq1 h
        subst hbt
        have HEK : Hid (errAt ls k = 1) := by show _ = _; rw [HERR.out, HE.out, h]
        have HR : Hid (parseC t s = ([], (k : Int) + 1, 1)) := by
          have := HPE.out k hlt (by rw [HEK.out]; decide) HNE.out
          rwa [HEK.out] at this
        clear hq0 hq1 hq6 h
        as_aux_lemma =>
          go_wp2_with fail
          go_ret3
          rw [HR.out]
          exact HBAD.out _ _ _ HBX.out
      · obtain ⟨rfl, ha0⟩ := hq6 h
        have HEK : Hid (errAt ls k = 6) := by show _ = _; rw [HERR.out, HE.out, h]
        have HR : Hid (parseC t s = ([], (k : Int) + 1, 6)) := by
          have := HPE.out k hlt (by rw [HEK.out]; decide) HNE.out
          rwa [HEK.out] at this
        clear hq0 hq1 hq6 h
        as_aux_lemma =>
          go_wp2_with fail
          go_ret3
          rw [HR.out]
          exact HBAD.out _ _ _ HBX.out
    · have hkl : k = ls.length := by omega
      subst hkl
      have hge : ¬ (ls.length : Int) < (ls.length : Int) := by omega
      have HA := Lib.hid (HPA.out HNE.out)
      have HOKP := HPO.out ls.length
      have HCV : Hid (∀ p ∈ psAt ls ls.length, p.ok) := fun p hp => (HOKP.2 p hp).1
      obtain ⟨Ap, cp, rfl, hsp⟩ := hpm.sl
      have HSP : Hid (∀ V, Below wr.heap.size wr V → Sl Ty.person V (all_ V) Ap (psAt ls ls.length).length cp (psAt ls ls.length)) := fun V hV => (hsp.keep fun q hq => hV.block q hq.2).more fun q hq => Nat.lt_of_lt_of_le hq.2 hV.size
      generalize psAt ls ls.length = qs at *
      have x0 := block_cell hxr 0; have x1 := block_cell hxr 1; have x2 := block_cell hxr 2
      have HBR := Lib.hid hbr
      have HV := Lib.hid (validateCrewR_any t qs A1 A2 A3 Ap n1 n2 n3 qs.length c1 c2 c3 cp wr HTO.out HCV.out (HS.out wr hbr).1 (HS.out wr hbr).2.1 (HS.out wr hbr).2.2 (HSP.out wr (Below.refl _ _)))
      clear hpm hsp hxr hbr hslr hlt hk HOKP hb2r
      go_wp2_with fail
      refine HV.out.mono ?_
      rintro e w6 ⟨rfl, hb6⟩
      have HB6 : Hid (Below w.heap.size w w6) := HBR.out.trans (hb6.mono HBR.out.size)
      have HSQ := Lib.hid (HSP.out w6 hb6)
      generalize crewE t qs = ce at *
      clear hb6 HV x0 x1 x2
      by_cases hce : ce = 0
      · have HR : Hid (parseC t s = (qs, 0, 0)) := by show _ = _; rw [HA.out, if_neg (by simp [hce])]
        subst hce
        as_aux_lemma =>
          go_wp2_with fail
          go_ret3
          rw [HR.out]
          exact ⟨_, _, _, rfl, HSQ.out, HB6.out⟩
      · have hce' : (ce != 0) = true := by simpa using hce
        have HR : Hid (parseC t s = ([], 0, ce)) := by show _ = _; rw [HA.out, if_pos hce]
        clear hce
        as_aux_lemma =>
          go_wp2_with fail
          go_ret3
          rw [HR.out]
          exact HBAD.out _ _ _ HB6.out
end Go.Proofs.YtkhedjfdjjeopaaGreatDoor
