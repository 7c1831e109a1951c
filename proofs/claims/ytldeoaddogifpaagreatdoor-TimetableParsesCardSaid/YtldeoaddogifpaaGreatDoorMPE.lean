/-
  Joined texts: TParseR; CardLib; Sum4; TTBack; SameTT. What each proves stands ahead of it, with its conditions.
-/
import Derived.Test.YtldeoaddogifpaaGreatDoorMPD
import Derived.Deep.DeepCutAuto
import Derived.Test.YtldeoaddogifpaaGreatDoorCards
import Derived.Test.YtldeoaddogifpaaGreatDoorTie
import Derived.WalkKit
import Derived.ProofKit
import Derived.OpenShut
import Derived.Deep.DeepHandedRow
import Derived.Lib.LaidTab
import Derived.PinnedBridge
import Derived.Lay
import Derived.Test.YtldeoaddogifpaaGreatDoorDecPlain
import Derived.Test.YtldeoaddogifpaaGreatDoorTTDec
import Derived.Test.YtldeoaddogifpaaGreatDoorFrame
import Derived.Test.YtldeoaddogifpaaGreatDoorUnframe
import Derived.Test.YtldeoaddogifpaaGreatDoorTTDecode
import Derived.Test.YtldeoaddogifpaaGreatDoorRef8Body
import Derived.Deep.RegionLaw
/-
  Contract of the reference's Parse of a timetable: the timetable, line and error of the plain parser (parseT).
  Condition: the string's length fits an int.
-/
namespace Go.Proofs.YtldeoaddogifpaaGreatDoor
set_option linter.unusedSimpArgs false
set_option linter.unusedVariables false
open Go.RowKit

theorem At.of_box {w : World} {b : Nat} {cs : Array Value} {T : TypeId} (h : w.heap[b]? = some (.cells cs T (0, 0))) : At w b 0 cs.toList := fun j u hu => by
  rw [Nat.zero_add, block_cell h j]
  simpa using hu
set_option maxRecDepth 100000 in
set_option maxHeartbeats 12800000 in
theorem ttParseR_any (s : ByteArray) (w : World) (hs : s.size ≤ maxLen) : Calls Tryz.prog 8 #[.string s] w (TParPost (parseT s) w) := by
  have HSS := Lib.hid hs
  have ha := (Below.refl w.heap.size w).alloc (Nat.le_refl _) (.cells #[.slice none 0 0, .slice none 0 0, .slice none 0 0] 27)
  have hx0 := heap_alloc_new w (.cells #[.slice none 0 0, .slice none 0 0, .slice none 0 0] 27)
  have hz0 : (w.alloc (.cells #[.slice none 0 0, .slice none 0 0, .slice none 0 0] 27)).heap.size = w.heap.size + 1 := by simp
  have HA := Lib.hid ha; have HX0 := Lib.hid hx0; have HZ0 := Lib.hid hz0
  have HBAD : Hid (∀ (W' : World) (ln x : Int), parseT s = (emTT, ln, x) → Below w.heap.size w W' → TParPost (parseT s) w (.returned (.tuple #[.agg #[.slice none 0 0, .slice none 0 0, .slice none 0 0], .int .i64 ln, .int .i64 x])) W') := fun W' ln x he hb => by
    rw [he]
    exact ⟨none, 0, 0, none, 0, 0, none, 0, 0, rfl, Sl.nil0, Sl.nil0, Sl.nil0, hb⟩
  have HT2 : Hid ((linesB s).2 ≠ 0 → parseT s = (emTT, 0, (linesB s).2)) := fun h => by show _ = _; unfold parseT; rw [if_pos h]
  clear ha hx0 hz0 hs
  go_enter Tryz.func8, Tryz.ntmps8
  go_upto_region 1 with (fail)
  generalize w.alloc (.cells #[.slice none 0 0, .slice none 0 0, .slice none 0 0] 27) = W at *
  go_wp2_with fail
  refine (refLines_any s W HSS.out).mono ?_
  rintro e w2 ⟨Al, nl, cl, rfl, hsl, hb2⟩
  have hbw2 : Below w.heap.size w w2 := HA.out.trans (hb2.mono HA.out.size)
  have hx2 : w2.heap[w.heap.size]? = some (.cells #[.slice none 0 0, .slice none 0 0, .slice none 0 0] 27 (0, 0)) := (hb2.block _ (by have := HZ0.out; omega)).trans HX0.out
  have hz2 : w.heap.size + 1 ≤ w2.heap.size := by have := hb2.size; have := HZ0.out; omega
  have HX2 := Lib.hid hx2
  have HBW2 := Lib.hid hbw2
  by_cases he : (linesB s).2 = 0
  case neg =>
    have he' : ((linesB s).2 != 0) = true := by simpa using he
    have HR := Lib.hid (HT2.out he)
    have z0 := block_cell hx2 0; have z1 := block_cell hx2 1; have z2 := block_cell hx2 2
    have f0 := block_free hx2 0; have f1 := block_free hx2 1; have f2 := block_free hx2 2
    generalize (linesB s).2 = er at *
    clear he hx2
    as_aux_lemma =>
      go_wp2_with fail
      refine bodyPost_ret (v := .tuple #[.agg #[.slice none 0 0, .slice none 0 0, .slice none 0 0], .int .i64 0, .int .i64 er]) (by simp [results, Tryz.results8, go_sem, z0, z1, z2]) rfl ?_
      exact HBAD.out _ _ _ HR.out (((HBW2.out.setCell (Nat.le_refl _) _).setCell (Nat.le_refl _) _).setCell (Nat.le_refl _) _)
  rw [he]
  have HLM : Hid (∀ f ∈ (linesB s).1, f.size ≤ 20000) := fun f hf => by have := linesB_mem hf; omega
  have hll := linesB_len s
  have HPO : Hid (∀ k, TtOk k (ttAt (linesB s).1 k)) := TtOk.at_ HLM.out
  have HPE : Hid (∀ k : Nat, k < (linesB s).1.length → ttBad (linesB s).1 k = true → (∀ j, j < k → ttBad (linesB s).1 j = false) → parseT s = (emTT, (k : Int) + 1, 1)) := fun k h1 h2 h3 => parseT_bad he h1 h2 h3
  have HPA : Hid ((∀ j, j < (linesB s).1.length → ttBad (linesB s).1 j = false) → parseT s = if ttE (ttAt (linesB s).1 (linesB s).1.length) ≠ 0 then (emTT, 0, ttE (ttAt (linesB s).1 (linesB s).1.length)) else (ttAt (linesB s).1 (linesB s).1.length, 0, 0)) := fun h => parseT_all he h
  generalize (linesB s).1 = ls at *
  have hnl := hsl.len
  subst hnl
  have hx3 := heap_alloc_new w2 (.cells #[.slice none 0 0, .slice none 0 0, .slice none 0 0] 27)
  have hz3 : (w2.alloc (.cells #[.slice none 0 0, .slice none 0 0, .slice none 0 0] 27)).heap.size = w2.heap.size + 1 := by simp
  have hb3 : Below w2.heap.size w2 (w2.alloc (.cells #[.slice none 0 0, .slice none 0 0, .slice none 0 0] 27)) := (Below.refl _ _).alloc (Nat.le_refl _) _
  have HX3 := Lib.hid hx3; have HZ3 := Lib.hid hz3; have HB3 := Lib.hid hb3
  have HSL := Lib.hid hsl
  clear hsl hb2 hbw2 HT2 he hx2 HX0 HZ0 HA hx3 hz3 hb3
  go_upto_region 5 with (fail)
  generalize w2.alloc (.cells #[.slice none 0 0, .slice none 0 0, .slice none 0 0] 27) = W3 at *
  have hz3 := HZ3.out
  generalize htb : w2.heap.size = tb at *
  have HTB0 : Hid (TBx W3 tb (tb + 1) (.slice none 0 0) (.slice none 0 0) (.slice none 0 0) (ttAt ls 0)) := ⟨HX3.out, TPM.nil _ _, Nat.lt_succ_self _, by omega⟩
  have HKB : Hid (∀ V, TKeep tb (tb + 1) W3 V → Below w.heap.size w V ∧ Sl Ty.str V (all_ V) Al ls.length cl ls ∧ V.heap[w.heap.size]? = some (.cells #[.slice none 0 0, .slice none 0 0, .slice none 0 0] 27 (0, 0))) := fun V hV => by
    have hk : ∀ q, q < tb → V.heap[q]? = w2.heap[q]? := fun q hq => (hV.block q (by omega) (by omega)).trans (HB3.out.block q hq)
    have h1 := hV.size
    refine ⟨⟨hV.os.trans (HB3.out.os.trans HBW2.out.os), hV.tape.trans (HB3.out.tape.trans HBW2.out.tape), hV.output.trans (HB3.out.output.trans HBW2.out.output), by omega, fun q hq => (hk q (by omega)).trans (HBW2.out.block q hq)⟩, (HSL.out.keep fun q hq => hk q (by unfold all_ at hq; omega)).more fun q hq => ?_, (hk _ (by omega)).trans HX2.out⟩
    unfold all_ at hq ⊢
    omega
  go_wp2_with fail
  go_loopw [8, 9, 10, 11, 12, 13, 14] (fun i _ _ _ _ _ _ wr => ∃ (k : Nat) (v1 v2 v3 : Value), k ≤ ls.length ∧ i = .int .i64 k ∧ Hid (TBx wr tb (tb + 1) v1 v2 v3 (ttAt ls k)) ∧ Hid (TKeep tb (tb + 1) W3 wr) ∧ Hid (∀ j, j < k → ttBad ls j = false)) (fun i _ _ _ _ _ _ _ => ls.length - (intOf i).toNat)
  case atStart => exact ⟨0, _, _, _, Nat.zero_le _, rfl, HTB0, TKeep.of_below (Below.refl _ _) (by omega), fun j hj => by omega⟩
  case round =>
    clear HTB0 HX3
    obtain ⟨k, v1, v2, v3, hk, rfl, HST, HKP, HNE⟩ := hrel
    obtain ⟨hbr, hslr, hxr⟩ := HKB.out wr HKP.out
    by_cases hlt : k < ls.length
    · have hlt' : (k : Int) < (ls.length : Int) := by omega
      obtain ⟨lb, lo2, rfl, -, hcl⟩ := hslr.str_at hlt
      have hge : ls[k] = ls.getD k emS := by rw [List.getD_eq_getElem?_getD, List.getElem?_eq_getElem hlt]; rfl
      rw [hge] at hcl
      have hsz : (ls.getD k emS).size ≤ 20000 := fld_le HLM.out k
      have HFO := Lib.hid (refFields_own (ls.getD k emS) wr (by omega))
      have HFM : Hid (∀ x ∈ fieldsB (ls.getD k emS), x.size ≤ 20000) := fun x hx => by have := fieldsB_mem hx; omega
      have HFL : Hid ((fieldsB (ls.getD k emS)).length ≤ 100000) := by
        have := fieldsB_len (ls.getD k emS)
        show _ ≤ _
        omega
      have HSUC : Hid (∀ x, stepT9 (ls.getD k emS) (ttAt ls k) = some x → ttAt ls (k + 1) = x ∧ ttBad ls k = false) := fun x hx => ttAt_succ hx
      have HBD : Hid (stepT9 (ls.getD k emS) (ttAt ls k) = none → ttBad ls k = true) := fun hx => ttBad_of hx
      generalize ls.getD k emS = ln at *
      clear hslr hsz hge hxr
      go_wp2_with fail
      refine HFO.out.mono ?_
      rintro e wf ⟨vf, rfl, hof, hbf⟩
      obtain ⟨Af, cf, rfl, hslf⟩ := hof.sl
      have hszf := hbf.size
      have HSF : Hid (TBx wf tb (tb + 1) v1 v2 v3 (ttAt ls k)) := HST.out.next hbf
      have HKF : Hid (TKeep tb (tb + 1) W3 wf) := HKP.out.trans (TKeep.of_below hbf HST.out.le)
      have HSLF := Lib.hid hslf
      have HNIL := Lib.hid (stepT9_nil (s := ln) (t := ttAt ls k))
      have HLIN := Lib.hid (stepT9_line (s := ln) (t := ttAt ls k))
      have HOKK : Hid (TtOk 1000 (ttAt ls k)) := (HPO.out k).up (by omega)
      have hlor := HST.out.le
      clear hof hslf HFO HST HKP hbf hbr hcl
      generalize fieldsB ln = fs at *
      by_cases hfs : fs = []
      · have hl0 : ((fs.length : Int) == 0) = true := by rw [hfs]; rfl
        have HE := Lib.hid (HSUC.out _ (HNIL.out hfs))
        have HN1 : Hid (∀ j, j < k + 1 → ttBad ls j = false) := fun j hj => by
          rcases Nat.lt_or_eq_of_le (Nat.le_of_lt_succ hj) with h | h
          · exact HNE.out j h
          · subst h; exact HE.out.2
        have HST1 : Hid (TBx wf tb (tb + 1) v1 v2 v3 (ttAt ls (k + 1))) := by show TBx _ _ _ _ _ _ _; rw [HE.out.1]; exact HSF.out
        clear hfs
        as_aux_lemma =>
          go_wp2_with fail
          go_roundw
          case rel => exact ⟨k + 1, v1, v2, v3, by omega, by go_num, HST1, HKF, HN1⟩
          case measure => simp [intOf]; omega
      have hl0 : ((fs.length : Int) == 0) = false := by
        have := List.length_pos_iff.2 hfs
        simp; omega
      have HLI := Lib.hid (HLIN.out hfs)
      have hfl := List.length_pos_iff.2 hfs
      clear hfs HNIL HLIN
      rw [HLI.out] at HSUC HBD
      have hrb := heap_alloc_new wf (.cells #[.bool false] 60)
      have HRB := Lib.hid hrb
      have hbp : Below wf.heap.size wf (wf.alloc (.cells #[.bool false] 60)) := (Below.refl _ _).alloc (Nat.le_refl _) _
      have HBP := Lib.hid hbp
      have hwz : (wf.alloc (.cells #[.bool false] 60)).heap.size = wf.heap.size + 1 := by simp
      have HWZ := Lib.hid hwz
      clear hrb hbp hwz
      have hgl : tb + 1 ≤ wf.heap.size := by omega
      go_upto_block 2 with (fail)
      go_cut [] (fun wx => SwP9 (lineT9 fs (ttAt ls k)) tb (tb + 1) wf.heap.size W3 wx)
      case first =>
        have HSP : Hid (Sl Ty.str (wf.alloc (.cells #[.bool false] 60)) (fun b => wr.heap.size ≤ b ∧ b < wf.heap.size) Af fs.length cf fs) := HSLF.out.keep fun b hb => HBP.out.block b hb.2
        have HTP : Hid (TBx (wf.alloc (.cells #[.bool false] 60)) tb (tb + 1) v1 v2 v3 (ttAt ls k)) := HSF.out.next HBP.out
        have HKPP : Hid (TKeep tb (tb + 1) W3 (wf.alloc (.cells #[.bool false] 60))) := HKF.out.trans (TKeep.of_below HBP.out hgl)
        have HBI : Hid (BadIs (wf.alloc (.cells #[.bool false] 60)) wf.heap.size false) := HRB.out
        have hwz := HWZ.out
        generalize wf.alloc (.cells #[.bool false] 60) = wp at *
        generalize ttAt ls k = t at *
        clear HSUC HBD HPO HPE HPA HSLF HSF HKF HRB HBP HWZ HLI HNE HKB
        obtain ⟨fb, o, rfl, hSb, hcells⟩ := fld_cells HSP.out hfl
        have hfbl : fb < wf.heap.size := hSb.2
        have HCE := Lib.hid hcells
        have e0 : wp.cell? ⟨fb, o, none⟩ = some (.string (fld fs 0)) := hcells 0 hfl
        have l0 : (0 : Int) < (fs.length : Int) := by omega
        have hnl := HSP.out.le
        have hfl2 := HFL.out
        obtain ⟨B1, d1, B2, d2, B3, d3, rfl, rfl, rfl, -⟩ := HTP.out.m.sl
        have g0 : wp.cell? ⟨wf.heap.size, 0, none⟩ = some (.bool false) := block_cell HBI.out 0
        have fr0 : wp.frozen? ⟨wf.heap.size, 0, none⟩ = false := block_free HBI.out 0
        have HBAD2 : Hid (lineT9 fs t = none → SwP9 (lineT9 fs t) tb (tb + 1) wf.heap.size W3 (wp.setCell ⟨wf.heap.size, 0, none⟩ (.bool true))) := fun hr => sw_bad9 hr HTP.out HKPP.out HBI.out hgl
        have HLN : Hid (lineT9 fs t = if fld fs 0 = zoneS then (if zoneBad fs = true then none else some (t.addZ (zoneF fs)))
          else if fld fs 0 = airS then (if fs.length ≠ 3 then none else some (t.addA ⟨fld fs 1, fld fs 2⟩))
          else if fld fs 0 = fliS then (if flightBad fs = true then none else some (t.addF (flightF fs))) else none) := rfl
        have ez := eq_zone (fld fs 0); have ea := eq_air (fld fs 0); have ef := eq_fli (fld fs 0)
        clear hcells hSb
        generalize hG : wf.heap.size = G at *
        clear hG
        by_cases hz : fld fs 0 = zoneS
        · have ez1 : ((fld fs 0).toList == [122, 111, 110, 101]) = true := by rw [ez, decide_eq_true hz]
          have ea1 : ((fld fs 0).toList == [97, 105, 114, 112, 111, 114, 116]) = false := by rw [ea, hz]; decide
          have ef1 : ((fld fs 0).toList == [102, 108, 105, 103, 104, 116]) = false := by rw [ef, hz]; decide
          rw [if_pos hz] at HLN
          clear ez ea ef hz
          by_cases h3 : fs.length < 3
          · have HR : Hid (lineT9 fs t = none) := by show _ = _; rw [HLN.out, if_pos]; unfold zoneBad; rw [decide_eq_true h3]; rfl
            have h3' : (fs.length : Int) < 3 := by omega
            clear h3
            as_aux_lemma =>
              go_wp2_with fail
              go_meet
              exact HBAD2.out HR.out
          have h3' : ¬ (fs.length : Int) < 3 := by omega
          have q1 : (fs.length : Int).tmod 3 = ((fs.length % 3 : Nat) : Int) := by rw [Int.tmod_eq_emod_of_nonneg (by omega)]; omega
          have q2 : IntKind.i64.wrap ((fs.length % 3 : Nat) : Int) = ((fs.length % 3 : Nat) : Int) := IntWalk.i64_in _ (by omega)
          by_cases hm : fs.length % 3 = 0
          case neg =>
            have HR : Hid (lineT9 fs t = none) := by show _ = _; rw [HLN.out, if_pos]; unfold zoneBad; rw [decide_eq_true (show (fs.length - 3) % 3 ≠ 0 by omega)]; simp
            have hm' : (((fs.length % 3 : Nat) : Int) == 0) = false := by simp; omega
            generalize fs.length % 3 = pm at *
            clear h3 hm
            as_aux_lemma =>
              go_wp2_with fail
              go_meet
              exact HBAD2.out HR.out
          have hm' : (((fs.length % 3 : Nat) : Int) == 0) = true := by simp; omega
          obtain ⟨m, hpm⟩ : ∃ m, fs.length = 3 + 3 * m := ⟨(fs.length - 3) / 3, by omega⟩
          have hm1 : 3 + 3 * m ≤ fs.length := by omega
          have hm2 : fs.length ≤ 3 + 3 * m := by omega
          have hmd : (fs.length - 3) / 3 = m := by omega
          have l1 : (1 : Int) < (fs.length : Int) := by omega
          have l2 : (2 : Int) < (fs.length : Int) := by omega
          have c1 := HCE.out 1 (by omega); have c2 := HCE.out 2 (by omega)
          have HZB : Hid (zoneBad fs = (decide ((durB (fld fs 2)).2 ≠ 0) || shiftsBad fs m)) := by
            show _ = _
            unfold zoneBad
            rw [hmd, decide_eq_false h3, decide_eq_false (show ¬ (fs.length - 3) % 3 ≠ 0 by omega), Bool.false_or, Bool.false_or]
          have HZF : Hid (zoneF fs = ⟨fld fs 1, (durB (fld fs 2)).1, shiftsF fs m⟩) := by show _ = _; unfold zoneF; rw [hmd]
          have HZ := Lib.hid (fld_le (m := 20000) HFM.out)
          have HD : Hid (∀ i (V : World) (b : Bool), BadIs V G b → Calls Tryz.prog 23 #[.pointer (some ⟨G, 0, none⟩), .string (fld fs i)] V (NbPost G b (durB (fld fs i)) V)) := fun i V b hb => durationR_any G b _ V hb (by have := HZ.out i; unfold maxLen; omega)
          have HD2 := Lib.hid (HD.out 2)
          unfold NbPost at HD2
          generalize hf1 : fld fs 1 = f1 at *
          generalize hf2 : fld fs 2 = f2 at *
          generalize durB f2 = d2' at *
          obtain ⟨off, er⟩ := d2'
          simp only at HD2 HZB HZF
          have hGw : G < wp.heap.size := by omega
          clear hpm hmd hm h3 hf1 hf2
          generalize fs.length % 3 = pm at *
          go_upto_region 13 with (fail)
          go_cut [11] (fun v wx => ∃ H1, v = .pointer (some ⟨H1, 0, none⟩) ∧ wp.heap.size ≤ H1 ∧ wx.heap[H1]? = some (.cells #[.string f1, .int .i64 off, .slice none 0 0] 51 (0, 0)) ∧ BadIs wx G (decide (er ≠ 0)) ∧ But G wp wx)
          case first =>
            as_aux_lemma =>
              refine wp_region_factsR (RB G (er ≠ 0)) RB.trans 10 [60, 61, 62, 63, 64, 65, 66, 67, 68, 11] (fun i v x => (([(fun v _ => v = .slice (some ⟨fb, o, none⟩) fs.length cf), (fun v _ => v = .pointer (some ⟨fb, o + 1, none⟩)), (fun v _ => v = .string f1), (fun v _ => v = .pointer (some ⟨G, 0, none⟩)), (fun v _ => v = .slice (some ⟨fb, o, none⟩) fs.length cf), (fun v _ => v = .pointer (some ⟨fb, o + 2, none⟩)), (fun v _ => v = .string f2), (fun v x => v = .int .i64 off ∧ (er ≠ 0 → BadIs x G true)), (fun v _ => v = .agg #[.string f1, .int .i64 off, .slice none 0 0]), (fun v x => ∃ b, v = .pointer (some ⟨b, 0, none⟩) ∧ wp.heap.size ≤ b ∧ x.heap[b]? = some (.cells #[.string ⟨#[]⟩, .int .i64 0, .slice none 0 0] 51 (0, 0)))] : List (Value → World → Prop)).getD i (fun _ _ => True)) v x) (RB.drew _) (by kernel_rfl) (by kernel_rfl) (by kernel_rfl) (by kernel_rfl) (by kernel_rfl) ?_ ?_ ?_
              · intro i v x x' h hx
                rcases Nat.lt_or_ge i 10 with hi | hi
                · have hi' : i = 0 ∨ i = 1 ∨ i = 2 ∨ i = 3 ∨ i = 4 ∨ i = 5 ∨ i = 6 ∨ i = 7 ∨ i = 8 ∨ i = 9 := by omega
                  rcases hi' with rfl | rfl | rfl | rfl | rfl | rfl | rfl | rfl | rfl | rfl
                  · exact h
                  · exact h
                  · exact h
                  · exact h
                  · exact h
                  · exact h
                  · exact h
                  · exact ⟨h.1, fun e => (h.2 e).mono hx⟩
                  · exact h
                  · exact let ⟨b, e, hl, hc⟩ := h; ⟨b, e, hl, (hx.1.block b (Array.getElem?_eq_some_iff.1 hc).1 (by omega)).trans hc⟩
                · rw [List.getD_eq_getElem?_getD, List.getElem?_eq_none (by simpa using hi)]; trivial
              · intro q o' hq ho a' w' hR hout hpre K hK
                have hq' : q = 0 ∨ q = 1 ∨ q = 2 ∨ q = 3 ∨ q = 4 ∨ q = 5 ∨ q = 6 ∨ q = 7 ∨ q = 8 ∨ q = 9 := by omega
                rcases hq' with rfl | rfl | rfl | rfl | rfl | rfl | rfl | rfl | rfl | rfl
                · obtain rfl := Option.some.inj ho
                  have e9 : a'.tmps[9]? = some (.slice (some ⟨fb, o, none⟩) fs.length cf) := hout 9 (by decide)
                  go_simp
                  exact hK (.slice (some ⟨fb, o, none⟩) fs.length cf) w' rfl (RB.refl _ _ _)
                · obtain rfl := Option.some.inj ho
                  have p0 : a'.tmps.getD 60 undef = .slice (some ⟨fb, o, none⟩) fs.length cf := hpre ⟨0, .data⟩ (by simp) 60 rfl
                  simp only [Array.getD_eq_getD_getElem?] at p0
                  go_simp
                  exact hK (.pointer (some ⟨fb, o + 1, none⟩)) w' rfl (RB.refl _ _ _)
                · obtain rfl := Option.some.inj ho
                  have p1 : a'.tmps.getD 61 undef = .pointer (some ⟨fb, o + 1, none⟩) := hpre ⟨1, .data⟩ (by simp) 61 rfl
                  simp only [Array.getD_eq_getD_getElem?] at p1
                  have c2 := hR.1.cell c1 (show fb ≠ G by omega)
                  go_simp
                  exact hK (.string f1) w' rfl (RB.refl _ _ _)
                · obtain rfl := Option.some.inj ho
                  have e10 : a'.tmps[10]? = some (.pointer (some ⟨G, 0, none⟩)) := hout 10 (by decide)
                  go_simp
                  exact hK (.pointer (some ⟨G, 0, none⟩)) w' rfl (RB.refl _ _ _)
                · obtain rfl := Option.some.inj ho
                  have e9 : a'.tmps[9]? = some (.slice (some ⟨fb, o, none⟩) fs.length cf) := hout 9 (by decide)
                  go_simp
                  exact hK (.slice (some ⟨fb, o, none⟩) fs.length cf) w' rfl (RB.refl _ _ _)
                · obtain rfl := Option.some.inj ho
                  have p4 : a'.tmps.getD 64 undef = .slice (some ⟨fb, o, none⟩) fs.length cf := hpre ⟨4, .data⟩ (by simp) 64 rfl
                  simp only [Array.getD_eq_getD_getElem?] at p4
                  go_simp
                  exact hK (.pointer (some ⟨fb, o + 2, none⟩)) w' rfl (RB.refl _ _ _)
                · obtain rfl := Option.some.inj ho
                  have p5 : a'.tmps.getD 65 undef = .pointer (some ⟨fb, o + 2, none⟩) := hpre ⟨5, .data⟩ (by simp) 65 rfl
                  simp only [Array.getD_eq_getD_getElem?] at p5
                  have c6 := hR.1.cell c2 (show fb ≠ G by omega)
                  go_simp
                  exact hK (.string f2) w' rfl (RB.refl _ _ _)
                · obtain rfl := Option.some.inj ho
                  have p3 : a'.tmps.getD 63 undef = .pointer (some ⟨G, 0, none⟩) := hpre ⟨3, .data⟩ (by simp) 63 rfl
                  simp only [Array.getD_eq_getD_getElem?] at p3
                  have p6 : a'.tmps.getD 66 undef = .string f2 := hpre ⟨6, .data⟩ (by simp) 66 rfl
                  simp only [Array.getD_eq_getD_getElem?] at p6
                  obtain ⟨b', hb', -, -⟩ := hR.2 false HBI.out
                  go_simp
                  go_at_call 23
                  refine (HD2.out w' b' hb').mono ?_
                  rintro e w'' ⟨rfl, hbi, hbut⟩
                  exact hK _ _ ⟨rfl, fun h => hbi.to (by simp [h])⟩ (RB.of_num hb' hbi hbut id)
                · obtain rfl := Option.some.inj ho
                  have p2 : a'.tmps.getD 62 undef = .string f1 := hpre ⟨2, .data⟩ (by simp) 62 rfl
                  simp only [Array.getD_eq_getD_getElem?] at p2
                  obtain ⟨p7, -⟩ := hpre ⟨7, .data⟩ (by simp) 67 rfl
                  simp only [Array.getD_eq_getD_getElem?] at p7
                  go_simp
                  exact hK (.agg #[.string f1, .int .i64 off, .slice none 0 0]) w' rfl (RB.refl _ _ _)
                · obtain rfl := Option.some.inj ho
                  go_simp
                  exact hK _ _ ⟨w'.heap.size, rfl, hR.1.size, heap_alloc_new _ _⟩ (RB.of_below ((Below.refl _ _).alloc (Nat.le_refl _) _))
              · intro us w' hR hfacts
                obtain ⟨h7, hB7⟩ := hfacts 7 (by decide)
                have h8 : us 8 = .agg #[.string f1, .int .i64 off, .slice none 0 0] := hfacts 8 (by decide)
                obtain ⟨H1, h9, hH1, hbox⟩ := hfacts 9 (by decide)
                simp only [putL, Act.put, List.setIfInBounds_toArray, List.set_cons_zero, List.set_cons_succ, Nat.zero_add, Nat.reduceAdd]
                generalize us 7 = x7 at *
                generalize us 8 = x8 at *
                generalize us 9 = x9 at *
                subst h8
                simp only [List.drop_succ_cons, List.drop_zero]
                clear hfacts
                subst h9
                obtain ⟨b', hbi, -, hbb⟩ := hR.2 false HBI.out
                have hbt : b' = decide (er ≠ 0) := by
                  cases b' with
                  | true => rcases hbb rfl with h | h; cases h; exact (decide_eq_true h).symm
                  | false => by_cases he : er = 0
                             · rw [he]; rfl
                             · exact absurd (hbi.inj (hB7 he)) (by decide)
                have y0 := block_cell hbox 0; have y1 := block_cell hbox 1; have y2 := block_cell hbox 2
                have k0 := block_free hbox 0; have k1 := block_free hbox 1; have k2 := block_free hbox 2
                have s0 : _ = some (Obj.cells #[.string f1, .int .i64 0, .slice none 0 0] 51 (0, 0)) := heap_setCell_same w' H1 0 _ _ (.string f1) hbox
                have s1 : _ = some (Obj.cells #[.string f1, .int .i64 off, .slice none 0 0] 51 (0, 0)) := heap_setCell_same _ H1 1 _ _ (.int .i64 off) s0
                have s2 : _ = some (Obj.cells #[.string f1, .int .i64 off, .slice none 0 0] 51 (0, 0)) := heap_setCell_same _ H1 2 _ _ (.slice none 0 0) s1
                have HS2 := Lib.hid s2
                have hGH : G ≠ H1 := by omega
                have HBT := Lib.hid (((hR.1.setFar hH1 0 (.string f1)).setFar hH1 1 (.int .i64 off)).setFar hH1 2 (.slice none 0 0))
                have HBG : Hid (BadIs (((w'.setCell ⟨H1, 0, none⟩ (.string f1)).setCell ⟨H1, 1, none⟩ (.int .i64 off)).setCell ⟨H1, 2, none⟩ (.slice none 0 0)) G (decide (er ≠ 0))) := by
                  show BadIs _ _ _
                  unfold BadIs
                  rw [heap_setCell_other _ _ _ _ hGH, heap_setCell_other _ _ _ _ hGH, heap_setCell_other _ _ _ _ hGH, ← hbt]
                  exact hbi
                clear hR hbox s0 s1 s2 hbi hbb hB7 hbt
                go_wp2_with fail
                go_meet
                refine ⟨H1, rfl, hH1, ?_, ?_, ?_⟩
                · exact HS2.out
                · exact HBG.out
                · exact HBT.out
          case rest =>
          obtain ⟨H1, rfl, hH1, hbox, hbi1, hbt1⟩ := hcut
          obtain ⟨w1, rfl⟩ : ∃ x : World, x = wc := ⟨_, rfl⟩
          have HBX1 := Lib.hid hbox; have HBI1 := Lib.hid hbi1; have HBT1 := Lib.hid hbt1
          clear hbox hbi1 hbt1 c1 c2
          have HFS : Hid (∀ V, But G wp V → Sl Ty.str V (fun b => wr.heap.size ≤ b ∧ b < G) (some ⟨fb, o, none⟩) fs.length cf fs) := fun V hV => HSP.out.but hV fun b hb => ⟨by omega, by omega⟩
          have HCD : Hid (∀ V, But G wp V → ∀ i, i < fs.length → V.cell? ⟨fb, o + i, none⟩ = some (.string (fld fs i))) := fun V hV i hi => hV.cell (HCE.out i hi) (show fb ≠ G by omega)
          go_upto_region 14 with (fail)
          clear e0 g0 fr0 l1 l2 h3' q1 q2 hm' ez1 ea1 ef1
          go_wp2_with fail
          go_loopw [12] (fun i wq => ∃ (j : Nat) (v : Value), j ≤ m ∧ i = .int .i64 (3 + 3 * (j : Int)) ∧ Hid (wq.heap[H1]? = some (.cells #[.string f1, .int .i64 off, v] 51 (0, 0))) ∧ Hid (Own Ty.shift 64 wq (H1 + 1) v (shiftsF fs j)) ∧ Hid (BadIs wq G (decide (er ≠ 0) || shiftsBad fs j)) ∧ Hid (But G wp wq)) (fun i _ => fs.length - (intOf i).toNat)
          case atStart => exact ⟨0, _, Nat.zero_le _, rfl, HBX1, Lib.hid Own.nil, Lib.hid (HBI1.out.to (by simp [shiftsBad])), HBT1⟩
          case round =>
            clear HBX1 HBI1 HBT1
            obtain ⟨j, v, hj, rfl, HXZ, HOW, HBQ, HBT⟩ := hrel
            obtain ⟨wq, rfl⟩ : ∃ x : World, x = wr := ⟨_, rfl⟩
            by_cases hlt : j < m
            · have lj : 3 + 3 * (j : Int) < (fs.length : Int) := by omega
              have hjl : 5 + 3 * j < fs.length := by omega
              have HI : Hid (∀ V b, BadIs V G b → But G wp V → Calls Tryz.prog 24 #[.pointer (some ⟨G, 0, none⟩), .slice (some ⟨fb, o, none⟩) fs.length cf, .int .i64 (3 + 3 * (j : Int))] V (NbPost G b (insF fs (3 + 3 * j)) V)) := fun V b hb hV => parserInstant_any G b fs _ _ cf _ (3 + 3 * j) _ V hb (HFS.out V hV) (by omega) (by omega) (by omega) HFM.out
              have HDJ : Hid (∀ V b, BadIs V G b → But G wp V → Calls Tryz.prog 23 #[.pointer (some ⟨G, 0, none⟩), .string (fld fs (5 + 3 * j))] V (NbPost G b (durB (fld fs (5 + 3 * j))) V)) := fun V b hb _ => HD.out (5 + 3 * j) V b hb
              have HSF : Hid (shiftsF fs (j + 1) = shiftsF fs j ++ [⟨(insF fs (3 + 3 * j)).1, (durB (fld fs (5 + 3 * j))).1⟩]) := shiftsF_succ fs j
              have HSB : Hid (shiftsBad fs (j + 1) = (shiftsBad fs j || (decide ((insF fs (3 + 3 * j)).2 ≠ 0) || decide ((durB (fld fs (5 + 3 * j))).2 ≠ 0)))) := shiftsBad_succ fs j
              have hwb : But G wq wq := But.refl G wq
              have HC5 : Hid (∀ V, But G wq V → V.cell? ⟨fb, o + (3 + 3 * (j : Int) + 2).toNat, none⟩ = some (.string (fld fs (5 + 3 * j)))) := fun V hV => by
                rw [show (3 + 3 * (j : Int) + 2).toNat = 5 + 3 * j by omega]
                exact HCD.out V (HBT.out.trans hV) _ hjl
              have hH1s : H1 < wq.heap.size := (Array.getElem?_eq_some_iff.1 HXZ.out).1
              obtain ⟨Av, cv, hve, -⟩ := HOW.out.sl
              subst hve
              have HCZ : Hid (∀ V, But G wq V → V.cell? ⟨H1, 2, none⟩ = some (.slice Av (shiftsF fs j).length cv)) := fun V hV => hV.cell (block_cell HXZ.out 2) (show H1 ≠ G by omega)
              have HOWN : Hid (∀ V, But G wq V → Own Ty.shift 64 V (H1 + 1) (.slice Av (shiftsF fs j).length cv) (shiftsF fs j)) := fun V hV => HOW.out.flatT flat_shift fun b hb => hV.block b (HOW.out.lt b hb).2 (by have := (HOW.out.lt b hb).1; omega)
              have HLEN := Lib.hid (shiftsF_len fs j)
              have hlen4 : (shiftsF fs j).length ≤ 100000 := by rw [HLEN.out]; omega
              unfold NbPost at HI HDJ
              generalize insF fs (3 + 3 * j) = a1 at *
              generalize durB (fld fs (5 + 3 * j)) = a2 at *
              generalize fld fs (5 + 3 * j) = g5 at *
              obtain ⟨x1, er1⟩ := a1
              obtain ⟨x2, er2⟩ := a2
              simp only at HI HDJ HSF HSB
              have lj2 : 3 + 3 * (j : Int) + 2 < (fs.length : Int) := by omega
              have lj0 : 0 ≤ 3 + 3 * (j : Int) + 2 := by omega
              have qj : IntKind.i64.wrap (3 + 3 * (j : Int) + 2) = 3 + 3 * (j : Int) + 2 := IntWalk.i64_in _ (by omega)
              have qj3 : IntKind.i64.wrap (3 + 3 * (j : Int) + 3) = 3 + 3 * (j : Int) + 3 := IntWalk.i64_in _ (by omega)
              obtain ⟨b0, hb0⟩ : ∃ b0, b0 = (decide (er ≠ 0) || shiftsBad fs j) := ⟨_, rfl⟩
              rw [← hb0] at HBQ
              have HE12 : Hid (((b0 || decide (er1 ≠ 0)) || decide (er2 ≠ 0)) = (decide (er ≠ 0) || shiftsBad fs (j + 1))) := by show _ = _; rw [hb0, HSB.out]; simp only [Bool.or_assoc]
              have HE21 : Hid (((b0 || decide (er2 ≠ 0)) || decide (er1 ≠ 0)) = (decide (er ≠ 0) || shiftsBad fs (j + 1))) := by show _ = _; rw [← HE12.out, Bool.or_assoc, Bool.or_assoc, Bool.or_comm (decide (er2 ≠ 0))]
              have HP7 : Hid (∀ V A6 cap6 w6, But G wq V → BadIs V G (decide (er ≠ 0) || shiftsBad fs (j + 1)) → Own Ty.shift 64 w6 (H1 + 1) (.slice A6 ((shiftsF fs j).length + 1) cap6) (shiftsF fs j ++ [⟨x1, x2⟩]) → V.grownBy w6 (Value.slice Av (shiftsF fs j).length cv).ownBlock →
                  w6.heap[H1]? = some (.cells #[.string f1, .int .i64 off, .slice Av (shiftsF fs j).length cv] 51 (0, 0)) ∧ ((w6.setCell ⟨H1, 2, none⟩ (.slice A6 ((shiftsF fs j).length + 1) cap6)).heap[H1]? = some (.cells #[.string f1, .int .i64 off, .slice A6 ((shiftsF fs j).length + 1) cap6] 51 (0, 0)) ∧ Own Ty.shift 64 (w6.setCell ⟨H1, 2, none⟩ (.slice A6 ((shiftsF fs j).length + 1) cap6)) (H1 + 1) (.slice A6 ((shiftsF fs j).length + 1) cap6) (shiftsF fs (j + 1)) ∧
                    BadIs (w6.setCell ⟨H1, 2, none⟩ (.slice A6 ((shiftsF fs j).length + 1) cap6)) G (decide (er ≠ 0) || shiftsBad fs (j + 1)) ∧ But G wp (w6.setCell ⟨H1, 2, none⟩ (.slice A6 ((shiftsF fs j).length + 1) cap6)))) := fun V A6 cap6 w6 hV hbV ho hg => by
                have hvs := hV.size
                have hrow : ∀ k, (Value.slice Av (shiftsF fs j).length cv).ownBlock = some k → H1 + 1 ≤ k := fun k hk => (HOW.out.lt k hk).1
                have hk : ∀ q, q ≤ H1 → w6.heap[q]? = V.heap[q]? := fun q hq => (hg.block q (by omega) (fun e => by have := hrow q e.symm; omega))
                have hz := (hk H1 (Nat.le_refl _)).trans ((hV.block H1 hH1s (by omega)).trans HXZ.out)
                refine ⟨hz, heap_setCell_same _ _ _ _ _ _ hz, ?_, ?_, ((HBT.out.trans hV).grown hg (fun k hk => by have := hrow k hk; omega)).setFar hH1 _ _⟩
                · rw [HSF.out]
                  exact ho.flatT flat_shift fun b hb => heap_setCell_other _ _ _ _ (by show b ≠ H1; have := (ho.lt b hb).1; omega)
                · unfold BadIs
                  rw [heap_setCell_other _ _ _ _ (by show G ≠ H1; omega), hk G (by omega)]
                  exact hbV
              have hbq0 : BadIs wq.drew G b0 := HBQ.out
              have hqq0 : But G wq wq.drew := hwb.drewN 1
              have hpq0 : But G wp wq.drew := HBT.out.trans hqq0
              have y2 := HCZ.out _ hwb
              have c5 := HC5.out _ hwb
              clear hwb hb0
              go_upto_block 4 with (fail)
              go_cut [] (fun wx => ∃ v', wx.heap[H1]? = some (.cells #[.string f1, .int .i64 off, v'] 51 (0, 0)) ∧ Own Ty.shift 64 wx (H1 + 1) v' (shiftsF fs (j + 1)) ∧ BadIs wx G (decide (er ≠ 0) || shiftsBad fs (j + 1)) ∧ But G wp wx)
              case first =>
                as_aux_lemma =>
                  go_upto_region 17 with (fail)
                  refine wp_region_factsT (RB G (er1 ≠ 0 ∨ er2 ≠ 0)) RB.trans 15 [75, 76, 77, 78, 79, 80, 81, 82, 83, 84, 85, 86, 87, 88, 89] (fun i v x => (([(fun v _ => v = .pointer (some ⟨H1, 2, none⟩)), (fun v _ => v = .slice Av (shiftsF fs j).length cv), (fun v _ => v = .pointer (some ⟨G, 0, none⟩)), (fun v _ => v = .slice (some ⟨fb, o, none⟩) fs.length cf), (fun v _ => v = .int .i64 (3 + 3 * (j : Int))), (fun v x => v = .int .i64 x1 ∧ (er1 ≠ 0 → BadIs x G true)), (fun v _ => v = .pointer (some ⟨G, 0, none⟩)), (fun v _ => v = .slice (some ⟨fb, o, none⟩) fs.length cf), (fun v _ => v = .int .i64 (3 + 3 * (j : Int))), (fun v _ => v = .int .i64 (3 + 3 * (j : Int) + 2)), (fun v _ => v = .pointer (some ⟨fb, o + (3 + 3 * (j : Int) + 2).toNat, none⟩)), (fun v _ => v = .string g5), (fun v x => v = .int .i64 x2 ∧ (er2 ≠ 0 → BadIs x G true)), (fun v _ => v = .agg #[.int .i64 x1, .int .i64 x2]), (fun v x => ∃ b, v = .slice (some ⟨b, 0, none⟩) 1 1 ∧ wq.heap.size ≤ b ∧ x.heap[b]? = some (.cells #[.int .i64 x1, .int .i64 x2] 64 (0, 0)))] : List (Value → World → Prop)).getD i (fun _ _ => True)) v x) (RB.drew _) (by kernel_rfl) (by kernel_rfl) (by kernel_rfl) (by kernel_rfl) (by kernel_rfl) ?_ ?_ ?_
                  · intro i v x x' h hx
                    rcases Nat.lt_or_ge i 15 with hi | hi
                    · have hi' : i = 0 ∨ i = 1 ∨ i = 2 ∨ i = 3 ∨ i = 4 ∨ i = 5 ∨ i = 6 ∨ i = 7 ∨ i = 8 ∨ i = 9 ∨ i = 10 ∨ i = 11 ∨ i = 12 ∨ i = 13 ∨ i = 14 := by omega
                      rcases hi' with rfl | rfl | rfl | rfl | rfl | rfl | rfl | rfl | rfl | rfl | rfl | rfl | rfl | rfl | rfl
                      · exact h
                      · exact h
                      · exact h
                      · exact h
                      · exact h
                      · exact ⟨h.1, fun e => (h.2 e).mono hx⟩
                      · exact h
                      · exact h
                      · exact h
                      · exact h
                      · exact h
                      · exact h
                      · exact ⟨h.1, fun e => (h.2 e).mono hx⟩
                      · exact h
                      · exact let ⟨b, e, hl, hc⟩ := h; ⟨b, e, hl, (hx.1.block b (Array.getElem?_eq_some_iff.1 hc).1 (by omega)).trans hc⟩
                    · rw [List.getD_eq_getElem?_getD, List.getElem?_eq_none (by simpa using hi)]; trivial
                  · intro q o' hq ho a' w' hR hout hpre K hK
                    have hq' : q = 0 ∨ q = 1 ∨ q = 2 ∨ q = 3 ∨ q = 4 ∨ q = 5 ∨ q = 6 ∨ q = 7 ∨ q = 8 ∨ q = 9 ∨ q = 10 ∨ q = 11 ∨ q = 12 ∨ q = 13 ∨ q = 14 := by omega
                    rcases hq' with rfl | rfl | rfl | rfl | rfl | rfl | rfl | rfl | rfl | rfl | rfl | rfl | rfl | rfl | rfl
                    · obtain rfl := Option.some.inj ho
                      have e11 : a'.tmps[11]? = some (.pointer (some ⟨H1, 0, none⟩)) := hout 11 (by decide)
                      go_simp
                      exact hK (.pointer (some ⟨H1, 2, none⟩)) w' rfl (RB.refl _ _ _)
                    · obtain rfl := Option.some.inj ho
                      have p0 : a'.tmps.getD 75 undef = .pointer (some ⟨H1, 2, none⟩) := hpre ⟨0, .data⟩ (by simp) 75 rfl
                      simp only [Array.getD_eq_getD_getElem?] at p0
                      have c1 := hR.1.cell y2 (show H1 ≠ G by omega)
                      go_simp
                      exact hK (.slice Av (shiftsF fs j).length cv) w' rfl (RB.refl _ _ _)
                    · obtain rfl := Option.some.inj ho
                      have e10 : a'.tmps[10]? = some (.pointer (some ⟨G, 0, none⟩)) := hout 10 (by decide)
                      go_simp
                      exact hK (.pointer (some ⟨G, 0, none⟩)) w' rfl (RB.refl _ _ _)
                    · obtain rfl := Option.some.inj ho
                      have e9 : a'.tmps[9]? = some (.slice (some ⟨fb, o, none⟩) fs.length cf) := hout 9 (by decide)
                      go_simp
                      exact hK (.slice (some ⟨fb, o, none⟩) fs.length cf) w' rfl (RB.refl _ _ _)
                    · obtain rfl := Option.some.inj ho
                      have e12 : a'.tmps[12]? = some (.int .i64 (3 + 3 * (j : Int))) := hout 12 (by decide)
                      go_simp
                      exact hK (.int .i64 (3 + 3 * (j : Int))) w' rfl (RB.refl _ _ _)
                    · obtain rfl := Option.some.inj ho
                      have p2 : a'.tmps.getD 77 undef = .pointer (some ⟨G, 0, none⟩) := hpre ⟨2, .data⟩ (by simp) 77 rfl
                      simp only [Array.getD_eq_getD_getElem?] at p2
                      have p3 : a'.tmps.getD 78 undef = .slice (some ⟨fb, o, none⟩) fs.length cf := hpre ⟨3, .data⟩ (by simp) 78 rfl
                      simp only [Array.getD_eq_getD_getElem?] at p3
                      have p4 : a'.tmps.getD 79 undef = .int .i64 (3 + 3 * (j : Int)) := hpre ⟨4, .data⟩ (by simp) 79 rfl
                      simp only [Array.getD_eq_getD_getElem?] at p4
                      obtain ⟨b', hb', -, -⟩ := hR.2 b0 HBQ.out
                      go_simp
                      go_at_call 24
                      refine (HI.out w' b' hb' (HBT.out.trans hR.1)).mono ?_
                      rintro e w'' ⟨rfl, hbi, hbut⟩
                      exact hK _ _ ⟨rfl, fun h => hbi.to (by simp [h])⟩ (RB.of_num hb' hbi hbut .inl)
                    · obtain rfl := Option.some.inj ho
                      have e10 : a'.tmps[10]? = some (.pointer (some ⟨G, 0, none⟩)) := hout 10 (by decide)
                      go_simp
                      exact hK (.pointer (some ⟨G, 0, none⟩)) w' rfl (RB.refl _ _ _)
                    · obtain rfl := Option.some.inj ho
                      have e9 : a'.tmps[9]? = some (.slice (some ⟨fb, o, none⟩) fs.length cf) := hout 9 (by decide)
                      go_simp
                      exact hK (.slice (some ⟨fb, o, none⟩) fs.length cf) w' rfl (RB.refl _ _ _)
                    · obtain rfl := Option.some.inj ho
                      have e12 : a'.tmps[12]? = some (.int .i64 (3 + 3 * (j : Int))) := hout 12 (by decide)
                      go_simp
                      exact hK (.int .i64 (3 + 3 * (j : Int))) w' rfl (RB.refl _ _ _)
                    · obtain rfl := Option.some.inj ho
                      have p8 : a'.tmps.getD 83 undef = .int .i64 (3 + 3 * (j : Int)) := hpre ⟨8, .data⟩ (by simp) 83 rfl
                      simp only [Array.getD_eq_getD_getElem?] at p8
                      go_simp
                      exact hK (.int .i64 (3 + 3 * (j : Int) + 2)) w' rfl (RB.refl _ _ _)
                    · obtain rfl := Option.some.inj ho
                      have p7 : a'.tmps.getD 82 undef = .slice (some ⟨fb, o, none⟩) fs.length cf := hpre ⟨7, .data⟩ (by simp) 82 rfl
                      simp only [Array.getD_eq_getD_getElem?] at p7
                      have p9 : a'.tmps.getD 84 undef = .int .i64 (3 + 3 * (j : Int) + 2) := hpre ⟨9, .data⟩ (by simp) 84 rfl
                      simp only [Array.getD_eq_getD_getElem?] at p9
                      go_simp
                      exact hK (.pointer (some ⟨fb, o + (3 + 3 * (j : Int) + 2).toNat, none⟩)) w' rfl (RB.refl _ _ _)
                    · obtain rfl := Option.some.inj ho
                      have p10 : a'.tmps.getD 85 undef = .pointer (some ⟨fb, o + (3 + 3 * (j : Int) + 2).toNat, none⟩) := hpre ⟨10, .data⟩ (by simp) 85 rfl
                      simp only [Array.getD_eq_getD_getElem?] at p10
                      have c11 := hR.1.cell c5 (show fb ≠ G by omega)
                      go_simp
                      exact hK (.string g5) w' rfl (RB.refl _ _ _)
                    · obtain rfl := Option.some.inj ho
                      have p6 : a'.tmps.getD 81 undef = .pointer (some ⟨G, 0, none⟩) := hpre ⟨6, .data⟩ (by simp) 81 rfl
                      simp only [Array.getD_eq_getD_getElem?] at p6
                      have p11 : a'.tmps.getD 86 undef = .string g5 := hpre ⟨11, .data⟩ (by simp) 86 rfl
                      simp only [Array.getD_eq_getD_getElem?] at p11
                      obtain ⟨b', hb', -, -⟩ := hR.2 b0 HBQ.out
                      go_simp
                      go_at_call 23
                      refine (HDJ.out w' b' hb' (HBT.out.trans hR.1)).mono ?_
                      rintro e w'' ⟨rfl, hbi, hbut⟩
                      exact hK _ _ ⟨rfl, fun h => hbi.to (by simp [h])⟩ (RB.of_num hb' hbi hbut .inr)
                    · obtain rfl := Option.some.inj ho
                      obtain ⟨p5, -⟩ := hpre ⟨5, .data⟩ (by simp) 80 rfl
                      simp only [Array.getD_eq_getD_getElem?] at p5
                      obtain ⟨p12, -⟩ := hpre ⟨12, .data⟩ (by simp) 87 rfl
                      simp only [Array.getD_eq_getD_getElem?] at p12
                      go_simp
                      exact hK (.agg #[.int .i64 x1, .int .i64 x2]) w' rfl (RB.refl _ _ _)
                    · obtain rfl := Option.some.inj ho
                      have p13 : a'.tmps.getD 88 undef = .agg #[.int .i64 x1, .int .i64 x2] := hpre ⟨13, .data⟩ (by simp) 88 rfl
                      simp only [Array.getD_eq_getD_getElem?] at p13
                      go_simp
                      exact hK _ _ ⟨w'.heap.size, rfl, hR.1.size, heap_alloc_new _ _⟩ (RB.of_below ((Below.refl _ _).alloc (Nat.le_refl _) _))
                  · intro us w' hR hfacts
                    have h1 : us 1 = .slice Av (shiftsF fs j).length cv := hfacts 1 (by decide)
                    obtain ⟨h5, hB5⟩ := hfacts 5 (by decide)
                    obtain ⟨h12, hB12⟩ := hfacts 12 (by decide)
                    obtain ⟨bs, h14, hbs, hbox⟩ := hfacts 14 (by decide)
                    simp only [putL, Act.put, List.setIfInBounds_toArray, List.set_cons_zero, List.set_cons_succ, Nat.zero_add, Nat.reduceAdd]
                    generalize us 1 = x1 at *
                    generalize us 5 = x5 at *
                    generalize us 12 = x12 at *
                    generalize us 14 = x14 at *
                    subst h1
                    simp only [List.drop_succ_cons, List.drop_zero]
                    clear hfacts
                    subst h14
                    obtain ⟨b', hbi, hbb1, hbb⟩ := hR.2 b0 HBQ.out
                    have hbt : b' = (decide (er ≠ 0) || shiftsBad fs (j + 1)) := by
                        rw [← HE12.out]
                        cases b' with
                        | true =>
                          rcases hbb rfl with h | h | h
                          · rw [h]; rfl
                          · rw [decide_eq_true h]; simp
                          · rw [decide_eq_true h]; simp
                        | false =>
                          have e0 : b0 = false := by cases hb9 : b0 with
                            | true => exact absurd (hbb1 hb9) (by decide)
                            | false => rfl
                          have e1 : decide (er1 ≠ 0) = false := by rw [decide_eq_false_iff_not]; intro h; exact absurd (hbi.inj (hB5 h)) (by decide)
                          have e2 : decide (er2 ≠ 0) = false := by rw [decide_eq_false_iff_not]; intro h; exact absurd (hbi.inj (hB12 h)) (by decide)
                          rw [e0, e1, e2]; rfl
                    have HBI7 := Lib.hid (hbi.to hbt)
                    have HRR := Lib.hid hR.1
                    have hws := hR.1.size
                    have HAT := Lib.hid (At.of_box hbox)
                    clear hbi hbb hbb1 hbt hB5 hB12 hR hbox
                    go_wp2_with (at_builtin; refine wpList_push (t := Ty.shift) rfl _ _ _ rfl 16 elem_shift rfl (HOWN.out _ HRR.out) bs ⟨x1, x2⟩ (fun _ => False) rfl ⟨_, rfl, HAT.out⟩ (fun _ h => h.elim) (by omega) (by decide) (by omega) ?_)
                    intro v6 w6 hown6 hgr6
                    obtain ⟨A6, c6, e6, -⟩ := hown6.sl
                    subst e6
                    rw [List.length_append, List.length_singleton] at hown6 ⊢
                    obtain ⟨hz6, hf6⟩ := HP7.out _ _ _ _ HRR.out HBI7.out hown6 hgr6
                    have y6 := block_cell hz6 2; have f6 := block_free hz6 2; have HF6 := Lib.hid hf6
                    clear hz6 hf6 hown6 hgr6
                    go_wp2_with fail
                    go_meet
                    exact ⟨_, HF6.out⟩
              case rest =>
              obtain ⟨v', hx7, ho7, hb7, ht7⟩ := hcut
              have HX7 := Lib.hid hx7; have HO7 := Lib.hid ho7; have HB7 := Lib.hid hb7; have HT7 := Lib.hid ht7
              clear hx7 ho7 hb7 ht7 y2 c5
              as_aux_lemma =>
                go_wp2_with fail
                go_roundw
                case rel => exact ⟨j + 1, v', by omega, by first | (congr 1; omega) | congr 1 | go_num, HX7, HO7, HB7, HT7⟩
                case measure => simp [intOf]; omega
            · obtain rfl : j = m := by omega
              have lj : ¬ 3 + 3 * (j : Int) < (fs.length : Int) := by omega
              have HTQ : Hid (TBx wq tb (tb + 1) (.slice B1 t.zones.length d1) (.slice B2 t.airports.length d2) (.slice B3 t.flights.length d3) t) := HTP.out.but HBT.out HBI.out hgl
              obtain ⟨Av, cv, rfl, hsv⟩ := HOW.out.slTag flat_shift
              have hxz := HXZ.out
              have y0 : wq.cell? ⟨H1, 0, none⟩ = some (.string f1) := block_cell hxz 0
              have y1 : wq.cell? ⟨H1, 1, none⟩ = some (.int .i64 off) := block_cell hxz 1
              have y2 : wq.cell? ⟨H1, 2, none⟩ = some (.slice Av (shiftsF fs j).length cv) := block_cell hxz 2
              have x0 : wq.cell? ⟨tb, 0, none⟩ = some (.slice B1 t.zones.length d1) := block_cell HTQ.out.box 0
              have HSV : Hid (∀ ob, Sl Ty.shift (wq.alloc ob) (shS (wq.alloc ob) (tb + 1)) Av (shiftsF fs j).length cv (shiftsF fs j)) := fun ob => by
                refine (hsv.keep (w' := wq.alloc ob) fun b hb => ?_).more fun b hb => ⟨by have := hb.1; omega, ?_⟩
                · obtain ⟨_, cur, hc⟩ := hb
                  exact Below.heap_alloc _ _ _ (Array.getElem?_eq_some_iff.1 hc).1
                · obtain ⟨_, cur, hc⟩ := hb
                  exact ⟨cur, (Below.heap_alloc _ _ _ (Array.getElem?_eq_some_iff.1 hc).1).trans hc⟩
              have HTM : Hid (∀ ob, TPM (wq.alloc ob) (tb + 1) (.slice B1 t.zones.length d1) (.slice B2 t.airports.length d2) (.slice B3 t.flights.length d3) t) := fun ob => HTQ.out.m.next ((Below.refl _ _).alloc (Nat.le_refl _) ob)
              have hws := HTQ.out.le
              have hGs : G < wq.heap.size := by have := HBT.out.size; omega
              have HFIN : Hid (∀ V v', TKeep tb (tb + 1) W3 V → BadIs V G (zoneBad fs) → TBx V tb (tb + 1) v' (.slice B2 t.airports.length d2) (.slice B3 t.flights.length d3) (t.addZ ⟨f1, off, shiftsF fs j⟩) → SwP9 (lineT9 fs t) tb (tb + 1) G W3 V) := fun V v' hk hg hx => by
                refine ⟨_, _, _, _, ?_, hk, hx, fun x h => ?_⟩
                · rw [HLN.out]
                  cases hzb : zoneBad fs with
                  | true => rw [hzb] at hg; rw [if_pos rfl]; exact hg
                  | false => rw [hzb] at hg; rw [if_neg (by simp)]; exact hg
                · rw [HLN.out] at h
                  split at h
                  · cases h
                  · rw [← HZF.out]; exact Option.some.inj h
              have HP6 : Hid (∀ ob v' w6, TPM w6 (tb + 1) v' (.slice B2 t.airports.length d2) (.slice B3 t.flights.length d3) (t.addZ ⟨f1, off, shiftsF fs j⟩) → (wq.alloc ob).grownBy w6 (Value.slice B1 t.zones.length d1).ownBlock → w6.heap[tb]? = some (.cells #[.slice B1 t.zones.length d1, .slice B2 t.airports.length d2, .slice B3 t.flights.length d3] 27 (0, 0)) ∧ SwP9 (lineT9 fs t) tb (tb + 1) G W3 (w6.setCell ⟨tb, 0, none⟩ v')) := fun ob v' w6 hm hg => by
                have hsz : (wq.alloc ob).heap.size = wq.heap.size + 1 := by simp
                have hbd : Below wq.heap.size wq (wq.alloc ob) := (Below.refl _ _).alloc (Nat.le_refl _) ob
                have hrow : ∀ k, (Value.slice B1 t.zones.length d1).ownBlock = some k → tb + 1 ≤ k := fun k hk => (HTQ.out.m.lt.1 k hk).1
                have hk6 : w6.heap[tb]? = wq.heap[tb]? := (hg.block tb (by omega) (fun e => by have := hrow tb e.symm; omega)).trans (hbd.block tb (by omega))
                have hG6 : w6.heap[G]? = wq.heap[G]? := (hg.block G (by omega) (fun e => by
                  obtain ⟨cs, r1, _⟩ := HTQ.out.m.z
                  obtain ⟨cur, hc⟩ := (rowTag r1 e.symm).2
                  have h9 := HBQ.out
                  unfold BadIs at h9
                  rw [h9] at hc
                  injection hc with hc
                  injection hc with _ hT
                  exact absurd hT (by decide))).trans (hbd.block G (by omega))
                refine ⟨hk6.trans HTQ.out.box, HFIN.out _ _ ?_ ?_ (HTQ.out.store0 hk6 hm (by have := hg.size; omega))⟩
                · exact (((HKPP.out.trans (TKeep.of_but HBT.out hgl HTP.out.le)).trans (TKeep.of_below hbd hws)).grown hg hrow (Nat.le_trans hws hbd.size)).setBox _ _
                · rw [HZB.out]
                  unfold BadIs
                  rw [heap_setCell_other _ _ _ _ (by show G ≠ tb; omega), hG6]
                  exact HBQ.out
              have o2 := HOKK.out.2.1
              clear hxz hsv
              as_aux_lemma =>
                go_wp2_with (at_builtin; refine wpList_pushZ rfl _ _ _ rfl zone_row rfl (HTM.out _) wq.heap.size ⟨f1, off, shiftsF fs j⟩ rfl ⟨[.string f1, .int .i64 off, .slice Av (shiftsF fs j).length cv], ⟨Av, _, cv, rfl, HSV.out _⟩, At.new wq #[.string f1, .int .i64 off, .slice Av (shiftsF fs j).length cv] _⟩ o2 (by simp; omega) ?_)
                intro v6 w6 hm6 hgr6
                obtain ⟨hb6, hs6⟩ := HP6.out _ _ _ hm6 hgr6
                obtain ⟨A6, c6, _, _, _, _, e6, -⟩ := hm6.sl
                subst e6
                generalize (t.addZ ⟨f1, off, shiftsF fs j⟩).zones.length = nl at *
                have y6 := block_cell hb6 0; have f6 := block_free hb6 0
                have HS6 := Lib.hid hs6
                clear hb6 hs6 hm6 hgr6
                go_wp2_with fail
                go_meet
                exact HS6.out
        rw [if_neg hz] at HLN
        by_cases ha : fld fs 0 = airS
        · have ez1 : ((fld fs 0).toList == [122, 111, 110, 101]) = false := by rw [ez, decide_eq_false hz]
          have ea1 : ((fld fs 0).toList == [97, 105, 114, 112, 111, 114, 116]) = true := by rw [ea, decide_eq_true ha]
          have ef1 : ((fld fs 0).toList == [102, 108, 105, 103, 104, 116]) = false := by rw [ef, ha]; decide
          clear ez ea ef
          rw [if_pos ha] at HLN
          by_cases h3 : fs.length = 3
          case neg =>
            rw [if_pos h3] at HLN
            have h3' : ((fs.length : Int) == 3) = false := by simp; omega
            clear h3 ha hz
            as_aux_lemma =>
              go_wp2_with fail
              go_meet
              exact HBAD2.out HLN.out
          rw [if_neg (by simpa using h3)] at HLN
          have h3' : ((fs.length : Int) == 3) = true := by simp; omega
          have l1 : (1 : Int) < (fs.length : Int) := by omega
          have l2 : (2 : Int) < (fs.length : Int) := by omega
          have c1 := HCE.out 1 (by omega); have c2 := HCE.out 2 (by omega)
          have HFIN : Hid (∀ V v', TKeep tb (tb + 1) W3 V → BadIs V G false → TBx V tb (tb + 1) (.slice B1 t.zones.length d1) v' (.slice B3 t.flights.length d3) (t.addA ⟨fld fs 1, fld fs 2⟩) → SwP9 (lineT9 fs t) tb (tb + 1) G W3 V) := fun V v' hk hg hx => ⟨_, _, _, _, by rw [HLN.out]; exact hg, hk, hx, fun x h => by rw [HLN.out] at h; exact Option.some.inj h⟩
          generalize fld fs 1 = g1 at *
          generalize fld fs 2 = g2 at *
          have HTM : Hid (∀ ob, TPM (wp.drew.alloc ob) (tb + 1) (.slice B1 t.zones.length d1) (.slice B2 t.airports.length d2) (.slice B3 t.flights.length d3) t) := fun ob => HTP.out.m.next ((below_drewN (Below.refl _ _) 1).alloc (Nat.le_refl _) ob)
          have HP6 : Hid (∀ ob v' w6, TPM w6 (tb + 1) (.slice B1 t.zones.length d1) v' (.slice B3 t.flights.length d3) (t.addA ⟨g1, g2⟩) → (wp.drew.alloc ob).grownBy w6 (Value.slice B2 t.airports.length d2).ownBlock → w6.heap[tb]? = some (.cells #[.slice B1 t.zones.length d1, .slice B2 t.airports.length d2, .slice B3 t.flights.length d3] 27 (0, 0)) ∧ SwP9 (lineT9 fs t) tb (tb + 1) G W3 (w6.setCell ⟨tb, 1, none⟩ v')) := fun ob v' w6 hm hg => by
            have hsz : (wp.drew.alloc ob).heap.size = wp.heap.size + 1 := by simp
            have hbd : Below wp.heap.size wp (wp.drew.alloc ob) := (below_drewN (Below.refl _ _) 1).alloc (Nat.le_refl _) ob
            have hrow : ∀ k, (Value.slice B2 t.airports.length d2).ownBlock = some k → tb + 1 ≤ k := fun k hk => (HTP.out.m.lt.2.1 k hk).1
            have hk6 : w6.heap[tb]? = wp.heap[tb]? := (hg.block tb (by omega) (fun e => by have := hrow tb e.symm; omega)).trans (hbd.block tb (by omega))
            have hG6 : w6.heap[G]? = wp.heap[G]? := (hg.block G (by omega) (fun e => by
              obtain ⟨cur, hc⟩ := (HTP.out.m.a.rowTag e.symm).2
              have h9 := HBI.out
              unfold BadIs at h9
              rw [h9] at hc
              injection hc with hc
              injection hc with _ hT
              exact absurd hT (by decide))).trans (hbd.block G (by omega))
            refine ⟨hk6.trans HTP.out.box, HFIN.out _ _ ?_ ?_ (HTP.out.store1 hk6 hm (by have := hg.size; omega))⟩
            · exact ((HKPP.out.trans (TKeep.of_below hbd HTP.out.le)).grown hg hrow (Nat.le_trans HTP.out.le hbd.size)).setBox _ _
            · unfold BadIs
              rw [heap_setCell_other _ _ _ _ (by show G ≠ tb; omega), hG6]
              exact HBI.out
          have x1 : wp.cell? ⟨tb, 1, none⟩ = some (.slice B2 t.airports.length d2) := block_cell HTP.out.box 1
          have x1a : ∀ ob, (wp.alloc ob).cell? ⟨tb, 1, none⟩ = some (.slice B2 t.airports.length d2) := fun ob => (World.cell?_alloc_past _ _ _ (show tb < wp.heap.size by omega)).trans x1
          have o3 := HOKK.out.2.2.1
          clear h3 ha hz
          as_aux_lemma =>
            go_upto_region 20 with (fail)
            go_region_law (first
              | (refine step_pushA rfl (.tmp 109) (.tmp 117) 24 rfl air_row (by simp [Act.eval, Act.put]) (HTM.out _) wp.heap.size ⟨g1, g2⟩ (by simp [Act.eval, Act.put]) (At.new wp.drew #[.string g1, .string g2] _) o3 (by simp; omega) ?_; intro g6 cap6 w6 hm6 hgr6; obtain ⟨hb6, hs6⟩ := HP6.out _ _ _ hm6 hgr6; have y6 := block_cell hb6 1; have f6 := block_free hb6 1; have HS6 := Lib.hid hs6; clear hb6 hs6 hm6 hgr6)
              | fail)
            all_goals
              go_wp2_with fail
              go_meet
              exact HS6.out
        rw [if_neg ha] at HLN
        by_cases hf : fld fs 0 = fliS
        · have ez1 : ((fld fs 0).toList == [122, 111, 110, 101]) = false := by rw [ez, decide_eq_false hz]
          have ea1 : ((fld fs 0).toList == [97, 105, 114, 112, 111, 114, 116]) = false := by rw [ea, decide_eq_false ha]
          have ef1 : ((fld fs 0).toList == [102, 108, 105, 103, 104, 116]) = true := by rw [ef, decide_eq_true hf]
          rw [if_pos hf] at HLN
          clear ez ea ef hz ha hf
          by_cases h12 : fs.length = 12
          case neg =>
            have HR : Hid (lineT9 fs t = none) := by show _ = _; rw [HLN.out, if_pos]; unfold flightBad; rw [decide_eq_true h12]; rfl
            have h12' : ((fs.length : Int) == 12) = false := by simp; omega
            clear h12
            as_aux_lemma =>
              go_wp2_with fail
              go_meet
              exact HBAD2.out HR.out
          have h12' : ((fs.length : Int) == 12) = true := by simp; omega
          have HL12 := Lib.hid h12
          have l1 : (1 : Int) < (fs.length : Int) := by omega
          have l2 : (2 : Int) < (fs.length : Int) := by omega
          have l3 : (3 : Int) < (fs.length : Int) := by omega
          have l4 : (4 : Int) < (fs.length : Int) := by omega
          have c1 := HCE.out 1 (by omega); have c2 := HCE.out 2 (by omega); have c3 := HCE.out 3 (by omega); have c4 := HCE.out 4 (by omega)
          have HZB : Hid (flightBad fs = ((decide ((insF fs 5).2 ≠ 0) || decide ((insF fs 7).2 ≠ 0)) || needsBad fs 3)) := by
            show _ = _
            rw [flightBad_eq, decide_eq_false (by simpa using h12), Bool.false_or]
          have HFF : Hid (flightF fs = ⟨fld fs 1, fld fs 2, fld fs 3, (insF fs 5).1, (insF fs 7).1, fld fs 4, (needsF fs 3).1, (needsF fs 3).2.1, (needsF fs 3).2.2⟩) := rfl
          have HZ := Lib.hid (fld_le (m := 20000) HFM.out)
          have HFS : Hid (∀ V, But G wp V → Sl Ty.str V (fun b => wr.heap.size ≤ b ∧ b < G) (some ⟨fb, o, none⟩) fs.length cf fs) := fun V hV => HSP.out.but hV fun b hb => ⟨by omega, by omega⟩
          have HI5 : Hid (∀ V b, BadIs V G b → But G wp V → Calls Tryz.prog 24 #[.pointer (some ⟨G, 0, none⟩), .slice (some ⟨fb, o, none⟩) fs.length cf, .int .i64 5] V (NbPost G b (insF fs 5) V)) := fun V b hb hV => parserInstant_any G b fs _ _ cf _ 5 _ V hb (HFS.out V hV) (by omega) rfl (by omega) HFM.out
          have HI7 : Hid (∀ V b, BadIs V G b → But G wp V → Calls Tryz.prog 24 #[.pointer (some ⟨G, 0, none⟩), .slice (some ⟨fb, o, none⟩) fs.length cf, .int .i64 7] V (NbPost G b (insF fs 7) V)) := fun V b hb hV => parserInstant_any G b fs _ _ cf _ 7 _ V hb (HFS.out V hV) (by omega) rfl (by omega) HFM.out
          unfold NbPost at HI5 HI7
          generalize insF fs 5 = a1 at *
          generalize insF fs 7 = a2 at *
          obtain ⟨x1, er1⟩ := a1
          obtain ⟨x2, er2⟩ := a2
          simp only at HI5 HI7 HZB HFF
          have hGw : G < wp.heap.size := by omega
          generalize fld fs 1 = f1 at *
          generalize fld fs 2 = f2 at *
          generalize fld fs 3 = f3 at *
          generalize fld fs 4 = f4 at *
          clear h12
          go_upto_region 22 with (fail)
          go_cut [13] (fun v wx => ∃ H1, v = .pointer (some ⟨H1, 0, none⟩) ∧ wp.heap.size ≤ H1 ∧ wx.heap[H1]? = some (.cells (fCells f1 f2 f3 x1 x2 f4 (0, 0, 0)) 47 (0, 0)) ∧ BadIs wx G (decide (er1 ≠ 0) || decide (er2 ≠ 0)) ∧ But G wp wx)
          case first =>
            as_aux_lemma =>
              clear HSS HBAD HX2 HBW2 HLM hll htb hz2 HZ3 HB3 hz3 hk hlt hlt' HSL HFM HFL hl0 hfl hlor HKPP HOKK HCE e0 l0 hnl hfl2 HTP HLN hszf hgl HSP g0 fr0 HBAD2 ez1 ea1 ef1 h12' HL12 HZ HFS HZB HFF hwz
              refine wp_region_factsR (RB G (er1 ≠ 0 ∨ er2 ≠ 0)) RB.trans 20 [130, 131, 132, 133, 134, 135, 136, 137, 138, 139, 140, 141, 142, 143, 144, 145, 146, 147, 148, 13] (fun i v x => (([(fun v _ => v = .slice (some ⟨fb, o, none⟩) fs.length cf), (fun v _ => v = .pointer (some ⟨fb, o + 1, none⟩)), (fun v _ => v = .string f1), (fun v _ => v = .slice (some ⟨fb, o, none⟩) fs.length cf), (fun v _ => v = .pointer (some ⟨fb, o + 2, none⟩)), (fun v _ => v = .string f2), (fun v _ => v = .slice (some ⟨fb, o, none⟩) fs.length cf), (fun v _ => v = .pointer (some ⟨fb, o + 3, none⟩)), (fun v _ => v = .string f3), (fun v _ => v = .slice (some ⟨fb, o, none⟩) fs.length cf), (fun v _ => v = .pointer (some ⟨fb, o + 4, none⟩)), (fun v _ => v = .string f4), (fun v _ => v = .pointer (some ⟨G, 0, none⟩)), (fun v _ => v = .slice (some ⟨fb, o, none⟩) fs.length cf), (fun v x => v = .int .i64 x1 ∧ (er1 ≠ 0 → BadIs x G true)), (fun v _ => v = .pointer (some ⟨G, 0, none⟩)), (fun v _ => v = .slice (some ⟨fb, o, none⟩) fs.length cf), (fun v x => v = .int .i64 x2 ∧ (er2 ≠ 0 → BadIs x G true)), (fun v _ => v = .agg #[.string f1, .string f2, .string f3, .int .i64 x1, .int .i64 x2, .string f4, .int .i64 0, .int .i64 0, .int .i64 0]), (fun v x => ∃ b, v = .pointer (some ⟨b, 0, none⟩) ∧ wp.heap.size ≤ b ∧ x.heap[b]? = some (.cells #[.string ⟨#[]⟩, .string ⟨#[]⟩, .string ⟨#[]⟩, .int .i64 0, .int .i64 0, .string ⟨#[]⟩, .int .i64 0, .int .i64 0, .int .i64 0] 47 (0, 0)))] : List (Value → World → Prop)).getD i (fun _ _ => True)) v x) (RB.drew _) (by kernel_rfl) (by kernel_rfl) (by kernel_rfl) (by kernel_rfl) (by kernel_rfl) ?_ ?_ ?_
              · intro i v x x' h hx
                rcases Nat.lt_or_ge i 20 with hi | hi
                · have hi' : i = 0 ∨ i = 1 ∨ i = 2 ∨ i = 3 ∨ i = 4 ∨ i = 5 ∨ i = 6 ∨ i = 7 ∨ i = 8 ∨ i = 9 ∨ i = 10 ∨ i = 11 ∨ i = 12 ∨ i = 13 ∨ i = 14 ∨ i = 15 ∨ i = 16 ∨ i = 17 ∨ i = 18 ∨ i = 19 := by omega
                  rcases hi' with rfl | rfl | rfl | rfl | rfl | rfl | rfl | rfl | rfl | rfl | rfl | rfl | rfl | rfl | rfl | rfl | rfl | rfl | rfl | rfl
                  · exact h
                  · exact h
                  · exact h
                  · exact h
                  · exact h
                  · exact h
                  · exact h
                  · exact h
                  · exact h
                  · exact h
                  · exact h
                  · exact h
                  · exact h
                  · exact h
                  · exact ⟨h.1, fun e => (h.2 e).mono hx⟩
                  · exact h
                  · exact h
                  · exact ⟨h.1, fun e => (h.2 e).mono hx⟩
                  · exact h
                  · exact let ⟨b, e, hl, hc⟩ := h; ⟨b, e, hl, (hx.1.block b (Array.getElem?_eq_some_iff.1 hc).1 (by omega)).trans hc⟩
                · rw [List.getD_eq_getElem?_getD, List.getElem?_eq_none (by simpa using hi)]; trivial
              · intro q o' hq ho a' w' hR hout hpre K hK
                have hq' : q = 0 ∨ q = 1 ∨ q = 2 ∨ q = 3 ∨ q = 4 ∨ q = 5 ∨ q = 6 ∨ q = 7 ∨ q = 8 ∨ q = 9 ∨ q = 10 ∨ q = 11 ∨ q = 12 ∨ q = 13 ∨ q = 14 ∨ q = 15 ∨ q = 16 ∨ q = 17 ∨ q = 18 ∨ q = 19 := by omega
                rcases hq' with rfl | rfl | rfl | rfl | rfl | rfl | rfl | rfl | rfl | rfl | rfl | rfl | rfl | rfl | rfl | rfl | rfl | rfl | rfl | rfl
                · obtain rfl := Option.some.inj ho
                  have e9 : a'.tmps[9]? = some (.slice (some ⟨fb, o, none⟩) fs.length cf) := hout 9 (by decide)
                  go_simp
                  exact hK (.slice (some ⟨fb, o, none⟩) fs.length cf) w' rfl (RB.refl _ _ _)
                · obtain rfl := Option.some.inj ho
                  have p0 : a'.tmps.getD 130 undef = .slice (some ⟨fb, o, none⟩) fs.length cf := hpre ⟨0, .data⟩ (by simp) 130 rfl
                  simp only [Array.getD_eq_getD_getElem?] at p0
                  go_simp
                  exact hK (.pointer (some ⟨fb, o + 1, none⟩)) w' rfl (RB.refl _ _ _)
                · obtain rfl := Option.some.inj ho
                  have p1 : a'.tmps.getD 131 undef = .pointer (some ⟨fb, o + 1, none⟩) := hpre ⟨1, .data⟩ (by simp) 131 rfl
                  simp only [Array.getD_eq_getD_getElem?] at p1
                  have c2 := hR.1.cell c1 (show fb ≠ G by omega)
                  go_simp
                  exact hK (.string f1) w' rfl (RB.refl _ _ _)
                · obtain rfl := Option.some.inj ho
                  have e9 : a'.tmps[9]? = some (.slice (some ⟨fb, o, none⟩) fs.length cf) := hout 9 (by decide)
                  go_simp
                  exact hK (.slice (some ⟨fb, o, none⟩) fs.length cf) w' rfl (RB.refl _ _ _)
                · obtain rfl := Option.some.inj ho
                  have p3 : a'.tmps.getD 133 undef = .slice (some ⟨fb, o, none⟩) fs.length cf := hpre ⟨3, .data⟩ (by simp) 133 rfl
                  simp only [Array.getD_eq_getD_getElem?] at p3
                  go_simp
                  exact hK (.pointer (some ⟨fb, o + 2, none⟩)) w' rfl (RB.refl _ _ _)
                · obtain rfl := Option.some.inj ho
                  have p4 : a'.tmps.getD 134 undef = .pointer (some ⟨fb, o + 2, none⟩) := hpre ⟨4, .data⟩ (by simp) 134 rfl
                  simp only [Array.getD_eq_getD_getElem?] at p4
                  have c5 := hR.1.cell c2 (show fb ≠ G by omega)
                  go_simp
                  exact hK (.string f2) w' rfl (RB.refl _ _ _)
                · obtain rfl := Option.some.inj ho
                  have e9 : a'.tmps[9]? = some (.slice (some ⟨fb, o, none⟩) fs.length cf) := hout 9 (by decide)
                  go_simp
                  exact hK (.slice (some ⟨fb, o, none⟩) fs.length cf) w' rfl (RB.refl _ _ _)
                · obtain rfl := Option.some.inj ho
                  have p6 : a'.tmps.getD 136 undef = .slice (some ⟨fb, o, none⟩) fs.length cf := hpre ⟨6, .data⟩ (by simp) 136 rfl
                  simp only [Array.getD_eq_getD_getElem?] at p6
                  go_simp
                  exact hK (.pointer (some ⟨fb, o + 3, none⟩)) w' rfl (RB.refl _ _ _)
                · obtain rfl := Option.some.inj ho
                  have p7 : a'.tmps.getD 137 undef = .pointer (some ⟨fb, o + 3, none⟩) := hpre ⟨7, .data⟩ (by simp) 137 rfl
                  simp only [Array.getD_eq_getD_getElem?] at p7
                  have c8 := hR.1.cell c3 (show fb ≠ G by omega)
                  go_simp
                  exact hK (.string f3) w' rfl (RB.refl _ _ _)
                · obtain rfl := Option.some.inj ho
                  have e9 : a'.tmps[9]? = some (.slice (some ⟨fb, o, none⟩) fs.length cf) := hout 9 (by decide)
                  go_simp
                  exact hK (.slice (some ⟨fb, o, none⟩) fs.length cf) w' rfl (RB.refl _ _ _)
                · obtain rfl := Option.some.inj ho
                  have p9 : a'.tmps.getD 139 undef = .slice (some ⟨fb, o, none⟩) fs.length cf := hpre ⟨9, .data⟩ (by simp) 139 rfl
                  simp only [Array.getD_eq_getD_getElem?] at p9
                  go_simp
                  exact hK (.pointer (some ⟨fb, o + 4, none⟩)) w' rfl (RB.refl _ _ _)
                · obtain rfl := Option.some.inj ho
                  have p10 : a'.tmps.getD 140 undef = .pointer (some ⟨fb, o + 4, none⟩) := hpre ⟨10, .data⟩ (by simp) 140 rfl
                  simp only [Array.getD_eq_getD_getElem?] at p10
                  have c11 := hR.1.cell c4 (show fb ≠ G by omega)
                  go_simp
                  exact hK (.string f4) w' rfl (RB.refl _ _ _)
                · obtain rfl := Option.some.inj ho
                  have e10 : a'.tmps[10]? = some (.pointer (some ⟨G, 0, none⟩)) := hout 10 (by decide)
                  go_simp
                  exact hK (.pointer (some ⟨G, 0, none⟩)) w' rfl (RB.refl _ _ _)
                · obtain rfl := Option.some.inj ho
                  have e9 : a'.tmps[9]? = some (.slice (some ⟨fb, o, none⟩) fs.length cf) := hout 9 (by decide)
                  go_simp
                  exact hK (.slice (some ⟨fb, o, none⟩) fs.length cf) w' rfl (RB.refl _ _ _)
                · obtain rfl := Option.some.inj ho
                  have p12 : a'.tmps.getD 142 undef = .pointer (some ⟨G, 0, none⟩) := hpre ⟨12, .data⟩ (by simp) 142 rfl
                  simp only [Array.getD_eq_getD_getElem?] at p12
                  have p13 : a'.tmps.getD 143 undef = .slice (some ⟨fb, o, none⟩) fs.length cf := hpre ⟨13, .data⟩ (by simp) 143 rfl
                  simp only [Array.getD_eq_getD_getElem?] at p13
                  obtain ⟨b', hb', -, -⟩ := hR.2 false HBI.out
                  go_simp
                  go_at_call 24
                  refine (HI5.out w' b' hb' hR.1).mono ?_
                  rintro e w'' ⟨rfl, hbi, hbut⟩
                  exact hK _ _ ⟨rfl, fun h => hbi.to (by simp [h])⟩ (RB.of_num hb' hbi hbut .inl)
                · obtain rfl := Option.some.inj ho
                  have e10 : a'.tmps[10]? = some (.pointer (some ⟨G, 0, none⟩)) := hout 10 (by decide)
                  go_simp
                  exact hK (.pointer (some ⟨G, 0, none⟩)) w' rfl (RB.refl _ _ _)
                · obtain rfl := Option.some.inj ho
                  have e9 : a'.tmps[9]? = some (.slice (some ⟨fb, o, none⟩) fs.length cf) := hout 9 (by decide)
                  go_simp
                  exact hK (.slice (some ⟨fb, o, none⟩) fs.length cf) w' rfl (RB.refl _ _ _)
                · obtain rfl := Option.some.inj ho
                  have p15 : a'.tmps.getD 145 undef = .pointer (some ⟨G, 0, none⟩) := hpre ⟨15, .data⟩ (by simp) 145 rfl
                  simp only [Array.getD_eq_getD_getElem?] at p15
                  have p16 : a'.tmps.getD 146 undef = .slice (some ⟨fb, o, none⟩) fs.length cf := hpre ⟨16, .data⟩ (by simp) 146 rfl
                  simp only [Array.getD_eq_getD_getElem?] at p16
                  obtain ⟨b', hb', -, -⟩ := hR.2 false HBI.out
                  go_simp
                  go_at_call 24
                  refine (HI7.out w' b' hb' hR.1).mono ?_
                  rintro e w'' ⟨rfl, hbi, hbut⟩
                  exact hK _ _ ⟨rfl, fun h => hbi.to (by simp [h])⟩ (RB.of_num hb' hbi hbut .inr)
                · obtain rfl := Option.some.inj ho
                  have p2 : a'.tmps.getD 132 undef = .string f1 := hpre ⟨2, .data⟩ (by simp) 132 rfl
                  simp only [Array.getD_eq_getD_getElem?] at p2
                  have p5 : a'.tmps.getD 135 undef = .string f2 := hpre ⟨5, .data⟩ (by simp) 135 rfl
                  simp only [Array.getD_eq_getD_getElem?] at p5
                  have p8 : a'.tmps.getD 138 undef = .string f3 := hpre ⟨8, .data⟩ (by simp) 138 rfl
                  simp only [Array.getD_eq_getD_getElem?] at p8
                  have p11 : a'.tmps.getD 141 undef = .string f4 := hpre ⟨11, .data⟩ (by simp) 141 rfl
                  simp only [Array.getD_eq_getD_getElem?] at p11
                  obtain ⟨p14, -⟩ := hpre ⟨14, .data⟩ (by simp) 144 rfl
                  simp only [Array.getD_eq_getD_getElem?] at p14
                  obtain ⟨p17, -⟩ := hpre ⟨17, .data⟩ (by simp) 147 rfl
                  simp only [Array.getD_eq_getD_getElem?] at p17
                  have hbl : Tryz.prog.built 47 [(0, .string f1), (1, .string f2), (2, .string f3), (5, .string f4), (3, .int .i64 x1), (4, .int .i64 x2)] = some #[.string f1, .string f2, .string f3, .int .i64 x1, .int .i64 x2, .string f4, .int .i64 0, .int .i64 0, .int .i64 0] := by kernel_rfl
                  have hev : ((#[(0, Operand.tmp 132), (1, .tmp 135), (2, .tmp 138), (5, .tmp 141), (3, .tmp 144), (4, .tmp 147)] : Array (Nat × Operand)).map fun (i, x) => (i, a'.eval x)).toList = [(0, .string f1), (1, .string f2), (2, .string f3), (5, .string f4), (3, .int .i64 x1), (4, .int .i64 x2)] := by simp [Act.eval, Array.getD_eq_getD_getElem?, p2, p5, p8, p11, p14, p17]
                  refine wp_build _ _ rfl (by rw [hev, hbl]; rfl) ?_
                  rw [hev, hbl]
                  exact hK _ w' rfl (RB.refl _ _ _)
                · obtain rfl := Option.some.inj ho
                  go_simp
                  exact hK _ _ ⟨w'.heap.size, rfl, hR.1.size, heap_alloc_new _ _⟩ (RB.of_below ((Below.refl _ _).alloc (Nat.le_refl _) _))
              · intro us w' hR hfacts
                obtain ⟨h14, hB14⟩ := hfacts 14 (by decide)
                obtain ⟨h17, hB17⟩ := hfacts 17 (by decide)
                have h18 : us 18 = .agg #[.string f1, .string f2, .string f3, .int .i64 x1, .int .i64 x2, .string f4, .int .i64 0, .int .i64 0, .int .i64 0] := hfacts 18 (by decide)
                obtain ⟨H1, h19, hH1, hbox⟩ := hfacts 19 (by decide)
                simp only [putL, Act.put, List.setIfInBounds_toArray, List.set_cons_zero, List.set_cons_succ, Nat.zero_add, Nat.reduceAdd]
                generalize us 14 = x14 at *
                generalize us 17 = x17 at *
                generalize us 18 = x18 at *
                generalize us 19 = x19 at *
                subst h18
                simp only [List.drop_succ_cons, List.drop_zero]
                clear hfacts
                subst h19
                obtain ⟨b', hbi, -, hbb⟩ := hR.2 false HBI.out
                have hbt : b' = (decide (er1 ≠ 0) || decide (er2 ≠ 0)) := by
                  cases b' with
                  | true => rcases hbb rfl with h | h | h
                            · cases h
                            · rw [decide_eq_true h]; rfl
                            · rw [decide_eq_true h]; simp
                  | false =>
                    have e1 : decide (er1 ≠ 0) = false := by rw [decide_eq_false_iff_not]; intro h; exact absurd (hbi.inj (hB14 h)) (by decide)
                    have e2 : decide (er2 ≠ 0) = false := by rw [decide_eq_false_iff_not]; intro h; exact absurd (hbi.inj (hB17 h)) (by decide)
                    rw [e1, e2]; rfl
                have hGH : G ≠ H1 := by omega
                have HN9 : Hid (Nine wp G H1 47 b' #[.string f1, .string f2, .string f3, .int .i64 x1, .int .i64 x2, .string f4, .int .i64 0, .int .i64 0, .int .i64 0] (w'.setRow H1 #[.string f1, .string f2, .string f3, .int .i64 x1, .int .i64 x2, .string f4, .int .i64 0, .int .i64 0, .int .i64 0])) := Nine.row ⟨hbox, hbi, hR.1⟩ hH1 hGH _
                have HBT := Lib.hid hbt
                clear hR hbi hbb hB14 hB17 hbt
                refine wpList_store_row rfl _ _ _ rfl H1 #[.string f1, .string f2, .string f3, .int .i64 x1, .int .i64 x2, .string f4, .int .i64 0, .int .i64 0, .int .i64 0] (by simp [Act.eval]) (by simp [Act.eval]) 47 _ hbox (by kernel_rfl) rfl (by simp [Value.oneCell']) ?_
                clear hbox
                generalize w'.setRow H1 #[.string f1, .string f2, .string f3, .int .i64 x1, .int .i64 x2, .string f4, .int .i64 0, .int .i64 0, .int .i64 0] = wz at *
                go_wp2_with fail
                go_meet
                refine ⟨H1, rfl, hH1, ?_, ?_, ?_⟩
                · exact HN9.out.1
                · rw [← HBT.out]; exact HN9.out.2.1
                · exact HN9.out.2.2
          case rest =>
          obtain ⟨H1, rfl, hH1, hbox, hbi1, hbt1⟩ := hcut
          obtain ⟨w1, rfl⟩ : ∃ x : World, x = wc := ⟨_, rfl⟩
          have HBX1 : Hid (w1.heap[H1]? = some (.cells (fCells f1 f2 f3 x1 x2 f4 (needsF fs 0)) 47 (0, 0))) := hbox
          have HBI1 : Hid (BadIs w1 G ((decide (er1 ≠ 0) || decide (er2 ≠ 0)) || needsBad fs 0)) := hbi1.to (by simp [needsBad])
          have HBT1 := Lib.hid hbt1
          clear hbox hbi1 hbt1 c1 c2 c3 c4 HI5 HI7
          have HCD : Hid (∀ V, But G wp V → ∀ i, i < fs.length → V.cell? ⟨fb, o + i, none⟩ = some (.string (fld fs i))) := fun V hV i hi => hV.cell (HCE.out i hi) (show fb ≠ G by omega)
          clear e0 g0 fr0 l1 l2 l3 l4 h12' ez1 ea1 ef1
          go_upto_region 23 with (fail)
          go_wp2_with fail
          go_loopw [14] (fun i wq => ∃ (j : Nat), j ≤ 3 ∧ i = .int .i64 j ∧ Hid (wq.heap[H1]? = some (.cells (fCells f1 f2 f3 x1 x2 f4 (needsF fs j)) 47 (0, 0))) ∧ Hid (BadIs wq G ((decide (er1 ≠ 0) || decide (er2 ≠ 0)) || needsBad fs j)) ∧ Hid (But G wp wq)) (fun i _ => 3 - (intOf i).toNat)
          case atStart => exact ⟨0, Nat.zero_le _, rfl, HBX1, HBI1, HBT1⟩
          case round =>
            clear HBX1 HBI1 HBT1
            obtain ⟨j, hj, rfl, HXZ, HBQ, HBT⟩ := hrel
            obtain ⟨wq, rfl⟩ : ∃ x : World, x = wr := ⟨_, rfl⟩
            have hH1s : H1 < wq.heap.size := (Array.getElem?_eq_some_iff.1 HXZ.out).1
            by_cases hlt : j < 3
            · have cj := HCD.out wq HBT.out (9 + j) (by have := HL12.out; omega)
              have hcj : wq.cell? ⟨fb, o + (9 + (j : Int)).toNat, none⟩ = some (.string (fld fs (9 + j))) := by rw [show (9 + (j : Int)).toNat = 9 + j by omega]; exact cj
              have lj : 9 + (j : Int) < (fs.length : Int) := by have := HL12.out; omega
              have lj0 : 0 ≤ 9 + (j : Int) := by omega
              have qj : IntKind.i64.wrap (9 + (j : Int)) = 9 + j := IntWalk.i64_in _ (by omega)
              have HNB : Hid (∀ V b, BadIs V G b → Calls Tryz.prog 25 #[.pointer (some ⟨G, 0, none⟩), .string (fld fs (9 + j))] V (NbPost G b (parseB (fld fs (9 + j))) V)) := fun V b hb => numberR_any G b _ V hb (by have := HZ.out (9 + j); unfold maxLen; omega)
              have HNS : Hid (needsF fs (j + 1) = need3 (parseB (fld fs (9 + j))).1 (needsF fs j) j) := rfl
              have HNB2 := Lib.hid (needsBad_succ fs j)
              unfold NbPost at HNB
              generalize parseB (fld fs (9 + j)) = pj at *
              obtain ⟨nj, ej⟩ := pj
              simp only at HNB HNS HNB2
              have lj3 : (j : Int) < 3 := by omega
              obtain ⟨y, hy⟩ := fCells_get f1 f2 f3 x1 x2 f4 (needsF fs j) j hlt
              go_wp2_with fail
              refine (HNB.out _ _ HBQ.out).mono ?_
              rintro e w7 ⟨rfl, hbi7, hbt7⟩
              have hx7 := (hbt7.block H1 hH1s (by omega)).trans HXZ.out
              have hc7 : w7.cell? ⟨H1, 6 + j, none⟩ = some (.int .i64 y) := (block_cell hx7 _).trans hy
              have hf7 : w7.frozen? ⟨H1, 6 + j, none⟩ = false := block_free hx7 _
              have HF7 : Hid ((w7.setCell ⟨H1, 6 + j, none⟩ (.int .i64 nj)).heap[H1]? = some (.cells (fCells f1 f2 f3 x1 x2 f4 (needsF fs (j + 1))) 47 (0, 0))) := by
                show _ = _
                rw [heap_setCell_same _ _ _ _ _ _ hx7, fCells_set _ _ _ _ _ _ _ _ _ hlt, HNS.out]
              have HB7 : Hid (BadIs (w7.setCell ⟨H1, 6 + j, none⟩ (.int .i64 nj)) G ((decide (er1 ≠ 0) || decide (er2 ≠ 0)) || needsBad fs (j + 1))) := by
                show BadIs _ _ _
                have h9 := hbi7.to (c := ((decide (er1 ≠ 0) || decide (er2 ≠ 0)) || needsBad fs (j + 1))) (by rw [HNB2.out, Bool.or_assoc _ (needsBad fs j)])
                unfold BadIs at h9 ⊢
                rw [heap_setCell_other _ _ _ _ (by show G ≠ H1; omega)]
                exact h9
              have HT7 : Hid (But G wp (w7.setCell ⟨H1, 6 + j, none⟩ (.int .i64 nj))) := (HBT.out.trans hbt7).setFar hH1 _ _
              clear hy hcj cj hx7 hbi7 hbt7 HNB
              go_wp2_with fail
              go_roundw
              case rel => exact ⟨j + 1, by omega, by go_num, HF7, HB7, HT7⟩
              case measure => simp [intOf]; omega
            · obtain rfl : j = 3 := by omega
              have HTQ : Hid (TBx wq tb (tb + 1) (.slice B1 t.zones.length d1) (.slice B2 t.airports.length d2) (.slice B3 t.flights.length d3) t) := HTP.out.but HBT.out HBI.out hgl
              obtain ⟨nf, hnf⟩ : ∃ nf, nf = needsF fs 3 := ⟨_, rfl⟩
              rw [← hnf] at HXZ HFF
              obtain ⟨m0, m1, m2⟩ := nf
              simp only at HFF
              have hxz : wq.heap[H1]? = some (.cells #[.string f1, .string f2, .string f3, .int .i64 x1, .int .i64 x2, .string f4, .int .i64 m0, .int .i64 m1, .int .i64 m2] 47 (0, 0)) := HXZ.out
              have x0 : wq.cell? ⟨tb, 2, none⟩ = some (.slice B3 t.flights.length d3) := block_cell HTQ.out.box 2
              have HTM : Hid (∀ ob, TPM (wq.alloc ob) (tb + 1) (.slice B1 t.zones.length d1) (.slice B2 t.airports.length d2) (.slice B3 t.flights.length d3) t) := fun ob => HTQ.out.m.next ((Below.refl _ _).alloc (Nat.le_refl _) ob)
              have hws := HTQ.out.le
              have hGs : G < wq.heap.size := by have := HBT.out.size; omega
              have hZB3 : flightBad fs = ((decide (er1 ≠ 0) || decide (er2 ≠ 0)) || needsBad fs 3) := HZB.out
              have HBQ3 : Hid (BadIs wq G (flightBad fs)) := HBQ.out.to hZB3.symm
              have HFIN : Hid (∀ V v', TKeep tb (tb + 1) W3 V → BadIs V G (flightBad fs) → TBx V tb (tb + 1) (.slice B1 t.zones.length d1) (.slice B2 t.airports.length d2) v' (t.addF ⟨f1, f2, f3, x1, x2, f4, m0, m1, m2⟩) → SwP9 (lineT9 fs t) tb (tb + 1) G W3 V) := fun V v' hk hg hx => by
                refine ⟨_, _, _, _, ?_, hk, hx, fun x h => ?_⟩
                · rw [HLN.out]
                  cases hzb : flightBad fs with
                  | true => rw [hzb] at hg; rw [if_pos rfl]; exact hg
                  | false => rw [hzb] at hg; rw [if_neg (by simp)]; exact hg
                · rw [HLN.out] at h
                  split at h
                  · cases h
                  · rw [← HFF.out]; exact Option.some.inj h
              have HP6 : Hid (∀ ob v' w6, TPM w6 (tb + 1) (.slice B1 t.zones.length d1) (.slice B2 t.airports.length d2) v' (t.addF ⟨f1, f2, f3, x1, x2, f4, m0, m1, m2⟩) → (wq.alloc ob).grownBy w6 (Value.slice B3 t.flights.length d3).ownBlock → w6.heap[tb]? = some (.cells #[.slice B1 t.zones.length d1, .slice B2 t.airports.length d2, .slice B3 t.flights.length d3] 27 (0, 0)) ∧ SwP9 (lineT9 fs t) tb (tb + 1) G W3 (w6.setCell ⟨tb, 2, none⟩ v')) := fun ob v' w6 hm hg => by
                have hsz : (wq.alloc ob).heap.size = wq.heap.size + 1 := by simp
                have hbd : Below wq.heap.size wq (wq.alloc ob) := (Below.refl _ _).alloc (Nat.le_refl _) ob
                have hrow : ∀ k, (Value.slice B3 t.flights.length d3).ownBlock = some k → tb + 1 ≤ k := fun k hk => (HTQ.out.m.lt.2.2 k hk).1
                have hk6 : w6.heap[tb]? = wq.heap[tb]? := (hg.block tb (by omega) (fun e => by have := hrow tb e.symm; omega)).trans (hbd.block tb (by omega))
                have hG6 : w6.heap[G]? = wq.heap[G]? := (hg.block G (by omega) (fun e => by
                  obtain ⟨cur, hc⟩ := (HTQ.out.m.f.rowTag e.symm).2
                  have h9 := HBQ3.out
                  unfold BadIs at h9
                  rw [h9] at hc
                  injection hc with hc
                  injection hc with _ hT
                  exact absurd hT (by decide))).trans (hbd.block G (by omega))
                refine ⟨hk6.trans HTQ.out.box, HFIN.out _ _ ?_ ?_ (HTQ.out.store2 hk6 hm (by have := hg.size; omega))⟩
                · exact (((HKPP.out.trans (TKeep.of_but HBT.out hgl HTP.out.le)).trans (TKeep.of_below hbd hws)).grown hg hrow (Nat.le_trans hws hbd.size)).setBox _ _
                · unfold BadIs
                  rw [heap_setCell_other _ _ _ _ (by show G ≠ tb; omega), hG6]
                  exact HBQ3.out
              have o2 := HOKK.out.2.2.2
              clear hnf hlt hZB3
              as_aux_lemma =>
                go_upto_region 27 with (fail)
                refine wp_region_lit ?_
                refine wpList_plain rfl fun K9 hK9 => ?_
                go_simp
                refine hK9 _ _ ?_
                clear hK9
                refine wpList_plain rfl fun K9 hK9 => ?_
                go_simp
                refine hK9 _ _ ?_
                clear hK9
                refine wpList_load_row rfl _ _ rfl H1 (by simp [Act.eval, Act.put]) 47 _ _ _ hxz Tryz.underlying47 rfl (by kernel_rfl) ?_
                clear hxz
                refine wpList_bslice rfl _ _ rfl #[.string f1, .string f2, .string f3, .int .i64 x1, .int .i64 x2, .string f4, .int .i64 m0, .int .i64 m1, .int .i64 m2] (by simp [Act.eval, Act.put]) _ (bslice_fli wq _ _ _ _ _ _ _ _ _) ?_
                go_wp2_with (at_builtin; refine wpList_pushF rfl _ _ _ rfl fli_row rfl (HTM.out _) wq.heap.size ⟨f1, f2, f3, x1, x2, f4, m0, m1, m2⟩ rfl (At.new wq #[.string f1, .string f2, .string f3, .int .i64 x1, .int .i64 x2, .string f4, .int .i64 m0, .int .i64 m1, .int .i64 m2] _) o2 (by simp; omega) ?_)
                intro v6 w6 hm6 hgr6
                obtain ⟨hb6, hs6⟩ := HP6.out _ _ _ hm6 hgr6
                obtain ⟨_, _, _, _, A6, c6, _, _, e6, -⟩ := hm6.sl
                subst e6
                generalize (t.addF ⟨f1, f2, f3, x1, x2, f4, m0, m1, m2⟩).flights.length = nl at *
                have y9 := block_cell hb6 2; have f9 := block_free hb6 2
                have HS6 := Lib.hid hs6
                clear hb6 hs6 hm6 hgr6
                go_wp2_with fail
                go_meet
                exact HS6.out
        have ez1 : ((fld fs 0).toList == [122, 111, 110, 101]) = false := by rw [ez, decide_eq_false hz]
        have ea1 : ((fld fs 0).toList == [97, 105, 114, 112, 111, 114, 116]) = false := by rw [ea, decide_eq_false ha]
        have ef1 : ((fld fs 0).toList == [102, 108, 105, 103, 104, 116]) = false := by rw [ef, decide_eq_false hf]
        rw [if_neg hf] at HLN
        clear ez ea ef hz ha hf
        as_aux_lemma =>
          go_wp2_with fail
          go_meet
          exact HBAD2.out HLN.out
      case rest =>
      obtain ⟨u1, u2, u3, t5, hbi, hk5, hx5, ht5⟩ := hcut
      obtain ⟨w5, rfl⟩ : ∃ x : World, x = wc := ⟨_, rfl⟩
      have HK5 := Lib.hid hk5; have HX5 := Lib.hid hx5; have HT5 := Lib.hid ht5; have HBI5 := Lib.hid hbi
      obtain ⟨hb5, -, hxr5⟩ := HKB.out w5 hk5
      have HB5 := Lib.hid hb5; have HXR5 := Lib.hid hxr5
      clear hk5 hx5 ht5 hbi hb5 hxr5
      generalize lineT9 fs (ttAt ls k) = r at *
      cases r with
      | some x =>
        obtain rfl := HT5.out x rfl
        have g0 : w5.cell? ⟨wf.heap.size, 0, none⟩ = some (.bool false) := block_cell HBI5.out 0
        have HE := Lib.hid (HSUC.out t5 rfl)
        have HN1 : Hid (∀ j, j < k + 1 → ttBad ls j = false) := fun j hj => by
          rcases Nat.lt_or_eq_of_le (Nat.le_of_lt_succ hj) with h | h
          · exact HNE.out j h
          · subst h; exact HE.out.2
        have HST1 : Hid (TBx w5 tb (tb + 1) u1 u2 u3 (ttAt ls (k + 1))) := by show TBx _ _ _ _ _ _ _; rw [HE.out.1]; exact HX5.out
        as_aux_lemma =>
          go_wp2_with fail
          go_roundw
          case rel => exact ⟨k + 1, u1, u2, u3, by omega, by go_num, HST1, HK5, HN1⟩
          case measure => simp [intOf]; omega
      | none =>
        have g0 : w5.cell? ⟨wf.heap.size, 0, none⟩ = some (.bool true) := block_cell HBI5.out 0
        have HR : Hid (parseT s = (emTT, (k : Int) + 1, 1)) := HPE.out k hlt (HBD.out rfl) HNE.out
        have z0 := block_cell HXR5.out 0; have z1 := block_cell HXR5.out 1; have z2 := block_cell HXR5.out 2
        have f0 := block_free HXR5.out 0; have f1 := block_free HXR5.out 1; have f2 := block_free HXR5.out 2
        as_aux_lemma =>
          go_wp2_with fail
          refine bodyPost_ret (v := .tuple #[.agg #[.slice none 0 0, .slice none 0 0, .slice none 0 0], .int .i64 ((k : Int) + 1), .int .i64 1]) (by simp [results, Tryz.results8, go_sem, z0, z1, z2]) rfl ?_
          exact HBAD.out _ _ _ HR.out (((HB5.out.setCell (Nat.le_refl _) _).setCell (Nat.le_refl _) _).setCell (Nat.le_refl _) _)
    · have hkl : k = ls.length := by omega
      subst hkl
      have hge : ¬ (ls.length : Int) < (ls.length : Int) := by omega
      have HPAX := Lib.hid (HPA.out HNE.out)
      have HOKP := HPO.out ls.length
      have hx := HST.out.box
      have hm := HST.out.m
      obtain ⟨B1, d1, B2, d2, B3, d3, rfl, rfl, rfl, s1, s2, s3⟩ := hm.sl
      have hbr' := Lib.hid hbr
      have hV := validateR_any (ttAt ls ls.length) B1 B2 B3 _ _ _ d1 d2 d3 wr HOKP.1 (s1.more fun q hq => hq.2) (s2.more fun q hq => hq.2) (s3.more fun q hq => hq.2)
      have HV := Lib.hid hV
      have HM := Lib.hid hm
      have HXR := Lib.hid hxr
      have hle := HST.out.le
      generalize ttAt ls ls.length = tt at *
      have y0 := block_cell hx 0; have y1 := block_cell hx 1; have y2 := block_cell hx 2
      have HXB := Lib.hid hx
      clear hx hm s1 s2 s3 hV hbr hslr hlt hk HOKP HST HKP HNE hxr
      go_wp2_with fail
      refine HV.out.mono ?_
      rintro e w6 ⟨rfl, hb6⟩
      have HB6 : Hid (Below w.heap.size w w6) := hbr'.out.trans (hb6.mono hbr'.out.size)
      have hx6 := (hb6.block w.heap.size (by omega)).trans HXR.out
      have hy6 := (hb6.block tb (by omega)).trans HXB.out
      have HM6 := Lib.hid (HM.out.next hb6)
      clear y0 y1 y2 hb6 HV
      have z0 := block_cell hx6 0; have z1 := block_cell hx6 1; have z2 := block_cell hx6 2
      have f0 := block_free hx6 0; have f1 := block_free hx6 1; have f2 := block_free hx6 2
      have y0 := block_cell hy6 0; have y1 := block_cell hy6 1; have y2 := block_cell hy6 2
      clear hx6 hy6
      generalize ttE tt = ce at *
      by_cases hce : ce = 0
      · have HR : Hid (parseT s = (tt, 0, 0)) := by show _ = _; rw [HPAX.out, if_neg (by simp [hce])]
        have HRES : Hid (∀ V, TPM V (tb + 1) (.slice B1 tt.zones.length d1) (.slice B2 tt.airports.length d2) (.slice B3 tt.flights.length d3) tt → Below w.heap.size w V → TParPost (parseT s) w (.returned (.tuple #[.agg #[.slice B1 tt.zones.length d1, .slice B2 tt.airports.length d2, .slice B3 tt.flights.length d3], .int .i64 0, .int .i64 0])) V) := fun V hm hb => by
          rw [HR.out]
          obtain ⟨B1', d1', B2', d2', B3', d3', e1, e2, e3, s1, s2, s3⟩ := hm.sl
          injection e1 with e1 _ e1'
          injection e2 with e2 _ e2'
          injection e3 with e3 _ e3'
          subst e1 e1' e2 e2' e3 e3'
          exact ⟨_, _, _, _, _, _, _, _, _, rfl, s1.more fun q hq => hq.2, s2.more fun q hq => hq.2, s3.more fun q hq => hq.2, hb⟩
        have hrl : w.heap.size < tb + 1 := by omega
        subst hce
        go_wp2_with fail
        refine bodyPost_ret (v := .tuple #[.agg #[.slice B1 tt.zones.length d1, .slice B2 tt.airports.length d2, .slice B3 tt.flights.length d3], .int .i64 0, .int .i64 0]) (by simp [results, Tryz.results8, go_sem, z0, z1, z2]) rfl ?_
        exact HRES.out _ (((HM6.out.setBox hrl).setBox hrl).setBox hrl) (((HB6.out.setCell (Nat.le_refl _) _).setCell (Nat.le_refl _) _).setCell (Nat.le_refl _) _)
      · have hne : (ce != 0) = true := by simpa using hce
        have HR : Hid (parseT s = (emTT, 0, ce)) := by show _ = _; rw [HPAX.out, if_pos hce]
        clear hce HPAX
        go_wp2_with fail
        refine bodyPost_ret (v := .tuple #[.agg #[.slice none 0 0, .slice none 0 0, .slice none 0 0], .int .i64 0, .int .i64 ce]) (by simp [results, Tryz.results8, go_sem, z0, z1, z2]) rfl ?_
        exact HBAD.out _ _ _ HR.out (((HB6.out.setCell (Nat.le_refl _) _).setCell (Nat.le_refl _) _).setCell (Nat.le_refl _) _)
end Go.Proofs.YtldeoaddogifpaaGreatDoor
/-
  What every card of this seat needs: a witness over laid tables, the arguments read again behind a call that changes nothing below the old heap, and the law's post out of 'returned true' and 'Below'.
  No condition.
-/
namespace Go.Proofs.YtldeoaddogifpaaGreatDoor
set_option linter.unusedSimpArgs false
set_option linter.unusedVariables false
open Go.ChangeShapes Go.WideShapes Go.ChangeAt Go.RowKit

theorem ownKnob_none : ownKnob Tryz.prog.godebug = none := by kernel_rfl
theorem laidOut_true : laidOutB Tryz.prog = true := by kernel_rfl

section
variable {H : Type} {enc : TypeId × Value → H} {P : Program}
theorem witness_row_shaped {C : Checked} {os : Os} {f : FuncId} {fn : Func} {s : OpenSpec} {conds : List PathCond} {apart : Bool} {laid : List (String × DataW Unit)} (modest : Bool) (w0 : World) (args : Array Value) (hos : w0.os = os)
    (hsh : (w0.forCall (fun _ _ => 0) ⟨#[], args, []⟩).Shaped C.prog)
    (hok : Input.okWideB C.prog (w0.forCall (fun _ _ => 0) ⟨#[], args, []⟩) f ⟨#[], args, []⟩ = true)
    (hrow : s.preRow enc C.prog fn conds apart laid (w0.forCall (fun _ _ => 0) ⟨#[], args, []⟩).memory args) :
    ∃ (w : World) (tape : Tape) (i : Input), w.os = os ∧ (w.forCall tape i).Shaped C.prog ∧ i.vars = [] ∧ Input.okWide C.prog (w.forCall tape i) .any w.heap.size f i ∧
      s.preRow enc C.prog fn conds apart laid (w.forCall tape i).memory i.args ∧ ({ modest := modest } : Assume).holds C.prog (lone (Frame.enter C.prog f i.args .normal) [] (w.forCall tape i)) :=
  ⟨w0, fun _ _ => 0, ⟨#[], args, []⟩, hos, hsh, (Input.okWide_of_okWideB (base := 0) hok).1, (Input.okWide_of_okWideB hok).2, hrow, by
    simp only [Assume.holds]
    exact ⟨by simp, by simp, fun _ => Modest.zero, by simp, by simp⟩⟩

theorem trodAll_below (hl : laidOutB P = true) {W W' : World} (hb : Below W.heap.size W W') : ∀ {ts : List TypeId} {vs : List Value} {ds : List (DataW H)} {ps : List MemPlace},
    (∀ t ∈ ts, P.readableRec t = true ∧ t < P.types.size) → DataW.TrodAll enc P W 0 (fun _ => true) true ts vs ds ps → (∀ x ∈ ps, x.block < W.heap.size) →
    DataW.TrodAll enc P W' 0 (fun b => decide (b < W.heap.size)) true ts vs ds ps
  | [], [], [], _, _, h, _ => h
  | t :: ts, v :: vs, d :: ds, ps, hr, h, hlt => by
    obtain ⟨p, q, h1, h2, rfl⟩ := h
    exact ⟨p, q, Below.trod hl (hr t (.head _)).1 (hr t (.head _)).2 h1 hb (fun x hx => hlt x (List.mem_append.2 (.inl hx))),
      trodAll_below hl hb (fun t ht => hr t (.tail _ ht)) h2 (fun x hx => hlt x (List.mem_append.2 (.inr hx))), rfl⟩
  | [], [], _ :: _, _, _, h, _ => h.elim
  | [], _ :: _, _, _, _, h, _ => h.elim
  | _ :: _, [], _, _, _, h, _ => h.elim
  | _ :: _, _ :: _, [], _, _, h, _ => h.elim

/-- A law's end: it has returned true, and nothing below the old heap has turned. -/
theorem law_post (hl : laidOutB P = true) {f : Func} {s : ChangeSpec} {apart : Bool} {W W' : World} {args : Array Value} {ds gs : List (DataW H)} {before : List MemPlace} {tb : TypeId}
    (hbool : P.underlying tb = some .bool) (hrt : f.resultTypes = #[tb]) (hv : s.vars = []) (hr : ∀ t ∈ f.params.toList, P.readableRec t = true ∧ t < P.types.size)
    (hfn : (s.fn H ds).results = [.lit (.bool true)] ∧ (s.fn H ds).args = ds ∧ (s.fn H ds).vars = [])
    (hW : DataW.Whole enc P f.params.toList s.vars apart W args.toList ds gs before) (hb : Below W.heap.size W W') :
    s.post enc P f apart true false false W args (.bool true) W' := by
  have hW' := hW
  obtain ⟨p, q, hA, hV, rfl, _, _⟩ := hW
  have hV' := hV
  rw [hv] at hV'
  obtain ⟨rfl, rfl⟩ := trodVars_none hV'
  have e0 : ds ++ [] = ds := List.append_nil _
  refine ⟨ds, [], p ++ [], [], p, [], hW', ?_, ?_, ?_, hb.frame _, fun h => by cases h⟩
  · rw [e0, hfn.1, hrt]
    exact trodAll_mk1 (shut_bool hbool _)
  · rw [e0, hfn.2.1]
    exact trodAll_below hl hb hr hA (fun x hx => hW'.lt x (by simpa using hx))
  · rw [e0, hfn.2.2, hv]
    rfl
end
end Go.Proofs.YtldeoaddogifpaaGreatDoor
/-
  The frame read back, the four bytes of a sum, the readers' way back: plain.
  No condition.
-/
namespace Go.Proofs.YtldeoaddogifpaaGreatDoor
set_option linter.unusedSimpArgs false
set_option linter.unusedVariables false
open Go

theorem sumStep_nat {s : BitVec 32} {c : Int} (hs : s.toNat < 16777216) (h0 : 0 ≤ c) (h1 : c < 256) : (sumStep s c).toNat = s.toNat * 256 + c.toNat := by
  have e := Nat.two_pow_add_eq_or_of_lt (i := 8) (b := c.toNat) (by omega) s.toNat
  unfold sumStep
  rw [BitVec.toNat_or, BitVec.toNat_shiftLeft, Nat.shiftLeft_eq, BitVec.toNat_ofInt]
  have e1 : s.toNat * 2 ^ 8 % 2 ^ 32 = 2 ^ 8 * s.toNat := by omega
  have e2 : (c % ((2 ^ 32 : Nat) : Int)).toNat = c.toNat := by omega
  rw [e1, e2, ← e]
  omega
theorem sumOf_bytes (x : BitVec 32) : sumOf (sumBytes x) = x := by
  have hx := x.isLt
  apply BitVec.eq_of_toNat_eq
  simp only [sumOf, sumBytes, List.foldl_cons, List.foldl_nil]
  have e0 : (0#32).toNat = 0 := rfl
  have a1 : (sumStep 0#32 (u32 x / 16777216 % 256)).toNat = x.toNat / 16777216 := by
    rw [sumStep_nat (by rw [e0]; decide) (by omega) (by omega), e0]
    unfold u32
    omega
  have a2 : (sumStep (sumStep 0#32 (u32 x / 16777216 % 256)) (u32 x / 65536 % 256)).toNat = x.toNat / 65536 := by
    rw [sumStep_nat (by rw [a1]; omega) (by omega) (by omega), a1]
    unfold u32
    omega
  have a3 : (sumStep (sumStep (sumStep 0#32 (u32 x / 16777216 % 256)) (u32 x / 65536 % 256)) (u32 x / 256 % 256)).toNat = x.toNat / 256 := by
    rw [sumStep_nat (by rw [a2]; omega) (by omega) (by omega), a2]
    unfold u32
    omega
  rw [sumStep_nat (by rw [a3]; omega) (by omega) (by omega), a3]
  unfold u32
  omega
theorem sumBytes_len (x : BitVec 32) : (sumBytes x).length = 4 := rfl
theorem frameB_len (kind : Int) (body : List Int) : (frameB kind body).length = 1 + (uvar body.length).length + body.length + 4 := by
  unfold frameB headB
  rw [List.length_append, sumBytes_len, List.length_cons, List.length_append]
  omega
theorem headB_len (kind : Int) (body : List Int) : (headB kind body).length = 1 + (uvar body.length).length + body.length := by
  unfold headB
  rw [List.length_cons, List.length_append]
  omega
theorem frameB_tail (kind : Int) (body : List Int) : (frameB kind body).tail = uvar body.length ++ (body ++ sumBytes (crc (headB kind body))) := by
  unfold frameB
  conv => lhs; unfold headB
  rw [List.cons_append, List.tail_cons, List.append_assoc]
  rfl
theorem frameB_dec (kind : Int) {body : List Int} (h : body.length ≤ 1048576) : decU (frameB kind body).tail = ((body.length : Int), (uvar body.length).length, 0) := by
  rw [frameB_tail, decU_uvar _ (by omega) (by omega)]
theorem unfr_frame (kind : Int) {body : List Int} (h : body.length ≤ 1048576) : unfr (frameB kind body) = (kind, body, (frameB kind body).length, 0) := by
  have hd := frameB_dec kind h
  have hl := frameB_len kind body
  have hh := headB_len kind body
  have hne : frameB kind body ≠ [] := fun e => by rw [e] at hl; simp at hl
  have t1 : (frameB kind body).take (1 + (uvar body.length).length + body.length) = headB kind body := by
    rw [← hh]; unfold frameB; exact List.take_left
  have t2 : (frameB kind body).drop (1 + (uvar body.length).length + body.length) = sumBytes (crc (headB kind body)) := by
    rw [← hh]; unfold frameB; exact List.drop_left
  have t3 : ((frameB kind body).drop (1 + (uvar body.length).length)).take body.length = body := by
    have e : frameB kind body = (kind :: uvar body.length) ++ (body ++ sumBytes (crc (headB kind body))) := by
      unfold frameB
      conv => lhs; unfold headB
      simp
      rfl
    have e2 : (kind :: uvar body.length).length = 1 + (uvar body.length).length := by simp; omega
    rw [e, ← e2, List.drop_left, List.take_left]
  unfold unfr
  rw [if_neg hne, hd]
  simp only [Int.toNat_natCast]
  rw [if_neg (by simp), if_neg (by omega), if_neg (by omega), t1, t2, t3, List.take_of_length_le (Nat.le_of_eq (sumBytes_len _)), sumOf_bytes, if_neg (by simp)]
  rw [hl]
  rfl
theorem rdU_back {n : Int} (r : List Int) (b : Bool) (h0 : 0 ≤ n) (h1 : n ≤ 4611686018427387904) : rdU (uvar n ++ r) b = (n, r, b) := by
  unfold rdU
  rw [decU_uvar r h0 h1, if_pos rfl, List.drop_left]
theorem rdI_back {n : Int} (r : List Int) (b : Bool) (h0 : -2305843009213693952 ≤ n) (h1 : n ≤ 2305843009213693952) : rdI (uvar (zig n) ++ r) b = (n, r, b) := by
  unfold rdI
  rw [decI_zig r h0 h1, if_pos rfl, List.drop_left]
theorem rdT_back {s : ByteArray} (r : List Int) (b : Bool) (h : s.size ≤ 20000) : rdT (textB s ++ r) b = (s, r, b) := by
  unfold rdT
  rw [decT_text r h, if_pos rfl, List.drop_left]
theorem rdN_back {n : Nat} {m : Int} (r : List Int) (b : Bool) (h0 : n ≤ r.length) (h1 : (n : Int) ≤ m) (h2 : n ≤ 1000000) : rdN m (uvar n ++ r) b = ((n : Int), r, b) := by
  have h : rdC (uvar n ++ r) b = ((n : Int), r, b) := by
    unfold rdC
    rw [rdU_back r b (by omega) (by omega), if_neg (by simp only; omega)]
  unfold rdN
  rw [h, if_neg (by simp only; omega)]
theorem flatMap_ge {α : Type} {f : α → List Int} (h : ∀ x, f x ≠ []) : ∀ (l : List α), l.length ≤ (l.flatMap f).length
  | [] => by simp
  | a :: l => by
    have h1 := flatMap_ge h l
    have h2 := List.length_pos_iff.2 (h a)
    rw [List.flatMap_cons, List.length_append, List.length_cons]
    omega
theorem frameB_bytes {kind : Int} {body : List Int} (hk : isByte kind) (hb : bytesL body) : bytesL (frameB kind body) := by
  intro x hx
  unfold frameB headB sumBytes at hx
  simp only [List.mem_append, List.mem_cons, List.not_mem_nil, or_false] at hx
  have hb2 : ∀ y : Int, isByte (y % 256) := fun y => ⟨by omega, by omega⟩
  rcases hx with (rfl | hx | hx) | rfl | rfl | rfl | rfl
  · exact hk
  · exact uvar_bytes (by omega) x hx
  · exact hb x hx
  all_goals exact hb2 _
theorem bytesL_append {a b : List Int} (ha : bytesL a) (hb : bytesL b) : bytesL (a ++ b) := fun x hx => by
  rcases List.mem_append.1 hx with h | h
  · exact ha x h
  · exact hb x h
theorem bytesL_flatMap {α : Type} {f : α → List Int} {l : List α} (h : ∀ x ∈ l, bytesL (f x)) : bytesL (l.flatMap f) := fun x hx => by
  obtain ⟨y, hy, hxy⟩ := List.mem_flatMap.1 hx
  exact h y hy x hxy
theorem textB_bytes (s : ByteArray) : bytesL (textB s) := bytesL_append (uvar_bytes (by omega)) (bytesOf_bytes s)
theorem zig_pos (n : Int) : 0 ≤ zig n := by unfold zig; split <;> omega
theorem sumOf4 {a b c d : Int} (ha : isByte a) (hb : isByte b) (hc : isByte c) (hd : isByte d) : ((sumOf [a, b, c, d]).toNat : Int) = ((a * 256 + b) * 256 + c) * 256 + d := by
  unfold isByte at *
  simp only [sumOf, List.foldl_cons, List.foldl_nil]
  have e0 : (0#32).toNat = 0 := rfl
  have a1 : (sumStep 0#32 a).toNat = a.toNat := by rw [sumStep_nat (by rw [e0]; decide) ha.1 ha.2, e0]; omega
  have a2 : (sumStep (sumStep 0#32 a) b).toNat = a.toNat * 256 + b.toNat := by rw [sumStep_nat (by rw [a1]; omega) hb.1 hb.2, a1]
  have a3 : (sumStep (sumStep (sumStep 0#32 a) b) c).toNat = (a.toNat * 256 + b.toNat) * 256 + c.toNat := by rw [sumStep_nat (by rw [a2]; omega) hc.1 hc.2, a2]
  rw [sumStep_nat (by rw [a3]; omega) hd.1 hd.2, a3]
  omega
end Go.Proofs.YtldeoaddogifpaaGreatDoor
/-
  The reading of a timetable's encoding gives the timetable back.
  No condition.
-/
namespace Go.Proofs.YtldeoaddogifpaaGreatDoor
set_option linter.unusedSimpArgs false
set_option linter.unusedVariables false
open Go

theorem shiftB_pos (s : GShift) : shiftB s ≠ [] := fun e => by
  unfold shiftB at e
  exact uvar_pos _ (List.append_eq_nil_iff.1 e).1
theorem zoneB_pos (z : GZone) : zoneB z ≠ [] := fun e => by
  unfold zoneB at e
  simp only [List.append_eq_nil_iff] at e
  exact textB_pos _ e.1.1.1
theorem airportB_pos (a : GAirport) : airportB a ≠ [] := fun e => by
  unfold airportB at e
  exact textB_pos _ (List.append_eq_nil_iff.1 e).1
theorem flightB_pos (f : GFlight) : flightB f ≠ [] := fun e => by
  unfold flightB at e
  simp only [List.append_eq_nil_iff] at e
  exact textB_pos _ e.1.1.1.1.1.1.1.1
theorem rdShift_back (s : GShift) (r : List Int) (h : s.fine) : rdShift (shiftB s ++ r) false = (s, r, false) := by
  obtain ⟨h1, h2⟩ := h
  unfold rdShift shiftB
  rw [List.append_assoc, rdU_back _ _ (by omega) (by omega)]
  simp only
  rw [rdI_back _ _ (by omega) (by omega)]
theorem rdZone_back (z : GZone) (r : List Int) (h : z.fine) : rdZone (zoneB z ++ r) false = (z, r, false) := by
  obtain ⟨h1, h2, h3, h4⟩ := h
  have hg := flatMap_ge shiftB_pos z.shifts
  unfold rdZone zoneB
  simp only [List.append_assoc]
  rw [rdT_back _ _ (by omega)]
  simp only
  rw [rdI_back _ _ (by omega) (by omega)]
  simp only
  rw [rdN_back _ _ (by rw [List.length_append]; omega) (by omega) (by omega)]
  simp only [Int.toNat_natCast]
  rw [rdMany_back' (p := GShift.fine) (fun x r h => rdShift_back x r h) z.shifts r h4]
theorem rdAirport_back (a : GAirport) (r : List Int) (h : a.fine) : rdAirport (airportB a ++ r) false = (a, r, false) := by
  obtain ⟨h1, h2⟩ := h
  unfold rdAirport airportB
  rw [List.append_assoc, rdT_back _ _ (by omega)]
  simp only
  rw [rdT_back _ _ (by omega)]
theorem rdFlight_back (f : GFlight) (r : List Int) (h : f.fine) : rdFlight (flightB f ++ r) false = (f, r, false) := by
  obtain ⟨h1, h2, h3, h4, h5, h6, h7, h8, h9⟩ := h
  unfold rdFlight flightB
  simp only [List.append_assoc]
  rw [rdT_back _ _ (by omega)]
  simp only
  rw [rdT_back _ _ (by omega)]
  simp only
  rw [rdT_back _ _ (by omega)]
  simp only
  rw [rdU_back _ _ (by omega) (by omega)]
  simp only
  rw [rdU_back _ _ (by omega) (by omega)]
  simp only
  rw [rdT_back _ _ (by omega)]
  simp only
  rw [rdU_back _ _ (by omega) (by omega)]
  simp only
  rw [rdU_back _ _ (by omega) (by omega)]
  simp only
  rw [rdU_back _ _ (by omega) (by omega)]
theorem rdTT_back (t : GTT) (h : t.fine) : rdTT (bodyB t) = (t, [], false) := by
  obtain ⟨l1, l2, l3, hz, ha, hf⟩ := h
  have g1 := flatMap_ge zoneB_pos t.zones
  have g2 := flatMap_ge airportB_pos t.airports
  have g3 := flatMap_ge flightB_pos t.flights
  unfold rdTT bodyB
  simp only [List.append_assoc]
  rw [rdN_back _ _ (by rw [List.length_append]; omega) (by omega) (by omega)]
  simp only [Int.toNat_natCast]
  rw [rdMany_back' (p := GZone.fine) (fun x r h => rdZone_back x r h) t.zones _ hz]
  simp only
  rw [rdN_back _ _ (by rw [List.length_append]; omega) (by omega) (by omega)]
  simp only [Int.toNat_natCast]
  rw [rdMany_back' (p := GAirport.fine) (fun x r h => rdAirport_back x r h) t.airports _ ha]
  simp only
  rw [rdN_back _ _ (by omega) (by omega) (by omega)]
  simp only [Int.toNat_natCast]
  have := rdMany_back' (p := GFlight.fine) (fun x r h => rdFlight_back x r h) t.flights [] hf
  rw [List.append_nil] at this
  rw [this]
theorem decTT_back (t : GTT) (h : t.valid) : decTT (frameB 1 (bodyB t)) = (t, 0) := by
  have hl := bodyB_len h.fine
  unfold decTT
  rw [unfr_frame 1 (by omega)]
  simp only
  rw [if_neg (by simp), if_neg (by simp), rdTT_back t h.fine]
  simp only
  rw [if_neg (by decide), if_neg (by simp [ttE_zero.2 h])]
/-- All that is encoded is bytes. -/
theorem bodyB_bytes {t : GTT} (h : t.fine) : bytesL (bodyB t) := by
  unfold bodyB
  refine bytesL_append (bytesL_append (bytesL_append (bytesL_append (bytesL_append (uvar_bytes (by omega)) (bytesL_flatMap fun z hz => ?_)) (uvar_bytes (by omega))) (bytesL_flatMap fun a ha => ?_)) (uvar_bytes (by omega))) (bytesL_flatMap fun f hf => ?_)
  · unfold zoneB
    exact bytesL_append (bytesL_append (bytesL_append (textB_bytes _) (uvar_bytes (zig_pos _))) (uvar_bytes (by omega))) (bytesL_flatMap fun s hs => bytesL_append (uvar_bytes (((h.z z hz).2.2.2 s hs).1.1)) (uvar_bytes (zig_pos _)))
  · exact bytesL_append (textB_bytes _) (textB_bytes _)
  · obtain ⟨_, _, _, _, h5, h6, h7, h8, h9⟩ := h.f f hf
    unfold flightB
    exact bytesL_append (bytesL_append (bytesL_append (bytesL_append (bytesL_append (bytesL_append (bytesL_append (bytesL_append (textB_bytes _) (textB_bytes _)) (textB_bytes _)) (uvar_bytes h5.1)) (uvar_bytes h6.1)) (textB_bytes _)) (uvar_bytes h7.1)) (uvar_bytes h8.1)) (uvar_bytes h9.1)
end Go.Proofs.YtldeoaddogifpaaGreatDoor
/-
  The walk of pairinglaw9.Same (at equal timetables).
  Condition: the timetable is small enough to be encoded.
-/
namespace Go.Proofs.YtldeoaddogifpaaGreatDoor
set_option linter.unusedSimpArgs false
set_option linter.unusedVariables false
open Go.RowKit

def TruePost (w : World) (e : Ending) (w' : World) : Prop := e = .returned (.bool true) ∧ Below w.heap.size w w'
theorem row_string {w V : World} {base : Nat} {v : Value} {bs : List Int} (h : Own (Ty.int .u8) 5 w base v bs) (hne : bs ≠ []) (hb : Below w.heap.size w V) : (convert 37 9 v).run Tryz.prog V = .ok (.string (strOf bs)) V := by
  obtain ⟨g, cq, rfl, _⟩ := h.int_sl hne
  obtain ⟨A', c', e, hs⟩ := h.sl
  simp only [Value.slice.injEq] at e
  obtain ⟨rfl, -, rfl⟩ := e
  exact run_string_of (P := Tryz.prog) (src := 37) (dst := 9) Tryz.underlying37 Tryz.underlying5 Tryz.underlying9 ((hs.more fun b hb => hb.2).keep (w' := V) fun b hb' => hb.block b hb') (by simp)
set_option maxRecDepth 100000 in
set_option maxHeartbeats 800000 in
theorem same_any (t : GTT) (A1 A2 A3 B1 B2 B3 : Option Addr) (n1 n2 n3 c1 c2 c3 m1 m2 m3 d1 d2 d3 : Nat) (w : World) (hf : t.fine) (hs1 : Sl Ty.zone w (all_ w) A1 n1 c1 t.zones) (hs2 : Sl Ty.airport w (all_ w) A2 n2 c2 t.airports) (hs3 : Sl Ty.flight w (all_ w) A3 n3 c3 t.flights)
    (ks1 : Sl Ty.zone w (all_ w) B1 m1 d1 t.zones) (ks2 : Sl Ty.airport w (all_ w) B2 m2 d2 t.airports) (ks3 : Sl Ty.flight w (all_ w) B3 m3 d3 t.flights) :
    Calls Tryz.prog 9 #[.agg #[.slice A1 n1 c1, .slice A2 n2 c2, .slice A3 n3 c3], .agg #[.slice B1 m1 d1, .slice B2 m2 d2, .slice B3 m3 d3]] w (TruePost w) := by
  have HB0 : Hid (∀ o1 o2, Below w.heap.size w ((w.alloc o1).alloc o2)) := fun o1 o2 => ((Below.refl _ _).alloc (Nat.le_refl _) _).alloc (by simp) _
  have HH0 : Hid (∀ o1 o2, ((w.alloc o1).alloc o2).heap[w.heap.size]? = some o1) := fun o1 o2 => heap_alloc2_old _ _ _
  have HH1 : Hid (∀ o1 o2, ((w.alloc o1).alloc o2).heap[w.heap.size + 1]? = some o2) := fun o1 o2 => heap_alloc2_new _ _ _
  have HHZ : Hid (∀ o1 o2, ((w.alloc o1).alloc o2).heap.size = w.heap.size + 2) := fun o1 o2 => by simp
  have HS : Hid (∀ V, Below w.heap.size w V → (Sl Ty.zone V (all_ V) A1 n1 c1 t.zones ∧ Sl Ty.airport V (all_ V) A2 n2 c2 t.airports ∧ Sl Ty.flight V (all_ V) A3 n3 c3 t.flights) ∧ (Sl Ty.zone V (all_ V) B1 m1 d1 t.zones ∧ Sl Ty.airport V (all_ V) B2 m2 d2 t.airports ∧ Sl Ty.flight V (all_ V) B3 m3 d3 t.flights)) := fun V hV => ⟨⟨hs1.next hV, hs2.next hV, hs3.next hV⟩, ks1.next hV, ks2.next hV, ks3.next hV⟩
  have HF := Lib.hid hf
  have HBP := Lib.hid (bodyB_pos t)
  clear hs1 hs2 hs3 ks1 ks2 ks3 hf
  go_enter Tryz.func9, Tryz.ntmps9
  go_wp2_with fail
  have hb0 := HB0.out (.cells #[.slice A1 n1 c1, .slice A2 n2 c2, .slice A3 n3 c3] 27) (.cells #[.slice B1 m1 d1, .slice B2 m2 d2, .slice B3 m3 d3] 27)
  have h0 := HH0.out (.cells #[.slice A1 n1 c1, .slice A2 n2 c2, .slice A3 n3 c3] 27) (.cells #[.slice B1 m1 d1, .slice B2 m2 d2, .slice B3 m3 d3] 27)
  have h1 := HH1.out (.cells #[.slice A1 n1 c1, .slice A2 n2 c2, .slice A3 n3 c3] 27) (.cells #[.slice B1 m1 d1, .slice B2 m2 d2, .slice B3 m3 d3] 27)
  have hz := HHZ.out (.cells #[.slice A1 n1 c1, .slice A2 n2 c2, .slice A3 n3 c3] 27) (.cells #[.slice B1 m1 d1, .slice B2 m2 d2, .slice B3 m3 d3] 27)
  generalize (w.alloc (.cells #[.slice A1 n1 c1, .slice A2 n2 c2, .slice A3 n3 c3] 27)).alloc (.cells #[.slice B1 m1 d1, .slice B2 m2 d2, .slice B3 m3 d3] 27) = W at *
  have x0 : W.cell? ⟨w.heap.size, 0, none⟩ = some (.slice A1 n1 c1) := block_cell h0 0
  have x1 : W.cell? ⟨w.heap.size, 1, none⟩ = some (.slice A2 n2 c2) := block_cell h0 1
  have x2 : W.cell? ⟨w.heap.size, 2, none⟩ = some (.slice A3 n3 c3) := block_cell h0 2
  have y0 : W.cell? ⟨w.heap.size + 1, 0, none⟩ = some (.slice B1 m1 d1) := block_cell h1 0
  have y1 : W.cell? ⟨w.heap.size + 1, 1, none⟩ = some (.slice B2 m2 d2) := block_cell h1 1
  have y2 : W.cell? ⟨w.heap.size + 1, 2, none⟩ = some (.slice B3 m3 d3) := block_cell h1 2
  have HB := Lib.hid (below_drewN hb0 1); have H1 := Lib.hid h1; have HZ := Lib.hid hz
  have heq : ((strOf (bodyB t)).toList == (strOf (bodyB t)).toList) = true := by simp
  clear HB0 HH0 HH1 HHZ hb0 h0 h1 hz
  have tok1 : True := trivial
  go_region_law (first
    | (go_simp; go_at_call 27; have _t1 := tok1; refine (refBody_any t A1 A2 A3 n1 n2 n3 c1 c2 c3 _ HF.out (HS.out _ HB.out).1.1 (HS.out _ HB.out).1.2.1 (HS.out _ HB.out).1.2.2).mono ?_; rintro e wa ⟨va, rfl, hoa, hba⟩; have hwa : Below w.heap.size w wa := HB.out.trans (hba.mono HB.out.size); have ha1 : wa.heap[w.heap.size + 1]? = _ := (hba.block _ (by have := HZ.out; simp; omega)).trans H1.out; have y0' : wa.cell? ⟨w.heap.size + 1, 0, none⟩ = some (.slice B1 m1 d1) := block_cell ha1 0; have y1' : wa.cell? ⟨w.heap.size + 1, 1, none⟩ = some (.slice B2 m2 d2) := block_cell ha1 1; have y2' : wa.cell? ⟨w.heap.size + 1, 2, none⟩ = some (.slice B3 m3 d3) := block_cell ha1 2; have hca := row_string hoa HBP.out (Below.refl _ _); clear tok1)
    | (go_simp; go_at_call 27; refine (refBody_any t B1 B2 B3 m1 m2 m3 d1 d2 d3 _ HF.out (HS.out _ hwa).2.1 (HS.out _ hwa).2.2.1 (HS.out _ hwa).2.2.2).mono ?_; rintro e wb ⟨vb, rfl, hob, hbb⟩; have hwb : Below w.heap.size w wb := hwa.trans (hbb.mono hwa.size); have hcb := row_string hoa HBP.out hbb; have hcc := row_string hob HBP.out (Below.refl _ _))
    | fail)
  all_goals
    go_wp2_with fail
    go_ret
    exact ⟨rfl, hwb⟩
end Go.Proofs.YtldeoaddogifpaaGreatDoor
