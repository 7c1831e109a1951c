/-
  Joined texts: TFormat; Light; LawTimetableTexts; Fits; CardTimetableTexts. What each proves stands ahead of it, with its conditions.
-/
import Derived.Test.YtldeoaddogifpaaGreatDoorMTD
import Derived.Test.YtldeoaddogifpaaGreatDoorMTB
import Derived.Test.YtldeoaddogifpaaGreatDoorValidate
import Derived.Test.YtldeoaddogifpaaGreatDoorMTE
import Derived.Deep.DeepCutAuto
import Derived.Test.YtldeoaddogifpaaGreatDoorTTMem
import Derived.BigQuiet
import Derived.Deep.QuietTactic
import Derived.Test.YtldeoaddogifpaaGreatDoorMTC
import Derived.OpenShut
import Derived.Stop.LaidErr
/-
  Contract of timetable.Format.
  Condition: the data are well formed; the table of powers of ten is laid.
-/
namespace Go.Proofs.YtldeoaddogifpaaGreatDoor
set_option linter.unusedSimpArgs false
set_option linter.unusedVariables false
open Go.RowKit

theorem szZ : (⟨#[122, 111, 110, 101, 32]⟩ : ByteArray).size = 5 := rfl
theorem szA : (⟨#[97, 105, 114, 112, 111, 114, 116, 32]⟩ : ByteArray).size = 8 := rfl
theorem szF : (⟨#[102, 108, 105, 103, 104, 116, 32]⟩ : ByteArray).size = 7 := rfl
set_option maxRecDepth 100000 in
set_option maxHeartbeats 12800000 in
theorem ttFormat_ok (t : GTT) (A1 A2 A3 : Option Addr) (n1 n2 n3 c1 c2 c3 : Nat) (w : World) (ht : t.ok) (hv : ttE t = 0) (hs1 : Sl Ty.zone w (all_ w) A1 n1 c1 t.zones) (hs2 : Sl Ty.airport w (all_ w) A2 n2 c2 t.airports) (hs3 : Sl Ty.flight w (all_ w) A3 n3 c3 t.flights) (hp : Pow10 w) :
    Calls Tryz.prog 13 #[.agg #[.slice A1 n1 c1, .slice A2 n2 c2, .slice A3 n3 c3]] w (FmtPost (if 20000 < (ttS t).size then (emS, 10) else (ttS t, 0)) w) := by
  obtain ⟨R, hR⟩ : ∃ R : ByteArray × Int, (if 20000 < (ttS t).size then (emS, 10) else (ttS t, 0)) = R := ⟨_, rfl⟩
  rw [hR]
  have HR := Lib.hid hR
  clear hR
  have hgd := (ttE_zero.1 hv).good
  have e1 : n1 ≤ t.zones.length := Nat.le_of_eq hs1.len
  have e1' : t.zones.length ≤ n1 := Nat.le_of_eq hs1.len.symm
  have e2 : n2 ≤ t.airports.length := Nat.le_of_eq hs2.len
  have e2' : t.airports.length ≤ n2 := Nat.le_of_eq hs2.len.symm
  have e3 : n3 ≤ t.flights.length := Nat.le_of_eq hs3.len
  have e3' : t.flights.length ≤ n3 := Nat.le_of_eq hs3.len.symm
  have b1 := hgd.l1; have b2 := hgd.l2; have b3 := hgd.l3
  have HG := Lib.hid hgd
  have ha : ∀ o, Below w.heap.size w (w.alloc o) := fun o => (Below.refl _ _).alloc (Nat.le_refl _) _
  have HV : Hid (∀ o, Calls Tryz.prog 17 #[.agg #[.slice A1 n1 c1, .slice A2 n2 c2, .slice A3 n3 c3]] (w.alloc o) (ErrPost 0 (w.alloc o))) := fun o => hv ▸ validate_any t A1 A2 A3 n1 n2 n3 c1 c2 c3 (w.alloc o) ht (hs1.next (ha o)) (hs2.next (ha o)) (hs3.next (ha o))
  have HS := Lib.hid (And.intro hs1 (And.intro hs2 hs3))
  have HPW : Hid (∀ V, Below w.heap.size w V → Pow10 V) := fun V hV => hp.next hV
  have hB0 := ha (.cells #[.slice A1 n1 c1, .slice A2 n2 c2, .slice A3 n3 c3] 27)
  have hX0 := heap_alloc_new w (.cells #[.slice A1 n1 c1, .slice A2 n2 c2, .slice A3 n3 c3] 27)
  have hZ0 : (w.alloc (.cells #[.slice A1 n1 c1, .slice A2 n2 c2, .slice A3 n3 c3] 27)).heap.size = w.heap.size + 1 := by simp
  have HB0 := Lib.hid hB0; have HX0 := Lib.hid hX0; have HZ0 := Lib.hid hZ0
  clear hgd hs1 hs2 hs3 hv ht hp ha hB0 hX0 hZ0
  go_enter Tryz.func13, Tryz.ntmps13
  go_wp2_with fail
  refine (HV.out _).mono ?_
  clear HV
  generalize w.alloc (.cells #[.slice A1 n1 c1, .slice A2 n2 c2, .slice A3 n3 c3] 27) = W at *
  rintro e w1 ⟨rfl, hb1⟩
  have hbw : Below w.heap.size w w1 := HB0.out.trans (hb1.mono HB0.out.size)
  have hsw : w.heap.size + 1 ≤ w1.heap.size := by have := hb1.size; have := HZ0.out; omega
  have hxt := (hb1.block w.heap.size (by have := HZ0.out; omega)).trans HX0.out
  have HT1 := Lib.hid (HS.out.1.keep (all_keep hbw))
  have HT2 := Lib.hid (HS.out.2.1.keep (all_keep hbw))
  have HT3 := Lib.hid (HS.out.2.2.keep (all_keep hbw))
  have HXT : Hid (∀ V, Below w1.heap.size w1 V → V.heap[w.heap.size]? = some (.cells #[.slice A1 n1 c1, .slice A2 n2 c2, .slice A3 n3 c3] 27 (0, 0))) := fun V hV => (hV.block _ (by omega)).trans hxt
  have HBW := Lib.hid hbw
  have hsw' := hsw
  replace hsw : w.heap.size ≤ w1.heap.size := by omega
  clear HS HB0 HX0 HZ0 hb1 hbw hxt
  have hfs0 : FS w1 (w1.alloc (.cells #[.pointer none, .slice none 0 0] 76)) (.slice none 0 0) [] :=
    ⟨⟨⟨_, .inl rfl, heap_alloc_new _ _⟩, World.ownsRow_nil _ _ _ _, by simp [Value.ownBlock]⟩, (Below.refl _ _).alloc (Nat.le_refl _) _⟩
  have HFS0 := Lib.hid hfs0
  clear hfs0
  go_upto_region 5 with (fail)
  generalize w1.alloc (.cells #[.pointer none, .slice none 0 0] 76) = wb at *
  have q0 : wb.cell? ⟨w.heap.size, 0, none⟩ = some (.slice A1 n1 c1) := block_cell (HXT.out wb HFS0.out.2) 0
  go_wp2_with fail
  clear q0
  go_loopw [24] (fun i wr => ∃ (k : Nat) (v : Value), k ≤ n1 ∧ i = .int .i64 k ∧ Hid (FS w1 wr v (zL t k))) (fun i _ => n1 - (intOf i).toNat)
  case atStart => exact ⟨0, _, Nat.zero_le _, rfl, HFS0⟩
  case round =>
  clear HFS0
  obtain ⟨k, v, hk, rfl, HFS⟩ := hrel
  have hlen := zL_up HG.out k
  by_cases hlt : k < n1
  · have hks : k < t.zones.length := by omega
    obtain ⟨b, o, B1, k1, d1, rfl, hbS, y0, y1, y2, hsS⟩ := (HT1.out.keep (w' := wr) fun b hb => HFS.out.2.block b (by unfold all_ at hb; omega)).zone_at hks
    have hzg := HG.out.z _ (get_mem hks noZone)
    have HSN := Lib.hid (zL_succ hks)
    have hbS' : b < w.heap.size := hbS
    generalize t.zones.getD k noZone = z at *
    have m1 : k1 ≤ z.shifts.length := Nat.le_of_eq hsS.len
    have m1' : z.shifts.length ≤ k1 := Nat.le_of_eq hsS.len.symm
    have m2 := hzg.len
    have HQ : Hid (∀ wq, Below w1.heap.size w1 wq → Sl Ty.shift wq (all_ w) B1 k1 d1 z.shifts) := fun wq hb => hsS.keep fun b hb' => by
      unfold all_ at hb'
      rw [hb.block b (by omega), HFS.out.2.block b (by omega)]
    generalize zL t k = pre at *
    have hgb : w1.heap.size < wr.heap.size := HFS.out.1.lt
    have HBR : Hid (Below w.heap.size w (wr.alloc (.cells #[.string z.name, .int .i64 z.off, .slice B1 k1 d1] 51))) := HBW.out.trans ((HFS.out.next ((Below.refl _ _).alloc (Nat.le_refl _) _)).2.mono hsw)
    have HDU : Hid (∀ V, Below w.heap.size w V → Calls Tryz.prog 36 #[.int .i64 z.off] V (StrB (durF z.off) V)) := fun V hV => durTxt_any z.off V (by have := hzg.off; omega) (HPW.out V hV)
    have hd := dur_le hzg.off
    have hnm := name_le hzg.name
    have hhu := zhd_up hzg
    have HZH : Hid (((⟨#[122, 111, 110, 101, 32]⟩ : ByteArray) ++ z.name ++ (⟨#[32]⟩ : ByteArray) ++ durF z.off).data.toList = lineT [zoneS, z.name, durF z.off]) := zhd_eq _ _
    have HZG := Lib.hid hzg
    obtain ⟨dS, hdS⟩ : ∃ x, x = durF z.off := ⟨_, rfl⟩
    rw [← hdS] at hd HDU HZH HSN hhu
    clear hdS
    have hwa : Below wr.heap.size wr (wr.alloc (.cells #[.string z.name, .int .i64 z.off, .slice B1 k1 d1] 51)) := (Below.refl _ _).alloc (Nat.le_refl _) _
    have hxa := heap_alloc_new wr (.cells #[.string z.name, .int .i64 z.off, .slice B1 k1 d1] 51)
    have hxlt : wr.heap.size < (wr.alloc (.cells #[.string z.name, .int .i64 z.off, .slice B1 k1 d1] 51)).heap.size := by simp
    have HFA := Lib.hid (HFS.out.next hwa)
    have HXA := Lib.hid hxa
    clear hwa hxa HFS
    clear hbS hsS hzg
    go_upto_region 8 with (fail)
    clear y0 y1 y2
    generalize wr.alloc (.cells #[.string z.name, .int .i64 z.off, .slice B1 k1 d1] 51) = wa at *
    generalize hbx : wr.heap.size = bx at *
    have z0 : wa.cell? ⟨bx, 0, none⟩ = some (.string z.name) := block_cell HXA.out 0
    have z1 : wa.cell? ⟨bx, 1, none⟩ = some (.int .i64 z.off) := block_cell HXA.out 1
    obtain ⟨Xr2, hXr2⟩ : ∃ X, (⟨#[122, 111, 110, 101, 32]⟩ : ByteArray) ++ z.name = X := ⟨_, rfl⟩
    have uXr2 : Xr2.size ≤ 5 + z.name.size := by rw [← hXr2, ByteArray.size_append]; exact Nat.le_refl _
    have HXr2 := Lib.hid hXr2
    have vXr2 : ¬ 9223372036854775807 < 5 + z.name.size := by omega
    obtain ⟨Xr3, hXr3⟩ : ∃ X, Xr2 ++ (⟨#[32]⟩ : ByteArray) = X := ⟨_, rfl⟩
    have uXr3 : Xr3.size ≤ Xr2.size + 1 := by rw [← hXr3, ByteArray.size_append]; exact Nat.le_refl _
    have HXr3 := Lib.hid hXr3
    have vXr3 : ¬ 9223372036854775807 < Xr2.size + 1 := by omega
    obtain ⟨Xr7, hXr7⟩ : ∃ X, Xr3 ++ dS = X := ⟨_, rfl⟩
    have uXr7 : Xr7.size ≤ Xr3.size + dS.size := by rw [← hXr7, ByteArray.size_append]; exact Nat.le_refl _
    have HXr7 := Lib.hid hXr7
    have vXr7 : ¬ 9223372036854775807 < Xr3.size + dS.size := by omega
    clear hXr2 hXr3 hXr7
    have HALL : Hid ((⟨#[122, 111, 110, 101, 32]⟩ : ByteArray) ++ z.name ++ (⟨#[32]⟩ : ByteArray) ++ dS = Xr7) := by show _ = _; rw [HXr2.out, HXr3.out, HXr7.out]
    refine wp_region_factsB 8 [28, 29, 30, 31, 32, 33, 34, 35] (fun i v x => (([(fun v _ => v = .pointer (some ⟨bx, 0, none⟩)), (fun v _ => v = .string z.name), (fun v _ => v = .string Xr2), (fun v _ => v = .string Xr3), (fun v _ => v = .pointer (some ⟨bx, 1, none⟩)), (fun v _ => v = .int .i64 z.off), (fun v _ => v = .string dS), (fun v _ => v = .string Xr7)] : List (Value → World → Prop)).getD i (fun _ _ => True)) v x) (by kernel_rfl) (by kernel_rfl) (by kernel_rfl) (by kernel_rfl) (by kernel_rfl) ?_ ?_ ?_
    · intro i v x x' h hx
      rcases Nat.lt_or_ge i 8 with hi | hi
      · have hi' : i = 0 ∨ i = 1 ∨ i = 2 ∨ i = 3 ∨ i = 4 ∨ i = 5 ∨ i = 6 ∨ i = 7 := by omega
        rcases hi' with rfl | rfl | rfl | rfl | rfl | rfl | rfl | rfl
        · exact h
        · exact h
        · exact h
        · exact h
        · exact h
        · exact h
        · exact h
        · exact h
      · rw [List.getD_eq_getElem?_getD, List.getElem?_eq_none (by simpa using hi)]; trivial
    · intro q o' hq ho a' w' hb' hout hpre K hK
      have hq' : q = 0 ∨ q = 1 ∨ q = 2 ∨ q = 3 ∨ q = 4 ∨ q = 5 ∨ q = 6 ∨ q = 7 := by omega
      rcases hq' with rfl | rfl | rfl | rfl | rfl | rfl | rfl | rfl
      · obtain rfl := Option.some.inj ho
        have e7 : a'.tmps[7]? = some (.pointer (some ⟨bx, 0, none⟩)) := hout 7 (by decide)
        go_simp
        exact hK (.pointer (some ⟨bx, 0, none⟩)) w' rfl (Below.refl _ _)
      · obtain rfl := Option.some.inj ho
        have p0 : a'.tmps.getD 28 undef = .pointer (some ⟨bx, 0, none⟩) := hpre ⟨0, .data⟩ (by simp) 28 rfl
        simp only [Array.getD_eq_getD_getElem?] at p0
        have c1 := cell_kept z0 hb'
        go_simp
        exact hK (.string z.name) w' rfl (Below.refl _ _)
      · obtain rfl := Option.some.inj ho
        have p1 : a'.tmps.getD 29 undef = .string z.name := hpre ⟨1, .data⟩ (by simp) 29 rfl
        simp only [Array.getD_eq_getD_getElem?] at p1
        go_simp
        exact hK _ _ (congrArg Value.string HXr2.out) (Below.refl _ _)
      · obtain rfl := Option.some.inj ho
        have p2 : a'.tmps.getD 30 undef = .string Xr2 := hpre ⟨2, .data⟩ (by simp) 30 rfl
        simp only [Array.getD_eq_getD_getElem?] at p2
        go_simp
        exact hK _ _ (congrArg Value.string HXr3.out) (Below.refl _ _)
      · obtain rfl := Option.some.inj ho
        have e7 : a'.tmps[7]? = some (.pointer (some ⟨bx, 0, none⟩)) := hout 7 (by decide)
        go_simp
        exact hK (.pointer (some ⟨bx, 1, none⟩)) w' rfl (Below.refl _ _)
      · obtain rfl := Option.some.inj ho
        have p4 : a'.tmps.getD 32 undef = .pointer (some ⟨bx, 1, none⟩) := hpre ⟨4, .data⟩ (by simp) 32 rfl
        simp only [Array.getD_eq_getD_getElem?] at p4
        have c5 := cell_kept z1 hb'
        go_simp
        exact hK (.int .i64 z.off) w' rfl (Below.refl _ _)
      · obtain rfl := Option.some.inj ho
        have p5 : a'.tmps.getD 33 undef = .int .i64 z.off := hpre ⟨5, .data⟩ (by simp) 33 rfl
        simp only [Array.getD_eq_getD_getElem?] at p5
        go_simp
        go_at_call 36
        refine (HDU.out w' (HBR.out.trans (hb'.mono HBR.out.size))).mono ?_
        rintro e w'' ⟨rfl, hb''⟩
        exact hK _ _ rfl hb''
      · obtain rfl := Option.some.inj ho
        have p3 : a'.tmps.getD 31 undef = .string Xr3 := hpre ⟨3, .data⟩ (by simp) 31 rfl
        simp only [Array.getD_eq_getD_getElem?] at p3
        have p6 : a'.tmps.getD 34 undef = .string dS := hpre ⟨6, .data⟩ (by simp) 34 rfl
        simp only [Array.getD_eq_getD_getElem?] at p6
        go_simp
        exact hK _ _ (congrArg Value.string HXr7.out) (Below.refl _ _)
    · intro us w' hb' hfacts
      have h7 : us 7 = .string Xr7 := hfacts 7 (by decide)
      simp only [putL, Act.put, List.setIfInBounds_toArray, List.set_cons_zero, List.set_cons_succ]
      generalize us 7 = x7 at *
      subst h7
      simp only [List.drop_succ_cons, List.drop_zero]
      clear hfacts
      have HF7 := Lib.hid (HFA.out.next hb')
      have HX7 : Hid (w'.heap[bx]? = some (.cells #[.string z.name, .int .i64 z.off, .slice B1 k1 d1] 51 (0, 0))) := (hb'.block bx hxlt).trans HXA.out
      have HW := Lib.hid (HF7.out.write Xr7 (by omega))
      have HE : Hid (Xr7.data.toList = lineT [zoneS, z.name, dS]) := by
        show _ = _
        rw [← HALL.out, HZH.out]
      clear hb' HALL HZH HDU HFA HXA HBR z0 z1 uXr2 vXr2 HXr2 uXr3 vXr3 HXr3 vXr7 HXr7
      generalize Xr7 = s7 at *
      go_wp2_with fail
      refine HW.out.mono ?_
      rintro e w8 ⟨rfl, ⟨v8, hf8⟩, hbo8⟩
      have hx8 := hbo8 bx _ _ _ (by decide) (by omega) HX7.out
      have z2 : w8.cell? ⟨bx, 2, none⟩ = some (.slice B1 k1 d1) := block_cell hx8 2
      rw [HE.out] at hf8
      have hl7 : (pre ++ lineT [zoneS, z.name, dS]).length ≤ 15100 := by rw [List.length_append]; omega
      have HSN3 : Hid (zL t (k + 1) = pre ++ lineT [zoneS, z.name, dS] ++ restT (z.shifts.flatMap sF) ++ [10]) := HSN
      generalize pre ++ lineT [zoneS, z.name, dS] = pre7 at *
      have HF8 := Lib.hid hf8
      clear hf8 hbo8 hx8 HW HE HF7 HX7 HSN hhu
      have HSN := HSN3
      clear HSN3
      go_wp2_with fail
      clear z2
      go_loopw [40] (fun i wq => ∃ (j : Nat) (v : Value), j ≤ k1 ∧ i = .int .i64 j ∧ Hid (FS w1 wq v (pre7 ++ restT ((z.shifts.take j).flatMap sF)))) (fun i _ => k1 - (intOf i).toNat)
      case atStart => exact ⟨0, v8, Nat.zero_le _, rfl, Lib.hid (by simpa [restT] using HF8.out)⟩
      case round =>
        clear HF8
        obtain ⟨j, v, hj, rfl, HFS⟩ := hrel
        have hlen2 : (pre7 ++ restT ((z.shifts.take j).flatMap sF)).length ≤ 16000 := by
          have := sFs_up HZG.out j
          rw [List.length_append]
          omega
        by_cases hlt2 : j < k1
        · have hjs : j < z.shifts.length := by omega
          obtain ⟨bt, ot, rfl, hbS, y0, y1⟩ := (HQ.out wr HFS.out.2).shift_at hjs
          have hsg := HZG.out.s _ (get_mem hjs noShift)
          have HSN2 : Hid (pre7 ++ restT ((z.shifts.take (j + 1)).flatMap sF) = pre7 ++ restT ((z.shifts.take j).flatMap sF) ++ restT (sF (z.shifts.getD j noShift))) := by
            show _ = _
            rw [flat_take_snoc sF hjs noShift, restT_app, List.append_assoc]
          generalize z.shifts.getD j noShift = s at *
          generalize pre7 ++ restT ((z.shifts.take j).flatMap sF) = pre8 at *
          have hgb : w1.heap.size < wr.heap.size := HFS.out.1.lt
          have HBR : Hid (Below w.heap.size w (wr.alloc (.cells #[.int .i64 s.at_, .int .i64 s.off] 64))) := HBW.out.trans ((HFS.out.next ((Below.refl _ _).alloc (Nat.le_refl _) _)).2.mono hsw)
          have HIN : Hid (∀ V, Below w.heap.size w V → Calls Tryz.prog 37 #[.int .i64 s.at_] V (StrB (insD s.at_ ++ blankS ++ insC s.at_) V)) := fun V hV => instantTxt_any s.at_ V hsg.1.1 hsg.1.2 (HPW.out V hV)
          have HDU : Hid (∀ V, Below w.heap.size w V → Calls Tryz.prog 36 #[.int .i64 s.off] V (StrB (durF s.off) V)) := fun V hV => durTxt_any s.off V (by omega) (HPW.out V hV)
          have hd := dur_le hsg.2
          have hi := ins_le hsg.1
          have HSH : Hid ((((⟨#[32]⟩ : ByteArray) ++ (insD s.at_ ++ blankS ++ insC s.at_) ++ (⟨#[32]⟩ : ByteArray) ++ durF s.off)).data.toList = restT (sF s)) := shf_eq _ _ _
          generalize insD s.at_ ++ blankS ++ insC s.at_ = iS at *
          generalize durF s.off = dS at *
          have hwa : Below wr.heap.size wr (wr.alloc (.cells #[.int .i64 s.at_, .int .i64 s.off] 64)) := (Below.refl _ _).alloc (Nat.le_refl _) _
          have hxa := heap_alloc_new wr (.cells #[.int .i64 s.at_, .int .i64 s.off] 64)
          have hxlt : wr.heap.size < (wr.alloc (.cells #[.int .i64 s.at_, .int .i64 s.off] 64)).heap.size := by simp
          have HFA := Lib.hid (HFS.out.next hwa)
          have HXA := Lib.hid hxa
          clear hwa hxa HFS
          clear hbS hsg
          go_upto_region 12 with (fail)
          clear y0 y1
          generalize wr.alloc (.cells #[.int .i64 s.at_, .int .i64 s.off] 64) = wa at *
          generalize hbx : wr.heap.size = by_ at *
          have z0 : wa.cell? ⟨by_, 0, none⟩ = some (.int .i64 s.at_) := block_cell HXA.out 0
          have z1 : wa.cell? ⟨by_, 1, none⟩ = some (.int .i64 s.off) := block_cell HXA.out 1
          obtain ⟨Yr3, hYr3⟩ : ∃ X, (⟨#[32]⟩ : ByteArray) ++ iS = X := ⟨_, rfl⟩
          have uYr3 : Yr3.size ≤ 1 + iS.size := by rw [← hYr3, ByteArray.size_append]; exact Nat.le_refl _
          have HYr3 := Lib.hid hYr3
          have vYr3 : ¬ 9223372036854775807 < 1 + iS.size := by omega
          obtain ⟨Yr4, hYr4⟩ : ∃ X, Yr3 ++ (⟨#[32]⟩ : ByteArray) = X := ⟨_, rfl⟩
          have uYr4 : Yr4.size ≤ Yr3.size + 1 := by rw [← hYr4, ByteArray.size_append]; exact Nat.le_refl _
          have HYr4 := Lib.hid hYr4
          have vYr4 : ¬ 9223372036854775807 < Yr3.size + 1 := by omega
          obtain ⟨Yr8, hYr8⟩ : ∃ X, Yr4 ++ dS = X := ⟨_, rfl⟩
          have uYr8 : Yr8.size ≤ Yr4.size + dS.size := by rw [← hYr8, ByteArray.size_append]; exact Nat.le_refl _
          have HYr8 := Lib.hid hYr8
          have vYr8 : ¬ 9223372036854775807 < Yr4.size + dS.size := by omega
          clear hYr3 hYr4 hYr8
          have HALL : Hid ((⟨#[32]⟩ : ByteArray) ++ iS ++ (⟨#[32]⟩ : ByteArray) ++ dS = Yr8) := by show _ = _; rw [HYr3.out, HYr4.out, HYr8.out]
          as_aux_lemma =>
            refine wp_region_factsB 9 [44, 45, 46, 47, 48, 49, 50, 51, 52] (fun i v x => (([(fun v _ => v = .pointer (some ⟨by_, 0, none⟩)), (fun v _ => v = .int .i64 s.at_), (fun v _ => v = .string iS), (fun v _ => v = .string Yr3), (fun v _ => v = .string Yr4), (fun v _ => v = .pointer (some ⟨by_, 1, none⟩)), (fun v _ => v = .int .i64 s.off), (fun v _ => v = .string dS), (fun v _ => v = .string Yr8)] : List (Value → World → Prop)).getD i (fun _ _ => True)) v x) (by kernel_rfl) (by kernel_rfl) (by kernel_rfl) (by kernel_rfl) (by kernel_rfl) ?_ ?_ ?_
            · intro i v x x' h hx
              rcases Nat.lt_or_ge i 9 with hi | hi
              · have hi' : i = 0 ∨ i = 1 ∨ i = 2 ∨ i = 3 ∨ i = 4 ∨ i = 5 ∨ i = 6 ∨ i = 7 ∨ i = 8 := by omega
                rcases hi' with rfl | rfl | rfl | rfl | rfl | rfl | rfl | rfl | rfl
                · exact h
                · exact h
                · exact h
                · exact h
                · exact h
                · exact h
                · exact h
                · exact h
                · exact h
              · rw [List.getD_eq_getElem?_getD, List.getElem?_eq_none (by simpa using hi)]; trivial
            · intro q o' hq ho a' w' hb' hout hpre K hK
              have hq' : q = 0 ∨ q = 1 ∨ q = 2 ∨ q = 3 ∨ q = 4 ∨ q = 5 ∨ q = 6 ∨ q = 7 ∨ q = 8 := by omega
              rcases hq' with rfl | rfl | rfl | rfl | rfl | rfl | rfl | rfl | rfl
              · obtain rfl := Option.some.inj ho
                have e9 : a'.tmps[9]? = some (.pointer (some ⟨by_, 0, none⟩)) := hout 9 (by decide)
                go_simp
                exact hK (.pointer (some ⟨by_, 0, none⟩)) w' rfl (Below.refl _ _)
              · obtain rfl := Option.some.inj ho
                have p0 : a'.tmps.getD 44 undef = .pointer (some ⟨by_, 0, none⟩) := hpre ⟨0, .data⟩ (by simp) 44 rfl
                simp only [Array.getD_eq_getD_getElem?] at p0
                have c1 := cell_kept z0 hb'
                go_simp
                exact hK (.int .i64 s.at_) w' rfl (Below.refl _ _)
              · obtain rfl := Option.some.inj ho
                have p1 : a'.tmps.getD 45 undef = .int .i64 s.at_ := hpre ⟨1, .data⟩ (by simp) 45 rfl
                simp only [Array.getD_eq_getD_getElem?] at p1
                go_simp
                go_at_call 37
                refine (HIN.out w' (HBR.out.trans (hb'.mono HBR.out.size))).mono ?_
                rintro e w'' ⟨rfl, hb''⟩
                exact hK _ _ rfl hb''
              · obtain rfl := Option.some.inj ho
                have p2 : a'.tmps.getD 46 undef = .string iS := hpre ⟨2, .data⟩ (by simp) 46 rfl
                simp only [Array.getD_eq_getD_getElem?] at p2
                go_simp
                exact hK _ _ (congrArg Value.string HYr3.out) (Below.refl _ _)
              · obtain rfl := Option.some.inj ho
                have p3 : a'.tmps.getD 47 undef = .string Yr3 := hpre ⟨3, .data⟩ (by simp) 47 rfl
                simp only [Array.getD_eq_getD_getElem?] at p3
                go_simp
                exact hK _ _ (congrArg Value.string HYr4.out) (Below.refl _ _)
              · obtain rfl := Option.some.inj ho
                have e9 : a'.tmps[9]? = some (.pointer (some ⟨by_, 0, none⟩)) := hout 9 (by decide)
                go_simp
                exact hK (.pointer (some ⟨by_, 1, none⟩)) w' rfl (Below.refl _ _)
              · obtain rfl := Option.some.inj ho
                have p5 : a'.tmps.getD 49 undef = .pointer (some ⟨by_, 1, none⟩) := hpre ⟨5, .data⟩ (by simp) 49 rfl
                simp only [Array.getD_eq_getD_getElem?] at p5
                have c6 := cell_kept z1 hb'
                go_simp
                exact hK (.int .i64 s.off) w' rfl (Below.refl _ _)
              · obtain rfl := Option.some.inj ho
                have p6 : a'.tmps.getD 50 undef = .int .i64 s.off := hpre ⟨6, .data⟩ (by simp) 50 rfl
                simp only [Array.getD_eq_getD_getElem?] at p6
                go_simp
                go_at_call 36
                refine (HDU.out w' (HBR.out.trans (hb'.mono HBR.out.size))).mono ?_
                rintro e w'' ⟨rfl, hb''⟩
                exact hK _ _ rfl hb''
              · obtain rfl := Option.some.inj ho
                have p4 : a'.tmps.getD 48 undef = .string Yr4 := hpre ⟨4, .data⟩ (by simp) 48 rfl
                simp only [Array.getD_eq_getD_getElem?] at p4
                have p7 : a'.tmps.getD 51 undef = .string dS := hpre ⟨7, .data⟩ (by simp) 51 rfl
                simp only [Array.getD_eq_getD_getElem?] at p7
                go_simp
                exact hK _ _ (congrArg Value.string HYr8.out) (Below.refl _ _)
            · intro us w' hb' hfacts
              have h8 : us 8 = .string Yr8 := hfacts 8 (by decide)
              simp only [putL, Act.put, List.setIfInBounds_toArray, List.set_cons_zero, List.set_cons_succ]
              generalize us 8 = x8 at *
              subst h8
              simp only [List.drop_succ_cons, List.drop_zero]
              clear hfacts
              have HF7 := Lib.hid (HFA.out.next hb')
              have HW := Lib.hid (HF7.out.write Yr8 (by omega))
              have HE : Hid (Yr8.data.toList = restT (sF s)) := by
                show _ = _
                rw [← HALL.out, HSH.out]
              clear hb' HALL HSH HIN HDU HFA HXA HBR HF7 z0 z1 uYr3 vYr3 HYr3 uYr4 vYr4 HYr4 vYr8 HYr8
              generalize Yr8 = s7 at *
              go_wp2_with fail
              refine HW.out.mono ?_
              rintro e w8 ⟨rfl, ⟨v8, hf8⟩, -⟩
              rw [HE.out, ← HSN2.out] at hf8
              have HF8 := Lib.hid hf8
              clear hf8 HW HE HSN2
              go_wp2_with fail
              go_roundw
              case rel => exact ⟨j + 1, v8, by omega, by go_num, HF8⟩
              case measure => simp [intOf]; omega
        · rw [List.take_of_length_le (by omega)] at HFS hlen2
          have HW := Lib.hid (HFS.out.write (⟨#[10]⟩ : ByteArray) (by show _ + 1 ≤ _; omega))
          clear HFS
          as_aux_lemma =>
            go_wp2_with fail
            refine HW.out.mono ?_
            rintro e w8 ⟨rfl, ⟨v8, hf8⟩, -⟩
            try rw [nl_eq] at hf8
            rw [← HSN.out] at hf8
            have HF8 := Lib.hid hf8
            clear hf8 HW HSN
            go_wp2_with fail
            go_roundw
            case rel => exact ⟨k + 1, v8, by omega, by go_num, HF8⟩
            case measure => simp [intOf]; omega
  have HXS : Hid (FS w1 wr v (aL t 0)) := by
    have h9 := HFS.out
    rw [show k = t.zones.length by omega, ← aL_zero] at h9
    exact h9
  clear HFS hlen
  have q0 : wr.cell? ⟨w.heap.size, 1, none⟩ = some (.slice A2 n2 c2) := block_cell (HXT.out wr HXS.out.2) 1
  go_wp2_with fail
  clear q0
  obtain ⟨wo, hwo⟩ : ∃ wo : World, wo = wr := ⟨_, rfl⟩
  go_loopw [60] (fun i wr => ∃ (k : Nat) (v : Value), k ≤ n2 ∧ i = .int .i64 k ∧ Hid (FS w1 wr v (aL t k))) (fun i _ => n2 - (intOf i).toNat)
  case atStart => exact ⟨0, _, Nat.zero_le _, rfl, HXS⟩
  case round =>
  clear HXS hwo hlt hk
  obtain ⟨k, v, hk, rfl, HFS⟩ := hrel
  have hlen := aL_up HG.out k
  by_cases hlt : k < n2
  · have hks : k < t.airports.length := by omega
    obtain ⟨b, o, rfl, hbS, y0, y1⟩ := (HT2.out.keep (w' := wr) fun b hb => HFS.out.2.block b (by unfold all_ at hb; omega)).airport_at hks
    have hag := HG.out.a _ (get_mem hks noAirport)
    have HSN := Lib.hid (aL_succ hks)
    generalize t.airports.getD k noAirport = z at *
    generalize aL t k = pre at *
    have hgb : w1.heap.size < wr.heap.size := HFS.out.1.lt
    have hd := airport_le hag.code
    have hnm := name_le hag.zone
    have hwa : Below wr.heap.size wr (wr.alloc (.cells #[.string z.code, .string z.zone] 66)) := (Below.refl _ _).alloc (Nat.le_refl _) _
    have hxa := heap_alloc_new wr (.cells #[.string z.code, .string z.zone] 66)
    have hxlt : wr.heap.size < (wr.alloc (.cells #[.string z.code, .string z.zone] 66)).heap.size := by simp
    have HFA := Lib.hid (HFS.out.next hwa)
    have HXA := Lib.hid hxa
    clear hwa hxa HFS
    have HW := Lib.hid (HFA.out.write ((⟨#[97, 105, 114, 112, 111, 114, 116, 32]⟩ : ByteArray) ++ z.code ++ (⟨#[32]⟩ : ByteArray) ++ z.zone ++ (⟨#[10]⟩ : ByteArray)) (by simp only [ByteArray.size_append, sz1, szZ, szA, szF]; omega))
    have qa0a : ¬ 9223372036854775807 < 8 + z.code.size := by omega
    have qa0b : ¬ 9223372036854775807 < ((⟨#[97, 105, 114, 112, 111, 114, 116, 32]⟩ : ByteArray)).size + z.code.size := by rw [show ((⟨#[97, 105, 114, 112, 111, 114, 116, 32]⟩ : ByteArray)).size = 8 by first | rfl | (simp only [ByteArray.size_append]; rfl)]; omega
    have qa1a : ¬ 9223372036854775807 < 8 + z.code.size + 1 := by omega
    have qa1b : ¬ 9223372036854775807 < ((⟨#[97, 105, 114, 112, 111, 114, 116, 32]⟩ : ByteArray) ++ z.code).size + 1 := by rw [show ((⟨#[97, 105, 114, 112, 111, 114, 116, 32]⟩ : ByteArray) ++ z.code).size = 8 + z.code.size by first | rfl | (simp only [ByteArray.size_append]; rfl)]; omega
    have qa2a : ¬ 9223372036854775807 < 8 + z.code.size + 1 + z.zone.size := by omega
    have qa2b : ¬ 9223372036854775807 < ((⟨#[97, 105, 114, 112, 111, 114, 116, 32]⟩ : ByteArray) ++ z.code ++ (⟨#[32]⟩ : ByteArray)).size + z.zone.size := by rw [show ((⟨#[97, 105, 114, 112, 111, 114, 116, 32]⟩ : ByteArray) ++ z.code ++ (⟨#[32]⟩ : ByteArray)).size = 8 + z.code.size + 1 by first | rfl | (simp only [ByteArray.size_append]; rfl)]; omega
    have qa3a : ¬ 9223372036854775807 < 8 + z.code.size + 1 + z.zone.size + 1 := by omega
    have qa3b : ¬ 9223372036854775807 < ((⟨#[97, 105, 114, 112, 111, 114, 116, 32]⟩ : ByteArray) ++ z.code ++ (⟨#[32]⟩ : ByteArray) ++ z.zone).size + 1 := by rw [show ((⟨#[97, 105, 114, 112, 111, 114, 116, 32]⟩ : ByteArray) ++ z.code ++ (⟨#[32]⟩ : ByteArray) ++ z.zone).size = 8 + z.code.size + 1 + z.zone.size by first | rfl | (simp only [ByteArray.size_append]; rfl)]; omega
    have z0 : (wr.alloc (.cells #[.string z.code, .string z.zone] 66)).cell? ⟨wr.heap.size, 0, none⟩ = some (.string z.code) := block_cell HXA.out 0
    have z1 : (wr.alloc (.cells #[.string z.code, .string z.zone] 66)).cell? ⟨wr.heap.size, 1, none⟩ = some (.string z.zone) := block_cell HXA.out 1
    clear hbS hag HXA HFA
    as_aux_lemma =>
      go_wp2_with fail
      refine HW.out.mono ?_
      rintro e w8 ⟨rfl, ⟨v8, hf8⟩, -⟩
      rw [air_eq, ← HSN.out] at hf8
      have HF8 := Lib.hid hf8
      clear hf8 HW HSN y0 y1 z0 z1 qa0a qa0b qa1a qa1b qa2a qa2b qa3a qa3b
      go_wp2_with fail
      go_roundw
      case rel => exact ⟨k + 1, v8, by omega, by go_num, HF8⟩
      case measure => simp [intOf]; omega
  have HXS : Hid (FS w1 wr v (fL t 0)) := by
    have h9 := HFS.out
    rw [show k = t.airports.length by omega, ← fL_zero] at h9
    exact h9
  clear HFS hlen
  have q0 : wr.cell? ⟨w.heap.size, 2, none⟩ = some (.slice A3 n3 c3) := block_cell (HXT.out wr HXS.out.2) 2
  go_wp2_with fail
  clear q0
  obtain ⟨wo, hwo⟩ : ∃ wo : World, wo = wr := ⟨_, rfl⟩
  go_loopw [77] (fun i wr => ∃ (k : Nat) (v : Value), k ≤ n3 ∧ i = .int .i64 k ∧ Hid (FS w1 wr v (fL t k))) (fun i _ => n3 - (intOf i).toNat)
  case atStart => exact ⟨0, _, Nat.zero_le _, rfl, HXS⟩
  case round =>
  clear HXS hwo hlt hk
  obtain ⟨k, v, hk, rfl, HFS⟩ := hrel
  have hlen := fL_up HG.out k
  by_cases hlt : k < n3
  · have hks : k < t.flights.length := by omega
    obtain ⟨b, o, rfl, hbS, hat⟩ := (HT3.out.keep (w' := wr) fun b hb => HFS.out.2.block b (by unfold all_ at hb; omega)).flight_at hks
    have hfg := HG.out.f _ (get_mem hks noFlight)
    have HSN := Lib.hid (fL_succ hks)
    generalize t.flights.getD k noFlight = fx at *
    generalize fL t k = pre at *
    have y0 : wr.cell? ⟨b, o + k * 9, none⟩ = some (.string fx.number) := hat 0 _ rfl
    have y1 := hat 1 _ rfl; have y2 := hat 2 _ rfl; have y3 := hat 3 _ rfl; have y4 := hat 4 _ rfl; have y5 := hat 5 _ rfl; have y6 := hat 6 _ rfl; have y7 := hat 7 _ rfl; have y8 := hat 8 _ rfl
    have hgb : w1.heap.size < wr.heap.size := HFS.out.1.lt
    have t1 := code_le hfg.number; have t2 := airport_le hfg.src; have t3 := airport_le hfg.dst; have t4 := name_le hfg.kind
    have HFG := Lib.hid hfg
    have hwa : Below wr.heap.size wr (wr.alloc (.cells #[.string fx.number, .string fx.src, .string fx.dst, .int .i64 fx.dep, .int .i64 fx.arr, .string fx.kind, .int .i64 fx.n0, .int .i64 fx.n1, .int .i64 fx.n2] 47)) := (Below.refl _ _).alloc (Nat.le_refl _) _
    have hxa := heap_alloc_new wr (.cells #[.string fx.number, .string fx.src, .string fx.dst, .int .i64 fx.dep, .int .i64 fx.arr, .string fx.kind, .int .i64 fx.n0, .int .i64 fx.n1, .int .i64 fx.n2] 47)
    have hxlt : wr.heap.size < (wr.alloc (.cells #[.string fx.number, .string fx.src, .string fx.dst, .int .i64 fx.dep, .int .i64 fx.arr, .string fx.kind, .int .i64 fx.n0, .int .i64 fx.n1, .int .i64 fx.n2] 47)).heap.size := by simp
    have HFA := Lib.hid (HFS.out.next hwa)
    have HXA := Lib.hid hxa
    clear hwa hxa HFS
    have HW := Lib.hid (HFA.out.write ((⟨#[102, 108, 105, 103, 104, 116, 32]⟩ : ByteArray) ++ fx.number ++ (⟨#[32]⟩ : ByteArray) ++ fx.src ++ (⟨#[32]⟩ : ByteArray) ++ fx.dst ++ (⟨#[32]⟩ : ByteArray) ++ fx.kind) (by simp only [ByteArray.size_append, sz1, szZ, szA, szF]; omega))
    have qf0a : ¬ 9223372036854775807 < 7 + fx.number.size := by omega
    have qf0b : ¬ 9223372036854775807 < ((⟨#[102, 108, 105, 103, 104, 116, 32]⟩ : ByteArray)).size + fx.number.size := by rw [show ((⟨#[102, 108, 105, 103, 104, 116, 32]⟩ : ByteArray)).size = 7 by first | rfl | (simp only [ByteArray.size_append]; rfl)]; omega
    have qf1a : ¬ 9223372036854775807 < 7 + fx.number.size + 1 := by omega
    have qf1b : ¬ 9223372036854775807 < ((⟨#[102, 108, 105, 103, 104, 116, 32]⟩ : ByteArray) ++ fx.number).size + 1 := by rw [show ((⟨#[102, 108, 105, 103, 104, 116, 32]⟩ : ByteArray) ++ fx.number).size = 7 + fx.number.size by first | rfl | (simp only [ByteArray.size_append]; rfl)]; omega
    have qf2a : ¬ 9223372036854775807 < 7 + fx.number.size + 1 + fx.src.size := by omega
    have qf2b : ¬ 9223372036854775807 < ((⟨#[102, 108, 105, 103, 104, 116, 32]⟩ : ByteArray) ++ fx.number ++ (⟨#[32]⟩ : ByteArray)).size + fx.src.size := by rw [show ((⟨#[102, 108, 105, 103, 104, 116, 32]⟩ : ByteArray) ++ fx.number ++ (⟨#[32]⟩ : ByteArray)).size = 7 + fx.number.size + 1 by first | rfl | (simp only [ByteArray.size_append]; rfl)]; omega
    have qf3a : ¬ 9223372036854775807 < 7 + fx.number.size + 1 + fx.src.size + 1 := by omega
    have qf3b : ¬ 9223372036854775807 < ((⟨#[102, 108, 105, 103, 104, 116, 32]⟩ : ByteArray) ++ fx.number ++ (⟨#[32]⟩ : ByteArray) ++ fx.src).size + 1 := by rw [show ((⟨#[102, 108, 105, 103, 104, 116, 32]⟩ : ByteArray) ++ fx.number ++ (⟨#[32]⟩ : ByteArray) ++ fx.src).size = 7 + fx.number.size + 1 + fx.src.size by first | rfl | (simp only [ByteArray.size_append]; rfl)]; omega
    have qf4a : ¬ 9223372036854775807 < 7 + fx.number.size + 1 + fx.src.size + 1 + fx.dst.size := by omega
    have qf4b : ¬ 9223372036854775807 < ((⟨#[102, 108, 105, 103, 104, 116, 32]⟩ : ByteArray) ++ fx.number ++ (⟨#[32]⟩ : ByteArray) ++ fx.src ++ (⟨#[32]⟩ : ByteArray)).size + fx.dst.size := by rw [show ((⟨#[102, 108, 105, 103, 104, 116, 32]⟩ : ByteArray) ++ fx.number ++ (⟨#[32]⟩ : ByteArray) ++ fx.src ++ (⟨#[32]⟩ : ByteArray)).size = 7 + fx.number.size + 1 + fx.src.size + 1 by first | rfl | (simp only [ByteArray.size_append]; rfl)]; omega
    have qf5a : ¬ 9223372036854775807 < 7 + fx.number.size + 1 + fx.src.size + 1 + fx.dst.size + 1 := by omega
    have qf5b : ¬ 9223372036854775807 < ((⟨#[102, 108, 105, 103, 104, 116, 32]⟩ : ByteArray) ++ fx.number ++ (⟨#[32]⟩ : ByteArray) ++ fx.src ++ (⟨#[32]⟩ : ByteArray) ++ fx.dst).size + 1 := by rw [show ((⟨#[102, 108, 105, 103, 104, 116, 32]⟩ : ByteArray) ++ fx.number ++ (⟨#[32]⟩ : ByteArray) ++ fx.src ++ (⟨#[32]⟩ : ByteArray) ++ fx.dst).size = 7 + fx.number.size + 1 + fx.src.size + 1 + fx.dst.size by first | rfl | (simp only [ByteArray.size_append]; rfl)]; omega
    have qf6a : ¬ 9223372036854775807 < 7 + fx.number.size + 1 + fx.src.size + 1 + fx.dst.size + 1 + fx.kind.size := by omega
    have qf6b : ¬ 9223372036854775807 < ((⟨#[102, 108, 105, 103, 104, 116, 32]⟩ : ByteArray) ++ fx.number ++ (⟨#[32]⟩ : ByteArray) ++ fx.src ++ (⟨#[32]⟩ : ByteArray) ++ fx.dst ++ (⟨#[32]⟩ : ByteArray)).size + fx.kind.size := by rw [show ((⟨#[102, 108, 105, 103, 104, 116, 32]⟩ : ByteArray) ++ fx.number ++ (⟨#[32]⟩ : ByteArray) ++ fx.src ++ (⟨#[32]⟩ : ByteArray) ++ fx.dst ++ (⟨#[32]⟩ : ByteArray)).size = 7 + fx.number.size + 1 + fx.src.size + 1 + fx.dst.size + 1 by first | rfl | (simp only [ByteArray.size_append]; rfl)]; omega
    have z0 : (wr.alloc (.cells #[.string fx.number, .string fx.src, .string fx.dst, .int .i64 fx.dep, .int .i64 fx.arr, .string fx.kind, .int .i64 fx.n0, .int .i64 fx.n1, .int .i64 fx.n2] 47)).cell? ⟨wr.heap.size, 0, none⟩ = some (.string fx.number) := block_cell HXA.out 0
    have z1 : (wr.alloc (.cells #[.string fx.number, .string fx.src, .string fx.dst, .int .i64 fx.dep, .int .i64 fx.arr, .string fx.kind, .int .i64 fx.n0, .int .i64 fx.n1, .int .i64 fx.n2] 47)).cell? ⟨wr.heap.size, 1, none⟩ = some (.string fx.src) := block_cell HXA.out 1
    have z2 : (wr.alloc (.cells #[.string fx.number, .string fx.src, .string fx.dst, .int .i64 fx.dep, .int .i64 fx.arr, .string fx.kind, .int .i64 fx.n0, .int .i64 fx.n1, .int .i64 fx.n2] 47)).cell? ⟨wr.heap.size, 2, none⟩ = some (.string fx.dst) := block_cell HXA.out 2
    have z5 : (wr.alloc (.cells #[.string fx.number, .string fx.src, .string fx.dst, .int .i64 fx.dep, .int .i64 fx.arr, .string fx.kind, .int .i64 fx.n0, .int .i64 fx.n1, .int .i64 fx.n2] 47)).cell? ⟨wr.heap.size, 5, none⟩ = some (.string fx.kind) := block_cell HXA.out 5
    clear hbS hat hfg HFA
    go_wp2_with fail
    clear y0 y1 y2 y3 y4 y5 y6 y7 y8 z0 z1 z2 z5
    refine HW.out.mono ?_
    generalize wr.alloc (.cells #[.string fx.number, .string fx.src, .string fx.dst, .int .i64 fx.dep, .int .i64 fx.arr, .string fx.kind, .int .i64 fx.n0, .int .i64 fx.n1, .int .i64 fx.n2] 47) = wa at *
    generalize hbx : wr.heap.size = bx at *
    rintro e w8 ⟨rfl, ⟨v8, hf8⟩, hbo8⟩
    have hx8 := hbo8 bx _ _ _ (by decide) (by omega) HXA.out
    have z3 : w8.cell? ⟨bx, 3, none⟩ = some (.int .i64 fx.dep) := block_cell hx8 3
    have z4 : w8.cell? ⟨bx, 4, none⟩ = some (.int .i64 fx.arr) := block_cell hx8 4
    have hbxl : bx < w8.heap.size := (Array.getElem?_eq_some_iff.1 hx8).1
    have HX8 := Lib.hid hx8
    rw [fhd_eq] at hf8
    have hhu := fhd_up HFG.out
    have hl8 : (pre ++ lineT [fliS, fx.number, fx.src, fx.dst, fx.kind]).length ≤ 62200 := by rw [List.length_append]; omega
    generalize pre ++ lineT [fliS, fx.number, fx.src, fx.dst, fx.kind] = pre8 at *
    have HBR : Hid (Below w.heap.size w w8) := HBW.out.trans (hf8.2.mono hsw)
    have HF8 := Lib.hid hf8
    have HI1 : Hid (∀ V, Below w.heap.size w V → Calls Tryz.prog 37 #[.int .i64 fx.dep] V (StrB (insD fx.dep ++ blankS ++ insC fx.dep) V)) := fun V hV => instantTxt_any fx.dep V HFG.out.dep.1 HFG.out.dep.2 (HPW.out V hV)
    have HI2 : Hid (∀ V, Below w.heap.size w V → Calls Tryz.prog 37 #[.int .i64 fx.arr] V (StrB (insD fx.arr ++ blankS ++ insC fx.arr) V)) := fun V hV => instantTxt_any fx.arr V HFG.out.arr.1 HFG.out.arr.2 (HPW.out V hV)
    have hi1 := ins_le HFG.out.dep
    have hi2 := ins_le HFG.out.arr
    have HIE : Hid (((⟨#[32]⟩ : ByteArray) ++ (insD fx.dep ++ blankS ++ insC fx.dep) ++ (⟨#[32]⟩ : ByteArray) ++ (insD fx.arr ++ blankS ++ insC fx.arr)).data.toList = restT [insD fx.dep, insC fx.dep, insD fx.arr, insC fx.arr]) := fin_eq _ _ _ _
    generalize insD fx.dep ++ blankS ++ insC fx.dep = iS at *
    generalize insD fx.arr ++ blankS ++ insC fx.arr = jS at *
    clear hf8 hbo8 hx8 HW HXA hhu qf0a qf0b qf1a qf1b qf2a qf2b qf3a qf3b qf4a qf4b qf5a qf5b qf6a qf6b
    go_upto_region 25 with (fail)
    obtain ⟨Zr3, hZr3⟩ : ∃ X, (⟨#[32]⟩ : ByteArray) ++ iS = X := ⟨_, rfl⟩
    have uZr3 : Zr3.size ≤ 1 + iS.size := by rw [← hZr3, ByteArray.size_append]; exact Nat.le_refl _
    have HZr3 := Lib.hid hZr3
    have vZr3 : ¬ 9223372036854775807 < 1 + iS.size := by omega
    obtain ⟨Zr4, hZr4⟩ : ∃ X, Zr3 ++ (⟨#[32]⟩ : ByteArray) = X := ⟨_, rfl⟩
    have uZr4 : Zr4.size ≤ Zr3.size + 1 := by rw [← hZr4, ByteArray.size_append]; exact Nat.le_refl _
    have HZr4 := Lib.hid hZr4
    have vZr4 : ¬ 9223372036854775807 < Zr3.size + 1 := by omega
    obtain ⟨Zr8, hZr8⟩ : ∃ X, Zr4 ++ jS = X := ⟨_, rfl⟩
    have uZr8 : Zr8.size ≤ Zr4.size + jS.size := by rw [← hZr8, ByteArray.size_append]; exact Nat.le_refl _
    have HZr8 := Lib.hid hZr8
    have vZr8 : ¬ 9223372036854775807 < Zr4.size + jS.size := by omega
    clear hZr3 hZr4 hZr8
    have HALL : Hid ((⟨#[32]⟩ : ByteArray) ++ iS ++ (⟨#[32]⟩ : ByteArray) ++ jS = Zr8) := by show _ = _; rw [HZr3.out, HZr4.out, HZr8.out]
    refine wp_region_factsB 9 [97, 98, 99, 100, 101, 102, 103, 104, 105] (fun i v x => (([(fun v _ => v = .pointer (some ⟨bx, 3, none⟩)), (fun v _ => v = .int .i64 fx.dep), (fun v _ => v = .string iS), (fun v _ => v = .string Zr3), (fun v _ => v = .string Zr4), (fun v _ => v = .pointer (some ⟨bx, 4, none⟩)), (fun v _ => v = .int .i64 fx.arr), (fun v _ => v = .string jS), (fun v _ => v = .string Zr8)] : List (Value → World → Prop)).getD i (fun _ _ => True)) v x) (by kernel_rfl) (by kernel_rfl) (by kernel_rfl) (by kernel_rfl) (by kernel_rfl) ?_ ?_ ?_
    · intro i v x x' h hx
      rcases Nat.lt_or_ge i 9 with hi | hi
      · have hi' : i = 0 ∨ i = 1 ∨ i = 2 ∨ i = 3 ∨ i = 4 ∨ i = 5 ∨ i = 6 ∨ i = 7 ∨ i = 8 := by omega
        rcases hi' with rfl | rfl | rfl | rfl | rfl | rfl | rfl | rfl | rfl
        · exact h
        · exact h
        · exact h
        · exact h
        · exact h
        · exact h
        · exact h
        · exact h
        · exact h
      · rw [List.getD_eq_getElem?_getD, List.getElem?_eq_none (by simpa using hi)]; trivial
    · intro q o' hq ho a' w' hb' hout hpre K hK
      have hq' : q = 0 ∨ q = 1 ∨ q = 2 ∨ q = 3 ∨ q = 4 ∨ q = 5 ∨ q = 6 ∨ q = 7 ∨ q = 8 := by omega
      rcases hq' with rfl | rfl | rfl | rfl | rfl | rfl | rfl | rfl | rfl
      · obtain rfl := Option.some.inj ho
        have e13 : a'.tmps[13]? = some (.pointer (some ⟨bx, 0, none⟩)) := hout 13 (by decide)
        go_simp
        exact hK (.pointer (some ⟨bx, 3, none⟩)) w' rfl (Below.refl _ _)
      · obtain rfl := Option.some.inj ho
        have p0 : a'.tmps.getD 97 undef = .pointer (some ⟨bx, 3, none⟩) := hpre ⟨0, .data⟩ (by simp) 97 rfl
        simp only [Array.getD_eq_getD_getElem?] at p0
        have c1 := cell_kept z3 hb'
        go_simp
        exact hK (.int .i64 fx.dep) w' rfl (Below.refl _ _)
      · obtain rfl := Option.some.inj ho
        have p1 : a'.tmps.getD 98 undef = .int .i64 fx.dep := hpre ⟨1, .data⟩ (by simp) 98 rfl
        simp only [Array.getD_eq_getD_getElem?] at p1
        go_simp
        go_at_call 37
        refine (HI1.out w' (HBR.out.trans (hb'.mono HBR.out.size))).mono ?_
        rintro e w'' ⟨rfl, hb''⟩
        exact hK _ _ rfl hb''
      · obtain rfl := Option.some.inj ho
        have p2 : a'.tmps.getD 99 undef = .string iS := hpre ⟨2, .data⟩ (by simp) 99 rfl
        simp only [Array.getD_eq_getD_getElem?] at p2
        go_simp
        exact hK _ _ (congrArg Value.string HZr3.out) (Below.refl _ _)
      · obtain rfl := Option.some.inj ho
        have p3 : a'.tmps.getD 100 undef = .string Zr3 := hpre ⟨3, .data⟩ (by simp) 100 rfl
        simp only [Array.getD_eq_getD_getElem?] at p3
        go_simp
        exact hK _ _ (congrArg Value.string HZr4.out) (Below.refl _ _)
      · obtain rfl := Option.some.inj ho
        have e13 : a'.tmps[13]? = some (.pointer (some ⟨bx, 0, none⟩)) := hout 13 (by decide)
        go_simp
        exact hK (.pointer (some ⟨bx, 4, none⟩)) w' rfl (Below.refl _ _)
      · obtain rfl := Option.some.inj ho
        have p5 : a'.tmps.getD 102 undef = .pointer (some ⟨bx, 4, none⟩) := hpre ⟨5, .data⟩ (by simp) 102 rfl
        simp only [Array.getD_eq_getD_getElem?] at p5
        have c6 := cell_kept z4 hb'
        go_simp
        exact hK (.int .i64 fx.arr) w' rfl (Below.refl _ _)
      · obtain rfl := Option.some.inj ho
        have p6 : a'.tmps.getD 103 undef = .int .i64 fx.arr := hpre ⟨6, .data⟩ (by simp) 103 rfl
        simp only [Array.getD_eq_getD_getElem?] at p6
        go_simp
        go_at_call 37
        refine (HI2.out w' (HBR.out.trans (hb'.mono HBR.out.size))).mono ?_
        rintro e w'' ⟨rfl, hb''⟩
        exact hK _ _ rfl hb''
      · obtain rfl := Option.some.inj ho
        have p4 : a'.tmps.getD 101 undef = .string Zr4 := hpre ⟨4, .data⟩ (by simp) 101 rfl
        simp only [Array.getD_eq_getD_getElem?] at p4
        have p7 : a'.tmps.getD 104 undef = .string jS := hpre ⟨7, .data⟩ (by simp) 104 rfl
        simp only [Array.getD_eq_getD_getElem?] at p7
        go_simp
        exact hK _ _ (congrArg Value.string HZr8.out) (Below.refl _ _)
    · intro us w' hb' hfacts
      have h8 : us 8 = .string Zr8 := hfacts 8 (by decide)
      simp only [putL, Act.put, List.setIfInBounds_toArray, List.set_cons_zero, List.set_cons_succ]
      generalize us 8 = x8 at *
      subst h8
      simp only [List.drop_succ_cons, List.drop_zero]
      clear hfacts
      have HF9 := Lib.hid (HF8.out.next hb')
      have hx9 := (hb'.block bx hbxl).trans HX8.out
      have HX9 := Lib.hid hx9
      have HW2 := Lib.hid (HF9.out.write Zr8 (by omega))
      have HE : Hid (Zr8.data.toList = restT [insD fx.dep, insC fx.dep, insD fx.arr, insC fx.arr]) := by
        show _ = _
        rw [← HALL.out, HIE.out]
      clear hb' HALL HIE HI1 HI2 HF8 HX8 hx9 HBR z3 z4 uZr3 vZr3 HZr3 uZr4 vZr4 HZr4 vZr8 HZr8
      generalize Zr8 = s7 at *
      go_wp2_with fail
      refine HW2.out.mono ?_
      rintro e w10 ⟨rfl, ⟨v9, hf9⟩, hbo9⟩
      have hx10 := hbo9 bx _ _ _ (by decide) (by omega) HX9.out
      have n6 : w10.cell? ⟨bx, 6, none⟩ = some (.int .i64 fx.n0) := block_cell hx10 6
      have n7 : w10.cell? ⟨bx, 7, none⟩ = some (.int .i64 fx.n1) := block_cell hx10 7
      have n8 : w10.cell? ⟨bx, 8, none⟩ = some (.int .i64 fx.n2) := block_cell hx10 8
      rw [HE.out] at hf9
      have hfu := fin_up HFG.out
      have hl9 : (pre8 ++ restT [insD fx.dep, insC fx.dep, insD fx.arr, insC fx.arr]).length ≤ 62500 := by rw [List.length_append]; omega
      generalize pre8 ++ restT [insD fx.dep, insC fx.dep, insD fx.arr, insC fx.arr] = pre9 at *
      have HF10 := Lib.hid hf9
      clear hf9 hbo9 hx10 HW2 HE HF9 HX9 hfu
      go_wp2_with fail
      clear n6 n7 n8
      go_loopw [109] (fun i wq => ∃ (j : Nat) (v : Value), j ≤ 3 ∧ i = .int .i64 j ∧ Hid (FS w1 wq v (pre9 ++ restT ((nS fx).take j)))) (fun i _ => 3 - (intOf i).toNat)
      case atStart => exact ⟨0, v9, Nat.zero_le _, rfl, Lib.hid (by simpa [restT] using HF10.out)⟩
      case round =>
        clear HF10
        obtain ⟨j, v, hj, rfl, HFS⟩ := hrel
        have hlen2 : (pre9 ++ restT ((nS fx).take j)).length ≤ 63000 := by
          have := nS_up HFG.out j
          rw [List.length_append]
          omega
        have hj' : j = 0 ∨ j = 1 ∨ j = 2 ∨ j = 3 := by omega
        rcases hj' with rfl | rfl | rfl | rfl
        · have hne := need_le (HFG.out.n0)
          have HNI : Hid (∀ V, Below w.heap.size w V → Calls Tryz.prog 38 #[.int .i64 fx.n0] V (StrB (numS fx.n0) V)) := fun V hV => formatInt_any fx.n0 V (by have := HFG.out.n0; omega) (by have := HFG.out.n0; omega) (HPW.out V hV)
          have HSN2 : Hid (pre9 ++ restT ((nS fx).take 1) = pre9 ++ restT ((nS fx).take 0) ++ restT [numS fx.n0]) := by
            show _ = _
            rw [nS_snoc fx (j := 0) (by decide), List.append_assoc]
            rfl
          generalize pre9 ++ restT ((nS fx).take 0) = pre10 at *
          generalize numS fx.n0 = nS_ at *
          have HBR : Hid (Below w.heap.size w wr) := HBW.out.trans (HFS.out.2.mono hsw)
          have HNJ := Lib.hid (HNI.out wr HBR.out)
          unfold StrB at HNJ
          clear HNI
          have i0 : ∀ w, (Instr.index 45 (.agg #[.int .i64 fx.n0, .int .i64 fx.n1, .int .i64 fx.n2]) (.int .i64 0)).run Tryz.prog w = .ok (.int .i64 fx.n0) w := fun _ => by kernel_rfl
          as_aux_lemma =>
            go_wp2_with fail
            refine HNJ.out.mono ?_
            rintro e w6 ⟨rfl, hb6⟩
            have hf6 := HFS.out.next hb6
            have HW := Lib.hid (hf6.write ((⟨#[32]⟩ : ByteArray) ++ nS_) (by simp only [ByteArray.size_append, sz1]; omega))
            have qn0a : ¬ 9223372036854775807 < 1 + nS_.size := by omega
            have qn0b : ¬ 9223372036854775807 < ((⟨#[32]⟩ : ByteArray)).size + nS_.size := by rw [show ((⟨#[32]⟩ : ByteArray)).size = 1 by first | rfl | (simp only [ByteArray.size_append]; rfl)]; omega
            clear hf6 hb6 HFS HNJ
            go_wp2_with fail
            refine HW.out.mono ?_
            rintro e w8 ⟨rfl, ⟨v8, hf8⟩, -⟩
            rw [nmb_eq, ← HSN2.out] at hf8
            have HF8 := Lib.hid hf8
            clear hf8 HW HSN2 qn0a qn0b
            go_wp2_with fail
            go_roundw
            case rel => exact ⟨1, v8, by omega, by go_num, HF8⟩
            case measure => simp [intOf]
        · have hne := need_le (HFG.out.n1)
          have HNI : Hid (∀ V, Below w.heap.size w V → Calls Tryz.prog 38 #[.int .i64 fx.n1] V (StrB (numS fx.n1) V)) := fun V hV => formatInt_any fx.n1 V (by have := HFG.out.n1; omega) (by have := HFG.out.n1; omega) (HPW.out V hV)
          have HSN2 : Hid (pre9 ++ restT ((nS fx).take 2) = pre9 ++ restT ((nS fx).take 1) ++ restT [numS fx.n1]) := by
            show _ = _
            rw [nS_snoc fx (j := 1) (by decide), List.append_assoc]
            rfl
          generalize pre9 ++ restT ((nS fx).take 1) = pre10 at *
          generalize numS fx.n1 = nS_ at *
          have HBR : Hid (Below w.heap.size w wr) := HBW.out.trans (HFS.out.2.mono hsw)
          have HNJ := Lib.hid (HNI.out wr HBR.out)
          unfold StrB at HNJ
          clear HNI
          have i1 : ∀ w, (Instr.index 45 (.agg #[.int .i64 fx.n0, .int .i64 fx.n1, .int .i64 fx.n2]) (.int .i64 1)).run Tryz.prog w = .ok (.int .i64 fx.n1) w := fun _ => by kernel_rfl
          as_aux_lemma =>
            go_wp2_with fail
            refine HNJ.out.mono ?_
            rintro e w6 ⟨rfl, hb6⟩
            have hf6 := HFS.out.next hb6
            have HW := Lib.hid (hf6.write ((⟨#[32]⟩ : ByteArray) ++ nS_) (by simp only [ByteArray.size_append, sz1]; omega))
            have qn0a : ¬ 9223372036854775807 < 1 + nS_.size := by omega
            have qn0b : ¬ 9223372036854775807 < ((⟨#[32]⟩ : ByteArray)).size + nS_.size := by rw [show ((⟨#[32]⟩ : ByteArray)).size = 1 by first | rfl | (simp only [ByteArray.size_append]; rfl)]; omega
            clear hf6 hb6 HFS HNJ
            go_wp2_with fail
            refine HW.out.mono ?_
            rintro e w8 ⟨rfl, ⟨v8, hf8⟩, -⟩
            rw [nmb_eq, ← HSN2.out] at hf8
            have HF8 := Lib.hid hf8
            clear hf8 HW HSN2 qn0a qn0b
            go_wp2_with fail
            go_roundw
            case rel => exact ⟨2, v8, by omega, by go_num, HF8⟩
            case measure => simp [intOf]
        · have hne := need_le (HFG.out.n2)
          have HNI : Hid (∀ V, Below w.heap.size w V → Calls Tryz.prog 38 #[.int .i64 fx.n2] V (StrB (numS fx.n2) V)) := fun V hV => formatInt_any fx.n2 V (by have := HFG.out.n2; omega) (by have := HFG.out.n2; omega) (HPW.out V hV)
          have HSN2 : Hid (pre9 ++ restT ((nS fx).take 3) = pre9 ++ restT ((nS fx).take 2) ++ restT [numS fx.n2]) := by
            show _ = _
            rw [nS_snoc fx (j := 2) (by decide), List.append_assoc]
            rfl
          generalize pre9 ++ restT ((nS fx).take 2) = pre10 at *
          generalize numS fx.n2 = nS_ at *
          have HBR : Hid (Below w.heap.size w wr) := HBW.out.trans (HFS.out.2.mono hsw)
          have HNJ := Lib.hid (HNI.out wr HBR.out)
          unfold StrB at HNJ
          clear HNI
          have i2 : ∀ w, (Instr.index 45 (.agg #[.int .i64 fx.n0, .int .i64 fx.n1, .int .i64 fx.n2]) (.int .i64 2)).run Tryz.prog w = .ok (.int .i64 fx.n2) w := fun _ => by kernel_rfl
          as_aux_lemma =>
            go_wp2_with fail
            refine HNJ.out.mono ?_
            rintro e w6 ⟨rfl, hb6⟩
            have hf6 := HFS.out.next hb6
            have HW := Lib.hid (hf6.write ((⟨#[32]⟩ : ByteArray) ++ nS_) (by simp only [ByteArray.size_append, sz1]; omega))
            have qn0a : ¬ 9223372036854775807 < 1 + nS_.size := by omega
            have qn0b : ¬ 9223372036854775807 < ((⟨#[32]⟩ : ByteArray)).size + nS_.size := by rw [show ((⟨#[32]⟩ : ByteArray)).size = 1 by first | rfl | (simp only [ByteArray.size_append]; rfl)]; omega
            clear hf6 hb6 HFS HNJ
            go_wp2_with fail
            refine HW.out.mono ?_
            rintro e w8 ⟨rfl, ⟨v8, hf8⟩, -⟩
            rw [nmb_eq, ← HSN2.out] at hf8
            have HF8 := Lib.hid hf8
            clear hf8 HW HSN2 qn0a qn0b
            go_wp2_with fail
            go_roundw
            case rel => exact ⟨3, v8, by omega, by go_num, HF8⟩
            case measure => simp [intOf]
        · have HW := Lib.hid (HFS.out.write (⟨#[10]⟩ : ByteArray) (by show _ + 1 ≤ _; omega))
          clear HFS
          as_aux_lemma =>
            go_wp2_with fail
            refine HW.out.mono ?_
            rintro e w8 ⟨rfl, ⟨v8, hf8⟩, -⟩
            try rw [nl_eq] at hf8
            rw [show (nS fx).take 3 = nS fx from rfl, ← HSN.out] at hf8
            have HF8 := Lib.hid hf8
            clear hf8 HW HSN
            go_wp2_with fail
            go_roundw
            case rel => exact ⟨k + 1, v8, by omega, by go_num, HF8⟩
            case measure => simp [intOf]; omega
  have HXS : Hid (FS w1 wr v (textT (ttF t))) := by
    have h9 := HFS.out
    rw [show k = t.flights.length by omega, fL_all] at h9
    exact h9
  clear HFS hlen
  have hsz : (ttS t).size = (textT (ttF t)).length := bs_size _
  have HLEN := Lib.hid (bldLen_any _ v _ wr HXS.out.1)
  have HSTR := Lib.hid (bldString_any _ v _ wr HXS.out.1)
  have HBE : Hid (Below w.heap.size w wr) := HBW.out.trans (HXS.out.2.mono hsw)
  have HSZ := Lib.hid hsz
  clear hsz
  as_aux_lemma =>
    go_wp2_with fail
    refine HLEN.out.mono ?_
    rintro e w' ⟨rfl, rfl⟩
    clear HLEN
    by_cases hbig : 20000 < (textT (ttF t)).length
    · have hbig' : ((20000 : Int) < ((textT (ttF t)).length : Nat)) := by omega
      go_wp2_with fail
      go_ret2
      refine ⟨?_, HBE.out⟩
      rw [← HR.out, if_pos (by rw [HSZ.out]; exact hbig)]
      rfl
    · have hbig' : ¬ ((20000 : Int) < ((textT (ttF t)).length : Nat)) := by omega
      go_wp2_with fail
      refine HSTR.out.mono ?_
      rintro e w' ⟨rfl, hb9⟩
      have HB9 : Hid (Below w.heap.size w w') := HBE.out.trans (hb9.mono (by have := HBW.out.size; omega))
      clear hb9
      go_wp2_with fail
      go_ret2
      refine ⟨?_, HB9.out⟩
      rw [← HR.out, if_neg (by rw [HSZ.out]; exact hbig)]
      rfl
set_option maxRecDepth 100000 in
theorem ttFormat_any (t : GTT) (A1 A2 A3 : Option Addr) (n1 n2 n3 c1 c2 c3 : Nat) (w : World) (ht : t.ok) (hs1 : Sl Ty.zone w (all_ w) A1 n1 c1 t.zones) (hs2 : Sl Ty.airport w (all_ w) A2 n2 c2 t.airports) (hs3 : Sl Ty.flight w (all_ w) A3 n3 c3 t.flights) (hp : Pow10 w) :
    Calls Tryz.prog 13 #[.agg #[.slice A1 n1 c1, .slice A2 n2 c2, .slice A3 n3 c3]] w (FmtPost (fmtT t) w) := by
  by_cases hv : ttE t = 0
  · unfold fmtT
    rw [if_neg (by simpa using hv)]
    exact ttFormat_ok t A1 A2 A3 n1 n2 n3 c1 c2 c3 w ht hv hs1 hs2 hs3 hp
  · unfold fmtT
    rw [if_pos hv]
    have ha : ∀ o, Below w.heap.size w (w.alloc o) := fun o => (Below.refl _ _).alloc (Nat.le_refl _) _
    have HV : Hid (∀ o, Calls Tryz.prog 17 #[.agg #[.slice A1 n1 c1, .slice A2 n2 c2, .slice A3 n3 c3]] (w.alloc o) (ErrPost (ttE t) (w.alloc o))) := fun o => validate_any t A1 A2 A3 n1 n2 n3 c1 c2 c3 (w.alloc o) ht (hs1.next (ha o)) (hs2.next (ha o)) (hs3.next (ha o))
    have HB0 := Lib.hid (ha (.cells #[.slice A1 n1 c1, .slice A2 n2 c2, .slice A3 n3 c3] 27))
    generalize ttE t = er at *
    have hv' : (er == 0) = false := by simpa using hv
    clear ha hs1 hs2 hs3 ht hp
    go_enter Tryz.func13, Tryz.ntmps13
    go_wp2_with fail
    refine (HV.out _).mono ?_
    rintro e w1 ⟨rfl, hb1⟩
    have HB1 : Hid (Below w.heap.size w w1) := HB0.out.trans (hb1.mono HB0.out.size)
    clear hb1 HB0 HV
    go_wp2_with fail
    go_ret2
    exact ⟨rfl, HB1.out⟩
end Go.Proofs.YtldeoaddogifpaaGreatDoor
/-
  Contract of pairinglaw9.Light: it returns a bool.
  No condition.
-/
namespace Go.Proofs.YtldeoaddogifpaaGreatDoor
set_option linter.unusedSimpArgs false
set_option linter.unusedVariables false
open Go.RowKit

def SomeBool (w : World) (e : Ending) (w' : World) : Prop := ∃ b, e = .returned (.bool b) ∧ Below w.heap.size w w'
set_option maxRecDepth 100000 in
theorem light_any (t : GTT) (A1 A2 A3 : Option Addr) (n1 n2 n3 c1 c2 c3 : Nat) (w : World) (hs1 : Sl Ty.zone w (all_ w) A1 n1 c1 t.zones) :
    Calls Tryz.prog 12 #[.agg #[.slice A1 n1 c1, .slice A2 n2 c2, .slice A3 n3 c3]] w (SomeBool w) := by
  have hle := hs1.le
  unfold maxLen at hle
  have e1 : n1 ≤ t.zones.length := Nat.le_of_eq hs1.len
  have hb0 := (Below.refl w.heap.size w).alloc (Nat.le_refl _) (.cells #[.slice A1 n1 c1, .slice A2 n2 c2, .slice A3 n3 c3] 27)
  have hx0 : ∀ j, (w.alloc (.cells #[.slice A1 n1 c1, .slice A2 n2 c2, .slice A3 n3 c3] 27)).cell? ⟨w.heap.size, j, none⟩ = (#[Value.slice A1 n1 c1, .slice A2 n2 c2, .slice A3 n3 c3])[j]? := fun j => World.cell?_alloc_at _ _ _ _ rfl
  have HB0 := Lib.hid hb0; have HX0 := Lib.hid hx0; have HS1 := Lib.hid (hs1.keep (all_keep hb0))
  clear hs1 hb0 hx0
  go_enter Tryz.func12, Tryz.ntmps12
  go_wp2_with fail
  generalize w.alloc (.cells #[.slice A1 n1 c1, .slice A2 n2 c2, .slice A3 n3 c3] 27) = W at *
  have x0 : W.cell? ⟨w.heap.size, 0, none⟩ = some (.slice A1 n1 c1) := HX0.out 0
  generalize hm : wrap64 (wrap64 ((n1 : Int) + n2) + n3) = m0 at *
  clear hm
  go_loop [3, 4] (fun nv i => ∃ (k : Nat) (m : Int), k ≤ n1 ∧ i = .int .i64 k ∧ nv = .int .i64 m) (fun _ i => n1 - (intOf i).toNat)
  case atStart => exact ⟨0, m0, Nat.zero_le _, rfl, rfl⟩
  case round =>
    obtain ⟨k, m, hk, rfl, rfl⟩ := hrel
    by_cases hlt : k < n1
    · have hkl : k < t.zones.length := by omega
      obtain ⟨b, o, A', n', c', rfl, hbS, y0, y1, y2, hsh⟩ := HS1.out.zone_at hkl
      clear y0 y1 hsh
      by_cases hm : m < 1000
      · go_wp2_with fail
        go_round
        case rel => exact ⟨k + 1, _, by omega, by go_num, rfl⟩
        case measure => simp [intOf]; omega
      · go_wp2_with fail
        go_ret
        exact ⟨_, rfl, HB0.out⟩
    · go_wp2_with fail
      go_ret
      exact ⟨_, rfl, HB0.out⟩
end Go.Proofs.YtldeoaddogifpaaGreatDoor
/-
  The walk of pairinglaw9.TimetableTexts.
  Condition: the timetable's data are well formed; the table of powers of ten is laid.
-/
namespace Go.Proofs.YtldeoaddogifpaaGreatDoor
set_option linter.unusedSimpArgs false
set_option linter.unusedVariables false
open Go.RowKit

theorem fmtT_back {t : GTT} (h : (fmtT t).2 = 0) : parseT (fmtT t).1 = (t, 0, 0) ∧ (fmtT t).1.size ≤ maxLen ∧ t.fine := by
  unfold fmtT at h ⊢
  split at h
  · rename_i h1
    exact absurd h h1
  · rename_i h1
    have h1' : ttE t = 0 := Classical.not_not.1 h1
    split at h
    · cases h
    · rename_i h2
      rw [if_neg h1, if_neg h2]
      refine ⟨tt_back h1' (by omega), ?_, (ttE_zero.1 h1').fine⟩
      show (ttS t).size ≤ maxLen
      unfold maxLen
      omega
set_option maxRecDepth 100000 in
set_option maxHeartbeats 3200000 in
theorem lawTimetableTexts_any (t : GTT) (A1 A2 A3 : Option Addr) (n1 n2 n3 c1 c2 c3 : Nat) (w : World) (ht : t.ok) (hs1 : Sl Ty.zone w (all_ w) A1 n1 c1 t.zones) (hs2 : Sl Ty.airport w (all_ w) A2 n2 c2 t.airports) (hs3 : Sl Ty.flight w (all_ w) A3 n3 c3 t.flights) (hg : Glo w) (hp : Pow10 w) :
    Calls Tryz.prog 5 #[.agg #[.slice A1 n1 c1, .slice A2 n2 c2, .slice A3 n3 c3]] w (AwPost w) := by
  have hb0 := (Below.refl w.heap.size w).alloc (Nat.le_refl _) (.cells #[.slice A1 n1 c1, .slice A2 n2 c2, .slice A3 n3 c3] 27)
  have hx0 := heap_alloc_new w (.cells #[.slice A1 n1 c1, .slice A2 n2 c2, .slice A3 n3 c3] 27)
  have hz0 : (w.alloc (.cells #[.slice A1 n1 c1, .slice A2 n2 c2, .slice A3 n3 c3] 27)).heap.size = w.heap.size + 1 := by simp
  have HS : Hid (∀ V, Below w.heap.size w V → (Sl Ty.zone V (all_ V) A1 n1 c1 t.zones ∧ Sl Ty.airport V (all_ V) A2 n2 c2 t.airports ∧ Sl Ty.flight V (all_ V) A3 n3 c3 t.flights) ∧ Glo V ∧ Pow10 V) := fun V hV => ⟨⟨hs1.next hV, hs2.next hV, hs3.next hV⟩, hg.next hV, hp.next hV⟩
  have HT := Lib.hid ht
  have HX : Hid (∀ V, Below (w.heap.size + 1) (w.alloc (.cells #[.slice A1 n1 c1, .slice A2 n2 c2, .slice A3 n3 c3] 27)) V → V.heap[w.heap.size]? = some (.cells #[.slice A1 n1 c1, .slice A2 n2 c2, .slice A3 n3 c3] 27 (0, 0)) ∧ Below w.heap.size w V ∧ w.heap.size + 1 ≤ V.heap.size) := fun V hV => ⟨(hV.block _ (by omega)).trans hx0, hb0.trans (hV.mono (by omega)), by have := hV.size; omega⟩
  have hBW := Below.refl (w.heap.size + 1) (w.alloc (.cells #[.slice A1 n1 c1, .slice A2 n2 c2, .slice A3 n3 c3] 27))
  clear hs1 hs2 hs3 hb0 hx0 hz0 ht hg hp
  go_enter Tryz.func5, Tryz.ntmps5
  go_wp2_with fail
  generalize w.alloc (.cells #[.slice A1 n1 c1, .slice A2 n2 c2, .slice A3 n3 c3] 27) = W at *
  refine (light_any t A1 A2 A3 n1 n2 n3 c1 c2 c3 W (HS.out W (HX.out W hBW).2.1).1.1).mono ?_
  rintro e w1 ⟨bl, rfl, hb1⟩
  have hk1 : Below (w.heap.size + 1) W w1 := hb1.mono (HX.out W hBW).2.2
  clear hb1
  cases bl with
  | false =>
    go_wp2_with fail
    refine (awake_any w1).mono ?_
    rintro e w2 ⟨rfl, hb2⟩
    go_wp2_with fail
    go_ret
    exact ⟨rfl, (HX.out w1 hk1).2.1.trans (hb2.mono (HX.out w1 hk1).2.1.size)⟩
  | true =>
  have x0 : w1.cell? ⟨w.heap.size, 0, none⟩ = some (.slice A1 n1 c1) := block_cell (HX.out w1 hk1).1 0
  have x1 : w1.cell? ⟨w.heap.size, 1, none⟩ = some (.slice A2 n2 c2) := block_cell (HX.out w1 hk1).1 1
  have x2 : w1.cell? ⟨w.heap.size, 2, none⟩ = some (.slice A3 n3 c3) := block_cell (HX.out w1 hk1).1 2
  have hs := HS.out w1 (HX.out w1 hk1).2.1
  have HP := Lib.hid (ttFormat_any t A1 A2 A3 n1 n2 n3 c1 c2 c3 w1 HT.out hs.1.1 hs.1.2.1 hs.1.2.2 hs.2.2)
  have HPR : Hid (∀ V, Below w.heap.size w V → Calls Tryz.prog 10 #[.agg #[.slice A1 n1 c1, .slice A2 n2 c2, .slice A3 n3 c3]] V (FmtPost (fmtT t) V)) := fun V hV => ttFormatR_any t A1 A2 A3 n1 n2 n3 c1 c2 c3 V HT.out (HS.out V hV).1.1 (HS.out V hV).1.2.1 (HS.out V hV).1.2.2 (HS.out V hV).2.2
  have HBK := Lib.hid (fmtT_back (t := t))
  clear hs
  generalize fmtT t = r at *
  obtain ⟨s, er⟩ := r
  unfold FmtPost at HP HPR
  simp only at HP HPR HBK
  go_wp2_with fail
  refine HP.out.mono ?_
  clear x0 x1 x2 HP
  rintro e w3 ⟨rfl, hb3⟩
  have hk3 : Below (w.heap.size + 1) W w3 := hk1.trans (hb3.mono (HX.out w1 hk1).2.2)
  clear hb3
  have x0 : w3.cell? ⟨w.heap.size, 0, none⟩ = some (.slice A1 n1 c1) := block_cell (HX.out w3 hk3).1 0
  have x1 : w3.cell? ⟨w.heap.size, 1, none⟩ = some (.slice A2 n2 c2) := block_cell (HX.out w3 hk3).1 1
  have x2 : w3.cell? ⟨w.heap.size, 2, none⟩ = some (.slice A3 n3 c3) := block_cell (HX.out w3 hk3).1 2
  have HP2 := Lib.hid (HPR.out w3 (HX.out w3 hk3).2.1)
  go_wp2_with fail
  refine HP2.out.mono ?_
  clear x0 x1 x2 HP2 HPR
  rintro e w4 ⟨rfl, hb4⟩
  have hk4 : Below (w.heap.size + 1) W w4 := hk3.trans (hb4.mono (HX.out w3 hk3).2.2)
  clear hb4
  have e1 : (er == er) = true := by simp
  have e2 : (s.toList == s.toList) = true := by simp
  rcases Decidable.em (er = 0) with rfl | hne
  · have hs := HS.out w4 (HX.out w4 hk4).2.1
    have HPP := ttParse_any s w4 (HBK.out rfl).2.1 hs.2.1
    rw [(HBK.out rfl).1] at HPP
    have HPP := Lib.hid HPP
    unfold TParPost at HPP
    simp only at HPP
    clear hs
    go_wp2_with fail
    refine HPP.out.mono ?_
    clear HPP
    rintro e w5 ⟨B1, m1, d1, B2, m2, d2, B3, m3, d3, rfl, s1, s2, s3, hb5⟩
    have hk5 : Below (w.heap.size + 1) W w5 := hk4.trans (hb5.mono (HX.out w4 hk4).2.2)
    have hbb : Below w5.heap.size w5 (w5.alloc (.cells #[.slice B1 m1 d1, .slice B2 m2 d2, .slice B3 m3 d3] 27)) := (Below.refl _ _).alloc (Nat.le_refl _) _
    have hk6 : Below (w.heap.size + 1) W (w5.alloc (.cells #[.slice B1 m1 d1, .slice B2 m2 d2, .slice B3 m3 d3] 27)) := hk5.trans (hbb.mono (HX.out w5 hk5).2.2)
    have hy4 := heap_alloc_new w5 (.cells #[.slice B1 m1 d1, .slice B2 m2 d2, .slice B3 m3 d3] 27)
    have hx6 := (HX.out _ hk6).1
    have hs6 := (HS.out _ (HX.out _ hk6).2.1).1
    have HSM := Lib.hid (same_any t B1 B2 B3 A1 A2 A3 m1 m2 m3 d1 d2 d3 n1 n2 n3 c1 c2 c3 _ (HBK.out (by first | rfl | trivial)).2.2 (s1.next hbb) (s2.next hbb) (s3.next hbb) hs6.1 hs6.2.1 hs6.2.2)
    have x0 := block_cell hx6 0; have x1 := block_cell hx6 1; have x2 := block_cell hx6 2
    have y0 := block_cell hy4 0; have y1 := block_cell hy4 1; have y2 := block_cell hy4 2
    have HK6 := Lib.hid hk6
    clear hb5 s1 s2 s3 hbb hy4 hx6 hs6 hk6
    go_wp2_with fail
    generalize w5.alloc (.cells #[.slice B1 m1 d1, .slice B2 m2 d2, .slice B3 m3 d3] 27) = W6 at *
    refine HSM.out.mono ?_
    clear HSM
    rintro e w6 ⟨rfl, hb6⟩
    have hk7 : Below (w.heap.size + 1) W w6 := HK6.out.trans (hb6.mono (HX.out _ HK6.out).2.2)
    clear hb6 x0 x1 x2 y0 y1 y2
    go_wp2_with fail
    refine (awake_any w6).mono ?_
    rintro e w7 ⟨rfl, hb7⟩
    go_wp2_with fail
    go_ret
    exact ⟨rfl, (HX.out w6 hk7).2.1.trans (hb7.mono (HX.out w6 hk7).2.1.size)⟩
  · have hne' : (er == 0) = false := by simpa using hne
    clear HBK hne
    go_wp2_with fail
    refine (awake_any w4).mono ?_
    rintro e w5 ⟨rfl, hb5⟩
    go_wp2_with fail
    go_ret
    exact ⟨rfl, (HX.out w4 hk4).2.1.trans (hb5.mono (HX.out w4 hk4).2.1.size)⟩
end Go.Proofs.YtldeoaddogifpaaGreatDoor
/-
  How an argument's reading gives the data of timetables.
  No condition.
-/
namespace Go.Proofs.YtldeoaddogifpaaGreatDoor
set_option linter.unusedSimpArgs false
set_option linter.unusedVariables false
open Go.ChangeShapes Go.WideShapes Go.ChangeAt Go.RowKit Go.Deep

/-- A struct's reading, field by field. -/
theorem struct_field {P : Program} {t : TypeId} {fs : Array Field} (ht : P.underlying t = some (.struct fs)) {H : Type} {enc : TypeId × Value → H} {w : World} {spare : Nat → Bool} {held : Bool} {fuel : Nat} {cs : List Value} {x : DataW H × List MemPlace}
    (h : DataW.trod enc P w 0 spare held fuel t cs = some x) (hlt : ∀ p ∈ x.2, p.block < w.heap.size) :
    cs.length = P.cellsOf t ∧ ∀ (i : Nat) (f : Field), fs[i]? = some f → ∀ {α : Type} {T : Ty α}, Fits P f.type T → ∃ d, T.rep w (all_ w) ((cs.drop f.offset).take T.size) d ∧ T.ok d := by
  obtain ⟨xs, n, _, rfl, hl, hlen, hf⟩ := DataW.trod_struct ht h
  refine ⟨hl, fun i f hi α T hT => ?_⟩
  have h1 := hf i f hi
  have hil : i < xs.length := by rw [hlen]; exact (Array.getElem?_eq_some_iff.1 hi).1
  rw [List.getElem?_eq_getElem hil] at h1
  rw [hT.1] at h1
  exact hT.2 enc w spare held n _ _ h1 fun p hp => hlt p (List.mem_flatMap.2 ⟨_, List.getElem_mem hil, hp⟩)
theorem i64_ok {x : Int} (h : (Ty.int .i64).ok x) : -9223372036854775808 ≤ x ∧ x ≤ 9223372036854775807 := by
  have h' : IntKind.i64.min ≤ x ∧ x ≤ IntKind.i64.max := h
  have e1 : IntKind.i64.min = -9223372036854775808 := by decide
  have e2 : IntKind.i64.max = 9223372036854775807 := by decide
  omega
theorem fits_i64 : Fits Tryz.prog 3 (Ty.int .i64) := fits_int Tryz.underlying3 (by kernel_rfl)
theorem fits_string : Fits Tryz.prog 9 Ty.str := fits_str Tryz.underlying9 (by kernel_rfl)
theorem list2 {α : Type} {l : List α} (h : l.length = 2) : ∃ a b, l = [a, b] := by
  match l, h with
  | [a, b], _ => exact ⟨a, b, rfl⟩
theorem list3 {α : Type} {l : List α} (h : l.length = 3) : ∃ a b c, l = [a, b, c] := by
  match l, h with
  | [a, b, c], _ => exact ⟨a, b, c, rfl⟩
theorem list9 {α : Type} {l : List α} (h : l.length = 9) : ∃ a b c d e f g i j, l = [a, b, c, d, e, f, g, i, j] := by
  match l, h with
  | [a, b, c, d, e, f, g, i, j], _ => exact ⟨a, b, c, d, e, f, g, i, j, rfl⟩
theorem fits_shift : Fits Tryz.prog 64 Ty.shift := by
  refine ⟨by kernel_rfl, fun enc w spare held fuel cs x h hlt => ?_⟩
  obtain ⟨hl, hf⟩ := struct_field Tryz.underlying64 h hlt
  obtain ⟨d0, r0, o0⟩ := hf 0 _ rfl fits_i64
  obtain ⟨d1, r1, o1⟩ := hf 1 _ rfl fits_i64
  obtain ⟨a, b, rfl⟩ := list2 (hl.trans (show Tryz.prog.cellsOf 64 = 2 by kernel_rfl))
  have e0 : [a] = [Value.int .i64 d0] := r0
  have e1 : [b] = [Value.int .i64 d1] := r1
  simp only [List.cons.injEq, and_true] at e0 e1
  subst e0 e1
  exact ⟨⟨d0, d1⟩, rfl, ⟨i64_ok o0, i64_ok o1⟩⟩
theorem fits_zone : Fits Tryz.prog 51 Ty.zone := by
  refine ⟨by kernel_rfl, fun enc w spare held fuel cs x h hlt => ?_⟩
  obtain ⟨hl, hf⟩ := struct_field Tryz.underlying51 h hlt
  obtain ⟨d0, r0, o0⟩ := hf 0 _ rfl fits_string
  obtain ⟨d1, r1, o1⟩ := hf 1 _ rfl fits_i64
  obtain ⟨d2, r2, o2⟩ := hf 2 _ rfl (fits_slice Tryz.underlying49 (by kernel_rfl) fits_shift)
  obtain ⟨a, b, c, rfl⟩ := list3 (hl.trans (show Tryz.prog.cellsOf 51 = 3 by kernel_rfl))
  have e0 : [a] = [Value.string d0] := r0
  have e1 : [b] = [Value.int .i64 d1] := r1
  obtain ⟨A, n, cc, e2, hs⟩ := r2
  have e2' : [c] = [Value.slice A n cc] := e2
  simp only [List.cons.injEq, and_true] at e0 e1 e2'
  subst e0 e1 e2'
  exact ⟨⟨d0, d1, d2⟩, ⟨A, n, cc, rfl, hs⟩, ⟨o0, i64_ok o1, o2⟩⟩
theorem fits_airport : Fits Tryz.prog 66 Ty.airport := by
  refine ⟨by kernel_rfl, fun enc w spare held fuel cs x h hlt => ?_⟩
  obtain ⟨hl, hf⟩ := struct_field Tryz.underlying66 h hlt
  obtain ⟨d0, r0, o0⟩ := hf 0 _ rfl fits_string
  obtain ⟨d1, r1, o1⟩ := hf 1 _ rfl fits_string
  obtain ⟨a, b, rfl⟩ := list2 (hl.trans (show Tryz.prog.cellsOf 66 = 2 by kernel_rfl))
  have e0 : [a] = [Value.string d0] := r0
  have e1 : [b] = [Value.string d1] := r1
  simp only [List.cons.injEq, and_true] at e0 e1
  subst e0 e1
  exact ⟨⟨d0, d1⟩, rfl, ⟨o0, o1⟩⟩
/-- Three integers in a row. -/
def Ty.int3 : Ty (Int × Int × Int) := {
  size := 3
  rep := fun _ _ cs x => cs = [.int .i64 x.1, .int .i64 x.2.1, .int .i64 x.2.2]
  ok := fun x => (Ty.int .i64).ok x.1 ∧ (Ty.int .i64).ok x.2.1 ∧ (Ty.int .i64).ok x.2.2
  pos := by decide
  len := fun h => by rw [h]; rfl
  keep := fun h _ => h
  more := fun h _ => h
  one := fun h u hu => by rw [h] at hu; simp at hu; rcases hu with rfl | rfl | rfl <;> rfl }
theorem fits_int3 : Fits Tryz.prog 45 Ty.int3 := by
  refine ⟨by kernel_rfl, fun enc w spare held fuel cs x h hlt => ?_⟩
  obtain ⟨xs, m, _, rfl, hl, hlen, hf⟩ := DataW.trod_array Tryz.underlying45 h
  obtain ⟨a, b, c, rfl⟩ := list3 (hl.trans (show Tryz.prog.cellsOf 45 = 3 by kernel_rfl))
  have hc1 : Tryz.prog.cellsOf 3 = 1 := by kernel_rfl
  have key : ∀ i, i < 3 → ∃ d, (([a, b, c].drop i).take 1) = [Value.int .i64 d] ∧ (Ty.int .i64).ok d := fun i hi => by
    have h1 := hf i hi
    rw [List.getElem?_eq_getElem (by omega), hc1, Nat.mul_one] at h1
    exact fits_i64.2 enc w spare held m _ _ h1 fun p hp => hlt p (List.mem_flatMap.2 ⟨_, List.getElem_mem (by omega), hp⟩)
  obtain ⟨d0, e0, o0⟩ := key 0 (by decide)
  obtain ⟨d1, e1, o1⟩ := key 1 (by decide)
  obtain ⟨d2, e2, o2⟩ := key 2 (by decide)
  simp at e0 e1 e2
  subst e0 e1 e2
  exact ⟨(d0, d1, d2), rfl, o0, o1, o2⟩
theorem fits_flight : Fits Tryz.prog 47 Ty.flight := by
  refine ⟨by kernel_rfl, fun enc w spare held fuel cs x h hlt => ?_⟩
  obtain ⟨hl, hf⟩ := struct_field Tryz.underlying47 h hlt
  obtain ⟨d0, r0, o0⟩ := hf 0 _ rfl fits_string
  obtain ⟨d1, r1, o1⟩ := hf 1 _ rfl fits_string
  obtain ⟨d2, r2, o2⟩ := hf 2 _ rfl fits_string
  obtain ⟨d3, r3, o3⟩ := hf 3 _ rfl fits_i64
  obtain ⟨d4, r4, o4⟩ := hf 4 _ rfl fits_i64
  obtain ⟨d5, r5, o5⟩ := hf 5 _ rfl fits_string
  obtain ⟨d6, r6, o6⟩ := hf 6 _ rfl fits_int3
  obtain ⟨c0, c1, c2, c3, c4, c5, c6, c7, c8, rfl⟩ := list9 (hl.trans (show Tryz.prog.cellsOf 47 = 9 by kernel_rfl))
  have e0 : [c0] = [Value.string d0] := r0
  have e1 : [c1] = [Value.string d1] := r1
  have e2 : [c2] = [Value.string d2] := r2
  have e3 : [c3] = [Value.int .i64 d3] := r3
  have e4 : [c4] = [Value.int .i64 d4] := r4
  have e5 : [c5] = [Value.string d5] := r5
  have e6 : [c6, c7, c8] = [Value.int .i64 d6.1, .int .i64 d6.2.1, .int .i64 d6.2.2] := r6
  simp only [List.cons.injEq, and_true] at e0 e1 e2 e3 e4 e5 e6
  obtain ⟨e6, e7, e8⟩ := e6
  subst e0 e1 e2 e3 e4 e5 e6 e7 e8
  exact ⟨⟨d0, d1, d2, d3, d4, d5, d6.1, d6.2.1, d6.2.2⟩, rfl, ⟨o0, o1, o2, o5, i64_ok o3, i64_ok o4, i64_ok o6.1, i64_ok o6.2.1, i64_ok o6.2.2⟩⟩
theorem fits_tt : Fits Tryz.prog 27 Ty.tt := by
  refine ⟨by kernel_rfl, fun enc w spare held fuel cs x h hlt => ?_⟩
  obtain ⟨hl, hf⟩ := struct_field Tryz.underlying27 h hlt
  obtain ⟨d0, r0, o0⟩ := hf 0 _ rfl (fits_slice Tryz.underlying23 (by kernel_rfl) fits_zone)
  obtain ⟨d1, r1, o1⟩ := hf 1 _ rfl (fits_slice Tryz.underlying24 (by kernel_rfl) fits_airport)
  obtain ⟨d2, r2, o2⟩ := hf 2 _ rfl (fits_slice Tryz.underlying25 (by kernel_rfl) fits_flight)
  obtain ⟨a, b, c, rfl⟩ := list3 (hl.trans (show Tryz.prog.cellsOf 27 = 3 by kernel_rfl))
  obtain ⟨A0, n0, q0, e0, s0⟩ := r0
  obtain ⟨A1, n1, q1, e1, s1⟩ := r1
  obtain ⟨A2, n2, q2, e2, s2⟩ := r2
  have e0' : [a] = [Value.slice A0 n0 q0] := e0
  have e1' : [b] = [Value.slice A1 n1 q1] := e1
  have e2' : [c] = [Value.slice A2 n2 q2] := e2
  simp only [List.cons.injEq, and_true] at e0' e1' e2'
  subst e0' e1' e2'
  exact ⟨⟨d0, d1, d2⟩, ⟨A0, n0, q0, A1, n1, q1, A2, n2, q2, rfl, s0, s1, s2⟩, ⟨o0, o1, o2⟩⟩
set_option maxRecDepth 100000 in
/-- A timetable as an argument. -/
theorem open_tt {H : Type} {enc : TypeId × Value → H} {w : World} {base : Nat} {spare : Nat → Bool} {held : Bool} {v : Value} {d : DataW H} {p : List MemPlace} (hv : Value.okWide Tryz.prog w .any base 27 v)
    (h : DataW.Trod enc Tryz.prog w 0 spare held 27 v d p) (hlt : ∀ x ∈ p, x.block < w.heap.size) :
    ∃ A1 n1 c1 A2 n2 c2 A3 n3 c3 t, v = .agg #[.slice A1 n1 c1, .slice A2 n2 c2, .slice A3 n3 c3] ∧ Sl Ty.zone w (all_ w) A1 n1 c1 t.zones ∧ Sl Ty.airport w (all_ w) A2 n2 c2 t.airports ∧ Sl Ty.flight w (all_ w) A3 n3 c3 t.flights ∧ GTT.ok t := by
  obtain ⟨cs, rfl, -⟩ := okWide_struct Tryz.underlying27 hv
  clear hv
  obtain ⟨t, ⟨A1, n1, c1, A2, n2, c2, A3, n3, c3, e, s1, s2, s3⟩, hok⟩ := open_fits fits_tt h hlt
  have e' : cs.toList = [.slice A1 n1 c1, .slice A2 n2 c2, .slice A3 n3 c3] := e
  refine ⟨A1, n1, c1, A2, n2, c2, A3, n3, c3, t, ?_, s1, s2, s3, hok⟩
  exact congrArg Value.agg (Array.ext' e')
end Go.Proofs.YtldeoaddogifpaaGreatDoor
/-
  The card of TimetableTexts: for every timetable the law returns true, and the argument reads as before. No condition.
-/
namespace Go.Proofs.YtldeoaddogifpaaGreatDoor.timetableTexts
set_option linter.unusedSimpArgs false
set_option linter.unusedVariables false
open Go.ChangeShapes Go.WideShapes Go.ChangeAt Go.RowKit
open Go.ChangeMaps (open_string shut_string)
theorem reads_all : (Tryz.f5.params.toList.all fun t => Tryz.prog.readableRec t && decide (t < Tryz.prog.types.size)) = true := by kernel_rfl
theorem reads_ok : ∀ t ∈ Tryz.f5.params.toList, Tryz.prog.readableRec t = true := fun t ht => by
  have h := List.all_eq_true.1 reads_all t ht
  rw [Bool.and_eq_true] at h
  exact h.1
theorem reads_lt : ∀ t ∈ Tryz.f5.params.toList, t < Tryz.prog.types.size := fun t ht => by
  have h := List.all_eq_true.1 reads_all t ht
  rw [Bool.and_eq_true] at h
  exact of_decide_eq_true h.2
set_option maxRecDepth 100000 in
theorem contract (H : Type) (enc : TypeId × Value → H) (W : World) (base : Nat) (args : Array Value) (ds gs : List (DataW H)) (before : List MemPlace)
    (hval : ∀ (j : Nat) t v, Tryz.f5.params[j]? = some t → args[j]? = some v → Value.okWide Tryz.prog W .any base t v)
    (hW : DataW.Whole enc Tryz.prog Tryz.f5.params.toList Rows.timetableTextsSpec.vars false W args.toList ds gs before) (hL : laidMetH Tryz.prog Rows.timetableTextsRow.laid W) (hsh : W.ShapedOpen Tryz.prog)
    (hreach : (DataW.weightsEach Tryz.prog (Tryz.f5.params.toList ++ (OpenSpec.ofChange Rows.timetableTextsSpec).bare.plain.varTypes Tryz.prog) (ds ++ gs)).all (· ≤ reachBytes) = true) :
    Calls Tryz.prog 5 args W fun e W' => ∃ v, e = .returned v ∧ Rows.timetableTextsSpec.post enc Tryz.prog Tryz.f5 false true false false W args v W' := by
  have hW' := hW
  obtain ⟨p, q, hA0, hV, rfl, hfz, hnd⟩ := hW
  have hA : DataW.TrodAll enc Tryz.prog W 0 (fun _ => true) true Tryz.f5.params.toList args.toList ds p := hA0
  rw [Tryz.params5] at hA hval
  obtain ⟨v0, vs0, d0, ds0, p0, q0, hargs, rfl, rfl, h0, r0⟩ := trodAll_cons hA
  obtain ⟨rfl, rfl, rfl⟩ := trodAll_nil r0
  obtain rfl : args = #[v0] := by cases args; simp_all
  obtain ⟨rfl, rfl⟩ := trodVars_none hV
  have hlt : ∀ x ∈ p0, x.block < W.heap.size := fun x hx => hW'.lt x (by simp [hx])
  obtain ⟨A1, n1, c1, A2, n2, c2, A3, n3, c3, t, rfl, s1, s2, s3, hok⟩ := open_tt (hval 0 27 v0 rfl rfl) h0 hlt
  have hLm : laidMet Tryz.prog Rows.timetableTextsRow.laid W := by rw [MakeChecks.laidMetH_plain _ _ _ (by kernel_rfl)] at hL; exact hL
  have hpt : Lib.TabIs Tryz.prog W "internal/strconv.uint64pow10" .u64 Lib.pow10Tab := Lib.tabIs_of_head (rest := Rows.timetableTextsRow.laid.drop 3) (g := 1) (by kernel_rfl) (by kernel_rfl) Tryz.underlying174 Tryz.underlying162 (by kernel_rfl) (by kernel_rfl) (laidMet.tail (laidMet.tail hLm))
  have hpl : 1 < W.heap.size := World.block_lt_of_cell? W _ (hpt.cell (g := 1) (by kernel_rfl) 0 (by decide))
  refine (lawTimetableTexts_any t A1 A2 A3 n1 n2 n3 c1 c2 c3 W hok s1 s2 s3 (glo_of_shaped hsh) ⟨hpt, hpl⟩).mono fun e W' ⟨he, hb⟩ => ?_
  subst he
  exact ⟨_, rfl, law_post laidOut_true Tryz.underlying4 rfl rfl (fun t ht => ⟨by revert t; exact reads_ok, by revert t; exact reads_lt⟩) ⟨rfl, rfl, rfl⟩ hW' hb⟩
theorem reads (os : Os) {H : Type} (enc : TypeId × Value → H) : ∃ places, DataW.whole enc Tryz.prog ((World.laidAll Tryz.prog os Rows.timetableTextsRow.laid).forCall (fun _ _ => 0) ⟨#[], #[.agg #[.slice none 0 0, .slice none 0 0, .slice none 0 0]], []⟩).memory Tryz.f5.params.toList Rows.timetableTextsSpec.vars false (#[.agg #[.slice none 0 0, .slice none 0 0, .slice none 0 0]] : Array Value).toList 8 = some ([.agg [.nil, .nil, .nil]], [], places) :=
  ⟨[], by kernel_rfl⟩
theorem laid_met (os : Os) : laidMetH Tryz.prog Rows.timetableTextsRow.laid ((World.laidAll Tryz.prog os Rows.timetableTextsRow.laid).forCall (fun _ _ => 0) ⟨#[], #[.agg #[.slice none 0 0, .slice none 0 0, .slice none 0 0]], []⟩).memory := by
  rw [MakeChecks.laidMetH_plain _ _ _ (by kernel_rfl)]
  exact laidMet_laidAll _ (by kernel_rfl) (by kernel_rfl)
set_option maxRecDepth 100000 in
theorem lifted (os : Os) (started : os.Started) (H : Type) (enc : TypeId × Value → H) (F : Stop.Interp) :
    ReturnsInHanded {} Tryz.checked os 5 .any ((OpenSpec.ofChange Rows.timetableTextsSpec).preRow enc Tryz.prog Tryz.f5 Rows.timetableTextsRow.domain false Rows.timetableTextsRow.laid) (((OpenSpec.ofChange Rows.timetableTextsSpec).at F).post enc Tryz.prog Tryz.f5 false true false false) := by
  obtain ⟨places, hx⟩ := reads os enc
  refine returnsInHanded_of_row (C := Tryz.checked) (s := OpenSpec.ofChange Rows.timetableTextsSpec) ownKnob_none started (by kernel_rfl) Tryz.func5
    (witness_row_shaped (enc := enc) (C := Tryz.checked) false (World.laidAll Tryz.prog os Rows.timetableTextsRow.laid) #[.agg #[.slice none 0 0, .slice none 0 0, .slice none 0 0]] (World.laidAll_os _ _ _) (World.shaped_of_ZipB (by kernel_rfl) (by kernel_rfl)) (by kernel_rfl)
      (OpenSpec.preRow_of_cond 8 hx (by kernel_rfl) (fun k hk => by cases hk) (by kernel_rfl) (laid_met os))) ?_
  intro W base args ds gs before hval hW _ hcond hreach hL hsh _
  exact contract H enc W base args ds gs before hval hW hL hsh hreach
theorem said : Rows.TimetableTextsSaid :=
  OpenClaim.holds_of_cond 5 Tryz.f5 rfl rfl rfl rfl rfl rfl rfl ⟨rfl, rfl, rfl, rfl, rfl⟩ rfl rfl rfl rfl rfl (by kernel_rfl) Tryz.func5 (by kernel_rfl)
    (of_decide_eq_true (by kernel_rfl)) (by unfold Func.isWrapper; first | (rw [if_pos (by decide +kernel)]; kernel_rfl) | (rw [if_neg (by decide +kernel)]; exact ⟨rfl, rfl⟩))
    (fun os started H enc _ F => by rw [OpenClaim.pre_eq_preRow]; exact lifted os started H enc F)
theorem plain (f : FuncId) (fn : Func) (hf : Tryz.pinned.checked.prog.funcNamed Rows.timetableTextsRow.func = some f) (hfn : Tryz.pinned.checked.prog.funcs[f]? = some fn) :
    false = Tryz.pinned.checked.prog.looks [] ∧ ∀ (j : Nat) t, fn.params[j]? = some t → Tryz.pinned.checked.prog.wantsStandIn t = false := by
  obtain rfl : f = 5 := Option.some.inj ((show Tryz.prog.funcNamed Rows.timetableTextsRow.func = some 5 by kernel_rfl).symm.trans hf) |>.symm
  obtain rfl : fn = Tryz.f5 := (Option.some.inj (Tryz.func5.symm.trans hfn)).symm
  refine ⟨by kernel_rfl, fun j t ht => ?_⟩
  have hall : (Tryz.f5.params.toList.all fun u => !Tryz.prog.wantsStandIn u) = true := by kernel_rfl
  have hm : t ∈ Tryz.f5.params.toList := by simpa using Array.mem_of_getElem? ht
  have h := List.all_eq_true.1 hall t hm
  exact (show Tryz.prog.wantsStandIn t = false by simpa using h)
theorem card : Rows.TimetableTextsCardSaid :=
  Claim7.holds_tied_plain_at .later [] _ _ _ _ said (fun _ h => by cases h) (by kernel_rfl) (fun _ h => by cases h) timetableTexts_row_tie rfl ⟨rfl, rfl⟩ (by kernel_rfl) rfl plain (by kernel_rfl)
end Go.Proofs.YtldeoaddogifpaaGreatDoor.timetableTexts
