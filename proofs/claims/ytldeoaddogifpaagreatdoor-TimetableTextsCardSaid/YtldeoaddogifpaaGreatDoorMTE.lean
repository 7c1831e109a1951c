/-
  Joined texts: TFormatR; RegionR; RegionT; RegionB. What each proves stands ahead of it, with its conditions.
-/
import Derived.Test.YtldeoaddogifpaaGreatDoorMTD
import Derived.Test.YtldeoaddogifpaaGreatDoorValidateRef
import Derived.Test.YtldeoaddogifpaaGreatDoorRegion
import Derived.Deep.DeepCutAuto
/-
  Contract of the reference's Format of a timetable.
  Condition: the data are well formed; the table of powers of ten is laid.
-/
namespace Go.Proofs.YtldeoaddogifpaaGreatDoor
set_option linter.unusedSimpArgs false
set_option linter.unusedVariables false
open Go.RowKit

theorem zhdR_eq (s n d : ByteArray) : (s ++ (⟨#[122, 111, 110, 101, 32]⟩ : ByteArray) ++ n ++ (⟨#[32]⟩ : ByteArray) ++ d).data.toList = s.data.toList ++ ((⟨#[122, 111, 110, 101, 32]⟩ : ByteArray) ++ n ++ (⟨#[32]⟩ : ByteArray) ++ d).data.toList := by
  simp only [dataApp, List.append_assoc]
theorem shfR_eq (s i d : ByteArray) : (s ++ (⟨#[32]⟩ : ByteArray) ++ i ++ (⟨#[32]⟩ : ByteArray) ++ d).data.toList = s.data.toList ++ ((⟨#[32]⟩ : ByteArray) ++ i ++ (⟨#[32]⟩ : ByteArray) ++ d).data.toList := by
  simp only [dataApp, List.append_assoc]
theorem nmbR_eq (s n : ByteArray) : (s ++ (⟨#[32]⟩ : ByteArray) ++ n).data.toList = s.data.toList ++ restT [n] := by
  rw [← nmb_eq]
  simp only [dataApp, List.append_assoc]
theorem airR_eq (s c z : ByteArray) : (s ++ (⟨#[97, 105, 114, 112, 111, 114, 116, 32]⟩ : ByteArray) ++ c ++ (⟨#[32]⟩ : ByteArray) ++ z ++ (⟨#[10]⟩ : ByteArray)).data.toList = s.data.toList ++ (lineT [airS, c, z] ++ [10]) := by
  rw [← air_eq]
  simp only [dataApp, List.append_assoc]
theorem fliR_eq (s n a b k i j : ByteArray) : (s ++ (⟨#[102, 108, 105, 103, 104, 116, 32]⟩ : ByteArray) ++ n ++ (⟨#[32]⟩ : ByteArray) ++ a ++ (⟨#[32]⟩ : ByteArray) ++ b ++ (⟨#[32]⟩ : ByteArray) ++ k ++ (⟨#[32]⟩ : ByteArray) ++ i ++ (⟨#[32]⟩ : ByteArray) ++ j).data.toList = s.data.toList ++ lineT [fliS, n, a, b, k] ++ ((⟨#[32]⟩ : ByteArray) ++ i ++ (⟨#[32]⟩ : ByteArray) ++ j).data.toList := by
  rw [← fhd_eq]
  simp only [dataApp, List.append_assoc]
set_option maxRecDepth 100000 in
set_option maxHeartbeats 12800000 in
theorem ttFormatR_ok (t : GTT) (A1 A2 A3 : Option Addr) (n1 n2 n3 c1 c2 c3 : Nat) (w : World) (ht : t.ok) (hv : ttE t = 0) (hs1 : Sl Ty.zone w (all_ w) A1 n1 c1 t.zones) (hs2 : Sl Ty.airport w (all_ w) A2 n2 c2 t.airports) (hs3 : Sl Ty.flight w (all_ w) A3 n3 c3 t.flights) (hp : Pow10 w) :
    Calls Tryz.prog 10 #[.agg #[.slice A1 n1 c1, .slice A2 n2 c2, .slice A3 n3 c3]] w (FmtPost (if 20000 < (ttS t).size then (emS, 10) else (ttS t, 0)) w) := by
  obtain ⟨R, hR⟩ : ∃ R : ByteArray × Int, (if 20000 < (ttS t).size then (emS, 10) else (ttS t, 0)) = R := ⟨_, rfl⟩
  rw [hR]
  have HR := Lib.hid hR
  clear hR
  have hgd := (ttE_zero.1 hv).good
  have e1 : n1 ≤ t.zones.length := Nat.le_of_eq hs1.len
  have e1' : t.zones.length ≤ n1 := Nat.le_of_eq hs1.len.symm
  have e2 : n2 ≤ t.airports.length := Nat.le_of_eq hs2.len
  have e2' : t.airports.length ≤ n2 := Nat.le_of_eq hs2.len.symm
  have e3 : n3 ≤ t.flights.length := Nat.le_of_eq hs3.len
  have e3' : t.flights.length ≤ n3 := Nat.le_of_eq hs3.len.symm
  have b1 := hgd.l1; have b2 := hgd.l2; have b3 := hgd.l3
  have HG := Lib.hid hgd
  have ha : ∀ o, Below w.heap.size w (w.alloc o) := fun o => (Below.refl _ _).alloc (Nat.le_refl _) _
  have HV : Hid (∀ o, Calls Tryz.prog 26 #[.agg #[.slice A1 n1 c1, .slice A2 n2 c2, .slice A3 n3 c3]] (w.alloc o) (ErrPost 0 (w.alloc o))) := fun o => hv ▸ validateR_any t A1 A2 A3 n1 n2 n3 c1 c2 c3 (w.alloc o) ht (hs1.next (ha o)) (hs2.next (ha o)) (hs3.next (ha o))
  have HS := Lib.hid (And.intro hs1 (And.intro hs2 hs3))
  have HPW : Hid (∀ V, Below w.heap.size w V → Pow10 V) := fun V hV => hp.next hV
  have hB0 := ha (.cells #[.slice A1 n1 c1, .slice A2 n2 c2, .slice A3 n3 c3] 27)
  have hX0 := heap_alloc_new w (.cells #[.slice A1 n1 c1, .slice A2 n2 c2, .slice A3 n3 c3] 27)
  have hZ0 : (w.alloc (.cells #[.slice A1 n1 c1, .slice A2 n2 c2, .slice A3 n3 c3] 27)).heap.size = w.heap.size + 1 := by simp
  have HB0 := Lib.hid hB0; have HX0 := Lib.hid hX0; have HZ0 := Lib.hid hZ0
  clear hgd hs1 hs2 hs3 hv ht hp ha hB0 hX0 hZ0
  go_enter Tryz.func10, Tryz.ntmps10
  go_wp2_with fail
  refine (HV.out _).mono ?_
  clear HV
  generalize w.alloc (.cells #[.slice A1 n1 c1, .slice A2 n2 c2, .slice A3 n3 c3] 27) = W at *
  rintro e w1 ⟨rfl, hb1⟩
  have hbw : Below w.heap.size w w1 := HB0.out.trans (hb1.mono HB0.out.size)
  have hsw1 : w.heap.size + 1 ≤ w1.heap.size := by have := hb1.size; have := HZ0.out; omega
  have hxt := (hb1.block w.heap.size (by have := HZ0.out; omega)).trans HX0.out
  have HT1 := Lib.hid (HS.out.1.keep (all_keep hbw))
  have HT2 := Lib.hid (HS.out.2.1.keep (all_keep hbw))
  have HT3 := Lib.hid (HS.out.2.2.keep (all_keep hbw))
  have HXT : Hid (∀ V, Below w1.heap.size w1 V → V.heap[w.heap.size]? = some (.cells #[.slice A1 n1 c1, .slice A2 n2 c2, .slice A3 n3 c3] 27 (0, 0))) := fun V hV => (hV.block _ (by omega)).trans hxt
  have HBW := Lib.hid hbw
  have hsw : w.heap.size ≤ w1.heap.size := by omega
  clear HS HB0 HX0 HZ0 hb1 hbw hxt
  go_wp2_with fail
  go_loopw [5, 6] (fun s i wr => ∃ (k : Nat) (sv : ByteArray), k ≤ n1 ∧ i = .int .i64 k ∧ s = .string sv ∧ Hid (sv.data.toList = zL t k) ∧ Hid (Below w1.heap.size w1 wr)) (fun _ i _ => n1 - (intOf i).toNat)
  case atStart => exact ⟨0, _, Nat.zero_le _, rfl, rfl, rfl, Below.refl _ _⟩
  case round =>
  obtain ⟨k, s, hk, rfl, rfl, HS, HWR⟩ := hrel
  have hlen := zL_up HG.out k
  have hsz : s.size ≤ (zL t k).length := by rw [Lib.size_eq, HS.out]; exact Nat.le_refl _
  have q0 : wr.cell? ⟨w.heap.size, 0, none⟩ = some (.slice A1 n1 c1) := block_cell (HXT.out wr HWR.out) 0
  by_cases hlt : k < n1
  · have hks : k < t.zones.length := by omega
    obtain ⟨b, o, B1, k1, d1, rfl, hbS, y0, y1, y2, hsS⟩ := (HT1.out.keep (w' := wr) fun b hb => HWR.out.block b (by unfold all_ at hb; omega)).zone_at hks
    have hzg := HG.out.z _ (get_mem hks noZone)
    have HSN := Lib.hid (zL_succ hks)
    have hbS' : b < w.heap.size := hbS
    generalize t.zones.getD k noZone = z at *
    have m1 : k1 ≤ z.shifts.length := Nat.le_of_eq hsS.len
    have m1' : z.shifts.length ≤ k1 := Nat.le_of_eq hsS.len.symm
    have m2 := hzg.len
    have HQ : Hid (∀ wq, Below w1.heap.size w1 wq → Sl Ty.shift wq (all_ w) B1 k1 d1 z.shifts) := fun wq hb => hsS.keep fun b hb' => by
      unfold all_ at hb'
      rw [hb.block b (by omega), HWR.out.block b (by omega)]
    generalize zL t k = pre at *
    have hgb : w1.heap.size ≤ wr.heap.size := HWR.out.size
    have HDU : Hid (∀ V, Below w.heap.size w V → Calls Tryz.prog 28 #[.int .i64 z.off] V (StrB (durF z.off) V)) := fun V hV => durTxtR_any z.off V (by have := hzg.off; omega) (HPW.out V hV)
    have hd := dur_le hzg.off
    have hnm := name_le hzg.name
    have hhu := zhd_up hzg
    have HZH : Hid (((⟨#[122, 111, 110, 101, 32]⟩ : ByteArray) ++ z.name ++ (⟨#[32]⟩ : ByteArray) ++ durF z.off).data.toList = lineT [zoneS, z.name, durF z.off]) := zhd_eq _ _
    have HZG := Lib.hid hzg
    obtain ⟨dS, hdS⟩ : ∃ x, x = durF z.off := ⟨_, rfl⟩
    rw [← hdS] at hd HDU HZH HSN hhu
    clear hdS
    have hwa : Below wr.heap.size wr (wr.alloc (.cells #[.string z.name, .int .i64 z.off, .slice B1 k1 d1] 51)) := (Below.refl _ _).alloc (Nat.le_refl _) _
    have hxa := heap_alloc_new wr (.cells #[.string z.name, .int .i64 z.off, .slice B1 k1 d1] 51)
    have hxlt : wr.heap.size < (wr.alloc (.cells #[.string z.name, .int .i64 z.off, .slice B1 k1 d1] 51)).heap.size := by simp
    have HFA : Hid (Below w1.heap.size w1 (wr.alloc (.cells #[.string z.name, .int .i64 z.off, .slice B1 k1 d1] 51))) := HWR.out.trans (hwa.mono HWR.out.size)
    have HXA := Lib.hid hxa
    have HBR : Hid (Below w.heap.size w (wr.alloc (.cells #[.string z.name, .int .i64 z.off, .slice B1 k1 d1] 51))) := HBW.out.trans (HFA.out.mono hsw)
    clear hwa hxa
    clear hbS hsS hzg
    go_upto_region 9 with (fail)
    clear y0 y1 y2 q0
    generalize wr.alloc (.cells #[.string z.name, .int .i64 z.off, .slice B1 k1 d1] 51) = wa at *
    generalize hbx : wr.heap.size = bx at *
    have z0 : wa.cell? ⟨bx, 0, none⟩ = some (.string z.name) := block_cell HXA.out 0
    have z1 : wa.cell? ⟨bx, 1, none⟩ = some (.int .i64 z.off) := block_cell HXA.out 1
    obtain ⟨X1, hX1⟩ : ∃ X, s ++ (⟨#[122, 111, 110, 101, 32]⟩ : ByteArray) = X := ⟨_, rfl⟩
    have uX1 : X1.size ≤ s.size + 5 := by rw [← hX1, ByteArray.size_append]; exact Nat.le_refl _
    have HX1 := Lib.hid hX1
    have vX1 : ¬ 9223372036854775807 < s.size + 5 := by omega
    obtain ⟨X4, hX4⟩ : ∃ X, X1 ++ z.name = X := ⟨_, rfl⟩
    have uX4 : X4.size ≤ X1.size + z.name.size := by rw [← hX4, ByteArray.size_append]; exact Nat.le_refl _
    have HX4 := Lib.hid hX4
    have vX4 : ¬ 9223372036854775807 < X1.size + z.name.size := by omega
    obtain ⟨X5, hX5⟩ : ∃ X, X4 ++ (⟨#[32]⟩ : ByteArray) = X := ⟨_, rfl⟩
    have uX5 : X5.size ≤ X4.size + 1 := by rw [← hX5, ByteArray.size_append]; exact Nat.le_refl _
    have HX5 := Lib.hid hX5
    have vX5 : ¬ 9223372036854775807 < X4.size + 1 := by omega
    obtain ⟨X9, hX9⟩ : ∃ X, X5 ++ dS = X := ⟨_, rfl⟩
    have uX9 : X9.size ≤ X5.size + dS.size := by rw [← hX9, ByteArray.size_append]; exact Nat.le_refl _
    have HX9 := Lib.hid hX9
    have vX9 : ¬ 9223372036854775807 < X5.size + dS.size := by omega
    clear hX1 hX4 hX5 hX9
    have HALL : Hid (s ++ (⟨#[122, 111, 110, 101, 32]⟩ : ByteArray) ++ z.name ++ (⟨#[32]⟩ : ByteArray) ++ dS = X9) := by show _ = _; rw [HX1.out, HX4.out, HX5.out, HX9.out]
    refine wp_region_facts 10 [30, 31, 32, 33, 34, 35, 36, 37, 38, 39] (fun i v x => (([(fun v _ => v = .string s), (fun v _ => v = .string X1), (fun v _ => v = .pointer (some ⟨bx, 0, none⟩)), (fun v _ => v = .string z.name), (fun v _ => v = .string X4), (fun v _ => v = .string X5), (fun v _ => v = .pointer (some ⟨bx, 1, none⟩)), (fun v _ => v = .int .i64 z.off), (fun v _ => v = .string dS), (fun v _ => v = .string X9)] : List (Value → World → Prop)).getD i (fun _ _ => True)) v x) (by kernel_rfl) (by kernel_rfl) (by kernel_rfl) (by kernel_rfl) (by kernel_rfl) ?_ ?_ ?_
    · intro i v x x' h hx
      rcases Nat.lt_or_ge i 10 with hi | hi
      · have hi' : i = 0 ∨ i = 1 ∨ i = 2 ∨ i = 3 ∨ i = 4 ∨ i = 5 ∨ i = 6 ∨ i = 7 ∨ i = 8 ∨ i = 9 := by omega
        rcases hi' with rfl | rfl | rfl | rfl | rfl | rfl | rfl | rfl | rfl | rfl
        · exact h
        · exact h
        · exact h
        · exact h
        · exact h
        · exact h
        · exact h
        · exact h
        · exact h
        · exact h
      · rw [List.getD_eq_getElem?_getD, List.getElem?_eq_none (by simpa using hi)]; trivial
    · intro q o' hq ho a' w' hb' hout hpre K hK
      have hq' : q = 0 ∨ q = 1 ∨ q = 2 ∨ q = 3 ∨ q = 4 ∨ q = 5 ∨ q = 6 ∨ q = 7 ∨ q = 8 ∨ q = 9 := by omega
      rcases hq' with rfl | rfl | rfl | rfl | rfl | rfl | rfl | rfl | rfl | rfl
      · obtain rfl := Option.some.inj ho
        have e5 : a'.tmps[5]? = some (.string s) := hout 5 (by decide)
        go_simp
        exact hK (.string s) w' rfl (Below.refl _ _)
      · obtain rfl := Option.some.inj ho
        have p0 : a'.tmps.getD 30 undef = .string s := hpre ⟨0, .data⟩ (by simp) 30 rfl
        simp only [Array.getD_eq_getD_getElem?] at p0
        go_simp
        exact hK _ _ (congrArg Value.string HX1.out) (Below.refl _ _)
      · obtain rfl := Option.some.inj ho
        have e7 : a'.tmps[7]? = some (.pointer (some ⟨bx, 0, none⟩)) := hout 7 (by decide)
        go_simp
        exact hK (.pointer (some ⟨bx, 0, none⟩)) w' rfl (Below.refl _ _)
      · obtain rfl := Option.some.inj ho
        have p2 : a'.tmps.getD 32 undef = .pointer (some ⟨bx, 0, none⟩) := hpre ⟨2, .data⟩ (by simp) 32 rfl
        simp only [Array.getD_eq_getD_getElem?] at p2
        have c3 := cell_kept z0 hb'
        go_simp
        exact hK (.string z.name) w' rfl (Below.refl _ _)
      · obtain rfl := Option.some.inj ho
        have p1 : a'.tmps.getD 31 undef = .string X1 := hpre ⟨1, .data⟩ (by simp) 31 rfl
        simp only [Array.getD_eq_getD_getElem?] at p1
        have p3 : a'.tmps.getD 33 undef = .string z.name := hpre ⟨3, .data⟩ (by simp) 33 rfl
        simp only [Array.getD_eq_getD_getElem?] at p3
        go_simp
        exact hK _ _ (congrArg Value.string HX4.out) (Below.refl _ _)
      · obtain rfl := Option.some.inj ho
        have p4 : a'.tmps.getD 34 undef = .string X4 := hpre ⟨4, .data⟩ (by simp) 34 rfl
        simp only [Array.getD_eq_getD_getElem?] at p4
        go_simp
        exact hK _ _ (congrArg Value.string HX5.out) (Below.refl _ _)
      · obtain rfl := Option.some.inj ho
        have e7 : a'.tmps[7]? = some (.pointer (some ⟨bx, 0, none⟩)) := hout 7 (by decide)
        go_simp
        exact hK (.pointer (some ⟨bx, 1, none⟩)) w' rfl (Below.refl _ _)
      · obtain rfl := Option.some.inj ho
        have p6 : a'.tmps.getD 36 undef = .pointer (some ⟨bx, 1, none⟩) := hpre ⟨6, .data⟩ (by simp) 36 rfl
        simp only [Array.getD_eq_getD_getElem?] at p6
        have c7 := cell_kept z1 hb'
        go_simp
        exact hK (.int .i64 z.off) w' rfl (Below.refl _ _)
      · obtain rfl := Option.some.inj ho
        have p7 : a'.tmps.getD 37 undef = .int .i64 z.off := hpre ⟨7, .data⟩ (by simp) 37 rfl
        simp only [Array.getD_eq_getD_getElem?] at p7
        go_simp
        go_at_call 28
        refine (HDU.out w' (HBR.out.trans (hb'.mono HBR.out.size))).mono ?_
        rintro e w'' ⟨rfl, hb''⟩
        exact hK _ _ rfl hb''
      · obtain rfl := Option.some.inj ho
        have p5 : a'.tmps.getD 35 undef = .string X5 := hpre ⟨5, .data⟩ (by simp) 35 rfl
        simp only [Array.getD_eq_getD_getElem?] at p5
        have p8 : a'.tmps.getD 38 undef = .string dS := hpre ⟨8, .data⟩ (by simp) 38 rfl
        simp only [Array.getD_eq_getD_getElem?] at p8
        go_simp
        exact hK _ _ (congrArg Value.string HX9.out) (Below.refl _ _)
    · intro us w' hb' hfacts
      have h9 : us 9 = .string X9 := hfacts 9 (by decide)
      simp only [putL, Act.put, List.setIfInBounds_toArray, List.set_cons_zero, List.set_cons_succ, Nat.zero_add, Nat.reduceAdd]
      generalize us 9 = x9 at *
      subst h9
      simp only [List.drop_succ_cons, List.drop_zero]
      clear hfacts
      have HX7 : Hid (w'.heap[bx]? = some (.cells #[.string z.name, .int .i64 z.off, .slice B1 k1 d1] 51 (0, 0))) := (hb'.block bx hxlt).trans HXA.out
      have HF7 : Hid (Below w1.heap.size w1 w') := HFA.out.trans (hb'.mono HFA.out.size)
      have HE : Hid (X9.data.toList = pre ++ lineT [zoneS, z.name, dS]) := by
        show _ = _
        rw [← HALL.out, zhdR_eq, HZH.out, HS.out]
      have hl7 : (pre ++ lineT [zoneS, z.name, dS]).length ≤ 15100 := by rw [List.length_append]; omega
      have HSN3 : Hid (zL t (k + 1) = pre ++ lineT [zoneS, z.name, dS] ++ restT (z.shifts.flatMap sF) ++ [10]) := HSN
      generalize pre ++ lineT [zoneS, z.name, dS] = pre7 at *
      clear hb' HALL HZH HDU HFA HXA HBR HSN HS HWR z0 z1 hhu uX1 vX1 HX1 uX4 vX4 HX4 uX5 vX5 HX5 uX9 vX9 HX9
      have HSN := HSN3
      clear HSN3
      generalize X9 = s7 at *
      go_wp2_with fail
      go_loopw [5, 8] (fun s i wq => ∃ (j : Nat) (sv : ByteArray), j ≤ k1 ∧ i = .int .i64 j ∧ s = .string sv ∧ Hid (sv.data.toList = pre7 ++ restT ((z.shifts.take j).flatMap sF)) ∧ Hid (Below w1.heap.size w1 wq) ∧ Hid (wq.heap[bx]? = some (.cells #[.string z.name, .int .i64 z.off, .slice B1 k1 d1] 51 (0, 0)))) (fun _ i _ => k1 - (intOf i).toNat)
      case atStart => exact ⟨0, s7, Nat.zero_le _, rfl, rfl, Lib.hid (by simpa [restT] using HE.out), HF7, HX7⟩
      case round =>
        clear HE HF7 HX7
        obtain ⟨j, s, hj, rfl, rfl, HS, HWQ, HX⟩ := hrel
        have hlen2 : (pre7 ++ restT ((z.shifts.take j).flatMap sF)).length ≤ 16000 := by
          have := sFs_up HZG.out j
          rw [List.length_append]
          omega
        have hsz : s.size ≤ (pre7 ++ restT ((z.shifts.take j).flatMap sF)).length := by rw [Lib.size_eq, HS.out]; exact Nat.le_refl _
        by_cases hlt2 : j < k1
        · have hjs : j < z.shifts.length := by omega
          obtain ⟨bt, ot, rfl, hbS, y0, y1⟩ := (HQ.out wr HWQ.out).shift_at hjs
          have hsg := HZG.out.s _ (get_mem hjs noShift)
          have HSN2 : Hid (pre7 ++ restT ((z.shifts.take (j + 1)).flatMap sF) = pre7 ++ restT ((z.shifts.take j).flatMap sF) ++ restT (sF (z.shifts.getD j noShift))) := by
            show _ = _
            rw [flat_take_snoc sF hjs noShift, restT_app, List.append_assoc]
          generalize z.shifts.getD j noShift = q at *
          generalize pre7 ++ restT ((z.shifts.take j).flatMap sF) = pre8 at *
          have z2 : wr.cell? ⟨bx, 2, none⟩ = some (.slice (some ⟨bt, ot, none⟩) k1 d1) := block_cell HX.out 2
          have HBR : Hid (Below w.heap.size w wr) := HBW.out.trans (HWQ.out.mono hsw)
          have hbx3 : bx < wr.heap.size := (Array.getElem?_eq_some_iff.1 HX.out).1
          have HIN : Hid (∀ V, Below w.heap.size w V → Calls Tryz.prog 29 #[.int .i64 q.at_] V fun e w' => e = .returned (.string (insD q.at_ ++ blankS ++ insC q.at_)) ∧ Below V.heap.size V w') := fun V hV =>
            (instantTxtR_any q.at_ V hsg.1.1 hsg.1.2 (HPW.out V hV)).mono fun e w' ⟨x, he, hi, hb⟩ => ⟨by rw [he, hi.eqT hsg.1.1 hsg.1.2], hb⟩
          have HDU : Hid (∀ V, Below w.heap.size w V → Calls Tryz.prog 28 #[.int .i64 q.off] V (StrB (durF q.off) V)) := fun V hV => durTxtR_any q.off V (by omega) (HPW.out V hV)
          have hd := dur_le hsg.2
          have hi := ins_le hsg.1
          have HSH : Hid ((((⟨#[32]⟩ : ByteArray) ++ (insD q.at_ ++ blankS ++ insC q.at_) ++ (⟨#[32]⟩ : ByteArray) ++ durF q.off)).data.toList = restT (sF q)) := shf_eq _ _ _
          generalize insD q.at_ ++ blankS ++ insC q.at_ = iS at *
          generalize durF q.off = dS at *
          clear hbS hsg
          obtain ⟨Y1, hY1⟩ : ∃ X, s ++ (⟨#[32]⟩ : ByteArray) = X := ⟨_, rfl⟩
          have uY1 : Y1.size ≤ s.size + 1 := by rw [← hY1, ByteArray.size_append]; exact Nat.le_refl _
          have HY1 := Lib.hid hY1
          have vY1 : ¬ 9223372036854775807 < s.size + 1 := by omega
          obtain ⟨Y9, hY9⟩ : ∃ X, Y1 ++ iS = X := ⟨_, rfl⟩
          have uY9 : Y9.size ≤ Y1.size + iS.size := by rw [← hY9, ByteArray.size_append]; exact Nat.le_refl _
          have HY9 := Lib.hid hY9
          have vY9 : ¬ 9223372036854775807 < Y1.size + iS.size := by omega
          obtain ⟨Y10, hY10⟩ : ∃ X, Y9 ++ (⟨#[32]⟩ : ByteArray) = X := ⟨_, rfl⟩
          have uY10 : Y10.size ≤ Y9.size + 1 := by rw [← hY10, ByteArray.size_append]; exact Nat.le_refl _
          have HY10 := Lib.hid hY10
          have vY10 : ¬ 9223372036854775807 < Y9.size + 1 := by omega
          obtain ⟨Y18, hY18⟩ : ∃ X, Y10 ++ dS = X := ⟨_, rfl⟩
          have uY18 : Y18.size ≤ Y10.size + dS.size := by rw [← hY18, ByteArray.size_append]; exact Nat.le_refl _
          have HY18 := Lib.hid hY18
          have vY18 : ¬ 9223372036854775807 < Y10.size + dS.size := by omega
          clear hY1 hY9 hY10 hY18
          have HALL : Hid (s ++ (⟨#[32]⟩ : ByteArray) ++ iS ++ (⟨#[32]⟩ : ByteArray) ++ dS = Y18) := by show _ = _; rw [HY1.out, HY9.out, HY10.out, HY18.out]
          as_aux_lemma =>
            go_upto_region 13 with (fail)
            refine wp_region_facts 19 [47, 48, 49, 50, 51, 52, 53, 54, 55, 56, 57, 58, 59, 60, 61, 62, 63, 64, 65] (fun i v x => (([(fun v _ => v = .string s), (fun v _ => v = .string Y1), (fun v _ => v = .pointer (some ⟨bx, 2, none⟩)), (fun v _ => v = .slice (some ⟨bt, ot, none⟩) k1 d1), (fun v _ => v = .int .i64 j), (fun v _ => v = .pointer (some ⟨bt, ot + j * 2, none⟩)), (fun v _ => v = .pointer (some ⟨bt, ot + j * 2, none⟩)), (fun v _ => v = .int .i64 q.at_), (fun v _ => v = .string iS), (fun v _ => v = .string Y9), (fun v _ => v = .string Y10), (fun v _ => v = .pointer (some ⟨bx, 2, none⟩)), (fun v _ => v = .slice (some ⟨bt, ot, none⟩) k1 d1), (fun v _ => v = .int .i64 j), (fun v _ => v = .pointer (some ⟨bt, ot + j * 2, none⟩)), (fun v _ => v = .pointer (some ⟨bt, ot + j * 2 + 1, none⟩)), (fun v _ => v = .int .i64 q.off), (fun v _ => v = .string dS), (fun v _ => v = .string Y18)] : List (Value → World → Prop)).getD i (fun _ _ => True)) v x) (by kernel_rfl) (by kernel_rfl) (by kernel_rfl) (by kernel_rfl) (by kernel_rfl) ?_ ?_ ?_
            · intro i v x x' h hx
              rcases Nat.lt_or_ge i 19 with hi | hi
              · have hi' : i = 0 ∨ i = 1 ∨ i = 2 ∨ i = 3 ∨ i = 4 ∨ i = 5 ∨ i = 6 ∨ i = 7 ∨ i = 8 ∨ i = 9 ∨ i = 10 ∨ i = 11 ∨ i = 12 ∨ i = 13 ∨ i = 14 ∨ i = 15 ∨ i = 16 ∨ i = 17 ∨ i = 18 := by omega
                rcases hi' with rfl | rfl | rfl | rfl | rfl | rfl | rfl | rfl | rfl | rfl | rfl | rfl | rfl | rfl | rfl | rfl | rfl | rfl | rfl
                · exact h
                · exact h
                · exact h
                · exact h
                · exact h
                · exact h
                · exact h
                · exact h
                · exact h
                · exact h
                · exact h
                · exact h
                · exact h
                · exact h
                · exact h
                · exact h
                · exact h
                · exact h
                · exact h
              · rw [List.getD_eq_getElem?_getD, List.getElem?_eq_none (by simpa using hi)]; trivial
            · intro q o' hq ho a' w' hb' hout hpre K hK
              have hq' : q = 0 ∨ q = 1 ∨ q = 2 ∨ q = 3 ∨ q = 4 ∨ q = 5 ∨ q = 6 ∨ q = 7 ∨ q = 8 ∨ q = 9 ∨ q = 10 ∨ q = 11 ∨ q = 12 ∨ q = 13 ∨ q = 14 ∨ q = 15 ∨ q = 16 ∨ q = 17 ∨ q = 18 := by omega
              rcases hq' with rfl | rfl | rfl | rfl | rfl | rfl | rfl | rfl | rfl | rfl | rfl | rfl | rfl | rfl | rfl | rfl | rfl | rfl | rfl
              · obtain rfl := Option.some.inj ho
                have e5 : a'.tmps[5]? = some (.string s) := hout 5 (by decide)
                go_simp
                exact hK (.string s) w' rfl (Below.refl _ _)
              · obtain rfl := Option.some.inj ho
                have p0 : a'.tmps.getD 47 undef = .string s := hpre ⟨0, .data⟩ (by simp) 47 rfl
                simp only [Array.getD_eq_getD_getElem?] at p0
                go_simp
                exact hK _ _ (congrArg Value.string HY1.out) (Below.refl _ _)
              · obtain rfl := Option.some.inj ho
                have e7 : a'.tmps[7]? = some (.pointer (some ⟨bx, 0, none⟩)) := hout 7 (by decide)
                go_simp
                exact hK (.pointer (some ⟨bx, 2, none⟩)) w' rfl (Below.refl _ _)
              · obtain rfl := Option.some.inj ho
                have p2 : a'.tmps.getD 49 undef = .pointer (some ⟨bx, 2, none⟩) := hpre ⟨2, .data⟩ (by simp) 49 rfl
                simp only [Array.getD_eq_getD_getElem?] at p2
                have c3 := cell_kept z2 hb'
                go_simp
                exact hK (.slice (some ⟨bt, ot, none⟩) k1 d1) w' rfl (Below.refl _ _)
              · obtain rfl := Option.some.inj ho
                have e8 : a'.tmps[8]? = some (.int .i64 j) := hout 8 (by decide)
                go_simp
                exact hK (.int .i64 j) w' rfl (Below.refl _ _)
              · obtain rfl := Option.some.inj ho
                have p3 : a'.tmps.getD 50 undef = .slice (some ⟨bt, ot, none⟩) k1 d1 := hpre ⟨3, .data⟩ (by simp) 50 rfl
                simp only [Array.getD_eq_getD_getElem?] at p3
                have p4 : a'.tmps.getD 51 undef = .int .i64 j := hpre ⟨4, .data⟩ (by simp) 51 rfl
                simp only [Array.getD_eq_getD_getElem?] at p4
                go_simp
                exact hK (.pointer (some ⟨bt, ot + j * 2, none⟩)) w' rfl (Below.refl _ _)
              · obtain rfl := Option.some.inj ho
                have p5 : a'.tmps.getD 52 undef = .pointer (some ⟨bt, ot + j * 2, none⟩) := hpre ⟨5, .data⟩ (by simp) 52 rfl
                simp only [Array.getD_eq_getD_getElem?] at p5
                go_simp
                exact hK (.pointer (some ⟨bt, ot + j * 2, none⟩)) w' rfl (Below.refl _ _)
              · obtain rfl := Option.some.inj ho
                have p6 : a'.tmps.getD 53 undef = .pointer (some ⟨bt, ot + j * 2, none⟩) := hpre ⟨6, .data⟩ (by simp) 53 rfl
                simp only [Array.getD_eq_getD_getElem?] at p6
                have c7 := cell_kept y0 hb'
                go_simp
                exact hK (.int .i64 q.at_) w' rfl (Below.refl _ _)
              · obtain rfl := Option.some.inj ho
                have p7 : a'.tmps.getD 54 undef = .int .i64 q.at_ := hpre ⟨7, .data⟩ (by simp) 54 rfl
                simp only [Array.getD_eq_getD_getElem?] at p7
                go_simp
                go_at_call 29
                refine (HIN.out w' (HBR.out.trans (hb'.mono HBR.out.size))).mono ?_
                rintro e w'' ⟨rfl, hb''⟩
                exact hK _ _ rfl hb''
              · obtain rfl := Option.some.inj ho
                have p1 : a'.tmps.getD 48 undef = .string Y1 := hpre ⟨1, .data⟩ (by simp) 48 rfl
                simp only [Array.getD_eq_getD_getElem?] at p1
                have p8 : a'.tmps.getD 55 undef = .string iS := hpre ⟨8, .data⟩ (by simp) 55 rfl
                simp only [Array.getD_eq_getD_getElem?] at p8
                go_simp
                exact hK _ _ (congrArg Value.string HY9.out) (Below.refl _ _)
              · obtain rfl := Option.some.inj ho
                have p9 : a'.tmps.getD 56 undef = .string Y9 := hpre ⟨9, .data⟩ (by simp) 56 rfl
                simp only [Array.getD_eq_getD_getElem?] at p9
                go_simp
                exact hK _ _ (congrArg Value.string HY10.out) (Below.refl _ _)
              · obtain rfl := Option.some.inj ho
                have e7 : a'.tmps[7]? = some (.pointer (some ⟨bx, 0, none⟩)) := hout 7 (by decide)
                go_simp
                exact hK (.pointer (some ⟨bx, 2, none⟩)) w' rfl (Below.refl _ _)
              · obtain rfl := Option.some.inj ho
                have p11 : a'.tmps.getD 58 undef = .pointer (some ⟨bx, 2, none⟩) := hpre ⟨11, .data⟩ (by simp) 58 rfl
                simp only [Array.getD_eq_getD_getElem?] at p11
                have c12 := cell_kept z2 hb'
                go_simp
                exact hK (.slice (some ⟨bt, ot, none⟩) k1 d1) w' rfl (Below.refl _ _)
              · obtain rfl := Option.some.inj ho
                have e8 : a'.tmps[8]? = some (.int .i64 j) := hout 8 (by decide)
                go_simp
                exact hK (.int .i64 j) w' rfl (Below.refl _ _)
              · obtain rfl := Option.some.inj ho
                have p12 : a'.tmps.getD 59 undef = .slice (some ⟨bt, ot, none⟩) k1 d1 := hpre ⟨12, .data⟩ (by simp) 59 rfl
                simp only [Array.getD_eq_getD_getElem?] at p12
                have p13 : a'.tmps.getD 60 undef = .int .i64 j := hpre ⟨13, .data⟩ (by simp) 60 rfl
                simp only [Array.getD_eq_getD_getElem?] at p13
                go_simp
                exact hK (.pointer (some ⟨bt, ot + j * 2, none⟩)) w' rfl (Below.refl _ _)
              · obtain rfl := Option.some.inj ho
                have p14 : a'.tmps.getD 61 undef = .pointer (some ⟨bt, ot + j * 2, none⟩) := hpre ⟨14, .data⟩ (by simp) 61 rfl
                simp only [Array.getD_eq_getD_getElem?] at p14
                go_simp
                exact hK (.pointer (some ⟨bt, ot + j * 2 + 1, none⟩)) w' rfl (Below.refl _ _)
              · obtain rfl := Option.some.inj ho
                have p15 : a'.tmps.getD 62 undef = .pointer (some ⟨bt, ot + j * 2 + 1, none⟩) := hpre ⟨15, .data⟩ (by simp) 62 rfl
                simp only [Array.getD_eq_getD_getElem?] at p15
                have c16 := cell_kept y1 hb'
                go_simp
                exact hK (.int .i64 q.off) w' rfl (Below.refl _ _)
              · obtain rfl := Option.some.inj ho
                have p16 : a'.tmps.getD 63 undef = .int .i64 q.off := hpre ⟨16, .data⟩ (by simp) 63 rfl
                simp only [Array.getD_eq_getD_getElem?] at p16
                go_simp
                go_at_call 28
                refine (HDU.out w' (HBR.out.trans (hb'.mono HBR.out.size))).mono ?_
                rintro e w'' ⟨rfl, hb''⟩
                exact hK _ _ rfl hb''
              · obtain rfl := Option.some.inj ho
                have p10 : a'.tmps.getD 57 undef = .string Y10 := hpre ⟨10, .data⟩ (by simp) 57 rfl
                simp only [Array.getD_eq_getD_getElem?] at p10
                have p17 : a'.tmps.getD 64 undef = .string dS := hpre ⟨17, .data⟩ (by simp) 64 rfl
                simp only [Array.getD_eq_getD_getElem?] at p17
                go_simp
                exact hK _ _ (congrArg Value.string HY18.out) (Below.refl _ _)
            · intro us w' hb' hfacts
              have h18 : us 18 = .string Y18 := hfacts 18 (by decide)
              simp only [putL, Act.put, List.setIfInBounds_toArray, List.set_cons_zero, List.set_cons_succ, Nat.zero_add, Nat.reduceAdd]
              generalize us 18 = x18 at *
              subst h18
              simp only [List.drop_succ_cons, List.drop_zero]
              clear hfacts
              have HF9 : Hid (Below w1.heap.size w1 w') := HWQ.out.trans (hb'.mono HWQ.out.size)
              have HX9 : Hid (w'.heap[bx]? = some (.cells #[.string z.name, .int .i64 z.off, .slice (some ⟨bt, ot, none⟩) k1 d1] 51 (0, 0))) := (hb'.block bx hbx3).trans HX.out
              have HE : Hid (Y18.data.toList = pre7 ++ restT ((z.shifts.take (j + 1)).flatMap sF)) := by
                show _ = _
                rw [← HALL.out, shfR_eq, HSH.out, HS.out, HSN2.out]
              clear hb' HALL HS HSN2 HSH HIN HDU HWQ HX HBR y0 y1 z2 uY1 vY1 HY1 uY9 vY9 HY9 uY10 vY10 HY10 uY18 vY18 HY18
              generalize Y18 = s9 at *
              go_wp2_with fail
              go_roundw
              case rel => exact ⟨j + 1, _, by omega, by go_num, rfl, HE, HF9, HX9⟩
              case measure => simp [intOf]; omega
        · rw [List.take_of_length_le (by omega)] at HS hlen2 hsz
          have z2 : wr.cell? ⟨bx, 2, none⟩ = some (.slice B1 k1 d1) := block_cell HX.out 2
          have vN : ¬ 9223372036854775807 < s.size + 1 := by omega
          have HE : Hid ((s ++ (⟨#[10]⟩ : ByteArray)).data.toList = zL t (k + 1)) := by
            show _ = _
            rw [dataApp, HS.out, nl_eq, HSN.out]
          clear HS HSN
          as_aux_lemma =>
            go_wp2_with fail
            go_roundw
            case rel => exact ⟨k + 1, _, by omega, by go_num, rfl, HE, HWQ⟩
            case measure => simp [intOf]; omega
  have HXS : Hid (s.data.toList = aL t 0) := by
    have h9 := HS.out
    rw [show k = t.zones.length by omega, ← aL_zero] at h9
    exact h9
  clear HS hlen hsz
  go_wp2_with fail
  clear q0
  obtain ⟨wo, hwo⟩ : ∃ wo : World, wo = wr := ⟨_, rfl⟩
  go_loopw [5, 9] (fun s i wr => ∃ (k : Nat) (sv : ByteArray), k ≤ n2 ∧ i = .int .i64 k ∧ s = .string sv ∧ Hid (sv.data.toList = aL t k) ∧ Hid (Below w1.heap.size w1 wr)) (fun _ i _ => n2 - (intOf i).toNat)
  case atStart => exact ⟨0, _, Nat.zero_le _, rfl, rfl, HXS, HWR⟩
  case round =>
  clear HXS HWR hwo hlt hk
  obtain ⟨k, s, hk, rfl, rfl, HS, HWR⟩ := hrel
  have hlen := aL_up HG.out k
  have hsz : s.size ≤ (aL t k).length := by rw [Lib.size_eq, HS.out]; exact Nat.le_refl _
  have q0 : wr.cell? ⟨w.heap.size, 1, none⟩ = some (.slice A2 n2 c2) := block_cell (HXT.out wr HWR.out) 1
  by_cases hlt : k < n2
  · have hks : k < t.airports.length := by omega
    obtain ⟨b, o, rfl, hbS, y0, y1⟩ := (HT2.out.keep (w' := wr) fun b hb => HWR.out.block b (by unfold all_ at hb; omega)).airport_at hks
    have hag := HG.out.a _ (get_mem hks noAirport)
    have HSN := Lib.hid (aL_succ hks)
    generalize t.airports.getD k noAirport = z at *
    generalize aL t k = pre at *
    have hd := airport_le hag.code
    have hnm := name_le hag.zone
    have HBR : Hid (Below w.heap.size w wr) := HBW.out.trans (HWR.out.mono hsw)
    clear hbS hag
    obtain ⟨V1, hV1⟩ : ∃ X, s ++ (⟨#[97, 105, 114, 112, 111, 114, 116, 32]⟩ : ByteArray) = X := ⟨_, rfl⟩
    have uV1 : V1.size ≤ s.size + 8 := by rw [← hV1, ByteArray.size_append]; exact Nat.le_refl _
    have HV1 := Lib.hid hV1
    have vV1 : ¬ 9223372036854775807 < s.size + 8 := by omega
    obtain ⟨V8, hV8⟩ : ∃ X, V1 ++ z.code = X := ⟨_, rfl⟩
    have uV8 : V8.size ≤ V1.size + z.code.size := by rw [← hV8, ByteArray.size_append]; exact Nat.le_refl _
    have HV8 := Lib.hid hV8
    have vV8 : ¬ 9223372036854775807 < V1.size + z.code.size := by omega
    obtain ⟨V9, hV9⟩ : ∃ X, V8 ++ (⟨#[32]⟩ : ByteArray) = X := ⟨_, rfl⟩
    have uV9 : V9.size ≤ V8.size + 1 := by rw [← hV9, ByteArray.size_append]; exact Nat.le_refl _
    have HV9 := Lib.hid hV9
    have vV9 : ¬ 9223372036854775807 < V8.size + 1 := by omega
    obtain ⟨V16, hV16⟩ : ∃ X, V9 ++ z.zone = X := ⟨_, rfl⟩
    have uV16 : V16.size ≤ V9.size + z.zone.size := by rw [← hV16, ByteArray.size_append]; exact Nat.le_refl _
    have HV16 := Lib.hid hV16
    have vV16 : ¬ 9223372036854775807 < V9.size + z.zone.size := by omega
    obtain ⟨V17, hV17⟩ : ∃ X, V16 ++ (⟨#[10]⟩ : ByteArray) = X := ⟨_, rfl⟩
    have uV17 : V17.size ≤ V16.size + 1 := by rw [← hV17, ByteArray.size_append]; exact Nat.le_refl _
    have HV17 := Lib.hid hV17
    have vV17 : ¬ 9223372036854775807 < V16.size + 1 := by omega
    clear hV1 hV8 hV9 hV16 hV17
    have HALL : Hid (s ++ (⟨#[97, 105, 114, 112, 111, 114, 116, 32]⟩ : ByteArray) ++ z.code ++ (⟨#[32]⟩ : ByteArray) ++ z.zone ++ (⟨#[10]⟩ : ByteArray) = V17) := by show _ = _; rw [HV1.out, HV8.out, HV9.out, HV16.out, HV17.out]
    as_aux_lemma =>
      go_upto_region 18 with (fail)
      refine wp_region_facts 18 [75, 76, 77, 78, 79, 80, 81, 82, 83, 84, 85, 86, 87, 88, 89, 90, 91, 92] (fun i v x => (([(fun v _ => v = .string s), (fun v _ => v = .string V1), (fun v _ => v = .pointer (some ⟨w.heap.size, 1, none⟩)), (fun v _ => v = .slice (some ⟨b, o, none⟩) n2 c2), (fun v _ => v = .int .i64 k), (fun v _ => v = .pointer (some ⟨b, o + k * 2, none⟩)), (fun v _ => v = .pointer (some ⟨b, o + k * 2, none⟩)), (fun v _ => v = .string z.code), (fun v _ => v = .string V8), (fun v _ => v = .string V9), (fun v _ => v = .pointer (some ⟨w.heap.size, 1, none⟩)), (fun v _ => v = .slice (some ⟨b, o, none⟩) n2 c2), (fun v _ => v = .int .i64 k), (fun v _ => v = .pointer (some ⟨b, o + k * 2, none⟩)), (fun v _ => v = .pointer (some ⟨b, o + k * 2 + 1, none⟩)), (fun v _ => v = .string z.zone), (fun v _ => v = .string V16), (fun v _ => v = .string V17)] : List (Value → World → Prop)).getD i (fun _ _ => True)) v x) (by kernel_rfl) (by kernel_rfl) (by kernel_rfl) (by kernel_rfl) (by kernel_rfl) ?_ ?_ ?_
      · intro i v x x' h hx
        rcases Nat.lt_or_ge i 18 with hi | hi
        · have hi' : i = 0 ∨ i = 1 ∨ i = 2 ∨ i = 3 ∨ i = 4 ∨ i = 5 ∨ i = 6 ∨ i = 7 ∨ i = 8 ∨ i = 9 ∨ i = 10 ∨ i = 11 ∨ i = 12 ∨ i = 13 ∨ i = 14 ∨ i = 15 ∨ i = 16 ∨ i = 17 := by omega
          rcases hi' with rfl | rfl | rfl | rfl | rfl | rfl | rfl | rfl | rfl | rfl | rfl | rfl | rfl | rfl | rfl | rfl | rfl | rfl
          · exact h
          · exact h
          · exact h
          · exact h
          · exact h
          · exact h
          · exact h
          · exact h
          · exact h
          · exact h
          · exact h
          · exact h
          · exact h
          · exact h
          · exact h
          · exact h
          · exact h
          · exact h
        · rw [List.getD_eq_getElem?_getD, List.getElem?_eq_none (by simpa using hi)]; trivial
      · intro q o' hq ho a' w' hb' hout hpre K hK
        have hq' : q = 0 ∨ q = 1 ∨ q = 2 ∨ q = 3 ∨ q = 4 ∨ q = 5 ∨ q = 6 ∨ q = 7 ∨ q = 8 ∨ q = 9 ∨ q = 10 ∨ q = 11 ∨ q = 12 ∨ q = 13 ∨ q = 14 ∨ q = 15 ∨ q = 16 ∨ q = 17 := by omega
        rcases hq' with rfl | rfl | rfl | rfl | rfl | rfl | rfl | rfl | rfl | rfl | rfl | rfl | rfl | rfl | rfl | rfl | rfl | rfl
        · obtain rfl := Option.some.inj ho
          have e5 : a'.tmps[5]? = some (.string s) := hout 5 (by decide)
          go_simp
          exact hK (.string s) w' rfl (Below.refl _ _)
        · obtain rfl := Option.some.inj ho
          have p0 : a'.tmps.getD 75 undef = .string s := hpre ⟨0, .data⟩ (by simp) 75 rfl
          simp only [Array.getD_eq_getD_getElem?] at p0
          go_simp
          exact hK _ _ (congrArg Value.string HV1.out) (Below.refl _ _)
        · obtain rfl := Option.some.inj ho
          have e1 : a'.tmps[1]? = some (.pointer (some ⟨w.heap.size, 0, none⟩)) := hout 1 (by decide)
          go_simp
          exact hK (.pointer (some ⟨w.heap.size, 1, none⟩)) w' rfl (Below.refl _ _)
        · obtain rfl := Option.some.inj ho
          have p2 : a'.tmps.getD 77 undef = .pointer (some ⟨w.heap.size, 1, none⟩) := hpre ⟨2, .data⟩ (by simp) 77 rfl
          simp only [Array.getD_eq_getD_getElem?] at p2
          have c3 := cell_kept q0 hb'
          go_simp
          exact hK (.slice (some ⟨b, o, none⟩) n2 c2) w' rfl (Below.refl _ _)
        · obtain rfl := Option.some.inj ho
          have e9 : a'.tmps[9]? = some (.int .i64 k) := hout 9 (by decide)
          go_simp
          exact hK (.int .i64 k) w' rfl (Below.refl _ _)
        · obtain rfl := Option.some.inj ho
          have p3 : a'.tmps.getD 78 undef = .slice (some ⟨b, o, none⟩) n2 c2 := hpre ⟨3, .data⟩ (by simp) 78 rfl
          simp only [Array.getD_eq_getD_getElem?] at p3
          have p4 : a'.tmps.getD 79 undef = .int .i64 k := hpre ⟨4, .data⟩ (by simp) 79 rfl
          simp only [Array.getD_eq_getD_getElem?] at p4
          go_simp
          exact hK (.pointer (some ⟨b, o + k * 2, none⟩)) w' rfl (Below.refl _ _)
        · obtain rfl := Option.some.inj ho
          have p5 : a'.tmps.getD 80 undef = .pointer (some ⟨b, o + k * 2, none⟩) := hpre ⟨5, .data⟩ (by simp) 80 rfl
          simp only [Array.getD_eq_getD_getElem?] at p5
          go_simp
          exact hK (.pointer (some ⟨b, o + k * 2, none⟩)) w' rfl (Below.refl _ _)
        · obtain rfl := Option.some.inj ho
          have p6 : a'.tmps.getD 81 undef = .pointer (some ⟨b, o + k * 2, none⟩) := hpre ⟨6, .data⟩ (by simp) 81 rfl
          simp only [Array.getD_eq_getD_getElem?] at p6
          have c7 := cell_kept y0 hb'
          go_simp
          exact hK (.string z.code) w' rfl (Below.refl _ _)
        · obtain rfl := Option.some.inj ho
          have p1 : a'.tmps.getD 76 undef = .string V1 := hpre ⟨1, .data⟩ (by simp) 76 rfl
          simp only [Array.getD_eq_getD_getElem?] at p1
          have p7 : a'.tmps.getD 82 undef = .string z.code := hpre ⟨7, .data⟩ (by simp) 82 rfl
          simp only [Array.getD_eq_getD_getElem?] at p7
          go_simp
          exact hK _ _ (congrArg Value.string HV8.out) (Below.refl _ _)
        · obtain rfl := Option.some.inj ho
          have p8 : a'.tmps.getD 83 undef = .string V8 := hpre ⟨8, .data⟩ (by simp) 83 rfl
          simp only [Array.getD_eq_getD_getElem?] at p8
          go_simp
          exact hK _ _ (congrArg Value.string HV9.out) (Below.refl _ _)
        · obtain rfl := Option.some.inj ho
          have e1 : a'.tmps[1]? = some (.pointer (some ⟨w.heap.size, 0, none⟩)) := hout 1 (by decide)
          go_simp
          exact hK (.pointer (some ⟨w.heap.size, 1, none⟩)) w' rfl (Below.refl _ _)
        · obtain rfl := Option.some.inj ho
          have p10 : a'.tmps.getD 85 undef = .pointer (some ⟨w.heap.size, 1, none⟩) := hpre ⟨10, .data⟩ (by simp) 85 rfl
          simp only [Array.getD_eq_getD_getElem?] at p10
          have c11 := cell_kept q0 hb'
          go_simp
          exact hK (.slice (some ⟨b, o, none⟩) n2 c2) w' rfl (Below.refl _ _)
        · obtain rfl := Option.some.inj ho
          have e9 : a'.tmps[9]? = some (.int .i64 k) := hout 9 (by decide)
          go_simp
          exact hK (.int .i64 k) w' rfl (Below.refl _ _)
        · obtain rfl := Option.some.inj ho
          have p11 : a'.tmps.getD 86 undef = .slice (some ⟨b, o, none⟩) n2 c2 := hpre ⟨11, .data⟩ (by simp) 86 rfl
          simp only [Array.getD_eq_getD_getElem?] at p11
          have p12 : a'.tmps.getD 87 undef = .int .i64 k := hpre ⟨12, .data⟩ (by simp) 87 rfl
          simp only [Array.getD_eq_getD_getElem?] at p12
          go_simp
          exact hK (.pointer (some ⟨b, o + k * 2, none⟩)) w' rfl (Below.refl _ _)
        · obtain rfl := Option.some.inj ho
          have p13 : a'.tmps.getD 88 undef = .pointer (some ⟨b, o + k * 2, none⟩) := hpre ⟨13, .data⟩ (by simp) 88 rfl
          simp only [Array.getD_eq_getD_getElem?] at p13
          go_simp
          exact hK (.pointer (some ⟨b, o + k * 2 + 1, none⟩)) w' rfl (Below.refl _ _)
        · obtain rfl := Option.some.inj ho
          have p14 : a'.tmps.getD 89 undef = .pointer (some ⟨b, o + k * 2 + 1, none⟩) := hpre ⟨14, .data⟩ (by simp) 89 rfl
          simp only [Array.getD_eq_getD_getElem?] at p14
          have c15 := cell_kept y1 hb'
          go_simp
          exact hK (.string z.zone) w' rfl (Below.refl _ _)
        · obtain rfl := Option.some.inj ho
          have p9 : a'.tmps.getD 84 undef = .string V9 := hpre ⟨9, .data⟩ (by simp) 84 rfl
          simp only [Array.getD_eq_getD_getElem?] at p9
          have p15 : a'.tmps.getD 90 undef = .string z.zone := hpre ⟨15, .data⟩ (by simp) 90 rfl
          simp only [Array.getD_eq_getD_getElem?] at p15
          go_simp
          exact hK _ _ (congrArg Value.string HV16.out) (Below.refl _ _)
        · obtain rfl := Option.some.inj ho
          have p16 : a'.tmps.getD 91 undef = .string V16 := hpre ⟨16, .data⟩ (by simp) 91 rfl
          simp only [Array.getD_eq_getD_getElem?] at p16
          go_simp
          exact hK _ _ (congrArg Value.string HV17.out) (Below.refl _ _)
      · intro us w' hb' hfacts
        have h17 : us 17 = .string V17 := hfacts 17 (by decide)
        simp only [putL, Act.put, List.setIfInBounds_toArray, List.set_cons_zero, List.set_cons_succ, Nat.zero_add, Nat.reduceAdd]
        generalize us 17 = x17 at *
        subst h17
        simp only [List.drop_succ_cons, List.drop_zero]
        clear hfacts
        have HF9 : Hid (Below w1.heap.size w1 w') := HWR.out.trans (hb'.mono HWR.out.size)
        have HE : Hid (V17.data.toList = aL t (k + 1)) := by
          show _ = _
          rw [← HALL.out, airR_eq, HS.out, HSN.out]
        clear hb' HALL HS HSN HWR HBR y0 y1 q0 uV1 vV1 HV1 uV8 vV8 HV8 uV9 vV9 HV9 uV16 vV16 HV16 uV17 vV17 HV17
        generalize V17 = s9 at *
        go_wp2_with fail
        go_roundw
        case rel => exact ⟨k + 1, _, by omega, by go_num, rfl, HE, HF9⟩
        case measure => simp [intOf]; omega
  have HXS : Hid (s.data.toList = fL t 0) := by
    have h9 := HS.out
    rw [show k = t.airports.length by omega, ← fL_zero] at h9
    exact h9
  clear HS hlen hsz
  go_wp2_with fail
  clear q0
  obtain ⟨wo, hwo⟩ : ∃ wo : World, wo = wr := ⟨_, rfl⟩
  go_loopw [5, 10] (fun s i wr => ∃ (k : Nat) (sv : ByteArray), k ≤ n3 ∧ i = .int .i64 k ∧ s = .string sv ∧ Hid (sv.data.toList = fL t k) ∧ Hid (Below w1.heap.size w1 wr)) (fun _ i _ => n3 - (intOf i).toNat)
  case atStart => exact ⟨0, _, Nat.zero_le _, rfl, rfl, HXS, HWR⟩
  case round =>
  clear HXS HWR hwo hlt hk
  obtain ⟨k, s, hk, rfl, rfl, HS, HWR⟩ := hrel
  have hlen := fL_up HG.out k
  have hsz : s.size ≤ (fL t k).length := by rw [Lib.size_eq, HS.out]; exact Nat.le_refl _
  have q0 : wr.cell? ⟨w.heap.size, 2, none⟩ = some (.slice A3 n3 c3) := block_cell (HXT.out wr HWR.out) 2
  by_cases hlt : k < n3
  · have hks : k < t.flights.length := by omega
    obtain ⟨b, o, rfl, hbS, hat⟩ := (HT3.out.keep (w' := wr) fun b hb => HWR.out.block b (by unfold all_ at hb; omega)).flight_at hks
    have hfg := HG.out.f _ (get_mem hks noFlight)
    have HSN := Lib.hid (fL_succ hks)
    generalize t.flights.getD k noFlight = fx at *
    generalize fL t k = pre at *
    have y0 : wr.cell? ⟨b, o + k * 9, none⟩ = some (.string fx.number) := hat 0 _ rfl
    have y1 := hat 1 _ rfl; have y2 := hat 2 _ rfl; have y3 := hat 3 _ rfl; have y4 := hat 4 _ rfl; have y5 := hat 5 _ rfl; have y6 := hat 6 _ rfl; have y7 := hat 7 _ rfl; have y8 := hat 8 _ rfl
    have hgb : w1.heap.size ≤ wr.heap.size := HWR.out.size
    have t1 := code_le hfg.number; have t2 := airport_le hfg.src; have t3 := airport_le hfg.dst; have t4 := name_le hfg.kind
    have HFG := Lib.hid hfg
    have hhu := fhd_up hfg
    have hfu := fin_up hfg
    have HI1 : Hid (∀ V, Below w.heap.size w V → Calls Tryz.prog 29 #[.int .i64 fx.dep] V fun e w' => e = .returned (.string (insD fx.dep ++ blankS ++ insC fx.dep)) ∧ Below V.heap.size V w') := fun V hV =>
      (instantTxtR_any fx.dep V HFG.out.dep.1 HFG.out.dep.2 (HPW.out V hV)).mono fun e w' ⟨_, he, hi, hb⟩ => ⟨by rw [he, hi.eqT HFG.out.dep.1 HFG.out.dep.2], hb⟩
    have HI2 : Hid (∀ V, Below w.heap.size w V → Calls Tryz.prog 29 #[.int .i64 fx.arr] V fun e w' => e = .returned (.string (insD fx.arr ++ blankS ++ insC fx.arr)) ∧ Below V.heap.size V w') := fun V hV =>
      (instantTxtR_any fx.arr V HFG.out.arr.1 HFG.out.arr.2 (HPW.out V hV)).mono fun e w' ⟨_, he, hi, hb⟩ => ⟨by rw [he, hi.eqT HFG.out.arr.1 HFG.out.arr.2], hb⟩
    have hi1 := ins_le HFG.out.dep
    have hi2 := ins_le HFG.out.arr
    have HIE : Hid (((⟨#[32]⟩ : ByteArray) ++ (insD fx.dep ++ blankS ++ insC fx.dep) ++ (⟨#[32]⟩ : ByteArray) ++ (insD fx.arr ++ blankS ++ insC fx.arr)).data.toList = restT [insD fx.dep, insC fx.dep, insD fx.arr, insC fx.arr]) := fin_eq _ _ _ _
    generalize insD fx.dep ++ blankS ++ insC fx.dep = iS at *
    generalize insD fx.arr ++ blankS ++ insC fx.arr = jS at *
    have hwa : Below wr.heap.size wr (wr.alloc (.cells #[.string fx.number, .string fx.src, .string fx.dst, .int .i64 fx.dep, .int .i64 fx.arr, .string fx.kind, .int .i64 fx.n0, .int .i64 fx.n1, .int .i64 fx.n2] 47)) := (Below.refl _ _).alloc (Nat.le_refl _) _
    have hxa := heap_alloc_new wr (.cells #[.string fx.number, .string fx.src, .string fx.dst, .int .i64 fx.dep, .int .i64 fx.arr, .string fx.kind, .int .i64 fx.n0, .int .i64 fx.n1, .int .i64 fx.n2] 47)
    have hxlt : wr.heap.size < (wr.alloc (.cells #[.string fx.number, .string fx.src, .string fx.dst, .int .i64 fx.dep, .int .i64 fx.arr, .string fx.kind, .int .i64 fx.n0, .int .i64 fx.n1, .int .i64 fx.n2] 47)).heap.size := by simp
    have HFA : Hid (Below w1.heap.size w1 (wr.alloc (.cells #[.string fx.number, .string fx.src, .string fx.dst, .int .i64 fx.dep, .int .i64 fx.arr, .string fx.kind, .int .i64 fx.n0, .int .i64 fx.n1, .int .i64 fx.n2] 47))) := HWR.out.trans (hwa.mono HWR.out.size)
    have HXA := Lib.hid hxa
    have HBR : Hid (Below w.heap.size w (wr.alloc (.cells #[.string fx.number, .string fx.src, .string fx.dst, .int .i64 fx.dep, .int .i64 fx.arr, .string fx.kind, .int .i64 fx.n0, .int .i64 fx.n1, .int .i64 fx.n2] 47))) := HBW.out.trans (HFA.out.mono hsw)
    clear hwa hxa
    clear hbS hat hfg
    go_upto_region 23 with (fail)
    clear y0 y1 y2 y3 y4 y5 y6 y7 y8 q0
    generalize wr.alloc (.cells #[.string fx.number, .string fx.src, .string fx.dst, .int .i64 fx.dep, .int .i64 fx.arr, .string fx.kind, .int .i64 fx.n0, .int .i64 fx.n1, .int .i64 fx.n2] 47) = wa at *
    generalize hbx : wr.heap.size = bx at *
    have z0 : wa.cell? ⟨bx, 0, none⟩ = some (.string fx.number) := block_cell HXA.out 0
    have z1 : wa.cell? ⟨bx, 1, none⟩ = some (.string fx.src) := block_cell HXA.out 1
    have z2 : wa.cell? ⟨bx, 2, none⟩ = some (.string fx.dst) := block_cell HXA.out 2
    have z3 : wa.cell? ⟨bx, 3, none⟩ = some (.int .i64 fx.dep) := block_cell HXA.out 3
    have z4 : wa.cell? ⟨bx, 4, none⟩ = some (.int .i64 fx.arr) := block_cell HXA.out 4
    have z5 : wa.cell? ⟨bx, 5, none⟩ = some (.string fx.kind) := block_cell HXA.out 5
    obtain ⟨Z1, hZ1⟩ : ∃ X, s ++ (⟨#[102, 108, 105, 103, 104, 116, 32]⟩ : ByteArray) = X := ⟨_, rfl⟩
    have uZ1 : Z1.size ≤ s.size + 7 := by rw [← hZ1, ByteArray.size_append]; exact Nat.le_refl _
    have HZ1 := Lib.hid hZ1
    have vZ1 : ¬ 9223372036854775807 < s.size + 7 := by omega
    obtain ⟨Z4, hZ4⟩ : ∃ X, Z1 ++ fx.number = X := ⟨_, rfl⟩
    have uZ4 : Z4.size ≤ Z1.size + fx.number.size := by rw [← hZ4, ByteArray.size_append]; exact Nat.le_refl _
    have HZ4 := Lib.hid hZ4
    have vZ4 : ¬ 9223372036854775807 < Z1.size + fx.number.size := by omega
    obtain ⟨Z5, hZ5⟩ : ∃ X, Z4 ++ (⟨#[32]⟩ : ByteArray) = X := ⟨_, rfl⟩
    have uZ5 : Z5.size ≤ Z4.size + 1 := by rw [← hZ5, ByteArray.size_append]; exact Nat.le_refl _
    have HZ5 := Lib.hid hZ5
    have vZ5 : ¬ 9223372036854775807 < Z4.size + 1 := by omega
    obtain ⟨Z8, hZ8⟩ : ∃ X, Z5 ++ fx.src = X := ⟨_, rfl⟩
    have uZ8 : Z8.size ≤ Z5.size + fx.src.size := by rw [← hZ8, ByteArray.size_append]; exact Nat.le_refl _
    have HZ8 := Lib.hid hZ8
    have vZ8 : ¬ 9223372036854775807 < Z5.size + fx.src.size := by omega
    obtain ⟨Z9, hZ9⟩ : ∃ X, Z8 ++ (⟨#[32]⟩ : ByteArray) = X := ⟨_, rfl⟩
    have uZ9 : Z9.size ≤ Z8.size + 1 := by rw [← hZ9, ByteArray.size_append]; exact Nat.le_refl _
    have HZ9 := Lib.hid hZ9
    have vZ9 : ¬ 9223372036854775807 < Z8.size + 1 := by omega
    obtain ⟨Z12, hZ12⟩ : ∃ X, Z9 ++ fx.dst = X := ⟨_, rfl⟩
    have uZ12 : Z12.size ≤ Z9.size + fx.dst.size := by rw [← hZ12, ByteArray.size_append]; exact Nat.le_refl _
    have HZ12 := Lib.hid hZ12
    have vZ12 : ¬ 9223372036854775807 < Z9.size + fx.dst.size := by omega
    obtain ⟨Z13, hZ13⟩ : ∃ X, Z12 ++ (⟨#[32]⟩ : ByteArray) = X := ⟨_, rfl⟩
    have uZ13 : Z13.size ≤ Z12.size + 1 := by rw [← hZ13, ByteArray.size_append]; exact Nat.le_refl _
    have HZ13 := Lib.hid hZ13
    have vZ13 : ¬ 9223372036854775807 < Z12.size + 1 := by omega
    obtain ⟨Z16, hZ16⟩ : ∃ X, Z13 ++ fx.kind = X := ⟨_, rfl⟩
    have uZ16 : Z16.size ≤ Z13.size + fx.kind.size := by rw [← hZ16, ByteArray.size_append]; exact Nat.le_refl _
    have HZ16 := Lib.hid hZ16
    have vZ16 : ¬ 9223372036854775807 < Z13.size + fx.kind.size := by omega
    obtain ⟨Z17, hZ17⟩ : ∃ X, Z16 ++ (⟨#[32]⟩ : ByteArray) = X := ⟨_, rfl⟩
    have uZ17 : Z17.size ≤ Z16.size + 1 := by rw [← hZ17, ByteArray.size_append]; exact Nat.le_refl _
    have HZ17 := Lib.hid hZ17
    have vZ17 : ¬ 9223372036854775807 < Z16.size + 1 := by omega
    obtain ⟨Z21, hZ21⟩ : ∃ X, Z17 ++ iS = X := ⟨_, rfl⟩
    have uZ21 : Z21.size ≤ Z17.size + iS.size := by rw [← hZ21, ByteArray.size_append]; exact Nat.le_refl _
    have HZ21 := Lib.hid hZ21
    have vZ21 : ¬ 9223372036854775807 < Z17.size + iS.size := by omega
    obtain ⟨Z22, hZ22⟩ : ∃ X, Z21 ++ (⟨#[32]⟩ : ByteArray) = X := ⟨_, rfl⟩
    have uZ22 : Z22.size ≤ Z21.size + 1 := by rw [← hZ22, ByteArray.size_append]; exact Nat.le_refl _
    have HZ22 := Lib.hid hZ22
    have vZ22 : ¬ 9223372036854775807 < Z21.size + 1 := by omega
    obtain ⟨Z26, hZ26⟩ : ∃ X, Z22 ++ jS = X := ⟨_, rfl⟩
    have uZ26 : Z26.size ≤ Z22.size + jS.size := by rw [← hZ26, ByteArray.size_append]; exact Nat.le_refl _
    have HZ26 := Lib.hid hZ26
    have vZ26 : ¬ 9223372036854775807 < Z22.size + jS.size := by omega
    clear hZ1 hZ4 hZ5 hZ8 hZ9 hZ12 hZ13 hZ16 hZ17 hZ21 hZ22 hZ26
    have HALL : Hid (s ++ (⟨#[102, 108, 105, 103, 104, 116, 32]⟩ : ByteArray) ++ fx.number ++ (⟨#[32]⟩ : ByteArray) ++ fx.src ++ (⟨#[32]⟩ : ByteArray) ++ fx.dst ++ (⟨#[32]⟩ : ByteArray) ++ fx.kind ++ (⟨#[32]⟩ : ByteArray) ++ iS ++ (⟨#[32]⟩ : ByteArray) ++ jS = Z26) := by show _ = _; rw [HZ1.out, HZ4.out, HZ5.out, HZ8.out, HZ9.out, HZ12.out, HZ13.out, HZ16.out, HZ17.out, HZ21.out, HZ22.out, HZ26.out]
    refine wp_region_facts 27 [105, 106, 107, 108, 109, 110, 111, 112, 113, 114, 115, 116, 117, 118, 119, 120, 121, 122, 123, 124, 125, 126, 127, 128, 129, 130, 131] (fun i v x => (([(fun v _ => v = .string s), (fun v _ => v = .string Z1), (fun v _ => v = .pointer (some ⟨bx, 0, none⟩)), (fun v _ => v = .string fx.number), (fun v _ => v = .string Z4), (fun v _ => v = .string Z5), (fun v _ => v = .pointer (some ⟨bx, 1, none⟩)), (fun v _ => v = .string fx.src), (fun v _ => v = .string Z8), (fun v _ => v = .string Z9), (fun v _ => v = .pointer (some ⟨bx, 2, none⟩)), (fun v _ => v = .string fx.dst), (fun v _ => v = .string Z12), (fun v _ => v = .string Z13), (fun v _ => v = .pointer (some ⟨bx, 5, none⟩)), (fun v _ => v = .string fx.kind), (fun v _ => v = .string Z16), (fun v _ => v = .string Z17), (fun v _ => v = .pointer (some ⟨bx, 3, none⟩)), (fun v _ => v = .int .i64 fx.dep), (fun v _ => v = .string iS), (fun v _ => v = .string Z21), (fun v _ => v = .string Z22), (fun v _ => v = .pointer (some ⟨bx, 4, none⟩)), (fun v _ => v = .int .i64 fx.arr), (fun v _ => v = .string jS), (fun v _ => v = .string Z26)] : List (Value → World → Prop)).getD i (fun _ _ => True)) v x) (by kernel_rfl) (by kernel_rfl) (by kernel_rfl) (by kernel_rfl) (by kernel_rfl) ?_ ?_ ?_
    · intro i v x x' h hx
      rcases Nat.lt_or_ge i 27 with hi | hi
      · have hi' : i = 0 ∨ i = 1 ∨ i = 2 ∨ i = 3 ∨ i = 4 ∨ i = 5 ∨ i = 6 ∨ i = 7 ∨ i = 8 ∨ i = 9 ∨ i = 10 ∨ i = 11 ∨ i = 12 ∨ i = 13 ∨ i = 14 ∨ i = 15 ∨ i = 16 ∨ i = 17 ∨ i = 18 ∨ i = 19 ∨ i = 20 ∨ i = 21 ∨ i = 22 ∨ i = 23 ∨ i = 24 ∨ i = 25 ∨ i = 26 := by omega
        rcases hi' with rfl | rfl | rfl | rfl | rfl | rfl | rfl | rfl | rfl | rfl | rfl | rfl | rfl | rfl | rfl | rfl | rfl | rfl | rfl | rfl | rfl | rfl | rfl | rfl | rfl | rfl | rfl
        · exact h
        · exact h
        · exact h
        · exact h
        · exact h
        · exact h
        · exact h
        · exact h
        · exact h
        · exact h
        · exact h
        · exact h
        · exact h
        · exact h
        · exact h
        · exact h
        · exact h
        · exact h
        · exact h
        · exact h
        · exact h
        · exact h
        · exact h
        · exact h
        · exact h
        · exact h
        · exact h
      · rw [List.getD_eq_getElem?_getD, List.getElem?_eq_none (by simpa using hi)]; trivial
    · intro q o' hq ho a' w' hb' hout hpre K hK
      have hq' : q = 0 ∨ q = 1 ∨ q = 2 ∨ q = 3 ∨ q = 4 ∨ q = 5 ∨ q = 6 ∨ q = 7 ∨ q = 8 ∨ q = 9 ∨ q = 10 ∨ q = 11 ∨ q = 12 ∨ q = 13 ∨ q = 14 ∨ q = 15 ∨ q = 16 ∨ q = 17 ∨ q = 18 ∨ q = 19 ∨ q = 20 ∨ q = 21 ∨ q = 22 ∨ q = 23 ∨ q = 24 ∨ q = 25 ∨ q = 26 := by omega
      rcases hq' with rfl | rfl | rfl | rfl | rfl | rfl | rfl | rfl | rfl | rfl | rfl | rfl | rfl | rfl | rfl | rfl | rfl | rfl | rfl | rfl | rfl | rfl | rfl | rfl | rfl | rfl | rfl
      · obtain rfl := Option.some.inj ho
        have e5 : a'.tmps[5]? = some (.string s) := hout 5 (by decide)
        go_simp
        exact hK (.string s) w' rfl (Below.refl _ _)
      · obtain rfl := Option.some.inj ho
        have p0 : a'.tmps.getD 105 undef = .string s := hpre ⟨0, .data⟩ (by simp) 105 rfl
        simp only [Array.getD_eq_getD_getElem?] at p0
        go_simp
        exact hK _ _ (congrArg Value.string HZ1.out) (Below.refl _ _)
      · obtain rfl := Option.some.inj ho
        have e11 : a'.tmps[11]? = some (.pointer (some ⟨bx, 0, none⟩)) := hout 11 (by decide)
        go_simp
        exact hK (.pointer (some ⟨bx, 0, none⟩)) w' rfl (Below.refl _ _)
      · obtain rfl := Option.some.inj ho
        have p2 : a'.tmps.getD 107 undef = .pointer (some ⟨bx, 0, none⟩) := hpre ⟨2, .data⟩ (by simp) 107 rfl
        simp only [Array.getD_eq_getD_getElem?] at p2
        have c3 := cell_kept z0 hb'
        go_simp
        exact hK (.string fx.number) w' rfl (Below.refl _ _)
      · obtain rfl := Option.some.inj ho
        have p1 : a'.tmps.getD 106 undef = .string Z1 := hpre ⟨1, .data⟩ (by simp) 106 rfl
        simp only [Array.getD_eq_getD_getElem?] at p1
        have p3 : a'.tmps.getD 108 undef = .string fx.number := hpre ⟨3, .data⟩ (by simp) 108 rfl
        simp only [Array.getD_eq_getD_getElem?] at p3
        go_simp
        exact hK _ _ (congrArg Value.string HZ4.out) (Below.refl _ _)
      · obtain rfl := Option.some.inj ho
        have p4 : a'.tmps.getD 109 undef = .string Z4 := hpre ⟨4, .data⟩ (by simp) 109 rfl
        simp only [Array.getD_eq_getD_getElem?] at p4
        go_simp
        exact hK _ _ (congrArg Value.string HZ5.out) (Below.refl _ _)
      · obtain rfl := Option.some.inj ho
        have e11 : a'.tmps[11]? = some (.pointer (some ⟨bx, 0, none⟩)) := hout 11 (by decide)
        go_simp
        exact hK (.pointer (some ⟨bx, 1, none⟩)) w' rfl (Below.refl _ _)
      · obtain rfl := Option.some.inj ho
        have p6 : a'.tmps.getD 111 undef = .pointer (some ⟨bx, 1, none⟩) := hpre ⟨6, .data⟩ (by simp) 111 rfl
        simp only [Array.getD_eq_getD_getElem?] at p6
        have c7 := cell_kept z1 hb'
        go_simp
        exact hK (.string fx.src) w' rfl (Below.refl _ _)
      · obtain rfl := Option.some.inj ho
        have p5 : a'.tmps.getD 110 undef = .string Z5 := hpre ⟨5, .data⟩ (by simp) 110 rfl
        simp only [Array.getD_eq_getD_getElem?] at p5
        have p7 : a'.tmps.getD 112 undef = .string fx.src := hpre ⟨7, .data⟩ (by simp) 112 rfl
        simp only [Array.getD_eq_getD_getElem?] at p7
        go_simp
        exact hK _ _ (congrArg Value.string HZ8.out) (Below.refl _ _)
      · obtain rfl := Option.some.inj ho
        have p8 : a'.tmps.getD 113 undef = .string Z8 := hpre ⟨8, .data⟩ (by simp) 113 rfl
        simp only [Array.getD_eq_getD_getElem?] at p8
        go_simp
        exact hK _ _ (congrArg Value.string HZ9.out) (Below.refl _ _)
      · obtain rfl := Option.some.inj ho
        have e11 : a'.tmps[11]? = some (.pointer (some ⟨bx, 0, none⟩)) := hout 11 (by decide)
        go_simp
        exact hK (.pointer (some ⟨bx, 2, none⟩)) w' rfl (Below.refl _ _)
      · obtain rfl := Option.some.inj ho
        have p10 : a'.tmps.getD 115 undef = .pointer (some ⟨bx, 2, none⟩) := hpre ⟨10, .data⟩ (by simp) 115 rfl
        simp only [Array.getD_eq_getD_getElem?] at p10
        have c11 := cell_kept z2 hb'
        go_simp
        exact hK (.string fx.dst) w' rfl (Below.refl _ _)
      · obtain rfl := Option.some.inj ho
        have p9 : a'.tmps.getD 114 undef = .string Z9 := hpre ⟨9, .data⟩ (by simp) 114 rfl
        simp only [Array.getD_eq_getD_getElem?] at p9
        have p11 : a'.tmps.getD 116 undef = .string fx.dst := hpre ⟨11, .data⟩ (by simp) 116 rfl
        simp only [Array.getD_eq_getD_getElem?] at p11
        go_simp
        exact hK _ _ (congrArg Value.string HZ12.out) (Below.refl _ _)
      · obtain rfl := Option.some.inj ho
        have p12 : a'.tmps.getD 117 undef = .string Z12 := hpre ⟨12, .data⟩ (by simp) 117 rfl
        simp only [Array.getD_eq_getD_getElem?] at p12
        go_simp
        exact hK _ _ (congrArg Value.string HZ13.out) (Below.refl _ _)
      · obtain rfl := Option.some.inj ho
        have e11 : a'.tmps[11]? = some (.pointer (some ⟨bx, 0, none⟩)) := hout 11 (by decide)
        go_simp
        exact hK (.pointer (some ⟨bx, 5, none⟩)) w' rfl (Below.refl _ _)
      · obtain rfl := Option.some.inj ho
        have p14 : a'.tmps.getD 119 undef = .pointer (some ⟨bx, 5, none⟩) := hpre ⟨14, .data⟩ (by simp) 119 rfl
        simp only [Array.getD_eq_getD_getElem?] at p14
        have c15 := cell_kept z5 hb'
        go_simp
        exact hK (.string fx.kind) w' rfl (Below.refl _ _)
      · obtain rfl := Option.some.inj ho
        have p13 : a'.tmps.getD 118 undef = .string Z13 := hpre ⟨13, .data⟩ (by simp) 118 rfl
        simp only [Array.getD_eq_getD_getElem?] at p13
        have p15 : a'.tmps.getD 120 undef = .string fx.kind := hpre ⟨15, .data⟩ (by simp) 120 rfl
        simp only [Array.getD_eq_getD_getElem?] at p15
        go_simp
        exact hK _ _ (congrArg Value.string HZ16.out) (Below.refl _ _)
      · obtain rfl := Option.some.inj ho
        have p16 : a'.tmps.getD 121 undef = .string Z16 := hpre ⟨16, .data⟩ (by simp) 121 rfl
        simp only [Array.getD_eq_getD_getElem?] at p16
        go_simp
        exact hK _ _ (congrArg Value.string HZ17.out) (Below.refl _ _)
      · obtain rfl := Option.some.inj ho
        have e11 : a'.tmps[11]? = some (.pointer (some ⟨bx, 0, none⟩)) := hout 11 (by decide)
        go_simp
        exact hK (.pointer (some ⟨bx, 3, none⟩)) w' rfl (Below.refl _ _)
      · obtain rfl := Option.some.inj ho
        have p18 : a'.tmps.getD 123 undef = .pointer (some ⟨bx, 3, none⟩) := hpre ⟨18, .data⟩ (by simp) 123 rfl
        simp only [Array.getD_eq_getD_getElem?] at p18
        have c19 := cell_kept z3 hb'
        go_simp
        exact hK (.int .i64 fx.dep) w' rfl (Below.refl _ _)
      · obtain rfl := Option.some.inj ho
        have p19 : a'.tmps.getD 124 undef = .int .i64 fx.dep := hpre ⟨19, .data⟩ (by simp) 124 rfl
        simp only [Array.getD_eq_getD_getElem?] at p19
        go_simp
        go_at_call 29
        refine (HI1.out w' (HBR.out.trans (hb'.mono HBR.out.size))).mono ?_
        rintro e w'' ⟨rfl, hb''⟩
        exact hK _ _ rfl hb''
      · obtain rfl := Option.some.inj ho
        have p17 : a'.tmps.getD 122 undef = .string Z17 := hpre ⟨17, .data⟩ (by simp) 122 rfl
        simp only [Array.getD_eq_getD_getElem?] at p17
        have p20 : a'.tmps.getD 125 undef = .string iS := hpre ⟨20, .data⟩ (by simp) 125 rfl
        simp only [Array.getD_eq_getD_getElem?] at p20
        go_simp
        exact hK _ _ (congrArg Value.string HZ21.out) (Below.refl _ _)
      · obtain rfl := Option.some.inj ho
        have p21 : a'.tmps.getD 126 undef = .string Z21 := hpre ⟨21, .data⟩ (by simp) 126 rfl
        simp only [Array.getD_eq_getD_getElem?] at p21
        go_simp
        exact hK _ _ (congrArg Value.string HZ22.out) (Below.refl _ _)
      · obtain rfl := Option.some.inj ho
        have e11 : a'.tmps[11]? = some (.pointer (some ⟨bx, 0, none⟩)) := hout 11 (by decide)
        go_simp
        exact hK (.pointer (some ⟨bx, 4, none⟩)) w' rfl (Below.refl _ _)
      · obtain rfl := Option.some.inj ho
        have p23 : a'.tmps.getD 128 undef = .pointer (some ⟨bx, 4, none⟩) := hpre ⟨23, .data⟩ (by simp) 128 rfl
        simp only [Array.getD_eq_getD_getElem?] at p23
        have c24 := cell_kept z4 hb'
        go_simp
        exact hK (.int .i64 fx.arr) w' rfl (Below.refl _ _)
      · obtain rfl := Option.some.inj ho
        have p24 : a'.tmps.getD 129 undef = .int .i64 fx.arr := hpre ⟨24, .data⟩ (by simp) 129 rfl
        simp only [Array.getD_eq_getD_getElem?] at p24
        go_simp
        go_at_call 29
        refine (HI2.out w' (HBR.out.trans (hb'.mono HBR.out.size))).mono ?_
        rintro e w'' ⟨rfl, hb''⟩
        exact hK _ _ rfl hb''
      · obtain rfl := Option.some.inj ho
        have p22 : a'.tmps.getD 127 undef = .string Z22 := hpre ⟨22, .data⟩ (by simp) 127 rfl
        simp only [Array.getD_eq_getD_getElem?] at p22
        have p25 : a'.tmps.getD 130 undef = .string jS := hpre ⟨25, .data⟩ (by simp) 130 rfl
        simp only [Array.getD_eq_getD_getElem?] at p25
        go_simp
        exact hK _ _ (congrArg Value.string HZ26.out) (Below.refl _ _)
    · intro us w' hb' hfacts
      have h26 : us 26 = .string Z26 := hfacts 26 (by decide)
      simp only [putL, Act.put, List.setIfInBounds_toArray, List.set_cons_zero, List.set_cons_succ, Nat.zero_add, Nat.reduceAdd]
      generalize us 26 = x26 at *
      subst h26
      simp only [List.drop_succ_cons, List.drop_zero]
      clear hfacts
      have HX7 : Hid (w'.heap[bx]? = some (.cells #[.string fx.number, .string fx.src, .string fx.dst, .int .i64 fx.dep, .int .i64 fx.arr, .string fx.kind, .int .i64 fx.n0, .int .i64 fx.n1, .int .i64 fx.n2] 47 (0, 0))) := (hb'.block bx hxlt).trans HXA.out
      have HF7 : Hid (Below w1.heap.size w1 w') := HFA.out.trans (hb'.mono HFA.out.size)
      have HE : Hid (Z26.data.toList = pre ++ lineT [fliS, fx.number, fx.src, fx.dst, fx.kind] ++ restT [insD fx.dep, insC fx.dep, insD fx.arr, insC fx.arr]) := by
        show _ = _
        rw [← HALL.out, fliR_eq, HIE.out, HS.out]
      have hl7 : (pre ++ lineT [fliS, fx.number, fx.src, fx.dst, fx.kind] ++ restT [insD fx.dep, insC fx.dep, insD fx.arr, insC fx.arr]).length ≤ 62500 := by simp only [List.length_append]; omega
      generalize pre ++ lineT [fliS, fx.number, fx.src, fx.dst, fx.kind] ++ restT [insD fx.dep, insC fx.dep, insD fx.arr, insC fx.arr] = pre9 at *
      clear hb' HALL HIE HI1 HI2 HFA HXA HBR HS HWR z0 z1 z2 z3 z4 z5 hhu hfu uZ1 vZ1 HZ1 uZ4 vZ4 HZ4 uZ5 vZ5 HZ5 uZ8 vZ8 HZ8 uZ9 vZ9 HZ9 uZ12 vZ12 HZ12 uZ13 vZ13 HZ13 uZ16 vZ16 HZ16 uZ17 vZ17 HZ17 uZ21 vZ21 HZ21 uZ22 vZ22 HZ22 uZ26 vZ26 HZ26
      generalize Z26 = s7 at *
      go_wp2_with fail
      go_loopw [5, 12] (fun s i wq => ∃ (j : Nat) (sv : ByteArray), j ≤ 3 ∧ i = .int .i64 j ∧ s = .string sv ∧ Hid (sv.data.toList = pre9 ++ restT ((nS fx).take j)) ∧ Hid (Below w1.heap.size w1 wq) ∧ Hid (wq.heap[bx]? = some (.cells #[.string fx.number, .string fx.src, .string fx.dst, .int .i64 fx.dep, .int .i64 fx.arr, .string fx.kind, .int .i64 fx.n0, .int .i64 fx.n1, .int .i64 fx.n2] 47 (0, 0)))) (fun _ i _ => 3 - (intOf i).toNat)
      case atStart => exact ⟨0, s7, Nat.zero_le _, rfl, rfl, Lib.hid (by simpa [restT] using HE.out), HF7, HX7⟩
      case round =>
        clear HE HF7 HX7
        obtain ⟨j, s, hj, rfl, rfl, HS, HWQ, HX⟩ := hrel
        have hlen2 : (pre9 ++ restT ((nS fx).take j)).length ≤ 63000 := by
          have := nS_up HFG.out j
          rw [List.length_append]
          omega
        have hsz : s.size ≤ (pre9 ++ restT ((nS fx).take j)).length := by rw [Lib.size_eq, HS.out]; exact Nat.le_refl _
        by_cases hlt2 : j < 3
        · have hj3 : (j : Int) < 3 := by omega
          have hc6 : wr.cell? ⟨bx, 6 + j, none⟩ = some (.int .i64 (need_at fx j)) := by
            have : j = 0 ∨ j = 1 ∨ j = 2 := by omega
            rcases this with rfl | rfl | rfl
            · exact block_cell HX.out 6
            · exact block_cell HX.out 7
            · exact block_cell HX.out 8
          have hno := need_ok HFG.out j
          have hne := need_le hno
          have HNI : Hid (Calls Tryz.prog 30 #[.int .i64 (need_at fx j)] wr (StrB (numS (need_at fx j)) wr)) := formatIntR_any (need_at fx j) wr (by omega) (by omega) (HPW.out wr (HBW.out.trans (HWQ.out.mono hsw)))
          have HSN2 : Hid (pre9 ++ restT ((nS fx).take (j + 1)) = pre9 ++ restT ((nS fx).take j) ++ restT [numS (need_at fx j)]) := by
            show _ = _
            rw [nS_snoc fx hlt2, List.append_assoc]
          generalize need_at fx j = nd at *
          generalize pre9 ++ restT ((nS fx).take j) = pre10 at *
          generalize numS nd = ns at *
          unfold StrB at HNI
          have hbx3 : bx < wr.heap.size := (Array.getElem?_eq_some_iff.1 HX.out).1
          have vN : ¬ 9223372036854775807 < s.size + 1 := by omega
          have vM : ¬ 9223372036854775807 < (s ++ (⟨#[32]⟩ : ByteArray)).size + ns.size := by rw [ByteArray.size_append, sz1]; omega
          have vM2 : ¬ 9223372036854775807 < s.size + 1 + ns.size := by omega
          have HE : Hid ((s ++ (⟨#[32]⟩ : ByteArray) ++ ns).data.toList = pre9 ++ restT ((nS fx).take (j + 1))) := by
            show _ = _
            rw [nmbR_eq, HS.out, HSN2.out]
          clear HS HSN2 hno
          as_aux_lemma =>
            go_wp2_with fail
            refine HNI.out.mono ?_
            rintro e w6 ⟨rfl, hb6⟩
            have HF9 : Hid (Below w1.heap.size w1 w6) := HWQ.out.trans (hb6.mono HWQ.out.size)
            have HX9 : Hid (w6.heap[bx]? = some (.cells #[.string fx.number, .string fx.src, .string fx.dst, .int .i64 fx.dep, .int .i64 fx.arr, .string fx.kind, .int .i64 fx.n0, .int .i64 fx.n1, .int .i64 fx.n2] 47 (0, 0))) := (hb6.block bx hbx3).trans HX.out
            clear hb6 hc6 HNI HX HWQ
            go_wp2_with fail
            go_roundw
            case rel => exact ⟨j + 1, _, by omega, by go_num, rfl, HE, HF9, HX9⟩
            case measure => simp [intOf]; omega
        · have hj3 : ¬ (j : Int) < 3 := by omega
          rw [show (nS fx).take j = nS fx from List.take_of_length_le (by show 3 ≤ j; omega)] at HS hlen2 hsz
          have vN : ¬ 9223372036854775807 < s.size + 1 := by omega
          have HE : Hid ((s ++ (⟨#[10]⟩ : ByteArray)).data.toList = fL t (k + 1)) := by
            show _ = _
            rw [dataApp, HS.out, nl_eq, HSN.out]
          clear HS HSN
          as_aux_lemma =>
            go_wp2_with fail
            go_roundw
            case rel => exact ⟨k + 1, _, by omega, by go_num, rfl, HE, HWQ⟩
            case measure => simp [intOf]; omega
  have hse : s = ttS t := by
    have h9 := HS.out
    rw [show k = t.flights.length by omega, fL_all] at h9
    exact ext_bs h9
  have HBE : Hid (Below w.heap.size w wr) := HBW.out.trans (HWR.out.mono hsw)
  by_cases hbig : 20000 < s.size
  · have hbig' : ((20000 : Int) < (s.size : Nat)) := by omega
    have HE : Hid (R = (emS, 10)) := by show _ = _; rw [← HR.out, if_pos (by rw [← hse]; exact hbig)]
    clear hse hsz
    go_wp2_with fail
    go_ret2
    exact ⟨by rw [HE.out]; rfl, HBE.out⟩
  · have hbig' : ¬ ((20000 : Int) < (s.size : Nat)) := by omega
    have HE : Hid (R = (s, 0)) := by show _ = _; rw [← HR.out, if_neg (by rw [← hse]; exact hbig), hse]
    clear hse hsz
    go_wp2_with fail
    go_ret2
    exact ⟨by rw [HE.out]; rfl, HBE.out⟩
set_option maxRecDepth 100000 in
theorem ttFormatR_any (t : GTT) (A1 A2 A3 : Option Addr) (n1 n2 n3 c1 c2 c3 : Nat) (w : World) (ht : t.ok) (hs1 : Sl Ty.zone w (all_ w) A1 n1 c1 t.zones) (hs2 : Sl Ty.airport w (all_ w) A2 n2 c2 t.airports) (hs3 : Sl Ty.flight w (all_ w) A3 n3 c3 t.flights) (hp : Pow10 w) :
    Calls Tryz.prog 10 #[.agg #[.slice A1 n1 c1, .slice A2 n2 c2, .slice A3 n3 c3]] w (FmtPost (fmtT t) w) := by
  by_cases hv : ttE t = 0
  · unfold fmtT
    rw [if_neg (by simpa using hv)]
    exact ttFormatR_ok t A1 A2 A3 n1 n2 n3 c1 c2 c3 w ht hv hs1 hs2 hs3 hp
  · unfold fmtT
    rw [if_pos hv]
    have ha : ∀ o, Below w.heap.size w (w.alloc o) := fun o => (Below.refl _ _).alloc (Nat.le_refl _) _
    have HV : Hid (∀ o, Calls Tryz.prog 26 #[.agg #[.slice A1 n1 c1, .slice A2 n2 c2, .slice A3 n3 c3]] (w.alloc o) (ErrPost (ttE t) (w.alloc o))) := fun o => validateR_any t A1 A2 A3 n1 n2 n3 c1 c2 c3 (w.alloc o) ht (hs1.next (ha o)) (hs2.next (ha o)) (hs3.next (ha o))
    have HB0 := Lib.hid (ha (.cells #[.slice A1 n1 c1, .slice A2 n2 c2, .slice A3 n3 c3] 27))
    generalize ttE t = er at *
    have hv' : (er == 0) = false := by simpa using hv
    clear ha hs1 hs2 hs3 ht hp
    go_enter Tryz.func10, Tryz.ntmps10
    go_wp2_with fail
    refine (HV.out _).mono ?_
    rintro e w1 ⟨rfl, hb1⟩
    have HB1 : Hid (Below w.heap.size w w1) := HB0.out.trans (hb1.mono HB0.out.size)
    clear hb1 HB0 HV
    go_wp2_with fail
    go_ret2
    exact ⟨rfl, HB1.out⟩
end Go.Proofs.YtldeoaddogifpaaGreatDoor
/-
  XRegion's rule for a region that draws its order, with a preorder of worlds of one's own in place of Below.
  No condition.
-/
namespace Go.Proofs.YtldeoaddogifpaaGreatDoor
set_option linter.unusedSimpArgs false
set_option linter.unusedVariables false
open Go.RowKit Go

/-- What holds on the way through the heads. -/
structure HIR (R : World → World → Prop) (ops : Array Oper) (n : Nat) (a : Act) (W : World) (F : Nat → Value → World → Prop) (listed : Array Bool) (a' : Act) (w' : World) : Prop where
  lsize : listed.size = ops.size
  tail : ∀ t, n ≤ t → listed.getD t false = false
  defers : a'.defers = a.defers
  size : a'.tmps.size = a.tmps.size
  out : ∀ s, (∀ j, j < n → dstOf ops j ≠ some s) → a'.tmps[s]? = a.tmps[s]?
  facts : ∀ i d, i < n → listed.getD i false = true → dstOf ops i = some d → F i (a'.tmps.getD d undef) w'
  grow : R W w'

section
variable {R : World → World → Prop} {P : Program} {ops : Array Oper} {Q : Exit → Act → World → Prop} {n : Nat} {a : Act} {W : World} {F : Nat → Value → World → Prop}
theorem wpAny_factsR (hRt : ∀ {x y z : World}, R x y → R y z → R x z) {l : List Oper} (hl : l.toArray = ops) (hh : HeadFacts ops n a.tmps.size) (hseq : Region.seqB .any ops (ops.size - n) n (headListed ops n) = true)
    (hF : ∀ i v w w', F i v w → R w w' → F i v w')
    (hstep : ∀ i o, i < n → ops[i]? = some o → ∀ a' w', R W w' → (∀ s, (∀ j, j < n → dstOf ops j ≠ some s) → a'.tmps[s]? = a.tmps[s]?) →
      (∀ e ∈ o.after, ∀ d, dstOf ops e.on = some d → F e.on (a'.tmps.getD d undef) w') → ∀ K : Act → World → Prop, (∀ v w'', F i v w'' → R w' w'' → K (a'.put o.dst v) w'') → o.wp P a' w' K Q)
    (hfin : ∀ us w', R W w' → (∀ i, i < n → F i (us i) w') → wpList P ops Q (l.drop n) (putAll ops a us n) w') (hb : ∀ (i : Nat) (o : Oper), ops[i]? = some o → ∀ e ∈ o.after, Region.binds .any e = true) :
    ∀ (f : Nat) (listed : Array Bool) (a' : Act) (w' : World), left n listed = f → HIR R ops n a W F listed a' w' → wpAny P .any ops Q (f + (ops.size - n)) listed a' w' := by
  have hdl : (l.drop n).length = ops.size - n := by rw [List.length_drop, ← hl]; simp
  intro f
  induction f with
  | zero =>
    intro listed a' w' hlf hi
    have hall := left_zero hlf
    have e1 : listed = headListed ops n := by
      apply Array.ext
      · rw [hi.lsize]; simp [headListed]
      · intro k h1 h2
        have hk : k < ops.size := by rw [← hi.lsize]; exact h1
        have e3 : (headListed ops n)[k] = decide (k < n) := by simp [headListed]
        rw [e3]
        by_cases hkn : k < n
        · have := hall k hkn
          simp [h1] at this
          rw [this]; simp [hkn]
        · have := hi.tail k (by omega)
          simp [h1] at this
          rw [this]; simp [hkn]
    have e2 : a' = putAll ops a (fun i => a'.tmps.getD ((dstOf ops i).getD 0) undef) n := by
      have es : a'.tmps = (putAll ops a (fun i => a'.tmps.getD ((dstOf ops i).getD 0) undef) n).tmps := by
        apply Array.ext_getElem?
        intro s
        by_cases hs : ∃ i, i < n ∧ dstOf ops i = some s
        · obtain ⟨i, hin, hd⟩ := hs
          obtain ⟨d, hd', hlt⟩ := hh.dst i hin
          rw [hd] at hd'
          injection hd' with hd'
          subst hd'
          rw [putAll_in hlt hd hin fun j hj hji e => hji (hh.inj j i s hj hin e hd)]
          have : s < a'.tmps.size := by rw [hi.size]; exact hlt
          simp [hd, this]
        · rw [putAll_out fun j hj e => hs ⟨j, hj, e⟩]
          exact hi.out s fun j hj e => hs ⟨j, hj, e⟩
      have ed : a'.defers = (putAll ops a (fun i => a'.tmps.getD ((dstOf ops i).getD 0) undef) n).defers := by rw [putAll_defers]; exact hi.defers
      cases ha : a' with
      | mk t d =>
        rw [ha] at es ed
        cases hp : putAll ops a (fun i => (Act.mk t d).tmps.getD ((dstOf ops i).getD 0) undef) n with
        | mk t2 d2 =>
          rw [hp] at es ed
          simp only at es ed
          rw [es, ed]
    rw [Nat.zero_add, ← hdl]
    subst e1
    refine wpAny_of_seq (l.drop n) n _ a' w' (fun j => by rw [List.getElem?_drop, ← hl]; simp) (by rw [hdl]; exact hseq) ?_
    rw [e2]
    exact hfin _ w' hi.grow fun i hin => by
      obtain ⟨d, hd, _⟩ := hh.dst i hin
      have := hi.facts i d hin (hall i hin) hd
      simp only [hd, Option.getD_some]
      exact this
  | succ f ih =>
    intro listed a' w' hlf hi
    rw [show f + 1 + (ops.size - n) = (f + (ops.size - n)) + 1 by omega]
    have hle := hh.le
    refine ⟨fun h0 => ?_, fun i hr => ?_⟩
    · exfalso
      have hex : ∃ i, i < n ∧ listed.getD i false = false := by
        have hne : (List.range n).filter (fun i => !listed.getD i false) ≠ [] := fun e => by
          unfold left at hlf
          rw [e] at hlf
          cases hlf
        obtain ⟨i, hi'⟩ := List.exists_mem_of_ne_nil _ hne
        rw [List.mem_filter, List.mem_range] at hi'
        exact ⟨i, hi'.1, by simpa using hi'.2⟩
      have key : ∀ i, i < n → listed.getD i false = true := by
        intro i
        induction i using Nat.strongRecOn with
        | _ i ihi =>
          intro hin
          cases hli : listed.getD i false with
          | true => rfl
          | false =>
            exfalso
            have hil : i < listed.size := by rw [hi.lsize]; omega
            have hmem : i ∈ Region.ready .any ops listed := by
              rw [mem_ready]
              have hio : i < ops.size := by omega
              refine ⟨getD_in hil hli, ops[i], by simp [hio], fun e he _ => ?_⟩
              have hlt := hh.back i _ hin (by simp [hio]) e he
              exact ihi e.on hlt (by omega)
            rw [h0] at hmem
            cases hmem
      obtain ⟨i, hin, hlf'⟩ := hex
      rw [key i hin] at hlf'
      cases hlf'
    · obtain ⟨hun, o, ho, hall⟩ := mem_ready.1 hr
      have hun' := getD_both hun
      have hio : i < ops.size := (Array.getElem?_eq_some_iff.1 ho).1
      have hin : i < n := by
        rcases Nat.lt_or_ge i n with h | h
        · exact h
        · exfalso
          have hz : left n listed = 0 := by
            unfold left
            rw [List.length_eq_zero_iff, List.filter_eq_nil_iff]
            intro j hj
            obtain ⟨e, he, hon, hbd⟩ := hh.cover i o h ho j (List.mem_range.1 hj)
            have := hall e he hbd
            rw [hon] at this
            rw [this]
            simp
          omega
      have hil : i < listed.size := by rw [hi.lsize]; exact hio
      unfold wpOp
      rw [ho]
      have hwant : Region.wanted o (yielded ops a'.tmps) = true := by simp [Region.wanted, hh.guard i o hin ho]
      simp only [hwant, if_true]
      refine .inl (hstep i o hin ho a' w' hi.grow hi.out (fun e he d hd => ?_) _ fun v w'' hfv hbl => ?_)
      · exact hi.facts e.on d (Nat.lt_trans (hh.back i o hin ho e he) hin) (hall e he (hb i o ho e he)) hd
      · obtain ⟨d, hd, hdl'⟩ := hh.dst i hin
        have hod : o.dst = some d := by
          have : dstOf ops i = o.dst := by unfold dstOf; rw [ho]; rfl
          rw [← this]; exact hd
        refine ih _ _ _ ?_ ⟨by simpa using hi.lsize, fun t ht => by rw [getD_set_ne false (by omega)]; exact hi.tail t ht, ?_, ?_, fun s hs => ?_, fun j d' hj hlj hdj => ?_, hRt hi.grow hbl⟩
        · have := left_set hin hil hun'
          omega
        · rw [hod]; exact hi.defers
        · rw [hod]; simpa [Act.put] using hi.size
        · rw [hod]
          simp only [Act.put]
          rw [Array.getElem?_setIfInBounds_ne (fun e => hs i hin (by rw [hd, e]))]
          exact hi.out s hs
        · rw [hod]
          by_cases hji : j = i
          · subst hji
            rw [hd] at hdj
            injection hdj with hdj
            subst hdj
            have : d < a'.tmps.size := by rw [hi.size]; exact hdl'
            simp only [Act.put]
            simpa [this] using hfv
          · have hne : d ≠ d' := fun e => hji (hh.inj j i d' hj hin hdj (e ▸ hd))
            rw [getD_set_ne false (fun e => hji e.symm)] at hlj
            have h9 := hF j _ _ _ (hi.facts j d' hj hlj hdj) hbl
            simp only [Act.put]
            simpa [Array.getElem?_setIfInBounds_ne hne] using h9
/-- THE RULE. -/
theorem wp_region_factsR (R : World → World → Prop) (hRt : ∀ {x y z : World}, R x y → R y z → R x z) {id : Nat} {l : List Oper} {w : World} (n : Nat) (ds : List Nat) (F : Nat → Value → World → Prop) (hD : R w { w with drawn := w.drawn + 1 }) (hm : P.follows .mixedOrders = true) (hok : headOk l.toArray n a.tmps.size = true) (hds : ((List.range n).map (dstOf l.toArray) == ds.map some) = true) (hseq : Region.seqB .any l.toArray (l.toArray.size - n) n (headListed l.toArray n) = true)
    (hbind : (l.all fun o => o.after.all fun e => Region.binds .any e) = true)
    (hF : ∀ i v w w', F i v w → R w w' → F i v w')
    (hstep : ∀ i o, i < n → l[i]? = some o → ∀ a' w', R w w' → (∀ s, s ∉ ds → a'.tmps[s]? = a.tmps[s]?) →
      (∀ e ∈ o.after, ∀ d, ds[e.on]? = some d → F e.on (a'.tmps.getD d undef) w') → ∀ K : Act → World → Prop, (∀ v w'', F i v w'' → R w' w'' → K (a'.put o.dst v) w'') → o.wp P a' w' K Q)
    (hfin : ∀ us w', R w w' → (∀ i, i < n → F i (us i) w') → wpList P l.toArray Q (l.drop n) (putL us a ds 0) w') : (Code.region id l.toArray true).wp P Q a w := by
  have hh := headFacts hok
  have hdl := beq_iff_eq.1 hds
  have hlen : ds.length = n := by
    have := congrArg List.length hdl
    simpa using this.symm
  have hdi : ∀ i, i < n → dstOf l.toArray i = ds[i]? := fun i hi => by
    have := congrArg (·[i]?) hdl
    simp only [List.getElem?_map, List.getElem?_range hi, Option.map_some] at this
    rw [List.getElem?_eq_getElem (by omega)] at this ⊢
    simpa using this
  refine wp_region_any hm ?_
  have hb : ∀ (i : Nat) (o : Oper), l.toArray[i]? = some o → ∀ e ∈ o.after, Region.binds .any e = true := fun i o ho e he => by
    have hmem : o ∈ l := by
      have : l[i]? = some o := by simpa using ho
      exact List.mem_of_getElem? this
    have h1 := List.all_eq_true.1 hbind o hmem
    rw [Array.all_eq_true] at h1
    obtain ⟨k, hk, rfl⟩ := Array.getElem_of_mem he
    exact h1 k hk
  have hl0 : left n (Array.replicate l.toArray.size false) = n := by
    unfold left
    rw [List.filter_eq_self.2 fun i _ => by rw [getD_replicate_false]; rfl, List.length_range]
  have hsz : l.toArray.size = n + (l.toArray.size - n) := by have := hh.le; omega
  have key := wpAny_factsR (P := P) (Q := Q) (ops := l.toArray) (n := n) (a := a) (W := w) (F := F) (R := R) hRt rfl hh hseq hF
    (fun i o hi ho a' w' hb' hout hpre => hstep i o hi (by simpa using ho) a' w' hb'
      (fun s hs => hout s fun j hj e => hs (by rw [hdi j hj] at e; exact List.mem_of_getElem? e))
      (fun e he d hd => hpre e he d (by
        have hlt := hh.back i o hi ho e he
        rw [hdi e.on (by omega)]; exact hd)))
    (fun us w' hb' hf => by
      have := hfin us w' hb' hf
      rw [← List.take_of_length_le (l := ds) (i := n) (by omega)] at this
      rw [putAll_eq n (by omega) hdi]
      exact this) hb n (Array.replicate l.toArray.size false) a { w with drawn := w.drawn + 1 } hl0
    ⟨by simp, fun t _ => getD_replicate_false _ _, rfl, rfl, fun _ _ => rfl, fun i d _ h _ => (by rw [getD_replicate_false] at h; cases h), hD⟩
  rw [← hsz] at key
  exact key
end
end Go.Proofs.YtldeoaddogifpaaGreatDoor
/-
  XRegionR's rule where the last operations wait for the heads through others.
  No condition.
-/
namespace Go.Proofs.YtldeoaddogifpaaGreatDoor
set_option linter.unusedSimpArgs false
set_option linter.unusedVariables false
open Go.RowKit Go

/-- What an operation waits for, through others, too. -/
def cloFrom (ops : Array Oper) (t : Nat) : List Nat :=
  (List.range (t + 1)).reverse.foldl (fun acc i => if acc.contains i then acc ++ (match ops[i]? with
    | some o => o.after.toList.map (·.on)
    | none => []) else acc) [t]
theorem cloFrom_listed {ops : Array Oper} {t : Nat} {L : Nat → Prop} (h : ∀ i o, ops[i]? = some o → (i = t ∨ L i) → ∀ e ∈ o.after, L e.on) : ∀ x ∈ cloFrom ops t, x = t ∨ L x := by
  unfold cloFrom
  have key : ∀ (l : List Nat) (acc : List Nat), (∀ x ∈ acc, x = t ∨ L x) → ∀ x ∈ l.foldl (fun acc i => if acc.contains i then acc ++ (match ops[i]? with
    | some o => o.after.toList.map (·.on)
    | none => []) else acc) acc, x = t ∨ L x := by
    intro l
    induction l with
    | nil => intro acc ha x hx; exact ha x hx
    | cons i l ih =>
      intro acc ha
      rw [List.foldl_cons]
      apply ih
      intro x hx
      split at hx
      · rename_i hc
        have hi := ha i (by simpa using hc)
        rcases List.mem_append.1 hx with hx | hx
        · exact ha x hx
        · split at hx
          · rename_i o ho
            obtain ⟨e, he, rfl⟩ := List.mem_map.1 hx
            exact .inr (h i o ho hi e (by simpa using he))
          · cases hx
      · exact ha x hx
  exact key _ _ (fun x hx => .inl (by simpa using hx))
def headOkT (ops : Array Oper) (n size : Nat) : Bool :=
  (List.range n).all (fun i => match dstOf ops i with
    | some d => decide (d < size) && (List.range i).all (fun j => dstOf ops j != some d)
    | none => false) &&
  (List.range n).all (fun i => match ops[i]? with
    | some o => o.guard.isNone && o.after.all (fun e => decide (e.on < i))
    | none => false) &&
  (List.range ops.size).all (fun t => decide (t < n) || (List.range n).all fun i => (cloFrom ops t).contains i) && decide (n ≤ ops.size)
structure HeadFactsT (ops : Array Oper) (n size : Nat) : Prop where
  dst : ∀ i, i < n → ∃ d, dstOf ops i = some d ∧ d < size
  inj : ∀ i j d, i < n → j < n → dstOf ops i = some d → dstOf ops j = some d → i = j
  guard : ∀ i o, i < n → ops[i]? = some o → o.guard = none
  back : ∀ i o, i < n → ops[i]? = some o → ∀ e ∈ o.after, e.on < i
  cover : ∀ t o, n ≤ t → ops[t]? = some o → ∀ i, i < n → i ∈ cloFrom ops t
  le : n ≤ ops.size
theorem headFactsT {ops : Array Oper} {n size : Nat} (h : headOkT ops n size = true) : HeadFactsT ops n size := by
  unfold headOkT at h
  simp only [Bool.and_eq_true, List.all_eq_true, List.mem_range, decide_eq_true_eq] at h
  obtain ⟨⟨⟨h1, h2⟩, h3⟩, h4⟩ := h
  have h1' : ∀ i, i < n → ∃ d, dstOf ops i = some d ∧ d < size ∧ ∀ j, j < i → dstOf ops j ≠ some d := fun i hi => by
    have := h1 i hi
    cases hd : dstOf ops i with
    | none => rw [hd] at this; cases this
    | some d =>
      rw [hd] at this
      simp only [Bool.and_eq_true, decide_eq_true_eq, List.all_eq_true, List.mem_range, bne_iff_ne] at this
      exact ⟨d, rfl, this.1, this.2⟩
  refine ⟨fun i hi => ?_, fun i j d hi hj e1 e2 => ?_, fun i o hi ho => ?_, fun i o hi ho e he => ?_, fun t o ht ho i hi => ?_, h4⟩
  · obtain ⟨d, e, hl, _⟩ := h1' i hi
    exact ⟨d, e, hl⟩
  · rcases Nat.lt_trichotomy i j with hlt | rfl | hlt
    · obtain ⟨d', e', _, hn⟩ := h1' j hj
      rw [e2] at e'
      injection e' with e'
      subst e'
      exact absurd e1 (hn i hlt)
    · rfl
    · obtain ⟨d', e', _, hn⟩ := h1' i hi
      rw [e1] at e'
      injection e' with e'
      subst e'
      exact absurd e2 (hn j hlt)
  · have := h2 i hi
    rw [ho] at this
    simp only [Bool.and_eq_true, Option.isNone_iff_eq_none] at this
    exact this.1
  · have := h2 i hi
    rw [ho] at this
    simp only [Bool.and_eq_true, Array.all_eq_true] at this
    obtain ⟨k, hk, rfl⟩ := Array.getElem_of_mem he
    exact of_decide_eq_true (this.2 k hk)
  · have hts : t < ops.size := (Array.getElem?_eq_some_iff.1 ho).1
    have := h3 t hts
    simp only [Bool.or_eq_true, decide_eq_true_eq, List.all_eq_true, List.mem_range, List.contains_iff_mem] at this
    rcases this with h | h
    · omega
    · exact h i hi
/-- What holds on the way through the heads. -/
structure HIT (R : World → World → Prop) (ops : Array Oper) (n : Nat) (a : Act) (W : World) (F : Nat → Value → World → Prop) (listed : Array Bool) (a' : Act) (w' : World) : Prop where
  lsize : listed.size = ops.size
  tail : ∀ t, n ≤ t → listed.getD t false = false
  defers : a'.defers = a.defers
  size : a'.tmps.size = a.tmps.size
  out : ∀ s, (∀ j, j < n → dstOf ops j ≠ some s) → a'.tmps[s]? = a.tmps[s]?
  facts : ∀ i d, i < n → listed.getD i false = true → dstOf ops i = some d → F i (a'.tmps.getD d undef) w'
  grow : R W w'
  closed : ∀ i o, ops[i]? = some o → listed.getD i false = true → ∀ e ∈ o.after, listed.getD e.on false = true

section
variable {R : World → World → Prop} {P : Program} {ops : Array Oper} {Q : Exit → Act → World → Prop} {n : Nat} {a : Act} {W : World} {F : Nat → Value → World → Prop}
theorem wpAny_factsT (hRt : ∀ {x y z : World}, R x y → R y z → R x z) {l : List Oper} (hl : l.toArray = ops) (hh : HeadFactsT ops n a.tmps.size) (hseq : Region.seqB .any ops (ops.size - n) n (headListed ops n) = true)
    (hF : ∀ i v w w', F i v w → R w w' → F i v w')
    (hstep : ∀ i o, i < n → ops[i]? = some o → ∀ a' w', R W w' → (∀ s, (∀ j, j < n → dstOf ops j ≠ some s) → a'.tmps[s]? = a.tmps[s]?) →
      (∀ e ∈ o.after, ∀ d, dstOf ops e.on = some d → F e.on (a'.tmps.getD d undef) w') → ∀ K : Act → World → Prop, (∀ v w'', F i v w'' → R w' w'' → K (a'.put o.dst v) w'') → o.wp P a' w' K Q)
    (hfin : ∀ us w', R W w' → (∀ i, i < n → F i (us i) w') → wpList P ops Q (l.drop n) (putAll ops a us n) w') (hb : ∀ (i : Nat) (o : Oper), ops[i]? = some o → ∀ e ∈ o.after, Region.binds .any e = true) :
    ∀ (f : Nat) (listed : Array Bool) (a' : Act) (w' : World), left n listed = f → HIT R ops n a W F listed a' w' → wpAny P .any ops Q (f + (ops.size - n)) listed a' w' := by
  have hdl : (l.drop n).length = ops.size - n := by rw [List.length_drop, ← hl]; simp
  intro f
  induction f with
  | zero =>
    intro listed a' w' hlf hi
    have hall := left_zero hlf
    have e1 : listed = headListed ops n := by
      apply Array.ext
      · rw [hi.lsize]; simp [headListed]
      · intro k h1 h2
        have hk : k < ops.size := by rw [← hi.lsize]; exact h1
        have e3 : (headListed ops n)[k] = decide (k < n) := by simp [headListed]
        rw [e3]
        by_cases hkn : k < n
        · have := hall k hkn
          simp [h1] at this
          rw [this]; simp [hkn]
        · have := hi.tail k (by omega)
          simp [h1] at this
          rw [this]; simp [hkn]
    have e2 : a' = putAll ops a (fun i => a'.tmps.getD ((dstOf ops i).getD 0) undef) n := by
      have es : a'.tmps = (putAll ops a (fun i => a'.tmps.getD ((dstOf ops i).getD 0) undef) n).tmps := by
        apply Array.ext_getElem?
        intro s
        by_cases hs : ∃ i, i < n ∧ dstOf ops i = some s
        · obtain ⟨i, hin, hd⟩ := hs
          obtain ⟨d, hd', hlt⟩ := hh.dst i hin
          rw [hd] at hd'
          injection hd' with hd'
          subst hd'
          rw [putAll_in hlt hd hin fun j hj hji e => hji (hh.inj j i s hj hin e hd)]
          have : s < a'.tmps.size := by rw [hi.size]; exact hlt
          simp [hd, this]
        · rw [putAll_out fun j hj e => hs ⟨j, hj, e⟩]
          exact hi.out s fun j hj e => hs ⟨j, hj, e⟩
      have ed : a'.defers = (putAll ops a (fun i => a'.tmps.getD ((dstOf ops i).getD 0) undef) n).defers := by rw [putAll_defers]; exact hi.defers
      cases ha : a' with
      | mk t d =>
        rw [ha] at es ed
        cases hp : putAll ops a (fun i => (Act.mk t d).tmps.getD ((dstOf ops i).getD 0) undef) n with
        | mk t2 d2 =>
          rw [hp] at es ed
          simp only at es ed
          rw [es, ed]
    rw [Nat.zero_add, ← hdl]
    subst e1
    refine wpAny_of_seq (l.drop n) n _ a' w' (fun j => by rw [List.getElem?_drop, ← hl]; simp) (by rw [hdl]; exact hseq) ?_
    rw [e2]
    exact hfin _ w' hi.grow fun i hin => by
      obtain ⟨d, hd, _⟩ := hh.dst i hin
      have := hi.facts i d hin (hall i hin) hd
      simp only [hd, Option.getD_some]
      exact this
  | succ f ih =>
    intro listed a' w' hlf hi
    rw [show f + 1 + (ops.size - n) = (f + (ops.size - n)) + 1 by omega]
    have hle := hh.le
    refine ⟨fun h0 => ?_, fun i hr => ?_⟩
    · exfalso
      have hex : ∃ i, i < n ∧ listed.getD i false = false := by
        have hne : (List.range n).filter (fun i => !listed.getD i false) ≠ [] := fun e => by
          unfold left at hlf
          rw [e] at hlf
          cases hlf
        obtain ⟨i, hi'⟩ := List.exists_mem_of_ne_nil _ hne
        rw [List.mem_filter, List.mem_range] at hi'
        exact ⟨i, hi'.1, by simpa using hi'.2⟩
      have key : ∀ i, i < n → listed.getD i false = true := by
        intro i
        induction i using Nat.strongRecOn with
        | _ i ihi =>
          intro hin
          cases hli : listed.getD i false with
          | true => rfl
          | false =>
            exfalso
            have hil : i < listed.size := by rw [hi.lsize]; omega
            have hmem : i ∈ Region.ready .any ops listed := by
              rw [mem_ready]
              have hio : i < ops.size := by omega
              refine ⟨getD_in hil hli, ops[i], by simp [hio], fun e he _ => ?_⟩
              have hlt := hh.back i _ hin (by simp [hio]) e he
              exact ihi e.on hlt (by omega)
            rw [h0] at hmem
            cases hmem
      obtain ⟨i, hin, hlf'⟩ := hex
      rw [key i hin] at hlf'
      cases hlf'
    · obtain ⟨hun, o, ho, hall⟩ := mem_ready.1 hr
      have hun' := getD_both hun
      have hio : i < ops.size := (Array.getElem?_eq_some_iff.1 ho).1
      have hin : i < n := by
        rcases Nat.lt_or_ge i n with h | h
        · exact h
        · exfalso
          have hz : left n listed = 0 := by
            unfold left
            rw [List.length_eq_zero_iff, List.filter_eq_nil_iff]
            intro j hj
            have hjn := List.mem_range.1 hj
            have hcl := cloFrom_listed (t := i) (L := fun x => listed.getD x false = true) (fun k ok hok hk e he => by
              rcases hk with rfl | hk
              · rw [ho] at hok
                obtain rfl := Option.some.inj hok
                exact hall e he (hb k o ho e he)
              · exact hi.closed k ok hok hk e he) j (hh.cover i o h ho j hjn)
            rcases hcl with h9 | h9
            · omega
            · rw [h9]; simp
          omega
      have hil : i < listed.size := by rw [hi.lsize]; exact hio
      unfold wpOp
      rw [ho]
      have hwant : Region.wanted o (yielded ops a'.tmps) = true := by simp [Region.wanted, hh.guard i o hin ho]
      simp only [hwant, if_true]
      refine .inl (hstep i o hin ho a' w' hi.grow hi.out (fun e he d hd => ?_) _ fun v w'' hfv hbl => ?_)
      · exact hi.facts e.on d (Nat.lt_trans (hh.back i o hin ho e he) hin) (hall e he (hb i o ho e he)) hd
      · obtain ⟨d, hd, hdl'⟩ := hh.dst i hin
        have hod : o.dst = some d := by
          have : dstOf ops i = o.dst := by unfold dstOf; rw [ho]; rfl
          rw [← this]; exact hd
        refine ih _ _ _ ?_ ⟨by simpa using hi.lsize, fun t ht => by rw [getD_set_ne false (by omega)]; exact hi.tail t ht, ?_, ?_, fun s hs => ?_, fun j d' hj hlj hdj => ?_, hRt hi.grow hbl, fun k ok hok hk e he => ?_⟩
        · have := left_set hin hil hun'
          omega
        · rw [hod]; exact hi.defers
        · rw [hod]; simpa [Act.put] using hi.size
        · rw [hod]
          simp only [Act.put]
          rw [Array.getElem?_setIfInBounds_ne (fun e => hs i hin (by rw [hd, e]))]
          exact hi.out s hs
        · rw [hod]
          by_cases hji : j = i
          · subst hji
            rw [hd] at hdj
            injection hdj with hdj
            subst hdj
            have : d < a'.tmps.size := by rw [hi.size]; exact hdl'
            simp only [Act.put]
            simpa [this] using hfv
          · have hne : d ≠ d' := fun e => hji (hh.inj j i d' hj hin hdj (e ▸ hd))
            rw [getD_set_ne false (fun e => hji e.symm)] at hlj
            have h9 := hF j _ _ _ (hi.facts j d' hj hlj hdj) hbl
            simp only [Act.put]
            simpa [Array.getElem?_setIfInBounds_ne hne] using h9
        · have hmon : ∀ x, listed.getD x false = true → (listed.setIfInBounds i true).getD x false = true := fun x hx => by
            by_cases hxi : x = i
            · subst hxi; simp [hil]
            · rw [getD_set_ne false (fun e => hxi e.symm)]; exact hx
          by_cases hki : k = i
          · subst hki
            rw [ho] at hok
            obtain rfl := Option.some.inj hok
            exact hmon _ (hall e he (hb k o ho e he))
          · rw [getD_set_ne false (fun e => hki e.symm)] at hk
            exact hmon _ (hi.closed k ok hok hk e he)
/-- THE RULE. -/
theorem wp_region_factsT (R : World → World → Prop) (hRt : ∀ {x y z : World}, R x y → R y z → R x z) {id : Nat} {l : List Oper} {w : World} (n : Nat) (ds : List Nat) (F : Nat → Value → World → Prop) (hD : R w { w with drawn := w.drawn + 1 }) (hm : P.follows .mixedOrders = true) (hok : headOkT l.toArray n a.tmps.size = true) (hds : ((List.range n).map (dstOf l.toArray) == ds.map some) = true) (hseq : Region.seqB .any l.toArray (l.toArray.size - n) n (headListed l.toArray n) = true)
    (hbind : (l.all fun o => o.after.all fun e => Region.binds .any e) = true)
    (hF : ∀ i v w w', F i v w → R w w' → F i v w')
    (hstep : ∀ i o, i < n → l[i]? = some o → ∀ a' w', R w w' → (∀ s, s ∉ ds → a'.tmps[s]? = a.tmps[s]?) →
      (∀ e ∈ o.after, ∀ d, ds[e.on]? = some d → F e.on (a'.tmps.getD d undef) w') → ∀ K : Act → World → Prop, (∀ v w'', F i v w'' → R w' w'' → K (a'.put o.dst v) w'') → o.wp P a' w' K Q)
    (hfin : ∀ us w', R w w' → (∀ i, i < n → F i (us i) w') → wpList P l.toArray Q (l.drop n) (putL us a ds 0) w') : (Code.region id l.toArray true).wp P Q a w := by
  have hh := headFactsT hok
  have hdl := beq_iff_eq.1 hds
  have hlen : ds.length = n := by
    have := congrArg List.length hdl
    simpa using this.symm
  have hdi : ∀ i, i < n → dstOf l.toArray i = ds[i]? := fun i hi => by
    have := congrArg (·[i]?) hdl
    simp only [List.getElem?_map, List.getElem?_range hi, Option.map_some] at this
    rw [List.getElem?_eq_getElem (by omega)] at this ⊢
    simpa using this
  refine wp_region_any hm ?_
  have hb : ∀ (i : Nat) (o : Oper), l.toArray[i]? = some o → ∀ e ∈ o.after, Region.binds .any e = true := fun i o ho e he => by
    have hmem : o ∈ l := by
      have : l[i]? = some o := by simpa using ho
      exact List.mem_of_getElem? this
    have h1 := List.all_eq_true.1 hbind o hmem
    rw [Array.all_eq_true] at h1
    obtain ⟨k, hk, rfl⟩ := Array.getElem_of_mem he
    exact h1 k hk
  have hl0 : left n (Array.replicate l.toArray.size false) = n := by
    unfold left
    rw [List.filter_eq_self.2 fun i _ => by rw [getD_replicate_false]; rfl, List.length_range]
  have hsz : l.toArray.size = n + (l.toArray.size - n) := by have := hh.le; omega
  have key := wpAny_factsT (P := P) (Q := Q) (ops := l.toArray) (n := n) (a := a) (W := w) (F := F) (R := R) hRt rfl hh hseq hF
    (fun i o hi ho a' w' hb' hout hpre => hstep i o hi (by simpa using ho) a' w' hb'
      (fun s hs => hout s fun j hj e => hs (by rw [hdi j hj] at e; exact List.mem_of_getElem? e))
      (fun e he d hd => hpre e he d (by
        have hlt := hh.back i o hi ho e he
        rw [hdi e.on (by omega)]; exact hd)))
    (fun us w' hb' hf => by
      have := hfin us w' hb' hf
      rw [← List.take_of_length_le (l := ds) (i := n) (by omega)] at this
      rw [putAll_eq n (by omega) hdi]
      exact this) hb n (Array.replicate l.toArray.size false) a { w with drawn := w.drawn + 1 } hl0
    ⟨by simp, fun t _ => getD_replicate_false _ _, rfl, rfl, fun _ _ => rfl, fun i d _ h _ => (by rw [getD_replicate_false] at h; cases h), hD, fun i o _ h => (by rw [getD_replicate_false] at h; cases h)⟩
  rw [← hsz] at key
  exact key
end
end Go.Proofs.YtldeoaddogifpaaGreatDoor
/-
  XRegionT's rule for facts that stay under Below.
  No condition.
-/
namespace Go.Proofs.YtldeoaddogifpaaGreatDoor
set_option linter.unusedSimpArgs false
set_option linter.unusedVariables false
open Go.RowKit

section
variable {P : Program} {a : Act} {Q : Exit → Act → World → Prop}
theorem wp_region_factsB {id : Nat} {l : List Oper} {w : World} (n : Nat) (ds : List Nat) (F : Nat → Value → World → Prop) (hm : P.follows .mixedOrders = true) (hok : headOkT l.toArray n a.tmps.size = true) (hds : ((List.range n).map (dstOf l.toArray) == ds.map some) = true) (hseq : Region.seqB .any l.toArray (l.toArray.size - n) n (headListed l.toArray n) = true)
    (hbind : (l.all fun o => o.after.all fun e => Region.binds .any e) = true)
    (hF : ∀ i v w w', F i v w → Below w.heap.size w w' → F i v w')
    (hstep : ∀ i o, i < n → l[i]? = some o → ∀ a' w', Below w.heap.size w w' → (∀ s, s ∉ ds → a'.tmps[s]? = a.tmps[s]?) →
      (∀ e ∈ o.after, ∀ d, ds[e.on]? = some d → F e.on (a'.tmps.getD d undef) w') → ∀ K : Act → World → Prop, (∀ v w'', F i v w'' → Below w'.heap.size w' w'' → K (a'.put o.dst v) w'') → o.wp P a' w' K Q)
    (hfin : ∀ us w', Below w.heap.size w w' → (∀ i, i < n → F i (us i) w') → wpList P l.toArray Q (l.drop n) (putL us a ds 0) w') : (Code.region id l.toArray true).wp P Q a w :=
  wp_region_factsT (fun x y => Below x.heap.size x y) (fun h h' => h.trans (h'.mono h.size)) n ds F ⟨rfl, rfl, rfl, Nat.le_refl _, fun _ _ => rfl⟩ hm hok hds hseq hbind hF hstep hfin
end
end Go.Proofs.YtldeoaddogifpaaGreatDoor
