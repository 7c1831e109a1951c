/-
  The row of CrewBytes: for every input the law returns true, and the arguments read as before. No condition.
-/
import Derived.Test.YtkhedjfdjjeopaaBase
import Derived.Test.YtkhedjfdjjeopaaLight
import Derived.Test.YtkhedjfdjjeopaaIndexRef
import Derived.Test.YtkhedjfdjjeopaaCrewPlain
import Derived.Test.YtkhedjfdjjeopaaFrame
import Derived.Test.YtkhedjfdjjeopaaWS
import Derived.Test.YtkhedjfdjjeopaaCrewBody
import Derived.Test.YtkhedjfdjjeopaaCrewValidate
import Derived.Test.YtkhedjfdjjeopaaTTRead
import Derived.Test.YtkhedjfdjjeopaaUnframe
import Derived.Test.YtkhedjfdjjeopaaValidateRef
import Derived.Test.YtkhedjfdjjeopaaCrc
import Derived.Deep.DeepCutAuto
import Derived.Deep.RegionLaw
import Derived.Test.YtkhedjfdjjeopaaRef8Enc
import Derived.Test.YtkhedjfdjjeopaaRef8Reader
import Derived.Test.YtkhedjfdjjeopaaRef8Unframe
import Derived.Deep.CutBlock
import Derived.Test.YtkhedjfdjjeopaaRef8Sum
import Derived.Test.YtkhedjfdjjeopaaRowLib
import Derived.Test.YtkhedjfdjjeopaaFitsCrew
/-
  Contracts of pairinglaw10.table, pairinglaw10.Light, crew.Qualified (slices.Contains, slices.Index).
  Condition: the slices read as lists.
-/
namespace Go.Proofs.Ytkhedjfdjjeopaa
set_option linter.unusedSimpArgs false
set_option linter.unusedVariables false
open Go.RowKit

def baseTbl : GTT := ⟨baseZones, baseAirports, []⟩
/-- The new timetable without flights is handed back. -/
def TblPost (w : World) (e : Ending) (w' : World) : Prop :=
  ∃ A1 n1 c1 A2 n2 c2, e = .returned (.agg #[.slice A1 n1 c1, .slice A2 n2 c2, .slice none 0 0]) ∧
    Sl Ty.zone w' (fun b => w.heap.size ≤ b ∧ b < w'.heap.size) A1 n1 c1 baseTbl.zones ∧ Sl Ty.airport w' (fun b => w.heap.size ≤ b ∧ b < w'.heap.size) A2 n2 c2 baseTbl.airports ∧ Below w.heap.size w w'
set_option maxRecDepth 100000 in
theorem crewTable_any (w : World) : Calls Try.prog 13 #[] w (TblPost w) := by
  have hb0 := (Below.refl w.heap.size w).alloc (Nat.le_refl _) (.cells #[.slice none 0 0, .slice none 0 0, .slice none 0 0] 26)
  have hr0 := heap_alloc_new w (.cells #[.slice none 0 0, .slice none 0 0, .slice none 0 0] 26)
  have hz0 : (w.alloc (.cells #[.slice none 0 0, .slice none 0 0, .slice none 0 0] 26)).heap.size = w.heap.size + 1 := by simp
  have HB0 := Lib.hid hb0; have HR0 := Lib.hid hr0; have HZ0 := Lib.hid hz0
  clear hb0 hr0 hz0
  go_enter Try.func13, Try.ntmps13
  go_wp2_with fail
  generalize w.alloc (.cells #[.slice none 0 0, .slice none 0 0, .slice none 0 0] 26) = W at *
  refine (zones_any W).mono ?_
  rintro e w1 ⟨A1, n1, c1, rfl, hs1, hb1⟩
  go_wp2_with fail
  refine (airports_any w1).mono ?_
  rintro e w2 ⟨A2, n2, c2, rfl, hs2, hb2⟩
  have hbW : Below W.heap.size W w2 := hb1.trans (hb2.mono hb1.size)
  have hbw : Below w.heap.size w w2 := HB0.out.trans (hbW.mono HB0.out.size)
  have hR := (hbW.block _ (by have := HZ0.out; omega)).trans HR0.out
  have z0 : w2.cell? ⟨w.heap.size, 0, none⟩ = some (.slice none 0 0) := block_cell hR 0
  have z1 : w2.cell? ⟨w.heap.size, 1, none⟩ = some (.slice none 0 0) := block_cell hR 1
  have z2 : w2.cell? ⟨w.heap.size, 2, none⟩ = some (.slice none 0 0) := block_cell hR 2
  have f0 : w2.frozen? ⟨w.heap.size, 0, none⟩ = false := block_free hR 0
  have f1 : w2.frozen? ⟨w.heap.size, 1, none⟩ = false := block_free hR 1
  have f2 : w2.frozen? ⟨w.heap.size, 2, none⟩ = false := block_free hR 2
  have HW := HZ0.out
  have hs1' := hb2.size; have hs0' := hb1.size
  have HS1 := Lib.hid hs1; have HS2 := Lib.hid hs2; have HB2 := Lib.hid hb2; have HBW := Lib.hid hbw
  clear hR hs1 hs2 hb1 hb2 hbw hbW
  go_wp2_with fail
  refine bodyPost_ret (v := .agg #[.slice A1 n1 c1, .slice A2 n2 c2, .slice none 0 0]) (by simp [results, Try.results13, go_sem, z0, z1, z2]) rfl ⟨A1, n1, c1, A2, n2, c2, rfl, ?_, ?_, ?_⟩
  · refine (HS1.out.keep fun q hq => ?_).more fun q hq => ⟨by omega, by simp; omega⟩
    repeat rw [heap_setCell_other _ _ _ _ (by simp; omega)]
    exact HB2.out.block q hq.2
  · refine (HS2.out.keep fun q hq => ?_).more fun q hq => ⟨by omega, by simp; omega⟩
    repeat rw [heap_setCell_other _ _ _ _ (by simp; omega)]
  · exact ((HBW.out.setCell (Nat.le_refl _) _).setCell (Nat.le_refl _) _).setCell (Nat.le_refl _) _
set_option maxRecDepth 100000 in
theorem crewLight_any (l : List GPerson) (A : Option Addr) (n c : Nat) (w : World) (hs : Sl Ty.person w (all_ w) A n c l) :
    Calls Try.prog 8 #[.slice A n c] w (SomeBool w) := by
  have hle := hs.le
  unfold maxLen at hle
  have e1 : n ≤ l.length := Nat.le_of_eq hs.len
  have HS := Lib.hid hs
  clear hs
  go_enter Try.func8, Try.ntmps8
  go_wp2_with fail
  go_loopw [3, 4] (fun nv i wr => ∃ (k : Nat) (m : Int), k ≤ n ∧ i = .int .i64 k ∧ nv = .int .i64 m ∧ Below w.heap.size w wr) (fun _ i _ => n - (intOf i).toNat)
  case atStart => exact ⟨0, _, Nat.zero_le _, rfl, rfl, Below.refl _ _⟩
  case round =>
    obtain ⟨k, m, hk, rfl, rfl, hbr⟩ := hrel
    by_cases hlt : k < n
    · obtain ⟨b, o, B1, k1, d1, B2, k2, d2, rfl, hbS, hat, hsT, hsV⟩ := (HS.out.keep (w' := wr) (all_keep hbr)).person_at (k := k) (by omega)
      have y5 := hat 5 _ rfl; have y6 := hat 6 _ rfl
      have HD : Hid (∀ q, Below w.heap.size w (wr.drewN q)) := fun q => below_drewN hbr q
      clear hat hsT hsV
      have t1 : (0 : Int) ≤ (k : Int) := by omega
      have t2 : (k : Int) < (n : Int) := by omega
      by_cases hm : m < 1000
      · go_wp2_with fail
        go_quiet (fail)
        go_wp2_with fail
        go_roundw
        case rel => exact ⟨k + 1, _, by omega, by go_num, rfl, HD.out _⟩
        case measure => simp [intOf]; omega
      · go_wp2_with fail
        go_ret
        exact ⟨_, rfl, hbr⟩
    · go_wp2_with fail
      go_ret
      exact ⟨_, rfl, hbr⟩
set_option maxRecDepth 100000 in
theorem indexStr_any (xs : List ByteArray) (a : ByteArray) (A : Option Addr) (n c : Nat) (S : Nat → Prop) (w : World) (hsl : Sl Ty.str w S A n c xs) :
    Calls Try.prog 68 #[.slice A n c, .string a] w fun e w' => e = .returned (.int .i64 (idxOf xs a)) ∧ w = w' := by
  have hn := hsl.len
  have hnl := hsl.le
  unfold maxLen at hnl
  subst hn
  have HSL := Lib.hid hsl; clear hsl
  go_enter Try.func68, Try.ntmps68
  go_wp2_with fail
  go_loop [4, 5, 8] (fun _ _ i => ∃ k : Nat, k ≤ xs.length ∧ i = .int .i64 k ∧ Hid (hasB (xs.take k) a = false)) (fun _ _ i => xs.length - (intOf i).toNat)
  case atStart => exact ⟨0, Nat.zero_le _, rfl, rfl⟩
  case round =>
    obtain ⟨k, hk, rfl, HK⟩ := hrel
    by_cases hlt : k < xs.length
    · obtain ⟨b, o, rfl, hbS, hc0⟩ := HSL.out.name_at hlt
      have he : xs[k]? = some (xs.getD k noStr) := by
        rw [List.getD_eq_getElem?_getD, List.getElem?_eq_getElem hlt]
        rfl
      generalize hz : xs.getD k noStr = nm at *
      have HE := Lib.hid he
      clear hz he
      by_cases hq : nm = a
      · have hb : (a.toList == nm.toList) = true := by rw [str_beq, decide_eq_true hq.symm]
        have HR : Hid (idxOf xs a = k) := idxOf_hit' HK.out (by rw [HE.out, hq])
        clear hq
        go_wp2_with fail
        go_ret
        exact ⟨ret_int HR.out.symm, rfl⟩
      · have hb : (a.toList == nm.toList) = false := by rw [str_beq, decide_eq_false (fun e => hq e.symm)]
        have HN : Hid (hasB (xs.take (k + 1)) a = false) := hasB_next HK.out HE.out hq
        clear hq
        go_wp2_with fail
        go_round
        case rel => exact ⟨k + 1, by omega, by go_num, HN⟩
        case measure => simp [intOf]; omega
    · have HR : Hid (idxOf xs a = -1) := idxOf_none (by
        have := HK.out
        rwa [List.take_of_length_le (by omega)] at this)
      go_wp2_with fail
      go_ret
      exact ⟨ret_int HR.out.symm, rfl⟩
theorem idxOf_geB (l : List ByteArray) (a : ByteArray) : decide (0 ≤ idxOf l a) = hasB l a := by
  have h := idxOf_neg l a
  cases hb : hasB l a
  · rw [hb] at h
    have : idxOf l a < 0 := by simpa using h
    exact decide_eq_false (by omega)
  · rw [hb] at h
    have : ¬ idxOf l a < 0 := by simpa using h
    exact decide_eq_true (by omega)
theorem containsStr_any (xs : List ByteArray) (a : ByteArray) (A : Option Addr) (n c : Nat) (S : Nat → Prop) (w : World) (hsl : Sl Ty.str w S A n c xs) :
    Calls Try.prog 42 #[.slice A n c, .string a] w fun e w' => e = .returned (.bool (hasB xs a)) ∧ w = w' := by
  have HC := Lib.hid (indexStr_any xs a A n c S w hsl)
  have HG := Lib.hid (idxOf_geB xs a)
  clear hsl
  go_enter Try.func42, Try.ntmps42
  go_wp2_with fail
  refine HC.out.mono ?_
  rintro e w' ⟨rfl, rfl⟩
  generalize idxOf xs a = ix at *
  go_wp2_with fail
  go_ret
  exact ⟨ret_bool HG.out, rfl⟩
def BoolPost (x : Bool) (w : World) (e : Ending) (w' : World) : Prop := e = .returned (.bool x) ∧ Below w.heap.size w w'
theorem qualified_any (p : GPerson) (a : ByteArray) (A1 A2 : Option Addr) (n1 n2 c1 c2 : Nat) (w : World) (hs1 : Sl Ty.str w (all_ w) A1 n1 c1 p.types) :
    Calls Try.prog 20 #[.agg #[.int .i64 p.id, .string p.name, .string p.base, .int .i64 p.rank, .int .i64 p.sen, .slice A1 n1 c1, .slice A2 n2 c2], .string a] w (BoolPost (hasB p.types a) w) := by
  have hb0 := (Below.refl w.heap.size w).alloc (Nat.le_refl _) (.cells #[.int .i64 p.id, .string p.name, .string p.base, .int .i64 p.rank, .int .i64 p.sen, .slice A1 n1 c1, .slice A2 n2 c2] 40)
  have HC := Lib.hid (containsStr_any p.types a A1 n1 c1 _ _ (hs1.next hb0))
  have HB := Lib.hid hb0
  clear hs1 hb0
  go_enter Try.func20, Try.ntmps20
  go_wp2_with fail
  refine HC.out.mono ?_
  rintro e w' ⟨rfl, rfl⟩
  go_wp2_with fail
  go_ret
  exact ⟨rfl, HB.out⟩
end Go.Proofs.Ytkhedjfdjjeopaa
/-
  Contract of crew.Encode.
  Condition: the data are well formed.
-/
namespace Go.Proofs.Ytkhedjfdjjeopaa
set_option linter.unusedSimpArgs false
set_option linter.unusedVariables false
open Go.RowKit

def CEncBad (x : Int) (w : World) (e : Ending) (w' : World) : Prop := e = .returned (.tuple #[.slice none 0 0, .int .i64 x]) ∧ Below w.heap.size w w'
theorem crewB_pos (l : List GPerson) : crewB l ≠ [] := fun e => by
  unfold crewB at e
  simp only [List.append_eq_nil_iff] at e
  exact uvar_pos _ e.1
set_option maxRecDepth 100000 in
theorem crewEncode_bad (t : GTT) (l : List GPerson) (A1 A2 A3 A4 : Option Addr) (n1 n2 n3 n4 c1 c2 c3 c4 : Nat) (w : World) (ht : t.ok) (hl : ∀ p ∈ l, p.ok) (hv : crewE t l ≠ 0) (hs1 : Sl Ty.zone w (all_ w) A1 n1 c1 t.zones) (hs2 : Sl Ty.airport w (all_ w) A2 n2 c2 t.airports) (hs3 : Sl Ty.flight w (all_ w) A3 n3 c3 t.flights) (hs4 : Sl Ty.person w (all_ w) A4 n4 c4 l) :
    Calls Try.prog 14 #[.agg #[.slice A1 n1 c1, .slice A2 n2 c2, .slice A3 n3 c3], .slice A4 n4 c4] w (CEncBad (crewE t l) w) := by
  have ha : ∀ o, Below w.heap.size w (w.alloc o) := fun o => (Below.refl _ _).alloc (Nat.le_refl _) _
  have HV : Hid (∀ o, Calls Try.prog 10 #[.agg #[.slice A1 n1 c1, .slice A2 n2 c2, .slice A3 n3 c3], .slice A4 n4 c4] (w.alloc o) (ErrPost (crewE t l) (w.alloc o))) := fun o => crewValidate_any t l A1 A2 A3 A4 n1 n2 n3 n4 c1 c2 c3 c4 (w.alloc o) ht hl (hs1.next (ha o)) (hs2.next (ha o)) (hs3.next (ha o)) (hs4.next (ha o))
  have HA := Lib.hid ha
  generalize crewE t l = x at *
  have hne : (x != 0) = true := by simpa using hv
  clear hs1 hs2 hs3 hs4 hv ht ha hl
  go_enter Try.func14, Try.ntmps14
  go_wp2_with fail
  refine (HV.out _).mono ?_
  clear HV
  have hb0 := HA.out (.cells #[.slice A1 n1 c1, .slice A2 n2 c2, .slice A3 n3 c3] 26)
  generalize w.alloc (.cells #[.slice A1 n1 c1, .slice A2 n2 c2, .slice A3 n3 c3] 26) = W at *
  rintro e w1 ⟨rfl, hb1⟩
  go_wp2_with fail
  go_ret2
  exact ⟨rfl, hb0.trans (hb1.mono hb0.size)⟩
set_option maxRecDepth 100000 in
set_option maxHeartbeats 3200000 in
theorem crewEncode_ok (t : GTT) (l : List GPerson) (A1 A2 A3 A4 : Option Addr) (n1 n2 n3 n4 c1 c2 c3 c4 : Nat) (w : World) (ht : t.ok) (hl : ∀ p ∈ l, p.ok) (hv : crewE t l = 0) (hs1 : Sl Ty.zone w (all_ w) A1 n1 c1 t.zones) (hs2 : Sl Ty.airport w (all_ w) A2 n2 c2 t.airports) (hs3 : Sl Ty.flight w (all_ w) A3 n3 c3 t.flights) (hs4 : Sl Ty.person w (all_ w) A4 n4 c4 l) :
    Calls Try.prog 14 #[.agg #[.slice A1 n1 c1, .slice A2 n2 c2, .slice A3 n3 c3], .slice A4 n4 c4] w (EncPost (frameB 2 (crewB l)) w) := by
  have hok := crewE_zero.1 hv
  have e1 : n4 ≤ l.length := Nat.le_of_eq hs4.len
  have e1' : l.length ≤ n4 := Nat.le_of_eq hs4.len.symm
  have b1 := hok.len
  have HFI := Lib.hid hok.fine
  have ha : ∀ o, Below w.heap.size w (w.alloc o) := fun o => (Below.refl _ _).alloc (Nat.le_refl _) _
  have HV : Hid (∀ o, Calls Try.prog 10 #[.agg #[.slice A1 n1 c1, .slice A2 n2 c2, .slice A3 n3 c3], .slice A4 n4 c4] (w.alloc o) (ErrPost 0 (w.alloc o))) := fun o => hv ▸ crewValidate_any t l A1 A2 A3 A4 n1 n2 n3 n4 c1 c2 c3 c4 (w.alloc o) ht hl (hs1.next (ha o)) (hs2.next (ha o)) (hs3.next (ha o)) (hs4.next (ha o))
  have HS4 := Lib.hid hs4
  clear hok hs1 hs2 hs3 hs4 hv ht hl
  have hB0 := ha (.cells #[.slice A1 n1 c1, .slice A2 n2 c2, .slice A3 n3 c3] 26)
  have HB0 := Lib.hid hB0
  clear ha hB0
  go_enter Try.func14, Try.ntmps14
  go_wp2_with fail
  refine (HV.out _).mono ?_
  clear HV
  generalize w.alloc (.cells #[.slice A1 n1 c1, .slice A2 n2 c2, .slice A3 n3 c3] 26) = W at *
  rintro e w1 ⟨rfl, hb1⟩
  have hbw : Below w.heap.size w w1 := HB0.out.trans (hb1.mono HB0.out.size)
  have hsw := hbw.size
  have HT4 := Lib.hid (HS4.out.keep (all_keep hbw))
  clear HS4 HB0 hb1
  have hws0 : WS w1.heap.size w1 (w1.alloc (.cells #[.slice none 0 0, .int .i64 0] 72)) (.slice none 0 0) [] := by
    refine ⟨⟨?_, ?_, fun j => ?_, Own.nil, by simp [Value.ownBlock], Nat.lt_succ_self _⟩, (Below.refl _ _).alloc (Nat.le_refl _) _⟩
    · rw [World.cell?_alloc_at _ _ _ _ rfl]; rfl
    · rw [World.cell?_alloc_at _ _ _ _ rfl]; rfl
    · simp
  go_wp2_with fail
  refine (wUint (n4 : Int) hws0 (by simp) (by omega) (by omega)).mono ?_
  rintro e w2 ⟨x, v2, rfl, hws2, hc2⟩
  clear hc2 hws0
  rw [List.nil_append] at hws2
  go_wp2_with fail
  go_loopw [25] (fun i wr => ∃ (k : Nat) (v : Value), k ≤ n4 ∧ i = .int .i64 k ∧ WS w1.heap.size w1 wr v (uvar n4 ++ (l.take k).flatMap personB)) (fun i _ => n4 - (intOf i).toNat)
  case atStart => exact ⟨0, v2, Nat.zero_le _, rfl, by simpa using hws2⟩
  case round =>
    obtain ⟨k, v, hk, rfl, hws⟩ := hrel
    clear hws2
    have hlen : (uvar n4 ++ (l.take k).flatMap personB).length ≤ 40000 := by
      have := flatMap_take_len (f := personB) (M := 600) (fun x hx => personB_len (HFI.out x hx)) k
      have := uvar_len n4
      rw [List.length_append]
      omega
    by_cases hlt : k < n4
    · have hbel := hws.bel
      have hks : k < l.length := by omega
      obtain ⟨b, o, B1, k1, d1, B2, k2, d2, rfl, hbS, hat, hsT, hsV⟩ := (HT4.out.keep (w' := wr) fun b hb => hbel.block b (by unfold all_ at hb; omega)).person_at hks
      have hpf := HFI.out _ (getD_in hks noPerson)
      have HSN : Hid (uvar n4 ++ (l.take (k + 1)).flatMap personB = uvar n4 ++ (l.take k).flatMap personB ++ personB (l.getD k noPerson)) := by
        show _ = _
        rw [flatMap_take personB hks noPerson, List.append_assoc]
      have hbS' : b < w.heap.size := hbS
      generalize l.getD k noPerson = p at *
      obtain ⟨pi, pn, pb, pr, ps, plt, pt, plv, pv⟩ := hpf
      have HPT := Lib.hid pt; have HPV := Lib.hid pv
      have m1 : k1 ≤ p.types.length := Nat.le_of_eq hsT.len
      have m1' : p.types.length ≤ k1 := Nat.le_of_eq hsT.len.symm
      have m2 : k2 ≤ p.vacs.length := Nat.le_of_eq hsV.len
      have m2' : p.vacs.length ≤ k2 := Nat.le_of_eq hsV.len.symm
      have HPB : Hid (personB p = uvar p.id ++ textB p.name ++ textB p.base ++ uvar p.rank ++ uvar p.sen ++ uvar k1 ++ p.types.flatMap textB ++ uvar k2 ++ p.vacs.flatMap spanB) := by
        show _ = _
        rw [hsT.len, hsV.len]; rfl
      have HQ : Hid (∀ wq, Below w1.heap.size w1 wq → Sl Ty.str wq (all_ w) B1 k1 d1 p.types ∧ Sl Ty.shift wq (all_ w) B2 k2 d2 p.vacs) := fun wq hb => by
        have hq : ∀ b, all_ w b → wq.heap[b]? = wr.heap[b]? := fun b hb' => by
          unfold all_ at hb'
          rw [hb.block b (by omega), hbel.block b (by omega)]
        exact ⟨hsT.keep hq, hsV.keep hq⟩
      generalize uvar n4 ++ (l.take k).flatMap personB = pre at *
      have y0 : wr.cell? ⟨b, o + k * 7, none⟩ = some (.int .i64 p.id) := hat 0 _ rfl
      have y1 := hat 1 _ rfl; have y2 := hat 2 _ rfl; have y3 := hat 3 _ rfl; have y4 := hat 4 _ rfl; have y5 := hat 5 _ rfl; have y6 := hat 6 _ rfl
      have hwa := hws.alloc (.cells #[.int .i64 p.id, .string p.name, .string p.base, .int .i64 p.rank, .int .i64 p.sen, .slice B1 k1 d1, .slice B2 k2 d2] 40)
      have hbx := hws.box #[.int .i64 p.id, .string p.name, .string p.base, .int .i64 p.rank, .int .i64 p.sen, .slice B1 k1 d1, .slice B2 k2 d2] 40
      have hgb := hws.hb
      have t1 := uvar_len p.id; have t2 := textB_le pn; have t3 := textB_le pb; have t4 := uvar_len p.rank; have t5 := uvar_len p.sen; have t6 := uvar_len k1; have t7 := uvar_len k2
      clear pt pv hsT hsV hbS hws hbel hat
      go_wp2_with fail
      refine (wUint p.id hwa (by omega) (by omega) (by omega)).mono ?_
      rintro e w2 ⟨x2, v2, rfl, hws2, hc2⟩
      have hbx2 := hbx.chg hc2 (by omega)
      have q1 : w2.cell? ⟨wr.heap.size, 1, none⟩ = some (.string p.name) := hbx2.at_ 1 _ rfl
      clear hwa hbx hc2 y0 y1 y2 y3 y4 y5 y6
      go_wp2_with fail
      refine (wText p.name hws2 (by simp; omega) (by omega)).mono ?_
      rintro e w3 ⟨x3, v3, rfl, hws3, hc3⟩
      have hbx3 := hbx2.chg hc3 (by omega)
      have q2 : w3.cell? ⟨wr.heap.size, 2, none⟩ = some (.string p.base) := hbx3.at_ 2 _ rfl
      clear hws2 hbx2 hc3 q1
      go_wp2_with fail
      refine (wText p.base hws3 (by simp; omega) (by omega)).mono ?_
      rintro e w4 ⟨x4, v4, rfl, hws4, hc4⟩
      have hbx4 := hbx3.chg hc4 (by omega)
      have q3 : w4.cell? ⟨wr.heap.size, 3, none⟩ = some (.int .i64 p.rank) := hbx4.at_ 3 _ rfl
      clear hws3 hbx3 hc4 q2
      go_wp2_with fail
      refine (wUint p.rank hws4 (by simp; omega) (by omega) (by omega)).mono ?_
      rintro e w5 ⟨x5, v5, rfl, hws5, hc5⟩
      have hbx5 := hbx4.chg hc5 (by omega)
      have q4 : w5.cell? ⟨wr.heap.size, 4, none⟩ = some (.int .i64 p.sen) := hbx5.at_ 4 _ rfl
      clear hws4 hbx4 hc5 q3
      go_wp2_with fail
      refine (wUint p.sen hws5 (by simp; omega) (by omega) (by omega)).mono ?_
      rintro e w6 ⟨x6, v6, rfl, hws6, hc6⟩
      have hbx6 := hbx5.chg hc6 (by omega)
      have q5 : w6.cell? ⟨wr.heap.size, 5, none⟩ = some (.slice B1 k1 d1) := hbx6.at_ 5 _ rfl
      clear hws5 hbx5 hc6 q4
      go_wp2_with fail
      refine (wUint (k1 : Int) hws6 (by simp; omega) (by omega) (by omega)).mono ?_
      rintro e w7 ⟨x7, v7, rfl, hws7, hc7⟩
      have hbx7 := hbx6.chg hc7 (by omega)
      have q6 : w7.cell? ⟨wr.heap.size, 5, none⟩ = some (.slice B1 k1 d1) := hbx7.at_ 5 _ rfl
      have hl7 : (pre ++ uvar p.id ++ textB p.name ++ textB p.base ++ uvar p.rank ++ uvar p.sen ++ uvar k1).length ≤ 40200 := by simp only [List.length_append]; omega
      generalize hp7 : pre ++ uvar p.id ++ textB p.name ++ textB p.base ++ uvar p.rank ++ uvar p.sen ++ uvar k1 = pre7 at *
      have HP7 := Lib.hid hp7
      clear hws6 hbx6 hc7 q5 hp7
      go_wp2_with fail
      clear q6
      obtain ⟨wo, rfl⟩ : ∃ wo : World, wo = wr := ⟨_, rfl⟩
      go_loopw [51] (fun i wq => ∃ (j : Nat) (v : Value), j ≤ k1 ∧ i = .int .i64 j ∧ WS w1.heap.size w1 wq v (pre7 ++ (p.types.take j).flatMap textB) ∧ Bx wq v wo.heap.size [.int .i64 p.id, .string p.name, .string p.base, .int .i64 p.rank, .int .i64 p.sen, .slice B1 k1 d1, .slice B2 k2 d2]) (fun i _ => k1 - (intOf i).toNat)
      case atStart => exact ⟨0, v7, Nat.zero_le _, rfl, by simpa using hws7, hbx7⟩
      case round =>
        obtain ⟨j, v, hj, rfl, hws, hbx⟩ := hrel
        clear hws7 hbx7
        have hlen2 : (pre7 ++ (p.types.take j).flatMap textB).length ≤ 40500 := by
          have := flatMap_take_len (f := textB) (M := 26) (l := p.types) (fun x hx => textB_le (HPT.out x hx)) j
          rw [List.length_append]
          omega
        by_cases hlt2 : j < k1
        · have hjs : j < p.types.length := by omega
          obtain ⟨bt, ot, rfl, hbS, y0⟩ := (HQ.out wr hws.bel).1.name_at hjs
          have hsz := HPT.out _ (getD_in hjs noStr)
          have HSN2 : Hid (pre7 ++ (p.types.take (j + 1)).flatMap textB = pre7 ++ (p.types.take j).flatMap textB ++ textB (p.types.getD j noStr)) := by
            show _ = _
            rw [flatMap_take textB hjs noStr, List.append_assoc]
          generalize p.types.getD j noStr = s at *
          generalize pre7 ++ (p.types.take j).flatMap textB = pre8 at *
          clear hbS
          go_wp2_with fail
          refine (wText s hws (by omega) (by omega)).mono ?_
          rintro e w8 ⟨x8, v8, rfl, hws8, hc8⟩
          have hbx8 := hbx.chg hc8 (by omega)
          clear hws hbx hc8 y0
          go_wp2_with fail
          go_roundw
          case rel => exact ⟨j + 1, v8, by omega, by go_num, by rw [HSN2.out]; exact hws8, hbx8⟩
          case measure => simp [intOf]; omega
        · rw [List.take_of_length_le (by omega)] at hws hlen2
          have q6 : wr.cell? ⟨wo.heap.size, 6, none⟩ = some (.slice B2 k2 d2) := hbx.at_ 6 _ rfl
          generalize hp8 : pre7 ++ p.types.flatMap textB = pre8 at *
          have HP8 := Lib.hid hp8
          clear hp8
          go_wp2_with fail
          refine (wUint (k2 : Int) hws (by omega) (by omega) (by omega)).mono ?_
          rintro e w8 ⟨x8, v8, rfl, hws8, hc8⟩
          have hbx8 := hbx.chg hc8 (by omega)
          have q7 : w8.cell? ⟨wo.heap.size, 6, none⟩ = some (.slice B2 k2 d2) := hbx8.at_ 6 _ rfl
          have HFIN : Hid (pre8 ++ uvar k2 ++ p.vacs.flatMap spanB = pre ++ personB p) := by
            show _ = _
            rw [HPB.out, ← HP8.out, ← HP7.out]
            simp only [List.append_assoc]
          have hl9 : (pre8 ++ uvar k2).length ≤ 40600 := by rw [List.length_append]; omega
          generalize pre8 ++ uvar k2 = pre9 at *
          clear hws hbx hc8 q6 hbx8
          go_wp2_with fail
          clear q7
          obtain ⟨wo2, rfl⟩ : ∃ wo : World, wo = wr := ⟨_, rfl⟩
          go_loopw [65] (fun i wq => ∃ (j : Nat) (v : Value), j ≤ k2 ∧ i = .int .i64 j ∧ WS w1.heap.size w1 wq v (pre9 ++ (p.vacs.take j).flatMap spanB)) (fun i _ => k2 - (intOf i).toNat)
          case atStart => exact ⟨0, v8, Nat.zero_le _, rfl, by simpa using hws8⟩
          case round =>
            obtain ⟨r, v, hr, rfl, hws⟩ := hrel
            clear hws8
            have hlen3 : (pre9 ++ (p.vacs.take r).flatMap spanB).length ≤ 40900 := by
              have := flatMap_take_len (f := spanB) (M := 20) (l := p.vacs) (fun x hx => spanB_len x) r
              rw [List.length_append]
              omega
            by_cases hlt3 : r < k2
            · have hrs : r < p.vacs.length := by omega
              obtain ⟨bt, ot, rfl, hbS, y0, y1⟩ := (HQ.out wr hws.bel).2.shift_at hrs
              have hsf := HPV.out _ (getD_in hrs noShift)
              have HSN2 : Hid (pre9 ++ (p.vacs.take (r + 1)).flatMap spanB = pre9 ++ (p.vacs.take r).flatMap spanB ++ uvar (p.vacs.getD r noShift).at_ ++ uvar (p.vacs.getD r noShift).off) := by
                show _ = _
                rw [flatMap_take spanB hrs noShift]
                simp only [spanB, List.append_assoc]
              generalize p.vacs.getD r noShift = s at *
              obtain ⟨hs1, hs2⟩ := hsf
              generalize pre9 ++ (p.vacs.take r).flatMap spanB = pre5 at *
              have hwa := hws.alloc (.cells #[.int .i64 s.at_, .int .i64 s.off] 42)
              have hbx := hws.box #[.int .i64 s.at_, .int .i64 s.off] 42
              have hgb2 := hws.hb
              have t9 := uvar_len s.at_
              clear hws hbS
              go_wp2_with fail
              refine (wUint s.at_ hwa (by omega) (by omega) (by omega)).mono ?_
              rintro e w5 ⟨x5, v5, rfl, hws5, hc5⟩
              have hbx5 := hbx.chg hc5 (by omega)
              have q4 : w5.cell? ⟨wr.heap.size, 1, none⟩ = some (.int .i64 s.off) := hbx5.at_ 1 _ rfl
              clear hwa hbx hc5 y0 y1
              go_wp2_with fail
              refine (wUint s.off hws5 (by simp; omega) (by omega) (by omega)).mono ?_
              rintro e w6 ⟨x6, v6, rfl, hws6, hc6⟩
              clear hws5 hbx5 hc6 q4
              go_wp2_with fail
              go_roundw
              case rel => exact ⟨r + 1, v6, by omega, by go_num, by rw [HSN2.out]; exact hws6⟩
              case measure => simp [intOf]; omega
            · have hws9 : WS w1.heap.size w1 wr v (uvar n4 ++ (l.take (k + 1)).flatMap personB) := by
                rw [HSN.out, ← HFIN.out]
                rwa [List.take_of_length_le (by omega)] at hws
              clear hws
              go_wp2_with fail
              go_roundw
              case rel => exact ⟨k + 1, v, by omega, by go_num, hws9⟩
              case measure => simp [intOf]; omega
    · rw [List.take_of_length_le (by omega)] at hws
      have HBD : Hid (uvar n4 ++ l.flatMap personB = crewB l) := by
        show _ = _
        have a1 : l.length = n4 := by omega
        unfold crewB
        rw [a1]
      rw [HBD.out] at hws
      have g0 : wr.cell? ⟨w1.heap.size, 0, none⟩ = some v := hws.wr.c0
      have g1 : wr.cell? ⟨w1.heap.size, 1, none⟩ = some (.int .i64 0) := hws.wr.c1
      obtain ⟨A9, c9, rfl, hsl9⟩ := hws.wr.own.sl
      have HFR := Lib.hid (frame_any 2 (crewB l) A9 _ c9 wr (hsl9.more fun b hb => hb.2) (crewB_pos l) (by have := crewB_len b1 HFI.out; omega))
      have hbel := hws.bel
      clear hws hsl9
      go_wp2_with fail
      refine HFR.out.mono ?_
      rintro e w9 ⟨v9, rfl, ho9, hb9⟩
      clear HFR
      have hbF : Below w.heap.size w w9 := hbw.trans ((hbel.mono (by omega)).trans (hb9.mono (by have := hbel.size; omega)))
      have hsF : w.heap.size ≤ wr.heap.size := by have := hbel.size; omega
      go_wp2_with fail
      go_ret2
      exact ⟨_, rfl, ho9.lower hsF, hbF⟩
end Go.Proofs.Ytkhedjfdjjeopaa
/-
  Contract of crew.readPerson.
  Condition: the reader's bytes are bytes.
-/
namespace Go.Proofs.Ytkhedjfdjjeopaa
set_option linter.unusedSimpArgs false
set_option linter.unusedVariables false
open Go.RowKit

theorem elem_strs : Elem Try.prog 37 9 1 16 := ⟨Try.underlying37, by kernel_rfl⟩
theorem elem_span : Elem Try.prog 38 42 2 16 := ⟨Try.underlying38, by kernel_rfl⟩
theorem elem_person : Elem Try.prog 27 40 7 104 := ⟨Try.underlying27, by kernel_rfl⟩
def pZero : Array Value := #[.int .i64 0, .string ⟨#[]⟩, .string ⟨#[]⟩, .int .i64 0, .int .i64 0, .slice none 0 0, .slice none 0 0]
/-- What holds while a person is read: the person's box pb, the result's box, the reader. -/
structure PInv (w : World) (g : Nat) (S : Nat → Prop) (pb : Nat) (wr : World) (cs : Array Value) (r : List Int) (b : Bool) : Prop where
  p : wr.heap[pb]? = some (.cells cs 40 (0, 0))
  res : wr.heap[w.heap.size]? = some (.cells pZero 40 (0, 0))
  rd : Rd wr g S r b
  but : But g w wr
  lt : w.heap.size < pb
  gl : g < w.heap.size
  sS : ∀ b, S b → b < g
section
variable {w : World} {g : Nat} {S : Nat → Prop} {pb : Nat} {wr w5 w6 : World} {cs : Array Value} {r r' : List Int} {b b' : Bool} {o : Obj} {row : Option Nat}
theorem PInv.pl (h : PInv w g S pb wr cs r b) : pb < wr.heap.size := (Array.getElem?_eq_some_iff.1 h.p).1
theorem PInv.call (h : PInv w g S pb wr cs r b) (hb : But g wr w5) (hr : Rd w5 g S r' b') : PInv w g S pb w5 cs r' b' := by
  have h1 := h.lt; have h2 := h.gl; have h3 := h.pl
  exact ⟨(hb.block pb h3 (by omega)).trans h.p, (hb.block _ (by omega) (by omega)).trans h.res, hr, h.but.trans hb, h1, h2, h.sS⟩
theorem PInv.keep (h : PInv w g S pb wr cs r b) (hb : But g wr w5) (hgr : (w5.alloc o).grownBy w6 row) (q : Nat) (hq : q < wr.heap.size) (hqg : q ≠ g) (hqr : row ≠ some q) : w6.heap[q]? = wr.heap[q]? := by
  have h3 := hb.size
  rw [hgr.block q (by simp; omega) (fun e => hqr e.symm), Below.heap_alloc _ _ _ (by omega), hb.block q hq hqg]
theorem PInv.p6 (h : PInv w g S pb wr cs r b) (hb : But g wr w5) (hgr : (w5.alloc o).grownBy w6 row) (hrow : ∀ k, row = some k → pb < k) : w6.heap[pb]? = some (.cells cs 40 (0, 0)) := by
  have h1 := h.lt; have h2 := h.gl
  rw [h.keep hb hgr pb h.pl (by omega) (fun e => by have := hrow pb e; omega)]
  exact h.p
theorem PInv.step (h : PInv w g S pb wr cs r b) (hb : But g wr w5) (hr : Rd w5 g S r' b') (hgr : (w5.alloc o).grownBy w6 row) (hrow : ∀ k, row = some k → pb < k) (j : Nat) (v' : Value) : PInv w g S pb (w6.setCell ⟨pb, j, none⟩ v') (cs.setIfInBounds j v') r' b' := by
  have h1 := h.lt; have h2 := h.gl; have h3 := h.pl; have h4 := hb.size; have h5 := hgr.size
  simp only [World.size_alloc] at h5
  refine ⟨heap_setCell_same _ _ _ _ _ _ (h.p6 hb hgr hrow), ?_, ?_, ?_, h1, h2, h.sS⟩
  · rw [heap_setCell_other _ _ _ _ (by simp; omega), h.keep hb hgr _ (by omega) (by omega) (fun e => by have := hrow _ e; omega)]
    exact h.res
  · refine hr.frame (fun q hq hSq => ?_) (by simp; omega)
    have hqg : q ≤ g := by
      rcases hSq with hs | rfl
      · exact Nat.le_of_lt (h.sS q hs)
      · exact Nat.le_refl _
    rw [heap_setCell_other _ _ _ _ (by simp; omega), hgr.block q (by simp; omega) (fun e => by have := hrow q e.symm; omega), Below.heap_alloc _ _ _ (by omega)]
  · exact (((h.but.trans hb).alloc o).grown hgr (fun k hk => by have := hrow k hk; omega)).setFar (by omega) j v'
/-- What lies between the box and the new row stays. -/
theorem PInv.mid (h : PInv w g S pb wr cs r b) (hb : But g wr w5) (hgr : (w5.alloc o).grownBy w6 row) {H : Nat} (hrow : ∀ k, row = some k → H ≤ k) (hH : pb < H) (hHs : H ≤ wr.heap.size) (j : Nat) (v' : Value) (q : Nat) (hq : pb < q ∧ q < H) : (w6.setCell ⟨pb, j, none⟩ v').heap[q]? = wr.heap[q]? := by
  have h1 := h.lt; have h2 := h.gl
  rw [heap_setCell_other _ _ _ _ (by simp; omega), h.keep hb hgr q (by omega) (by omega) (fun e => by have := hrow q e; omega)]
end
def RPPost (g : Nat) (S : Nat → Prop) (w : World) (p : GPerson) (rest : List Int) (bad : Bool) (e : Ending) (w' : World) : Prop :=
  ∃ A1 n1 c1 A2 n2 c2, e = .returned (.agg #[.int .i64 p.id, .string p.name, .string p.base, .int .i64 p.rank, .int .i64 p.sen, .slice A1 n1 c1, .slice A2 n2 c2]) ∧
    Sl Ty.str w' (fun b => w.heap.size < b ∧ b < w'.heap.size) A1 n1 c1 p.types ∧ Sl Ty.shift w' (fun b => w.heap.size < b ∧ b < w'.heap.size) A2 n2 c2 p.vacs ∧ Rd w' g S rest bad ∧ But g w w'

set_option maxRecDepth 100000 in
set_option maxHeartbeats 1600000 in
theorem readPerson_any (g : Nat) (S : Nat → Prop) (rest : List Int) (bad : Bool) (w : World) (h : Rd w g S rest bad) (hS : ∀ b, S b → b < g) :
    Calls Try.prog 37 #[.pointer (some ⟨g, 0, none⟩)] w (RPPost g S w (rdPerson rest bad).1 (rdPerson rest bad).2.1 (rdPerson rest bad).2.2) := by
  have hg := h.glt
  have h0 := h.next ((Below.refl _ _).alloc (Nat.le_refl _) (.cells #[.int .i64 0, .string ⟨#[]⟩, .string ⟨#[]⟩, .int .i64 0, .int .i64 0, .slice none 0 0, .slice none 0 0] 40))
  have hbt0 := (But.refl g w).alloc (.cells #[.int .i64 0, .string ⟨#[]⟩, .string ⟨#[]⟩, .int .i64 0, .int .i64 0, .slice none 0 0, .slice none 0 0] 40)
  have hr0 : (w.alloc (.cells #[.int .i64 0, .string ⟨#[]⟩, .string ⟨#[]⟩, .int .i64 0, .int .i64 0, .slice none 0 0, .slice none 0 0] 40)).heap[w.heap.size]? = some (.cells pZero 40 (0, 0)) := heap_alloc_new _ _
  have hz0 : w.heap.size + 1 ≤ (w.alloc (.cells #[.int .i64 0, .string ⟨#[]⟩, .string ⟨#[]⟩, .int .i64 0, .int .i64 0, .slice none 0 0, .slice none 0 0] 40)).heap.size := by simp
  have HFL : Hid (rdPerson rest bad = (let u1 := rdU rest bad
    let t1 := rdT u1.2.1 u1.2.2
    let t2 := rdT t1.2.1 t1.2.2
    let u2 := rdU t2.2.1 t2.2.2
    let u3 := rdU u2.2.1 u2.2.2
    let n1 := rdN 8 u3.2.1 u3.2.2
    let m1 := rdMany rdT n1.1.toNat n1.2.1 n1.2.2
    let n2 := rdN 8 m1.2.1 m1.2.2
    let m2 := rdMany rdSpan n2.1.toNat n2.2.1 n2.2.2
    (⟨u1.1, t1.1, t2.1, u2.1, u3.1, m1.1, m2.1⟩, m2.2.1, m2.2.2))) := by
    show _ = _
    unfold rdPerson
    simp only
  have HR0 := Lib.hid hr0; have H0 := Lib.hid h0; have HB0 := Lib.hid hbt0; have HZ0 := Lib.hid hz0
  clear h h0 hbt0 hr0 hz0
  go_enter Try.func37, Try.ntmps37
  go_wp2_with fail
  generalize w.alloc (.cells #[.int .i64 0, .string ⟨#[]⟩, .string ⟨#[]⟩, .int .i64 0, .int .i64 0, .slice none 0 0, .slice none 0 0] 40) = W at *
  refine (readerUint_any g S rest bad W H0.out).mono ?_
  rintro e w1 ⟨rfl, hr1, hb1⟩
  generalize rdU rest bad = u1 at *
  go_wp2_with fail
  refine (readerText_any g S u1.2.1 u1.2.2 w1 hr1).mono ?_
  rintro e w2 ⟨rfl, hr2, hb2⟩
  generalize rdT u1.2.1 u1.2.2 = t1 at *
  go_wp2_with fail
  refine (readerText_any g S t1.2.1 t1.2.2 w2 hr2).mono ?_
  rintro e w3 ⟨rfl, hr3, hb3⟩
  generalize rdT t1.2.1 t1.2.2 = t2 at *
  go_wp2_with fail
  refine (readerUint_any g S t2.2.1 t2.2.2 w3 hr3).mono ?_
  rintro e w4 ⟨rfl, hr4, hb4⟩
  generalize rdU t2.2.1 t2.2.2 = u2 at *
  go_wp2_with fail
  refine (readerUint_any g S u2.2.1 u2.2.2 w4 hr4).mono ?_
  rintro e w5 ⟨rfl, hr5, hb5⟩
  generalize rdU u2.2.1 u2.2.2 = u3 at *
  have hbt : But g W w5 := (((hb1.trans hb2).trans hb3).trans hb4).trans hb5
  have hW2 : w.heap.size + 1 ≤ w5.heap.size := Nat.le_trans HZ0.out hbt.size
  have HINV : Hid (PInv w g S w5.heap.size (w5.alloc (.cells #[.int .i64 u1.1, .string t1.1, .string t2.1, .int .i64 u2.1, .int .i64 u3.1, .slice none 0 0, .slice none 0 0] 40)) #[.int .i64 u1.1, .string t1.1, .string t2.1, .int .i64 u2.1, .int .i64 u3.1, .slice none 0 0, .slice none 0 0] u3.2.1 u3.2.2) := by
    refine ⟨heap_alloc_new _ _, ?_, hr5.next ((Below.refl _ _).alloc (Nat.le_refl _) _), (HB0.out.trans hbt).alloc _, by omega, hg, hS⟩
    rw [Below.heap_alloc _ _ _ (by omega), hbt.block _ (by have := HZ0.out; omega) (by omega)]
    exact HR0.out
  clear HR0 H0 HB0 HZ0 hr1 hb1 hb2 hb3 hb4 hb5 hr2 hr3 hr4 hr5 hbt
  go_wp2_with fail
  generalize w5.alloc (.cells #[.int .i64 u1.1, .string t1.1, .string t2.1, .int .i64 u2.1, .int .i64 u3.1, .slice none 0 0, .slice none 0 0] 40) = W6 at *
  generalize w5.heap.size = pb at *
  refine (readerCountTo_any g S u3.2.1 u3.2.2 8 W6 HINV.out.rd).mono ?_
  rintro e w6 ⟨rfl, hr6, hb6⟩
  have hn := rdN_range (m := 8) u3.2.2 HINV.out.rd.by_ (by decide)
  have hinv6 := HINV.out.call hb6 hr6
  clear HINV hr6 hb6
  generalize rdN 8 u3.2.1 u3.2.2 = n1 at *
  obtain ⟨n, r0, b0⟩ := n1
  simp only at hinv6 HFL hn
  obtain ⟨m, rfl⟩ := Int.eq_ofNat_of_zero_le hn.1
  have hm : m ≤ 8 := by omega
  have HINV := Lib.hid hinv6
  clear hn hinv6
  simp only [Int.toNat_natCast] at HFL
  go_wp2_with fail
  go_loopw [17] (fun i wr => ∃ (k : Nat) (v : Value), k ≤ m ∧ i = .int .i64 k ∧ PInv w g S pb wr #[.int .i64 u1.1, .string t1.1, .string t2.1, .int .i64 u2.1, .int .i64 u3.1, v, .slice none 0 0] (rdMany rdT k r0 b0).2.1 (rdMany rdT k r0 b0).2.2 ∧ Own Ty.str 9 wr (pb + 1) v (rdMany rdT k r0 b0).1) (fun i _ => m - (intOf i).toNat)
  case atStart => exact ⟨0, _, Nat.zero_le _, rfl, HINV.out, Own.nil⟩
  case round =>
    obtain ⟨k, v, hk, rfl, hinv, hown⟩ := hrel
    clear HINV
    by_cases hlt : k < m
    · have HSN : Hid (rdMany rdT (k + 1) r0 b0 = ((rdMany rdT k r0 b0).1 ++ [(rdT (rdMany rdT k r0 b0).2.1 (rdMany rdT k r0 b0).2.2).1], (rdT (rdMany rdT k r0 b0).2.1 (rdMany rdT k r0 b0).2.2).2.1, (rdT (rdMany rdT k r0 b0).2.1 (rdMany rdT k r0 b0).2.2).2.2)) := rfl
      have hlen := rdMany_len (f := rdT) k r0 b0
      have hll : (rdMany rdT k r0 b0).1.length ≤ 8 := by omega
      clear hlen
      generalize rdMany rdT k r0 b0 = q at *
      obtain ⟨xs, r, b⟩ := q
      simp only at hinv hown HSN hll
      have HC : Hid (∀ q, (wr.drewN q).cell? ⟨pb, 5, none⟩ = some v) := fun q => block_cell (w := wr.drewN q) hinv.p 5
      have hc1 : wr.cell? ⟨pb, 5, none⟩ = some v := block_cell hinv.p 5
      have HRR : Hid (∀ q, Rd (wr.drewN q) g S r b) := fun q => hinv.rd.frame (fun _ _ _ => rfl) (Nat.le_refl _)
      have HI := Lib.hid hinv
      have HO := Lib.hid hown
      have hwsz := hinv.pl
      have hgp : g < pb := Nat.lt_trans hg hinv.lt
      have hbD := (But.refl g wr).drewN 1
      have HROW : Hid (∀ k, v.ownBlock = some k → pb < k) := fun k hk => (HO.out.lt k hk).1
      clear hinv hown
      go_wp2_with fail
      go_region_law (first
        | (refine step_push rfl (.tmp 20) (.tmp 23) 37 rfl 16 elem_strs (by simp [Act.eval, Act.put]) (HOWN.out _) w4.heap.size (rdT r b).1 (fun _ => False) (by simp [Act.eval, Act.put]) ⟨[.string (rdT r b).1], rfl, At.new w4 #[.string (rdT r b).1] _⟩ (fun _ h => h.elim) (by omega) (by decide) (by simp; omega) ?_; intro g6 cap6 w6 hown6 hgr6 hat6; have hz6 := HI.out.p6 hb7 hgr6 HROW.out; have hc6 : w6.cell? ⟨pb, 5, none⟩ = some v := block_cell hz6 5; have hf6 : w6.frozen? ⟨pb, 5, none⟩ = false := block_free hz6 5; have HSTEP := Lib.hid (HI.out.step hb7 hr4 hgr6 HROW.out 5 (.slice (some ⟨g6, 0, none⟩) (xs.length + 1) cap6)); have HOWN6 := Lib.hid (hown6.setCell (g := pb) (j := 5) (by omega) (.slice (some ⟨g6, 0, none⟩) (xs.length + 1) cap6)); clear hz6)
        | (go_simp; go_at_call 65; refine (readerText_any g S r b _ (HRR.out _)).mono ?_; rintro e w4 ⟨rfl, hr4, hb4⟩; have hc4 : w4.cell? ⟨pb, 5, none⟩ = some v := hb4.cell (HC.out _) (by simp; omega); have hb7 := hbD.trans hb4; have hs5 := hb7.size; have hc5' : ∀ o, (w4.alloc o).cell? ⟨pb, 5, none⟩ = some v := fun o => (World.cell?_alloc_past _ _ _ (by omega)).trans hc4; have HOWN : Hid (∀ o, Own Ty.str 9 (w4.alloc o) (pb + 1) v xs) := fun o => (HO.out.but hb7 (by omega)).alloc o)
        | fail)
      all_goals
        go_wp2_with fail
        go_roundw
        case rel => exact ⟨k + 1, _, by omega, by go_num, by rw [HSN.out]; exact HSTEP.out, by rw [HSN.out]; exact HOWN6.out⟩
        case measure => simp [intOf]; omega
    · have hkm : k = m := by omega
      subst hkm
      generalize rdMany rdT k r0 b0 = qz at *
      obtain ⟨ts, r, b⟩ := qz
      simp only at hinv hown HFL
      obtain ⟨Az, cz, rfl, hslz⟩ := hown.sl
      have HI := Lib.hid hinv
      have HSLZ := Lib.hid hslz
      have hn := rdN_range (m := 8) b hinv.rd.by_ (by decide)
      clear hinv hown hslz hlt hk
      go_wp2_with fail
      refine (readerCountTo_any g S r b 8 wr HI.out.rd).mono ?_
      rintro e w2 ⟨rfl, hr2, hb2⟩
      have hinv2 := HI.out.call hb2 hr2
      have hszz := hinv2.pl
      have hgp : g < pb := Nat.lt_trans hg HI.out.lt
      have HSLZ2 : Hid (Sl Ty.str w2 (fun b => pb < b ∧ b < w2.heap.size) Az ts.length cz ts) := by
        refine (HSLZ.out.keep fun q hq => ?_).more fun q hq => ⟨by omega, by have := hb2.size; omega⟩
        exact hb2.block q hq.2 (by omega)
      clear hr2 hb2 HI HSLZ
      generalize rdN 8 r b = q1 at *
      obtain ⟨nn, r1, b1⟩ := q1
      simp only at hinv2 hn HFL
      obtain ⟨k2, rfl⟩ := Int.eq_ofNat_of_zero_le hn.1
      have hk2 : k2 ≤ 8 := by omega
      have HINV := Lib.hid hinv2
      clear hn hinv2
      go_wp2_with fail
      obtain ⟨wo, rfl⟩ : ∃ wo : World, wo = wr := ⟨_, rfl⟩
      generalize hH2 : w2.heap.size = H2 at *
      have hH2' : H2 ≤ w2.heap.size := by omega
      clear hH2
      simp only [Int.toNat_natCast] at HFL
      go_loopw [29] (fun i wr => ∃ (k : Nat) (v : Value), k ≤ k2 ∧ i = .int .i64 k ∧ PInv w g S pb wr #[.int .i64 u1.1, .string t1.1, .string t2.1, .int .i64 u2.1, .int .i64 u3.1, .slice Az ts.length cz, v] (rdMany rdSpan k r1 b1).2.1 (rdMany rdSpan k r1 b1).2.2 ∧ Own Ty.shift 42 wr H2 v (rdMany rdSpan k r1 b1).1 ∧ H2 ≤ wr.heap.size ∧ Sl Ty.str wr (fun b => pb < b ∧ b < H2) Az ts.length cz ts) (fun i _ => k2 - (intOf i).toNat)
      case atStart => exact ⟨0, _, Nat.zero_le _, rfl, HINV.out, Own.nil, hH2', HSLZ2.out⟩
      case round =>
        obtain ⟨k, v, hk, rfl, hinv, hown, hHs, hslz⟩ := hrel
        clear HINV HSLZ2 hH2'
        by_cases hlt : k < k2
        · have HSN : Hid (rdMany rdSpan (k + 1) r1 b1 = ((rdMany rdSpan k r1 b1).1 ++ [(rdSpan (rdMany rdSpan k r1 b1).2.1 (rdMany rdSpan k r1 b1).2.2).1], (rdSpan (rdMany rdSpan k r1 b1).2.1 (rdMany rdSpan k r1 b1).2.2).2.1, (rdSpan (rdMany rdSpan k r1 b1).2.1 (rdMany rdSpan k r1 b1).2.2).2.2)) := rfl
          have hlen := rdMany_len (f := rdSpan) k r1 b1
          have hll : (rdMany rdSpan k r1 b1).1.length ≤ 8 := by omega
          clear hlen
          generalize rdMany rdSpan k r1 b1 = q at *
          obtain ⟨xs, r, b⟩ := q
          simp only at hinv hown HSN hll
          have HSE : Hid (rdSpan r b = (⟨(rdU r b).1, (rdU (rdU r b).2.1 (rdU r b).2.2).1⟩, (rdU (rdU r b).2.1 (rdU r b).2.2).2)) := rfl
          have HC : Hid (∀ q, (wr.drewN q).cell? ⟨pb, 6, none⟩ = some v) := fun q => block_cell (w := wr.drewN q) hinv.p 6
          have hc1 : wr.cell? ⟨pb, 6, none⟩ = some v := block_cell hinv.p 6
          have HRR : Hid (∀ q, Rd (wr.drewN q) g S r b) := fun q => hinv.rd.frame (fun _ _ _ => rfl) (Nat.le_refl _)
          have HI := Lib.hid hinv
          have HO := Lib.hid hown
          have HSZ := Lib.hid hslz
          have hwsz := hinv.pl
          have hbD := (But.refl g wr).drewN 1
          have HROW0 : Hid (∀ k, v.ownBlock = some k → H2 ≤ k) := fun k hk => (HO.out.lt k hk).1
          have HROW : Hid (∀ k, v.ownBlock = some k → pb < k) := fun k hk => by have := (HO.out.lt k hk).1; omega
          clear hinv hown hslz
          go_wp2_with fail
          go_region_law (first
            | (refine step_push rfl (.tmp 32) (.tmp 38) 38 rfl 16 elem_span (by simp [Act.eval, Act.put]) (HOWN.out _) w5.heap.size ⟨(rdU r b).1, (rdU (rdU r b).2.1 (rdU r b).2.2).1⟩ (fun _ => False) (by simp [Act.eval, Act.put]) ⟨[.int .i64 (rdU r b).1, .int .i64 (rdU (rdU r b).2.1 (rdU r b).2.2).1], rfl, At.new w5 #[.int .i64 (rdU r b).1, .int .i64 (rdU (rdU r b).2.1 (rdU r b).2.2).1] _⟩ (fun _ h => h.elim) (by omega) (by decide) (by simp; omega) ?_; intro g6 cap6 w6 hown6 hgr6 hat6; have hz6 := HI.out.p6 hb7 hgr6 HROW.out; have hc6 : w6.cell? ⟨pb, 6, none⟩ = some v := block_cell hz6 6; have hf6 : w6.frozen? ⟨pb, 6, none⟩ = false := block_free hz6 6; have HSTEP := Lib.hid (HI.out.step hb7 hr5 hgr6 HROW.out 6 (.slice (some ⟨g6, 0, none⟩) (xs.length + 1) cap6)); have HOWN6 := Lib.hid (hown6.setCell (g := pb) (j := 6) (by omega) (.slice (some ⟨g6, 0, none⟩) (xs.length + 1) cap6)); have HS6 := Lib.hid (HSZ.out.keep (HI.out.mid hb7 hgr6 HROW0.out (by omega) hHs 6 (.slice (some ⟨g6, 0, none⟩) (xs.length + 1) cap6))); have hhs6 := hgr6.size; clear hz6)
            | (go_simp; go_at_call 64; refine (readerUint_any g S _ _ _ hr4).mono ?_; rintro e w5 ⟨rfl, hr5, hb5⟩; have hc5 : w5.cell? ⟨pb, 6, none⟩ = some v := hb5.cell hc4 (by simp; omega); have hb7 := (hbD.trans hb4).trans hb5; have hs5 := hb7.size; have hc5' : ∀ o, (w5.alloc o).cell? ⟨pb, 6, none⟩ = some v := fun o => (World.cell?_alloc_past _ _ _ (by omega)).trans hc5; have HOWN : Hid (∀ o, Own Ty.shift 42 (w5.alloc o) H2 v xs) := fun o => (HO.out.but hb7 (by omega)).alloc o)
            | (go_simp; go_at_call 64; refine (readerUint_any g S r b _ (HRR.out _)).mono ?_; rintro e w4 ⟨rfl, hr4, hb4⟩; have hc4 : w4.cell? ⟨pb, 6, none⟩ = some v := hb4.cell (HC.out _) (by simp; omega))
            | fail)
          all_goals
            go_wp2_with fail
            go_roundw
            case rel => exact ⟨k + 1, _, by omega, by go_num, by rw [HSN.out, HSE.out]; exact HSTEP.out, by rw [HSN.out, HSE.out]; exact HOWN6.out, by simp at hhs6; simp; omega, HS6.out⟩
            case measure => simp [intOf]; omega
        · have hkm : k = k2 := by omega
          subst hkm
          generalize rdMany rdSpan k r1 b1 = qa at *
          obtain ⟨vs, r, b⟩ := qa
          simp only at hinv hown HFL
          obtain ⟨Aa, ca, rfl, hsla⟩ := hown.sl
          have y := fun j => block_cell hinv.p j
          have z := fun j => block_cell hinv.res j
          have fz := fun j => block_free hinv.res j
          unfold pZero at z
          have y0 := y 0; have y1 := y 1; have y2 := y 2; have y3 := y 3; have y4 := y 4; have y5 := y 5; have y6 := y 6
          have z0 := z 0; have z1 := z 1; have z2 := z 2; have z3 := z 3; have z4 := z 4; have z5 := z 5; have z6 := z 6
          have f0 := fz 0; have f1 := fz 1; have f2 := fz 2; have f3 := fz 3; have f4 := fz 4; have f5 := fz 5; have f6 := fz 6
          have HI := Lib.hid hinv
          have HSA := Lib.hid hsla; have HSZ := Lib.hid hslz
          have hwp := hinv.lt
          clear y z fz hinv hown hsla hslz
          go_wp2_with fail
          refine bodyPost_ret (v := .agg #[.int .i64 u1.1, .string t1.1, .string t2.1, .int .i64 u2.1, .int .i64 u3.1, .slice Az ts.length cz, .slice Aa vs.length ca]) (by simp [results, Try.results37, go_sem, z0, z1, z2, z3, z4, z5, z6]) rfl ⟨Az, _, cz, Aa, _, ca, by rw [HFL.out], ?_, ?_, ?_, ?_⟩
          · rw [HFL.out]
            refine (HSZ.out.keep fun q hq => ?_).more fun q hq => ⟨by omega, by simp; omega⟩
            repeat rw [heap_setCell_other _ _ _ _ (by simp; omega)]
          · rw [HFL.out]
            refine (HSA.out.keep fun q hq => ?_).more fun q hq => ⟨by omega, by simp; omega⟩
            repeat rw [heap_setCell_other _ _ _ _ (by simp; omega)]
          · rw [HFL.out]
            repeat' refine Rd.setFar ?_ hS hg (Nat.le_refl _) _ _
            exact HI.out.rd
          · repeat' refine But.setFar ?_ (Nat.le_refl _) _ _
            exact HI.out.but
end Go.Proofs.Ytkhedjfdjjeopaa
/-
  Contract of crew.Decode.
  Condition: the data are well formed, the bytes are bytes.
-/
namespace Go.Proofs.Ytkhedjfdjjeopaa
set_option linter.unusedSimpArgs false
set_option linter.unusedVariables false
open Go.RowKit

def CDecPost (l : List GPerson) (x : Int) (w : World) (e : Ending) (w' : World) : Prop :=
  ∃ A n c, e = .returned (.tuple #[.slice A n c, .int .i64 x]) ∧ Sl Ty.person w' (fun b => w.heap.size ≤ b ∧ b < w'.heap.size) A n c l ∧ Below w.heap.size w w'
theorem unfr_bytes {bs : List Int} (h : bytesL bs) : bytesL (unfr bs).2.1 := by
  unfold unfr
  split
  · exact bytesL_nil
  split
  · exact bytesL_nil
  split
  · exact bytesL_nil
  split
  · exact bytesL_nil
  split
  · exact bytesL_nil
  · exact fun x hx => bytesL_drop h _ x (List.mem_of_mem_take hx)

set_option maxRecDepth 100000 in
set_option maxHeartbeats 1600000 in
theorem crewDecode_any (t : GTT) (bs : List Int) (A A1 A2 A3 : Option Addr) (m c n1 n2 n3 c1 c2 c3 : Nat) (w : World) (ht : t.ok) (hs1 : Sl Ty.zone w (all_ w) A1 n1 c1 t.zones) (hs2 : Sl Ty.airport w (all_ w) A2 n2 c2 t.airports) (hs3 : Sl Ty.flight w (all_ w) A3 n3 c3 t.flights) (h : Sl (Ty.int .u8) w (all_ w) A m c bs) (hb : bytesL bs) :
    Calls Try.prog 16 #[.agg #[.slice A1 n1 c1, .slice A2 n2 c2, .slice A3 n3 c3], .slice A m c] w (CDecPost (decCrew t bs).1 (decCrew t bs).2 w) := by
  have hn1 : m ≤ bs.length := Nat.le_of_eq h.len
  have hn2 : bs.length ≤ m := Nat.le_of_eq h.len.symm
  have hle := h.le
  unfold maxLen at hle
  have HS : Hid (∀ V, Below w.heap.size w V → (Sl Ty.zone V (all_ V) A1 n1 c1 t.zones ∧ Sl Ty.airport V (all_ V) A2 n2 c2 t.airports ∧ Sl Ty.flight V (all_ V) A3 n3 c3 t.flights) ∧ Sl (Ty.int .u8) V (all_ V) A m c bs) := fun V hV => ⟨⟨hs1.next hV, hs2.next hV, hs3.next hV⟩, h.next hV⟩
  have HT : Hid (decCrew t bs = if ttE t ≠ 0 then ([], ttE t) else
  if (unfr bs).2.2.2 ≠ 0 then ([], (unfr bs).2.2.2) else
    if (unfr bs).1 ≠ 2 ∨ (unfr bs).2.2.1 ≠ bs.length then ([], 2) else
      if doneB (rdCrew (unfr bs).2.1).2.1 (rdCrew (unfr bs).2.1).2.2 = false then ([], 2) else
        if crewE t (rdCrew (unfr bs).2.1).1 ≠ 0 then ([], crewE t (rdCrew (unfr bs).2.1).1) else ((rdCrew (unfr bs).2.1).1, 0)) := rfl
  have ha := (Below.refl w.heap.size w).alloc (Nat.le_refl _) (.cells #[.slice A1 n1 c1, .slice A2 n2 c2, .slice A3 n3 c3] 26)
  have hx0 := heap_alloc_new w (.cells #[.slice A1 n1 c1, .slice A2 n2 c2, .slice A3 n3 c3] 26)
  have hz0 : (w.alloc (.cells #[.slice A1 n1 c1, .slice A2 n2 c2, .slice A3 n3 c3] 26)).heap.size = w.heap.size + 1 := by simp
  have HA := Lib.hid ha; have HX0 := Lib.hid hx0; have HZ0 := Lib.hid hz0
  have HBY := Lib.hid (unfr_bytes hb)
  have HBS := Lib.hid hb
  have HTO := Lib.hid ht
  have HBAD : Hid (∀ (W' : World) (x : Int), Below w.heap.size w W' → CDecPost [] x w (.returned (.tuple #[.slice none 0 0, .int .i64 x])) W') := fun W' x hb => ⟨none, 0, 0, rfl, Sl.nil0, hb⟩
  clear h hb ha hs1 hs2 hs3 hx0 hz0 ht
  go_enter Try.func16, Try.ntmps16
  go_wp2_with fail
  generalize w.alloc (.cells #[.slice A1 n1 c1, .slice A2 n2 c2, .slice A3 n3 c3] 26) = W at *
  refine (validate_any t A1 A2 A3 n1 n2 n3 c1 c2 c3 W HTO.out (HS.out W HA.out).1.1 (HS.out W HA.out).1.2.1 (HS.out W HA.out).1.2.2).mono ?_
  rintro e w1 ⟨rfl, hb1⟩
  have hbw1 : Below w.heap.size w w1 := HA.out.trans (hb1.mono HA.out.size)
  by_cases h0 : ttE t = 0
  case neg =>
    have hne : (ttE t != 0) = true := by simpa using h0
    have HR : Hid (decCrew t bs = ([], ttE t)) := by show _ = _; rw [HT.out, if_pos h0]
    clear h0 HT
    generalize ttE t = ev at *
    go_wp2_with fail
    go_ret2
    rw [HR.out]
    exact HBAD.out _ _ hbw1
  rw [h0]
  rw [if_neg (fun h => h h0)] at HT
  have HX1 : Hid (w1.heap[w.heap.size]? = some (.cells #[.slice A1 n1 c1, .slice A2 n2 c2, .slice A3 n3 c3] 26)) := (hb1.block _ (by have := HZ0.out; omega)).trans HX0.out
  have hz1 : w.heap.size + 1 ≤ w1.heap.size := by have := hb1.size; have := HZ0.out; omega
  clear hb1 HX0 HZ0 HA h0
  go_wp2_with fail
  refine (unframe_any bs A m c w1 (HS.out w1 hbw1).2 HBS.out).mono ?_
  generalize unfr bs = u at *
  obtain ⟨kind, body, used, e0⟩ := u
  simp only at HT HBY
  rintro e w2 ⟨Ab, nb, cb, rfl, hsl, hb2⟩
  simp only at hsl
  have hbw2 : Below w.heap.size w w2 := hbw1.trans (hb2.mono hbw1.size)
  have HX2 : Hid (w2.heap[w.heap.size]? = some (.cells #[.slice A1 n1 c1, .slice A2 n2 c2, .slice A3 n3 c3] 26)) := (hb2.block _ (by omega)).trans HX1.out
  have hz2 : w.heap.size + 1 ≤ w2.heap.size := by have := hb2.size; omega
  by_cases he : e0 = 0
  case neg =>
    have he' : (e0 != 0) = true := by simpa using he
    have HR : Hid (decCrew t bs = ([], e0)) := by show _ = _; rw [HT.out, if_pos he]
    clear HT he
    go_wp2_with fail
    go_ret2
    rw [HR.out]
    exact HBAD.out _ _ hbw2
  subst he
  rw [if_neg (by simp)] at HT
  by_cases hk : kind = 2
  case neg =>
    have hk' : (kind != 2) = true := by simpa using hk
    have HR : Hid (decCrew t bs = ([], 2)) := by show _ = _; rw [HT.out, if_pos (.inl hk)]
    clear HT hk
    go_wp2_with fail
    go_ret2
    rw [HR.out]
    exact HBAD.out _ _ hbw2
  subst hk
  by_cases hus : used = m
  case neg =>
    have hu' : ((used : Int) != (m : Int)) = true := by simp; omega
    have HR : Hid (decCrew t bs = ([], 2)) := by show _ = _; rw [HT.out, if_pos (.inr (by omega))]
    clear HT hus
    go_wp2_with fail
    go_ret2
    rw [HR.out]
    exact HBAD.out _ _ hbw2
  subst hus
  rw [if_neg (by rintro (h | h); exact h rfl; omega)] at HT
  have hu' : ((used : Int) != (used : Int)) = false := by simp
  have HRD0 : Hid (Rd (w2.alloc (.cells #[.slice Ab nb cb, .bool false] 80)) w2.heap.size (fun b => w.heap.size < b ∧ b < w2.heap.size) body false) := by
    have hg2 := heap_alloc_new w2 (.cells #[.slice Ab nb cb, .bool false] 80)
    refine ⟨⟨Ab, nb, cb, block_cell hg2 0, ?_⟩, block_cell hg2 1, fun j => block_free hg2 j, HBY.out, fun h => Nat.lt_irrefl _ h.2, fun b hb => by simp; omega⟩
    refine (hsl.more fun b hb => ⟨by omega, hb.2⟩).keep fun b hb => ?_
    rw [Below.heap_alloc _ _ _ hb.2]
  have HX3 : Hid ((w2.alloc (.cells #[.slice Ab nb cb, .bool false] 80)).heap[w.heap.size]? = some (.cells #[.slice A1 n1 c1, .slice A2 n2 c2, .slice A3 n3 c3] 26)) := (Below.heap_alloc _ _ _ (by omega)).trans HX2.out
  have HB3 : Hid (Below w.heap.size w (w2.alloc (.cells #[.slice Ab nb cb, .bool false] 80))) := hbw2.alloc (by omega) _
  have HZ3 : Hid ((w2.alloc (.cells #[.slice Ab nb cb, .bool false] 80)).heap.size = w2.heap.size + 1) := by show _ = _; simp
  have HRC : Hid (rdCrew body = rdMany rdPerson (rdN 64 body false).1.toNat (rdN 64 body false).2.1 (rdN 64 body false).2.2) := rfl
  have HOK := Lib.hid (rdCrew_ok body HBY.out)
  have hn := rdN_range (m := 64) false HBY.out (by decide)
  clear hsl HX1 HX2 hb2 hbw1 hbw2
  go_wp2_with fail
  generalize w2.alloc (.cells #[.slice Ab nb cb, .bool false] 80) = W3 at *
  refine (readerCountTo_any w2.heap.size (fun b => w.heap.size < b ∧ b < w2.heap.size) body false 64 W3 HRD0.out).mono ?_
  rintro e w4 ⟨rfl, hr4, hb4⟩
  have hsS : ∀ b, (fun b => w.heap.size < b ∧ b < w2.heap.size) b → b < w2.heap.size := fun b hb => hb.2
  generalize hSS : (fun b => w.heap.size < b ∧ b < w2.heap.size) = S at *
  clear hSS HRD0
  generalize w2.heap.size = g at *
  generalize rdN 64 body false = q1 at *
  obtain ⟨nn, r0, b0⟩ := q1
  simp only at hr4 hn HRC
  obtain ⟨k1, rfl⟩ := Int.eq_ofNat_of_zero_le hn.1
  have hk1 : k1 ≤ 64 := by omega
  simp only [Int.toNat_natCast] at HRC
  have HINV : Hid (Rd w4 g S r0 b0 ∧ But g W3 w4) := ⟨hr4, hb4⟩
  clear hn hr4 hb4
  go_wp2_with fail
  go_loopw [12, 40] (fun lv i wr => ∃ k : Nat, k ≤ k1 ∧ i = .int .i64 k ∧ Own Ty.person 40 wr (g + 1) lv (rdMany rdPerson k r0 b0).1 ∧ Rd wr g S (rdMany rdPerson k r0 b0).2.1 (rdMany rdPerson k r0 b0).2.2 ∧ But g W3 wr) (fun _ i _ => k1 - (intOf i).toNat)
  case atStart => exact ⟨0, Nat.zero_le _, rfl, Own.nil, HINV.out.1, HINV.out.2⟩
  case round =>
    obtain ⟨k, hk, rfl, hown, hrd, hbut⟩ := hrel
    clear HINV
    by_cases hlt : k < k1
    · have HSN : Hid (rdMany rdPerson (k + 1) r0 b0 = ((rdMany rdPerson k r0 b0).1 ++ [(rdPerson (rdMany rdPerson k r0 b0).2.1 (rdMany rdPerson k r0 b0).2.2).1], (rdPerson (rdMany rdPerson k r0 b0).2.1 (rdMany rdPerson k r0 b0).2.2).2.1, (rdPerson (rdMany rdPerson k r0 b0).2.1 (rdMany rdPerson k r0 b0).2.2).2.2)) := rfl
      have hlen := rdMany_len (f := rdPerson) k r0 b0
      have hll : (rdMany rdPerson k r0 b0).1.length ≤ 64 := by omega
      clear hlen
      generalize rdMany rdPerson k r0 b0 = q at *
      obtain ⟨xs, r, b⟩ := q
      simp only at hown hrd HSN hll
      have HRP := Lib.hid (readPerson_any g S r b wr hrd hsS)
      generalize rdPerson r b = pq at *
      obtain ⟨p, r5, b5⟩ := pq
      simp only at HRP HSN
      have hszr : g + 1 ≤ wr.heap.size := by have := hbut.size; have := HZ3.out; omega
      have HO := Lib.hid hown; have HBU := Lib.hid hbut
      clear hown hrd hbut
      go_wp2_with fail
      refine HRP.out.mono ?_
      rintro e w5 ⟨Ap, np, cp, Aq, nq, cq, rfl, hslp, hslq, hr5, hb5⟩
      have hs5 := hb5.size
      have hnew := At.new w5 #[.int .i64 p.id, .string p.name, .string p.base, .int .i64 p.rank, .int .i64 p.sen, .slice Ap np cp, .slice Aq nq cq] 40
      have HREP : Hid (Ty.person.rep (w5.alloc (.cells #[.int .i64 p.id, .string p.name, .string p.base, .int .i64 p.rank, .int .i64 p.sen, .slice Ap np cp, .slice Aq nq cq] 40)) (fun b => wr.heap.size < b ∧ b < w5.heap.size) [.int .i64 p.id, .string p.name, .string p.base, .int .i64 p.rank, .int .i64 p.sen, .slice Ap np cp, .slice Aq nq cq] p) :=
        ⟨Ap, np, cp, Aq, nq, cq, rfl, hslp.keep fun b hb => Below.heap_alloc _ _ _ hb.2, hslq.keep fun b hb => Below.heap_alloc _ _ _ hb.2⟩
      have HOWN : Hid (Own Ty.person 40 (w5.alloc (.cells #[.int .i64 p.id, .string p.name, .string p.base, .int .i64 p.rank, .int .i64 p.sen, .slice Ap np cp, .slice Aq nq cq] 40)) (g + 1) u12 xs) := (HO.out.but hb5 (by omega)).alloc _
      have HSEP : Hid (∀ b, wr.heap.size < b ∧ b < w5.heap.size → g + 1 ≤ b ∧ b < (w5.alloc (.cells #[.int .i64 p.id, .string p.name, .string p.base, .int .i64 p.rank, .int .i64 p.sen, .slice Ap np cp, .slice Aq nq cq] 40)).heap.size ∧ some b ≠ u12.ownBlock) := fun b hb => ⟨by omega, by simp; omega, fun e => by have := (HO.out.lt b e.symm).2; omega⟩
      have HBU5 : Hid (But g W3 (w5.alloc (.cells #[.int .i64 p.id, .string p.name, .string p.base, .int .i64 p.rank, .int .i64 p.sen, .slice Ap np cp, .slice Aq nq cq] 40))) := (HBU.out.trans hb5).alloc _
      have HR5 := Lib.hid (hr5.next ((Below.refl _ _).alloc (Nat.le_refl _) (.cells #[.int .i64 p.id, .string p.name, .string p.base, .int .i64 p.rank, .int .i64 p.sen, .slice Ap np cp, .slice Aq nq cq] 40)))
      have HNEW := Lib.hid hnew
      clear hslp hslq hr5 hnew
      go_wp2_with (at_builtin; refine wpList_push (t := Ty.person) rfl _ _ _ rfl 104 elem_person rfl HOWN.out w5.heap.size p _ rfl ⟨_, HREP.out, HNEW.out⟩ HSEP.out (by omega) (by decide) (by simp; omega) ?_; intro v6 w6 hown6 hgr6)
      have hbu6 := HBU5.out.grown hgr6 (fun k hk => by have := (HO.out.lt k hk).1; have := HZ3.out; omega)
      have hr6 : Rd w6 g S r5 b5 := HR5.out.frame (fun q hq hSq => hgr6.block q hq (fun e => by
        have h1 := (HO.out.lt q e.symm).1
        rcases hSq with hs | rfl
        · have := hsS q hs; omega
        · omega)) hgr6.size
      clear hgr6
      go_wp2_with fail
      go_roundw
      case rel => exact ⟨k + 1, by omega, by go_num, by rw [HSN.out]; exact hown6, by rw [HSN.out]; exact hr6, hbu6⟩
      case measure => simp [intOf]; omega
    · have hkm : k = k1 := by omega
      subst hkm
      generalize rdMany rdPerson k r0 b0 = qf at *
      obtain ⟨l, r, b⟩ := qf
      simp only at hown hrd HRC
      rw [HRC.out] at HOK HT
      simp only at HOK HT
      obtain ⟨Af, cf, rfl, hslf⟩ := hown.sl
      have hbel : Below w.heap.size w wr := hbut.below HB3.out (by have := HZ3.out; omega) (by omega)
      have hgs : g + 1 ≤ wr.heap.size := by have := hbut.size; have := HZ3.out; omega
      have hX := (hbut.block w.heap.size (by have := HZ3.out; omega) (by omega)).trans HX3.out
      have x0 : wr.cell? ⟨w.heap.size, 0, none⟩ = some (.slice A1 n1 c1) := block_cell hX 0
      have x1 : wr.cell? ⟨w.heap.size, 1, none⟩ = some (.slice A2 n2 c2) := block_cell hX 1
      have x2 : wr.cell? ⟨w.heap.size, 2, none⟩ = some (.slice A3 n3 c3) := block_cell hX 2
      have HDN := Lib.hid (readerDone_any g S r b wr hrd)
      have HSL := Lib.hid hslf
      clear hown hrd hbut hslf hX
      go_wp2_with fail
      refine HDN.out.mono ?_
      rintro e w9 ⟨rfl, rfl⟩
      clear HDN
      rcases Bool.eq_false_or_eq_true (doneB r b) with hd | hd
      case inr =>
        have HR : Hid (decCrew t bs = ([], 2)) := by show _ = _; rw [HT.out, if_pos hd]
        rw [hd]
        clear HT hd
        go_wp2_with fail
        go_ret2
        rw [HR.out]
        exact HBAD.out _ _ hbel
      rw [if_neg (by rw [hd]; simp)] at HT
      rw [hd]
      clear hd
      have HV := Lib.hid (crewValidate_any t l A1 A2 A3 Af n1 n2 n3 _ c1 c2 c3 cf wr HTO.out HOK.out (HS.out wr hbel).1.1 (HS.out wr hbel).1.2.1 (HS.out wr hbel).1.2.2 (HSL.out.more fun b hb => hb.2))
      go_wp2_with fail
      refine HV.out.mono ?_
      rintro e w9 ⟨rfl, hb9⟩
      clear HV
      have hbF : Below w.heap.size w w9 := hbel.trans (hb9.mono hbel.size)
      clear x0 x1 x2
      by_cases hv : crewE t l = 0
      · have HR : Hid (decCrew t bs = (l, 0)) := by show _ = _; rw [HT.out, if_neg (by simpa using hv)]
        rw [hv]
        clear HT hv
        go_wp2_with fail
        go_ret2
        rw [HR.out]
        refine ⟨Af, _, cf, rfl, (HSL.out.keep fun q hq => hb9.block q hq.2).more fun q hq => ⟨by omega, by have := hb9.size; omega⟩, hbF⟩
      · have hv' : (crewE t l != 0) = true := by simpa using hv
        have HR : Hid (decCrew t bs = ([], crewE t l)) := by show _ = _; rw [HT.out, if_pos hv]
        clear HT hv
        generalize crewE t l = ev at *
        go_wp2_with fail
        go_ret2
        rw [HR.out]
        exact HBAD.out _ _ hbF
end Go.Proofs.Ytkhedjfdjjeopaa
/-
  Contract of pairinglaw10.awake: it returns true.
  No condition.
-/
namespace Go.Proofs.Ytkhedjfdjjeopaa
set_option linter.unusedSimpArgs false
set_option linter.unusedVariables false
open Go.RowKit

def sAnna : ByteArray := ⟨#[97, 110, 110, 97]⟩
def sB737 : ByteArray := ⟨#[98, 55, 51, 55]⟩
def sA320 : ByteArray := ⟨#[97, 51, 50, 48]⟩
def anna : GPerson := ⟨7, sAnna, sAAA, 0, 3, [sB737], []⟩
theorem anna_zero : crewE baseTbl [anna] = 0 := by decide +kernel
theorem len16c {n : Nat} (h : n ≤ 16) : n ≤ maxLen := by unfold maxLen; omega
theorem GTT.fine.okc {t : GTT} (h : t.fine) : t.ok := by
  refine ⟨fun z hz => ?_, fun a ha => ?_, fun f hf => ?_⟩
  · obtain ⟨h1, h2, h3, h4⟩ := h.z z hz
    exact ⟨len16c h1, by omega, fun s hs => by obtain ⟨g1, g2⟩ := h4 s hs; exact ⟨by omega, by omega⟩⟩
  · obtain ⟨h1, h2⟩ := h.a a ha
    exact ⟨len16c h1, len16c h2⟩
  · obtain ⟨h1, h2, h3, h4, h5, h6, h7, h8, h9⟩ := h.f f hf
    exact ⟨len16c h1, len16c h2, len16c h3, len16c h4, by omega, by omega, by omega, by omega, by omega⟩
theorem GPerson.fine.okc {p : GPerson} (h : p.fine) : p.ok := by
  obtain ⟨h1, h2, h3, h4, h5, h6, h7, h8, h9⟩ := h
  exact ⟨by omega, len16c h2, len16c h3, by omega, by omega, fun s hs => len16c (h7 s hs), fun s hs => by obtain ⟨g1, g2⟩ := h9 s hs; exact ⟨by omega, by omega⟩⟩
theorem tbl_ok : baseTbl.ok := (crewE_zero.1 anna_zero).tt.fine.okc
theorem anna_ok : ∀ p ∈ [anna], p.ok := fun p hp => ((crewE_zero.1 anna_zero).fine p hp).okc
def annaB : List Int := frameB 2 (crewB [anna])
theorem annaB_bytes : bytesL annaB := frameB_bytes ⟨by decide, by decide⟩ (crewB_bytes (crewE_zero.1 anna_zero).fine)
theorem annaB_dec : decCrew baseTbl annaB = ([anna], 0) := decCrew_back baseTbl [anna] (crewE_zero.1 anna_zero)
def CAwPost (w : World) (e : Ending) (w' : World) : Prop := e = .returned (.bool true) ∧ Below w.heap.size w w'
theorem hasB_anna1 : hasB anna.types ⟨#[98, 55, 51, 55]⟩ = true := by decide +kernel
theorem hasB_anna2 : hasB anna.types ⟨#[97, 51, 50, 48]⟩ = false := by decide +kernel
set_option maxRecDepth 100000 in
set_option maxHeartbeats 1600000 in
theorem crewAwake_any (w : World) : Calls Try.prog 9 #[] w (CAwPost w) := by
  have hb0 : Below w.heap.size w ((w.alloc (.cells #[.string ⟨#[98, 55, 51, 55]⟩] 9)).alloc (.cells #[.int .i64 7, .string ⟨#[97, 110, 110, 97]⟩, .string ⟨#[65, 65, 65]⟩, .int .i64 0, .int .i64 3, .slice (some ⟨w.heap.size, 0, none⟩) 1 1, .slice none 0 0] 40)) := ((Below.refl _ _).alloc (Nat.le_refl _) _).alloc (by simp) _
  have hx0 : ((w.alloc (.cells #[.string ⟨#[98, 55, 51, 55]⟩] 9)).alloc (.cells #[.int .i64 7, .string ⟨#[97, 110, 110, 97]⟩, .string ⟨#[65, 65, 65]⟩, .int .i64 0, .int .i64 3, .slice (some ⟨w.heap.size, 0, none⟩) 1 1, .slice none 0 0] 40)).heap[w.heap.size]? = some (.cells #[.string ⟨#[98, 55, 51, 55]⟩] 9) := heap_alloc2_old _ _ _
  have hx1 : ((w.alloc (.cells #[.string ⟨#[98, 55, 51, 55]⟩] 9)).alloc (.cells #[.int .i64 7, .string ⟨#[97, 110, 110, 97]⟩, .string ⟨#[65, 65, 65]⟩, .int .i64 0, .int .i64 3, .slice (some ⟨w.heap.size, 0, none⟩) 1 1, .slice none 0 0] 40)).heap[w.heap.size + 1]? = some (.cells #[.int .i64 7, .string ⟨#[97, 110, 110, 97]⟩, .string ⟨#[65, 65, 65]⟩, .int .i64 0, .int .i64 3, .slice (some ⟨w.heap.size, 0, none⟩) 1 1, .slice none 0 0] 40) := heap_alloc2_new _ _ _
  have hz0 : ((w.alloc (.cells #[.string ⟨#[98, 55, 51, 55]⟩] 9)).alloc (.cells #[.int .i64 7, .string ⟨#[97, 110, 110, 97]⟩, .string ⟨#[65, 65, 65]⟩, .int .i64 0, .int .i64 3, .slice (some ⟨w.heap.size, 0, none⟩) 1 1, .slice none 0 0] 40)).heap.size = w.heap.size + 2 := by simp
  have HB0 := Lib.hid hb0; have HX0 := Lib.hid hx0; have HX1 := Lib.hid hx1; have HZ0 := Lib.hid hz0
  clear hb0 hx0 hx1 hz0
  go_enter Try.func9, Try.ntmps9
  go_wp2_with fail
  generalize ((w.alloc (.cells #[.string ⟨#[98, 55, 51, 55]⟩] 9)).alloc (.cells #[.int .i64 7, .string ⟨#[97, 110, 110, 97]⟩, .string ⟨#[65, 65, 65]⟩, .int .i64 0, .int .i64 3, .slice (some ⟨w.heap.size, 0, none⟩) 1 1, .slice none 0 0] 40)) = W at *
  have HSL : Hid (Sl Ty.person W (all_ W) (some ⟨w.heap.size + 1, 0, none⟩) 1 1 [anna]) := by
    have hz := HZ0.out
    have k1 : Sl Ty.str W (all_ W) (some ⟨w.heap.size, 0, none⟩) 1 1 [sB737] := Sl.block (xs := [sB737]) (t := Ty.str) HX0.out (show _ < _ by omega) (show 1 ≤ maxLen by decide) fun i x hi => by
      rcases i with _ | i
      · simp at hi; subst hi; rfl
      · simp at hi
    refine Sl.block (xs := [anna]) (t := Ty.person) HX1.out (show _ < _ by omega) (show 1 ≤ maxLen by decide) fun i x hi => ?_
    rcases i with _ | i
    · simp at hi; subst hi; exact ⟨_, 1, 1, none, 0, 0, rfl, k1, Sl.nil0⟩
    · simp at hi
  refine (crewTable_any W).mono ?_
  rintro e w1 ⟨A1, n1, c1, A2, n2, c2, rfl, hs1, hs2, hb1⟩
  have HEN := Lib.hid (crewEncode_ok baseTbl [anna] A1 A2 none _ n1 n2 0 1 c1 c2 0 1 w1 tbl_ok anna_ok anna_zero (hs1.more fun b hb => hb.2) (hs2.more fun b hb => hb.2) Sl.nil0 (HSL.out.next hb1))
  have hbw1 : Below w.heap.size w w1 := HB0.out.trans (hb1.mono HB0.out.size)
  clear hs1 hs2 hb1 HX0 HX1 HSL
  go_wp2_with fail
  refine HEN.out.mono ?_
  clear HEN
  rintro e w2 ⟨v2, rfl, hown2, hb2⟩
  obtain ⟨Ab, cb, rfl, hslb⟩ := hown2.sl
  have hlb : (frameB 2 (crewB [anna])).length = annaB.length := rfl
  rw [hlb]
  have hbw2 : Below w.heap.size w w2 := hbw1.trans (hb2.mono hbw1.size)
  have HSB : Hid (Sl (Ty.int .u8) w2 (all_ w2) Ab annaB.length cb annaB) := hslb.more fun b hb => hb.2
  clear hown2 hslb hlb hb2 hbw1
  go_wp2_with fail
  refine (crewTable_any w2).mono ?_
  rintro e w3 ⟨B1, m1, d1, B2, m2, d2, rfl, hs1, hs2, hb3⟩
  have HD := Lib.hid (crewDecode_any baseTbl annaB Ab B1 B2 none _ cb m1 m2 0 d1 d2 0 w3 tbl_ok (hs1.more fun b hb => hb.2) (hs2.more fun b hb => hb.2) Sl.nil0 (HSB.out.next hb3) annaB_bytes)
  rw [annaB_dec] at HD
  have hbw3 : Below w.heap.size w w3 := hbw2.trans (hb3.mono hbw2.size)
  clear hs1 hs2 hb3 hbw2
  go_wp2_with fail
  refine HD.out.mono ?_
  clear HD
  rintro e w4 ⟨Ap, np, cp, rfl, hsl, hb4⟩
  have hnp : np = 1 := hsl.len
  subst hnp
  have hbw4 : Below w.heap.size w w4 := hbw3.trans (hb4.mono hbw3.size)
  obtain ⟨b, o, P1, k1, e1, P2, k2, e2, rfl, hbS, hat, hsT, hsV⟩ := hsl.person_at (k := 0) (by decide)
  have y0 : w4.cell? ⟨b, o, none⟩ = some (.int .i64 7) := hat 0 _ rfl
  have y1 : w4.cell? ⟨b, o + 1, none⟩ = some (.string ⟨#[97, 110, 110, 97]⟩) := hat 1 _ rfl
  have y2 : w4.cell? ⟨b, o + 2, none⟩ = some (.string ⟨#[65, 65, 65]⟩) := hat 2 _ rfl
  have y3 : w4.cell? ⟨b, o + 3, none⟩ = some (.int .i64 0) := hat 3 _ rfl
  have y4 : w4.cell? ⟨b, o + 4, none⟩ = some (.int .i64 3) := hat 4 _ rfl
  have y5 : w4.cell? ⟨b, o + 5, none⟩ = some (.slice P1 k1 e1) := hat 5 _ rfl
  have y6 : w4.cell? ⟨b, o + 6, none⟩ = some (.slice P2 k2 e2) := hat 6 _ rfl
  have HT := Lib.hid (hsT.more (S' := all_ w4) fun b hb => hb.2)
  have HAT : Hid (∀ V, Below w4.heap.size w4 V → ∀ j, V.cell? ⟨b, o + j, none⟩ = w4.cell? ⟨b, o + j, none⟩) := fun V hV j => hV.cell (show b < _ from hbS.2)
  clear hsl hat hsT hsV hbS hb4 hbw3
  go_wp2_with fail
  refine (qualified_any anna ⟨#[98, 55, 51, 55]⟩ P1 P2 k1 k2 e1 e2 w4 HT.out).mono ?_
  rintro e w5 ⟨rfl, hb5⟩
  rw [hasB_anna1]
  have q := HAT.out w5 hb5
  have x0 : w5.cell? ⟨b, o, none⟩ = some (.int .i64 7) := (q 0).trans y0; have x1 := (q 1).trans y1; have x2 := (q 2).trans y2; have x3 := (q 3).trans y3; have x4 := (q 4).trans y4; have x5 := (q 5).trans y5; have x6 := (q 6).trans y6
  have hbw5 : Below w.heap.size w w5 := hbw4.trans (hb5.mono hbw4.size)
  clear q y0 y1 y2 y3 y4 y5 y6
  go_wp2_with fail
  refine (qualified_any anna ⟨#[97, 51, 50, 48]⟩ P1 P2 k1 k2 e1 e2 w5 (HT.out.next hb5)).mono ?_
  rintro e w6 ⟨rfl, hb6⟩
  rw [hasB_anna2]
  have hbw6 : Below w.heap.size w w6 := hbw5.trans (hb6.mono hbw5.size)
  go_wp2_with fail
  go_ret
  exact ⟨rfl, hbw6⟩
end Go.Proofs.Ytkhedjfdjjeopaa
/-
  Contracts of the reference's person and ValidateCrew (package pairingref9).
  Condition: the data are well formed.
-/
namespace Go.Proofs.Ytkhedjfdjjeopaa
set_option linter.unusedSimpArgs false
set_option linter.unusedVariables false
open Go.RowKit

theorem hasI_hit {l : List GPerson} {i k : Nat} {s : Int} (hk : k < i) (hl : k < l.length) (h : (l.getD k noPerson).sen = s) : hasI (sens (l.take i)) s = true := by
  unfold hasI sens
  rw [List.any_eq_true]
  refine ⟨s, ?_, by simp⟩
  rw [List.mem_map]
  refine ⟨l.getD k noPerson, ?_, h⟩
  rw [List.getD_eq_getElem?_getD, List.getElem?_eq_getElem hl]
  exact List.mem_take_iff_getElem.2 ⟨k, by omega, rfl⟩
theorem hasI_next {l : List GPerson} {k : Nat} {s : Int} (hl : k < l.length) (h0 : hasI (sens (l.take k)) s = false) (h : ¬ (l.getD k noPerson).sen = s) : hasI (sens (l.take (k + 1))) s = false := by
  rw [take_getD hl noPerson]
  unfold sens
  rw [List.map_append]
  show hasI (sens (l.take k) ++ [(l.getD k noPerson).sen]) s = false
  rw [hasI_snoc, h0, decide_eq_false (fun e => h e.symm)]
  rfl
set_option maxRecDepth 100000 in
set_option maxHeartbeats 3200000 in
theorem personR_any (t : GTT) (l : List GPerson) (i : Nat) (A1 A2 A3 A4 : Option Addr) (n1 n2 n3 n4 c1 c2 c3 c4 : Nat) (w : World) (hl : ∀ p ∈ l, p.ok) (hs2 : Sl Ty.airport w (all_ w) A2 n2 c2 t.airports) (hs4 : Sl Ty.person w (all_ w) A4 n4 c4 l) (hi : i < n4) :
    Calls Try.prog 25 #[.agg #[.slice A1 n1 c1, .slice A2 n2 c2, .slice A3 n3 c3], .slice A4 n4 c4, .int .i64 i] w (ErrPost (pErr (aCodes t.airports) l i) w) := by
  have l4 : n4 ≤ l.length := Nat.le_of_eq hs4.len
  have l4' : l.length ≤ n4 := Nat.le_of_eq hs4.len.symm
  have m4 := hs4.le
  unfold maxLen at m4
  obtain ⟨b, o, B1, k1, d1, B2, k2, d2, rfl, hbS, hat, hsT, hsV⟩ := hs4.person_at (k := i) (by omega)
  have hpok := hl _ (getD_in (show i < l.length by omega) noPerson)
  have HERR := Lib.hid (pErr_at (aCodes t.airports) l i)
  have hbl : b < w.heap.size := hbS
  have hbne : b ≠ w.heap.size := by omega
  have hprev : ∀ k, k < n4 → ∀ j u, ([.int .i64 (l.getD k noPerson).id, .string (l.getD k noPerson).name, .string (l.getD k noPerson).base, .int .i64 (l.getD k noPerson).rank, .int .i64 (l.getD k noPerson).sen] : List Value)[j]? = some u → w.cell? ⟨b, o + k * 7 + j, none⟩ = some u := fun k hk j u hu => by
    obtain ⟨b', o', _, _, _, _, _, _, e', _, hat', _, _⟩ := hs4.person_at (k := k) (by omega)
    simp only [Option.some.injEq, Addr.mk.injEq, and_true] at e'
    obtain ⟨rfl, rfl⟩ := e'
    refine hat' j u ?_
    rcases j with _ | _ | _ | _ | _ | j
    all_goals first | exact hu | (simp at hu)
  generalize hz : l.getD i noPerson = p at *
  have y0 : w.cell? ⟨b, o + i * 7, none⟩ = some (.int .i64 p.id) := hat 0 _ rfl
  have y1 := hat 1 _ rfl; have y2 := hat 2 _ rfl; have y3 := hat 3 _ rfl; have y4 := hat 4 _ rfl; have y5 := hat 5 _ rfl; have y6 := hat 6 _ rfl
  have hW1 : ((w.alloc (.cells #[.slice A1 n1 c1, .slice A2 n2 c2, .slice A3 n3 c3] 26)).alloc (.cells #[.int .i64 p.id, .string p.name, .string p.base, .int .i64 p.rank, .int .i64 p.sen, .slice B1 k1 d1, .slice B2 k2 d2] 40)).heap[w.heap.size]? = some (.cells #[.slice A1 n1 c1, .slice A2 n2 c2, .slice A3 n3 c3] 26) := heap_alloc2_old _ _ _
  have hW2 : ((w.alloc (.cells #[.slice A1 n1 c1, .slice A2 n2 c2, .slice A3 n3 c3] 26)).alloc (.cells #[.int .i64 p.id, .string p.name, .string p.base, .int .i64 p.rank, .int .i64 p.sen, .slice B1 k1 d1, .slice B2 k2 d2] 40)).heap[w.heap.size + 1]? = some (.cells #[.int .i64 p.id, .string p.name, .string p.base, .int .i64 p.rank, .int .i64 p.sen, .slice B1 k1 d1, .slice B2 k2 d2] 40) := heap_alloc2_new _ _ _
  have hWb : Below w.heap.size w ((w.alloc (.cells #[.slice A1 n1 c1, .slice A2 n2 c2, .slice A3 n3 c3] 26)).alloc (.cells #[.int .i64 p.id, .string p.name, .string p.base, .int .i64 p.rank, .int .i64 p.sen, .slice B1 k1 d1, .slice B2 k2 d2] 40)) := ((Below.refl _ _).alloc (Nat.le_refl _) _).alloc (by simp) _
  have hWs : ((w.alloc (.cells #[.slice A1 n1 c1, .slice A2 n2 c2, .slice A3 n3 c3] 26)).alloc (.cells #[.int .i64 p.id, .string p.name, .string p.base, .int .i64 p.rank, .int .i64 p.sen, .slice B1 k1 d1, .slice B2 k2 d2] 40)).heap.size = w.heap.size + 2 := by simp
  have HW1 := Lib.hid hW1; have HW2 := Lib.hid hW2; have HWB := Lib.hid hWb; have HWS := Lib.hid hWs
  have HP := Lib.hid hprev
  have HPOK := Lib.hid hpok
  have HS2 := Lib.hid hs2
  have HT := Lib.hid hsT; have HV := Lib.hid hsV
  have HZ := Lib.hid hz
  clear hl hs2 hs4 hat hsT hsV hpok hprev hbS hz hW1 hW2 hWb hWs
  go_enter Try.func25, Try.ntmps25
  go_upto_region 2 with (fail)
  clear y0 y1 y2 y3 y4 y5 y6 hbne
  generalize ((w.alloc (.cells #[.slice A1 n1 c1, .slice A2 n2 c2, .slice A3 n3 c3] 26)).alloc (.cells #[.int .i64 p.id, .string p.name, .string p.base, .int .i64 p.rank, .int .i64 p.sen, .slice B1 k1 d1, .slice B2 k2 d2] 40)) = W at *
  -- what every later world keeps
  have HK : Hid (∀ V, Below (w.heap.size + 2) W V → (∀ j u, (#[.int .i64 p.id, .string p.name, .string p.base, .int .i64 p.rank, .int .i64 p.sen, .slice B1 k1 d1, .slice B2 k2 d2] : Array Value)[j]? = some u → V.cell? ⟨w.heap.size + 1, j, none⟩ = some u) ∧ V.cell? ⟨w.heap.size, 1, none⟩ = some (.slice A2 n2 c2) ∧ Below w.heap.size w V ∧ w.heap.size + 2 ≤ V.heap.size) := fun V hV => by
    have h0 := HWS.out
    have hs := hV.size
    refine ⟨fun j u hu => ?_, ?_, HWB.out.trans (hV.mono (by omega)), by omega⟩
    · rw [hV.cell (by simp), block_cell HW2.out]; exact hu
    · rw [hV.cell (by simp), block_cell HW1.out]; rfl
  have hW0 : Below (w.heap.size + 2) W W := Below.refl _ _
  have z0 : W.cell? ⟨w.heap.size + 1, 0, none⟩ = some (.int .i64 p.id) := (HK.out W hW0).1 0 _ rfl
  have hbW := (HK.out W hW0).2.2.1
  clear HW1 HW2 HWB
  by_cases ha : idOk p.id = true
  case neg =>
    have ha' : idOk p.id = false := by simpa using ha
    have HF : Hid (pErr (aCodes t.airports) l i = 5) := by show _ = _; rw [HERR.out, if_pos ha']
    have h3 := idOk_false ha'
    clear ha ha'
    rcases h3 with h | ⟨h, h'⟩
    all_goals
      go_wp2_with fail
      go_ret
      exact ⟨by rw [HF.out]; rfl, hbW⟩
  obtain ⟨ha1, ha2⟩ := idOk_true ha
  go_upto_region 4 with (fail)
  generalize hpid : (l.getD (i - 1) noPerson).id = pid at *
  generalize hB : decide (0 < i ∧ p.id ≤ pid) = B at *
  have HB := Lib.hid hB
  have hp0 : 0 < i → W.cell? ⟨b, o + (i - 1) * 7, none⟩ = some (.int .i64 pid) := fun h0 => by
    rw [hbW.cell (by simp; omega)]
    have := HP.out (i - 1) (by omega) 0 _ rfl
    rw [hpid] at this
    exact this
  clear hB hpid
  go_cut [36] (fun c wx => c = .bool B ∧ Below (w.heap.size + 2) W wx)
  case first =>
    rcases Nat.eq_zero_or_pos i with rfl | h0
    · have e : B = false := by rw [← HB.out]; simp
      subst e
      clear hp0
      go_quiet (fail)
      go_wp2_with fail
      go_meet
      exact ⟨rfl, below_drewN hW0 _⟩
    · have hq := hp0 h0
      clear hp0
      have wr1 : IntKind.i64.wrap ((i : Int) - 1) = (i : Int) - 1 := IntWalk.i64_in _ (by omega)
      have wr2 : 0 ≤ (i : Int) - 1 := by omega
      have wr3 : (i : Int) - 1 < (n4 : Int) := by omega
      have wr4 : ((i : Int) - 1).toNat = i - 1 := by omega
      by_cases hle : p.id ≤ pid
      · have e : B = true := by rw [← HB.out]; simp [h0, hle]
        subst e
        go_quiet (fail)
        go_wp2_with fail
        go_meet
        exact ⟨rfl, below_drewN hW0 _⟩
      · have e : B = false := by rw [← HB.out]; simp [hle]
        subst e
        go_quiet (fail)
        go_wp2_with fail
        go_meet
        exact ⟨rfl, below_drewN hW0 _⟩
  case rest =>
    obtain ⟨rfl, hWX⟩ := hcut
    clear hp0
    obtain ⟨hcX, x1, hbX, hszX⟩ := HK.out wc hWX
    cases B with
    | true =>
      have ho := of_decide_eq_true HB.out
      have HF : Hid (pErr (aCodes t.airports) l i = 8) := by show _ = _; rw [HERR.out, if_neg (by rw [ha]; decide), if_pos ho]
      clear hcX ho
      go_wp2_with fail
      go_ret
      exact ⟨by rw [HF.out]; rfl, hbX⟩
    | false =>
      have HO : Hid (¬ (0 < i ∧ p.id ≤ pid)) := of_decide_eq_false HB.out
      clear hW0 z0 hbW ha1 ha2
      have z1 := hcX 1 _ rfl; have z2 := hcX 2 _ rfl; have z3 := hcX 3 _ rfl; have z4 := hcX 4 _ rfl; have z5 := hcX 5 _ rfl; have z6 := hcX 6 _ rfl
      clear hcX
      go_wp2_with fail
      refine (isNameR_any p.name _ HPOK.out.2.1).mono ?_
      rintro e w' ⟨rfl, rfl⟩
      by_cases hn : isNameB p.name = true
      case neg =>
        have hn' : isNameB p.name = false := by simpa using hn
        have HF : Hid (pErr (aCodes t.airports) l i = 1) := by show _ = _; rw [HERR.out, if_neg (by rw [ha]; decide), if_neg HO.out, if_pos hn']
        rw [hn']
        clear hn
        go_wp2_with fail
        go_ret
        exact ⟨by rw [HF.out]; rfl, hbX⟩
      rw [hn]
      go_wp2_with fail
      refine (airportIndex_any t.airports p.base _ _ _ _ _ (HS2.out.keep (all_keep hbX))).mono ?_
      rintro e w' ⟨rfl, rfl⟩
      by_cases hbs : hasB (aCodes t.airports) p.base = true
      case neg =>
        have hbs' : hasB (aCodes t.airports) p.base = false := by simpa using hbs
        have HF : Hid (pErr (aCodes t.airports) l i = 6) := by show _ = _; rw [HERR.out, if_neg (by rw [ha]; decide), if_neg HO.out, if_neg (by rw [hn]; decide), if_pos hbs']
        rw [idxOf_none hbs']
        clear hbs hbs'
        go_wp2_with fail
        go_ret
        exact ⟨by rw [HF.out]; rfl, hbX⟩
      have hge3 : 0 ≤ idxOf (aCodes t.airports) p.base := by
        have := idxOf_neg (aCodes t.airports) p.base
        rw [hbs] at this
        simpa using this
      generalize idxOf (aCodes t.airports) p.base = ix at *
      by_cases hrk : rankOk p.rank = false ∨ idOk p.sen = false
      case pos =>
        have HF : Hid (pErr (aCodes t.airports) l i = 5) := by show _ = _; rw [HERR.out, if_neg (by rw [ha]; decide), if_neg HO.out, if_neg (by rw [hn]; decide), if_neg (by rw [hbs]; decide), if_pos hrk]
        have h3 := rs_false hrk
        clear hrk hbs
        rcases h3 with h | ⟨h, h1⟩ | ⟨h, h1, h2⟩ | ⟨h, h1, h2, h3⟩
        all_goals
          go_wp2_with fail
          go_ret
          exact ⟨by rw [HF.out]; rfl, hbX⟩
      obtain ⟨q1, q2, q3, q4⟩ := rs_true hrk
      have HRK := Lib.hid hrk
      clear hrk
      go_wp2_with fail
      clear q1 q2 q3 q4 hge3 z1 z2 z3 z5 z6 z4 x1
      have hk0 : Hid (Below (w.heap.size + 2) W wc) := hWX
      clear hWX hszX
      go_loopw [6, 8] (fun _ r wr => ∃ k : Nat, k ≤ i ∧ r = .int .i64 k ∧ Below (w.heap.size + 2) W wr ∧ Hid (hasI (sens (l.take k)) p.sen = false)) (fun _ r _ => i - (intOf r).toNat)
      case atStart => exact ⟨0, Nat.zero_le _, rfl, hk0.out, rfl⟩
      case round =>
        obtain ⟨k, hk, rfl, hbr, HS⟩ := hrel
        clear hk0 hbX
        obtain ⟨hcR, x1, hbR, hszR⟩ := HK.out wr hbr
        by_cases hlt : k < i
        · have y4 : wr.cell? ⟨b, o + k * 7 + 4, none⟩ = some (.int .i64 (l.getD k noPerson).sen) := by
            rw [hbR.cell (by simp; omega)]
            exact HP.out k (by omega) 4 _ rfl
          have z4 := hcR 4 _ rfl
          have HD := Lib.hid (show ∀ m, Below (w.heap.size + 2) W (wr.drewN m) from fun m => below_drewN hbr m)
          have HD2 := Lib.hid (show ∀ m, Below w.heap.size w (wr.drewN m) from fun m => below_drewN hbR m)
          have HH : Hid ((l.getD k noPerson).sen = p.sen → hasI (sens (l.take i)) p.sen = true) := fun h => hasI_hit hlt (by omega) h
          have HN : Hid (¬ (l.getD k noPerson).sen = p.sen → hasI (sens (l.take (k + 1))) p.sen = false) := fun h => hasI_next (by omega) HS.out h
          generalize (l.getD k noPerson).sen = ks at *
          have t1 : (0 : Int) ≤ (k : Int) := by omega
          have t2 : (k : Int) < (n4 : Int) := by omega
          clear hcR x1 hbr hbR
          go_wp2_with fail
          go_quiet (fail)
          by_cases hq : ks = p.sen
          · have hqb : (ks == p.sen) = true := by simpa using hq
            have HF : Hid (pErr (aCodes t.airports) l i = 7) := by show _ = _; rw [HERR.out, if_neg (by rw [ha]; decide), if_neg HO.out, if_neg (by rw [hn]; decide), if_neg (by rw [hbs]; decide), if_neg HRK.out, if_pos (HH.out hq)]
            clear hq
            go_wp2_with fail
            go_ret
            exact ⟨by rw [HF.out]; rfl, HD2.out _⟩
          · have hqb : (ks == p.sen) = false := by simpa using hq
            have HS2 := Lib.hid (HN.out hq)
            clear hq
            go_wp2_with fail
            go_roundw
            case rel => exact ⟨k + 1, by omega, by go_num, HD.out _, HS2⟩
            case measure => simp [intOf]; omega
        · have hki : k = i := by omega
          subst hki
          have hdup : hasI (sens (l.take k)) p.sen = false := HS.out
          have z5 := hcR 5 _ rfl; have z6 := hcR 6 _ rfl
          have lt1 : k1 ≤ p.types.length := Nat.le_of_eq HT.out.len
          have lt1' : p.types.length ≤ k1 := Nat.le_of_eq HT.out.len.symm
          have lt2 : k2 ≤ p.vacs.length := Nat.le_of_eq HV.out.len
          have lt2' : p.vacs.length ≤ k2 := Nat.le_of_eq HV.out.len.symm
          clear hcR x1 hlt hk
          by_cases hlg : 8 < p.types.length ∨ 8 < p.vacs.length
          case pos =>
            have HF : Hid (pErr (aCodes t.airports) l k = 10) := by show _ = _; rw [HERR.out, if_neg (by rw [ha]; decide), if_neg HO.out, if_neg (by rw [hn]; decide), if_neg (by rw [hbs]; decide), if_neg HRK.out, if_neg (by rw [hdup]; decide), if_pos hlg]
            have h3 : 8 < k1 ∨ (k1 ≤ 8 ∧ 8 < k2) := by omega
            clear hlg lt1 lt1' lt2 lt2' hdup
            rcases h3 with h | ⟨h, h'⟩
            all_goals
              go_wp2_with fail
              go_ret
              exact ⟨by rw [HF.out]; rfl, hbR⟩
          have h81 : k1 ≤ 8 := by omega
          have h82 : k2 ≤ 8 := by omega
          have HPE : Hid (pErr (aCodes t.airports) l k = if firstErr (typeErr p.types) p.types.length ≠ 0 then firstErr (typeErr p.types) p.types.length else firstErr (vacErr p.vacs) p.vacs.length) := by
            show _ = _
            rw [HERR.out, if_neg (by rw [ha]; decide), if_neg HO.out, if_neg (by rw [hn]; decide), if_neg (by rw [hbs]; decide), if_neg HRK.out, if_neg (by rw [hdup]; decide), if_neg hlg]
            rfl
          clear hlg hdup hbs hn ha
          go_wp2_with fail
          have hk1 : Hid (Below (w.heap.size + 2) W wr) := hbr
          clear hbr hbR z5 z6 hszR HERR HP HO HRK HB HS
          generalize hwo : wr = wo at *
          clear hwo
          go_loopw [6, 9] (fun _ r wr => ∃ q : Nat, q ≤ k1 ∧ r = .int .i64 q ∧ Below (w.heap.size + 2) W wr ∧ Hid (zeroTo (typeErr p.types) q)) (fun _ r _ => k1 - (intOf r).toNat)
          case atStart => exact ⟨0, Nat.zero_le _, rfl, hk1.out, zeroTo_zero _⟩
          case round =>
            obtain ⟨q, hq, rfl, hbr, HZ⟩ := hrel
            clear hk1
            obtain ⟨hcR, x1, hbR, hszR⟩ := HK.out wr hbr
            have z5 := hcR 5 _ rfl
            by_cases hlt : q < k1
            · have hTR := HT.out.keep (w' := wr) (all_keep hbR)
              obtain ⟨bt, ot, rfl, hbS, hc⟩ := hTR.name_at (k := q) (by omega)
              have hsz := HPOK.out.2.2.2.2.2.1 _ (getD_in (show q < p.types.length by omega) noStr)
              have HTE : Hid (typeErr p.types q = if isNameB (p.types.getD q noStr) = false then 1 else if 0 < q ∧ leB (p.types.getD q noStr) (p.types.getD (q - 1) noStr) = true then 8 else 0) := rfl
              have hpv : 0 < q → wr.cell? ⟨bt, ot + (q - 1), none⟩ = some (.string (p.types.getD (q - 1) noStr)) := fun h0 => by
                obtain ⟨b', o', e', _, hc'⟩ := hTR.name_at (k := q - 1) (by omega)
                simp only [Option.some.injEq, Addr.mk.injEq, and_true] at e'
                obtain ⟨rfl, rfl⟩ := e'
                exact hc'
              generalize p.types.getD q noStr = s at *
              generalize p.types.getD (q - 1) noStr = sp at *
              have HSZ := Lib.hid hsz
              have HD := Lib.hid (show ∀ m, Below (w.heap.size + 2) W (wr.drewN m) from fun m => below_drewN hbr m)
              have HD2 := Lib.hid (show ∀ m, Below w.heap.size w (wr.drewN m) from fun m => below_drewN hbR m)
              have HBR := Lib.hid hbR
              clear hTR hsz hcR x1 hbr hbR
              go_wp2_with fail
              refine (isNameR_any s _ HSZ.out).mono ?_
              rintro e w' ⟨rfl, rfl⟩
              by_cases hn : isNameB s = true
              case neg =>
                have hn' : isNameB s = false := by simpa using hn
                have HF : Hid (pErr (aCodes t.airports) l k = 1) := by
                  have h9 : typeErr p.types q = 1 := by rw [HTE.out, if_pos hn']
                  have h8 : firstErr (typeErr p.types) p.types.length = 1 := by rw [firstErr_hit HZ.out (by rw [h9]; decide) (by omega), h9]
                  show _ = _
                  rw [HPE.out, h8, if_pos (by decide)]
                rw [hn']
                clear hn hn' hpv
                go_wp2_with fail
                go_ret
                exact ⟨by rw [HF.out]; rfl, HBR.out⟩
              rw [hn]
              rcases Nat.eq_zero_or_pos q with rfl | hq0
              · have HZ2 : Hid (zeroTo (typeErr p.types) (0 + 1)) := zeroTo_succ HZ.out (by rw [HTE.out, if_neg (by rw [hn]; decide), if_neg (fun h => absurd h.1 (by omega))])
                clear hpv hn
                simp only [Nat.add_zero] at hc
                go_wp2_with fail
                go_quiet (fail)
                go_wp2_with fail
                go_roundw
                case rel => exact ⟨0 + 1, by omega, rfl, HD.out _, HZ2⟩
                case measure => simp [intOf]; omega
              · have hq' := hpv hq0
                clear hpv
                have wr1 : IntKind.i64.wrap ((q : Int) - 1) = (q : Int) - 1 := IntWalk.i64_in _ (by omega)
                have wr2 : 0 ≤ (q : Int) - 1 := by omega
                have wr3 : (q : Int) - 1 < (k1 : Int) := by omega
                have wr4 : ((q : Int) - 1).toNat = q - 1 := by omega
                by_cases hle : leB s sp = true
                · have HF : Hid (pErr (aCodes t.airports) l k = 8) := by
                    have h9 : typeErr p.types q = 8 := by rw [HTE.out, if_neg (by rw [hn]; decide), if_pos ⟨hq0, hle⟩]
                    have h8 : firstErr (typeErr p.types) p.types.length = 8 := by rw [firstErr_hit HZ.out (by rw [h9]; decide) (by omega), h9]
                    show _ = _
                    rw [HPE.out, h8, if_pos (by decide)]
                  rcases leB_true hle with h1 | ⟨h1, h2⟩
                  all_goals
                    clear hle hn
                    go_wp2_with fail
                    go_quiet (fail)
                    go_wp2_with fail
                    go_ret
                    exact ⟨by rw [HF.out]; rfl, HD2.out _⟩
                · have hle' : leB s sp = false := by simpa using hle
                  have HZ2 : Hid (zeroTo (typeErr p.types) (q + 1)) := zeroTo_succ HZ.out (by rw [HTE.out, if_neg (by rw [hn]; decide), if_neg (fun h => hle h.2)])
                  obtain ⟨h1, h2⟩ := leB_false hle'
                  clear hle hle' hn
                  go_wp2_with fail
                  go_quiet (fail)
                  go_wp2_with fail
                  go_roundw
                  case rel => exact ⟨q + 1, by omega, by go_num, HD.out _, HZ2⟩
                  case measure => simp [intOf]; omega
            · have HT0 : Hid (firstErr (typeErr p.types) p.types.length = 0) := firstErr_none (by rw [show p.types.length = q by omega]; exact HZ.out)
              clear HZ hcR x1
              go_wp2_with fail
              have hk1 : Hid (Below (w.heap.size + 2) W wr) := hbr
              clear hbr hbR z5 hszR hlt
              generalize hwo : wr = wo2 at *
              clear hwo
              go_loopw [6, 10, 11] (fun _ r _ wr => ∃ q : Nat, q ≤ k2 ∧ r = .int .i64 q ∧ Below (w.heap.size + 2) W wr ∧ Hid (zeroTo (vacErr p.vacs) q)) (fun _ r _ _ => k2 - (intOf r).toNat)
              case atStart => exact ⟨0, Nat.zero_le _, rfl, hk1.out, zeroTo_zero _⟩
              case round =>
                obtain ⟨r, hr, rfl, hbr, HZ⟩ := hrel
                clear hk1
                obtain ⟨hcR, x1, hbR, hszR⟩ := HK.out wr hbr
                have z6 := hcR 6 _ rfl
                by_cases hlt : r < k2
                · have hVR := HV.out.keep (w' := wr) (all_keep hbR)
                  obtain ⟨bt, ot, rfl, hbS, hc0, hc1⟩ := hVR.shift_at (k := r) (by omega)
                  have hbl2 : bt < wr.heap.size := by unfold all_ at hbS; omega
                  have hwl : w.heap.size + 1 < wr.heap.size := by omega
                  have hbne : bt ≠ wr.heap.size := by omega
                  have HVE : Hid (vacErr p.vacs r = if vacOk (p.vacs.getD r noShift) = false then 5 else if 0 < r ∧ (p.vacs.getD r noShift).at_ < (p.vacs.getD (r - 1) noShift).off then 8 else 0) := rfl
                  have hpv : 0 < r → wr.cell? ⟨bt, ot + (r - 1) * 2 + 1, none⟩ = some (.int .i64 (p.vacs.getD (r - 1) noShift).off) := fun h0 => by
                    obtain ⟨b', o', e', _, _, hc'⟩ := hVR.shift_at (k := r - 1) (by omega)
                    simp only [Option.some.injEq, Addr.mk.injEq, and_true] at e'
                    obtain ⟨rfl, rfl⟩ := e'
                    exact hc'
                  generalize p.vacs.getD r noShift = s at *
                  generalize p.vacs.getD (r - 1) noShift = sp at *
                  have hbox0 : (wr.alloc (.cells #[.int .i64 s.at_, .int .i64 s.off] 42)).cell? ⟨wr.heap.size, 0, none⟩ = some (.int .i64 s.at_) := by rw [World.cell?_alloc_at _ _ _ _ rfl]; rfl
                  have hbox1 : (wr.alloc (.cells #[.int .i64 s.at_, .int .i64 s.off] 42)).cell? ⟨wr.heap.size, 1, none⟩ = some (.int .i64 s.off) := by rw [World.cell?_alloc_at _ _ _ _ rfl]; rfl
                  have HBA : Hid (∀ m, Below w.heap.size w ((wr.alloc (.cells #[.int .i64 s.at_, .int .i64 s.off] 42)).drewN m)) := fun m => below_drewN (hbR.alloc (by omega) _) m
                  have HBB : Hid (∀ m, Below (w.heap.size + 2) W ((wr.alloc (.cells #[.int .i64 s.at_, .int .i64 s.off] 42)).drewN m)) := fun m => below_drewN (hbr.alloc (by omega) _) m
                  clear hVR hcR x1 hbr hbR
                  by_cases hv : vacOk s = true
                  case neg =>
                    have hv' : vacOk s = false := by simpa using hv
                    have HF : Hid (pErr (aCodes t.airports) l k = 5) := by
                      have h9 : vacErr p.vacs r = 5 := by rw [HVE.out, if_pos hv']
                      have h8 : firstErr (vacErr p.vacs) p.vacs.length = 5 := by rw [firstErr_hit HZ.out (by rw [h9]; decide) (by omega), h9]
                      show _ = _
                      rw [HPE.out, HT0.out, h8]; rfl
                    have h3 : s.at_ < 0 ∨ (¬ s.at_ < 0 ∧ s.off ≤ s.at_) ∨ (¬ s.at_ < 0 ∧ ¬ s.off ≤ s.at_ ∧ 52596000 < s.off) := by
                      unfold vacOk at hv'
                      simp only [Bool.and_eq_false_iff, decide_eq_false_iff_not] at hv'
                      omega
                    clear hv hv' hpv
                    rcases h3 with h | ⟨h, h'⟩ | ⟨h, h', h''⟩
                    all_goals
                      go_wp2_with fail
                      go_ret
                      exact ⟨by rw [HF.out]; rfl, HBA.out 0⟩
                  have hv1 : 0 ≤ s.at_ ∧ s.at_ < s.off ∧ s.off ≤ 52596000 := by
                    have hv2 := hv
                    unfold vacOk at hv2
                    simp only [Bool.and_eq_true, decide_eq_true_eq] at hv2
                    omega
                  obtain ⟨hv1, hv2, hv3⟩ := hv1
                  rcases Nat.eq_zero_or_pos r with rfl | hr0
                  · have HZ2 : Hid (zeroTo (vacErr p.vacs) (0 + 1)) := zeroTo_succ HZ.out (by rw [HVE.out, if_neg (by rw [hv]; decide), if_neg (fun h => absurd h.1 (by omega))])
                    clear hpv hv
                    simp only [Nat.zero_mul, Nat.add_zero] at hc0 hc1
                    go_wp2_with fail
                    go_quiet (fail)
                    go_wp2_with fail
                    go_roundw
                    case rel => exact ⟨0 + 1, by omega, rfl, HBB.out _, HZ2⟩
                    case measure => simp [intOf]; omega
                  · have hq' := hpv hr0
                    clear hpv
                    have wr1 : IntKind.i64.wrap ((r : Int) - 1) = (r : Int) - 1 := IntWalk.i64_in _ (by omega)
                    have wr2 : 0 ≤ (r : Int) - 1 := by omega
                    have wr3 : (r : Int) - 1 < (k2 : Int) := by omega
                    have wr4 : ((r : Int) - 1).toNat = r - 1 := by omega
                    go_wp2_with fail
                    go_quiet (fail)
                    clear wr1 wr2 wr3 wr4
                    by_cases hle : s.at_ < sp.off
                    · have HF : Hid (pErr (aCodes t.airports) l k = 8) := by
                        have h9 : vacErr p.vacs r = 8 := by rw [HVE.out, if_neg (by rw [hv]; decide), if_pos ⟨hr0, hle⟩]
                        have h8 : firstErr (vacErr p.vacs) p.vacs.length = 8 := by rw [firstErr_hit HZ.out (by rw [h9]; decide) (by omega), h9]
                        show _ = _
                        rw [HPE.out, HT0.out, h8]; rfl
                      go_wp2_with fail
                      go_ret
                      exact ⟨by rw [HF.out]; rfl, HBA.out _⟩
                    · have HZ2 : Hid (zeroTo (vacErr p.vacs) (r + 1)) := zeroTo_succ HZ.out (by rw [HVE.out, if_neg (by rw [hv]; decide), if_neg (fun h => hle h.2)])
                      go_wp2_with fail
                      go_roundw
                      case rel => exact ⟨r + 1, by omega, by go_num, HBB.out _, HZ2⟩
                      case measure => simp [intOf]; omega
                · have HF : Hid (pErr (aCodes t.airports) l k = 0) := by
                    have h8 : firstErr (vacErr p.vacs) p.vacs.length = 0 := firstErr_none (by rw [show p.vacs.length = r by omega]; exact HZ.out)
                    show _ = _
                    rw [HPE.out, HT0.out, h8]; rfl
                  clear hcR x1
                  go_wp2_with fail
                  go_ret
                  exact ⟨by rw [HF.out]; rfl, hbR⟩
end Go.Proofs.Ytkhedjfdjjeopaa
/-
  Contract of the reference's ValidateCrew (package pairingref9).
  Condition: the data are well formed.
-/
namespace Go.Proofs.Ytkhedjfdjjeopaa
set_option linter.unusedSimpArgs false
set_option linter.unusedVariables false
open Go.RowKit

set_option maxRecDepth 100000 in
set_option maxHeartbeats 800000 in
theorem validateCrewR_any (t : GTT) (l : List GPerson) (A1 A2 A3 A4 : Option Addr) (n1 n2 n3 n4 c1 c2 c3 c4 : Nat) (w : World) (ht : t.ok) (hl : ∀ p ∈ l, p.ok) (hs1 : Sl Ty.zone w (all_ w) A1 n1 c1 t.zones) (hs2 : Sl Ty.airport w (all_ w) A2 n2 c2 t.airports) (hs3 : Sl Ty.flight w (all_ w) A3 n3 c3 t.flights) (hs4 : Sl Ty.person w (all_ w) A4 n4 c4 l) :
    Calls Try.prog 11 #[.agg #[.slice A1 n1 c1, .slice A2 n2 c2, .slice A3 n3 c3], .slice A4 n4 c4] w (ErrPost (crewE t l) w) := by
  have l4 : n4 ≤ l.length := Nat.le_of_eq hs4.len
  have l4' : l.length ≤ n4 := Nat.le_of_eq hs4.len.symm
  have m4 := hs4.le
  unfold maxLen at m4
  have HS : Hid (∀ V, Below w.heap.size w V → Sl Ty.zone V (all_ V) A1 n1 c1 t.zones ∧ Sl Ty.airport V (all_ V) A2 n2 c2 t.airports ∧ Sl Ty.flight V (all_ V) A3 n3 c3 t.flights ∧ Sl Ty.person V (all_ V) A4 n4 c4 l) := fun V hV => ⟨hs1.next hV, hs2.next hV, hs3.next hV, hs4.next hV⟩
  have ha := (Below.refl w.heap.size w).alloc (Nat.le_refl _) (.cells #[.slice A1 n1 c1, .slice A2 n2 c2, .slice A3 n3 c3] 26)
  have hx0 := heap_alloc_new w (.cells #[.slice A1 n1 c1, .slice A2 n2 c2, .slice A3 n3 c3] 26)
  have hz0 : (w.alloc (.cells #[.slice A1 n1 c1, .slice A2 n2 c2, .slice A3 n3 c3] 26)).heap.size = w.heap.size + 1 := by simp
  have HA := Lib.hid ha; have HX0 := Lib.hid hx0; have HZ0 := Lib.hid hz0
  have HTO := Lib.hid ht; have HLO := Lib.hid hl
  have HR : Hid (crewE t l = if ttE t ≠ 0 then ttE t else if 64 < l.length then 10 else firstErr (pErr (aCodes t.airports) l) l.length) := rfl
  clear hs1 hs2 hs3 hs4 ha hx0 hz0 ht hl
  go_enter Try.func11, Try.ntmps11
  go_wp2_with fail
  generalize w.alloc (.cells #[.slice A1 n1 c1, .slice A2 n2 c2, .slice A3 n3 c3] 26) = W at *
  refine (validateR_any t A1 A2 A3 n1 n2 n3 c1 c2 c3 W HTO.out (HS.out W HA.out).1 (HS.out W HA.out).2.1 (HS.out W HA.out).2.2.1).mono ?_
  rintro e w1 ⟨rfl, hb1⟩
  have hbw1 : Below w.heap.size w w1 := HA.out.trans (hb1.mono HA.out.size)
  by_cases h0 : ttE t = 0
  case neg =>
    have hne : (ttE t != 0) = true := by simpa using h0
    have HF : Hid (crewE t l = ttE t) := by show _ = _; rw [HR.out, if_pos h0]
    clear h0
    go_wp2_with fail
    go_ret
    exact ⟨by rw [HF.out]; rfl, hbw1⟩
  rw [h0]
  by_cases hbig : 64 < n4
  · have HF : Hid (crewE t l = 10) := by show _ = _; rw [HR.out, if_neg (fun h => h h0), if_pos (by omega)]
    go_wp2_with fail
    go_ret
    exact ⟨by rw [HF.out]; rfl, hbw1⟩
  have HRR : Hid (crewE t l = firstErr (pErr (aCodes t.airports) l) l.length) := by show _ = _; rw [HR.out, if_neg (fun h => h h0), if_neg (by omega)]
  have b4 : n4 ≤ 64 := by omega
  have HX1 : Hid (w1.heap[w.heap.size]? = some (.cells #[.slice A1 n1 c1, .slice A2 n2 c2, .slice A3 n3 c3] 26)) := (hb1.block _ (by have := HZ0.out; omega)).trans HX0.out
  have hz1 : w.heap.size + 1 ≤ w1.heap.size := by have := hb1.size; have := HZ0.out; omega
  have HB1 := Lib.hid hbw1
  clear hb1 HX0 HZ0 HA h0 hbig HR hbw1
  go_wp2_with fail
  go_loopw [4, 6, 7] (fun _ i _ wr => ∃ k : Nat, k ≤ n4 ∧ i = .int .i64 k ∧ Below (w.heap.size + 1) w1 wr ∧ Hid (zeroTo (pErr (aCodes t.airports) l) k)) (fun _ i _ _ => n4 - (intOf i).toNat)
  case atStart => exact ⟨0, Nat.zero_le _, rfl, Below.refl _ _, zeroTo_zero _⟩
  case round =>
    obtain ⟨k, hk, rfl, hbr, HK⟩ := hrel
    have hbw : Below w.heap.size w wr := HB1.out.trans (hbr.mono (by omega))
    have hX := (hbr.block w.heap.size (by omega)).trans HX1.out
    have x0 : wr.cell? ⟨w.heap.size, 0, none⟩ = some (.slice A1 n1 c1) := block_cell hX 0
    have x1 : wr.cell? ⟨w.heap.size, 1, none⟩ = some (.slice A2 n2 c2) := block_cell hX 1
    have x2 : wr.cell? ⟨w.heap.size, 2, none⟩ = some (.slice A3 n3 c3) := block_cell hX 2
    have hwl := hbr.size
    by_cases hlt : k < n4
    · have HP := Lib.hid (personR_any t l k A1 A2 A3 A4 n1 n2 n3 n4 c1 c2 c3 c4 wr HLO.out (HS.out wr hbw).2.1 (HS.out wr hbw).2.2.2 hlt)
      clear hX
      go_wp2_with fail
      refine HP.out.mono ?_
      rintro e w2 ⟨rfl, hb2⟩
      have hb3 : Below (w.heap.size + 1) w1 w2 := hbr.trans (hb2.mono (by omega))
      have hb4 : Below w.heap.size w w2 := hbw.trans (hb2.mono (by omega))
      clear x0 x1 x2 HP hb2
      by_cases he : pErr (aCodes t.airports) l k = 0
      · have HZ : Hid (zeroTo (pErr (aCodes t.airports) l) (k + 1)) := zeroTo_succ HK.out he
        rw [he]
        clear he
        go_wp2_with fail
        go_roundw
        case rel => exact ⟨k + 1, by omega, by go_num, hb3, HZ⟩
        case measure => simp [intOf]; omega
      · have hne : (pErr (aCodes t.airports) l k != 0) = true := by simpa using he
        have HF : Hid (crewE t l = pErr (aCodes t.airports) l k) := by
          show _ = _
          rw [HRR.out, firstErr_hit HK.out he (by omega)]
        clear he
        go_wp2_with fail
        go_ret
        exact ⟨by rw [HF.out]; rfl, hb4⟩
    · have HF : Hid (crewE t l = 0) := by
        have h8 : firstErr (pErr (aCodes t.airports) l) l.length = 0 := firstErr_none (by rw [show l.length = k by omega]; exact HK.out)
        show _ = _
        rw [HRR.out, h8]
      clear hX x0 x1 x2
      go_wp2_with fail
      go_ret
      exact ⟨by rw [HF.out]; rfl, hbw⟩
end Go.Proofs.Ytkhedjfdjjeopaa
/-
  Contract of the reference's BodyCrew (package pairingref9): the bytes of a crew.
  Condition: the crew's numbers and lengths are small.
-/
namespace Go.Proofs.Ytkhedjfdjjeopaa
set_option linter.unusedSimpArgs false
set_option linter.unusedVariables false
open Go.RowKit

theorem box_grownc {α : Type} {t : Ty α} {e T : TypeId} {w w' : World} {base b : Nat} {v : Value} {xs : List α} {cs : Array Value} (h : Own t e w base v xs) (hb : w.heap[b]? = some (.cells cs T (0, 0))) (hT : T ≠ e) (hg : w.grownBy w' v.ownBlock) : w'.heap[b]? = some (.cells cs T (0, 0)) :=
  (hg.block b (Array.getElem?_eq_some_iff.1 hb).1 (own_box_ne h hb hT)).trans hb
/-- The row v of the bytes bs, made from block g on; nothing below g has changed since w0. -/
structure RV (g : Nat) (w0 w : World) (v : Value) (bs : List Int) : Prop where
  own : Own (Ty.int .u8) 5 w g v bs
  bel : Below g w0 w
  le : g ≤ w.heap.size
section
variable {g : Nat} {w0 w w' : World} {v v' : Value} {bs bs' : List Int}
theorem RV.step (h : RV g w0 w v bs) (ho : Own (Ty.int .u8) 5 w' g v' bs') (hg : w.grownBy w' v.ownBlock) : RV g w0 w' v' bs' :=
  ⟨ho, h.bel.grown hg h.le fun k hk => (h.own.lt k hk).1, Nat.le_trans h.le hg.size⟩
theorem RV.next (h : RV g w0 w v bs) (hb : Below w.heap.size w w') : RV g w0 w' v bs := ⟨h.own.next hb, h.bel.trans (hb.mono h.le), Nat.le_trans h.le hb.size⟩
theorem RV.alloc (h : RV g w0 w v bs) (o : Obj) : RV g w0 (w.alloc o) v bs := h.next ((Below.refl _ _).alloc (Nat.le_refl _) o)
theorem RV.drewN (h : RV g w0 w v bs) (n : Nat) : RV g w0 (w.drewN n) v bs := h.next (below_drewN (Below.refl _ _) n)
def RVPost (g : Nat) (w0 w : World) (v : Value) (bs : List Int) (e : Ending) (w' : World) : Prop := ∃ v', e = .returned v' ∧ RV g w0 w' v' bs ∧ w.grownBy w' v.ownBlock
theorem vUint (n : Int) (h : RV g w0 w v bs) (hl : bs.length < 900000000) (h0 : 0 ≤ n) (h1 : n ≤ 4611686018427387904) : Calls Try.prog 59 #[v, .int .i64 n] w (RVPost g w0 w v (bs ++ uvar n)) :=
  (refUint_any g v bs n w h.own h.le hl h0 h1).mono fun _ _ ⟨v', he, h2, h3⟩ => ⟨v', he, h.step h2 h3, h3⟩
theorem vText (s : ByteArray) (h : RV g w0 w v bs) (hl : bs.length < 900000000) (h1 : s.size ≤ 20000) : Calls Try.prog 60 #[v, .string s] w (RVPost g w0 w v (bs ++ textB s)) :=
  (refText_any g v bs s w h.own h.le hl h1).mono fun _ _ ⟨v', he, h2, h3⟩ => ⟨v', he, h.step h2 h3, h3⟩
end

set_option maxRecDepth 100000 in
set_option maxHeartbeats 3200000 in
theorem refBodyCrew_any (l : List GPerson) (A : Option Addr) (n c : Nat) (w : World) (hll : l.length ≤ 64) (hf : ∀ p ∈ l, p.fine) (hs : Sl Ty.person w (all_ w) A n c l) :
    Calls Try.prog 34 #[.slice A n c] w (NewRow (crewB l) w) := by
  have e1 : n ≤ l.length := Nat.le_of_eq hs.len
  have e1' : l.length ≤ n := Nat.le_of_eq hs.len.symm
  have HFI := Lib.hid hf
  have HX : Hid (∀ V, Below w.heap.size w V → Sl Ty.person V (all_ w) A n c l) := fun V hV => hs.keep (all_keep hV)
  have hrw0 : RV w.heap.size w w (.slice none 0 0) [] := ⟨Own.nil, Below.refl _ _, Nat.le_refl _⟩
  clear hf hs
  go_enter Try.func34, Try.ntmps34
  go_wp2_with fail
  refine (vUint (n : Int) hrw0 (by simp) (by omega) (by omega)).mono ?_
  rintro e w2 ⟨v2, rfl, hrw2, -⟩
  rw [List.nil_append] at hrw2
  clear hrw0
  go_wp2_with fail
  go_loopw [3, 4] (fun sb i wr => ∃ (k : Nat), k ≤ n ∧ i = .int .i64 k ∧ RV w.heap.size w wr sb (uvar n ++ (l.take k).flatMap personB)) (fun _ i _ => n - (intOf i).toNat)
  case atStart => exact ⟨0, Nat.zero_le _, rfl, by simpa using hrw2⟩
  case round =>
    obtain ⟨k, hk, rfl, hrw⟩ := hrel
    clear hrw2
    have hlen : (uvar n ++ (l.take k).flatMap personB).length ≤ 40000 := by
      have := flatMap_take_len (f := personB) (M := 600) (fun x hx => personB_len (HFI.out x hx)) k
      have := uvar_len n
      rw [List.length_append]
      omega
    by_cases hlt : k < n
    · have hks : k < l.length := by omega
      obtain ⟨b, o, B1, k1, d1, B2, k2, d2, rfl, hbS, hat, hsT, hsV⟩ := (HX.out wr hrw.bel).person_at hks
      have hpf := HFI.out _ (getD_in hks noPerson)
      have HSN : Hid (uvar n ++ (l.take (k + 1)).flatMap personB = uvar n ++ (l.take k).flatMap personB ++ personB (l.getD k noPerson)) := by
        show _ = _
        rw [flatMap_take personB hks noPerson, List.append_assoc]
      generalize l.getD k noPerson = p at *
      obtain ⟨pi, pn, pb, pr, ps, plt, pt, plv, pv⟩ := hpf
      have HPT := Lib.hid pt; have HPV := Lib.hid pv
      have m1 : k1 ≤ p.types.length := Nat.le_of_eq hsT.len
      have m1' : p.types.length ≤ k1 := Nat.le_of_eq hsT.len.symm
      have m2 : k2 ≤ p.vacs.length := Nat.le_of_eq hsV.len
      have m2' : p.vacs.length ≤ k2 := Nat.le_of_eq hsV.len.symm
      have HPB : Hid (personB p = uvar p.id ++ textB p.name ++ textB p.base ++ uvar p.rank ++ uvar p.sen ++ uvar k1 ++ p.types.flatMap textB ++ uvar k2 ++ p.vacs.flatMap spanB) := by
        show _ = _
        rw [hsT.len, hsV.len]; rfl
      have HQ : Hid (∀ V, Below w.heap.size w V → Sl Ty.str V (all_ w) B1 k1 d1 p.types ∧ Sl Ty.shift V (all_ w) B2 k2 d2 p.vacs) := fun V hV => by
        have hq : ∀ q, all_ w q → V.heap[q]? = wr.heap[q]? := fun q hq => (hV.block q hq).trans (hrw.bel.block q hq).symm
        exact ⟨hsT.keep hq, hsV.keep hq⟩
      have y0 : wr.cell? ⟨b, o + k * 7, none⟩ = some (.int .i64 p.id) := hat 0 _ rfl
      have y1 := hat 1 _ rfl; have y2 := hat 2 _ rfl; have y3 := hat 3 _ rfl; have y4 := hat 4 _ rfl; have y5 := hat 5 _ rfl; have y6 := hat 6 _ rfl
      generalize uvar n ++ (l.take k).flatMap personB = pre at *
      have hra := hrw.alloc (.cells #[.int .i64 p.id, .string p.name, .string p.base, .int .i64 p.rank, .int .i64 p.sen, .slice B1 k1 d1, .slice B2 k2 d2] 40)
      have hbx := heap_alloc_new wr (.cells #[.int .i64 p.id, .string p.name, .string p.base, .int .i64 p.rank, .int .i64 p.sen, .slice B1 k1 d1, .slice B2 k2 d2] 40)
      clear pt pv hsT hsV hbS hrw hat
      go_upto_region 6 with (fail)
      clear y0 y1 y2 y3 y4 y5 y6
      generalize wr.alloc (.cells #[.int .i64 p.id, .string p.name, .string p.base, .int .i64 p.rank, .int .i64 p.sen, .slice B1 k1 d1, .slice B2 k2 d2] 40) = V at *
      generalize wr.heap.size = zb at *
      have HBX := Lib.hid hbx
      have q0 : V.cell? ⟨zb, 0, none⟩ = some (.int .i64 p.id) := block_cell hbx 0
      have q1 : V.cell? ⟨zb, 1, none⟩ = some (.string p.name) := block_cell hbx 1
      have q2 : V.cell? ⟨zb, 2, none⟩ = some (.string p.base) := block_cell hbx 2
      have t1 := uvar_len p.id; have t2 := textB_le pn; have t3 := textB_le pb; have t4 := uvar_len p.rank; have t5 := uvar_len p.sen; have t6 := uvar_len k1; have t7 := uvar_len k2
      have hrd := Lib.hid (hra.drewN 1)
      have hlp : pre.length ≤ 40000 := hlen
      have tok1 : True := trivial
      clear hbx hra hlen
      go_cut [3] (fun sb wx => RV w.heap.size w wx sb (pre ++ uvar p.id ++ textB p.name ++ textB p.base) ∧ wx.heap[zb]? = some (.cells #[.int .i64 p.id, .string p.name, .string p.base, .int .i64 p.rank, .int .i64 p.sen, .slice B1 k1 d1, .slice B2 k2 d2] 40 (0, 0)))
      case first =>
        go_region_law (first
          | (go_simp; go_at_call 59; refine (vUint p.id hrd.out (by omega) (by omega) (by omega)).mono ?_; rintro e wa ⟨va, rfl, hwa, hga⟩; have hza := box_grownc hrd.out.own HBX.out (by decide) hga; have q1' : wa.cell? ⟨zb, 1, none⟩ = some (.string p.name) := block_cell hza 1; have q2' : wa.cell? ⟨zb, 2, none⟩ = some (.string p.base) := block_cell hza 2)
          | (go_simp; go_at_call 60; have _t1 := tok1; refine (vText p.name hwa (by simp; omega) (by omega)).mono ?_; rintro e wb ⟨vb, rfl, hwb, hgb⟩; have hzb := box_grownc hwa.own hza (by decide) hgb; have q2'' : wb.cell? ⟨zb, 2, none⟩ = some (.string p.base) := block_cell hzb 2; clear tok1)
          | (go_simp; go_at_call 60; refine (vText p.base hwb (by simp; omega) (by omega)).mono ?_; rintro e wd ⟨vd, rfl, hwd, hgd⟩; have hzd := box_grownc hwb.own hzb (by decide) hgd)
          | fail)
        all_goals
          go_wp2_with fail
          go_meet
          exact ⟨hwd, hzd⟩
      case rest =>
        obtain ⟨hwb, hzb⟩ := hcut
        clear q0 q1 q2 hrd HBX tok1
        have hl2 : (pre ++ uvar p.id ++ textB p.name ++ textB p.base).length ≤ 40100 := by simp only [List.length_append]; omega
        generalize hp2 : pre ++ uvar p.id ++ textB p.name ++ textB p.base = pre2 at *
        have HP2 := Lib.hid hp2
        clear hp2
        have q3 : wc.cell? ⟨zb, 3, none⟩ = some (.int .i64 p.rank) := block_cell hzb 3
        have q4 : wc.cell? ⟨zb, 4, none⟩ = some (.int .i64 p.sen) := block_cell hzb 4
        have hrd := Lib.hid (hwb.drewN 1)
        have HBX := Lib.hid hzb
        have tok1 : True := trivial
        clear hwb hzb
        obtain ⟨wo, rfl⟩ : ∃ wo : World, wo = wc := ⟨_, rfl⟩
        go_upto_region 7 with (fail)
        go_cut [3] (fun sb wx => RV w.heap.size w wx sb (pre2 ++ uvar p.rank ++ uvar p.sen) ∧ wx.heap[zb]? = some (.cells #[.int .i64 p.id, .string p.name, .string p.base, .int .i64 p.rank, .int .i64 p.sen, .slice B1 k1 d1, .slice B2 k2 d2] 40 (0, 0)))
        case first =>
          go_region_law (first
            | (go_simp; go_at_call 59; have _t1 := tok1; refine (vUint p.rank hrd.out (by omega) (by omega) (by omega)).mono ?_; rintro e wa ⟨va, rfl, hwa, hga⟩; have hza := box_grownc hrd.out.own HBX.out (by decide) hga; have q4' : wa.cell? ⟨zb, 4, none⟩ = some (.int .i64 p.sen) := block_cell hza 4; clear tok1)
            | (go_simp; go_at_call 59; refine (vUint p.sen hwa (by simp; omega) (by omega) (by omega)).mono ?_; rintro e wd ⟨vd, rfl, hwd, hgd⟩; have hzd := box_grownc hwa.own hza (by decide) hgd)
            | fail)
          all_goals
            go_wp2_with fail
            go_meet
            exact ⟨hwd, hzd⟩
        case rest =>
          obtain ⟨hwb, hzb⟩ := hcut
          clear q3 q4 hrd HBX tok1
          have hl3 : (pre2 ++ uvar p.rank ++ uvar p.sen).length ≤ 40200 := by simp only [List.length_append]; omega
          generalize hp3 : pre2 ++ uvar p.rank ++ uvar p.sen = pre3 at *
          have HP3 := Lib.hid hp3
          clear hp3
          have q5 : wc.cell? ⟨zb, 5, none⟩ = some (.slice B1 k1 d1) := block_cell hzb 5
          go_wp2_with fail
          refine (vUint (k1 : Int) hwb (by omega) (by omega) (by omega)).mono ?_
          rintro e w6 ⟨v6, rfl, hw6, hg6⟩
          have hz6 := box_grownc hwb.own hzb (by decide) hg6
          clear hwb hzb hg6 q5
          have hl4 : (pre3 ++ uvar k1).length ≤ 40300 := by simp only [List.length_append]; omega
          generalize hp4 : pre3 ++ uvar k1 = pre4 at *
          have HP4 := Lib.hid hp4
          clear hp4
          go_wp2_with fail
          go_loopw [3, 6] (fun sb i wq => ∃ (j : Nat), j ≤ k1 ∧ i = .int .i64 j ∧ RV w.heap.size w wq sb (pre4 ++ (p.types.take j).flatMap textB) ∧ wq.heap[zb]? = some (.cells #[.int .i64 p.id, .string p.name, .string p.base, .int .i64 p.rank, .int .i64 p.sen, .slice B1 k1 d1, .slice B2 k2 d2] 40 (0, 0))) (fun _ i _ => k1 - (intOf i).toNat)
          case atStart => exact ⟨0, Nat.zero_le _, rfl, by simpa using hw6, hz6⟩
          case round =>
            obtain ⟨j, hj, rfl, hrw, hzb⟩ := hrel
            clear hw6 hz6
            have q5 : wr.cell? ⟨zb, 5, none⟩ = some (.slice B1 k1 d1) := block_cell hzb 5
            have hlen2 : (pre4 ++ (p.types.take j).flatMap textB).length ≤ 40600 := by
              have := flatMap_take_len (f := textB) (M := 26) (l := p.types) (fun x hx => textB_le (HPT.out x hx)) j
              rw [List.length_append]
              omega
            by_cases hlt2 : j < k1
            · have hjs : j < p.types.length := by omega
              obtain ⟨bt, ot, rfl, hbS, y0⟩ := (HQ.out wr hrw.bel).1.name_at hjs
              have hsz := HPT.out _ (getD_in hjs noStr)
              have HSN2 : Hid (pre4 ++ (p.types.take (j + 1)).flatMap textB = pre4 ++ (p.types.take j).flatMap textB ++ textB (p.types.getD j noStr)) := by
                show _ = _
                rw [flatMap_take textB hjs noStr, List.append_assoc]
              generalize p.types.getD j noStr = s at *
              generalize pre4 ++ (p.types.take j).flatMap textB = pre5 at *
              have HZ9 := Lib.hid hzb
              clear hbS hzb
              go_wp2_with fail
              refine (vText s hrw (by omega) (by omega)).mono ?_
              rintro e w7 ⟨v7, rfl, hw7, hg7⟩
              have hz7 := box_grownc hrw.own HZ9.out (by decide) hg7
              rw [← HSN2.out] at hw7
              clear hrw hg7 y0 q5
              go_wp2_with fail
              go_roundw
              case rel => exact ⟨j + 1, by omega, by go_num, hw7, hz7⟩
              case measure => simp [intOf]; omega
            · rw [List.take_of_length_le (by omega)] at hlen2 hrw
              have q6 : wr.cell? ⟨zb, 6, none⟩ = some (.slice B2 k2 d2) := block_cell hzb 6
              generalize hp5 : pre4 ++ p.types.flatMap textB = pre5 at *
              have HP5 := Lib.hid hp5
              clear hp5
              go_wp2_with fail
              refine (vUint (k2 : Int) hrw (by omega) (by omega) (by omega)).mono ?_
              rintro e w7 ⟨v7, rfl, hw7, hg7⟩
              have hz7 := box_grownc hrw.own hzb (by decide) hg7
              have HFIN : Hid (pre5 ++ uvar k2 ++ p.vacs.flatMap spanB = pre ++ personB p) := by
                show _ = _
                rw [HPB.out, ← HP5.out, ← HP4.out, ← HP3.out, ← HP2.out]
                simp only [List.append_assoc]
              have hl6 : (pre5 ++ uvar k2).length ≤ 40700 := by rw [List.length_append]; omega
              generalize pre5 ++ uvar k2 = pre6 at *
              clear hrw hzb hg7 q5 q6
              go_wp2_with fail
              go_loopw [3, 7] (fun sb i wq => ∃ (j : Nat), j ≤ k2 ∧ i = .int .i64 j ∧ RV w.heap.size w wq sb (pre6 ++ (p.vacs.take j).flatMap spanB) ∧ wq.heap[zb]? = some (.cells #[.int .i64 p.id, .string p.name, .string p.base, .int .i64 p.rank, .int .i64 p.sen, .slice B1 k1 d1, .slice B2 k2 d2] 40 (0, 0))) (fun _ i _ => k2 - (intOf i).toNat)
              case atStart => exact ⟨0, Nat.zero_le _, rfl, by simpa using hw7, hz7⟩
              case round =>
                obtain ⟨r, hr, rfl, hrw, hzb⟩ := hrel
                clear hw7 hz7
                have q6 : wr.cell? ⟨zb, 6, none⟩ = some (.slice B2 k2 d2) := block_cell hzb 6
                have hlen3 : (pre6 ++ (p.vacs.take r).flatMap spanB).length ≤ 41000 := by
                  have := flatMap_take_len (f := spanB) (M := 20) (l := p.vacs) (fun x hx => spanB_len x) r
                  rw [List.length_append]
                  omega
                by_cases hlt3 : r < k2
                · have hrs : r < p.vacs.length := by omega
                  obtain ⟨bt, ot, rfl, hbS, y0, y1⟩ := (HQ.out wr hrw.bel).2.shift_at hrs
                  have hsf := HPV.out _ (getD_in hrs noShift)
                  have HSN2 : Hid (pre6 ++ (p.vacs.take (r + 1)).flatMap spanB = pre6 ++ (p.vacs.take r).flatMap spanB ++ spanB (p.vacs.getD r noShift)) := by
                    show _ = _
                    rw [flatMap_take spanB hrs noShift, List.append_assoc]
                  have HSQ' : Hid (∀ V, Below w.heap.size w V → V.cell? ⟨bt, ot + r * 2, none⟩ = some (.int .i64 (p.vacs.getD r noShift).at_) ∧ V.cell? ⟨bt, ot + r * 2 + 1, none⟩ = some (.int .i64 (p.vacs.getD r noShift).off)) := fun V hV => by
                    obtain ⟨b', o', e', _, y0', y1'⟩ := (HQ.out V hV).2.shift_at hrs
                    injection e' with e'
                    injection e' with e1 e2
                    subst e1 e2
                    exact ⟨y0', y1'⟩
                  generalize p.vacs.getD r noShift = sh at *
                  obtain ⟨hs1, hs2⟩ := hsf
                  have u1 := uvar_len sh.at_
                  have u2 := uvar_len sh.off
                  have HSB : Hid (spanB sh = uvar sh.at_ ++ uvar sh.off) := rfl
                  generalize pre6 ++ (p.vacs.take r).flatMap spanB = pre7 at *
                  have hrd := Lib.hid (hrw.drewN 1)
                  have HZ9 := Lib.hid hzb
                  have hjn : (r : Int) < (k2 : Int) := by omega
                  have hj0 : (0 : Int) ≤ (r : Int) := by omega
                  have tok1 : True := trivial
                  clear hzb hrw
                  have HN : Hid (∀ V v9, RV w.heap.size w V v9 (pre7 ++ uvar sh.at_ ++ uvar sh.off) → RV w.heap.size w V v9 (pre6 ++ (p.vacs.take (r + 1)).flatMap spanB)) := fun V v9 h9 => by
                    rw [HSN2.out, HSB.out, ← List.append_assoc]
                    exact h9
                  go_wp2_with fail
                  go_region_law (first
                    | (go_simp; go_at_call 59; have _t1 := tok1; refine (vUint sh.at_ hrd.out (by omega) (by omega) (by omega)).mono ?_; rintro e wa ⟨va, rfl, hwa, hga⟩; have hza := box_grownc hrd.out.own HZ9.out (by decide) hga; have q2' : wa.cell? ⟨zb, 6, none⟩ = some (.slice (some ⟨bt, ot, none⟩) k2 d2) := block_cell hza 6; have y0' := (HSQ'.out wa hwa.bel).1; have y1' := (HSQ'.out wa hwa.bel).2; clear tok1)
                    | (go_simp; go_at_call 59; refine (vUint sh.off hwa (by simp; omega) (by omega) (by omega)).mono ?_; rintro e wb ⟨vb, rfl, hwb, hgb⟩; have hzb := box_grownc hwa.own hza (by decide) hgb)
                    | fail)
                  all_goals
                    have hfin := HN.out _ _ hwb
                    clear hwb hwa
                    go_wp2_with fail
                    go_roundw
                    case rel => exact ⟨r + 1, by omega, by go_num, hfin, hzb⟩
                    case measure => simp [intOf]; omega
                · have HN : Hid (RV w.heap.size w wr u3 (uvar n ++ (l.take (k + 1)).flatMap personB)) := by
                    show RV _ _ _ _ _
                    rw [HSN.out, ← HFIN.out]
                    have : p.vacs.take r = p.vacs := List.take_of_length_le (by omega)
                    rw [this] at hrw
                    exact hrw
                  clear hrw
                  go_wp2_with fail
                  go_roundw
                  case rel => exact ⟨k + 1, by omega, by go_num, HN.out⟩
                  case measure => simp [intOf]; omega
    · have HFE : Hid (RV w.heap.size w wr u3 (crewB l)) := by
        have : l.take k = l := List.take_of_length_le (by omega)
        rw [this] at hrw
        show RV _ _ _ _ _
        unfold crewB
        rw [show l.length = n by omega]
        exact hrw
      have HBB := Lib.hid hrw.bel
      clear hrw hlen
      go_wp2_with fail
      go_ret
      exact ⟨_, rfl, HFE.out.own, HBB.out⟩
end Go.Proofs.Ytkhedjfdjjeopaa
/-
  Contract of the reference's DecodeCrew (package pairingref9).
  Condition: the data are well formed, the bytes are bytes.
-/
namespace Go.Proofs.Ytkhedjfdjjeopaa
set_option linter.unusedSimpArgs false
set_option linter.unusedVariables false
open Go.RowKit

def rrSpan : List Int → Bool → GShift × List Int × Bool := bindR (rrU bigU) fun u => bindR (rrU bigU) fun v => pureR ⟨u, v⟩
def rrPerson : List Int → Bool → GPerson × List Int × Bool := bindR (rrU bigU) fun u1 => bindR rrT fun t1 => bindR rrT fun t2 => bindR (rrU bigU) fun u2 => bindR (rrU bigU) fun u3 => bindR (bindR (rrU 8) fun n => rrMany rrT n.toNat) fun ts => bindR (bindR (rrU 8) fun n => rrMany rrSpan n.toNat) fun vs => pureR ⟨u1, t1, t2, u2, u3, ts, vs⟩
def rrCrew : List Int → Bool → List GPerson × List Int × Bool := bindR (rrU 64) fun n => rrMany rrPerson n.toNat
theorem rdSpan_eq : rdSpan = bindR rdU fun u => bindR rdU fun v => pureR ⟨u, v⟩ := rfl
theorem rdPerson_eq : rdPerson = bindR rdU fun u1 => bindR rdT fun t1 => bindR rdT fun t2 => bindR rdU fun u2 => bindR rdU fun u3 => bindR (bindR (rdN 8) fun n => rdMany rdT n.toNat) fun ts => bindR (bindR (rdN 8) fun n => rdMany rdSpan n.toNat) fun vs => pureR ⟨u1, t1, t2, u2, u3, ts, vs⟩ := by
  funext s b
  simp only [rdPerson, bindR, pureR]
theorem simSpan : Sim rdSpan rrSpan := by rw [rdSpan_eq]; exact simU.bind fun _ => simU.bind fun _ => Sim.pure _
theorem strictSpan : Strict rrSpan := (strictU _).bind simU fun _ => simU.bind fun _ => Sim.pure _
theorem simPerson : Sim rdPerson rrPerson := by
  rw [rdPerson_eq]
  exact simU.bind fun _ => simT.bind fun _ => simT.bind fun _ => simU.bind fun _ => simU.bind fun _ => (simCount simT strictT 8 (by decide)).bind fun _ => (simCount simSpan strictSpan 8 (by decide)).bind fun _ => Sim.pure _
theorem strictPerson : Strict rrPerson :=
  (strictU _).bind simU fun _ => simT.bind fun _ => simT.bind fun _ => simU.bind fun _ => simU.bind fun _ => (simCount simT strictT 8 (by decide)).bind fun _ => (simCount simSpan strictSpan 8 (by decide)).bind fun _ => Sim.pure _
theorem simCrew (s : List Int) (hb : bytesL s) : ((rrCrew s false).2.2 = false → rdCrew s = rrCrew s false) ∧ ((rrCrew s false).2.2 = true → (rdCrew s).2.2 = true) := by
  have h := simCount simPerson strictPerson 64 (by decide)
  have e : rdCrew s = (bindR (rdN 64) fun n => rdMany rdPerson n.toNat) s false := rfl
  rw [e]
  exact ⟨fun h1 => (h.ok s hb h1).1, fun h1 => h.bad s hb h1⟩
/-- pairingref9.DecodeCrew. -/
def decCrewR (t : GTT) (bs : List Int) : List GPerson × Int :=
  if ttE t ≠ 0 then ([], ttE t) else
  if (unfr bs).2.2.2 ≠ 0 then ([], (unfr bs).2.2.2) else
    if (unfr bs).1 ≠ 2 ∨ (unfr bs).2.2.1 ≠ bs.length then ([], 2) else
      if doneB (rrCrew (unfr bs).2.1 false).2.1 (rrCrew (unfr bs).2.1 false).2.2 = false then ([], 2) else
        if crewE t (rrCrew (unfr bs).2.1 false).1 ≠ 0 then ([], crewE t (rrCrew (unfr bs).2.1 false).1) else ((rrCrew (unfr bs).2.1 false).1, 0)
theorem decCrewR_eq {t : GTT} {bs : List Int} (h : bytesL bs) : decCrewR t bs = decCrew t bs := by
  unfold decCrewR decCrew
  have hs := simCrew (unfr bs).2.1 (unfr_bytes h)
  rcases Bool.eq_false_or_eq_true (rrCrew (unfr bs).2.1 false).2.2 with hb | hb
  · have e1 : doneB (rrCrew (unfr bs).2.1 false).2.1 (rrCrew (unfr bs).2.1 false).2.2 = false := by unfold doneB; rw [hb]; rfl
    have e2 : doneB (rdCrew (unfr bs).2.1).2.1 (rdCrew (unfr bs).2.1).2.2 = false := by unfold doneB; rw [hs.2 hb]; rfl
    rw [if_pos e1, if_pos e2]
  · rw [hs.1 hb]
theorem rrMany_badc {α : Type} {f : List Int → Bool → α × List Int × Bool} {s : List Int} {b : Bool} {j : Nat} (h : (rrMany f j s b).2.2 = true) : ∀ n, j ≤ n → rrMany f n s b = rrMany f j s b
  | 0, hn => by rw [show j = 0 by omega]
  | n + 1, hn => by
    rcases Nat.lt_or_eq_of_le hn with h1 | h1
    · have e := rrMany_badc h n (by omega)
      rw [rrMany, e, if_pos h]
    · rw [h1]
theorem rrMany_snocc {α : Type} {f : List Int → Bool → α × List Int × Bool} {s : List Int} {b : Bool} {j : Nat} (h : (rrMany f j s b).2.2 = false) : rrMany f (j + 1) s b = ((rrMany f j s b).1 ++ [(f (rrMany f j s b).2.1 false).1], (f (rrMany f j s b).2.1 false).2) := by
  rw [rrMany, if_neg (by rw [h]; simp)]
theorem rrMany_lenc {α : Type} {f : List Int → Bool → α × List Int × Bool} : ∀ (k : Nat) (s : List Int) (b : Bool), (rrMany f k s b).1.length ≤ k
  | 0, _, _ => Nat.le_refl _
  | k + 1, s, b => by
    have := rrMany_lenc (f := f) k s b
    rw [rrMany]
    split
    · omega
    · rw [List.length_append]; simp; omega
/-- The loop ends: all is read, or something was bad. -/
theorem rrMany_end {α : Type} {f : List Int → Bool → α × List Int × Bool} {s : List Int} {b : Bool} {j n : Nat} (hj : j ≤ n) (h : ¬ (j < n ∧ (rrMany f j s b).2.2 = false)) : rrMany f n s b = rrMany f j s b ∧ (¬ j < n ∨ (j < n ∧ (rrMany f j s b).2.2 = true)) := by
  by_cases h1 : j < n
  · have h2 : (rrMany f j s b).2.2 = true := by
      rcases Bool.eq_false_or_eq_true (rrMany f j s b).2.2 with h2 | h2
      · exact h2
      · exact absurd ⟨h1, h2⟩ h
    exact ⟨rrMany_badc h2 n hj, .inr ⟨h1, h2⟩⟩
  · exact ⟨by rw [show n = j by omega], .inl h1⟩
theorem rrU_rangec {s : List Int} {m : Int} (b : Bool) (h : bytesL s) (hm : 0 ≤ m) : 0 ≤ (rrU m s b).1 ∧ (rrU m s b).1 ≤ m := by
  unfold rrU
  split
  · exact ⟨by simp, hm⟩
  · rename_i hc
    have he : (decU s).2.2 = 0 := Classical.not_not.1 fun e => hc (.inr (.inl e))
    have := decU_ok h he
    refine ⟨this.1, ?_⟩
    have h9 : ¬ m < (decU s).1 := fun e => hc (.inr (.inr e))
    simp only
    omega
/-- What holds while a person is read by the reference: the person's box pb, the reader; all else of wo is as it was. -/
structure PR (wo : World) (g : Nat) (S : Nat → Prop) (pb : Nat) (A : Option Addr) (n c : Nat) (body : List Int) (wr : World) (cs : Array Value) (r : List Int) (b : Bool) : Prop where
  but : But g wo wr
  rd : RRd wr g S A n c body r b
  p : wr.heap[pb]? = some (.cells cs 40 (0, 0))
  lt : wo.heap.size ≤ pb
  lg : g < pb
  sS : ∀ b, S b → b < g
section
variable {wo : World} {g : Nat} {S : Nat → Prop} {pb : Nat} {A : Option Addr} {n c : Nat} {body : List Int} {wr w5 w6 : World} {cs : Array Value} {r r' : List Int} {b b' : Bool} {o : Obj} {row : Option Nat}
theorem PR.pl (h : PR wo g S pb A n c body wr cs r b) : pb < wr.heap.size := (Array.getElem?_eq_some_iff.1 h.p).1
theorem PR.call (h : PR wo g S pb A n c body wr cs r b) (hb : But g wr w5) (hr : RRd w5 g S A n c body r' b') : PR wo g S pb A n c body w5 cs r' b' := by
  have h2 := h.lg
  exact ⟨h.but.trans hb, hr, (hb.block pb h.pl (by omega)).trans h.p, h.lt, h.lg, h.sS⟩
theorem PR.keep (h : PR wo g S pb A n c body wr cs r b) (hb : But g wr w5) (hgr : (w5.alloc o).grownBy w6 row) (q : Nat) (hq : q < wr.heap.size) (hqg : q ≠ g) (hqr : row ≠ some q) : w6.heap[q]? = wr.heap[q]? := by
  have h3 := hb.size
  rw [hgr.block q (by simp; omega) (fun e => hqr e.symm), Below.heap_alloc _ _ _ (by omega), hb.block q hq hqg]
theorem PR.p6 (h : PR wo g S pb A n c body wr cs r b) (hb : But g wr w5) (hgr : (w5.alloc o).grownBy w6 row) (hrow : ∀ k, row = some k → pb < k) : w6.heap[pb]? = some (.cells cs 40 (0, 0)) := by
  have h2 := h.lg
  rw [h.keep hb hgr pb h.pl (by omega) (fun e => by have := hrow pb e; omega)]
  exact h.p
theorem PR.step (h : PR wo g S pb A n c body wr cs r b) (hb : But g wr w5) (hr : RRd w5 g S A n c body r' b') (hgr : (w5.alloc o).grownBy w6 row) (hrow : ∀ k, row = some k → pb < k) (j : Nat) (v' : Value) : PR wo g S pb A n c body (w6.setCell ⟨pb, j, none⟩ v') (cs.setIfInBounds j v') r' b' := by
  have h1 := h.lt; have h2 := h.lg; have h3 := h.pl; have h4 := hb.size; have h5 := hgr.size
  simp only [World.size_alloc] at h5
  refine ⟨?_, ?_, heap_setCell_same _ _ _ _ _ _ (h.p6 hb hgr hrow), h1, h2, h.sS⟩
  · exact (((h.but.trans hb).alloc o).grown hgr (fun k hk => by have := hrow k hk; omega)).setFar (by omega) j v'
  · refine hr.frame (fun q hq hSq => ?_) (by simp; omega)
    have hqg : q ≤ g := by
      rcases hSq with hs | rfl
      · exact Nat.le_of_lt (h.sS q hs)
      · exact Nat.le_refl _
    rw [heap_setCell_other _ _ _ _ (by simp; omega), hgr.block q (by simp; omega) (fun e => by have := hrow q e.symm; omega), Below.heap_alloc _ _ _ (by omega)]
/-- What lies between the box and the new row stays. -/
theorem PR.mid (h : PR wo g S pb A n c body wr cs r b) (hb : But g wr w5) (hgr : (w5.alloc o).grownBy w6 row) {H : Nat} (hrow : ∀ k, row = some k → H ≤ k) (hH : pb < H) (hHs : H ≤ wr.heap.size) (j : Nat) (v' : Value) (q : Nat) (hq : pb < q ∧ q < H) : (w6.setCell ⟨pb, j, none⟩ v').heap[q]? = wr.heap[q]? := by
  have h2 := h.lg
  rw [heap_setCell_other _ _ _ _ (by simp; omega), h.keep hb hgr q (by omega) (by omega) (fun e => by have := hrow q e; omega)]
end
theorem rrPerson_eq (r : List Int) (b : Bool) : rrPerson r b = (let u1 := rrU bigU r b
    let t1 := rrT u1.2.1 u1.2.2
    let t2 := rrT t1.2.1 t1.2.2
    let u2 := rrU bigU t2.2.1 t2.2.2
    let u3 := rrU bigU u2.2.1 u2.2.2
    let n1 := rrU 8 u3.2.1 u3.2.2
    let m1 := rrMany rrT n1.1.toNat n1.2.1 n1.2.2
    let n2 := rrU 8 m1.2.1 m1.2.2
    let m2 := rrMany rrSpan n2.1.toNat n2.2.1 n2.2.2
    (⟨u1.1, t1.1, t2.1, u2.1, u3.1, m1.1, m2.1⟩, m2.2.1, m2.2.2)) := by
  simp only [rrPerson, bindR, pureR]
theorem rrSpan_eq (r : List Int) (b : Bool) : rrSpan r b = (⟨(rrU bigU r b).1, (rrU bigU (rrU bigU r b).2.1 (rrU bigU r b).2.2).1⟩, (rrU bigU (rrU bigU r b).2.1 (rrU bigU r b).2.2).2) := rfl

set_option maxRecDepth 100000 in
set_option maxHeartbeats 3200000 in
theorem crewDecodeR_any (t : GTT) (bs : List Int) (A A1 A2 A3 : Option Addr) (m c n1 n2 n3 c1 c2 c3 : Nat) (w : World) (ht : t.ok) (hs1 : Sl Ty.zone w (all_ w) A1 n1 c1 t.zones) (hs2 : Sl Ty.airport w (all_ w) A2 n2 c2 t.airports) (hs3 : Sl Ty.flight w (all_ w) A3 n3 c3 t.flights) (h : Sl (Ty.int .u8) w (all_ w) A m c bs) (hb : bytesL bs) :
    Calls Try.prog 17 #[.agg #[.slice A1 n1 c1, .slice A2 n2 c2, .slice A3 n3 c3], .slice A m c] w (CDecPost (decCrewR t bs).1 (decCrewR t bs).2 w) := by
  have hn1 : m ≤ bs.length := Nat.le_of_eq h.len
  have hn2 : bs.length ≤ m := Nat.le_of_eq h.len.symm
  have hle := h.le
  unfold maxLen at hle
  have HS : Hid (∀ V, Below w.heap.size w V → (Sl Ty.zone V (all_ V) A1 n1 c1 t.zones ∧ Sl Ty.airport V (all_ V) A2 n2 c2 t.airports ∧ Sl Ty.flight V (all_ V) A3 n3 c3 t.flights) ∧ Sl (Ty.int .u8) V (all_ V) A m c bs) := fun V hV => ⟨⟨hs1.next hV, hs2.next hV, hs3.next hV⟩, h.next hV⟩
  have HT : Hid (decCrewR t bs = if ttE t ≠ 0 then ([], ttE t) else
  if (unfr bs).2.2.2 ≠ 0 then ([], (unfr bs).2.2.2) else
    if (unfr bs).1 ≠ 2 ∨ (unfr bs).2.2.1 ≠ bs.length then ([], 2) else
      if doneB (rrCrew (unfr bs).2.1 false).2.1 (rrCrew (unfr bs).2.1 false).2.2 = false then ([], 2) else
        if crewE t (rrCrew (unfr bs).2.1 false).1 ≠ 0 then ([], crewE t (rrCrew (unfr bs).2.1 false).1) else ((rrCrew (unfr bs).2.1 false).1, 0)) := rfl
  have ha := (Below.refl w.heap.size w).alloc (Nat.le_refl _) (.cells #[.slice A1 n1 c1, .slice A2 n2 c2, .slice A3 n3 c3] 26)
  have hx0 := heap_alloc_new w (.cells #[.slice A1 n1 c1, .slice A2 n2 c2, .slice A3 n3 c3] 26)
  have hz0 : (w.alloc (.cells #[.slice A1 n1 c1, .slice A2 n2 c2, .slice A3 n3 c3] 26)).heap.size = w.heap.size + 1 := by simp
  have HA := Lib.hid ha; have HX0 := Lib.hid hx0; have HZ0 := Lib.hid hz0
  have HBY := Lib.hid (unfr_bytes hb)
  have HBS := Lib.hid hb
  have HTO := Lib.hid ht
  have HBAD : Hid (∀ (W' : World) (x : Int), Below w.heap.size w W' → CDecPost [] x w (.returned (.tuple #[.slice none 0 0, .int .i64 x])) W') := fun W' x hb => ⟨none, 0, 0, rfl, Sl.nil0, hb⟩
  clear h hb ha hs1 hs2 hs3 hx0 hz0 ht
  go_enter Try.func17, Try.ntmps17
  go_wp2_with fail
  generalize w.alloc (.cells #[.slice A1 n1 c1, .slice A2 n2 c2, .slice A3 n3 c3] 26) = W at *
  refine (validateR_any t A1 A2 A3 n1 n2 n3 c1 c2 c3 W HTO.out (HS.out W HA.out).1.1 (HS.out W HA.out).1.2.1 (HS.out W HA.out).1.2.2).mono ?_
  rintro e w1 ⟨rfl, hb1⟩
  have hbw1 : Below w.heap.size w w1 := HA.out.trans (hb1.mono HA.out.size)
  by_cases h0 : ttE t = 0
  case neg =>
    have hne : (ttE t != 0) = true := by simpa using h0
    have HR : Hid (decCrewR t bs = ([], ttE t)) := by show _ = _; rw [HT.out, if_pos h0]
    clear h0 HT
    generalize ttE t = ev at *
    go_wp2_with fail
    go_ret2
    rw [HR.out]
    exact HBAD.out _ _ hbw1
  rw [h0]
  rw [if_neg (fun h => h h0)] at HT
  have HX1 : Hid (w1.heap[w.heap.size]? = some (.cells #[.slice A1 n1 c1, .slice A2 n2 c2, .slice A3 n3 c3] 26)) := (hb1.block _ (by have := HZ0.out; omega)).trans HX0.out
  have hz1 : w.heap.size + 1 ≤ w1.heap.size := by have := hb1.size; have := HZ0.out; omega
  clear hb1 HX0 HZ0 HA h0
  go_wp2_with fail
  refine (unframeR_any bs A m c w1 (HS.out w1 hbw1).2 HBS.out).mono ?_
  generalize unfr bs = u at *
  obtain ⟨kind, body, used, e0⟩ := u
  simp only at HT HBY
  rintro e w2 ⟨Ab, nb, cb, rfl, hsl, hb2, hpl⟩
  simp only at hsl
  have hbw2 : Below w.heap.size w w2 := hbw1.trans (hb2.mono hbw1.size)
  have HX2 : Hid (w2.heap[w.heap.size]? = some (.cells #[.slice A1 n1 c1, .slice A2 n2 c2, .slice A3 n3 c3] 26)) := (hb2.block _ (by omega)).trans HX1.out
  have hz2 : w.heap.size + 1 ≤ w2.heap.size := by have := hb2.size; omega
  by_cases he : e0 = 0
  case neg =>
    have he' : (e0 != 0) = true := by simpa using he
    have HR : Hid (decCrewR t bs = ([], e0)) := by show _ = _; rw [HT.out, if_pos he]
    clear HT he
    go_wp2_with fail
    go_ret2
    rw [HR.out]
    exact HBAD.out _ _ hbw2
  subst he
  rw [if_neg (by simp)] at HT
  by_cases hk : kind = 2
  case neg =>
    have hk' : (kind != 2) = true := by simpa using hk
    have HR : Hid (decCrewR t bs = ([], 2)) := by show _ = _; rw [HT.out, if_pos (.inl hk)]
    clear HT hk
    go_wp2_with fail
    go_ret2
    rw [HR.out]
    exact HBAD.out _ _ hbw2
  subst hk
  by_cases hus : used = m
  case neg =>
    have hu' : ((used : Int) != (m : Int)) = true := by simp; omega
    have HR : Hid (decCrewR t bs = ([], 2)) := by show _ = _; rw [HT.out, if_pos (.inr (by omega))]
    clear HT hus
    go_wp2_with fail
    go_ret2
    rw [HR.out]
    exact HBAD.out _ _ hbw2
  subst hus
  rw [if_neg (by rintro (h | h); exact h rfl; omega)] at HT
  have hu' : ((used : Int) != (used : Int)) = false := by simp
  have HLN := Lib.hid hsl.len
  have HRD0 : Hid (RRd (w2.alloc (.cells #[.slice Ab nb cb, .int .i64 0, .int .i64 0] 86)) w2.heap.size (fun b => w.heap.size < b ∧ b < w2.heap.size) Ab nb cb body body false) := by
    have hg2 := heap_alloc_new w2 (.cells #[.slice Ab nb cb, .int .i64 0, .int .i64 0] 86)
    refine ⟨block_cell hg2 0, ?_, by rw [Nat.sub_self]; exact block_cell hg2 1, block_cell hg2 2, by rw [Nat.sub_self]; rfl, Nat.le_refl _, hpl, fun j => block_free hg2 j, HBY.out, fun h => Nat.lt_irrefl _ h.2, fun b hb => by simp; omega⟩
    refine (hsl.more fun b hb => ⟨by omega, hb.2⟩).keep fun b hb => ?_
    rw [Below.heap_alloc _ _ _ hb.2]
  have HX3 : Hid ((w2.alloc (.cells #[.slice Ab nb cb, .int .i64 0, .int .i64 0] 86)).heap[w.heap.size]? = some (.cells #[.slice A1 n1 c1, .slice A2 n2 c2, .slice A3 n3 c3] 26)) := (Below.heap_alloc _ _ _ (by omega)).trans HX2.out
  have HB3 : Hid (Below w.heap.size w (w2.alloc (.cells #[.slice Ab nb cb, .int .i64 0, .int .i64 0] 86))) := hbw2.alloc (by omega) _
  have HZ3 : Hid ((w2.alloc (.cells #[.slice Ab nb cb, .int .i64 0, .int .i64 0] 86)).heap.size = w2.heap.size + 1) := by show _ = _; simp
  have HRC : Hid (rrCrew body false = rrMany rrPerson (rrU 64 body false).1.toNat (rrU 64 body false).2.1 (rrU 64 body false).2.2) := rfl
  have hn := rrU_rangec (m := 64) false HBY.out (by decide)
  have HOK : Hid ((rrCrew body false).2.2 = false → ∀ p ∈ (rrCrew body false).1, p.ok) := fun hbb => by
    rw [← (simCrew body HBY.out).1 hbb]
    exact rdCrew_ok body HBY.out
  clear hsl HX1 HX2 hb2 hbw1 hbw2 hpl
  go_wp2_with fail
  generalize w2.alloc (.cells #[.slice Ab nb cb, .int .i64 0, .int .i64 0] 86) = W3 at *
  refine (rrUint_any w2.heap.size (fun b => w.heap.size < b ∧ b < w2.heap.size) Ab nb cb body body false 64 W3 HRD0.out).mono ?_
  rintro e w4 ⟨rfl, hr4, hb4⟩
  have hsS : ∀ b, (fun b => w.heap.size < b ∧ b < w2.heap.size) b → b < w2.heap.size := fun b hb => hb.2
  generalize hSS : (fun b => w.heap.size < b ∧ b < w2.heap.size) = S at *
  clear hSS HRD0
  generalize w2.heap.size = g at *
  generalize rrU 64 body false = q1 at *
  obtain ⟨nn, r0, b0⟩ := q1
  simp only at hr4 hn HRC
  obtain ⟨k1, rfl⟩ := Int.eq_ofNat_of_zero_le hn.1
  have hk1 : k1 ≤ 64 := by omega
  simp only [Int.toNat_natCast] at HRC
  have HINV : Hid (RRd w4 g S Ab nb cb body r0 b0 ∧ But g W3 w4) := ⟨hr4, hb4⟩
  clear hn hr4 hb4
  go_upto_block 0 with (fail)
  go_cut [12] (fun lv wx => Own Ty.person 40 wx (g + 1) lv (rrMany rrPerson k1 r0 b0).1 ∧ RRd wx g S Ab nb cb body (rrMany rrPerson k1 r0 b0).2.1 (rrMany rrPerson k1 r0 b0).2.2 ∧ But g W3 wx)
  case first =>
    go_wp2_with fail
    go_loopw [12, 14] (fun lv i wr => ∃ k : Nat, k ≤ k1 ∧ i = .int .i64 k ∧ Own Ty.person 40 wr (g + 1) lv (rrMany rrPerson k r0 b0).1 ∧ RRd wr g S Ab nb cb body (rrMany rrPerson k r0 b0).2.1 (rrMany rrPerson k r0 b0).2.2 ∧ But g W3 wr) (fun _ i _ => k1 - (intOf i).toNat)
    case atStart => exact ⟨0, Nat.zero_le _, rfl, Own.nil, HINV.out.1, HINV.out.2⟩
    case round =>
      obtain ⟨k, hk, rfl, hown, hrd, hbut⟩ := hrel
      clear HINV
      have hE := hrd.c2
      by_cases hlt : k < k1 ∧ (rrMany rrPerson k r0 b0).2.2 = false
      · obtain ⟨hlt, hnb⟩ := hlt
        have HSN := Lib.hid (rrMany_snocc hnb)
        have hll := rrMany_lenc (f := rrPerson) k r0 b0
        generalize rrMany rrPerson k r0 b0 = q at *
        obtain ⟨xs, r, b⟩ := q
        simp only at hown hrd HSN hll hnb hE
        subst hnb
        simp only [if_neg (show ¬ false = true by simp)] at hE
        have HO := Lib.hid hown; have HBU := Lib.hid hbut
        have hszr : g + 1 ≤ wr.heap.size := by have := hbut.size; have := HZ3.out; omega
        have HPE := Lib.hid (rrPerson_eq r false)
        clear hown hbut
        go_wp2_with fail
        refine (rrUint_any g S Ab nb cb body r false bigU wr hrd).mono ?_
        rintro e w5 ⟨rfl, hr5, hb5⟩
        generalize rrU bigU r false = u1 at *
        clear hrd hE
        go_wp2_with fail
        refine (rrText_any g S Ab nb cb body u1.2.1 u1.2.2 w5 hr5).mono ?_
        rintro e w6 ⟨rfl, hr6, hb6⟩
        generalize rrT u1.2.1 u1.2.2 = t1 at *
        go_wp2_with fail
        refine (rrText_any g S Ab nb cb body t1.2.1 t1.2.2 w6 hr6).mono ?_
        rintro e w7 ⟨rfl, hr7, hb7⟩
        generalize rrT t1.2.1 t1.2.2 = t2 at *
        go_wp2_with fail
        refine (rrUint_any g S Ab nb cb body t2.2.1 t2.2.2 bigU w7 hr7).mono ?_
        rintro e w8 ⟨rfl, hr8, hb8⟩
        generalize rrU bigU t2.2.1 t2.2.2 = u2 at *
        go_wp2_with fail
        refine (rrUint_any g S Ab nb cb body u2.2.1 u2.2.2 bigU w8 hr8).mono ?_
        rintro e w9 ⟨rfl, hr9, hb9⟩
        generalize rrU bigU u2.2.1 u2.2.2 = u3 at *
        have hbt : But g wr w9 := (((hb5.trans hb6).trans hb7).trans hb8).trans hb9
        have hsw9 := hbt.size
        have HPR0 : Hid (PR wr g S w9.heap.size Ab nb cb body (w9.alloc (.cells #[.int .i64 u1.1, .string t1.1, .string t2.1, .int .i64 u2.1, .int .i64 u3.1, .slice none 0 0, .slice none 0 0] 40)) #[.int .i64 u1.1, .string t1.1, .string t2.1, .int .i64 u2.1, .int .i64 u3.1, .slice none 0 0, .slice none 0 0] u3.2.1 u3.2.2) :=
          ⟨hbt.alloc _, hr9.next ((Below.refl _ _).alloc (Nat.le_refl _) _), heap_alloc_new _ _, hsw9, by omega, hsS⟩
        clear hr5 hr6 hr7 hr8 hr9 hb5 hb6 hb7 hb8 hb9 hbt
        go_wp2_with fail
        generalize w9.alloc (.cells #[.int .i64 u1.1, .string t1.1, .string t2.1, .int .i64 u2.1, .int .i64 u3.1, .slice none 0 0, .slice none 0 0] 40) = W9 at *
        generalize w9.heap.size = pb at *
        refine (rrUint_any g S Ab nb cb body u3.2.1 u3.2.2 8 W9 HPR0.out.rd).mono ?_
        rintro e w10 ⟨rfl, hr10, hb10⟩
        have hn := rrU_rangec (m := 8) u3.2.2 (fun x hx => HPR0.out.rd.rest_by x hx) (by decide)
        have hpr := HPR0.out.call hb10 hr10
        clear hr10 hb10 HPR0
        generalize rrU 8 u3.2.1 u3.2.2 = n1' at *
        obtain ⟨nv, r5, b5⟩ := n1'
        simp only at hpr hn HPE
        obtain ⟨ns, rfl⟩ := Int.eq_ofNat_of_zero_le hn.1
        have hns : ns ≤ 8 := by omega
        simp only [Int.toNat_natCast] at HPE
        have HPR := Lib.hid hpr
        clear hn hpr
        obtain ⟨wo, rfl⟩ : ∃ wo : World, wo = wr := ⟨_, rfl⟩
        go_upto_block 2 with (fail)
        go_cut [] (fun wx => ∃ v, PR wo g S pb Ab nb cb body wx #[.int .i64 u1.1, .string t1.1, .string t2.1, .int .i64 u2.1, .int .i64 u3.1, v, .slice none 0 0] (rrMany rrT ns r5 b5).2.1 (rrMany rrT ns r5 b5).2.2 ∧ Own Ty.str 9 wx (pb + 1) v (rrMany rrT ns r5 b5).1)
        case first =>
          go_wp2_with fail
          go_loopw [17] (fun i wq => ∃ (j : Nat) (v : Value), j ≤ ns ∧ i = .int .i64 j ∧ PR wo g S pb Ab nb cb body wq #[.int .i64 u1.1, .string t1.1, .string t2.1, .int .i64 u2.1, .int .i64 u3.1, v, .slice none 0 0] (rrMany rrT j r5 b5).2.1 (rrMany rrT j r5 b5).2.2 ∧ Own Ty.str 9 wq (pb + 1) v (rrMany rrT j r5 b5).1) (fun i _ => ns - (intOf i).toNat)
          case atStart => exact ⟨0, _, Nat.zero_le _, rfl, HPR.out, Own.nil⟩
          case round =>
            obtain ⟨j, v, hj, rfl, hpr, hown⟩ := hrel
            clear HPR
            have hE := hpr.rd.c2
            by_cases hlj : j < ns ∧ (rrMany rrT j r5 b5).2.2 = false
            · obtain ⟨hlj, hnb⟩ := hlj
              have HSN2 := Lib.hid (rrMany_snocc hnb)
              have hl2 := rrMany_lenc (f := rrT) j r5 b5
              generalize rrMany rrT j r5 b5 = q2 at *
              obtain ⟨ys, rs, bs2⟩ := q2
              simp only at hpr hown HSN2 hl2 hnb hE
              subst hnb
              simp only [if_neg (show ¬ false = true by simp)] at hE
              have HC : Hid (∀ q, (wr.drewN q).cell? ⟨pb, 5, none⟩ = some v) := fun q => block_cell (w := wr.drewN q) hpr.p 5
              have hc1 : wr.cell? ⟨pb, 5, none⟩ = some v := block_cell hpr.p 5
              have HRR : Hid (∀ q, RRd (wr.drewN q) g S Ab nb cb body rs false) := fun q => hpr.rd.drewN q
              have HI := Lib.hid hpr
              have HOT := Lib.hid hown
              have hwsz := hpr.pl
              have hgp := hpr.lg
              have hbD := (But.refl g wr).drewN 1
              have HROW : Hid (∀ k, v.ownBlock = some k → pb < k) := fun k hk => (HOT.out.lt k hk).1
              clear hpr hown
              go_wp2_with fail
              go_region_law (first
                | (refine step_push rfl (.tmp 86) (.tmp 89) 37 rfl 16 elem_strs (by simp [Act.eval, Act.put]) (HOWN.out _) w4.heap.size (rrT rs false).1 (fun _ => False) (by simp [Act.eval, Act.put]) ⟨[.string (rrT rs false).1], rfl, At.new w4 #[.string (rrT rs false).1] _⟩ (fun _ h => h.elim) (by omega) (by decide) (by simp; omega) ?_; intro g6 cap6 w6 hown6 hgr6 hat6; have hz6 := HI.out.p6 hb7 hgr6 HROW.out; have hc6 : w6.cell? ⟨pb, 5, none⟩ = some v := block_cell hz6 5; have hf6 : w6.frozen? ⟨pb, 5, none⟩ = false := block_free hz6 5; have HSTEP := Lib.hid (HI.out.step hb7 hr4 hgr6 HROW.out 5 (.slice (some ⟨g6, 0, none⟩) (ys.length + 1) cap6)); have HOWN6 := Lib.hid (hown6.setCell (g := pb) (j := 5) (by omega) (.slice (some ⟨g6, 0, none⟩) (ys.length + 1) cap6)); clear hz6)
                | (go_simp; go_at_call 41; refine (rrText_any g S Ab nb cb body rs false _ (HRR.out _)).mono ?_; rintro e w4 ⟨rfl, hr4, hb4⟩; have hc4 : w4.cell? ⟨pb, 5, none⟩ = some v := hb4.cell (HC.out _) (by simp; omega); have hb7 := hbD.trans hb4; have hs5 := hb7.size; have hc5' : ∀ o, (w4.alloc o).cell? ⟨pb, 5, none⟩ = some v := fun o => (World.cell?_alloc_past _ _ _ (by omega)).trans hc4; have HOWN : Hid (∀ o, Own Ty.str 9 (w4.alloc o) (pb + 1) v ys) := fun o => (HOT.out.but hb7 (by omega)).alloc o)
                | fail)
              all_goals
                go_wp2_with fail
                go_roundw
                case rel => exact ⟨j + 1, _, by omega, by go_num, by rw [HSN2.out]; exact HSTEP.out, by rw [HSN2.out]; exact HOWN6.out⟩
                case measure => simp [intOf]; omega
            · obtain ⟨hM, htest⟩ := rrMany_end hj hlj
              have HFIN : Hid (∃ v, PR wo g S pb Ab nb cb body wr #[.int .i64 u1.1, .string t1.1, .string t2.1, .int .i64 u2.1, .int .i64 u3.1, v, .slice none 0 0] (rrMany rrT ns r5 b5).2.1 (rrMany rrT ns r5 b5).2.2 ∧ Own Ty.str 9 wr (pb + 1) v (rrMany rrT ns r5 b5).1) := by
                rw [hM]
                exact ⟨v, hpr, hown⟩
              clear hpr hown hM hlj
              rcases htest with ht | ⟨ht, hbt⟩
              · go_wp2_with fail
                go_meet
                exact HFIN.out
              · rw [hbt] at hE
                have hE2 : wr.cell? ⟨g, 2, none⟩ = some (.int .i64 2) := hE
                clear hE hbt
                go_wp2_with fail
                go_meet
                exact HFIN.out
        case rest =>
          obtain ⟨v, hpr, hown⟩ := hcut
          clear HPR
          generalize rrMany rrT ns r5 b5 = qz at *
          obtain ⟨ts, r6, b6⟩ := qz
          simp only at hpr hown HPE
          obtain ⟨Az, cz, rfl, hslz⟩ := hown.sl
          have HI := Lib.hid hpr
          have HSLZ := Lib.hid hslz
          have hn := rrU_rangec (m := 8) b6 (fun x hx => hpr.rd.rest_by x hx) (by decide)
          clear hpr hown hslz
          obtain ⟨wo2, rfl⟩ : ∃ wo : World, wo = wc := ⟨_, rfl⟩
          go_wp2_with fail
          refine (rrUint_any g S Ab nb cb body r6 b6 8 wo2 HI.out.rd).mono ?_
          rintro e w2 ⟨rfl, hr2, hb2⟩
          have hpr2 := HI.out.call hb2 hr2
          have hszz := hpr2.pl
          have hgp := HI.out.lg
          have HSLZ2 : Hid (Sl Ty.str w2 (fun b => pb < b ∧ b < w2.heap.size) Az ts.length cz ts) := by
            refine (HSLZ.out.keep fun q hq => ?_).more fun q hq => ⟨by omega, by have := hb2.size; omega⟩
            exact hb2.block q hq.2 (by omega)
          clear hr2 hb2 HI HSLZ
          generalize rrU 8 r6 b6 = q1 at *
          obtain ⟨nn, r7, b7⟩ := q1
          simp only at hpr2 hn HPE
          obtain ⟨nq, rfl⟩ := Int.eq_ofNat_of_zero_le hn.1
          have hnq : nq ≤ 8 := by omega
          have HPR2 := Lib.hid hpr2
          clear hn hpr2
          generalize hH2 : w2.heap.size = H2 at *
          have hH2' : H2 ≤ w2.heap.size := by omega
          clear hH2
          simp only [Int.toNat_natCast] at HPE
          go_upto_block 4 with (fail)
          go_cut [] (fun wx => ∃ v, PR wo g S pb Ab nb cb body wx #[.int .i64 u1.1, .string t1.1, .string t2.1, .int .i64 u2.1, .int .i64 u3.1, .slice Az ts.length cz, v] (rrMany rrSpan nq r7 b7).2.1 (rrMany rrSpan nq r7 b7).2.2 ∧ Own Ty.shift 42 wx H2 v (rrMany rrSpan nq r7 b7).1 ∧ H2 ≤ wx.heap.size ∧ Sl Ty.str wx (fun b => pb < b ∧ b < H2) Az ts.length cz ts)
          case first =>
            go_wp2_with fail
            go_loopw [18] (fun i wq => ∃ (j : Nat) (v : Value), j ≤ nq ∧ i = .int .i64 j ∧ PR wo g S pb Ab nb cb body wq #[.int .i64 u1.1, .string t1.1, .string t2.1, .int .i64 u2.1, .int .i64 u3.1, .slice Az ts.length cz, v] (rrMany rrSpan j r7 b7).2.1 (rrMany rrSpan j r7 b7).2.2 ∧ Own Ty.shift 42 wq H2 v (rrMany rrSpan j r7 b7).1 ∧ H2 ≤ wq.heap.size ∧ Sl Ty.str wq (fun b => pb < b ∧ b < H2) Az ts.length cz ts) (fun i _ => nq - (intOf i).toNat)
            case atStart => exact ⟨0, _, Nat.zero_le _, rfl, HPR2.out, Own.nil, hH2', HSLZ2.out⟩
            case round =>
              obtain ⟨j, v, hj, rfl, hpr, hown, hHs, hslz⟩ := hrel
              clear HPR2 HSLZ2 hH2'
              have hE := hpr.rd.c2
              by_cases hlj : j < nq ∧ (rrMany rrSpan j r7 b7).2.2 = false
              · obtain ⟨hlj, hnb⟩ := hlj
                have HSN2 := Lib.hid (rrMany_snocc hnb)
                have hl2 := rrMany_lenc (f := rrSpan) j r7 b7
                generalize rrMany rrSpan j r7 b7 = q2 at *
                obtain ⟨ys, rs, bs2⟩ := q2
                simp only at hpr hown HSN2 hl2 hnb hE
                subst hnb
                simp only [if_neg (show ¬ false = true by simp)] at hE
                rw [rrSpan_eq] at HSN2
                have HC : Hid (∀ q, (wr.drewN q).cell? ⟨pb, 6, none⟩ = some v) := fun q => block_cell (w := wr.drewN q) hpr.p 6
                have hc1 : wr.cell? ⟨pb, 6, none⟩ = some v := block_cell hpr.p 6
                have HRR : Hid (∀ q, RRd (wr.drewN q) g S Ab nb cb body rs false) := fun q => hpr.rd.drewN q
                have HI := Lib.hid hpr
                have HOT := Lib.hid hown
                have HSZ := Lib.hid hslz
                have hwsz := hpr.pl
                have hbD := (But.refl g wr).drewN 1
                have HROW0 : Hid (∀ k, v.ownBlock = some k → H2 ≤ k) := fun k hk => (HOT.out.lt k hk).1
                have HROW : Hid (∀ k, v.ownBlock = some k → pb < k) := fun k hk => by have := (HOT.out.lt k hk).1; omega
                clear hpr hown hslz
                go_wp2_with fail
                go_region_law (first
                  | (refine step_push rfl (.tmp 107) (.tmp 113) 38 rfl 16 elem_span (by simp [Act.eval, Act.put]) (HOWN.out _) w5.heap.size ⟨(rrU bigU rs false).1, (rrU bigU (rrU bigU rs false).2.1 (rrU bigU rs false).2.2).1⟩ (fun _ => False) (by simp [Act.eval, Act.put]) ⟨[.int .i64 (rrU bigU rs false).1, .int .i64 (rrU bigU (rrU bigU rs false).2.1 (rrU bigU rs false).2.2).1], rfl, At.new w5 #[.int .i64 (rrU bigU rs false).1, .int .i64 (rrU bigU (rrU bigU rs false).2.1 (rrU bigU rs false).2.2).1] _⟩ (fun _ h => h.elim) (by omega) (by decide) (by simp; omega) ?_; intro g6 cap6 w6 hown6 hgr6 hat6; have hz6 := HI.out.p6 hb7 hgr6 HROW.out; have hc6 : w6.cell? ⟨pb, 6, none⟩ = some v := block_cell hz6 6; have hf6 : w6.frozen? ⟨pb, 6, none⟩ = false := block_free hz6 6; have HSTEP := Lib.hid (HI.out.step hb7 hr5 hgr6 HROW.out 6 (.slice (some ⟨g6, 0, none⟩) (ys.length + 1) cap6)); have HOWN6 := Lib.hid (hown6.setCell (g := pb) (j := 6) (by omega) (.slice (some ⟨g6, 0, none⟩) (ys.length + 1) cap6)); have HS6 := Lib.hid (HSZ.out.keep (HI.out.mid hb7 hgr6 HROW0.out (by omega) hHs 6 (.slice (some ⟨g6, 0, none⟩) (ys.length + 1) cap6))); have hhs6 := hgr6.size; clear hz6)
                  | (go_simp; go_at_call 40; refine (rrUint_any g S Ab nb cb body _ _ bigU _ hr4).mono ?_; rintro e w5 ⟨rfl, hr5, hb5⟩; have hc5 : w5.cell? ⟨pb, 6, none⟩ = some v := hb5.cell hc4 (by simp; omega); have hb7 := (hbD.trans hb4).trans hb5; have hs5 := hb7.size; have hc5' : ∀ o, (w5.alloc o).cell? ⟨pb, 6, none⟩ = some v := fun o => (World.cell?_alloc_past _ _ _ (by omega)).trans hc5; have HOWN : Hid (∀ o, Own Ty.shift 42 (w5.alloc o) H2 v ys) := fun o => (HOT.out.but hb7 (by omega)).alloc o)
                  | (go_simp; go_at_call 40; refine (rrUint_any g S Ab nb cb body rs false bigU _ (HRR.out _)).mono ?_; rintro e w4 ⟨rfl, hr4, hb4⟩; have hc4 : w4.cell? ⟨pb, 6, none⟩ = some v := hb4.cell (HC.out _) (by simp; omega))
                  | fail)
                all_goals
                  go_wp2_with fail
                  go_roundw
                  case rel => exact ⟨j + 1, _, by omega, by go_num, by rw [HSN2.out]; exact HSTEP.out, by rw [HSN2.out]; exact HOWN6.out, by simp at hhs6; simp; omega, HS6.out⟩
                  case measure => simp [intOf]; omega
              · obtain ⟨hM, htest⟩ := rrMany_end hj hlj
                have HFIN : Hid (∃ v, PR wo g S pb Ab nb cb body wr #[.int .i64 u1.1, .string t1.1, .string t2.1, .int .i64 u2.1, .int .i64 u3.1, .slice Az ts.length cz, v] (rrMany rrSpan nq r7 b7).2.1 (rrMany rrSpan nq r7 b7).2.2 ∧ Own Ty.shift 42 wr H2 v (rrMany rrSpan nq r7 b7).1 ∧ H2 ≤ wr.heap.size ∧ Sl Ty.str wr (fun b => pb < b ∧ b < H2) Az ts.length cz ts) := by
                  rw [hM]
                  exact ⟨v, hpr, hown, hHs, hslz⟩
                clear hpr hown hM hlj hslz
                rcases htest with ht | ⟨ht, hbt⟩
                · go_wp2_with fail
                  go_meet
                  exact HFIN.out
                · rw [hbt] at hE
                  have hE2 : wr.cell? ⟨g, 2, none⟩ = some (.int .i64 2) := hE
                  clear hE hbt
                  go_wp2_with fail
                  go_meet
                  exact HFIN.out
          case rest =>
            obtain ⟨v, hpr, hown, hHs, hslz⟩ := hcut
            clear HPR2 HSLZ2 hH2'
            generalize rrMany rrSpan nq r7 b7 = qa at *
            obtain ⟨vs, r8, b8⟩ := qa
            simp only at hpr hown HPE
            obtain ⟨Aa, ca, rfl, hsla⟩ := hown.sl
            have y := fun j => block_cell hpr.p j
            have y0 := y 0; have y1 := y 1; have y2 := y 2; have y3 := y 3; have y4 := y 4; have y5 := y 5; have y6 := y 6
            have hlo := hpr.lt
            have hlg := hpr.lg
            have hplt := hpr.pl
            have HOZ := Lib.hid (HO.out.but hpr.but (by omega))
            have HSEP : Hid (∀ o b, wo.heap.size ≤ b ∧ b < wc.heap.size → g + 1 ≤ b ∧ b < (wc.alloc o).heap.size ∧ some b ≠ u12.ownBlock) := fun o b hb => ⟨by omega, by simp; omega, fun e => by have := (HO.out.lt b e.symm).2; omega⟩
            have HREP : Hid (Ty.person.rep (wc.alloc (.cells #[.int .i64 u1.1, .string t1.1, .string t2.1, .int .i64 u2.1, .int .i64 u3.1, .slice Az ts.length cz, .slice Aa vs.length ca] 40)) (fun b => wo.heap.size ≤ b ∧ b < wc.heap.size) [.int .i64 u1.1, .string t1.1, .string t2.1, .int .i64 u2.1, .int .i64 u3.1, .slice Az ts.length cz, .slice Aa vs.length ca] ⟨u1.1, t1.1, t2.1, u2.1, u3.1, ts, vs⟩ ∧ At (wc.alloc (.cells #[.int .i64 u1.1, .string t1.1, .string t2.1, .int .i64 u2.1, .int .i64 u3.1, .slice Az ts.length cz, .slice Aa vs.length ca] 40)) wc.heap.size 0 [.int .i64 u1.1, .string t1.1, .string t2.1, .int .i64 u2.1, .int .i64 u3.1, .slice Az ts.length cz, .slice Aa vs.length ca]) :=
              ⟨⟨Az, _, cz, Aa, _, ca, rfl, (hslz.keep fun b hb => Below.heap_alloc _ _ _ (by omega)).more fun b hb => ⟨by omega, by omega⟩, (hsla.keep fun b hb => Below.heap_alloc _ _ _ hb.2).more fun b hb => ⟨by omega, hb.2⟩⟩, At.new _ _ _⟩
            have HBU9 := Lib.hid (HBU.out.trans hpr.but)
            have HRD9 := Lib.hid hpr.rd
            clear y hpr hown hslz hsla
            go_wp2_with (at_builtin; refine wpList_push (t := Ty.person) rfl _ _ _ rfl 104 elem_person rfl (HOZ.out.alloc _) wc.heap.size ⟨u1.1, t1.1, t2.1, u2.1, u3.1, ts, vs⟩ (fun b => wo.heap.size ≤ b ∧ b < wc.heap.size) rfl ⟨_, HREP.out.1, HREP.out.2⟩ (HSEP.out _) ?ac1 (by decide) ?ac2 ?_)
            case ac1 => omega
            case ac2 => first | omega | (simp; omega)
            intro v6 w6 hown6 hgr6
            have hbu6 := (HBU9.out.alloc _).grown hgr6 (fun k hk => by have := (HO.out.lt k hk).1; have := HZ3.out; omega)
            have hr6 : RRd w6 g S Ab nb cb body r8 b8 := (HRD9.out.next ((Below.refl _ _).alloc (Nat.le_refl _) _)).frame (fun q hq hSq => hgr6.block q hq (fun e => by
              have h1 := (HO.out.lt q e.symm).1
              rcases hSq with hs | rfl
              · have := hsS q hs; omega
              · omega)) hgr6.size
            clear hgr6
            go_wp2_with fail
            go_roundw
            case rel => exact ⟨k + 1, by omega, by go_num, by rw [HSN.out, HPE.out]; exact hown6, by rw [HSN.out, HPE.out]; exact hr6, hbu6⟩
            case measure => simp [intOf]; omega
      · obtain ⟨hM, htest⟩ := rrMany_end hk hlt
        have HFIN : Hid (Own Ty.person 40 wr (g + 1) u12 (rrMany rrPerson k1 r0 b0).1 ∧ RRd wr g S Ab nb cb body (rrMany rrPerson k1 r0 b0).2.1 (rrMany rrPerson k1 r0 b0).2.2 ∧ But g W3 wr) := by
          rw [hM]
          exact ⟨hown, hrd, hbut⟩
        clear hown hrd hbut hM hlt
        rcases htest with ht | ⟨ht, hbt⟩
        · go_wp2_with fail
          go_meet
          exact HFIN.out
        · rw [hbt] at hE
          have hE2 : wr.cell? ⟨g, 2, none⟩ = some (.int .i64 2) := hE
          clear hE hbt
          go_wp2_with fail
          go_meet
          exact HFIN.out
  case rest =>
    obtain ⟨hown, hrd, hbut⟩ := hcut
    clear HINV
    generalize rrMany rrPerson k1 r0 b0 = qf at *
    obtain ⟨l, r, b⟩ := qf
    simp only at hown hrd HRC
    rw [HRC.out] at HOK HT
    simp only at HOK HT
    obtain ⟨Af, cf, rfl, hslf⟩ := hown.sl
    have hbel : Below w.heap.size w wc := hbut.below HB3.out (by have := HZ3.out; omega) (by omega)
    have hgs : g + 1 ≤ wc.heap.size := by have := hbut.size; have := HZ3.out; omega
    have hX := (hbut.block w.heap.size (by have := HZ3.out; omega) (by omega)).trans HX3.out
    have x0 : wc.cell? ⟨w.heap.size, 0, none⟩ = some (.slice A1 n1 c1) := block_cell hX 0
    have x1 : wc.cell? ⟨w.heap.size, 1, none⟩ = some (.slice A2 n2 c2) := block_cell hX 1
    have x2 : wc.cell? ⟨w.heap.size, 2, none⟩ = some (.slice A3 n3 c3) := block_cell hX 2
    have hE := hrd.c2
    have hE1 := hrd.c1
    have hler := hrd.le
    have hnb : nb ≤ body.length := Nat.le_of_eq HLN.out
    have hnb' : body.length ≤ nb := Nat.le_of_eq HLN.out.symm
    have HSL := Lib.hid hslf
    clear hown hrd hbut hslf hX
    rcases Bool.eq_false_or_eq_true b with hbb | hbb
    · subst hbb
      have HR : Hid (decCrewR t bs = ([], 2)) := by show _ = _; rw [HT.out, if_pos (by unfold doneB; rfl)]
      have hE2 : wc.cell? ⟨g, 2, none⟩ = some (.int .i64 2) := hE
      clear HT hE hE1
      go_wp2_with fail
      go_ret2
      rw [HR.out]
      exact HBAD.out _ _ hbel
    subst hbb
    have hE2 : wc.cell? ⟨g, 2, none⟩ = some (.int .i64 0) := hE
    clear hE
    by_cases hr0 : r = []
    case neg =>
      have hlr : 0 < r.length := List.length_pos_iff.2 hr0
      have HR : Hid (decCrewR t bs = ([], 2)) := by
        show _ = _
        rw [HT.out, if_pos]
        unfold doneB
        cases r with
        | nil => exact absurd rfl hr0
        | cons a l => rfl
      have hne : (((body.length - r.length : Nat) : Int) != (nb : Int)) = true := by simp; omega
      clear HT hr0
      generalize body.length - r.length = at' at *
      go_wp2_with fail
      go_ret2
      rw [HR.out]
      exact HBAD.out _ _ hbel
    subst hr0
    rw [if_neg (by simp [doneB])] at HT
    have hne : (((body.length - ([] : List Int).length : Nat) : Int) != (nb : Int)) = false := by simp; omega
    have HV := Lib.hid (validateCrewR_any t l A1 A2 A3 Af n1 n2 n3 _ c1 c2 c3 cf wc HTO.out (HOK.out rfl) (HS.out wc hbel).1.1 (HS.out wc hbel).1.2.1 (HS.out wc hbel).1.2.2 (HSL.out.more fun b hb => hb.2))
    generalize body.length - ([] : List Int).length = at' at *
    go_wp2_with fail
    refine HV.out.mono ?_
    rintro e w9 ⟨rfl, hb9⟩
    clear HV
    have hbF : Below w.heap.size w w9 := hbel.trans (hb9.mono hbel.size)
    clear x0 x1 x2
    by_cases hv : crewE t l = 0
    · have HR : Hid (decCrewR t bs = (l, 0)) := by show _ = _; rw [HT.out, if_neg (by simpa using hv)]
      rw [hv]
      clear HT hv
      go_wp2_with fail
      go_ret2
      rw [HR.out]
      refine ⟨Af, _, cf, rfl, (HSL.out.keep fun q hq => hb9.block q hq.2).more fun q hq => ⟨by omega, by have := hb9.size; omega⟩, hbF⟩
    · have hv' : (crewE t l != 0) = true := by simpa using hv
      have HR : Hid (decCrewR t bs = ([], crewE t l)) := by show _ = _; rw [HT.out, if_pos hv]
      clear HT hv
      generalize crewE t l = ev at *
      go_wp2_with fail
      go_ret2
      rw [HR.out]
      exact HBAD.out _ _ hbF
end Go.Proofs.Ytkhedjfdjjeopaa
/-
  Contracts of the reference's EncodeCrew and of pairinglaw10.Same; the walk of pairinglaw10.CrewBytes.
  Condition: the data are well formed; the bytes are bytes.
-/
namespace Go.Proofs.Ytkhedjfdjjeopaa
set_option linter.unusedSimpArgs false
set_option linter.unusedVariables false
open Go.RowKit

set_option maxRecDepth 100000 in
theorem crewEncodeR_bad (t : GTT) (l : List GPerson) (A1 A2 A3 A4 : Option Addr) (n1 n2 n3 n4 c1 c2 c3 c4 : Nat) (w : World) (ht : t.ok) (hl : ∀ p ∈ l, p.ok) (hv : crewE t l ≠ 0) (hs1 : Sl Ty.zone w (all_ w) A1 n1 c1 t.zones) (hs2 : Sl Ty.airport w (all_ w) A2 n2 c2 t.airports) (hs3 : Sl Ty.flight w (all_ w) A3 n3 c3 t.flights) (hs4 : Sl Ty.person w (all_ w) A4 n4 c4 l) :
    Calls Try.prog 15 #[.agg #[.slice A1 n1 c1, .slice A2 n2 c2, .slice A3 n3 c3], .slice A4 n4 c4] w (CEncBad (crewE t l) w) := by
  have ha : ∀ o, Below w.heap.size w (w.alloc o) := fun o => (Below.refl _ _).alloc (Nat.le_refl _) _
  have HV : Hid (∀ o, Calls Try.prog 11 #[.agg #[.slice A1 n1 c1, .slice A2 n2 c2, .slice A3 n3 c3], .slice A4 n4 c4] (w.alloc o) (ErrPost (crewE t l) (w.alloc o))) := fun o => validateCrewR_any t l A1 A2 A3 A4 n1 n2 n3 n4 c1 c2 c3 c4 (w.alloc o) ht hl (hs1.next (ha o)) (hs2.next (ha o)) (hs3.next (ha o)) (hs4.next (ha o))
  have HA := Lib.hid ha
  generalize crewE t l = x at *
  have hne : (x != 0) = true := by simpa using hv
  clear hs1 hs2 hs3 hs4 hv ht ha hl
  go_enter Try.func15, Try.ntmps15
  go_wp2_with fail
  refine (HV.out _).mono ?_
  clear HV
  have hb0 := HA.out (.cells #[.slice A1 n1 c1, .slice A2 n2 c2, .slice A3 n3 c3] 26)
  generalize w.alloc (.cells #[.slice A1 n1 c1, .slice A2 n2 c2, .slice A3 n3 c3] 26) = W at *
  rintro e w1 ⟨rfl, hb1⟩
  go_wp2_with fail
  go_ret2
  exact ⟨rfl, hb0.trans (hb1.mono hb0.size)⟩
set_option maxRecDepth 100000 in
theorem crewEncodeR_ok (t : GTT) (l : List GPerson) (A1 A2 A3 A4 : Option Addr) (n1 n2 n3 n4 c1 c2 c3 c4 : Nat) (w : World) (ht : t.ok) (hl : ∀ p ∈ l, p.ok) (hv : crewE t l = 0) (hs1 : Sl Ty.zone w (all_ w) A1 n1 c1 t.zones) (hs2 : Sl Ty.airport w (all_ w) A2 n2 c2 t.airports) (hs3 : Sl Ty.flight w (all_ w) A3 n3 c3 t.flights) (hs4 : Sl Ty.person w (all_ w) A4 n4 c4 l) :
    Calls Try.prog 15 #[.agg #[.slice A1 n1 c1, .slice A2 n2 c2, .slice A3 n3 c3], .slice A4 n4 c4] w (EncPost (frameB 2 (crewB l)) w) := by
  have hok := crewE_zero.1 hv
  have ha := (Below.refl w.heap.size w).alloc (Nat.le_refl _) (.cells #[.slice A1 n1 c1, .slice A2 n2 c2, .slice A3 n3 c3] 26)
  have HV : Hid (Calls Try.prog 11 #[.agg #[.slice A1 n1 c1, .slice A2 n2 c2, .slice A3 n3 c3], .slice A4 n4 c4] (w.alloc (.cells #[.slice A1 n1 c1, .slice A2 n2 c2, .slice A3 n3 c3] 26)) (ErrPost 0 (w.alloc (.cells #[.slice A1 n1 c1, .slice A2 n2 c2, .slice A3 n3 c3] 26)))) := hv ▸ validateCrewR_any t l A1 A2 A3 A4 n1 n2 n3 n4 c1 c2 c3 c4 _ ht hl (hs1.next ha) (hs2.next ha) (hs3.next ha) (hs4.next ha)
  have HS : Hid (∀ V, Below w.heap.size w V → Sl Ty.person V (all_ V) A4 n4 c4 l) := fun V hV => hs4.next hV
  have HF := Lib.hid hok.fine; have HLN := Lib.hid hok.len
  have hbl := crewB_len hok.len hok.fine
  have HBP := Lib.hid (crewB_pos l)
  have HBY := Lib.hid (crewB_bytes hok.fine)
  have HA := Lib.hid ha
  clear hs1 hs2 hs3 hs4 ha ht hv hok hl
  go_enter Try.func15, Try.ntmps15
  go_wp2_with fail
  generalize w.alloc (.cells #[.slice A1 n1 c1, .slice A2 n2 c2, .slice A3 n3 c3] 26) = W at *
  refine HV.out.mono ?_
  rintro e w1 ⟨rfl, hb1⟩
  have hbw : Below w.heap.size w w1 := HA.out.trans (hb1.mono HA.out.size)
  clear HV hb1 HA
  go_wp2_with fail
  refine (refBodyCrew_any l A4 n4 c4 w1 HLN.out HF.out (HS.out w1 hbw)).mono ?_
  rintro e w2 ⟨v2, rfl, hown2, hb2⟩
  obtain ⟨Ab, cb, rfl, hslb⟩ := hown2.sl
  have hbw2 : Below w.heap.size w w2 := hbw.trans (hb2.mono hbw.size)
  have HC := Lib.hid (frameR_any 2 (crewB l) Ab _ cb w2 (hslb.more fun b hb => hb.2) HBP.out (by omega) ⟨by decide, by decide⟩ HBY.out)
  clear hown2 hslb hb2
  generalize crewB l = body at *
  go_wp2_with fail
  refine HC.out.mono ?_
  rintro e w3 ⟨v3, rfl, hown3, hb3⟩
  have hfin : Below w.heap.size w w3 := hbw2.trans (hb3.mono hbw2.size)
  have HO := Lib.hid (hown3.lower hbw2.size)
  clear HC hown3 hb3
  go_wp2_with fail
  go_ret2
  exact ⟨v3, rfl, HO.out, hfin⟩
theorem row_stringc {w V : World} {base : Nat} {v : Value} {bs : List Int} (h : Own (Ty.int .u8) 5 w base v bs) (hne : bs ≠ []) (hb : Below w.heap.size w V) : (convert 45 9 v).run Try.prog V = .ok (.string (strOf bs)) V := by
  obtain ⟨g, cq, rfl, _⟩ := h.int_sl hne
  obtain ⟨A', c', e, hs⟩ := h.sl
  simp only [Value.slice.injEq] at e
  obtain ⟨rfl, -, rfl⟩ := e
  exact run_string_of (P := Try.prog) (src := 45) (dst := 9) Try.underlying45 Try.underlying5 Try.underlying9 ((hs.more fun b hb => hb.2).keep (w' := V) fun b hb' => hb.block b hb') (by simp)
set_option maxRecDepth 100000 in
set_option maxHeartbeats 800000 in
theorem crewSame_any (l : List GPerson) (A B : Option Addr) (n c m d : Nat) (w : World) (hll : l.length ≤ 64) (hf : ∀ p ∈ l, p.fine) (hs : Sl Ty.person w (all_ w) A n c l) (ks : Sl Ty.person w (all_ w) B m d l) :
    Calls Try.prog 18 #[.slice A n c, .slice B m d] w (CAwPost w) := by
  have HS : Hid (∀ V, Below w.heap.size w V → Sl Ty.person V (all_ V) A n c l ∧ Sl Ty.person V (all_ V) B m d l) := fun V hV => ⟨hs.next hV, ks.next hV⟩
  have HF := Lib.hid hf; have HL := Lib.hid hll
  have HBP := Lib.hid (crewB_pos l)
  have HB := Lib.hid (below_drewN (Below.refl w.heap.size w) 1)
  have heq : ((strOf (crewB l)).toList == (strOf (crewB l)).toList) = true := by simp
  clear hs ks hf hll
  go_enter Try.func18, Try.ntmps18
  go_wp2_with fail
  have tok1 : True := trivial
  go_region_law (first
    | (go_simp; go_at_call 34; have _t1 := tok1; refine (refBodyCrew_any l A n c _ HL.out HF.out (HS.out _ HB.out).1).mono ?_; rintro e wa ⟨va, rfl, hoa, hba⟩; have hwa : Below w.heap.size w wa := HB.out.trans (hba.mono HB.out.size); have hca := row_stringc hoa HBP.out (Below.refl _ _); clear tok1)
    | (go_simp; go_at_call 34; refine (refBodyCrew_any l B m d _ HL.out HF.out (HS.out _ hwa).2).mono ?_; rintro e wb ⟨vb, rfl, hob, hbb⟩; have hwb : Below w.heap.size w wb := hwa.trans (hbb.mono hwa.size); have hcb := row_stringc hoa HBP.out hbb; have hcc := row_stringc hob HBP.out (Below.refl _ _))
    | fail)
  all_goals
    go_wp2_with fail
    go_ret
    exact ⟨rfl, hwb⟩
def cEncS (t : GTT) (l : List GPerson) : ByteArray := if crewE t l = 0 then strOf (frameB 2 (crewB l)) else ⟨#[]⟩
def CEncAny (t : GTT) (l : List GPerson) (w : World) (e : Ending) (w' : World) : Prop :=
  ∃ A n c, e = .returned (.tuple #[.slice A n c, .int .i64 (crewE t l)]) ∧ Below w.heap.size w w' ∧ (∀ V, Below w'.heap.size w' V → (convert 45 9 (.slice A n c)).run Try.prog V = .ok (.string (cEncS t l)) V) ∧
    (crewE t l = 0 → Sl (Ty.int .u8) w' (all_ w') A n c (frameB 2 (crewB l)))
theorem nil_stringc (w : World) : (convert 45 9 (.slice none 0 0)).run Try.prog w = .ok (.string ⟨#[]⟩) w := by
  rw [run_convert_bytes_string w 45 9 5 none 0 0 Try.underlying45 Try.underlying5 Try.underlying9]
  rfl
theorem cEncAny_of {t : GTT} {l : List GPerson} {f : FuncId} {args : Array Value} {w : World} (hbad : crewE t l ≠ 0 → Calls Try.prog f args w (CEncBad (crewE t l) w)) (hok : crewE t l = 0 → Calls Try.prog f args w (EncPost (frameB 2 (crewB l)) w)) : Calls Try.prog f args w (CEncAny t l w) := by
  by_cases h : crewE t l = 0
  · refine (hok h).mono ?_
    rintro e w' ⟨v, rfl, hown, hb⟩
    have hne : frameB 2 (crewB l) ≠ [] := fun e => by unfold frameB headB at e; simp at e
    obtain ⟨g, cq, rfl, _⟩ := hown.int_sl hne
    obtain ⟨A', c', e1, hs⟩ := hown.sl
    refine ⟨_, _, _, by rw [h], hb, fun V hV => ?_, fun _ => ?_⟩
    · rw [row_stringc hown hne hV]
      unfold cEncS
      rw [if_pos h]
    · simp only [Value.slice.injEq] at e1
      obtain ⟨rfl, -, rfl⟩ := e1
      exact hs.more fun b hb => hb.2
  · refine (hbad h).mono ?_
    rintro e w' ⟨rfl, hb⟩
    refine ⟨none, 0, 0, rfl, hb, fun V hV => ?_, fun h0 => absurd h0 h⟩
    rw [nil_stringc]
    unfold cEncS
    rw [if_neg h]
theorem bytes_of_ok {l : List Int} (h : ∀ x ∈ l, (Ty.int .u8).ok x) : bytesL l := fun x hx => by
  have h' : IntKind.u8.min ≤ x ∧ x ≤ IntKind.u8.max := h x hx
  have e1 : IntKind.u8.min = 0 := by decide
  have e2 : IntKind.u8.max = 255 := by decide
  exact ⟨by omega, by omega⟩
theorem decCrew_fine (t : GTT) (bs : List Int) : (decCrew t bs).1.length ≤ 64 ∧ ∀ p ∈ (decCrew t bs).1, p.fine := by
  have h0 : ([] : List GPerson).length ≤ 64 ∧ ∀ p ∈ ([] : List GPerson), p.fine := ⟨Nat.zero_le _, fun _ h => (by cases h)⟩
  unfold decCrew
  split
  · exact h0
  split
  · exact h0
  split
  · exact h0
  split
  · exact h0
  split
  · exact h0
  · rename_i h
    have hk := crewE_zero.1 (Classical.not_not.1 h)
    exact ⟨hk.len, hk.fine⟩

set_option maxRecDepth 100000 in
set_option maxHeartbeats 3200000 in
theorem lawCrewBytes_any (t : GTT) (l : List GPerson) (A1 A2 A3 A4 : Option Addr) (n1 n2 n3 n4 c1 c2 c3 c4 : Nat) (bs : List Int) (Ab : Option Addr) (nb cb : Nat) (w : World) (ht : t.ok) (hl : ∀ p ∈ l, p.ok) (hs1 : Sl Ty.zone w (all_ w) A1 n1 c1 t.zones) (hs2 : Sl Ty.airport w (all_ w) A2 n2 c2 t.airports) (hs3 : Sl Ty.flight w (all_ w) A3 n3 c3 t.flights) (hs4 : Sl Ty.person w (all_ w) A4 n4 c4 l)
    (hsb : Sl (Ty.int .u8) w (all_ w) Ab nb cb bs) (hby : bytesL bs) :
    Calls Try.prog 5 #[.agg #[.slice A1 n1 c1, .slice A2 n2 c2, .slice A3 n3 c3], .slice A4 n4 c4, .slice Ab nb cb] w (CAwPost w) := by
  have hb0 := (Below.refl w.heap.size w).alloc (Nat.le_refl _) (.cells #[.slice A1 n1 c1, .slice A2 n2 c2, .slice A3 n3 c3] 26)
  have hx0 := heap_alloc_new w (.cells #[.slice A1 n1 c1, .slice A2 n2 c2, .slice A3 n3 c3] 26)
  have hz0 : (w.alloc (.cells #[.slice A1 n1 c1, .slice A2 n2 c2, .slice A3 n3 c3] 26)).heap.size = w.heap.size + 1 := by simp
  have HS : Hid (∀ V, Below w.heap.size w V → (Sl Ty.zone V (all_ V) A1 n1 c1 t.zones ∧ Sl Ty.airport V (all_ V) A2 n2 c2 t.airports ∧ Sl Ty.flight V (all_ V) A3 n3 c3 t.flights) ∧ Sl Ty.person V (all_ V) A4 n4 c4 l ∧ Sl (Ty.int .u8) V (all_ V) Ab nb cb bs) := fun V hV => ⟨⟨hs1.next hV, hs2.next hV, hs3.next hV⟩, hs4.next hV, hsb.next hV⟩
  have HT := Lib.hid ht; have HL := Lib.hid hl
  have HBY := Lib.hid hby
  have HX : Hid (∀ V, Below (w.heap.size + 1) (w.alloc (.cells #[.slice A1 n1 c1, .slice A2 n2 c2, .slice A3 n3 c3] 26)) V → V.heap[w.heap.size]? = some (.cells #[.slice A1 n1 c1, .slice A2 n2 c2, .slice A3 n3 c3] 26 (0, 0)) ∧ Below w.heap.size w V ∧ w.heap.size + 1 ≤ V.heap.size) := fun V hV => ⟨(hV.block _ (by omega)).trans hx0, hb0.trans (hV.mono (by omega)), by have := hV.size; omega⟩
  have hBW := Below.refl (w.heap.size + 1) (w.alloc (.cells #[.slice A1 n1 c1, .slice A2 n2 c2, .slice A3 n3 c3] 26))
  clear hs1 hs2 hs3 hs4 hsb hb0 hx0 hz0 ht hby hl
  go_enter Try.func5, Try.ntmps5
  go_wp2_with fail
  generalize w.alloc (.cells #[.slice A1 n1 c1, .slice A2 n2 c2, .slice A3 n3 c3] 26) = W at *
  refine (light_any t A1 A2 A3 n1 n2 n3 c1 c2 c3 W (HS.out W (HX.out W hBW).2.1).1.1).mono ?_
  rintro e w0 ⟨bl, rfl, hb1⟩
  have hk0 : Below (w.heap.size + 1) W w0 := hb1.mono (HX.out W hBW).2.2
  clear hb1
  cases bl with
  | false =>
    go_wp2_with fail
    refine (crewAwake_any w0).mono ?_
    rintro e w2 ⟨rfl, hb2⟩
    go_wp2_with fail
    go_ret
    exact ⟨rfl, (HX.out w0 hk0).2.1.trans (hb2.mono (HX.out w0 hk0).2.1.size)⟩
  | true =>
  go_wp2_with fail
  refine (crewLight_any l A4 n4 c4 w0 (HS.out w0 (HX.out w0 hk0).2.1).2.1).mono ?_
  rintro e w1 ⟨bl, rfl, hb1⟩
  have hk1 : Below (w.heap.size + 1) W w1 := hk0.trans (hb1.mono (HX.out w0 hk0).2.2)
  clear hb1
  have hnot : bl = false ∨ (bl = true ∧ 3000 < nb) ∨ (bl = true ∧ ¬ 3000 < nb) := by
    cases bl with
    | false => exact .inl rfl
    | true =>
      by_cases h : 3000 < nb
      · exact .inr (.inl ⟨rfl, h⟩)
      · exact .inr (.inr ⟨rfl, h⟩)
  rcases hnot with rfl | ⟨rfl, hbig⟩ | ⟨rfl, hbig⟩
  · go_wp2_with fail
    refine (crewAwake_any w1).mono ?_
    rintro e w2 ⟨rfl, hb2⟩
    go_wp2_with fail
    go_ret
    exact ⟨rfl, (HX.out w1 hk1).2.1.trans (hb2.mono (HX.out w1 hk1).2.1.size)⟩
  · go_wp2_with fail
    refine (crewAwake_any w1).mono ?_
    rintro e w2 ⟨rfl, hb2⟩
    go_wp2_with fail
    go_ret
    exact ⟨rfl, (HX.out w1 hk1).2.1.trans (hb2.mono (HX.out w1 hk1).2.1.size)⟩
  · have x0 : w1.cell? ⟨w.heap.size, 0, none⟩ = some (.slice A1 n1 c1) := block_cell (HX.out w1 hk1).1 0
    have x1 : w1.cell? ⟨w.heap.size, 1, none⟩ = some (.slice A2 n2 c2) := block_cell (HX.out w1 hk1).1 1
    have x2 : w1.cell? ⟨w.heap.size, 2, none⟩ = some (.slice A3 n3 c3) := block_cell (HX.out w1 hk1).1 2
    go_wp2_with fail
    have hs := HS.out w1 (HX.out w1 hk1).2.1
    refine (cEncAny_of (fun h => crewEncode_bad t l A1 A2 A3 A4 n1 n2 n3 n4 c1 c2 c3 c4 w1 HT.out HL.out h hs.1.1 hs.1.2.1 hs.1.2.2 hs.2.1) (fun h => crewEncode_ok t l A1 A2 A3 A4 n1 n2 n3 n4 c1 c2 c3 c4 w1 HT.out HL.out h hs.1.1 hs.1.2.1 hs.1.2.2 hs.2.1)).mono ?_
    clear x0 x1 x2 hs
    rintro e w2 ⟨Xa, nx, cx, rfl, hb2, hcx, hslx⟩
    have hk2 : Below (w.heap.size + 1) W w2 := hk1.trans (hb2.mono (HX.out w1 hk1).2.2)
    have HCX := Lib.hid hcx; have HSX := Lib.hid hslx
    clear hb2 hcx hslx
    have x0 : w2.cell? ⟨w.heap.size, 0, none⟩ = some (.slice A1 n1 c1) := block_cell (HX.out w2 hk2).1 0
    have x1 : w2.cell? ⟨w.heap.size, 1, none⟩ = some (.slice A2 n2 c2) := block_cell (HX.out w2 hk2).1 1
    have x2 : w2.cell? ⟨w.heap.size, 2, none⟩ = some (.slice A3 n3 c3) := block_cell (HX.out w2 hk2).1 2
    go_wp2_with fail
    have hs := HS.out w2 (HX.out w2 hk2).2.1
    refine (cEncAny_of (fun h => crewEncodeR_bad t l A1 A2 A3 A4 n1 n2 n3 n4 c1 c2 c3 c4 w2 HT.out HL.out h hs.1.1 hs.1.2.1 hs.1.2.2 hs.2.1) (fun h => crewEncodeR_ok t l A1 A2 A3 A4 n1 n2 n3 n4 c1 c2 c3 c4 w2 HT.out HL.out h hs.1.1 hs.1.2.1 hs.1.2.2 hs.2.1)).mono ?_
    clear x0 x1 x2 hs
    rintro e w3 ⟨Ya, ny, cy, rfl, hb3, hcy, -⟩
    have hk3 : Below (w.heap.size + 1) W w3 := hk2.trans (hb3.mono (HX.out w2 hk2).2.2)
    have HCY := Lib.hid hcy
    have HB3 := Lib.hid hb3
    clear hcy hb3
    have x0 : w3.cell? ⟨w.heap.size, 0, none⟩ = some (.slice A1 n1 c1) := block_cell (HX.out w3 hk3).1 0
    have x1 : w3.cell? ⟨w.heap.size, 1, none⟩ = some (.slice A2 n2 c2) := block_cell (HX.out w3 hk3).1 1
    have x2 : w3.cell? ⟨w.heap.size, 2, none⟩ = some (.slice A3 n3 c3) := block_cell (HX.out w3 hk3).1 2
    go_wp2_with fail
    have hs := HS.out w3 (HX.out w3 hk3).2.1
    have HD := Lib.hid (crewDecode_any t bs Ab A1 A2 A3 nb cb n1 n2 n3 c1 c2 c3 w3 HT.out hs.1.1 hs.1.2.1 hs.1.2.2 hs.2.2 HBY.out)
    have HFN := Lib.hid (decCrew_fine t bs)
    have HDR : Hid (decCrewR t bs = decCrew t bs) := decCrewR_eq HBY.out
    clear hs x0 x1 x2
    generalize decCrew t bs = dt at *
    refine HD.out.mono ?_
    clear HD
    rintro e w4 ⟨U, iu, ju, rfl, us, hb4⟩
    have hk4 : Below (w.heap.size + 1) W w4 := hk3.trans (hb4.mono (HX.out w3 hk3).2.2)
    have HB4 := Lib.hid hb4
    have HUS := Lib.hid (us.more (S' := all_ w4) fun b hb => hb.2)
    have x0 : w4.cell? ⟨w.heap.size, 0, none⟩ = some (.slice A1 n1 c1) := block_cell (HX.out w4 hk4).1 0
    have x1 : w4.cell? ⟨w.heap.size, 1, none⟩ = some (.slice A2 n2 c2) := block_cell (HX.out w4 hk4).1 1
    have x2 : w4.cell? ⟨w.heap.size, 2, none⟩ = some (.slice A3 n3 c3) := block_cell (HX.out w4 hk4).1 2
    clear us hb4
    go_wp2_with fail
    have hs := HS.out w4 (HX.out w4 hk4).2.1
    have HD := Lib.hid (crewDecodeR_any t bs Ab A1 A2 A3 nb cb n1 n2 n3 c1 c2 c3 w4 HT.out hs.1.1 hs.1.2.1 hs.1.2.2 hs.2.2 HBY.out)
    rw [HDR.out] at HD
    clear hs HDR x0 x1 x2
    refine HD.out.mono ?_
    clear HD
    rintro e w6 ⟨V, ov, pv, rfl, vs, hb6⟩
    have hk6 : Below (w.heap.size + 1) W w6 := hk4.trans (hb6.mono (HX.out w4 hk4).2.2)
    have hb36 : Below w3.heap.size w3 w6 := HB4.out.trans (hb6.mono HB4.out.size)
    have hb26 : Below w2.heap.size w2 w6 := HB3.out.trans (hb36.mono HB3.out.size)
    have hcx := HCX.out _ hb26
    have hcy := HCY.out _ hb36
    have e1 : (crewE t l != crewE t l) = false := by simp
    have e2 : ((cEncS t l).toList == (cEncS t l).toList) = true := by simp
    have e3 : (dt.2 != dt.2) = false := by simp
    have HSM := Lib.hid (crewSame_any dt.1 U V iu ju ov pv w6 HFN.out.1 HFN.out.2 (HUS.out.next hb6) (vs.more fun b hb => hb.2))
    have HB26 := Lib.hid hb26
    clear vs hb6 hb36 hb26 HUS
    go_wp2_with fail
    refine HSM.out.mono ?_
    clear HSM hcx hcy e1 e2 e3
    rintro e w8 ⟨rfl, hb8⟩
    have hk8 : Below (w.heap.size + 1) W w8 := hk6.trans (hb8.mono (HX.out _ hk6).2.2)
    have hb28 : Below w2.heap.size w2 w8 := HB26.out.trans (hb8.mono HB26.out.size)
    clear hb8 HB26
    by_cases hv : crewE t l = 0
    case neg =>
      have hv' : (crewE t l == 0) = false := by simpa using hv
      clear hv HSX
      go_wp2_with fail
      refine (crewAwake_any w8).mono ?_
      rintro e w9 ⟨rfl, hb9⟩
      go_wp2_with fail
      go_ret
      exact ⟨rfl, (HX.out w8 hk8).2.1.trans (hb9.mono (HX.out w8 hk8).2.1.size)⟩
    have hv' : (crewE t l == 0) = true := by simpa using hv
    have hval := crewE_zero.1 hv
    have HX8 := Lib.hid ((HSX.out hv).next hb28)
    have HFI := Lib.hid (And.intro hval.len hval.fine)
    have hs := HS.out w8 (HX.out w8 hk8).2.1
    have HD := Lib.hid (crewDecode_any t (frameB 2 (crewB l)) Xa A1 A2 A3 nx cx n1 n2 n3 c1 c2 c3 w8 HT.out hs.1.1 hs.1.2.1 hs.1.2.2 HX8.out (frameB_bytes ⟨by decide, by decide⟩ (crewB_bytes hval.fine)))
    rw [decCrew_back t l hval] at HD
    have x0 : w8.cell? ⟨w.heap.size, 0, none⟩ = some (.slice A1 n1 c1) := block_cell (HX.out w8 hk8).1 0
    have x1 : w8.cell? ⟨w.heap.size, 1, none⟩ = some (.slice A2 n2 c2) := block_cell (HX.out w8 hk8).1 1
    have x2 : w8.cell? ⟨w.heap.size, 2, none⟩ = some (.slice A3 n3 c3) := block_cell (HX.out w8 hk8).1 2
    clear hval HX8 HSX hb28 hv hs
    go_wp2_with fail
    refine HD.out.mono ?_
    clear HD x0 x1 x2
    rintro e w9 ⟨Q, rq, sq, rfl, qs, hb9⟩
    have hk9 : Below (w.heap.size + 1) W w9 := hk8.trans (hb9.mono (HX.out w8 hk8).2.2)
    have HSM := Lib.hid (crewSame_any l Q A4 rq sq n4 c4 w9 HFI.out.1 HFI.out.2 (qs.more fun b hb => hb.2) (HS.out _ (HX.out w9 hk9).2.1).2.1)
    clear qs hb9
    go_wp2_with fail
    refine HSM.out.mono ?_
    clear HSM
    rintro e w11 ⟨rfl, hb11⟩
    have hk11 : Below (w.heap.size + 1) W w11 := hk9.trans (hb11.mono (HX.out _ hk9).2.2)
    clear hb11
    go_wp2_with fail
    refine (crewAwake_any w11).mono ?_
    rintro e w12 ⟨rfl, hb12⟩
    go_wp2_with fail
    go_ret
    exact ⟨rfl, (HX.out w11 hk11).2.1.trans (hb12.mono (HX.out w11 hk11).2.1.size)⟩
end Go.Proofs.Ytkhedjfdjjeopaa
/-
  The row of CrewBytes: for every input the law returns true, and the arguments read as before. No condition.
-/
namespace Go.Proofs.Ytkhedjfdjjeopaa.crewBytes
set_option linter.unusedSimpArgs false
set_option linter.unusedVariables false
open Go.ChangeShapes Go.WideShapes Go.ChangeAt Go.RowKit
open Go.ChangeMaps (open_string shut_string)
theorem reads_all : (Try.f5.params.toList.all fun t => Try.prog.readableRec t && decide (t < Try.prog.types.size)) = true := by kernel_rfl
theorem reads_ok : ∀ t ∈ Try.f5.params.toList, Try.prog.readableRec t = true ∧ t < Try.prog.types.size := fun t ht => by
  have h := List.all_eq_true.1 reads_all t ht
  rw [Bool.and_eq_true] at h
  exact ⟨h.1, of_decide_eq_true h.2⟩
set_option maxRecDepth 100000 in
theorem contract (H : Type) (enc : TypeId × Value → H) (W : World) (base : Nat) (args : Array Value) (ds gs : List (DataW H)) (before : List MemPlace)
    (hval : ∀ (j : Nat) t v, Try.f5.params[j]? = some t → args[j]? = some v → Value.okWide Try.prog W .any base t v)
    (hW : DataW.Whole enc Try.prog Try.f5.params.toList Rows.crewBytesSpec.vars false W args.toList ds gs before) :
    Calls Try.prog 5 args W fun e W' => ∃ v, e = .returned v ∧ Rows.crewBytesSpec.post enc Try.prog Try.f5 false true false false W args v W' := by
  have hW' := hW
  have hlt := hW.lt
  obtain ⟨p, q, hA0, hV, rfl, hfz, hnd⟩ := hW
  have hA : DataW.TrodAll enc Try.prog W 0 (fun _ => true) true Try.f5.params.toList args.toList ds p := hA0
  rw [Try.params5] at hA hval
  obtain ⟨v0, vs0, d0, ds0, p0, q0, hargs0, rfl, rfl, h0, r0⟩ := trodAll_cons hA
  obtain ⟨v1, vs1, d1, ds1, p1, q1, hargs1, rfl, rfl, h1, r1⟩ := trodAll_cons r0
  obtain ⟨v2, vs2, d2, ds2, p2, q2, hargs2, rfl, rfl, h2, r2⟩ := trodAll_cons r1
  obtain ⟨rfl, rfl, rfl⟩ := trodAll_nil r2
  obtain rfl : args = #[v0, v1, v2] := by cases args; simp_all
  obtain ⟨rfl, rfl⟩ := trodVars_none hV
  obtain ⟨A1, n1, c1, A2, n2, c2, A3, n3, c3, t, rfl, s1, s2, s3, hok⟩ := open_tt (hval 0 26 v0 rfl rfl) h0 (fun x hx => hlt x (by simp [hx]))
  obtain ⟨A1p, n1p, c1p, l1, rfl, s1p, o1⟩ := open_crew (hval 1 27 v1 rfl rfl) h1 (fun x hx => hlt x (by simp [hx]))
  obtain ⟨A2b, n2b, c2b, l2, rfl, s2b, o2⟩ := open_fits_slice Try.underlying45 (by kernel_rfl) (fits_int Try.underlying5 (by kernel_rfl)) (hval 2 45 v2 rfl rfl) h2 (fun x hx => hlt x (by simp [hx]))
  refine (lawCrewBytes_any t l1 A1 A2 A3 A1p n1 n2 n3 n1p c1 c2 c3 c1p l2 A2b n2b c2b W hok o1 s1 s2 s3 s1p s2b (bytes_of_ok o2)).mono fun e W' ⟨he, hb⟩ => ?_
  subst he
  exact ⟨_, rfl, law_post laidOut_true Try.underlying4 rfl rfl (fun t ht => by revert t; exact reads_ok) ⟨rfl, rfl, rfl⟩ hW' hb⟩
set_option maxRecDepth 100000 in
theorem lifted (os : Os) (started : os.Started) (H : Type) (enc : TypeId × Value → H) :
    ReturnsInHanded {} Try.checked os 5 .any (Rows.crewBytesSpec.pre6 enc Try.prog Try.f5 Rows.crewBytesRow.domain false) (Rows.crewBytesSpec.post enc Try.prog Try.f5 false true false false) := by
  refine returnsInHanded_of_change (C := Try.checked) ownKnob_none started (by kernel_rfl) Try.func5
    (ChangeSpec.witness6 (enc := enc) (C := Try.checked) false ⟨#[], #[.agg #[.slice none 0 0, .slice none 0 0, .slice none 0 0], .slice none 0 0, .slice none 0 0], []⟩ 8 (by kernel_rfl) (by kernel_rfl) (by kernel_rfl) (by kernel_rfl)) ?_
  intro W base args ds gs before hval hW _ _
  exact contract H enc W base args ds gs before hval hW
theorem said : Rows.CrewBytesSaid :=
  OpenClaim.holds_of_wide 5 Try.f5 rfl rfl rfl rfl rfl rfl rfl ⟨rfl, rfl, rfl, rfl, rfl⟩ rfl rfl rfl rfl rfl (by kernel_rfl) Try.func5 (by kernel_rfl)
    (of_decide_eq_true (by kernel_rfl)) (by unfold Func.isWrapper; first | (rw [if_pos (by decide +kernel)]; kernel_rfl) | (rw [if_neg (by decide +kernel)]; exact ⟨rfl, rfl⟩))
    (fun os started H enc _ => lifted os started H enc)
end Go.Proofs.Ytkhedjfdjjeopaa.crewBytes
