/-
  Contracts of pairinglaw10.table, pairinglaw10.Light, crew.Qualified (slices.Contains, slices.Index).
  Condition: the slices read as lists.
-/
import Derived.Test.YtkhedjfdjjeopaaBase
import Derived.Test.YtkhedjfdjjeopaaLight
import Derived.Test.YtkhedjfdjjeopaaIndexRef
import Derived.Test.YtkhedjfdjjeopaaCrewPlain
namespace Go.Proofs.Ytkhedjfdjjeopaa
set_option linter.unusedSimpArgs false
set_option linter.unusedVariables false
open Go.RowKit

def baseTbl : GTT := ⟨baseZones, baseAirports, []⟩
/-- The new timetable without flights is handed back. -/
def TblPost (w : World) (e : Ending) (w' : World) : Prop :=
  ∃ A1 n1 c1 A2 n2 c2, e = .returned (.agg #[.slice A1 n1 c1, .slice A2 n2 c2, .slice none 0 0]) ∧
    Sl Ty.zone w' (fun b => w.heap.size ≤ b ∧ b < w'.heap.size) A1 n1 c1 baseTbl.zones ∧ Sl Ty.airport w' (fun b => w.heap.size ≤ b ∧ b < w'.heap.size) A2 n2 c2 baseTbl.airports ∧ Below w.heap.size w w'
set_option maxRecDepth 100000 in
theorem crewTable_any (w : World) : Calls Try.prog 13 #[] w (TblPost w) := by
  have hb0 := (Below.refl w.heap.size w).alloc (Nat.le_refl _) (.cells #[.slice none 0 0, .slice none 0 0, .slice none 0 0] 26)
  have hr0 := heap_alloc_new w (.cells #[.slice none 0 0, .slice none 0 0, .slice none 0 0] 26)
  have hz0 : (w.alloc (.cells #[.slice none 0 0, .slice none 0 0, .slice none 0 0] 26)).heap.size = w.heap.size + 1 := by simp
  have HB0 := Lib.hid hb0; have HR0 := Lib.hid hr0; have HZ0 := Lib.hid hz0
  clear hb0 hr0 hz0
  go_enter Try.func13, Try.ntmps13
  go_wp2_with fail
  generalize w.alloc (.cells #[.slice none 0 0, .slice none 0 0, .slice none 0 0] 26) = W at *
  refine (zones_any W).mono ?_
  rintro e w1 ⟨A1, n1, c1, rfl, hs1, hb1⟩
  go_wp2_with fail
  refine (airports_any w1).mono ?_
  rintro e w2 ⟨A2, n2, c2, rfl, hs2, hb2⟩
  have hbW : Below W.heap.size W w2 := hb1.trans (hb2.mono hb1.size)
  have hbw : Below w.heap.size w w2 := HB0.out.trans (hbW.mono HB0.out.size)
  have hR := (hbW.block _ (by have := HZ0.out; omega)).trans HR0.out
  have z0 : w2.cell? ⟨w.heap.size, 0, none⟩ = some (.slice none 0 0) := block_cell hR 0
  have z1 : w2.cell? ⟨w.heap.size, 1, none⟩ = some (.slice none 0 0) := block_cell hR 1
  have z2 : w2.cell? ⟨w.heap.size, 2, none⟩ = some (.slice none 0 0) := block_cell hR 2
  have f0 : w2.frozen? ⟨w.heap.size, 0, none⟩ = false := block_free hR 0
  have f1 : w2.frozen? ⟨w.heap.size, 1, none⟩ = false := block_free hR 1
  have f2 : w2.frozen? ⟨w.heap.size, 2, none⟩ = false := block_free hR 2
  have HW := HZ0.out
  have hs1' := hb2.size; have hs0' := hb1.size
  have HS1 := Lib.hid hs1; have HS2 := Lib.hid hs2; have HB2 := Lib.hid hb2; have HBW := Lib.hid hbw
  clear hR hs1 hs2 hb1 hb2 hbw hbW
  go_wp2_with fail
  refine bodyPost_ret (v := .agg #[.slice A1 n1 c1, .slice A2 n2 c2, .slice none 0 0]) (by simp [results, Try.results13, go_sem, z0, z1, z2]) rfl ⟨A1, n1, c1, A2, n2, c2, rfl, ?_, ?_, ?_⟩
  · refine (HS1.out.keep fun q hq => ?_).more fun q hq => ⟨by omega, by simp; omega⟩
    repeat rw [heap_setCell_other _ _ _ _ (by simp; omega)]
    exact HB2.out.block q hq.2
  · refine (HS2.out.keep fun q hq => ?_).more fun q hq => ⟨by omega, by simp; omega⟩
    repeat rw [heap_setCell_other _ _ _ _ (by simp; omega)]
  · exact ((HBW.out.setCell (Nat.le_refl _) _).setCell (Nat.le_refl _) _).setCell (Nat.le_refl _) _
set_option maxRecDepth 100000 in
theorem crewLight_any (l : List GPerson) (A : Option Addr) (n c : Nat) (w : World) (hs : Sl Ty.person w (all_ w) A n c l) :
    Calls Try.prog 8 #[.slice A n c] w (SomeBool w) := by
  have hle := hs.le
  unfold maxLen at hle
  have e1 : n ≤ l.length := Nat.le_of_eq hs.len
  have HS := Lib.hid hs
  clear hs
  go_enter Try.func8, Try.ntmps8
  go_wp2_with fail
  go_loopw [3, 4] (fun nv i wr => ∃ (k : Nat) (m : Int), k ≤ n ∧ i = .int .i64 k ∧ nv = .int .i64 m ∧ Below w.heap.size w wr) (fun _ i _ => n - (intOf i).toNat)
  case atStart => exact ⟨0, _, Nat.zero_le _, rfl, rfl, Below.refl _ _⟩
  case round =>
    obtain ⟨k, m, hk, rfl, rfl, hbr⟩ := hrel
    by_cases hlt : k < n
    · obtain ⟨b, o, B1, k1, d1, B2, k2, d2, rfl, hbS, hat, hsT, hsV⟩ := (HS.out.keep (w' := wr) (all_keep hbr)).person_at (k := k) (by omega)
      have y5 := hat 5 _ rfl; have y6 := hat 6 _ rfl
      have HD : Hid (∀ q, Below w.heap.size w (wr.drewN q)) := fun q => below_drewN hbr q
      clear hat hsT hsV
      have t1 : (0 : Int) ≤ (k : Int) := by omega
      have t2 : (k : Int) < (n : Int) := by omega
      by_cases hm : m < 1000
      · go_wp2_with fail
        go_quiet (fail)
        go_wp2_with fail
        go_roundw
        case rel => exact ⟨k + 1, _, by omega, by go_num, rfl, HD.out _⟩
        case measure => simp [intOf]; omega
      · go_wp2_with fail
        go_ret
        exact ⟨_, rfl, hbr⟩
    · go_wp2_with fail
      go_ret
      exact ⟨_, rfl, hbr⟩
set_option maxRecDepth 100000 in
theorem indexStr_any (xs : List ByteArray) (a : ByteArray) (A : Option Addr) (n c : Nat) (S : Nat → Prop) (w : World) (hsl : Sl Ty.str w S A n c xs) :
    Calls Try.prog 68 #[.slice A n c, .string a] w fun e w' => e = .returned (.int .i64 (idxOf xs a)) ∧ w = w' := by
  have hn := hsl.len
  have hnl := hsl.le
  unfold maxLen at hnl
  subst hn
  have HSL := Lib.hid hsl; clear hsl
  go_enter Try.func68, Try.ntmps68
  go_wp2_with fail
  go_loop [4, 5, 8] (fun _ _ i => ∃ k : Nat, k ≤ xs.length ∧ i = .int .i64 k ∧ Hid (hasB (xs.take k) a = false)) (fun _ _ i => xs.length - (intOf i).toNat)
  case atStart => exact ⟨0, Nat.zero_le _, rfl, rfl⟩
  case round =>
    obtain ⟨k, hk, rfl, HK⟩ := hrel
    by_cases hlt : k < xs.length
    · obtain ⟨b, o, rfl, hbS, hc0⟩ := HSL.out.name_at hlt
      have he : xs[k]? = some (xs.getD k noStr) := by
        rw [List.getD_eq_getElem?_getD, List.getElem?_eq_getElem hlt]
        rfl
      generalize hz : xs.getD k noStr = nm at *
      have HE := Lib.hid he
      clear hz he
      by_cases hq : nm = a
      · have hb : (a.toList == nm.toList) = true := by rw [str_beq, decide_eq_true hq.symm]
        have HR : Hid (idxOf xs a = k) := idxOf_hit' HK.out (by rw [HE.out, hq])
        clear hq
        go_wp2_with fail
        go_ret
        exact ⟨ret_int HR.out.symm, rfl⟩
      · have hb : (a.toList == nm.toList) = false := by rw [str_beq, decide_eq_false (fun e => hq e.symm)]
        have HN : Hid (hasB (xs.take (k + 1)) a = false) := hasB_next HK.out HE.out hq
        clear hq
        go_wp2_with fail
        go_round
        case rel => exact ⟨k + 1, by omega, by go_num, HN⟩
        case measure => simp [intOf]; omega
    · have HR : Hid (idxOf xs a = -1) := idxOf_none (by
        have := HK.out
        rwa [List.take_of_length_le (by omega)] at this)
      go_wp2_with fail
      go_ret
      exact ⟨ret_int HR.out.symm, rfl⟩
theorem idxOf_geB (l : List ByteArray) (a : ByteArray) : decide (0 ≤ idxOf l a) = hasB l a := by
  have h := idxOf_neg l a
  cases hb : hasB l a
  · rw [hb] at h
    have : idxOf l a < 0 := by simpa using h
    exact decide_eq_false (by omega)
  · rw [hb] at h
    have : ¬ idxOf l a < 0 := by simpa using h
    exact decide_eq_true (by omega)
theorem containsStr_any (xs : List ByteArray) (a : ByteArray) (A : Option Addr) (n c : Nat) (S : Nat → Prop) (w : World) (hsl : Sl Ty.str w S A n c xs) :
    Calls Try.prog 42 #[.slice A n c, .string a] w fun e w' => e = .returned (.bool (hasB xs a)) ∧ w = w' := by
  have HC := Lib.hid (indexStr_any xs a A n c S w hsl)
  have HG := Lib.hid (idxOf_geB xs a)
  clear hsl
  go_enter Try.func42, Try.ntmps42
  go_wp2_with fail
  refine HC.out.mono ?_
  rintro e w' ⟨rfl, rfl⟩
  generalize idxOf xs a = ix at *
  go_wp2_with fail
  go_ret
  exact ⟨ret_bool HG.out, rfl⟩
def BoolPost (x : Bool) (w : World) (e : Ending) (w' : World) : Prop := e = .returned (.bool x) ∧ Below w.heap.size w w'
theorem qualified_any (p : GPerson) (a : ByteArray) (A1 A2 : Option Addr) (n1 n2 c1 c2 : Nat) (w : World) (hs1 : Sl Ty.str w (all_ w) A1 n1 c1 p.types) :
    Calls Try.prog 20 #[.agg #[.int .i64 p.id, .string p.name, .string p.base, .int .i64 p.rank, .int .i64 p.sen, .slice A1 n1 c1, .slice A2 n2 c2], .string a] w (BoolPost (hasB p.types a) w) := by
  have hb0 := (Below.refl w.heap.size w).alloc (Nat.le_refl _) (.cells #[.int .i64 p.id, .string p.name, .string p.base, .int .i64 p.rank, .int .i64 p.sen, .slice A1 n1 c1, .slice A2 n2 c2] 40)
  have HC := Lib.hid (containsStr_any p.types a A1 n1 c1 _ _ (hs1.next hb0))
  have HB := Lib.hid hb0
  clear hs1 hb0
  go_enter Try.func20, Try.ntmps20
  go_wp2_with fail
  refine HC.out.mono ?_
  rintro e w' ⟨rfl, rfl⟩
  go_wp2_with fail
  go_ret
  exact ⟨rfl, HB.out⟩
end Go.Proofs.Ytkhedjfdjjeopaa
