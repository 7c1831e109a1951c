/-
  Contracts of the reference's ZoneIndex and AirportIndex (package pairingref9): the first place of a name, -1 if there is none.
  Condition: the slices read as lists.
-/
import Derived.Test.YtldeoaddogifpaaGreatDoorZoneRef
namespace Go.Proofs.YtldeoaddogifpaaGreatDoor
set_option linter.unusedSimpArgs false
set_option linter.unusedVariables false
open Go.RowKit

/-- The first place of a string in a list, -1 if there is none. -/
def idxOf (l : List ByteArray) (a : ByteArray) : Int := if hasB l a = true then ((l.findIdx fun b => decide (a = b) : Nat) : Int) else -1
theorem idxOf_none {l : List ByteArray} {a : ByteArray} (h : hasB l a = false) : idxOf l a = -1 := by unfold idxOf; rw [if_neg (by rw [h]; decide)]
theorem idxOf_hit {l : List ByteArray} {a : ByteArray} {k : Nat} (hk : k < l.length) (h0 : hasB (l.take k) a = false) (h1 : l[k] = a) : idxOf l a = k := by
  have hm : hasB l a = true := (hasB_iff l a).2 (h1 ▸ List.getElem_mem hk)
  unfold idxOf
  rw [if_pos hm]
  congr 1
  rw [List.findIdx_eq hk]
  refine ⟨by rw [h1]; simp, fun j hj => ?_⟩
  rw [decide_eq_false_iff_not]
  intro e
  have : hasB (l.take k) a = true := (hasB_iff _ a).2 (by rw [e]; exact List.mem_take_iff_getElem.2 ⟨j, by omega, rfl⟩)
  rw [h0] at this
  cases this
theorem idxOf_hit' {l : List ByteArray} {a : ByteArray} {k : Nat} (h0 : hasB (l.take k) a = false) (h1 : l[k]? = some a) : idxOf l a = k := by
  obtain ⟨hk, h2⟩ := List.getElem?_eq_some_iff.1 h1
  exact idxOf_hit hk h0 h2
theorem hasB_next {l : List ByteArray} {a x : ByteArray} {k : Nat} (h0 : hasB (l.take k) a = false) (h1 : l[k]? = some x) (hne : ¬ x = a) : hasB (l.take (k + 1)) a = false := by
  obtain ⟨hk, h2⟩ := List.getElem?_eq_some_iff.1 h1
  rw [List.take_succ_eq_append_getElem hk, hasB_snoc, h0, h2, decide_eq_false (fun e => hne e.symm)]
  rfl
theorem idxOf_neg (l : List ByteArray) (a : ByteArray) : decide (idxOf l a < 0) = !hasB l a := by
  unfold idxOf
  cases h : hasB l a
  · rfl
  · simp
theorem idxOf_lt (l : List ByteArray) (a : ByteArray) : -1 ≤ idxOf l a ∧ idxOf l a < l.length ∨ l = [] ∧ idxOf l a = -1 := by
  cases h : hasB l a
  · by_cases hl : l = []
    · right; exact ⟨hl, idxOf_none h⟩
    · left; rw [idxOf_none h]; have := List.length_pos_iff.2 hl; omega
  · left
    unfold idxOf
    rw [if_pos h]
    have : l.findIdx (fun b => decide (a = b)) < l.length := List.findIdx_lt_length_of_exists (by
      obtain ⟨x, hx, hd⟩ := List.any_eq_true.1 h
      exact ⟨x, hx, hd⟩)
    omega
theorem Sl.take {α : Type} {t : Ty α} {w : World} {S : Nat → Prop} {A : Option Addr} {n c : Nat} {xs : List α} (h : Sl t w S A n c xs) {k : Nat} (hk : k ≤ n) : Sl t w S A k c (xs.take k) := by
  obtain ⟨h1, h2, h3, h4⟩ := h
  refine ⟨by rw [List.length_take]; omega, by omega, h3, fun h0 => ?_⟩
  obtain ⟨b, o, e, hs, hx⟩ := h4 (by omega)
  refine ⟨b, o, e, hs, fun i x hi => hx i x ?_⟩
  rw [List.getElem?_take] at hi
  split at hi
  · exact hi
  · cases hi

theorem zoneIndex_any (zs : List GZone) (a : ByteArray) (A : Option Addr) (n c : Nat) (S : Nat → Prop) (w : World) (hsl : Sl Ty.zone w S A n c zs) :
    Calls Tryz.prog 64 #[.slice A n c, .string a] w fun e w' => e = .returned (.int .i64 (idxOf (zNames zs) a)) ∧ w = w' := by
  have hn := hsl.len
  have hnl := hsl.le
  unfold maxLen at hnl
  subst hn
  have HSL := Lib.hid hsl; clear hsl
  go_enter Tryz.func64, Tryz.ntmps64
  go_wp2_with fail
  go_loop [4, 5] (fun _ i => ∃ k : Nat, k ≤ zs.length ∧ i = .int .i64 k ∧ Hid (hasB ((zNames zs).take k) a = false)) (fun _ i => zs.length - (intOf i).toNat)
  case atStart => exact ⟨0, Nat.zero_le _, rfl, rfl⟩
  case round =>
    obtain ⟨k, hk, rfl, HK⟩ := hrel
    have hzl : (zNames zs).length = zs.length := by unfold zNames; rw [List.length_map]
    by_cases hlt : k < zs.length
    · obtain ⟨b, o, A', n', c', rfl, hbS, hc0, _, _, _⟩ := HSL.out.zone_at hlt
      have he : (zNames zs)[k]? = some (zs.getD k noZone).name := by
        unfold zNames
        rw [List.getElem?_map, List.getD_eq_getElem?_getD, List.getElem?_eq_getElem hlt]
        rfl
      generalize hz : (zs.getD k noZone).name = nm at *
      have HE := Lib.hid he
      clear hz hzl he
      by_cases hq : nm = a
      · have hb : (nm.toList == a.toList) = true := by rw [str_beq, decide_eq_true hq]
        have HR : Hid (idxOf (zNames zs) a = k) := idxOf_hit' HK.out (by rw [HE.out, hq])
        clear hq
        go_wp2_with fail
        go_ret
        exact ⟨ret_int HR.out.symm, rfl⟩
      · have hb : (nm.toList == a.toList) = false := by rw [str_beq, decide_eq_false hq]
        have HN : Hid (hasB ((zNames zs).take (k + 1)) a = false) := hasB_next HK.out HE.out hq
        clear hq
        go_wp2_with fail
        go_round
        case rel => exact ⟨k + 1, by omega, by go_num, HN⟩
        case measure => simp [intOf]; omega
    · have HR : Hid (idxOf (zNames zs) a = -1) := idxOf_none (by
        have := HK.out
        rwa [List.take_of_length_le (by omega)] at this)
      clear hzl
      go_wp2_with fail
      go_ret
      exact ⟨ret_int HR.out.symm, rfl⟩
theorem airportIndex_any (l : List GAirport) (a : ByteArray) (A : Option Addr) (n c : Nat) (S : Nat → Prop) (w : World) (hsl : Sl Ty.airport w S A n c l) :
    Calls Tryz.prog 66 #[.slice A n c, .string a] w fun e w' => e = .returned (.int .i64 (idxOf (aCodes l) a)) ∧ w = w' := by
  have hn := hsl.len
  have hnl := hsl.le
  unfold maxLen at hnl
  subst hn
  have HSL := Lib.hid hsl; clear hsl
  go_enter Tryz.func66, Tryz.ntmps66
  go_wp2_with fail
  go_loop [4, 5] (fun _ i => ∃ k : Nat, k ≤ l.length ∧ i = .int .i64 k ∧ Hid (hasB ((aCodes l).take k) a = false)) (fun _ i => l.length - (intOf i).toNat)
  case atStart => exact ⟨0, Nat.zero_le _, rfl, rfl⟩
  case round =>
    obtain ⟨k, hk, rfl, HK⟩ := hrel
    have hzl : (aCodes l).length = l.length := by unfold aCodes; rw [List.length_map]
    by_cases hlt : k < l.length
    · obtain ⟨b, o, rfl, hbS, hc0, _⟩ := HSL.out.airport_at hlt
      have he : (aCodes l)[k]? = some (l.getD k noAirport).code := by
        unfold aCodes
        rw [List.getElem?_map, List.getD_eq_getElem?_getD, List.getElem?_eq_getElem hlt]
        rfl
      generalize hz : (l.getD k noAirport).code = nm at *
      have HE := Lib.hid he
      clear hz hzl he
      by_cases hq : nm = a
      · have hb : (nm.toList == a.toList) = true := by rw [str_beq, decide_eq_true hq]
        have HR : Hid (idxOf (aCodes l) a = k) := idxOf_hit' HK.out (by rw [HE.out, hq])
        clear hq
        go_wp2_with fail
        go_ret
        exact ⟨ret_int HR.out.symm, rfl⟩
      · have hb : (nm.toList == a.toList) = false := by rw [str_beq, decide_eq_false hq]
        have HN : Hid (hasB ((aCodes l).take (k + 1)) a = false) := hasB_next HK.out HE.out hq
        clear hq
        go_wp2_with fail
        go_round
        case rel => exact ⟨k + 1, by omega, by go_num, HN⟩
        case measure => simp [intOf]; omega
    · have HR : Hid (idxOf (aCodes l) a = -1) := idxOf_none (by
        have := HK.out
        rwa [List.take_of_length_le (by omega)] at this)
      clear hzl
      go_wp2_with fail
      go_ret
      exact ⟨ret_int HR.out.symm, rfl⟩
end Go.Proofs.YtldeoaddogifpaaGreatDoor
