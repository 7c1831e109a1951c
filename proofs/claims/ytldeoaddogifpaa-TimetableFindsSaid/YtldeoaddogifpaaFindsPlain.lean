/-
  In the built timetable every flight is found, and is among the departures of its airport.
  No condition.
-/
import Derived.Test.YtldeoaddogifpaaDepart
import Derived.Test.YtldeoaddogifpaaBaseValid
namespace Go.Proofs.Ytldeoaddogifpaa
set_option linter.unusedSimpArgs false
set_option linter.unusedVariables false
open Go

theorem base_dep_lt (l : List Int) : ∀ (j i : Nat), j < i → i < (baseTT l).flights.length → ((baseTT l).flights.getD j noFlight).dep < ((baseTT l).flights.getD i noFlight).dep
  | j, 0, h, _ => absurd h (by omega)
  | j, i + 1, h, hi => by
    have hlen : (baseTT l).flights.length = bCount l := (bSt_range l (bCount l)).2.2.2
    have g1 : (baseTT l).flights.getD (i + 1) noFlight = _ := bSt_get l (bCount l) (i + 1) (by omega)
    have g2 : (baseTT l).flights.getD i noFlight = _ := bSt_get l (bCount l) i (by omega)
    have ho := base_order l i
    rw [← g1, ← g2] at ho
    rcases Nat.lt_or_eq_of_le (Nat.le_of_lt_succ h) with h1 | rfl
    · have := base_dep_lt l j i h1 (by omega)
      omega
    · exact ho
theorem find_base (l : List Int) {i : Nat} (hi : i < (baseTT l).flights.length) : findR (baseTT l) ((baseTT l).flights.getD i noFlight).number ((baseTT l).flights.getD i noFlight).dep = ((i : Int), 0) := by
  unfold findR
  have h1 : ∀ j, j < i → fMatch ((baseTT l).flights.getD i noFlight).number ((baseTT l).flights.getD i noFlight).dep ((baseTT l).flights.getD j noFlight) = false := fun j hj => by
    have := base_dep_lt l j i hj hi
    unfold fMatch
    rw [Bool.and_eq_false_iff]
    right
    rw [decide_eq_false_iff_not]
    omega
  have h2 : fMatch ((baseTT l).flights.getD i noFlight).number ((baseTT l).flights.getD i noFlight).dep ((baseTT l).flights.getD i noFlight) = true := by
    unfold fMatch
    simp
  rw [if_neg (by simp [ttE_zero.2 (base_valid l)]), firstHit_some hi h1 h2]
theorem mem_hits {p : Nat → Bool} {n i : Nat} (hi : i < n) (hp : p i = true) : (i : Int) ∈ hits p n := by
  unfold hits
  rw [List.mem_map]
  exact ⟨i, List.mem_filter.2 ⟨List.mem_range.2 hi, hp⟩, rfl⟩
theorem dep_base (l : List Int) {i : Nat} (hi : i < (baseTT l).flights.length) : ∃ d, depR (baseTT l) ((baseTT l).flights.getD i noFlight).src ((baseTT l).flights.getD i noFlight).dep (((baseTT l).flights.getD i noFlight).dep + 1) = (d, 0) ∧ (i : Int) ∈ d := by
  have hv := base_valid l
  have hok := (fErr_zero (hv.f i hi)).1
  have hsome : (firstHit (aHit (baseTT l).airports ((baseTT l).flights.getD i noFlight).src) (baseTT l).airports.length).isSome = true := by
    have h := hok.src
    rw [hasB_iff, aCodes, List.mem_map] at h
    obtain ⟨a, ha, e⟩ := h
    obtain ⟨k, hk, hka⟩ := mem_getD ha noAirport
    unfold firstHit
    rw [List.find?_isSome]
    exact ⟨k, List.mem_range.2 hk, by unfold aHit; rw [hka, e]; simp⟩
  unfold depR
  rw [if_neg (by simp [ttE_zero.2 hv]), if_neg (by rw [hsome]; simp)]
  refine ⟨_, rfl, mem_hits hi ?_⟩
  unfold dMatch
  simp
  omega
end Go.Proofs.Ytldeoaddogifpaa
