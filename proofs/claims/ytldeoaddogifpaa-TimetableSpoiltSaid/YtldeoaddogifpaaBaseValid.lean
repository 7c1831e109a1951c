/-
  The built timetable is valid.
  No condition.
-/
import Derived.Test.YtldeoaddogifpaaBasePlain
import Derived.Test.YtldeoaddogifpaaTTBody
namespace Go.Proofs.Ytldeoaddogifpaa
set_option linter.unusedSimpArgs false
set_option linter.unusedVariables false
open Go

theorem bSt_get (l : List Int) : ∀ (n i : Nat), i < n → (bSt l n).2.2.getD i noFlight = bFlight (atL l (2 + i)) (bSt l i).1 (bSt l i).2.1 i
  | 0, i, h => absurd h (by omega)
  | n + 1, i, h => by
    have hlen := (bSt_range l n).2.2.2
    have e : (bSt l (n + 1)).2.2 = (bSt l n).2.2 ++ [bFlight (atL l (2 + n)) (bSt l n).1 (bSt l n).2.1 n] := rfl
    rw [e, List.getD_eq_getElem?_getD]
    rcases Nat.lt_or_eq_of_le (Nat.le_of_lt_succ h) with h1 | rfl
    · rw [List.getElem?_append_left (by omega), ← List.getD_eq_getElem?_getD]
      exact bSt_get l n i h1
    · rw [List.getElem?_append_right (by omega), hlen]
      simp
theorem bTo_ne {n cur : Int} (h : 0 ≤ cur ∧ cur ≤ 2) : bTo n cur ≠ cur := by unfold bTo; split <;> (try split) <;> omega
theorem code_cases {k : Int} (h : 0 ≤ k ∧ k ≤ 2) : k = 0 ∨ k = 1 ∨ k = 2 := by omega
theorem bCode_has {k : Int} (h : 0 ≤ k ∧ k ≤ 2) : hasB (aCodes baseAirports) (bCode k) = true := by
  rcases code_cases h with rfl | rfl | rfl <;> decide +kernel
theorem bCode_ne {j k : Int} (hj : 0 ≤ j ∧ j ≤ 2) (hk : 0 ≤ k ∧ k ≤ 2) (h : j ≠ k) : bCode j ≠ bCode k := by
  rcases code_cases hj with rfl | rfl | rfl <;> rcases code_cases hk with rfl | rfl | rfl <;> first | exact absurd rfl h | decide +kernel
theorem bNum_code : ∀ i : Nat, i < 7 → isCodeB (bNum i) = true := by
  intro i hi
  have : i = 0 ∨ i = 1 ∨ i = 2 ∨ i = 3 ∨ i = 4 ∨ i = 5 ∨ i = 6 := by omega
  rcases this with rfl | rfl | rfl | rfl | rfl | rfl | rfl <;> decide +kernel
theorem bKind_name {n : Int} : isNameB (bKind n) = true := by
  unfold bKind
  have h : (n / 1024 % 3).toNat = 0 ∨ (n / 1024 % 3).toNat = 1 ∨ (n / 1024 % 3).toNat = 2 := by omega
  rcases h with h | h | h <;> rw [h] <;> decide +kernel
theorem base_flight (l : List Int) (i : Nat) (hi : i < 7) : flightE (aCodes baseAirports) (bFlight (atL l (2 + i)) (bSt l i).1 (bSt l i).2.1 i) = 0 := by
  obtain ⟨hc, h1, h2, _⟩ := bSt_range l i
  generalize (bSt l i).1 = cur at *
  generalize (bSt l i).2.1 = clock at *
  generalize atL l (2 + i) = n at *
  have ha := bAt_range (n := n) hc
  have hb := bTo_range (n := n) ha
  have hne := bCode_ne ha hb (fun e => bTo_ne ha e.symm)
  have hd := bDep_range n clock
  have hr := bArr_range n (bDep n clock)
  unfold flightE bFlight
  simp only
  rw [if_neg (by rw [bNum_code i hi, bKind_name]; simp), if_neg (by rw [bCode_has ha, bCode_has hb]; simp), if_neg hne, if_neg (by omega), if_neg (by decide)]
theorem bClock_le (n clock : Int) : bDep n clock + 20 ≤ bClock n clock := by
  have h2 := bArr_range n (bDep n clock)
  unfold bClock
  split <;> omega
theorem base_order (l : List Int) (i : Nat) : (bFlight (atL l (2 + i)) (bSt l i).1 (bSt l i).2.1 i).dep < (bFlight (atL l (2 + (i + 1))) (bSt l (i + 1)).1 (bSt l (i + 1)).2.1 (i + 1)).dep := by
  have e : (bSt l (i + 1)).2.1 = bClock (atL l (2 + i)) (bSt l i).2.1 := rfl
  have h1 := bClock_le (atL l (2 + i)) (bSt l i).2.1
  have h2 := bDep_range (atL l (2 + (i + 1))) (bSt l (i + 1)).2.1
  show bDep _ _ < bDep _ _
  rw [e] at h2 ⊢
  omega
theorem base_valid (l : List Int) : (baseTT l).valid := by
  have hc := bCount_range l
  have hlen := (bSt_range l (bCount l)).2.2.2
  refine ⟨by show baseZones.length ≤ 16; decide, by show baseAirports.length ≤ 64; decide, ?_, ?_, ?_, fun i hi => ?_⟩
  · show (bSt l (bCount l)).2.2.length ≤ 200
    omega
  · have : ∀ j : Nat, j < 3 → zErr baseZones j = 0 := by decide +kernel
    exact this
  · have : ∀ j : Nat, j < 3 → aErr baseZones baseAirports j = 0 := by decide +kernel
    exact this
  · have hi' : i < bCount l := by
      have : i < (bSt l (bCount l)).2.2.length := hi
      omega
    unfold fErr
    have g : (baseTT l).flights.getD i noFlight = _ := bSt_get l (bCount l) i hi'
    rw [g]
    have hz := base_flight l i (by omega)
    have hz' : flightE (aCodes (baseTT l).airports) (bFlight (atL l (2 + i)) (bSt l i).1 (bSt l i).2.1 i) = 0 := hz
    rw [if_neg (by rw [hz']; simp), if_neg ?_]
    rintro ⟨h0, h1⟩
    obtain ⟨j, rfl⟩ : ∃ j, i = j + 1 := ⟨i - 1, by omega⟩
    have g2 : (baseTT l).flights.getD j noFlight = _ := bSt_get l (bCount l) j (by omega)
    rw [Nat.add_sub_cancel, g2] at h1
    have ho := base_order l j
    unfold beforeB at h1
    rw [if_neg (by omega)] at h1
    simp at h1
    omega
theorem base_len (l : List Int) : 2 ≤ (baseTT l).flights.length ∧ (baseTT l).flights.length ≤ 7 := by
  have hc := bCount_range l
  have hlen : (baseTT l).flights.length = bCount l := (bSt_range l (bCount l)).2.2.2
  omega
end Go.Proofs.Ytldeoaddogifpaa
