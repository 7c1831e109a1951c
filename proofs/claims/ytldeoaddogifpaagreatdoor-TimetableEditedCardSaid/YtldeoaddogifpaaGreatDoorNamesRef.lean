/-
  Contracts of the references' IsName, IsCode, IsAirport (package pairingref5), and that they answer as the program's do.
  Condition: the string's length fits an int.
-/
import Derived.Test.YtldeoaddogifpaaGreatDoorNames
namespace Go.Proofs.YtldeoaddogifpaaGreatDoor
set_option linter.unusedSimpArgs false
set_option linter.unusedVariables false
open Go.RowKit

theorem lower_any (c : Int) (w : World) :
    Calls Tryz.prog 142 #[.int .u8 c] w fun e w' => e = .returned (.bool (lowerI c)) ∧ w = w' := by
  go_enter Tryz.func142, Tryz.ntmps142
  go_wp2
  all_goals go_ret
  all_goals exact ⟨ret_bool (by unfold lowerI; grind), rfl⟩
theorem upper_any (c : Int) (w : World) :
    Calls Tryz.prog 107 #[.int .u8 c] w fun e w' => e = .returned (.bool (upperI c)) ∧ w = w' := by
  go_enter Tryz.func107, Tryz.ntmps107
  go_wp2
  all_goals go_ret
  all_goals exact ⟨ret_bool (by unfold upperI; grind), rfl⟩
theorem number_any (c : Int) (w : World) :
    Calls Tryz.prog 138 #[.int .u8 c] w fun e w' => e = .returned (.bool (numberI c)) ∧ w = w' := by
  go_enter Tryz.func138, Tryz.ntmps138
  go_wp2
  all_goals go_ret
  all_goals exact ⟨ret_bool (by unfold numberI; grind), rfl⟩

theorem isNameR_any (s : ByteArray) (w : World) (hs : s.size ≤ maxLen) :
    Calls Tryz.prog 104 #[.string s] w fun e w' => e = .returned (.bool (isNameB s)) ∧ w = w' := by
  unfold maxLen at hs
  by_cases h1 : s.size < 1
  · have hf : isNameB s = false := by simp [isNameB]; omega
    have HF := Lib.hid hf; clear hf
    go_enter Tryz.func104, Tryz.ntmps104
    go_wp2_with fail
    go_ret
    exact ⟨by rw [HF.out]; rfl, rfl⟩
  · by_cases h2 : 16 < s.size
    · have hf : isNameB s = false := by simp [isNameB]; omega
      have HF := Lib.hid hf; clear hf
      go_enter Tryz.func104, Tryz.ntmps104
      go_wp2_with fail
      go_ret
      exact ⟨by rw [HF.out]; rfl, rfl⟩
    · have hf : isNameB s = allTo (nmAt s) s.size := by simp [isNameB]; omega
      have HB0 := Lib.hid (byteAt_eq s 0 (by omega))
      have HF := Lib.hid hf; clear hf
      by_cases h0 : lowerI (byteAt s 0) = true
      · have hl : lowerI (s[0].toNat : Int) = true := by rw [HB0.out]; exact h0
        have H0 := Lib.hid h0; clear h0
        go_enter Tryz.func104, Tryz.ntmps104
        go_wp2_with (go_at_call 142; refine (lower_any _ _).mono ?_; rintro e w' ⟨rfl, rfl⟩)
        go_loop [3] (fun i => ∃ k : Nat, k ≤ s.size ∧ i = .int .i64 k ∧ Hid (allTo (nmAt s) k = true)) (fun i => s.size - (intOf i).toNat)
        case atStart => exact ⟨0, Nat.zero_le _, rfl, rfl⟩
        case round =>
          obtain ⟨k, hk, rfl, HA⟩ := hrel
          clear hl
          by_cases hlt : k < s.size
          · have HB := Lib.hid (byteAt_eq s k hlt)
            go_wp2_with (first
              | (go_at_call 142; refine (lower_any _ _).mono ?_; rintro e w' ⟨rfl, rfl⟩)
              | (go_at_call 138; refine (number_any _ _).mono ?_; rintro e w' ⟨rfl, rfl⟩))
            all_goals
              have HB' := HB.out
              have H0' := H0.out
              first
              | (have hv : nmAt s k = true := by
                   unfold nmAt
                   rcases Nat.eq_zero_or_pos k with h00 | h00
                   · subst h00; simp [H0']
                   · grind
                 go_round
                 case rel => exact ⟨k + 1, by omega, by go_num, by show allTo _ _ = true; rw [allTo_succ, HA.out, hv]; rfl⟩
                 case measure => simp [intOf]; omega)
              | (have hv : nmAt s k = false := by unfold nmAt; grind
                 go_ret
                 exact ⟨by rw [HF.out, allTo_false hlt hv]; rfl, rfl⟩)
          · go_wp2_with fail
            go_ret
            exact ⟨ret_bool (by rw [HF.out, show s.size = k by omega, HA.out]), rfl⟩
      · have hl : lowerI (s[0].toNat : Int) = false := by rw [HB0.out]; simpa using h0
        have hv : Hid (nmAt s 0 = false) := by show nmAt s 0 = false; unfold nmAt; simp; simpa using h0
        clear h0
        go_enter Tryz.func104, Tryz.ntmps104
        go_wp2_with (go_at_call 142; refine (lower_any _ _).mono ?_; rintro e w' ⟨rfl, rfl⟩)
        go_ret
        exact ⟨by rw [HF.out, allTo_false (by omega) hv.out]; rfl, rfl⟩

theorem isCodeR_any (s : ByteArray) (w : World) (hs : s.size ≤ maxLen) :
    Calls Tryz.prog 108 #[.string s] w fun e w' => e = .returned (.bool (isCodeB s)) ∧ w = w' := by
  unfold maxLen at hs
  go_enter Tryz.func108, Tryz.ntmps108
  go_wp2_with fail
  go_loop [3] (fun i => ∃ k : Nat, k ≤ s.size ∧ i = .int .i64 k ∧ Hid (allTo (cdAt s) k = true)) (fun i => s.size - (intOf i).toNat)
  case atStart => exact ⟨0, Nat.zero_le _, rfl, rfl⟩
  case round =>
    obtain ⟨k, hk, rfl, HA⟩ := hrel
    by_cases hlt : k < s.size
    · have HB := Lib.hid (byteAt_eq s k hlt)
      go_wp2_with (first
        | (go_at_call 107; refine (upper_any _ _).mono ?_; rintro e w' ⟨rfl, rfl⟩)
        | (go_at_call 138; refine (number_any _ _).mono ?_; rintro e w' ⟨rfl, rfl⟩))
      all_goals
        have HB' := HB.out
        first
        | (have hv : cdAt s k = true := by unfold cdAt; grind
           go_round
           case rel => exact ⟨k + 1, by omega, by go_num, by show allTo _ _ = true; rw [allTo_succ, HA.out, hv]; rfl⟩
           case measure => simp [intOf]; omega)
        | (have hv : cdAt s k = false := by unfold cdAt; grind
           go_ret
           exact ⟨ret_bool (by unfold isCodeB; rw [allTo_false hlt hv]; simp), rfl⟩)
    · go_wp2_with fail
      all_goals go_ret
      all_goals exact ⟨ret_bool (by unfold isCodeB; rw [show s.size = k by omega, HA.out]; grind), rfl⟩

theorem isAirportR_any (s : ByteArray) (w : World) (hs : s.size ≤ maxLen) :
    Calls Tryz.prog 65 #[.string s] w fun e w' => e = .returned (.bool (isAirportB s)) ∧ w = w' := by
  unfold maxLen at hs
  by_cases h1 : s.size = 3
  · have hf : isAirportB s = allTo (upAt s) 3 := by simp [isAirportB, h1]
    have HF := Lib.hid hf; clear hf
    have hb : ((s.size : Int) == 3) = true := by simp; omega
    have hs3 : s.size ≤ 3 := by omega
    have hs3' : 3 ≤ s.size := by omega
    clear h1
    have HB0 := Lib.hid (byteAt_eq s 0 (by omega))
    have HB1 := Lib.hid (byteAt_eq s 1 (by omega))
    have HB2 := Lib.hid (byteAt_eq s 2 (by omega))
    go_enter Tryz.func65, Tryz.ntmps65
    go_wp2_with (go_at_call 107; refine (upper_any _ _).mono ?_; rintro e w' ⟨rfl, rfl⟩)
    all_goals go_ret
    all_goals
      have HB0' := HB0.out
      have HB1' := HB1.out
      have HB2' := HB2.out
      exact ⟨ret_bool (by rw [HF.out]; simp only [allTo, List.range, List.range.loop, List.all_cons, List.all_nil, upAt]; grind), rfl⟩
  · have hf : isAirportB s = false := by simp [isAirportB, h1]
    have HF := Lib.hid hf; clear hf
    have hb : ((s.size : Int) == 3) = false := by simp; omega
    clear h1
    go_enter Tryz.func65, Tryz.ntmps65
    go_wp2_with fail
    go_ret
    exact ⟨by rw [HF.out]; rfl, rfl⟩
end Go.Proofs.YtldeoaddogifpaaGreatDoor
