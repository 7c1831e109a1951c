/-
  Contract of the reference's ValidateZone (package pairingref5): it returns what zone.Validate returns.
  Condition: the zone's data are well formed.
-/
import Derived.Test.YtldeoaddogifpaaGreatDoorZone
namespace Go.Proofs.YtldeoaddogifpaaGreatDoor
set_option linter.unusedSimpArgs false
set_option linter.unusedVariables false
open Go.RowKit

theorem offsetR_any (n : Int) (w : World) : Calls Tryz.prog 105 #[.int .i64 n] w fun e w' => e = .returned (.bool (offOk n)) ∧ w = w' := by
  go_enter Tryz.func105, Tryz.ntmps105
  go_wp2
  all_goals go_ret
  all_goals exact ⟨ret_bool (by unfold offOk; grind), rfl⟩
theorem instantR_any (n : Int) (w : World) : Calls Tryz.prog 106 #[.int .i64 n] w fun e w' => e = .returned (.bool (insOk n)) ∧ w = w' := by
  go_enter Tryz.func106, Tryz.ntmps106
  go_wp2
  all_goals go_ret
  all_goals exact ⟨ret_bool (by unfold insOk; grind), rfl⟩

set_option maxHeartbeats 800000 in
theorem zoneValidateR_any (z : GZone) (A : Option Addr) (n c : Nat) (w : World) (hz : z.ok) (hsl : Sl Ty.shift w (all_ w) A n c z.shifts) :
    Calls Tryz.prog 63 #[.agg #[.string z.name, .int .i64 z.off, .slice A n c]] w (ErrPost (zoneE z) w) := by
  obtain ⟨hz1, hz2, hz3⟩ := hz
  have hn := hsl.len
  have hnl := hsl.le
  unfold maxLen at hnl
  subst hn
  have HZ1 := Lib.hid hz1; clear hz1 hz3
  by_cases h1 : isNameB z.name = true
  case neg =>
    have h1' : isNameB z.name = false := by simpa using h1
    have HE : Hid (zoneE z = 1) := by show _ = _; unfold zoneE; rw [if_pos h1']
    go_enter Tryz.func63, Tryz.ntmps63
    go_wp2_with (go_at_call 104; refine (isNameR_any z.name _ HZ1.out).mono ?_; rintro e w' ⟨rfl, rfl⟩; rw [h1'])
    go_ret
    exact ⟨by rw [HE.out]; rfl, (Below.refl _ _).alloc (Nat.le_refl _) _⟩
  by_cases h2 : offOk z.off = true
  case neg =>
    have h2' : offOk z.off = false := by simpa using h2
    have HE : Hid (zoneE z = 5) := by show _ = _; unfold zoneE; rw [if_neg (by rw [h1]; decide), if_pos h2']
    go_enter Tryz.func63, Tryz.ntmps63
    go_wp2_with (first
      | (go_at_call 104; refine (isNameR_any z.name _ HZ1.out).mono ?_; rintro e w' ⟨rfl, rfl⟩; rw [h1])
      | (go_at_call 105; refine (offsetR_any _ _).mono ?_; rintro e w' ⟨rfl, rfl⟩; rw [h2']))
    go_ret
    exact ⟨by rw [HE.out]; rfl, (Below.refl _ _).alloc (Nat.le_refl _) _⟩
  by_cases h3 : 16 < z.shifts.length
  case pos =>
    have HE : Hid (zoneE z = 10) := by show _ = _; unfold zoneE; rw [if_neg (by rw [h1]; decide), if_neg (by rw [h2]; decide), if_pos h3]
    go_enter Tryz.func63, Tryz.ntmps63
    go_wp2_with (first
      | (go_at_call 104; refine (isNameR_any z.name _ HZ1.out).mono ?_; rintro e w' ⟨rfl, rfl⟩; rw [h1])
      | (go_at_call 105; refine (offsetR_any _ _).mono ?_; rintro e w' ⟨rfl, rfl⟩; rw [h2]))
    go_ret
    exact ⟨by rw [HE.out]; rfl, (Below.refl _ _).alloc (Nat.le_refl _) _⟩
  have HE : Hid (zoneE z = firstErr (shiftErr z.shifts) z.shifts.length) := by show _ = _; unfold zoneE; rw [if_neg (by rw [h1]; decide), if_neg (by rw [h2]; decide), if_neg h3]
  have hb0 : Below w.heap.size w (w.alloc (.cells #[.string z.name, .int .i64 z.off, .slice A z.shifts.length c] 51)) := (Below.refl _ _).alloc (Nat.le_refl _) _
  have hbx : (w.alloc (.cells #[.string z.name, .int .i64 z.off, .slice A z.shifts.length c] 51)).cell? ⟨w.heap.size, 2, none⟩ = some (.slice A z.shifts.length c) := by
    rw [World.cell?_alloc_at _ _ _ _ rfl]; rfl
  go_enter Tryz.func63, Tryz.ntmps63
  go_wp2_with (first
    | (go_at_call 104; refine (isNameR_any z.name _ HZ1.out).mono ?_; rintro e w' ⟨rfl, rfl⟩; rw [h1])
    | (go_at_call 105; refine (offsetR_any _ _).mono ?_; rintro e w' ⟨rfl, rfl⟩; rw [h2]))
  generalize hW : w.alloc (.cells #[.string z.name, .int .i64 z.off, .slice A z.shifts.length c] 51) = W at *
  have HSL := Lib.hid (hsl.keep (all_keep hb0)); clear hsl hW
  go_loopw [2, 3] (fun _ i wr => ∃ k m : Nat, k ≤ z.shifts.length ∧ i = .int .i64 k ∧ wr = W.drewN m ∧ Hid (zeroTo (shiftErr z.shifts) k)) (fun _ i _ => z.shifts.length - (intOf i).toNat)
  case atStart => exact ⟨0, 0, Nat.zero_le _, rfl, rfl, zeroTo_zero _⟩
  case round =>
    obtain ⟨k, m, hk, rfl, rfl, HK⟩ := hrel
    by_cases hlt : k < z.shifts.length
    · obtain ⟨b, o, rfl, hbS, hc0, hc1⟩ := HSL.out.shift_at hlt
      have HERR : Hid (shiftErr z.shifts k = if insOk (z.shifts.getD k noShift).at_ = false ∨ offOk (z.shifts.getD k noShift).off = false then 5 else if 0 < k ∧ (z.shifts.getD k noShift).at_ ≤ (z.shifts.getD (k - 1) noShift).at_ then 8 else 0) := rfl
      generalize hs : z.shifts.getD k noShift = s at *
      clear hs
      by_cases hi : insOk s.at_ = true
      case neg =>
        have hi' : insOk s.at_ = false := by simpa using hi
        have HF : Hid (zoneE z = 5) := by
          have h9 : shiftErr z.shifts k = 5 := by rw [HERR.out, if_pos (.inl hi')]
          rw [HE.out, firstErr_hit HK.out (by rw [h9]; decide) hlt, h9]; rfl
        clear hi
        go_wp2_with (go_at_call 106; refine (instantR_any _ _).mono ?_; rintro e w' ⟨rfl, rfl⟩; rw [hi'])
        go_ret
        exact ⟨by rw [HF.out]; rfl, below_drewN hb0 _⟩
      by_cases ho : offOk s.off = true
      case neg =>
        have ho' : offOk s.off = false := by simpa using ho
        have HF : Hid (zoneE z = 5) := by
          have h9 : shiftErr z.shifts k = 5 := by rw [HERR.out, if_pos (.inr ho')]
          rw [HE.out, firstErr_hit HK.out (by rw [h9]; decide) hlt, h9]; rfl
        clear ho
        go_wp2_with (first
          | (go_at_call 106; refine (instantR_any _ _).mono ?_; rintro e w' ⟨rfl, rfl⟩; rw [hi])
          | (go_at_call 105; refine (offsetR_any _ _).mono ?_; rintro e w' ⟨rfl, rfl⟩; rw [ho']))
        go_ret
        exact ⟨by rw [HF.out]; rfl, below_drewN hb0 _⟩
      rcases Nat.eq_zero_or_pos k with rfl | hk0
      · have HZ : Hid (zeroTo (shiftErr z.shifts) (0 + 1)) := zeroTo_succ HK.out (by rw [HERR.out, if_neg (by rw [hi, ho]; simp), if_neg (fun h => absurd h.1 (by omega))])
        simp only [Nat.zero_mul, Nat.add_zero] at hc0 hc1
        go_wp2_with (first
          | (go_at_call 106; refine (instantR_any _ _).mono ?_; rintro e w' ⟨rfl, rfl⟩; rw [hi])
          | (go_at_call 105; refine (offsetR_any _ _).mono ?_; rintro e w' ⟨rfl, rfl⟩; rw [ho]))
        go_quiet (fail)
        go_wp2_with fail
        go_roundw
        case rel => exact ⟨0 + 1, _, by omega, rfl, rfl, HZ⟩
        case measure => simp [intOf]; omega
      · obtain ⟨b', o', e', _, hp0, _⟩ := HSL.out.shift_at (k := k - 1) (by omega)
        simp only [Option.some.injEq, Addr.mk.injEq, and_true] at e'
        obtain ⟨rfl, rfl⟩ := e'
        generalize hp : z.shifts.getD (k - 1) noShift = p at *
        clear hp
        go_wp2_with (first
          | (go_at_call 106; refine (instantR_any _ _).mono ?_; rintro e w' ⟨rfl, rfl⟩; rw [hi])
          | (go_at_call 105; refine (offsetR_any _ _).mono ?_; rintro e w' ⟨rfl, rfl⟩; rw [ho]))
        have wr1 : IntKind.i64.wrap ((k : Int) - 1) = (k : Int) - 1 := IntWalk.i64_in _ (by omega)
        have wr2 : 0 ≤ (k : Int) - 1 := by omega
        have wr3 : (k : Int) - 1 < (z.shifts.length : Int) := by omega
        have wr4 : ((k : Int) - 1).toNat = k - 1 := by omega
        have wr5 : (k : Int) < (z.shifts.length : Int) := by omega
        have wr6 : 0 ≤ (k : Int) := by omega
        go_quiet (fail)
        clear wr1 wr2 wr3 wr4 wr5 wr6
        by_cases hle : s.at_ ≤ p.at_
        · have HF : Hid (zoneE z = 8) := by
            have h9 : shiftErr z.shifts k = 8 := by rw [HERR.out, if_neg (by rw [hi, ho]; simp), if_pos ⟨hk0, hle⟩]
            rw [HE.out, firstErr_hit HK.out (by rw [h9]; decide) hlt, h9]; rfl
          go_wp2_with fail
          go_ret
          exact ⟨by rw [HF.out]; rfl, below_drewN (below_drewN hb0 _) _⟩
        · have HZ : Hid (zeroTo (shiftErr z.shifts) (k + 1)) := zeroTo_succ HK.out (by rw [HERR.out, if_neg (by rw [hi, ho]; simp), if_neg (fun h => hle h.2)])
          go_wp2_with fail
          go_roundw
          case rel => exact ⟨k + 1, _, by omega, by go_num, rfl, HZ⟩
          case measure => simp [intOf]; omega
    · have HF : Hid (zoneE z = 0) := by rw [HE.out]; exact firstErr_none (by rw [show z.shifts.length = k by omega]; exact HK.out)
      go_wp2_with fail
      go_ret
      exact ⟨by rw [HF.out]; rfl, below_drewN hb0 _⟩
end Go.Proofs.YtldeoaddogifpaaGreatDoor
