/-
  Contract of the reference's Lines (package pairingref5).
  Condition: the string's length fits an int.
-/
import Derived.Test.YtpgenhknndpcfaaDoorLines
namespace Go.Proofs.YtpgenhknndpcfaaDoor
set_option linter.unusedSimpArgs false
set_option linter.unusedVariables false
open Go.RowKit

set_option maxHeartbeats 800000 in
theorem refLines_any (s : ByteArray) (w : World) (hs : s.size ≤ maxLen) :
    Calls Tryd.prog 15 #[.string s] w (LinesPost s w) := by
  unfold maxLen at hs
  by_cases hbig : 20000 < s.size
  · have HL : Hid (linesB s = ([], 10)) := by show linesB s = _; unfold linesB; rw [if_pos hbig]
    go_enter Tryd.func15, Tryd.ntmps15
    go_wp2_with fail
    go_ret2
    refine ⟨none, 0, 0, ?_, ?_, Below.refl _ _⟩
    · rw [HL.out]; rfl
    · rw [HL.out]; exact Sl.nil0
  · go_enter Tryd.func15, Tryd.ntmps15
    go_wp2_with fail
    go_loop [4] (fun i => ∃ k : Nat, k ≤ s.size ∧ i = .int .i64 k ∧ Hid (allTo (okByte s) k = true)) (fun i => s.size - (intOf i).toNat)
    case atStart => exact ⟨0, Nat.zero_le _, rfl, rfl⟩
    case round =>
      obtain ⟨k, hk, rfl, HA⟩ := hrel
      by_cases hlt : k < s.size
      · have HB := Lib.hid (byteAt_eq s k hlt)
        go_wp2_with fail
        all_goals
          have HB' := HB.out
          first
          | (have hv : okByte s k = true := by unfold okByte; grind
             go_round
             case rel => exact ⟨k + 1, by omega, by go_num, by show allTo _ _ = true; rw [allTo_succ, HA.out, hv]; rfl⟩
             case measure => simp [intOf]; omega)
          | (have hv : okByte s k = false := by unfold okByte; grind
             have HL : Hid (linesB s = ([], 1)) := by show linesB s = _; unfold linesB; rw [if_neg hbig, if_pos (allTo_false hlt hv)]
             go_ret2
             refine ⟨none, 0, 0, ?_, ?_, Below.refl _ _⟩
             · rw [HL.out]; rfl
             · rw [HL.out]; exact Sl.nil0)
      · have hkk : k = s.size := by omega
        have hall : allTo (okByte s) s.size = true := by rw [← hkk]; exact HA.out
        have HL : Hid (linesB s = if 1000 < (linesL s.data.toList).length then ([], 10) else ((linesL s.data.toList).map bs, 0)) := by
          show linesB s = _
          unfold linesB
          rw [if_neg hbig, if_neg (by rw [hall]; decide)]
        have hmx := linesL_length s.data.toList
        rw [← Lib.size_eq] at hmx
        clear HA hall hkk
        go_wp2_with fail
        go_loopw [5, 6, 7] (fun v f i wr => ∃ (k fr : Nat) (l : List ByteArray), k ≤ s.size ∧ fr ≤ k ∧ i = .int .i64 k ∧ f = .int .i64 fr ∧ Own Ty.str 9 wr w.heap.size v l ∧ Below w.heap.size w wr ∧ Hid (RL s k fr l)) (fun _ _ i _ => s.size - (intOf i).toNat)
        case atStart => exact ⟨0, 0, [], Nat.zero_le _, Nat.le_refl _, rfl, rfl, Own.nil, Below.refl _ _, RL.start s⟩
        case round =>
          obtain ⟨k2, fr, l, hk2, hfr, rfl, rfl, hown, hbr, HR⟩ := hrel
          have hll := HR.out.len
          have hbs := hbr.size
          by_cases hlt2 : k2 < s.size
          · have e1 := byte_is hlt2 10
            simp only [show ((10 : UInt8).toNat : Int) = 10 from rfl] at e1
            by_cases h10 : s[k2] = 10
            · have HR2 := Lib.hid (HR.out.line hlt2 h10)
              rw [decide_eq_true h10] at e1
              clear h10 HR
              go_wp2_with (at_builtin; refine wpList_push_str rfl _ _ rfl strElem rfl (hown.alloc _) wr.heap.size (s.extract fr k2) rfl ?c1 ?c2 ?c3 (Nat.le_refl _) (hbr.alloc hbs _) ?_)
              case c1 => simp
              case c2 => omega
              case c3 => simp; omega
              intro v' w1 hown2 hbr2
              clear hown
              go_wp2_with fail
              go_roundw
              case rel => exact ⟨k2 + 1, k2 + 1, _, by omega, by omega, by go_num, by go_num, hown2, hbr2, HR2⟩
              case measure => simp [intOf]; omega
            · have HR2 := Lib.hid (HR.out.byte hlt2 h10)
              rw [decide_eq_false h10] at e1
              clear h10 HR
              go_wp2_with fail
              go_roundw
              case rel => exact ⟨k2 + 1, fr, _, by omega, by omega, by go_num, rfl, hown, hbr, HR2⟩
              case measure => simp [intOf]; omega
          · obtain rfl : k2 = s.size := by omega
            have hst := HR.out.stop
            have HST := Lib.hid hst; clear hst HR
            by_cases hf : fr < s.size
            · have HS2 : Hid (l ++ [s.extract fr s.size] = (linesL s.data.toList).map bs) := by have := HST.out; rw [if_pos hf] at this; exact this
              go_wp2_with (at_builtin; refine wpList_push_str rfl _ _ rfl strElem rfl (hown.alloc _) wr.heap.size (s.extract fr s.size) rfl ?c1 ?c2 ?c3 (Nat.le_refl _) (hbr.alloc hbs _) ?_)
              case c1 => simp
              case c2 => omega
              case c3 => simp; omega
              intro v' w1 hown2 hbr2
              rw [HS2.out] at hown2
              obtain ⟨A, c, rfl, hsl⟩ := hown2.sl
              rw [List.length_map] at hsl
              have HSL := Lib.hid (hsl.more fun b hb => (hb.2 : all_ w1 b))
              clear hown hown2 hsl
              rw [List.length_map]
              by_cases h1000 : 1000 < (linesL s.data.toList).length
              · go_wp2_with fail
                go_ret2
                refine ⟨none, 0, 0, ?_, ?_, hbr2⟩
                · rw [HL.out, if_pos h1000]; rfl
                · rw [HL.out, if_pos h1000]; exact Sl.nil0
              · go_wp2_with fail
                go_ret2
                refine ⟨A, (linesL s.data.toList).length, c, ?_, ?_, hbr2⟩
                · rw [HL.out, if_neg h1000]; rfl
                · rw [HL.out, if_neg h1000]; exact HSL.out
            · have HS2 : Hid (l = (linesL s.data.toList).map bs) := by have := HST.out; rw [if_neg hf] at this; exact this
              rw [HS2.out] at hown
              obtain ⟨A, c, rfl, hsl⟩ := hown.sl
              rw [List.length_map] at hsl
              have HSL := Lib.hid (hsl.more fun b hb => (hb.2 : all_ wr b))
              clear hown hsl HST HS2
              rw [List.length_map]
              by_cases h1000 : 1000 < (linesL s.data.toList).length
              · go_wp2_with fail
                go_ret2
                refine ⟨none, 0, 0, ?_, ?_, hbr⟩
                · rw [HL.out, if_pos h1000]; rfl
                · rw [HL.out, if_pos h1000]; exact Sl.nil0
              · go_wp2_with fail
                go_ret2
                refine ⟨A, (linesL s.data.toList).length, c, ?_, ?_, hbr⟩
                · rw [HL.out, if_neg h1000]; rfl
                · rw [HL.out, if_neg h1000]; exact HSL.out
end Go.Proofs.YtpgenhknndpcfaaDoor
