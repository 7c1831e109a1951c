/-
  Contracts of text.Lines and of the reference's Lines: both return the specified lines or the error's number, in new memory, and change nothing that was there.
  Condition: the string's length fits an int; the library's variable MaxLen holds an int.
-/
import Derived.Test.YtpgenhknndpcfaaDoorFields
import Derived.Test.YtpgenhknndpcfaaDoorRefFields
namespace Go.Proofs.YtpgenhknndpcfaaDoor
set_option linter.unusedSimpArgs false
set_option linter.unusedVariables false
open Go.RowKit

def trimB (s : ByteArray) : ByteArray := bs (Lib.trimSuffix s.data.toList [10])
theorem trimB_size (s : ByteArray) : (trimB s).size ≤ s.size := by
  unfold trimB Lib.trimSuffix
  rw [bs_size, Lib.size_eq]
  split
  · rw [List.length_take]; omega
  · exact Nat.le_refl _
theorem trim_any (s : ByteArray) (w : World) (hs : s.size ≤ 9223372036854775807) :
    Calls Tryd.prog 28 #[.string s, .string ⟨#[10]⟩] w fun e w' => e = .returned (.string (trimB s)) ∧ w = w' := by
  refine (Tryd.strings_TrimSuffix s ⟨#[10]⟩ w hs).mono ?_
  rintro e w' ⟨rfl, rfl⟩
  exact ⟨rfl, rfl⟩
theorem pieces_trim (s : ByteArray) (hne : s.size ≠ 0) : piecesB 10 (trimB s) = (linesL s.data.toList).map bs := by
  unfold piecesB trimB
  rw [bs_data, linesL_trim]
  intro e
  have := Lib.size_eq s
  rw [e] at this
  exact hne this
theorem lines_empty (s : ByteArray) (h : s.size = 0) : linesL s.data.toList = [] := by
  have h2 := Lib.size_eq s
  rw [List.eq_nil_of_length_eq_zero (l := s.data.toList) (by omega)]
  rfl

/-- What Lines hands back: the lines in memory and the error's number. -/
def LinesPost (s : ByteArray) (w : World) (e : Ending) (w' : World) : Prop :=
  ∃ A n c, e = .returned (.tuple #[.slice A n c, .int .i64 (linesB s).2]) ∧ Sl Ty.str w' (all_ w') A n c (linesB s).1 ∧ Below w.heap.size w w'

set_option maxHeartbeats 800000 in
theorem lines_any (s : ByteArray) (w : World) (hs : s.size ≤ maxLen) (hg : Glo w) :
    Calls Tryd.prog 14 #[.string s] w (LinesPost s w) := by
  unfold maxLen at hs
  by_cases hbig : 20000 < s.size
  · have HL : Hid (linesB s = ([], 10)) := by show linesB s = _; unfold linesB; rw [if_pos hbig]
    go_enter Tryd.func14, Tryd.ntmps14
    go_wp2_with fail
    go_ret2
    refine ⟨none, 0, 0, ?_, ?_, Below.refl _ _⟩
    · rw [HL.out]; rfl
    · rw [HL.out]; exact Sl.nil0
  · go_enter Tryd.func14, Tryd.ntmps14
    go_wp2_with fail
    go_loop [11] (fun i => ∃ k : Nat, k ≤ s.size ∧ i = .int .i64 k ∧ Hid (allTo (okByte s) k = true)) (fun i => s.size - (intOf i).toNat)
    case atStart => exact ⟨0, Nat.zero_le _, rfl, rfl⟩
    case round =>
      obtain ⟨k, hk, rfl, HA⟩ := hrel
      by_cases hlt : k < s.size
      · have HB := Lib.hid (byteAt_eq s k hlt)
        go_wp2_with fail
        all_goals
          have HB' := HB.out
          first
          | (have hv : okByte s k = true := by unfold okByte; grind
             go_round
             case rel => exact ⟨k + 1, by omega, by go_num, by show allTo _ _ = true; rw [allTo_succ, HA.out, hv]; rfl⟩
             case measure => simp [intOf]; omega)
          | (have hv : okByte s k = false := by unfold okByte; grind
             have HL : Hid (linesB s = ([], 1)) := by show linesB s = _; unfold linesB; rw [if_neg hbig, if_pos (allTo_false hlt hv)]
             go_ret2
             refine ⟨none, 0, 0, ?_, ?_, Below.refl _ _⟩
             · rw [HL.out]; rfl
             · rw [HL.out]; exact Sl.nil0)
      · have hkk : k = s.size := by omega
        have hall : allTo (okByte s) s.size = true := by rw [← hkk]; exact HA.out
        by_cases h0 : s.size = 0
        · have hemp : s.toList.isEmpty = true := by
            rw [ByteArray.toList_eq, List.isEmpty_iff]
            exact List.eq_nil_of_length_eq_zero (by rw [← Lib.size_eq]; exact h0)
          have HL : Hid (linesB s = ([], 0)) := by
            show linesB s = _
            unfold linesB
            rw [if_neg hbig, if_neg (by rw [hall]; decide), lines_empty s h0, if_neg (by decide)]
            rfl
          clear HA hall h0 hkk
          go_wp2_with fail
          go_ret2
          refine ⟨none, 0, 0, ?_, ?_, Below.refl _ _⟩
          · rw [HL.out]; rfl
          · rw [HL.out]; exact Sl.nil0
        · have hemp : s.toList.isEmpty = false := by
            rw [ByteArray.toList_eq, Bool.eq_false_iff]
            intro h
            rw [List.isEmpty_iff] at h
            have := Lib.size_eq s
            rw [h] at this
            exact h0 this
          have HP := Lib.hid (pieces_trim s h0)
          have hpl := piecesB_le 10 (trimB s)
          have htb := trimB_size s
          have HL : Hid (linesB s = if 1000 < (piecesB 10 (trimB s)).length then ([], 10) else (piecesB 10 (trimB s), 0)) := by
            show linesB s = _
            unfold linesB
            rw [if_neg hbig, if_neg (by rw [hall]; decide), HP.out, List.length_map]
          clear HA hall h0 hkk HP
          go_wp2_with fail
          refine (trim_any s _ (by omega)).mono ?_
          rintro e w' ⟨rfl, rfl⟩
          go_wp2_with fail
          refine (split_any _ _ _ (by omega) hg).mono ?_
          rintro e w' ⟨rfl, rfl⟩
          generalize hps : piecesB 10 (trimB s) = ps at *
          clear hps
          have hbl : Below w.heap.size w (w.alloc (.cells (ps.map Value.string).toArray 9)) := (Below.refl _ _).alloc (Nat.le_refl _) _
          have HS : Hid (Sl Ty.str (w.alloc (.cells (ps.map Value.string).toArray 9)) (all_ (w.alloc (.cells (ps.map Value.string).toArray 9))) (some ⟨w.heap.size, 0, none⟩) ps.length ps.length ps) := by
            refine ⟨rfl, Nat.le_refl _, by unfold maxLen; omega, fun _ => ⟨_, _, rfl, by unfold all_; simp, fun i x hi => ⟨[.string x], rfl, fun j u hu => ?_⟩⟩⟩
            rcases j with _ | j
            · simp at hu
              subst hu
              simp only [Ty.str, Nat.zero_add, Nat.mul_one, Nat.add_zero]
              rw [World.cell?_alloc_at _ _ _ _ rfl]
              simp [hi]
            · simp at hu
          by_cases h1000 : 1000 < ps.length
          · go_wp2_with fail
            go_ret2
            refine ⟨none, 0, 0, ?_, ?_, hbl⟩
            · rw [HL.out, if_pos h1000]; rfl
            · rw [HL.out, if_pos h1000]; exact Sl.nil0
          · go_wp2_with fail
            go_ret2
            refine ⟨some ⟨w.heap.size, 0, none⟩, ps.length, ps.length, ?_, ?_, hbl⟩
            · rw [HL.out, if_neg h1000]; rfl
            · rw [HL.out, if_neg h1000]; exact HS.out
end Go.Proofs.YtpgenhknndpcfaaDoor
