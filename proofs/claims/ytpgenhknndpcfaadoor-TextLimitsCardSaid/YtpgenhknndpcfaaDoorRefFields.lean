/-
  Contract of the reference's Fields (package pairingref5): it returns the same fields as text.Fields.
  Condition: the string is shorter than 2^31 bytes.
-/
import Derived.Test.YtpgenhknndpcfaaDoorFields
namespace Go.Proofs.YtpgenhknndpcfaaDoor
set_option linter.unusedSimpArgs false
set_option linter.unusedVariables false
open Go.RowKit

theorem byte_is {s : ByteArray} {k : Nat} (h : k < s.size) (c : UInt8) : ((s[k].toNat : Int) == (c.toNat : Int)) = decide (s[k] = c) := by
  rw [Bool.eq_iff_iff, beq_iff_eq, decide_eq_true_eq]
  refine ⟨fun e => UInt8.toNat.inj (by omega), fun e => by rw [e]⟩

set_option maxHeartbeats 800000 in
theorem refFields_own (s : ByteArray) (w : World) (hs : s.size < 2147483648) :
    Calls Tryd.prog 13 #[.string s] w fun e w' => ∃ v, e = .returned v ∧ Own Ty.str 9 w' w.heap.size v (fieldsB s) ∧ Below w.heap.size w w' := by
  go_enter Tryd.func13, Tryd.ntmps13
  go_wp2_with fail
  go_loopw [3, 4, 5] (fun v f i wr => ∃ (k : Nat) (fr : Int) (l : List ByteArray), i = .int .i64 k ∧ f = .int .i64 fr ∧ Own Ty.str 9 wr w.heap.size v l ∧ Below w.heap.size w wr ∧ Hid (RF s k fr l)) (fun _ _ i _ => s.size + 2 - (intOf i).toNat)
  case atStart => exact ⟨0, -1, [], rfl, rfl, Own.nil, Below.refl _ _, RF.start s⟩
  case round =>
    obtain ⟨k, fr, l, rfl, rfl, hown, hbr, HR⟩ := hrel
    obtain ⟨hb1, hb2, hb3⟩ := HR.out.bd
    have hll := HR.out.len
    have hbs := hbr.size
    by_cases hlt : k < s.size
    · have e1 := byte_is hlt 32
      have e2 := byte_is hlt 35
      simp only [show ((32 : UInt8).toNat : Int) = 32 from rfl, show ((35 : UInt8).toNat : Int) = 35 from rfl] at e1 e2
      have hkk : ((k : Int) == (s.size : Int)) = false := by simp; omega
      by_cases h32 : s[k] = 32
      · have hR := HR.out.blank hlt h32
        rw [decide_eq_true h32] at e1
        rw [h32, decide_eq_false (by decide)] at e2
        have e2' : ((s[k].toNat : Int) == 35) = false := by rw [h32]; rfl
        have H32 := Lib.hid h32; clear h32 e2
        by_cases hfr : 0 ≤ fr
        · rw [if_pos hfr] at hR
          have HR2 := Lib.hid hR; clear hR
          go_wp2_with (at_builtin; refine wpList_push_str rfl _ _ rfl strElem rfl (hown.alloc _) wr.heap.size (s.extract fr.toNat k) rfl ?c1 ?c2 ?c3 (Nat.le_refl _) (hbr.alloc hbs _) ?_)
          case c1 => simp
          case c2 => omega
          case c3 => simp; omega
          intro v' w1 hown2 hbr2
          clear hown
          go_wp2_with fail
          go_roundw
          case rel => exact ⟨k + 1, -1, _, by go_num, rfl, hown2, hbr2, HR2⟩
          case measure => simp [intOf]; omega
        · obtain rfl : fr = -1 := by omega
          rw [if_neg hfr] at hR
          have HR2 := Lib.hid hR; clear hR
          go_wp2_with fail
          go_roundw
          case rel => exact ⟨k + 1, -1, _, by go_num, rfl, hown, hbr, HR2⟩
          case measure => simp [intOf]; omega
      · rw [decide_eq_false h32] at e1
        by_cases h35 : s[k] = 35
        · have hR := HR.out.stop (.inr ⟨hlt, h35⟩)
          rw [decide_eq_true h35] at e2
          have H35 := Lib.hid h35; clear h32 h35
          by_cases hfr : 0 ≤ fr
          · rw [if_pos hfr] at hR
            have HR2 := Lib.hid hR; clear hR
            go_wp2_with (at_builtin; refine wpList_push_str rfl _ _ rfl strElem rfl (hown.alloc _) wr.heap.size (s.extract fr.toNat k) rfl ?c1 ?c2 ?c3 (Nat.le_refl _) (hbr.alloc hbs _) ?_)
            case c1 => simp
            case c2 => omega
            case c3 => simp; omega
            intro v' w1 hown2 hbr2
            clear hown
            go_wp2_with fail
            go_ret
            rw [HR2.out] at hown2
            exact ⟨_, rfl, hown2, hbr2⟩
          · rw [if_neg hfr] at hR
            have HR2 := Lib.hid hR; clear hR
            go_wp2_with fail
            go_ret
            rw [HR2.out] at hown
            exact ⟨_, rfl, hown, hbr⟩
        · have hR := HR.out.byte hlt h32 h35
          rw [decide_eq_false h35] at e2
          have H35 := Lib.hid h35; clear h32 h35
          by_cases hfr : fr < 0
          · rw [if_pos hfr] at hR
            have HR2 := Lib.hid hR; clear hR
            go_wp2_with fail
            go_roundw
            case rel => exact ⟨k + 1, k, _, by go_num, rfl, hown, hbr, HR2⟩
            case measure => simp [intOf]; omega
          · rw [if_neg hfr] at hR
            have HR2 := Lib.hid hR; clear hR
            go_wp2_with fail
            go_roundw
            case rel => exact ⟨k + 1, fr, _, by go_num, rfl, hown, hbr, HR2⟩
            case measure => simp [intOf]; omega
    · by_cases heq : k = s.size
      · have hR := HR.out.stop (.inl heq)
        have hkk : ((k : Int) == (s.size : Int)) = true := by simp; omega
        have hle : k ≤ s.size := by omega
        have HE := Lib.hid heq; clear heq
        by_cases hfr : 0 ≤ fr
        · rw [if_pos hfr] at hR
          have HR2 := Lib.hid hR; clear hR
          go_wp2_with (at_builtin; refine wpList_push_str rfl _ _ rfl strElem rfl (hown.alloc _) wr.heap.size (s.extract fr.toNat k) rfl ?c1 ?c2 ?c3 (Nat.le_refl _) (hbr.alloc hbs _) ?_)
          case c1 => simp
          case c2 => omega
          case c3 => simp; omega
          intro v' w1 hown2 hbr2
          clear hown
          go_wp2_with fail
          go_roundw
          case rel => exact ⟨k + 1, -1, _, by go_num, rfl, hown2, hbr2, by rw [HR2.out, HE.out]; exact RF.done⟩
          case measure => simp [intOf]; omega
        · obtain rfl : fr = -1 := by omega
          rw [if_neg hfr] at hR
          have HR2 := Lib.hid hR; clear hR
          go_wp2_with fail
          go_roundw
          case rel => exact ⟨k + 1, -1, _, by go_num, rfl, hown, hbr, by rw [HR2.out, HE.out]; exact RF.done⟩
          case measure => simp [intOf]; omega
      · have hR := HR.out.end_ (by omega)
        have HR2 := Lib.hid hR; clear hR
        have hgt : s.size < k := by omega
        clear heq
        go_wp2_with fail
        go_ret
        rw [HR2.out] at hown
        exact ⟨_, rfl, hown, hbr⟩
theorem refFields_any (s : ByteArray) (w : World) (hs : s.size < 2147483648) :
    Calls Tryd.prog 13 #[.string s] w fun e w' => ∃ A c, e = .returned (.slice A (fieldsB s).length c) ∧ Sl Ty.str w' (all_ w') A (fieldsB s).length c (fieldsB s) ∧ Below w.heap.size w w' := by
  refine (refFields_own s w hs).mono ?_
  rintro e w' ⟨v, rfl, h, hb⟩
  obtain ⟨A, c, rfl, h2⟩ := h.sl
  exact ⟨A, c, rfl, h2.more fun b hb => hb.2, hb⟩
end Go.Proofs.YtpgenhknndpcfaaDoor
