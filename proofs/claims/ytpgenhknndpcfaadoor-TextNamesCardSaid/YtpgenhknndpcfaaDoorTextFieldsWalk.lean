/-
  Walks of the laws TextFields and TextNames: whatever the string, the law returns true and changes nothing that was there.
  Condition: the string's length fits an int; the library's variable MaxLen holds an int.
-/
import Derived.Test.YtpgenhknndpcfaaDoorRefFields
import Derived.Test.YtpgenhknndpcfaaDoorLaw5
import Derived.Test.YtpgenhknndpcfaaDoorNamesRef
namespace Go.Proofs.YtpgenhknndpcfaaDoor
set_option linter.unusedSimpArgs false
set_option linter.unusedVariables false
open Go.RowKit

theorem textFields_walk (s : ByteArray) (w : World) (hs : s.size ≤ maxLen) (hg : Glo w) :
    Calls Tryd.prog 3 #[.string s] w fun e w' => e = .returned (.bool true) ∧ Below w.heap.size w w' := by
  unfold maxLen at hs
  by_cases hl : 5000 < s.size
  · go_enter Tryd.func3, Tryd.ntmps3
    go_wp2_with fail
    refine (awake_any w hg).mono ?_
    rintro e w1 ⟨rfl, hb⟩
    go_wp2_with fail
    go_ret
    exact ⟨rfl, hb⟩
  · go_enter Tryd.func3, Tryd.ntmps3
    go_wp2_with fail
    refine (fields_any s w (by omega) hg).mono ?_
    rintro e w1 ⟨A, c, rfl, hsl, hb⟩
    go_wp2_with fail
    refine (refFields_any s w1 (by omega)).mono ?_
    rintro e w2 ⟨A2, c2, rfl, hsl2, hb2⟩
    go_wp2_with fail
    refine (same_any _ _ _ _ _ _ _ _ _ _ w2 (hsl.next hb2) hsl2).mono ?_
    rintro e w3 ⟨rfl, n, rfl⟩
    have hb3 : Below w.heap.size w (w2.drewN n) := below_drewN (hb.trans (hb2.mono hb.size)) n
    rw [decide_eq_true rfl]
    go_wp2_with fail
    refine (awake_any (w2.drewN n) (hg.next hb3)).mono ?_
    rintro e w4 ⟨rfl, hb4⟩
    go_wp2_with fail
    go_ret
    exact ⟨rfl, hb3.trans (hb4.mono hb3.size)⟩

theorem textNames_walk (s : ByteArray) (w : World) (hs : s.size ≤ maxLen) (hg : Glo w) :
    Calls Tryd.prog 8 #[.string s] w fun e w' => e = .returned (.bool true) ∧ Below w.heap.size w w' := by
  go_enter Tryd.func8, Tryd.ntmps8
  go_wp2_with (first
    | (go_at_call 16; refine (isName_any s _ hs).mono ?_; rintro e w' ⟨rfl, rfl⟩)
    | (go_at_call 18; refine (isCode_any s _ hs).mono ?_; rintro e w' ⟨rfl, rfl⟩)
    | (go_at_call 20; refine (isAirport_any s _ hs).mono ?_; rintro e w' ⟨rfl, rfl⟩)
    | (go_at_call 17; refine (isNameR_any s _ hs).mono ?_; rintro e w' ⟨rfl, rfl⟩)
    | (go_at_call 19; refine (isCodeR_any s _ hs).mono ?_; rintro e w' ⟨rfl, rfl⟩)
    | (go_at_call 21; refine (isAirportR_any s _ hs).mono ?_; rintro e w' ⟨rfl, rfl⟩)
    | (go_at_call 10; refine (awake_any _ hg).mono ?_; rintro e w1 ⟨rfl, hb⟩))
  go_ret
  exact ⟨rfl, hb⟩
end Go.Proofs.YtpgenhknndpcfaaDoor
