/-
  Contracts of pairinglaw5.Same and awake: Same says whether two lists of strings are equal; awake returns true.
  Condition: the slices read as lists of strings; the library's variable MaxLen holds an int.
-/
import Derived.Test.YtpgenhknndpcfaaDoorFields
import Derived.Deep.QuietTactic
import Derived.BigQuiet
namespace Go.Proofs.YtpgenhknndpcfaaDoor
set_option linter.unusedSimpArgs false
set_option linter.unusedVariables false
open Go.RowKit

def sameTo (a b : List ByteArray) (k : Nat) : Prop := ∀ j, j < k → a[j]? = b[j]?
theorem sameTo_zero (a b : List ByteArray) : sameTo a b 0 := fun _ h => absurd h (by omega)
theorem sameTo_succ {a b : List ByteArray} {k : Nat} (h : sameTo a b k) (e : a[k]? = b[k]?) : sameTo a b (k + 1) := fun j hj => by
  rcases Nat.lt_or_eq_of_le (Nat.le_of_lt_succ hj) with h1 | rfl
  · exact h j h1
  · exact e
theorem sameTo_all {a b : List ByteArray} (hl : a.length = b.length) (h : sameTo a b a.length) : a = b := by
  refine List.ext_getElem? fun i => ?_
  by_cases hi : i < a.length
  · exact h i hi
  · rw [List.getElem?_eq_none (by omega), List.getElem?_eq_none (by omega)]

set_option maxHeartbeats 400000 in
theorem same_any (A B : Option Addr) (n m c d : Nat) (a b : List ByteArray) (S T : Nat → Prop) (w : World) (ha : Sl Ty.str w S A n c a) (hb : Sl Ty.str w T B m d b) :
    Calls Tryd.prog 11 #[.slice A n c, .slice B m d] w fun e w' => e = .returned (.bool (decide (a = b))) ∧ ∃ n, w' = w.drewN n := by
  have hn := ha.len
  have hm := hb.len
  have hn2 : n ≤ maxLen := Nat.le_trans ha.2.1 ha.2.2.1
  have hm2 : m ≤ maxLen := Nat.le_trans hb.2.1 hb.2.2.1
  unfold maxLen at hn2 hm2
  have HA := Lib.hid ha; have HB := Lib.hid hb; clear ha hb
  by_cases hnm : n = m
  · have hl : a.length = b.length := by omega
    subst hn
    have HM := Lib.hid hm
    have HL := Lib.hid hl
    have ht : ((a.length : Int) != (m : Int)) = false := by simp [hnm]
    have hml : m ≤ a.length := by omega
    have hml' : a.length ≤ m := by omega
    have hbl : a.length ≤ b.length := by omega
    clear hm hnm hl
    go_enter Tryd.func11, Tryd.ntmps11
    go_wp2
    go_loopw [5] (fun i wr => ∃ k n : Nat, k ≤ a.length ∧ i = .int .i64 k ∧ Hid (sameTo a b k) ∧ wr = w.drewN n) (fun i _ => a.length - (intOf i).toNat)
    case atStart => exact ⟨0, 0, Nat.zero_le _, rfl, sameTo_zero _ _, rfl⟩
    case round =>
      obtain ⟨k, n0, hk, rfl, HS, rfl⟩ := hrel
      by_cases hlt : k < a.length
      · obtain ⟨ba, oa, rfl, _, hca⟩ := HA.out.str_at hlt
        obtain ⟨bb, ob, rfl, _, hcb⟩ := HB.out.str_at (show k < b.length by omega)
        go_wp2
        go_quiet (fail)
        go_wp2
        · have hne : ¬ a = b := by
            intro h
            subst h
            simp at *
          go_ret
          exact ⟨ret_bool (by rw [decide_eq_false hne]), _, World.drewN_drewN _ _ _⟩
        · have heq : a[k]? = b[k]? := by
            rw [List.getElem?_eq_getElem hlt, List.getElem?_eq_getElem (by omega)]
            have h1 : (!a[k].toList == b[k].toList) = false := by assumption
            rw [str_beq] at h1
            simpa using h1
          go_roundw
          case rel => exact ⟨k + 1, _, by omega, by go_num, sameTo_succ HS.out heq, rfl⟩
          case measure => simp [intOf]; omega
      · go_wp2
        go_ret
        exact ⟨ret_bool (by symm; rw [decide_eq_true_eq]; exact sameTo_all HL.out (by rw [show a.length = k by omega]; exact HS)), n0, rfl⟩
  · have ht : ((n : Int) != (m : Int)) = true := by simp; omega
    have hf : Hid (decide (a = b) = false) := by
      show decide (a = b) = false
      rw [decide_eq_false_iff_not]
      intro h
      subst h
      omega
    clear hnm
    go_enter Tryd.func11, Tryd.ntmps11
    go_wp2
    go_ret
    exact ⟨ret_bool hf.out.symm, 0, rfl⟩
def awakeLine : ByteArray := ⟨#[32, 102, 108, 105, 103, 104, 116, 32, 65, 66, 49, 32, 35, 32, 108, 97, 116, 101]⟩
theorem awake_fields : fieldsB awakeLine = [⟨#[102, 108, 105, 103, 104, 116]⟩, ⟨#[65, 66, 49]⟩] := by kernel_rfl
theorem awake_any (w : World) (hg : Glo w) :
    Calls Tryd.prog 10 #[] w fun e w' => e = .returned (.bool true) ∧ Below w.heap.size w w' := by
  have c := fields_any awakeLine w (by decide) hg
  rw [awake_fields] at c
  have C := Lib.hid c; clear c
  go_enter Tryd.func10, Tryd.ntmps10
  go_wp2_with fail
  refine C.out.mono ?_
  rintro e w1 ⟨A, cp, rfl, hsl, hb⟩
  obtain ⟨b, o, rfl, _, h0⟩ := hsl.str_at (k := 0) (by decide)
  obtain ⟨b', o', e', _, h1⟩ := hsl.str_at (k := 1) (by decide)
  obtain ⟨rfl, rfl⟩ : b = b' ∧ o = o' := by simpa using e'
  clear e' hsl C hg
  simp only [List.getElem_cons_zero, List.getElem_cons_succ, Nat.add_zero] at h0 h1
  go_wp2_with fail
  go_ret
  exact ⟨rfl, hb⟩
end Go.Proofs.YtpgenhknndpcfaaDoor
