/-
  Walk of the law TextNumbers: whatever the string and the int, the law returns true and changes nothing that was there.
  Condition: the string's length fits an int; the library's table of powers of ten holds what its text lays; the library's variable MaxLen holds an int.
-/
import Derived.Test.YtpgenhknndpcfaaDoorNumbers
import Derived.Test.YtpgenhknndpcfaaDoorLaw5
namespace Go.Proofs.YtpgenhknndpcfaaDoor
set_option linter.unusedSimpArgs false
set_option linter.unusedVariables false
open Go.RowKit

theorem fmtB_size (n : Int) (h0 : -9223372036854775808 ≤ n) (h1 : n ≤ 9223372036854775807) : (fmtB n).size ≤ maxLen := by
  have key : ∀ u : Nat, u ≤ 9223372036854775808 → (Lib.decDigits u).length ≤ 30 := by
    intro u hu
    rw [Lib.decDigits_length]
    rcases Nat.lt_or_ge 30 (Lib.nDigits u) with h | h
    · have hk : ∀ k v, k < Lib.nDigits v → 10 ^ k ≤ v ∨ k = 0 := by
        intro k
        induction k with
        | zero => intro v _; exact .inr rfl
        | succ k ih =>
          intro v hv
          left
          by_cases hv1 : v < 10
          · rw [Lib.nDigits_small hv1] at hv; omega
          · rw [Lib.nDigits_big hv1] at hv
            rcases ih (v / 10) (by omega) with h5 | h5
            · rw [Nat.pow_succ]; omega
            · subst h5; omega
      rcases hk 30 u h with h3 | h3
      · have : (10 : Nat) ^ 30 = 1000000000000000000000000000000 := by decide
        omega
      · cases h3
    · exact h
  unfold fmtB Lib.itoa
  rw [bs_size]
  split
  · have := key n.natAbs (by omega)
    rw [List.length_cons]
    unfold maxLen
    omega
  · have := key n.toNat (by omega)
    unfold maxLen
    omega

set_option maxHeartbeats 800000 in
theorem textNumbers_walk (s : ByteArray) (n : Int) (w : World) (hs : s.size ≤ maxLen) (h0 : -9223372036854775808 ≤ n) (h1 : n ≤ 9223372036854775807) (hp : Pow10 w) (hg : Glo w) :
    Calls Tryd.prog 9 #[.string s, .int .i64 n] w fun e w' => e = .returned (.bool true) ∧ Below w.heap.size w w' := by
  have hfs := Lib.hid (fmtB_size n h0 h1)
  have hpf := parse_format n
  rw [show bs (Lib.itoa n) = fmtB n from rfl] at hpf
  have HPF := Lib.hid hpf; clear hpf
  go_enter Tryd.func9, Tryd.ntmps9
  go_wp2_with fail
  refine (parseInt_any s w hs).mono ?_
  rintro e w' ⟨rfl, rfl⟩
  go_wp2_with fail
  refine (parseIntR_any s w hs).mono ?_
  rintro e w' ⟨rfl, rfl⟩
  generalize parseB s = ps
  go_wp2_with fail
  refine (formatInt_any n w h0 h1 hp).mono ?_
  rintro e w1 ⟨rfl, hb1⟩
  go_wp2_with fail
  refine (parseInt_any (fmtB n) w1 hfs.out).mono ?_
  rintro e w' ⟨rfl, rfl⟩
  go_wp2_with fail
  refine (formatIntR_any n w1 h0 h1 (hp.next hb1)).mono ?_
  rintro e w2 ⟨rfl, hb2⟩
  have hb3 : Below w.heap.size w w2 := hb1.trans (hb2.mono hb1.size)
  have hne : (!(fmtB n).toList == (fmtB n).toList) = false := by simp
  by_cases hr : -9999999999 ≤ n ∧ n ≤ 9999999999
  · rw [HPF.out, if_pos hr]
    obtain ⟨hr1, hr2⟩ := hr
    go_wp2_with fail
    refine (awake_any w2 (hg.next hb3)).mono ?_
    rintro e w4 ⟨rfl, hb4⟩
    go_wp2_with fail
    go_ret
    exact ⟨rfl, hb3.trans (hb4.mono hb3.size)⟩
  · rw [HPF.out, if_neg hr]
    by_cases h2 : n < -9999999999
    · clear hr
      go_wp2_with fail
      refine (awake_any w2 (hg.next hb3)).mono ?_
      rintro e w4 ⟨rfl, hb4⟩
      go_wp2_with fail
      go_ret
      exact ⟨rfl, hb3.trans (hb4.mono hb3.size)⟩
    · have h3 : 9999999999 < n := by omega
      clear hr
      go_wp2_with fail
      refine (awake_any w2 (hg.next hb3)).mono ?_
      rintro e w4 ⟨rfl, hb4⟩
      go_wp2_with fail
      go_ret
      exact ⟨rfl, hb3.trans (hb4.mono hb3.size)⟩
end Go.Proofs.YtpgenhknndpcfaaDoor
