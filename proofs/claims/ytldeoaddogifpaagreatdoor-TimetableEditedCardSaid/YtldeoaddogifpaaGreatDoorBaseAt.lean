/-
  Contracts of pairingbase.At and pairingbase.Codes.
  Condition: a position is small.
-/
import Derived.Test.YtldeoaddogifpaaGreatDoorBase
import Derived.BigQuiet
import Derived.Deep.QuietTactic
namespace Go.Proofs.YtldeoaddogifpaaGreatDoor
set_option linter.unusedSimpArgs false
set_option linter.unusedVariables false
open Go.RowKit

theorem and_ffff (n : Int) : bits .and .i64 n 65535 = n % 65536 := by
  show IntKind.i64.wrap ((BitVec.ofInt 64 n &&& BitVec.ofInt 64 65535).toNat : Int) = _
  have e1 : (BitVec.ofInt 64 65535).toNat = 2 ^ 16 - 1 := by decide
  rw [BitVec.toNat_and, e1, Nat.and_two_pow_sub_one_eq_mod, BitVec.toNat_ofInt, IntKind.wrap_i64]
  omega
/-- pairingbase.At. -/
def atL (l : List Int) (i : Nat) : Int := if l.length = 0 then (i : Int) % 65536 else l.getD (i % l.length) 0 % 65536 + ((i / l.length : Nat) : Int)
theorem atL_range (l : List Int) (i : Nat) : 0 ≤ atL l i ∧ atL l i ≤ 65535 + i := by
  unfold atL
  split
  · omega
  · have : i / l.length ≤ i := Nat.div_le_self _ _
    generalize i / l.length = d at *
    omega
def IntPost (x : Int) (w : World) (e : Ending) (w' : World) : Prop := e = .returned (.int .i64 x) ∧ Below w.heap.size w w'
set_option maxRecDepth 100000 in
theorem at_any (l : List Int) (A : Option Addr) (n c : Nat) (i : Nat) (w : World) (h : Sl (Ty.int .i64) w (all_ w) A n c l) (hi : i ≤ 1000000) :
    Calls Tryz.prog 33 #[.slice A n c, .int .i64 i] w (IntPost (atL l i) w) := by
  have hn1 : n ≤ l.length := Nat.le_of_eq h.len
  have hn2 : l.length ≤ n := Nat.le_of_eq h.len.symm
  have hle := h.le
  unfold maxLen at hle
  rcases Nat.eq_zero_or_pos n with rfl | hp
  · have HR : Hid (atL l i = (i : Int) % 65536) := by show _ = _; unfold atL; rw [if_pos (by omega)]
    have HA := Lib.hid (and_ffff (i : Int))
    clear h
    go_enter Tryz.func33, Tryz.ntmps33
    go_wp2_with fail
    go_ret
    exact ⟨ret_int (by rw [HR.out, HA.out]), Below.refl _ _⟩
  · have HR : Hid (atL l i = l.getD (i % n) 0 % 65536 + ((i / n : Nat) : Int)) := by
      show _ = _
      have e : l.length = n := by omega
      unfold atL
      rw [if_neg (by omega), e]
    have hmod : i % n < n := Nat.mod_lt _ hp
    have hdiv : i / n ≤ i := Nat.div_le_self _ _
    obtain ⟨b, o, rfl, hbS, hc⟩ := h.int_at (k := i % n) (by omega)
    have e2 : l[i % n]'(by omega) = l.getD (i % n) 0 := by rw [List.getD_eq_getElem?_getD, List.getElem?_eq_getElem (by omega)]; rfl
    rw [e2] at hc
    clear e2
    generalize l.getD (i % n) 0 = x at *
    have HA := Lib.hid (and_ffff x)
    have hn0 : ((n : Int) == 0) = false := by simp; omega
    have hne : ¬ (n : Int) = 0 := by omega
    have q1 : (i : Int) % (n : Int) = ((i % n : Nat) : Int) := rfl
    have q2 : (i : Int) / (n : Int) = ((i / n : Nat) : Int) := rfl
    have q1' : (i : Int).tmod (n : Int) = ((i % n : Nat) : Int) := by rw [Int.tmod_eq_emod_of_nonneg (by omega)]; rfl
    have q2' : (i : Int).tdiv (n : Int) = ((i / n : Nat) : Int) := by rw [Int.tdiv_eq_ediv_of_nonneg (by omega)]; rfl
    generalize i % n = r at *
    generalize i / n = d at *
    have q3 : (0 : Int) ≤ (r : Int) := by omega
    have q4 : (r : Int) < (n : Int) := by omega
    have q6 : bits .and .i64 x 65535 = x % 65536 := HA.out
    have Q2 := Lib.hid q2
    have HW1 : Hid (wrap64 (x % 65536 + wrap64 ((i : Int) / (n : Int))) = x % 65536 + (d : Int)) := by
      show _ = _
      rw [q2, IntWalk.wrap64_in (d : Int) ⟨by omega, by omega⟩, IntWalk.wrap64_in _ ⟨by omega, by omega⟩]
    have HW2 : Hid (wrap64 (x % 65536 + wrap64 (d : Int)) = x % 65536 + (d : Int)) := by
      show _ = _
      rw [IntWalk.wrap64_in (d : Int) ⟨by omega, by omega⟩, IntWalk.wrap64_in _ ⟨by omega, by omega⟩]
    clear h
    go_enter Tryz.func33, Tryz.ntmps33
    go_wp2_with fail
    go_quiet (fail)
    go_wp2_with fail
    go_ret
    exact ⟨ret_int (by first | rw [HR.out] | (rw [HR.out]; exact HW1.out) | (rw [HR.out]; exact HW2.out)), below_drewN (Below.refl _ _) _⟩
def baseCodes : List ByteArray := [sAAA, sBBB, sCCC]
theorem codes_any (w : World) : Calls Tryz.prog 34 #[] w (SlPost Ty.str baseCodes w) := by
  go_enter Tryz.func34, Tryz.ntmps34
  go_wp2_with fail
  go_ret
  refine ⟨_, _, _, rfl, ?_, (Below.refl _ _).alloc (Nat.le_refl _) _⟩
  refine Sl.block (xs := baseCodes) (t := Ty.str) (heap_alloc_new _ _) ⟨by omega, by simp⟩ (by decide) fun i x hi => ?_
  rcases i with _ | _ | _ | i
  · simp [baseCodes] at hi; subst hi; rfl
  · simp [baseCodes] at hi; subst hi; rfl
  · simp [baseCodes] at hi; subst hi; rfl
  · simp [baseCodes] at hi
end Go.Proofs.YtldeoaddogifpaaGreatDoor
