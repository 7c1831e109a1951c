/-
  The bits of the wire decodings.
  No condition.
-/
import Derived.Test.YtldeoaddogifpaaGreatDoorDecPlain
namespace Go.Proofs.YtldeoaddogifpaaGreatDoor
set_option linter.unusedSimpArgs false
set_option linter.unusedVariables false
open Go Go.RowKit

theorem and127 {y : Int} (h : isByte y) : bits .and .u8 y 127 = y % 128 := by
  have h1 : ∀ r : Nat, r < 256 → bits .and .u8 (r : Int) 127 = (r : Int) % 128 := by decide +kernel
  have h2 := h1 y.toNat (by unfold isByte at h; omega)
  rwa [Int.toNat_of_nonneg h.1] at h2
theorem and128 {y : Int} (h : isByte y) : (bits .and .u8 y 128 != 0) = decide (128 ≤ y) := by
  have h1 : ∀ r : Nat, r < 256 → (bits .and .u8 (r : Int) 128 != 0) = decide (128 ≤ (r : Int)) := by decide +kernel
  have h2 := h1 y.toNat (by unfold isByte at h; omega)
  rwa [Int.toNat_of_nonneg h.1] at h2
theorem ofInt64_nat (a : Nat) (h : a < 18446744073709551616) : (BitVec.ofInt 64 (a : Int)).toNat = a := by
  rw [BitVec.toNat_ofInt]
  omega
theorem or_add (k a c : Nat) (hk : k < 9) (ha : a < 2 ^ (7 * k)) (hc : c < 128) : bits .or .i64 (a : Int) ((c * 2 ^ (7 * k) : Nat) : Int) = ((a + c * 2 ^ (7 * k) : Nat) : Int) := by
  have hp : (2 : Nat) ^ (7 * k) ≤ 2 ^ 56 := Nat.pow_le_pow_right (by decide) (by omega)
  have e56 : (2 : Nat) ^ 56 = 72057594037927936 := by decide
  have hm : c * 2 ^ (7 * k) ≤ 127 * 2 ^ (7 * k) := Nat.mul_le_mul_right _ (by omega)
  have e := Nat.two_pow_add_eq_or_of_lt ha c
  show IntKind.i64.wrap ((BitVec.ofInt 64 (a : Int) ||| BitVec.ofInt 64 ((c * 2 ^ (7 * k) : Nat) : Int)).toNat : Int) = _
  rw [BitVec.toNat_or, ofInt64_nat _ (by omega), ofInt64_nat _ (by omega), Nat.or_comm, Nat.mul_comm c, ← e, IntKind.wrap_i64]
  have hm' : 2 ^ (7 * k) * c ≤ 127 * 72057594037927936 := by rw [Nat.mul_comm]; omega
  have ha' : a < 72057594037927936 := by omega
  clear e hm hp ha
  generalize 2 ^ (7 * k) * c = d at *
  omega
theorem or_step {k : Nat} {n y : Int} (hk : k < 9) (hn : 0 ≤ n) (hn2 : n < 128 ^ k) (hy : isByte y) : bits .or .i64 n (wrap64 (wrap64 (bits .and .u8 y 127) * 2 ^ (7 * k))) = n + y % 128 * 128 ^ k := by
  have e2 : (128 : Int) ^ k = 2 ^ (7 * k) := by rw [Int.pow_mul, show (2 : Int) ^ 7 = 128 by decide]
  rw [and127 hy, e2]
  rw [e2] at hn2
  have h1 : wrap64 (y % 128) = y % 128 := IntWalk.wrap64_in _ ⟨by omega, by omega⟩
  rw [h1]
  obtain ⟨a, rfl⟩ := Int.eq_ofNat_of_zero_le hn
  obtain ⟨c, hc⟩ := Int.eq_ofNat_of_zero_le (show 0 ≤ y % 128 by omega)
  rw [hc]
  have hc2 : c < 128 := by omega
  have e3 : (c : Int) * 2 ^ (7 * k) = ((c * 2 ^ (7 * k) : Nat) : Int) := by simp
  have ha : a < 2 ^ (7 * k) := by
    have : ((a : Nat) : Int) < ((2 ^ (7 * k) : Nat) : Int) := by simpa using hn2
    omega
  have hp : (2 : Nat) ^ (7 * k) ≤ 2 ^ 56 := Nat.pow_le_pow_right (by decide) (by omega)
  have e56 : (2 : Nat) ^ 56 = 72057594037927936 := by decide
  have hm : c * 2 ^ (7 * k) ≤ 127 * 2 ^ (7 * k) := Nat.mul_le_mul_right _ (by omega)
  rw [e3]
  have h2 : wrap64 ((c * 2 ^ (7 * k) : Nat) : Int) = ((c * 2 ^ (7 * k) : Nat) : Int) := IntWalk.wrap64_in _ ⟨by omega, by omega⟩
  rw [h2, or_add k a c hk ha hc2]
  omega
end Go.Proofs.YtldeoaddogifpaaGreatDoor
