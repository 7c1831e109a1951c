/-
  Plain functions of the wire encodings: numbers in groups of seven bits, signed numbers, texts.
  No condition.
-/
import Derived.Test.YtldeoaddogifpaaGreatDoorBytes
namespace Go.Proofs.YtldeoaddogifpaaGreatDoor
set_option linter.unusedSimpArgs false
set_option linter.unusedVariables false
open Go

def uvarF : Nat → Int → List Int
  | 0, n => [n % 256]
  | f + 1, n => if n < 128 then [n] else (n % 128 + 128) :: uvarF f (n / 128)
/-- A number from 0 to 2^62 in groups of seven bits. -/
def uvar (n : Int) : List Int := uvarF 9 n
theorem uvarF_more : ∀ (f : Nat) (n : Int), 0 ≤ n → n < 128 ^ (f + 1) → uvarF (f + 1) n = uvarF f n
  | 0, n, h0, h => by
    have h1 : n < 128 := by simpa using h
    show (if n < 128 then [n] else _) = [n % 256]
    rw [if_pos h1, Int.emod_eq_of_lt h0 (by omega)]
  | f + 1, n, h0, h => by
    rw [uvarF]
    conv => rhs; rw [uvarF]
    split
    · rfl
    · rw [uvarF_more f (n / 128) (by omega) (by
        rw [Int.pow_succ] at h
        exact Int.ediv_lt_of_lt_mul (by decide) (by omega))]
theorem uvar_small {n : Int} (h : n < 128) : uvar n = [n] := by unfold uvar; rw [uvarF, if_pos h]
theorem uvar_step {n : Int} (h : 128 ≤ n) (h2 : n ≤ 4611686018427387904) : uvar n = (n % 128 + 128) :: uvar (n / 128) := by
  unfold uvar
  rw [uvarF, if_neg (by omega)]
  have := uvarF_more 8 (n / 128) (by omega) (by
    have : ((128 : Int) ^ (8 + 1)) = 9223372036854775808 := by decide
    omega)
  rw [← this]
theorem uvar_pos (n : Int) : uvar n ≠ [] := by
  unfold uvar
  rw [uvarF]
  split <;> simp
theorem uvarF_len : ∀ (f : Nat) (n : Int), (uvarF f n).length ≤ f + 1
  | 0, n => by simp [uvarF]
  | f + 1, n => by
    rw [uvarF]
    split
    · simp
    · have := uvarF_len f (n / 128)
      simp only [List.length_cons]
      omega
theorem uvar_len (n : Int) : (uvar n).length ≤ 10 := uvarF_len 9 n
def isByte (n : Int) : Prop := 0 ≤ n ∧ n < 256
theorem uvarF_bytes : ∀ (f : Nat) (n : Int), 0 ≤ n → ∀ x ∈ uvarF f n, isByte x
  | 0, n, h, x, hx => by
    simp [uvarF] at hx
    subst hx
    unfold isByte
    omega
  | f + 1, n, h, x, hx => by
    rw [uvarF] at hx
    split at hx
    · simp at hx; subst hx; unfold isByte; omega
    · rw [List.mem_cons] at hx
      rcases hx with rfl | hx
      · unfold isByte; omega
      · exact uvarF_bytes f _ (by omega) x hx
theorem uvar_bytes {n : Int} (h : 0 ≤ n) : ∀ x ∈ uvar n, isByte x := uvarF_bytes 9 n h
/-- The number that a signed number is written as. -/
def zig (n : Int) : Int := if n < 0 then -2 * n - 1 else 2 * n
/-- The bytes of a string. -/
def bytesOf (s : ByteArray) : List Int := s.data.toList.map fun b => (b.toNat : Int)
theorem bytesOf_len (s : ByteArray) : (bytesOf s).length = s.size := by unfold bytesOf; rw [List.length_map]; exact (Lib.size_eq s).symm
theorem bytesOf_bytes (s : ByteArray) : ∀ x ∈ bytesOf s, isByte x := by
  intro x hx
  unfold bytesOf at hx
  rw [List.mem_map] at hx
  obtain ⟨b, _, rfl⟩ := hx
  have := UInt8.toNat_lt b
  exact ⟨by omega, by omega⟩
def textB (s : ByteArray) : List Int := uvar s.size ++ bytesOf s
theorem or128 (m : Int) : bits .or .u8 (IntKind.u8.wrap m) 128 = m % 128 + 128 := by
  rw [IntKind.wrap_u8]
  have h : ∀ r : Nat, r < 256 → bits .or .u8 (r : Int) 128 = (r : Int) % 128 + 128 := by decide +kernel
  have h1 : 0 ≤ m % 256 := by omega
  have h2 := h (m % 256).toNat (by omega)
  rw [Int.toNat_of_nonneg h1] at h2
  rw [h2]
  omega
end Go.Proofs.YtldeoaddogifpaaGreatDoor
