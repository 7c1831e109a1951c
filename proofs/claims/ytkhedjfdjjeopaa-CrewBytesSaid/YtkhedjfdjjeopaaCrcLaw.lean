/-
  The checksum byte by byte is the division bit by bit; one changed byte changes it.
  No condition.
-/
import Derived.Test.YtkhedjfdjjeopaaCrcPlain
namespace Go.Proofs.Ytkhedjfdjjeopaa
set_option linter.unusedSimpArgs false
set_option linter.unusedVariables false
open Go

theorem lowB_lsb (x : BitVec 32) : lowB x = x.getLsbD 0 := by
  unfold lowB
  rw [BitVec.getLsbD, Nat.testBit_zero]
theorem lowB_xor (x y : BitVec 32) : lowB (x ^^^ y) = (lowB x ^^ lowB y) := by
  rw [lowB_lsb, lowB_lsb, lowB_lsb, BitVec.getLsbD_xor]
theorem sh1_eq (x : BitVec 32) : sh1 x = (x >>> 1) ^^^ (if lowB x = true then poly else 0#32) := by
  unfold sh1
  split
  · rfl
  · rw [BitVec.xor_zero]
theorem sh1_xor (x y : BitVec 32) : sh1 (x ^^^ y) = sh1 x ^^^ sh1 y := by
  rw [sh1_eq, sh1_eq, sh1_eq, lowB_xor, BitVec.ushiftRight_xor_distrib]
  have e : (if (lowB x ^^ lowB y) = true then poly else 0#32) = (if lowB x = true then poly else 0#32) ^^^ (if lowB y = true then poly else 0#32) := by
    cases lowB x <;> cases lowB y <;> simp
  rw [e]
  ac_rfl
theorem shN_xor (x y : BitVec 32) : ∀ n, shN n (x ^^^ y) = shN n x ^^^ shN n y
  | 0 => rfl
  | n + 1 => by rw [shN, shN, shN, shN_xor x y n, sh1_xor]
theorem sh1_msb (x : BitVec 32) : (sh1 x).getLsbD 31 = lowB x := by
  rw [sh1_eq, BitVec.getLsbD_xor, BitVec.getLsbD_ushiftRight, BitVec.getLsbD_of_ge _ _ (by omega)]
  cases lowB x
  · simp
  · simp [poly]
theorem sh1_inj {x y : BitVec 32} (h : sh1 x = sh1 y) : x = y := by
  have hl : lowB x = lowB y := by rw [← sh1_msb, ← sh1_msb, h]
  rw [sh1_eq, sh1_eq, hl] at h
  have h1 : x >>> 1 = y >>> 1 := (BitVec.xor_left_inj _).1 h
  apply BitVec.eq_of_toNat_eq
  have h2 := congrArg BitVec.toNat h1
  rw [BitVec.toNat_ushiftRight, BitVec.toNat_ushiftRight, Nat.shiftRight_eq_div_pow, Nat.shiftRight_eq_div_pow] at h2
  unfold lowB at hl
  rw [decide_eq_decide] at hl
  omega
theorem shN_inj {x y : BitVec 32} : ∀ n, shN n x = shN n y → x = y
  | 0, h => h
  | n + 1, h => shN_inj n (sh1_inj h)
/-- Zero bits at the end are only shifted. -/
theorem shN_zeros (x : BitVec 32) : ∀ n, x.toNat % 2 ^ n = 0 → shN n x = x >>> n
  | 0, _ => by simp [shN]
  | n + 1, h => by
    have h1 : x.toNat % 2 ^ n = 0 := by
      have : 2 ^ n ∣ x.toNat := Nat.dvd_trans (Nat.pow_dvd_pow 2 (Nat.le_succ n)) (Nat.dvd_of_mod_eq_zero h)
      exact Nat.mod_eq_zero_of_dvd this
    rw [shN, shN_zeros x n h1, sh1_eq]
    have hlow : lowB (x >>> n) = false := by
      unfold lowB
      rw [BitVec.toNat_ushiftRight, Nat.shiftRight_eq_div_pow, decide_eq_false_iff_not]
      intro e
      obtain ⟨k, hk⟩ := Nat.dvd_of_mod_eq_zero h
      rw [hk, Nat.pow_succ, Nat.mul_assoc, Nat.mul_div_cancel_left _ (Nat.two_pow_pos n)] at e
      omega
    rw [if_neg (by rw [hlow]; simp), BitVec.xor_zero, BitVec.shiftRight_add]
theorem split_low (x : BitVec 32) : x = BitVec.ofNat 32 (x.toNat % 256) ^^^ ((x >>> 8) <<< 8) := by
  apply BitVec.eq_of_toNat_eq
  have hx := x.isLt
  rw [BitVec.toNat_xor, BitVec.toNat_ofNat, BitVec.toNat_shiftLeft, BitVec.toNat_ushiftRight, Nat.shiftRight_eq_div_pow, Nat.shiftLeft_eq]
  have e1 : x.toNat % 256 % 2 ^ 32 = x.toNat % 256 := by omega
  have e2 : x.toNat / 2 ^ 8 * 2 ^ 8 % 2 ^ 32 = 2 ^ 8 * (x.toNat / 2 ^ 8) := by omega
  rw [e1, e2, Nat.xor_comm]
  have h3 := Nat.two_pow_add_eq_or_of_lt (i := 8) (b := x.toNat % 256) (by omega) (x.toNat / 2 ^ 8)
  have h4 : 2 ^ 8 * (x.toNat / 2 ^ 8) ^^^ x.toNat % 256 = 2 ^ 8 * (x.toNat / 2 ^ 8) ||| x.toNat % 256 := by
    apply Nat.eq_of_testBit_eq
    intro i
    rw [Nat.testBit_xor, Nat.testBit_or]
    by_cases hi : i < 8
    · rw [Nat.testBit_two_pow_mul]
      simp [show ¬ 8 ≤ i by omega]
    · have : (x.toNat % 256).testBit i = false := Nat.testBit_lt_two_pow (Nat.lt_of_lt_of_le (show x.toNat % 256 < 2 ^ 8 by omega) (Nat.pow_le_pow_right (by decide) (by omega)))
      rw [this]
      simp
  rw [h4, ← h3]
  omega
theorem shN8_split (x : BitVec 32) : shN 8 x = tabN (x.toNat % 256) ^^^ (x >>> 8) := by
  conv => lhs; rw [split_low x]
  rw [shN_xor]
  have hx := x.isLt
  have hz : ((x >>> 8) <<< 8).toNat % 2 ^ 8 = 0 := by
    rw [BitVec.toNat_shiftLeft, BitVec.toNat_ushiftRight, Nat.shiftRight_eq_div_pow, Nat.shiftLeft_eq]
    omega
  rw [shN_zeros _ 8 hz]
  have e : ((x >>> 8) <<< 8) >>> 8 = x >>> 8 := by
    apply BitVec.eq_of_toNat_eq
    rw [BitVec.toNat_ushiftRight, BitVec.toNat_shiftLeft, BitVec.toNat_ushiftRight, Nat.shiftRight_eq_div_pow, Nat.shiftRight_eq_div_pow, Nat.shiftLeft_eq]
    omega
  rw [e]
  rfl
/-- A byte as 32 bits. -/
def b32 (c : Int) : BitVec 32 := BitVec.ofInt 32 c
theorem b32_nat {c : Int} (h : isByte c) : (b32 c).toNat = c.toNat := by
  unfold b32 isByte at *
  rw [BitVec.toNat_ofInt]
  omega
theorem crcStep_bits (s : BitVec 32) {c : Int} (h : isByte c) : crcStep s c = shN 8 (s ^^^ b32 c) := by
  have hc := b32_nat h
  rw [shN8_split]
  unfold crcStep
  have e1 : ix s c = (s ^^^ b32 c).toNat % 256 := by
    unfold ix
    rw [BitVec.toNat_xor, BitVec.toNat_xor, BitVec.toNat_setWidth, BitVec.toNat_ofInt, hc]
    have e3 : (c % ((2 ^ 8 : Nat) : Int)).toNat = c.toNat % 2 ^ 8 := by unfold isByte at h; omega
    rw [e3]
    show s.toNat % 2 ^ 8 ^^^ c.toNat % 2 ^ 8 = (s.toNat ^^^ c.toNat) % 2 ^ 8
    rw [Nat.xor_mod_two_pow]
  have e2 : (s ^^^ b32 c) >>> 8 = s >>> 8 := by
    rw [BitVec.ushiftRight_xor_distrib]
    have : b32 c >>> 8 = 0#32 := by
      apply BitVec.eq_of_toNat_eq
      rw [BitVec.toNat_ushiftRight, Nat.shiftRight_eq_div_pow, hc]
      unfold isByte at h
      simp
      omega
    rw [this, BitVec.xor_zero]
  rw [e1, e2]
theorem crcStep_inj_s {s t : BitVec 32} {c : Int} (h : isByte c) (e : crcStep s c = crcStep t c) : s = t := by
  rw [crcStep_bits s h, crcStep_bits t h] at e
  have := shN_inj 8 e
  exact (BitVec.xor_left_inj _).1 this
theorem crcStep_inj_c {s : BitVec 32} {c d : Int} (hc : isByte c) (hd : isByte d) (e : crcStep s c = crcStep s d) : c = d := by
  rw [crcStep_bits s hc, crcStep_bits s hd] at e
  have h1 := (BitVec.xor_right_inj _).1 (shN_inj 8 e)
  have h2 := congrArg BitVec.toNat h1
  rw [b32_nat hc, b32_nat hd] at h2
  unfold isByte at hc hd
  omega
theorem fold_inj : ∀ (l : List Int) (s t : BitVec 32), (∀ x ∈ l, isByte x) → l.foldl crcStep s = l.foldl crcStep t → s = t
  | [], _, _, _, h => h
  | c :: l, s, t, hb, h => crcStep_inj_s (hb c (by simp)) (fold_inj l _ _ (fun x hx => hb x (by simp [hx])) h)
/-- One changed byte changes the checksum. -/
theorem crc_changed {p q : List Int} {c d : Int} (hc : isByte c) (hd : isByte d) (hq : ∀ x ∈ q, isByte x) (h : crc (p ++ c :: q) = crc (p ++ d :: q)) : c = d := by
  have h1 : crcTo (p ++ c :: q) = crcTo (p ++ d :: q) := by
    have := congrArg (~~~ ·) h
    simpa [crc] using this
  unfold crcTo at h1
  rw [List.foldl_append, List.foldl_append, List.foldl_cons, List.foldl_cons] at h1
  exact crcStep_inj_c hc hd (fold_inj q _ _ hq h1)
end Go.Proofs.Ytkhedjfdjjeopaa
