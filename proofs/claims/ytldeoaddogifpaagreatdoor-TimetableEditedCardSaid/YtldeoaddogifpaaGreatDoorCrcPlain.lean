/-
  The plain checksum: its table, its step, the bits of unsigned numbers.
  No condition.
-/
import Derived.Test.YtldeoaddogifpaaGreatDoorWirePlain
namespace Go.Proofs.YtldeoaddogifpaaGreatDoor
set_option linter.unusedSimpArgs false
set_option linter.unusedVariables false
open Go

def u32 (x : BitVec 32) : Int := (x.toNat : Int)
theorem u32_lo (x : BitVec 32) : 0 ≤ u32 x := by unfold u32; omega
theorem u32_hi (x : BitVec 32) : u32 x < 4294967296 := by unfold u32; have := x.isLt; omega
theorem ofInt_u32 (x : BitVec 32) : BitVec.ofInt 32 (u32 x) = x := by
  apply BitVec.eq_of_toNat_eq
  unfold u32
  rw [BitVec.toNat_ofInt]
  have := x.isLt
  omega
theorem wrap_u32 (x : BitVec 32) : IntKind.u32.wrap (x.toNat : Int) = u32 x := by
  have := x.isLt
  unfold u32 IntKind.wrap
  simp [IntKind.bits, IntKind.signed]
  omega
theorem bits_xor_u32 (x y : BitVec 32) : bits .xor .u32 (u32 x) (u32 y) = u32 (x ^^^ y) := by
  show IntKind.u32.wrap ((BitVec.ofInt 32 (u32 x) ^^^ BitVec.ofInt 32 (u32 y)).toNat : Int) = _
  rw [ofInt_u32, ofInt_u32, wrap_u32]
theorem bits_and_u32 (x y : BitVec 32) : bits .and .u32 (u32 x) (u32 y) = u32 (x &&& y) := by
  show IntKind.u32.wrap ((BitVec.ofInt 32 (u32 x) &&& BitVec.ofInt 32 (u32 y)).toNat : Int) = _
  rw [ofInt_u32, ofInt_u32, wrap_u32]
def poly : BitVec 32 := 2197175160#32
theorem u32_poly : u32 poly = 2197175160 := by decide
theorem u32_half (x : BitVec 32) : u32 x / (2 : Int) = u32 (x >>> 1) := by
  unfold u32
  rw [BitVec.toNat_ushiftRight, Nat.shiftRight_eq_div_pow]
  omega
theorem u32_byte (x : BitVec 32) : u32 x / (256 : Int) = u32 (x >>> 8) := by
  unfold u32
  rw [BitVec.toNat_ushiftRight, Nat.shiftRight_eq_div_pow]
  omega
def lowB (x : BitVec 32) : Bool := decide (x.toNat % 2 = 1)
theorem low_bit (x : BitVec 32) : (bits .and .u32 (u32 x) 1 != 0) = lowB x := by
  have h := bits_and_u32 x 1#32
  have e : u32 1#32 = 1 := by decide
  rw [e] at h
  rw [h]
  unfold u32 lowB
  rw [BitVec.toNat_and]
  show ((((x.toNat &&& 1 : Nat)) : Int) != 0) = _
  rw [Nat.and_one_is_mod, Bool.eq_iff_iff, bne_iff_ne, decide_eq_true_eq]
  omega
/-- One bit of the division. -/
def sh1 (x : BitVec 32) : BitVec 32 := if lowB x = true then (x >>> 1) ^^^ poly else x >>> 1
def shN : Nat → BitVec 32 → BitVec 32
  | 0, x => x
  | n + 1, x => sh1 (shN n x)
theorem sh1_yes {x : BitVec 32} (h : lowB x = true) : bits .xor .u32 (u32 x / 2) 2197175160 = u32 (sh1 x) := by
  rw [u32_half, ← u32_poly, bits_xor_u32, sh1, if_pos h]
theorem sh1_no {x : BitVec 32} (h : lowB x = false) : u32 x / 2 = u32 (sh1 x) := by
  rw [u32_half, sh1, if_neg (by simp [h])]
def tabN (i : Nat) : BitVec 32 := shN 8 (BitVec.ofNat 32 i)
/-- The table's cells when k of them are filled. -/
def tabCells (k : Nat) : Array Value := ((List.range 256).map fun j => Value.int .u32 (if j < k then u32 (tabN j) else 0)).toArray
theorem tabCells_size (k : Nat) : (tabCells k).size = 256 := by simp [tabCells]
theorem tabCells_get {k j : Nat} (h : j < 256) : (tabCells k)[j]? = some (.int .u32 (if j < k then u32 (tabN j) else 0)) := by
  simp [tabCells, h]
theorem tabCells_set {k : Nat} (h : k < 256) : (tabCells k).setIfInBounds k (.int .u32 (u32 (tabN k))) = tabCells (k + 1) := by
  apply Array.ext_getElem?
  intro j
  by_cases hj : j < 256
  · rw [Array.getElem?_setIfInBounds, tabCells_get hj, tabCells_get hj]
    by_cases e : k = j
    · subst e
      rw [if_pos rfl, if_pos (by rw [tabCells_size]; exact h), if_pos (by omega)]
    · rw [if_neg e]
      by_cases h1 : j < k
      · rw [if_pos h1, if_pos (by omega)]
      · rw [if_neg h1, if_neg (by omega)]
  · rw [Array.getElem?_eq_none (by simp [tabCells_size]; omega), Array.getElem?_eq_none (by rw [tabCells_size]; omega)]
theorem tabCells_one (k : Nat) : (tabCells k).all (·.oneCell') = true := by
  rw [Array.all_eq_true]
  intro i h
  have h' : i < 256 := by rwa [tabCells_size] at h
  have := tabCells_get (k := k) h'
  rw [Array.getElem?_eq_getElem h] at this
  injection this with this
  rw [this]
  rfl
theorem ofNat_of_int (k : Nat) (h : k < 256) : IntKind.u32.wrap (k : Int) = u32 (BitVec.ofNat 32 k) := by
  unfold u32 IntKind.wrap
  simp [IntKind.bits, IntKind.signed]
/-- The table's index for a state and a byte. -/
def ix (s : BitVec 32) (c : Int) : Nat := (s.setWidth 8 ^^^ BitVec.ofInt 8 c).toNat
theorem ix_lt (s : BitVec 32) (c : Int) : ix s c < 256 := (s.setWidth 8 ^^^ BitVec.ofInt 8 c).isLt
theorem ix_eq (s : BitVec 32) (c : Int) : bits .xor .u8 (IntKind.u8.wrap (u32 s)) c = (ix s c : Int) := by
  have e : BitVec.ofInt 8 (IntKind.u8.wrap (u32 s)) = s.setWidth 8 := by
    apply BitVec.eq_of_toNat_eq
    rw [BitVec.toNat_ofInt, IntKind.wrap_u8, BitVec.toNat_setWidth]
    unfold u32
    omega
  show IntKind.u8.wrap ((BitVec.ofInt 8 (IntKind.u8.wrap (u32 s)) ^^^ BitVec.ofInt 8 c).toNat : Int) = _
  rw [e, IntKind.wrap_u8]
  have := ix_lt s c
  unfold ix at *
  omega
/-- One byte of the checksum. -/
def crcStep (s : BitVec 32) (c : Int) : BitVec 32 := tabN (ix s c) ^^^ (s >>> 8)
def crcTo (l : List Int) : BitVec 32 := l.foldl crcStep 4294967295#32
def crc (l : List Int) : BitVec 32 := ~~~ crcTo l
theorem crcTo_snoc (l : List Int) (c : Int) : crcTo (l ++ [c]) = crcStep (crcTo l) c := by simp [crcTo]
theorem crcStep_eq (s : BitVec 32) (c : Int) : bits .xor .u32 (u32 (tabN (ix s c))) (u32 s / 256) = u32 (crcStep s c) := by
  rw [u32_byte, bits_xor_u32, crcStep]
end Go.Proofs.YtldeoaddogifpaaGreatDoor
