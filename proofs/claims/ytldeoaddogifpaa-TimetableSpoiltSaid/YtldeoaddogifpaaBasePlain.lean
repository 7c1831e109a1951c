/-
  The plain function of pairingbase.Timetable.
  No condition.
-/
import Derived.Test.YtldeoaddogifpaaBaseAt
namespace Go.Proofs.Ytldeoaddogifpaa
set_option linter.unusedSimpArgs false
set_option linter.unusedVariables false
open Go

def baseGaps : List Int := [30, 45, 45, 60, 90, 150, 600, 780]
def baseTypes : List ByteArray := [⟨#[97, 51, 50, 48]⟩, ⟨#[98, 55, 51, 55]⟩, ⟨#[101, 49, 57, 48]⟩]
def noStr : ByteArray := ⟨#[]⟩
def bAt (n cur : Int) : Int := if n % 7 = 6 then 0 else cur
def bTo (n cur : Int) : Int := if cur = 0 then 1 + n / 8 % 2 else if n % 11 = 10 then 3 - cur else 0
def bDep (n clock : Int) : Int := clock + baseGaps.getD (n / 16 % 8).toNat 0
def bArr (n dep : Int) : Int := dep + 60 + 15 * (n / 128 % 6)
def bKind (n : Int) : ByteArray := baseTypes.getD (n / 1024 % 3).toNat noStr
def bNum (i : Nat) : ByteArray := ⟨#[70, UInt8.ofNat (48 + i)]⟩
def bCode (k : Int) : ByteArray := baseCodes.getD k.toNat noStr
def bFlight (n cur clock : Int) (i : Nat) : GFlight := ⟨bNum i, bCode (bAt n cur), bCode (bTo n (bAt n cur)), bDep n clock, bArr n (bDep n clock), bKind n, 1, 1, 2⟩
def bClock (n clock : Int) : Int := if n % 5 = 4 then bDep n clock + 20 else bArr n (bDep n clock)
/-- Where, when, and the flights so far. -/
def bSt (l : List Int) : Nat → Int × Int × List GFlight
  | 0 => (0, 1440000 + 15 * (atL l 0 % 96), [])
  | i + 1 => (bTo (atL l (2 + i)) (bAt (atL l (2 + i)) (bSt l i).1), bClock (atL l (2 + i)) (bSt l i).2.1, (bSt l i).2.2 ++ [bFlight (atL l (2 + i)) (bSt l i).1 (bSt l i).2.1 i])
def bCount (l : List Int) : Nat := (2 + atL l 1 % 6).toNat
def baseTT (l : List Int) : GTT := ⟨baseZones, baseAirports, (bSt l (bCount l)).2.2⟩
theorem bCount_range (l : List Int) : 2 ≤ bCount l ∧ bCount l ≤ 7 := by unfold bCount; omega
theorem gaps_range (k : Nat) (h : k < 8) : 30 ≤ baseGaps.getD k 0 ∧ baseGaps.getD k 0 ≤ 780 := by
  have : ∀ k : Nat, k < 8 → 30 ≤ baseGaps.getD k 0 ∧ baseGaps.getD k 0 ≤ 780 := by decide
  exact this k h
theorem bDep_range (n clock : Int) : clock + 30 ≤ bDep n clock ∧ bDep n clock ≤ clock + 780 := by
  unfold bDep
  have := gaps_range (n / 16 % 8).toNat (by omega)
  omega
theorem bArr_range (n dep : Int) : dep + 60 ≤ bArr n dep ∧ bArr n dep ≤ dep + 135 := by unfold bArr; omega
theorem bAt_range {n cur : Int} (h : 0 ≤ cur ∧ cur ≤ 2) : 0 ≤ bAt n cur ∧ bAt n cur ≤ 2 := by unfold bAt; split <;> omega
theorem bTo_range {n cur : Int} (h : 0 ≤ cur ∧ cur ≤ 2) : 0 ≤ bTo n cur ∧ bTo n cur ≤ 2 := by unfold bTo; split <;> (try split) <;> omega
theorem bClock_range (n clock : Int) : clock + 50 ≤ bClock n clock ∧ bClock n clock ≤ clock + 915 := by
  have h1 := bDep_range n clock
  have h2 := bArr_range n (bDep n clock)
  unfold bClock
  split <;> omega
theorem bSt_range (l : List Int) : ∀ i, (0 ≤ (bSt l i).1 ∧ (bSt l i).1 ≤ 2) ∧ 1440000 ≤ (bSt l i).2.1 ∧ (bSt l i).2.1 ≤ 1441425 + 915 * i ∧ (bSt l i).2.2.length = i
  | 0 => by simp only [bSt]; simp; omega
  | i + 1 => by
    have h := bSt_range l i
    simp only [bSt]
    have h1 := bTo_range (n := atL l (2 + i)) (bAt_range (n := atL l (2 + i)) h.1)
    have h2 := bClock_range (atL l (2 + i)) (bSt l i).2.1
    refine ⟨h1, by omega, by omega, ?_⟩
    rw [List.length_append, h.2.2.2]
    rfl
end Go.Proofs.Ytldeoaddogifpaa
