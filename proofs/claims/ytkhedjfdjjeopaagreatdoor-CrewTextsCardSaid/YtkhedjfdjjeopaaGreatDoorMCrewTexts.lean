/-
  Joined texts: FmtPlain; Fmt; Fmt2; FmtRef; FmtRef2; Builder; Builder2; TextOut; CrewText; CrewText2; CrewFormat; CrewFormatR; LawCrewParses; LawCrewTexts; CardCrewTexts. What each proves stands ahead of it, with its conditions.
-/
import Derived.Test.YtkhedjfdjjeopaaGreatDoorMB
import Derived.Test.YtkhedjfdjjeopaaGreatDoorMA
import Derived.Test.YtkhedjfdjjeopaaGreatDoorRegion
import Derived.Test.YtkhedjfdjjeopaaGreatDoorShelf
import Derived.Test.YtkhedjfdjjeopaaGreatDoorWriter
import Derived.Test.YtkhedjfdjjeopaaGreatDoorCrc
import Derived.Laws.Externs
import Derived.OwnWalk
import Derived.Test.YtkhedjfdjjeopaaGreatDoorReader
import Derived.Test.YtkhedjfdjjeopaaGreatDoorTextPlain
import Derived.Test.YtkhedjfdjjeopaaGreatDoorMC
import Derived.Test.YtkhedjfdjjeopaaGreatDoorCrewBody
import Derived.Test.YtkhedjfdjjeopaaGreatDoorMG
import Derived.StillTail
import Derived.StillTailTactics
import Derived.Test.YtkhedjfdjjeopaaGreatDoorCrewVR
import Derived.Test.YtkhedjfdjjeopaaGreatDoorMF
import Derived.Stop.LaidErr
/-
  Plain texts of dates, clock times and instants; that an instant is read back from its text; that a day has one date.
  No condition.
-/
namespace Go.Proofs.YtkhedjfdjjeopaaGreatDoor
set_option linter.unusedSimpArgs false
set_option linter.unusedVariables false
open Go

def zS : ByteArray := ⟨#[48]⟩
def dashS : ByteArray := ⟨#[45]⟩
def colS : ByteArray := ⟨#[58]⟩
def blankS : ByteArray := ⟨#[32]⟩
/-- The decimal text of a number. -/
def numS (n : Int) : ByteArray := bs (Lib.itoa n)
/-- A number with at least d digits (one is added at most). -/
def padB (n : Int) (d : Nat) : ByteArray := if (numS n).size < d then zS ++ numS n else numS n
def fmtDate (y m d : Int) : ByteArray := padB y 4 ++ dashS ++ padB m 2 ++ dashS ++ padB d 2
def fmtClock (c : Int) : ByteArray := padB (c / 60) 2 ++ colS ++ padB (c % 60) 2
def dgt (n : Nat) : UInt8 := UInt8.ofNat (48 + n)
theorem bs_app (a b : List UInt8) : bs a ++ bs b = bs (a ++ b) := by
  have : (bs a ++ bs b).data.toList = (bs (a ++ b)).data.toList := by
    rw [ByteArray.data_append, Array.toList_append]; rfl
  rw [← bs_of (bs a ++ bs b), this]
  rfl
theorem numS_one {n : Nat} (h : n < 10) : numS n = bs [dgt n] := by
  unfold numS
  rw [Lib.itoa, if_neg (by omega), Int.toNat_natCast, Lib.decDigits_one h]
  rfl
theorem numS_two {n : Nat} (h1 : ¬ n < 10) (h2 : n < 100) : numS n = bs [dgt (n / 10), dgt (n % 10)] := by
  unfold numS
  rw [Lib.itoa, if_neg (by omega), Int.toNat_natCast, Lib.decDigits_two h1 h2]
  rfl
theorem numS_four {n : Nat} (h1 : 1000 ≤ n) (h2 : n < 10000) : numS n = bs [dgt (n / 1000), dgt (n / 100 % 10), dgt (n / 10 % 10), dgt (n % 10)] := by
  unfold numS
  have e1 : Lib.decDigits n = Lib.decDigits (n / 10) ++ [UInt8.ofNat (48 + n % 10)] := by rw [Lib.decDigits, dif_neg (by omega)]
  have e2 : Lib.decDigits (n / 10) = Lib.decDigits (n / 10 / 10) ++ [UInt8.ofNat (48 + n / 10 % 10)] := by rw [Lib.decDigits, dif_neg (by omega)]
  rw [Lib.itoa, if_neg (by omega), Int.toNat_natCast, e1, e2, Lib.decDigits_two (by omega) (by omega)]
  have a1 : n / 10 / 10 / 10 = n / 1000 := by omega
  have a2 : n / 10 / 10 % 10 = n / 100 % 10 := by omega
  rw [a1, a2]
  rfl
theorem pad2 {n : Nat} (h : n < 100) : padB n 2 = bs [dgt (n / 10), dgt (n % 10)] := by
  unfold padB
  by_cases h1 : n < 10
  · rw [numS_one h1, if_pos (by rw [bs_size]; simp)]
    have e1 : n / 10 = 0 := by omega
    have e2 : n % 10 = n := by omega
    rw [e1, e2]
    exact bs_app [48] [dgt n]
  · rw [numS_two h1 h, if_neg (by rw [bs_size]; simp)]
theorem pad4 {n : Nat} (h1 : 1000 ≤ n) (h2 : n < 10000) : padB n 4 = bs [dgt (n / 1000), dgt (n / 100 % 10), dgt (n / 10 % 10), dgt (n % 10)] := by
  unfold padB
  rw [numS_four h1 h2, if_neg (by rw [bs_size]; simp)]
theorem dgt_nat {n : Nat} (h : n < 10) : (dgt n).toNat = 48 + n := by
  unfold dgt
  rw [UInt8.toNat_ofNat']; omega
/-- The sixteen bytes of an instant. -/
def insL (y m d h i : Nat) : List UInt8 := [dgt (y / 1000), dgt (y / 100 % 10), dgt (y / 10 % 10), dgt (y % 10), 45, dgt (m / 10), dgt (m % 10), 45, dgt (d / 10), dgt (d % 10), 32, dgt (h / 10), dgt (h % 10), 58, dgt (i / 10), dgt (i % 10)]
theorem fmt_bytes {y m d h i : Nat} (hy : 1000 ≤ y) (hy2 : y < 10000) (hm : m < 100) (hd : d < 100) (hh : h < 100) (hi : i < 60) : fmtDate y m d ++ blankS ++ fmtClock (60 * h + i) = bs (insL y m d h i) := by
  unfold fmtDate fmtClock
  have e1 : (60 * (h : Int) + i) / 60 = (h : Nat) := by omega
  have e2 : (60 * (h : Int) + i) % 60 = (i : Nat) := by omega
  rw [e1, e2, pad4 hy hy2, pad2 hm, pad2 hd, pad2 hh, pad2 (by omega)]
  show bs _ ++ bs [45] ++ bs _ ++ bs [45] ++ bs _ ++ bs [32] ++ (bs _ ++ bs [58] ++ bs _) = _
  simp only [bs_app]
  rfl
section
variable {y m d h i : Nat}
theorem byteAt_dgt {s : ByteArray} {k n : Nat} (e : s.data.toList.getD k 0 = dgt n) (hn : n < 10) : byteAt s k = 48 + n := by
  unfold byteAt
  rw [e, dgt_nat hn]
  omega
theorem digAt_dgt {s : ByteArray} {k n : Nat} (e : s.data.toList.getD k 0 = dgt n) (hn : n < 10) : digAt s k = true := by
  unfold digAt numberI
  rw [byteAt_dgt e hn]
  simp
  omega
theorem sub_two {s : ByteArray} {a b n : Nat} (hb : b = a + 2) (hs : b ≤ s.size) (e0 : byteAt s a = 48 + (n / 10 : Nat)) (e1 : byteAt s (a + 1) = 48 + (n % 10 : Nat)) : subN s a b = n := by
  subst hb
  unfold subN
  rw [size_sub hs]
  have : a + 2 - a = 2 := by omega
  rw [this]
  show 10 * (10 * 0 + (byteAt (s.extract a (a + 2)) 0 - 48)) + (byteAt (s.extract a (a + 2)) 1 - 48) = _
  rw [byteAt_extract _ _ _ _ (by omega), byteAt_extract _ _ _ _ (by omega), Nat.add_zero, e0, e1]
  omega
theorem sub_four {s : ByteArray} {n : Nat} (hs : 4 ≤ s.size) (e0 : byteAt s 0 = 48 + (n / 1000 : Nat)) (e1 : byteAt s 1 = 48 + (n / 100 % 10 : Nat)) (e2 : byteAt s 2 = 48 + (n / 10 % 10 : Nat)) (e3 : byteAt s 3 = 48 + (n % 10 : Nat)) : subN s 0 4 = n := by
  unfold subN
  rw [size_sub hs]
  show 10 * (10 * (10 * (10 * 0 + (byteAt (s.extract 0 4) 0 - 48)) + (byteAt (s.extract 0 4) 1 - 48)) + (byteAt (s.extract 0 4) 2 - 48)) + (byteAt (s.extract 0 4) 3 - 48) = _
  rw [byteAt_extract _ _ _ _ (by omega), byteAt_extract _ _ _ _ (by omega), byteAt_extract _ _ _ _ (by omega), byteAt_extract _ _ _ _ (by omega)]
  simp only [Nat.zero_add]
  rw [e0, e1, e2, e3]
  omega
theorem ins_match (hy2 : y < 10000) (hm : m < 100) (hd : d < 100) (hh : h < 100) (hi : i < 100) : matchB (bs (insL y m d h i)) patI = true := by
  unfold matchB
  have hz : (bs (insL y m d h i)).size = 16 := bs_size _
  rw [hz]
  rw [Bool.and_eq_true]
  refine ⟨by decide, ?_⟩
  rw [allTo_iff]
  intro k hk
  have hk' : k = 0 ∨ k = 1 ∨ k = 2 ∨ k = 3 ∨ k = 4 ∨ k = 5 ∨ k = 6 ∨ k = 7 ∨ k = 8 ∨ k = 9 ∨ k = 10 ∨ k = 11 ∨ k = 12 ∨ k = 13 ∨ k = 14 ∨ k = 15 := by omega
  unfold mAt
  rcases hk' with rfl | rfl | rfl | rfl | rfl | rfl | rfl | rfl | rfl | rfl | rfl | rfl | rfl | rfl | rfl | rfl
  all_goals first
    | (rw [if_neg (by decide)]; rfl)
    | (rw [if_pos (by decide)]; exact digAt_dgt (n := _) rfl (by omega))
theorem ins_parts (s : ByteArray) (hs : s = bs (insL y m d h i)) (hy2 : y < 10000) (hm : m < 100) (hd : d < 100) (hh : h < 100) (hi : i < 100) :
    s.size = 16 ∧ matchB s patI = true ∧ matchB (s.extract 0 10) patD = true ∧ matchB (s.extract 11 s.size) patC = true ∧
    subN (s.extract 0 10) 0 4 = y ∧ subN (s.extract 0 10) 5 7 = m ∧ subN (s.extract 0 10) 8 (s.extract 0 10).size = d ∧ subN (s.extract 11 s.size) 0 2 = h ∧ subN (s.extract 11 s.size) 3 (s.extract 11 s.size).size = i := by
  have hz : s.size = 16 := by rw [hs]; exact bs_size _
  have hM : matchB s patI = true := by rw [hs]; exact ins_match hy2 hm hd hh hi
  have hM2 := hM
  rw [matchI_iff] at hM2
  simp only [Bool.and_eq_true, decide_eq_true_eq] at hM2
  obtain ⟨-, ⟨-, hD⟩, hC⟩ := hM2
  have z1 : (s.extract 0 10).size = 10 := size_sub (by omega)
  have z2 : (s.extract 11 s.size).size = 5 := by rw [size_sub (Nat.le_refl _)]; omega
  have bd : ∀ k n, s.data.toList.getD k 0 = dgt n → n < 10 → k < 10 → byteAt (s.extract 0 10) k = 48 + n := fun k n e hn hk => by
    rw [byteAt_extract _ _ _ _ (by omega), Nat.zero_add]; exact byteAt_dgt e hn
  have bc : ∀ k n, s.data.toList.getD (11 + k) 0 = dgt n → n < 10 → 11 + k < 16 → byteAt (s.extract 11 s.size) k = 48 + n := fun k n e hn hk => by
    rw [byteAt_extract _ _ _ _ (by omega)]; exact byteAt_dgt e hn
  refine ⟨hz, hM, hD, hC, ?_, ?_, ?_, ?_, ?_⟩
  · exact sub_four (by omega) (bd 0 _ (by rw [hs]; rfl) (by omega) (by omega)) (bd 1 _ (by rw [hs]; rfl) (by omega) (by omega)) (bd 2 _ (by rw [hs]; rfl) (by omega) (by omega)) (bd 3 _ (by rw [hs]; rfl) (by omega) (by omega))
  · exact sub_two (by omega) (by omega) (bd 5 _ (by rw [hs]; rfl) (by omega) (by omega)) (bd 6 _ (by rw [hs]; rfl) (by omega) (by omega))
  · exact sub_two (by omega) (by omega) (bd 8 _ (by rw [hs]; rfl) (by omega) (by omega)) (bd 9 _ (by rw [hs]; rfl) (by omega) (by omega))
  · exact sub_two (by omega) (by omega) (bc 0 _ (by rw [hs]; rfl) (by omega) (by omega)) (bc 1 _ (by rw [hs]; rfl) (by omega) (by omega))
  · exact sub_two (by omega) (by omega) (bc 3 _ (by rw [hs]; rfl) (by omega) (by omega)) (bc 4 _ (by rw [hs]; rfl) (by omega) (by omega))
theorem ins_back (hv : validB y m d = true) (hh : h < 24) (hi : i < 60) (h0 : 0 ≤ dayB y m d * 1440 + (h * 60 + i)) (h1 : dayB y m d * 1440 + (h * 60 + i) < 52596000) : insB (bs (insL y m d h i)) = (dayB y m d * 1440 + (h * 60 + i), 0) := by
  obtain ⟨v1, v2, v3, v4⟩ := validB_iff.1 hv
  have v5 := mDays_bd y m
  obtain ⟨hz, p1, p2, p3, p4, p5, p6, p7, p8⟩ := ins_parts (y := y) (m := m) (d := d) (h := h) (i := i) _ rfl (by omega) (by omega) (by omega) (by omega) (by omega)
  generalize bs (insL y m d h i) = s at *
  have eD : dateB (s.extract 0 10) = (((y : Int), (m : Int), (d : Int)), (0 : Int)) := by
    unfold dateB
    rw [p2, p4, p5, p6, hv]
    rfl
  have eC : clockB (s.extract 11 s.size) = ((h : Int) * 60 + (i : Int), (0 : Int)) := by
    unfold clockB
    rw [p3, p7, p8, if_neg (by simp), if_neg (by omega)]
  unfold insB
  rw [p1, eD, eC, if_neg (by simp), if_neg (by simp), if_neg (by simp)]
  dsimp only
  rw [if_neg (by omega)]
end
/-- A year's months are its days. -/
theorem monSum_year (y : Int) : monSum y 12 = yDays y := by
  have e : monSum y 12 = 337 + mDays y 2 := by
    show sumTo _ 12 = _
    simp only [sumTo]
    have f : ∀ k : Nat, k ≠ 1 → mDays y (1 + (k : Int)) = mTab.getD k 0 := fun k hk => by
      unfold mDays
      rw [if_neg (by omega)]
      congr 1
      omega
    have g : mDays y (1 + ((1 : Nat) : Int)) = mDays y 2 := rfl
    rw [f 0 (by decide), g, f 2 (by decide), f 3 (by decide), f 4 (by decide), f 5 (by decide), f 6 (by decide), f 7 (by decide), f 8 (by decide), f 9 (by decide), f 10 (by decide), f 11 (by decide)]
    simp only [mTab, List.getD_cons_succ, List.getD_cons_zero]
    omega
  rw [e]
  unfold mDays yDays
  by_cases hl : leapB y = true
  · rw [if_pos ⟨rfl, hl⟩, if_pos hl]; rfl
  · rw [if_neg (by rintro ⟨-, h⟩; exact hl h), if_neg hl]; rfl
theorem sumTo_le {f : Nat → Int} (h : ∀ i, 0 ≤ f i) : ∀ {a b : Nat}, a ≤ b → sumTo f a ≤ sumTo f b := by
  intro a b hab
  induction b with
  | zero =>
    have : a = 0 := by omega
    rw [this]
    exact Int.le_refl _
  | succ b ih =>
    rcases Nat.lt_or_eq_of_le hab with h1 | h1
    · have := ih (by omega); have := h b; simp only [sumTo]; omega
    · rw [h1]; exact Int.le_refl _
theorem mon_lt {y m d m' d' : Int} (h1 : 1 ≤ m) (hm : m < m') (hd : d ≤ mDays y m) (hd' : 1 ≤ d') : monSum y (m - 1).toNat + d < monSum y (m' - 1).toNat + d' := by
  have e : monSum y ((m - 1).toNat + 1) = monSum y (m - 1).toNat + mDays y m := by
    show monSum y (m - 1).toNat + mDays y (1 + ((m - 1).toNat : Int)) = _
    congr 2
    omega
  have := sumTo_le (f := fun i => mDays y (1 + i)) (fun i => (mDays_bd _ _).1) (a := (m - 1).toNat + 1) (b := (m' - 1).toNat) (by omega)
  have : monSum y ((m - 1).toNat + 1) ≤ monSum y (m' - 1).toNat := this
  omega
theorem mon_le {y m d : Int} (h1 : 1 ≤ m) (h2 : m ≤ 12) (hd : d ≤ mDays y m) : monSum y (m - 1).toNat + d ≤ yDays y := by
  have e : monSum y ((m - 1).toNat + 1) = monSum y (m - 1).toNat + mDays y m := by
    show monSum y (m - 1).toNat + mDays y (1 + ((m - 1).toNat : Int)) = _
    congr 2
    omega
  have : monSum y ((m - 1).toNat + 1) ≤ monSum y 12 := sumTo_le (f := fun i => mDays y (1 + i)) (fun i => (mDays_bd _ _).1) (by omega)
  rw [monSum_year] at this
  omega
theorem year_lt {y m d y' m' d' : Int} (hv : validB y m d = true) (hv' : validB y' m' d' = true) (h : y < y') : dayB y m d < dayB y' m' d' := by
  obtain ⟨a1, a2, a3, a4⟩ := validB_iff.1 hv
  obtain ⟨b1, b2, b3, b4⟩ := validB_iff.1 hv'
  have c := mon_le a2.1 a2.2 a4
  have e : yearSum ((y - 1999).toNat + 1) = yearSum (y - 1999).toNat + yDays y := by
    show yearSum (y - 1999).toNat + yDays (1999 + ((y - 1999).toNat : Int)) = _
    congr 2
    omega
  have f : yearSum ((y - 1999).toNat + 1) ≤ yearSum (y' - 1999).toNat := sumTo_le (f := fun i => yDays (1999 + i)) (fun i => (yDays_bd _).1) (by omega)
  have g := monSum_bd y' (m' - 1).toNat
  unfold dayB
  omega
theorem dayB_inj {y m d y' m' d' : Int} (hv : validB y m d = true) (hv' : validB y' m' d' = true) (h : dayB y m d = dayB y' m' d') : y = y' ∧ m = m' ∧ d = d' := by
  have e1 : y = y' := by
    rcases Int.lt_trichotomy y y' with h1 | h1 | h1
    · have := year_lt hv hv' h1; omega
    · exact h1
    · have := year_lt hv' hv h1; omega
  subst e1
  obtain ⟨a1, a2, a3, a4⟩ := validB_iff.1 hv
  obtain ⟨b1, b2, b3, b4⟩ := validB_iff.1 hv'
  unfold dayB at h
  have e2 : m = m' := by
    rcases Int.lt_trichotomy m m' with h1 | h1 | h1
    · have := mon_lt a2.1 h1 a4 b3; omega
    · exact h1
    · have := mon_lt b2.1 h1 b4 a3; omega
  subst e2
  exact ⟨rfl, rfl, by omega⟩
/-- s is the text of the instant t. -/
def IsIns (t : Int) (s : ByteArray) : Prop := ∃ y m d, validB y m d = true ∧ dayB y m d = t / 1440 ∧ s = fmtDate y m d ++ blankS ++ fmtClock (t % 1440)
theorem IsIns.eq {t : Int} {s s' : ByteArray} (h : IsIns t s) (h' : IsIns t s') : s = s' := by
  obtain ⟨y, m, d, a1, a2, rfl⟩ := h
  obtain ⟨y', m', d', b1, b2, rfl⟩ := h'
  obtain ⟨rfl, rfl, rfl⟩ := dayB_inj a1 b1 (a2.trans b2.symm)
  rfl
theorem IsIns.bytes {t : Int} {s : ByteArray} (h : IsIns t s) : ∃ y m d hh i : Nat, (1999 ≤ y ∧ y ≤ 2100) ∧ (1 ≤ m ∧ m ≤ 12) ∧ (1 ≤ d ∧ d ≤ 31) ∧ hh < 24 ∧ i < 60 ∧ s = bs (insL y m d hh i) ∧ validB y m d = true ∧ dayB y m d * 1440 + (hh * 60 + i) = t := by
  obtain ⟨y, m, d, hv, hd, rfl⟩ := h
  obtain ⟨a1, a2, a3, a4⟩ := validB_iff.1 hv
  have a5 := mDays_bd y m
  refine ⟨y.toNat, m.toNat, d.toNat, (t % 1440 / 60).toNat, (t % 1440 % 60).toNat, by omega, by omega, by omega, by omega, by omega, ?_, ?_, ?_⟩
  · have e := fmt_bytes (y := y.toNat) (m := m.toNat) (d := d.toNat) (h := (t % 1440 / 60).toNat) (i := (t % 1440 % 60).toNat) (by omega) (by omega) (by omega) (by omega) (by omega) (by omega)
    rw [← e]
    have c1 : ((y.toNat : Nat) : Int) = y := by omega
    have c2 : ((m.toNat : Nat) : Int) = m := by omega
    have c3 : ((d.toNat : Nat) : Int) = d := by omega
    have c4 : 60 * (((t % 1440 / 60).toNat : Nat) : Int) + (((t % 1440 % 60).toNat : Nat) : Int) = t % 1440 := by omega
    rw [c1, c2, c3, c4]
  · have c1 : ((y.toNat : Nat) : Int) = y := by omega
    have c2 : ((m.toNat : Nat) : Int) = m := by omega
    have c3 : ((d.toNat : Nat) : Int) = d := by omega
    rw [c1, c2, c3]; exact hv
  · have c1 : ((y.toNat : Nat) : Int) = y := by omega
    have c2 : ((m.toNat : Nat) : Int) = m := by omega
    have c3 : ((d.toNat : Nat) : Int) = d := by omega
    rw [c1, c2, c3, hd]; omega
theorem IsIns.back {t : Int} {s : ByteArray} (h : IsIns t s) (h0 : 0 ≤ t) (h1 : t < 52596000) : insB s = (t, 0) := by
  obtain ⟨y, m, d, hh, i, -, -, -, b1, b2, rfl, hv, e⟩ := h.bytes
  rw [ins_back hv b1 b2 (by omega) (by omega), e]
end Go.Proofs.YtkhedjfdjjeopaaGreatDoor
/-
  Contracts of calendar.padded, SplitMinute, DateOf.
  Condition: the numbers are small and not negative; the table of powers of ten is laid.
-/
namespace Go.Proofs.YtkhedjfdjjeopaaGreatDoor
set_option linter.unusedSimpArgs false
set_option linter.unusedVariables false
open Go.RowKit

def StrB (s : ByteArray) (w : World) (e : Ending) (w' : World) : Prop := e = .returned (.string s) ∧ Below w.heap.size w w'
theorem numS_size {n : Int} (h0 : 0 ≤ n) (h1 : n ≤ 9999) : 1 ≤ (numS n).size ∧ (numS n).size ≤ 21 := by
  unfold numS
  rw [bs_size]
  rw [Lib.itoa, if_neg (by omega)]
  refine ⟨dec_pos _, ?_⟩
  have := (nDigits_ten n.toNat).2 (by omega)
  rw [Lib.decDigits_length]
  omega
set_option maxRecDepth 100000 in
set_option maxHeartbeats 800000 in
theorem padded_any (n d : Int) (w : World) (h0 : 0 ≤ n) (h1 : n ≤ 9999) (hd : d ≤ ((numS n).size : Int) + 1) (hd0 : 0 ≤ d) (hp : Pow10 w) :
    Calls Tryz.prog 115 #[.int .i64 n, .int .i64 d] w (StrB (padB n d.toNat) w) := by
  have HF : Hid (Calls Tryz.prog 35 #[.int .i64 n] w fun e w' => e = .returned (.string (numS n)) ∧ Below w.heap.size w w') := formatInt_any n w (by omega) (by omega) hp
  have hz := numS_size h0 h1
  have HP : Hid (padB n d.toNat = if (numS n).size < d.toNat then zS ++ numS n else numS n) := rfl
  generalize numS n = s at *
  go_enter Tryz.func115, Tryz.ntmps115
  go_wp2_with fail
  refine HF.out.mono ?_
  rintro e w1 ⟨rfl, hb1⟩
  by_cases hlt : (s.size : Int) < d
  · have HR : Hid (padB n d.toNat = zS ++ s) := by show _ = _; rw [HP.out, if_pos (by omega)]
    have q1 : d - (s.size : Int) = 1 := by omega
    have q2 : IntKind.i64.wrap (d - (s.size : Int)) = 1 := by rw [q1]; decide
    have q3 : ¬ 9223372036854775807 < 1 + s.size := by omega
    have HRO : Hid (Calls Tryz.prog 140 #[.string ⟨#[48]⟩, .int .i64 1] w1 fun e w' => e = .returned (.string ⟨#[48]⟩) ∧ w' = w1) := Tryz.strings_Repeat_one ⟨#[48]⟩ w1
    clear q1
    go_wp2_with fail
    refine HRO.out.mono ?_
    rintro e w' ⟨rfl, rfl⟩
    go_wp2_with fail
    go_ret
    exact ⟨by rw [HR.out]; rfl, hb1⟩
  · have HR : Hid (padB n d.toNat = s) := by show _ = _; rw [HP.out, if_neg (by omega)]
    go_wp2_with fail
    go_ret
    exact ⟨by rw [HR.out]; rfl, hb1⟩
theorem splitMinute_any (t : Int) (w : World) (h0 : 0 ≤ t) (h1 : t < 52596000) : Calls Tryz.prog 76 #[.int .i64 t] w fun e w' => e = .returned (.tuple #[.int .i64 (t / 1440), .int .i64 (t % 1440)]) ∧ w = w' := by
  have q1 : t.tdiv 1440 = t / 1440 := Int.tdiv_eq_ediv_of_nonneg h0
  have q2 : t.tmod 1440 = t % 1440 := Int.tmod_eq_emod_of_nonneg h0
  have q3 : IntKind.i64.wrap (t / 1440) = t / 1440 := IntWalk.i64_in _ (by omega)
  have q4 : IntKind.i64.wrap (t % 1440) = t % 1440 := IntWalk.i64_in _ (by omega)
  have q5 : ¬ t % 1440 < 0 := by omega
  go_enter Tryz.func76, Tryz.ntmps76
  go_wp2_with fail
  go_ret2
  exact ⟨rfl, rfl⟩
theorem yearSum_last : yearSum 102 = 37255 := by decide +kernel
/-- The date of a day is handed back. -/
def DayPost (day : Int) (w : World) (e : Ending) (w' : World) : Prop := ∃ y m d : Int, e = .returned (.tuple #[.agg #[.int .i64 y, .int .i64 m, .int .i64 d], .int .i64 0]) ∧ validB y m d = true ∧ dayB y m d = day ∧ Below w.heap.size w w'
set_option maxRecDepth 100000 in
set_option maxHeartbeats 1600000 in
theorem dateOf_any (day : Int) (w : World) (h0 : 0 ≤ day) (h1 : day ≤ 36889) : Calls Tryz.prog 77 #[.int .i64 day] w (DayPost day w) := by
  have hb0 := (Below.refl w.heap.size w).alloc (Nat.le_refl _) (.cells #[.int .i64 0, .int .i64 0, .int .i64 0] 134)
  have hr0 := heap_alloc_new w (.cells #[.int .i64 0, .int .i64 0, .int .i64 0] 134)
  have hz0 : w.heap.size < (w.alloc (.cells #[.int .i64 0, .int .i64 0, .int .i64 0] 134)).heap.size := by simp
  have HB0 := Lib.hid hb0; have HR0 := Lib.hid hr0; have HZ0 := Lib.hid hz0
  clear hb0 hr0 hz0
  have c1 : ¬ day < -365 := by omega
  have c2 : ¬ (36889 : Int) < day := by omega
  have c3 : IntKind.i64.wrap (day - -365) = day + 365 := by rw [Int.sub_neg]; exact IntWalk.i64_in _ (by omega)
  go_enter Tryz.func77, Tryz.ntmps77
  go_wp2_with fail
  generalize w.alloc (.cells #[.int .i64 0, .int .i64 0, .int .i64 0] 134) = W at *
  go_loop [4, 5] (fun r y => ∃ k : Nat, k ≤ 101 ∧ r = .int .i64 (day + 365 - yearSum k) ∧ y = .int .i64 (1999 + k) ∧ 0 ≤ day + 365 - yearSum k) (fun _ y => 2200 - (intOf y).toNat)
  case atStart => exact ⟨0, by omega, by simp [yearSum, sumTo], rfl, by simp [yearSum, sumTo]; omega⟩
  case round =>
    obtain ⟨k, hk, rfl, rfl, hr⟩ := hrel
    have HY : Hid (Calls Tryz.prog 112 #[.int .i64 (1999 + k)] W fun e w' => e = .returned (.int .i64 (yDays (1999 + k))) ∧ W = w') := yearDays_any (1999 + k) W (by omega) (by omega)
    have HS : Hid (yearSum (k + 1) = yearSum k + yDays (1999 + k)) := rfl
    have hbs := yearSum_bd k
    have hyd := yDays_bd (1999 + k)
    by_cases hge : yDays (1999 + k) ≤ day + 365 - yearSum k
    · have hk2 : k < 101 := by
        rcases Nat.lt_or_ge k 101 with h | h
        · exact h
        · exfalso
          have e : k = 101 := by omega
          subst e
          have := HS.out
          rw [yearSum_last] at this
          omega
      have q1 : IntKind.i64.wrap (day + 365 - yearSum k - yDays (1999 + k)) = day + 365 - yearSum k - yDays (1999 + k) := IntWalk.i64_in _ (by omega)
      have q2 : IntKind.i64.wrap (1999 + (k : Int) + 1) = 1999 + (k : Int) + 1 := IntWalk.i64_in _ (by omega)
      have HE : Hid (day + 365 - yearSum k - yDays (1999 + k) = day + 365 - yearSum (k + 1)) := by show _ = _; rw [HS.out]; omega
      generalize yDays (1999 + k) = yd at *
      generalize hys : yearSum k = ys at *
      go_wp2_with fail
      refine HY.out.mono ?_
      rintro e w' ⟨rfl, rfl⟩
      go_wp2_with fail
      refine HY.out.mono ?_
      rintro e w' ⟨rfl, rfl⟩
      go_wp2_with fail
      go_round
      case rel => exact ⟨k + 1, by omega, by rw [HE.out], by go_num, by rw [← HE.out]; omega⟩
      case measure => simp [intOf]; omega
    · have hlt : day + 365 - yearSum k < yDays (1999 + k) := by omega
      have HYV : Hid (yDays (1999 + k) = monSum (1999 + k) 12) := (monSum_year _).symm
      have HDB : Hid (∀ (j : Nat) (d : Int), 1999 ≤ 1999 + (k : Int) → dayB (1999 + k) (1 + j) d = -365 + yearSum k + monSum (1999 + k) j + d - 1) := fun j d _ => by
        unfold dayB
        have e1 : (1999 + (k : Int) - 1999).toNat = k := by omega
        have e2 : (1 + (j : Int) - 1).toNat = j := by omega
        rw [e1, e2]
      have HVB : Hid (∀ (j : Nat) (d : Int), j ≤ 11 → 1 ≤ d → d ≤ mDays (1999 + k) (1 + j) → validB (1999 + k) (1 + j) d = true) := fun j d hj a b => validB_iff.2 ⟨⟨by omega, by omega⟩, ⟨by omega, by omega⟩, a, b⟩
      have hyb : 0 ≤ (1999 : Int) + k ∧ (1999 : Int) + k ≤ 100000 := by omega
      generalize hyd2 : yDays (1999 + k) = yd at *
      obtain ⟨ys, hys⟩ : ∃ ys, yearSum k = ys := ⟨_, rfl⟩
      rw [hys] at hr hlt hbs HDB hge ⊢
      obtain ⟨yy, hyy⟩ : ∃ yy : Int, 1999 + (k : Int) = yy := ⟨_, rfl⟩
      rw [hyy] at HDB HVB HY HYV hyb ⊢
      clear hys hyd2 hge HS
      go_wp2_with fail
      refine HY.out.mono ?_
      rintro e w' ⟨rfl, rfl⟩
      clear HY
      go_wp2_with fail
      go_loopw [4, 6] (fun r m wr => ∃ j : Nat, j ≤ 11 ∧ r = .int .i64 (day + 365 - ys - monSum yy j) ∧ m = .int .i64 (1 + j) ∧ 0 ≤ day + 365 - ys - monSum yy j ∧ Below W.heap.size W wr) (fun _ m _ => 100 - (intOf m).toNat)
      case atStart => exact ⟨0, by omega, by simp [monSum, sumTo], rfl, by simp [monSum, sumTo]; omega, Below.refl _ _⟩
      case round =>
        obtain ⟨j, hj, rfl, rfl, hr2, hbr⟩ := hrel
        have HM : Hid (∀ V : World, Calls Tryz.prog 113 #[.int .i64 yy, .int .i64 (1 + j)] V (IntPost (mDays yy (1 + j)) V)) := fun V => monthDays_any yy (1 + j) V hyb.1 hyb.2 (by omega) (by omega)
        have HS : Hid (monSum yy (j + 1) = monSum yy j + mDays yy (1 + j)) := rfl
        have hmb := monSum_bd yy j
        have hmd := mDays_bd yy (1 + j)
        unfold IntPost at HM
        have HDB2 := Lib.hid (HDB.out j (day + 365 - ys - monSum yy j + 1) (by omega))
        have HVB2 := Lib.hid (HVB.out j (day + 365 - ys - monSum yy j + 1) hj)
        by_cases hge : mDays yy (1 + j) ≤ day + 365 - ys - monSum yy j
        · have hj2 : j < 11 := by
            rcases Nat.lt_or_ge j 11 with h | h
            · exact h
            · exfalso
              have e : j = 11 := by omega
              subst e
              have h9 := HS.out
              have h8 := HYV.out
              rw [h9] at h8
              omega
          have q1 : IntKind.i64.wrap (day + 365 - ys - monSum yy j - mDays yy (1 + j)) = day + 365 - ys - monSum yy j - mDays yy (1 + j) := IntWalk.i64_in _ (by omega)
          have q2 : IntKind.i64.wrap (1 + (j : Int) + 1) = 1 + (j : Int) + 1 := IntWalk.i64_in _ (by omega)
          have HE : Hid (day + 365 - ys - monSum yy j - mDays yy (1 + j) = day + 365 - ys - monSum yy (j + 1)) := by show _ = _; rw [HS.out]; omega
          generalize mDays yy (1 + j) = md at *
          generalize hms : monSum yy j = ms at *
          go_wp2_with fail
          refine (HM.out _).mono ?_
          rintro e w3 ⟨rfl, hb3⟩
          go_wp2_with fail
          refine (HM.out _).mono ?_
          rintro e w4 ⟨rfl, hb4⟩
          have HB4 : Hid (Below W.heap.size W w4) := hbr.trans ((hb3.trans (hb4.mono hb3.size)).mono hbr.size)
          clear hb3 hb4
          go_wp2_with fail
          go_roundw
          case rel => exact ⟨j + 1, by omega, by rw [HE.out], by go_num, by rw [← HE.out]; omega, HB4.out⟩
          case measure => simp [intOf]; omega
        · have q1 : IntKind.i64.wrap (day + 365 - ys - monSum yy j + 1) = day + 365 - ys - monSum yy j + 1 := IntWalk.i64_in _ (by omega)
          have hlt2 : day + 365 - ys - monSum yy j < mDays yy (1 + j) := by omega
          have HV3 : Hid (validB yy (1 + j) (day + 365 - ys - monSum yy j + 1) = true) := HVB2.out (by omega) (by omega)
          have HD3 : Hid (dayB yy (1 + j) (day + 365 - ys - monSum yy j + 1) = day) := by show _ = _; rw [HDB2.out]; omega
          clear HVB HDB HVB2 HDB2 HYV HS
          generalize mDays yy (1 + j) = md at *
          generalize hms : monSum yy j = ms at *
          obtain ⟨dd, hdd⟩ : ∃ dd : Int, day + 365 - ys - ms + 1 = dd := ⟨_, rfl⟩
          rw [hdd] at q1 HV3 HD3
          clear hms hge
          go_wp2_with fail
          refine (HM.out _).mono ?_
          rintro e w3 ⟨rfl, hb3⟩
          have hb5 : Below W.heap.size W w3 := hbr.trans (hb3.mono hbr.size)
          have hbw : Below w.heap.size w w3 := HB0.out.trans (hb5.mono HB0.out.size)
          have hr3 := (hb5.block w.heap.size HZ0.out).trans HR0.out
          have z0 := block_cell hr3 0; have z1 := block_cell hr3 1; have z2 := block_cell hr3 2
          have f0 := block_free hr3 0; have f1 := block_free hr3 1; have f2 := block_free hr3 2
          clear hr3 hb3 hb5
          go_wp2_with fail
          refine bodyPost_ret (v := .tuple #[.agg #[.int .i64 yy, .int .i64 (1 + j), .int .i64 dd], .int .i64 0]) (by simp [results, Tryz.results77, go_sem, z0, z1, z2]) rfl ?_
          exact ⟨yy, 1 + j, dd, rfl, HV3.out, HD3.out, ((hbw.setCell (Nat.le_refl _) _).setCell (Nat.le_refl _) _).setCell (Nat.le_refl _) _⟩
end Go.Proofs.YtkhedjfdjjeopaaGreatDoor
/-
  Contracts of calendar.FormatDate, FormatClock and FormatInstant.
  Condition: the date is valid, the instant lies in the calendar; the table of powers of ten is laid.
-/
namespace Go.Proofs.YtkhedjfdjjeopaaGreatDoor
set_option linter.unusedSimpArgs false
set_option linter.unusedVariables false
open Go.RowKit

def TxtB (s : ByteArray) (w : World) (e : Ending) (w' : World) : Prop := e = .returned (.tuple #[.string s, .int .i64 0]) ∧ Below w.heap.size w w'
theorem padB_size {n : Int} {d : Nat} (h0 : 0 ≤ n) (h1 : n ≤ 9999) : (padB n d).size ≤ 22 := by
  have := numS_size h0 h1
  unfold padB
  split
  · rw [ByteArray.size_append, show zS.size = 1 from rfl]; omega
  · omega
set_option maxRecDepth 100000 in
set_option maxHeartbeats 1600000 in
theorem formatDate_any (y m d : Int) (w : World) (hv : validB y m d = true) (hp : Pow10 w) : Calls Tryz.prog 78 #[.agg #[.int .i64 y, .int .i64 m, .int .i64 d]] w (TxtB (fmtDate y m d) w) := by
  obtain ⟨v1, v2, v3, v4⟩ := validB_iff.1 hv
  have v5 := mDays_bd y m
  have hb0 := (Below.refl w.heap.size w).alloc (Nat.le_refl _) (.cells #[.int .i64 y, .int .i64 m, .int .i64 d] 134)
  have hr0 := heap_alloc_new w (.cells #[.int .i64 y, .int .i64 m, .int .i64 d] 134)
  have HB0 := Lib.hid hb0; have HR0 := Lib.hid hr0
  have HPW : Hid (∀ V, Below w.heap.size w V → Pow10 V) := fun V hV => hp.next hV
  have n1 : ((numS y).size : Int) = 4 := by
    have e := numS_four (n := y.toNat) (by omega) (by omega)
    rw [show ((y.toNat : Nat) : Int) = y by omega] at e
    rw [e, bs_size]; rfl
  have n2 := numS_size (n := m) (by omega) (by omega)
  have n3 := numS_size (n := d) (by omega) (by omega)
  have HP1 : Hid (∀ V, Below w.heap.size w V → Calls Tryz.prog 115 #[.int .i64 y, .int .i64 4] V (StrB (padB y 4) V)) := fun V hV => padded_any y 4 V (by omega) (by omega) (by omega) (by omega) (HPW.out V hV)
  have HP2 : Hid (∀ V, Below w.heap.size w V → Calls Tryz.prog 115 #[.int .i64 m, .int .i64 2] V (StrB (padB m 2) V)) := fun V hV => padded_any m 2 V (by omega) (by omega) (by omega) (by omega) (HPW.out V hV)
  have HP3 : Hid (∀ V, Below w.heap.size w V → Calls Tryz.prog 115 #[.int .i64 d, .int .i64 2] V (StrB (padB d 2) V)) := fun V hV => padded_any d 2 V (by omega) (by omega) (by omega) (by omega) (HPW.out V hV)
  have s1 := padB_size (n := y) (d := 4) (by omega) (by omega)
  have s2 := padB_size (n := m) (d := 2) (by omega) (by omega)
  have s3 := padB_size (n := d) (d := 2) (by omega) (by omega)
  have HQ : Hid (fmtDate y m d = padB y 4 ++ dashS ++ padB m 2 ++ dashS ++ padB d 2) := rfl
  rw [HQ.out]
  have HV := Lib.hid hv
  generalize padB y 4 = P1 at *
  generalize padB m 2 = P2 at *
  generalize padB d 2 = P3 at *
  obtain ⟨X3, hX3⟩ : ∃ X, P1 ++ dashS = X := ⟨_, rfl⟩
  obtain ⟨X7, hX7⟩ : ∃ X, X3 ++ P2 = X := ⟨_, rfl⟩
  obtain ⟨X8, hX8⟩ : ∃ X, X7 ++ dashS = X := ⟨_, rfl⟩
  obtain ⟨X12, hX12⟩ : ∃ X, X8 ++ P3 = X := ⟨_, rfl⟩
  have t3 : X3.size ≤ 30 := by rw [← hX3, ByteArray.size_append, show dashS.size = 1 from rfl]; omega
  have t7 : X7.size ≤ 60 := by rw [← hX7, ByteArray.size_append]; omega
  have t8 : X8.size ≤ 61 := by rw [← hX8, ByteArray.size_append, show dashS.size = 1 from rfl]; omega
  rw [hX3, hX7, hX8, hX12]
  have HX3 := Lib.hid hX3; have HX7 := Lib.hid hX7; have HX8 := Lib.hid hX8; have HX12 := Lib.hid hX12
  have q1 : ¬ 9223372036854775807 < P1.size + 1 := by omega
  have q2 : ¬ 9223372036854775807 < X3.size + P2.size := by omega
  have q3 : ¬ 9223372036854775807 < X7.size + 1 := by omega
  have q4 : ¬ 9223372036854775807 < X8.size + P3.size := by omega
  clear hb0 hr0 hX3 hX7 hX8 hX12 hv HQ v1 v2 v3 v4 v5 n1 n2 n3
  go_enter Tryz.func78, Tryz.ntmps78
  go_wp2_with fail
  generalize w.alloc (.cells #[.int .i64 y, .int .i64 m, .int .i64 d] 134) = W at *
  refine (valid_any y m d W).mono ?_
  rw [HV.out]
  rintro e w1 ⟨rfl, hb1⟩
  have hWp : Below w.heap.size w w1 := HB0.out.trans (hb1.mono HB0.out.size)
  have hr1 := (hb1.block w.heap.size (Array.getElem?_eq_some_iff.1 HR0.out).1).trans HR0.out
  obtain ⟨B, hB⟩ : ∃ B, w.heap.size = B := ⟨_, rfl⟩
  rw [hB] at hr1
  have z0 := block_cell hr1 0; have z1 := block_cell hr1 1; have z2 := block_cell hr1 2
  rw [hB]
  clear hr1 hb1 hB
  go_upto_region 3 with (fail)
  refine wp_region_facts 13 [7, 8, 9, 10, 11, 12, 13, 14, 15, 16, 17, 18, 19] (fun i v _ => ([(.pointer (some ⟨B, 0, none⟩) : Value), (.int .i64 y : Value), (.string P1 : Value), (.string X3 : Value), (.pointer (some ⟨B, 1, none⟩) : Value), (.int .i64 m : Value), (.string P2 : Value), (.string X7 : Value), (.string X8 : Value), (.pointer (some ⟨B, 2, none⟩) : Value), (.int .i64 d : Value), (.string P3 : Value), (.string X12 : Value)] : List Value)[i]? = some v) (by kernel_rfl) (by kernel_rfl) (by kernel_rfl) (by kernel_rfl) (by kernel_rfl) (fun _ _ _ _ h _ => h) ?_ ?_
  · intro q o' hq ho a' w' hb' hout hpre K hK
    have hq' : q = 0 ∨ q = 1 ∨ q = 2 ∨ q = 3 ∨ q = 4 ∨ q = 5 ∨ q = 6 ∨ q = 7 ∨ q = 8 ∨ q = 9 ∨ q = 10 ∨ q = 11 ∨ q = 12 := by omega
    rcases hq' with rfl | rfl | rfl | rfl | rfl | rfl | rfl | rfl | rfl | rfl | rfl | rfl | rfl
    · obtain rfl := Option.some.inj ho
      have e1 : a'.tmps[1]? = some (.pointer (some ⟨B, 0, none⟩)) := hout 1 (by decide)
      go_simp
      exact hK (.pointer (some ⟨B, 0, none⟩)) w' rfl (Below.refl _ _)
    · obtain rfl := Option.some.inj ho
      have p0 : a'.tmps.getD 7 undef = .pointer (some ⟨B, 0, none⟩) := (Option.some.inj (hpre ⟨0, .data⟩ (by simp) 7 rfl)).symm
      simp only [Array.getD_eq_getD_getElem?] at p0
      have c0 := cell_kept z0 hb'
      go_simp
      exact hK (.int .i64 y) w' rfl (Below.refl _ _)
    · obtain rfl := Option.some.inj ho
      have p1 : a'.tmps.getD 8 undef = .int .i64 y := (Option.some.inj (hpre ⟨1, .data⟩ (by simp) 8 rfl)).symm
      simp only [Array.getD_eq_getD_getElem?] at p1
      go_simp
      go_at_call 115
      refine (HP1.out w' (hWp.trans (hb'.mono hWp.size))).mono ?_
      rintro e w'' ⟨rfl, hb''⟩
      exact hK _ _ rfl hb''
    · obtain rfl := Option.some.inj ho
      have p2 : a'.tmps.getD 9 undef = .string P1 := (Option.some.inj (hpre ⟨2, .data⟩ (by simp) 9 rfl)).symm
      simp only [Array.getD_eq_getD_getElem?] at p2
      go_simp
      exact hK _ _ (congrArg (fun x => some (Value.string x)) HX3.out.symm) (Below.refl _ _)
    · obtain rfl := Option.some.inj ho
      have e1 : a'.tmps[1]? = some (.pointer (some ⟨B, 0, none⟩)) := hout 1 (by decide)
      go_simp
      exact hK (.pointer (some ⟨B, 1, none⟩)) w' rfl (Below.refl _ _)
    · obtain rfl := Option.some.inj ho
      have p4 : a'.tmps.getD 11 undef = .pointer (some ⟨B, 1, none⟩) := (Option.some.inj (hpre ⟨4, .data⟩ (by simp) 11 rfl)).symm
      simp only [Array.getD_eq_getD_getElem?] at p4
      have c1 := cell_kept z1 hb'
      go_simp
      exact hK (.int .i64 m) w' rfl (Below.refl _ _)
    · obtain rfl := Option.some.inj ho
      have p5 : a'.tmps.getD 12 undef = .int .i64 m := (Option.some.inj (hpre ⟨5, .data⟩ (by simp) 12 rfl)).symm
      simp only [Array.getD_eq_getD_getElem?] at p5
      go_simp
      go_at_call 115
      refine (HP2.out w' (hWp.trans (hb'.mono hWp.size))).mono ?_
      rintro e w'' ⟨rfl, hb''⟩
      exact hK _ _ rfl hb''
    · obtain rfl := Option.some.inj ho
      have p3 : a'.tmps.getD 10 undef = .string X3 := (Option.some.inj (hpre ⟨3, .data⟩ (by simp) 10 rfl)).symm
      simp only [Array.getD_eq_getD_getElem?] at p3
      have p6 : a'.tmps.getD 13 undef = .string P2 := (Option.some.inj (hpre ⟨6, .data⟩ (by simp) 13 rfl)).symm
      simp only [Array.getD_eq_getD_getElem?] at p6
      go_simp
      exact hK _ _ (congrArg (fun x => some (Value.string x)) HX7.out.symm) (Below.refl _ _)
    · obtain rfl := Option.some.inj ho
      have p7 : a'.tmps.getD 14 undef = .string X7 := (Option.some.inj (hpre ⟨7, .data⟩ (by simp) 14 rfl)).symm
      simp only [Array.getD_eq_getD_getElem?] at p7
      go_simp
      exact hK _ _ (congrArg (fun x => some (Value.string x)) HX8.out.symm) (Below.refl _ _)
    · obtain rfl := Option.some.inj ho
      have e1 : a'.tmps[1]? = some (.pointer (some ⟨B, 0, none⟩)) := hout 1 (by decide)
      go_simp
      exact hK (.pointer (some ⟨B, 2, none⟩)) w' rfl (Below.refl _ _)
    · obtain rfl := Option.some.inj ho
      have p9 : a'.tmps.getD 16 undef = .pointer (some ⟨B, 2, none⟩) := (Option.some.inj (hpre ⟨9, .data⟩ (by simp) 16 rfl)).symm
      simp only [Array.getD_eq_getD_getElem?] at p9
      have c2 := cell_kept z2 hb'
      go_simp
      exact hK (.int .i64 d) w' rfl (Below.refl _ _)
    · obtain rfl := Option.some.inj ho
      have p10 : a'.tmps.getD 17 undef = .int .i64 d := (Option.some.inj (hpre ⟨10, .data⟩ (by simp) 17 rfl)).symm
      simp only [Array.getD_eq_getD_getElem?] at p10
      go_simp
      go_at_call 115
      refine (HP3.out w' (hWp.trans (hb'.mono hWp.size))).mono ?_
      rintro e w'' ⟨rfl, hb''⟩
      exact hK _ _ rfl hb''
    · obtain rfl := Option.some.inj ho
      have p8 : a'.tmps.getD 15 undef = .string X8 := (Option.some.inj (hpre ⟨8, .data⟩ (by simp) 15 rfl)).symm
      simp only [Array.getD_eq_getD_getElem?] at p8
      have p11 : a'.tmps.getD 18 undef = .string P3 := (Option.some.inj (hpre ⟨11, .data⟩ (by simp) 18 rfl)).symm
      simp only [Array.getD_eq_getD_getElem?] at p11
      go_simp
      exact hK _ _ (congrArg (fun x => some (Value.string x)) HX12.out.symm) (Below.refl _ _)
  · intro us w' hb' hfacts
    have h12 : us 12 = .string X12 := (Option.some.inj (hfacts 12 (by decide))).symm
    have hfin : Below w.heap.size w w' := hWp.trans (hb'.mono hWp.size)
    simp only [putL, Act.put, List.setIfInBounds_toArray, List.set_cons_zero, List.set_cons_succ]
    generalize us 12 = x12 at *
    subst h12
    simp only [List.drop_succ_cons, List.drop_zero]
    clear hb' hfacts
    go_wp2_with fail
    go_ret2
    exact ⟨rfl, hfin⟩
set_option maxRecDepth 100000 in
set_option maxHeartbeats 1600000 in
theorem formatClock_any (c : Int) (w : World) (h0 : 0 ≤ c) (h1 : c < 1440) (hp : Pow10 w) : Calls Tryz.prog 79 #[.int .i64 c] w (TxtB (fmtClock c) w) := by
  have HPW : Hid (∀ V, Below w.heap.size w V → Pow10 V) := fun V hV => hp.next hV
  have n2 := numS_size (n := c / 60) (by omega) (by omega)
  have n3 := numS_size (n := c % 60) (by omega) (by omega)
  have HP2 : Hid (∀ V, Below w.heap.size w V → Calls Tryz.prog 115 #[.int .i64 (c / 60), .int .i64 2] V (StrB (padB (c / 60) 2) V)) := fun V hV => padded_any (c / 60) 2 V (by omega) (by omega) (by omega) (by omega) (HPW.out V hV)
  have HP3 : Hid (∀ V, Below w.heap.size w V → Calls Tryz.prog 115 #[.int .i64 (c % 60), .int .i64 2] V (StrB (padB (c % 60) 2) V)) := fun V hV => padded_any (c % 60) 2 V (by omega) (by omega) (by omega) (by omega) (HPW.out V hV)
  have s2 := padB_size (n := c / 60) (d := 2) (by omega) (by omega)
  have s3 := padB_size (n := c % 60) (d := 2) (by omega) (by omega)
  have HQ : Hid (fmtClock c = padB (c / 60) 2 ++ colS ++ padB (c % 60) 2) := rfl
  rw [HQ.out]
  generalize padB (c / 60) 2 = P2 at *
  generalize padB (c % 60) 2 = P3 at *
  have u1 : c.tdiv 60 = c / 60 := Int.tdiv_eq_ediv_of_nonneg h0
  have u2 : c.tmod 60 = c % 60 := Int.tmod_eq_emod_of_nonneg h0
  have u3 : IntKind.i64.wrap (c / 60) = c / 60 := IntWalk.i64_in _ (by omega)
  have u4 : IntKind.i64.wrap (c % 60) = c % 60 := IntWalk.i64_in _ (by omega)
  have u5 : ¬ c < 0 := by omega
  have u6 : ¬ (1440 : Int) ≤ c := by omega
  have u7 : ¬ (1439 : Int) < c := by omega
  have q1 : ¬ 9223372036854775807 < P2.size + 1 := by omega
  have q2 : ¬ 9223372036854775807 < P2.size + 1 + P3.size := by omega
  have q3 : ¬ 9223372036854775807 < (P2 ++ (⟨#[58]⟩ : ByteArray)).size + P3.size := by rw [ByteArray.size_append, show (⟨#[58]⟩ : ByteArray).size = 1 from rfl]; omega
  go_enter Tryz.func79, Tryz.ntmps79
  go_wp2_with fail
  refine (HP2.out w (Below.refl _ _)).mono ?_
  rintro e w1 ⟨rfl, hb1⟩
  go_wp2_with fail
  refine (HP3.out w1 hb1).mono ?_
  rintro e w2 ⟨rfl, hb2⟩
  have hfin : Below w.heap.size w w2 := hb1.trans (hb2.mono hb1.size)
  go_wp2_with fail
  go_ret2
  exact ⟨rfl, hfin⟩

/-- The text of an instant is handed back. -/
def InsPost (t : Int) (w : World) (e : Ending) (w' : World) : Prop := ∃ s, e = .returned (.tuple #[.string s, .int .i64 0]) ∧ IsIns t s ∧ Below w.heap.size w w'
theorem fmtDate_size {y m d : Int} (hv : validB y m d = true) : (fmtDate y m d).size ≤ 100 := by
  obtain ⟨v1, v2, v3, v4⟩ := validB_iff.1 hv
  have v5 := mDays_bd y m
  have s1 := padB_size (n := y) (d := 4) (by omega) (by omega)
  have s2 := padB_size (n := m) (d := 2) (by omega) (by omega)
  have s3 := padB_size (n := d) (d := 2) (by omega) (by omega)
  unfold fmtDate
  simp only [ByteArray.size_append]
  have : dashS.size = 1 := rfl
  omega
theorem fmtClock_size {c : Int} (h0 : 0 ≤ c) (h1 : c < 1440) : (fmtClock c).size ≤ 100 := by
  have s2 := padB_size (n := c / 60) (d := 2) (by omega) (by omega)
  have s3 := padB_size (n := c % 60) (d := 2) (by omega) (by omega)
  unfold fmtClock
  simp only [ByteArray.size_append]
  have : colS.size = 1 := rfl
  omega
set_option maxRecDepth 100000 in
set_option maxHeartbeats 1600000 in
theorem formatInstant_any (t : Int) (w : World) (h0 : 0 ≤ t) (h1 : t < 52596000) (hp : Pow10 w) : Calls Tryz.prog 38 #[.int .i64 t] w (InsPost t w) := by
  have HPW : Hid (∀ V, Below w.heap.size w V → Pow10 V) := fun V hV => hp.next hV
  have u5 : ¬ t < 0 := by omega
  have u6 : ¬ (52596000 : Int) ≤ t := by omega
  have HSP := Lib.hid (splitMinute_any t w h0 h1)
  have HDO := Lib.hid (dateOf_any (t / 1440) w (by omega) (by omega))
  have HCL : Hid (∀ V, Below w.heap.size w V → Calls Tryz.prog 79 #[.int .i64 (t % 1440)] V (TxtB (fmtClock (t % 1440)) V)) := fun V hV => formatClock_any (t % 1440) V (by omega) (by omega) (HPW.out V hV)
  have hcs := fmtClock_size (c := t % 1440) (by omega) (by omega)
  have HIS : Hid (∀ y m d, validB y m d = true → dayB y m d = t / 1440 → IsIns t (fmtDate y m d ++ blankS ++ fmtClock (t % 1440))) := fun y m d a b => ⟨y, m, d, a, b, rfl⟩
  generalize fmtClock (t % 1440) = C at *
  go_enter Tryz.func38, Tryz.ntmps38
  go_wp2_with fail
  refine HSP.out.mono ?_
  rintro e w' ⟨rfl, rfl⟩
  go_wp2_with fail
  refine HDO.out.mono ?_
  rintro e w1 ⟨y, m, d, rfl, hv, hd, hb1⟩
  have HI := Lib.hid (HIS.out y m d hv hd)
  have hds := fmtDate_size hv
  have hb2 : Below w.heap.size w (w1.alloc (.cells #[.int .i64 y, .int .i64 m, .int .i64 d] 134)) := hb1.alloc hb1.size _
  have hr2 := heap_alloc_new w1 (.cells #[.int .i64 y, .int .i64 m, .int .i64 d] 134)
  have HFD := Lib.hid (formatDate_any y m d (w1.alloc (.cells #[.int .i64 y, .int .i64 m, .int .i64 d] 134)) hv (HPW.out _ hb2))
  have HB2 := Lib.hid hb2
  generalize fmtDate y m d = D at *
  have q1 : ¬ 9223372036854775807 < D.size + 1 := by omega
  have q2 : ¬ 9223372036854775807 < D.size + 1 + C.size := by omega
  have q3 : ¬ 9223372036854775807 < (D ++ (⟨#[32]⟩ : ByteArray)).size + C.size := by rw [ByteArray.size_append, show (⟨#[32]⟩ : ByteArray).size = 1 from rfl]; omega
  have z0 := block_cell hr2 0; have z1 := block_cell hr2 1; have z2 := block_cell hr2 2
  clear hb1 hv hd hb2 hr2 HIS HSP HDO
  go_wp2_with fail
  refine HFD.out.mono ?_
  rintro e w2 ⟨rfl, hb3⟩
  have hb4 : Below w.heap.size w w2 := HB2.out.trans (hb3.mono HB2.out.size)
  clear HFD hb3 z0 z1 z2
  go_wp2_with fail
  refine (HCL.out w2 hb4).mono ?_
  rintro e w3 ⟨rfl, hb5⟩
  have HB6 : Hid (Below w.heap.size w w3) := hb4.trans (hb5.mono hb4.size)
  clear hb4 hb5
  go_wp2_with fail
  go_ret2
  exact ⟨_, rfl, HI.out, HB6.out⟩
end Go.Proofs.YtkhedjfdjjeopaaGreatDoor
/-
  Contracts of the reference's two, floor, SplitMinute and DateOf.
  Condition: the numbers are small and not negative; the table of powers of ten is laid.
-/
namespace Go.Proofs.YtkhedjfdjjeopaaGreatDoor
set_option linter.unusedSimpArgs false
set_option linter.unusedVariables false
open Go.RowKit

set_option maxRecDepth 100000 in
set_option maxHeartbeats 800000 in
theorem twoR_any (n d : Int) (w : World) (h0 : 0 ≤ n) (h1 : n ≤ 9999) (hd : d ≤ ((numS n).size : Int) + 1) (hd0 : 0 ≤ d) (hp : Pow10 w) :
    Calls Tryz.prog 142 #[.int .i64 n, .int .i64 d] w (StrB (padB n d.toNat) w) := by
  have HF : Hid (Calls Tryz.prog 41 #[.int .i64 n] w fun e w' => e = .returned (.string (numS n)) ∧ Below w.heap.size w w') := formatIntR_any n w (by omega) (by omega) hp
  have hz := numS_size h0 h1
  have HP : Hid (padB n d.toNat = if (numS n).size < d.toNat then zS ++ numS n else numS n) := rfl
  generalize numS n = s at *
  go_enter Tryz.func142, Tryz.ntmps142
  go_wp2_with fail
  refine HF.out.mono ?_
  rintro e w1 ⟨rfl, hb1⟩
  have HB1 := Lib.hid hb1
  clear hb1 HF
  go_wp2_with fail
  go_loop [5] (fun sv => ∃ x : ByteArray, sv = .string x ∧ (x = s ∨ (x = zS ++ s ∧ (s.size : Int) < d)) ∧ s.size ≤ x.size ∧ x.size ≤ s.size + 1) (fun sv => 100 - (match sv with | .string x => x.size | _ => 0))
  case atStart => exact ⟨s, rfl, .inl rfl, Nat.le_refl _, by omega⟩
  case round =>
    obtain ⟨x, rfl, hx, hx1, hx2⟩ := hrel
    by_cases hlt : (x.size : Int) < d
    · have hxs : x = s := by
        rcases hx with h | ⟨h, _⟩
        · exact h
        · exfalso
          have : x.size = s.size + 1 := by rw [h, ByteArray.size_append, show zS.size = 1 from rfl]; omega
          omega
      subst hxs
      have q3 : ¬ 9223372036854775807 < 1 + x.size := by omega
      have hzz : (zS ++ x).size = x.size + 1 := by rw [ByteArray.size_append, show zS.size = 1 from rfl]; omega
      have HZZ := Lib.hid hzz
      clear hx hzz
      go_wp2_with fail
      go_round
      case rel => exact ⟨zS ++ x, rfl, .inr ⟨rfl, hlt⟩, by have := HZZ.out; omega, by have := HZZ.out; omega⟩
      case measure =>
        have := HZZ.out
        show 100 - (zS ++ x).size < 100 - x.size
        omega
    · have HR : Hid (padB n d.toNat = x) := by
        show _ = _
        rw [HP.out]
        rcases hx with h | ⟨h, h2⟩
        · rw [if_neg (by subst h; omega), h]
        · rw [if_pos (by omega), h]
      clear hx
      go_wp2_with fail
      go_ret
      exact ⟨by rw [HR.out]; rfl, HB1.out⟩
theorem floorR_any (t : Int) (w : World) (h0 : 0 ≤ t) (h1 : t < 52596000) : Calls Tryz.prog 141 #[.int .i64 t, .int .i64 1440] w fun e w' => e = .returned (.int .i64 (t / 1440)) ∧ w = w' := by
  have q1 : t.tdiv 1440 = t / 1440 := Int.tdiv_eq_ediv_of_nonneg h0
  have q2 : t.tmod 1440 = t % 1440 := Int.tmod_eq_emod_of_nonneg h0
  have q3 : IntKind.i64.wrap (t / 1440) = t / 1440 := IntWalk.i64_in _ (by omega)
  have q4 : IntKind.i64.wrap (t % 1440) = t % 1440 := IntWalk.i64_in _ (by omega)
  have q5 : ¬ t % 1440 < 0 := by omega
  go_enter Tryz.func141, Tryz.ntmps141
  go_wp2_with fail
  go_ret
  exact ⟨rfl, rfl⟩
theorem splitMinuteR_any (t : Int) (w : World) (h0 : 0 ≤ t) (h1 : t < 52596000) : Calls Tryz.prog 116 #[.int .i64 t] w fun e w' => e = .returned (.tuple #[.int .i64 (t / 1440), .int .i64 (t % 1440)]) ∧ w = w' := by
  have HF := Lib.hid (floorR_any t w h0 h1)
  have q1 : IntKind.i64.wrap (1440 * (t / 1440)) = 1440 * (t / 1440) := IntWalk.i64_in _ (by omega)
  have q2 : t - 1440 * (t / 1440) = t % 1440 := by omega
  have q3 : IntKind.i64.wrap (t % 1440) = t % 1440 := IntWalk.i64_in _ (by omega)
  go_enter Tryz.func116, Tryz.ntmps116
  go_wp2_with fail
  refine HF.out.mono ?_
  rintro e w' ⟨rfl, rfl⟩
  go_wp2_with fail
  go_ret2
  exact ⟨rfl, rfl⟩
theorem dayN_last : dayN 2100 12 31 = (36889, 0) := by decide +kernel
set_option maxRecDepth 100000 in
set_option maxHeartbeats 1600000 in
theorem dateOfR_any (day : Int) (w : World) (h0 : 0 ≤ day) (h1 : day ≤ 36889) : Calls Tryz.prog 117 #[.int .i64 day] w (DayPost day w) := by
  have hb0 := (Below.refl w.heap.size w).alloc (Nat.le_refl _) (.cells #[.int .i64 0, .int .i64 0, .int .i64 0] 134)
  have hr0 := heap_alloc_new w (.cells #[.int .i64 0, .int .i64 0, .int .i64 0] 134)
  have hz0 : w.heap.size < (w.alloc (.cells #[.int .i64 0, .int .i64 0, .int .i64 0] 134)).heap.size := by simp
  have HB0 := Lib.hid hb0; have HR0 := Lib.hid hr0; have HZ0 := Lib.hid hz0
  clear hb0 hr0 hz0
  have c1 : ¬ day < -365 := by omega
  have c2 : ¬ (36889 : Int) < day := by omega
  have c3 : IntKind.i64.wrap (day + 365) = day + 365 := IntWalk.i64_in _ (by omega)
  go_enter Tryz.func117, Tryz.ntmps117
  go_wp2_with fail
  generalize w.alloc (.cells #[.int .i64 0, .int .i64 0, .int .i64 0] 134) = W at *
  refine (dayNumberR_any 2100 12 31 W ⟨by decide, by decide⟩).mono ?_
  rw [dayN_last]
  rintro e w1 ⟨rfl, hb1⟩
  have hbw : Below w.heap.size w w1 := HB0.out.trans (hb1.mono HB0.out.size)
  have hr1 := (hb1.block w.heap.size HZ0.out).trans HR0.out
  have HBW := Lib.hid hbw; have HR1 := Lib.hid hr1
  clear hb1 hbw hr1 HB0 HR0 HZ0
  go_wp2_with fail
  go_loop [6, 7, 8, 9, 10] (fun r y _ _ _ => ∃ k : Nat, k ≤ 102 ∧ r = .int .i64 (day + 365 - yearSum k) ∧ y = .int .i64 (1999 + k) ∧ 0 ≤ day + 365 - yearSum k) (fun _ y _ _ _ => 2200 - (intOf y).toNat)
  case atStart => exact ⟨0, by omega, by simp [yearSum, sumTo], rfl, by simp [yearSum, sumTo]; omega⟩
  case round =>
    obtain ⟨k, hk, rfl, rfl, hr⟩ := hrel
    have hk2 : k < 102 := by
      rcases Nat.lt_or_ge k 102 with h | h
      · exact h
      · exfalso
        have e : k = 102 := by omega
        subst e
        rw [yearSum_last] at hr
        omega
    have l1 : 1999 + (k : Int) ≤ 2100 := by omega
    have HS : Hid (yearSum (k + 1) = yearSum k + yDays (1999 + k)) := rfl
    have hbs := yearSum_bd k
    have HYV : Hid (yDays (1999 + k) = monSum (1999 + k) 12) := (monSum_year _).symm
    have HDB : Hid (∀ (j : Nat) (d : Int), dayB (1999 + k) (1 + j) d = -365 + yearSum k + monSum (1999 + k) j + d - 1) := fun j d => by
      unfold dayB
      have e1 : (1999 + (k : Int) - 1999).toNat = k := by omega
      have e2 : (1 + (j : Int) - 1).toNat = j := by omega
      rw [e1, e2]
    have HVB : Hid (∀ (j : Nat) (d : Int), j ≤ 11 → 1 ≤ d → d ≤ mDays (1999 + k) (1 + j) → validB (1999 + k) (1 + j) d = true) := fun j d hj a b => validB_iff.2 ⟨⟨by omega, by omega⟩, ⟨by omega, by omega⟩, a, b⟩
    have HDM : Hid (∀ j : Nat, j ≤ 11 → Calls Tryz.prog 137 #[.int .i64 (1999 + k), .int .i64 (1 + j)] w1 fun e w' => e = .returned (.tuple #[.int .i64 (mDays (1999 + k) (1 + j)), .int .i64 0]) ∧ w1 = w') := fun j hj => by
      have := daysInMonthR_any (1999 + k) (1 + j) w1
      have e : dimB (1999 + k) (1 + j) = (mDays (1999 + k) (1 + j), 0) := by unfold dimB; rw [if_neg (by omega)]
      rw [e] at this
      exact this
    have q9 : IntKind.i64.wrap (1999 + (k : Int) + 1) = 1999 + (k : Int) + 1 := IntWalk.i64_in _ (by omega)
    have HNX : Hid (day + 365 - yearSum k - monSum (1999 + k) 12 = day + 365 - yearSum (k + 1)) := by show _ = _; rw [HS.out, HYV.out]; omega
    obtain ⟨ys, hys⟩ : ∃ ys, yearSum k = ys := ⟨_, rfl⟩
    rw [hys] at hr hbs HDB HNX ⊢
    obtain ⟨yy, hyy⟩ : ∃ yy : Int, 1999 + (k : Int) = yy := ⟨_, rfl⟩
    have HYY := Lib.hid hyy
    rw [hyy] at HDB HVB HDM HNX l1 q9 ⊢
    have hyb : 0 ≤ yy ∧ yy ≤ 100000 := by omega
    clear hys HS HYV hyy
    go_wp2_with fail
    go_loop [6, 8, 9, 10] (fun r m _ _ => ∃ j : Nat, j ≤ 12 ∧ r = .int .i64 (day + 365 - ys - monSum yy j) ∧ m = .int .i64 (1 + j) ∧ 0 ≤ day + 365 - ys - monSum yy j) (fun _ m _ _ => 100 - (intOf m).toNat)
    case atStart => exact ⟨0, by omega, by simp [monSum, sumTo], rfl, by simp [monSum, sumTo]; omega⟩
    case round =>
      obtain ⟨j, hj, rfl, rfl, hr2⟩ := hrel
      by_cases hj2 : j ≤ 11
      · have m1 : 1 + (j : Int) ≤ 12 := by omega
        have HM := Lib.hid (HDM.out j hj2)
        have HS : Hid (monSum yy (j + 1) = monSum yy j + mDays yy (1 + j)) := rfl
        have hmb := monSum_bd yy j
        have hmd := mDays_bd yy (1 + j)
        have HDB2 := Lib.hid (HDB.out j (day + 365 - ys - monSum yy j + 1))
        have HVB2 := Lib.hid (HVB.out j (day + 365 - ys - monSum yy j + 1) hj2)
        by_cases hlt : day + 365 - ys - monSum yy j < mDays yy (1 + j)
        · have q1 : IntKind.i64.wrap (day + 365 - ys - monSum yy j + 1) = day + 365 - ys - monSum yy j + 1 := IntWalk.i64_in _ (by omega)
          have HV3 : Hid (validB yy (1 + j) (day + 365 - ys - monSum yy j + 1) = true) := HVB2.out (by omega) (by omega)
          have HD3 : Hid (dayB yy (1 + j) (day + 365 - ys - monSum yy j + 1) = day) := by show _ = _; rw [HDB2.out]; omega
          have hr3 := HR1.out
          have z0 := block_cell hr3 0; have z1 := block_cell hr3 1; have z2 := block_cell hr3 2
          have f0 := block_free hr3 0; have f1 := block_free hr3 1; have f2 := block_free hr3 2
          clear HVB HDB HVB2 HDB2 HS hr3
          generalize mDays yy (1 + j) = md at *
          generalize hms : monSum yy j = ms at *
          obtain ⟨dd, hdd⟩ : ∃ dd : Int, day + 365 - ys - ms + 1 = dd := ⟨_, rfl⟩
          rw [hdd] at q1 HV3 HD3
          clear hms
          go_wp2_with fail
          refine HM.out.mono ?_
          rintro e w' ⟨rfl, rfl⟩
          go_wp2_with fail
          refine bodyPost_ret (v := .tuple #[.agg #[.int .i64 yy, .int .i64 (1 + j), .int .i64 dd], .int .i64 0]) (by simp [results, Tryz.results117, go_sem, z0, z1, z2]) rfl ?_
          exact ⟨yy, 1 + j, dd, rfl, HV3.out, HD3.out, ((HBW.out.setCell (Nat.le_refl _) _).setCell (Nat.le_refl _) _).setCell (Nat.le_refl _) _⟩
        · have q1 : IntKind.i64.wrap (day + 365 - ys - monSum yy j - mDays yy (1 + j)) = day + 365 - ys - monSum yy j - mDays yy (1 + j) := IntWalk.i64_in _ (by omega)
          have q2 : IntKind.i64.wrap (1 + (j : Int) + 1) = 1 + (j : Int) + 1 := IntWalk.i64_in _ (by omega)
          have HE : Hid (day + 365 - ys - monSum yy j - mDays yy (1 + j) = day + 365 - ys - monSum yy (j + 1)) := by show _ = _; rw [HS.out]; omega
          clear HVB2 HDB2 HS
          generalize mDays yy (1 + j) = md at *
          generalize hms : monSum yy j = ms at *
          go_wp2_with fail
          refine HM.out.mono ?_
          rintro e w' ⟨rfl, rfl⟩
          go_wp2_with fail
          go_round
          case rel => exact ⟨j + 1, by omega, by rw [HE.out], by go_num, by rw [← HE.out]; omega⟩
          case measure => simp [intOf]; omega
      · have e : j = 12 := by omega
        subst e
        have m1 : ¬ (1 + ((12 : Nat) : Int)) ≤ 12 := by decide
        rw [HNX.out] at hr2 ⊢
        have HR2 := Lib.hid hr2
        clear hr2
        generalize hyn : yearSum (k + 1) = yn at *
        go_wp2_with fail
        go_round
        case rel => exact ⟨k + 1, by omega, by rw [hyn], by rw [← HYY.out]; go_num, by rw [hyn]; exact HR2.out⟩
        case measure => have := HYY.out; simp [intOf]; omega
end Go.Proofs.YtkhedjfdjjeopaaGreatDoor
/-
  Contracts of the reference's FormatDate, FormatClock, FormatInstant, and of pairingref9's instant (the text).
  Condition: the date is valid, the instant lies in the calendar; the table of powers of ten is laid.
-/
namespace Go.Proofs.YtkhedjfdjjeopaaGreatDoor
set_option linter.unusedSimpArgs false
set_option linter.unusedVariables false
open Go.RowKit

set_option maxRecDepth 100000 in
set_option maxHeartbeats 1600000 in
theorem formatDateR_any (y m d : Int) (w : World) (hv : validB y m d = true) (hp : Pow10 w) : Calls Tryz.prog 118 #[.agg #[.int .i64 y, .int .i64 m, .int .i64 d]] w (TxtB (fmtDate y m d) w) := by
  obtain ⟨v1, v2, v3, v4⟩ := validB_iff.1 hv
  have v5 := mDays_bd y m
  have hb0 := (Below.refl w.heap.size w).alloc (Nat.le_refl _) (.cells #[.int .i64 y, .int .i64 m, .int .i64 d] 134)
  have hr0 := heap_alloc_new w (.cells #[.int .i64 y, .int .i64 m, .int .i64 d] 134)
  have HB0 := Lib.hid hb0; have HR0 := Lib.hid hr0
  have HPW : Hid (∀ V, Below w.heap.size w V → Pow10 V) := fun V hV => hp.next hV
  have n1 : ((numS y).size : Int) = 4 := by
    have e := numS_four (n := y.toNat) (by omega) (by omega)
    rw [show ((y.toNat : Nat) : Int) = y by omega] at e
    rw [e, bs_size]; rfl
  have n2 := numS_size (n := m) (by omega) (by omega)
  have n3 := numS_size (n := d) (by omega) (by omega)
  have HP1 : Hid (∀ V, Below w.heap.size w V → Calls Tryz.prog 142 #[.int .i64 y, .int .i64 4] V (StrB (padB y 4) V)) := fun V hV => twoR_any y 4 V (by omega) (by omega) (by omega) (by omega) (HPW.out V hV)
  have HP2 : Hid (∀ V, Below w.heap.size w V → Calls Tryz.prog 142 #[.int .i64 m, .int .i64 2] V (StrB (padB m 2) V)) := fun V hV => twoR_any m 2 V (by omega) (by omega) (by omega) (by omega) (HPW.out V hV)
  have HP3 : Hid (∀ V, Below w.heap.size w V → Calls Tryz.prog 142 #[.int .i64 d, .int .i64 2] V (StrB (padB d 2) V)) := fun V hV => twoR_any d 2 V (by omega) (by omega) (by omega) (by omega) (HPW.out V hV)
  have s1 := padB_size (n := y) (d := 4) (by omega) (by omega)
  have s2 := padB_size (n := m) (d := 2) (by omega) (by omega)
  have s3 := padB_size (n := d) (d := 2) (by omega) (by omega)
  have HQ : Hid (fmtDate y m d = padB y 4 ++ dashS ++ padB m 2 ++ dashS ++ padB d 2) := rfl
  rw [HQ.out]
  have HV := Lib.hid hv
  generalize padB y 4 = P1 at *
  generalize padB m 2 = P2 at *
  generalize padB d 2 = P3 at *
  obtain ⟨X3, hX3⟩ : ∃ X, P1 ++ dashS = X := ⟨_, rfl⟩
  obtain ⟨X7, hX7⟩ : ∃ X, X3 ++ P2 = X := ⟨_, rfl⟩
  obtain ⟨X8, hX8⟩ : ∃ X, X7 ++ dashS = X := ⟨_, rfl⟩
  obtain ⟨X12, hX12⟩ : ∃ X, X8 ++ P3 = X := ⟨_, rfl⟩
  have t3 : X3.size ≤ 30 := by rw [← hX3, ByteArray.size_append, show dashS.size = 1 from rfl]; omega
  have t7 : X7.size ≤ 60 := by rw [← hX7, ByteArray.size_append]; omega
  have t8 : X8.size ≤ 61 := by rw [← hX8, ByteArray.size_append, show dashS.size = 1 from rfl]; omega
  rw [hX3, hX7, hX8, hX12]
  have HX3 := Lib.hid hX3; have HX7 := Lib.hid hX7; have HX8 := Lib.hid hX8; have HX12 := Lib.hid hX12
  have q1 : ¬ 9223372036854775807 < P1.size + 1 := by omega
  have q2 : ¬ 9223372036854775807 < X3.size + P2.size := by omega
  have q3 : ¬ 9223372036854775807 < X7.size + 1 := by omega
  have q4 : ¬ 9223372036854775807 < X8.size + P3.size := by omega
  clear hb0 hr0 hX3 hX7 hX8 hX12 hv HQ v1 v2 v3 v4 v5 n1 n2 n3
  go_enter Tryz.func118, Tryz.ntmps118
  go_wp2_with fail
  generalize w.alloc (.cells #[.int .i64 y, .int .i64 m, .int .i64 d] 134) = W at *
  refine (isDateR_any y m d W).mono ?_
  rw [HV.out]
  rintro e w1 ⟨rfl, hb1⟩
  have hWp : Below w.heap.size w w1 := HB0.out.trans (hb1.mono HB0.out.size)
  have hr1 := (hb1.block w.heap.size (Array.getElem?_eq_some_iff.1 HR0.out).1).trans HR0.out
  obtain ⟨B, hB⟩ : ∃ B, w.heap.size = B := ⟨_, rfl⟩
  rw [hB] at hr1
  have z0 := block_cell hr1 0; have z1 := block_cell hr1 1; have z2 := block_cell hr1 2
  rw [hB]
  clear hr1 hb1 hB
  go_upto_region 3 with (fail)
  refine wp_region_facts 13 [7, 8, 9, 10, 11, 12, 13, 14, 15, 16, 17, 18, 19] (fun i v _ => ([(.pointer (some ⟨B, 0, none⟩) : Value), (.int .i64 y : Value), (.string P1 : Value), (.string X3 : Value), (.pointer (some ⟨B, 1, none⟩) : Value), (.int .i64 m : Value), (.string P2 : Value), (.string X7 : Value), (.string X8 : Value), (.pointer (some ⟨B, 2, none⟩) : Value), (.int .i64 d : Value), (.string P3 : Value), (.string X12 : Value)] : List Value)[i]? = some v) (by kernel_rfl) (by kernel_rfl) (by kernel_rfl) (by kernel_rfl) (by kernel_rfl) (fun _ _ _ _ h _ => h) ?_ ?_
  · intro q o' hq ho a' w' hb' hout hpre K hK
    have hq' : q = 0 ∨ q = 1 ∨ q = 2 ∨ q = 3 ∨ q = 4 ∨ q = 5 ∨ q = 6 ∨ q = 7 ∨ q = 8 ∨ q = 9 ∨ q = 10 ∨ q = 11 ∨ q = 12 := by omega
    rcases hq' with rfl | rfl | rfl | rfl | rfl | rfl | rfl | rfl | rfl | rfl | rfl | rfl | rfl
    · obtain rfl := Option.some.inj ho
      have e1 : a'.tmps[1]? = some (.pointer (some ⟨B, 0, none⟩)) := hout 1 (by decide)
      go_simp
      exact hK (.pointer (some ⟨B, 0, none⟩)) w' rfl (Below.refl _ _)
    · obtain rfl := Option.some.inj ho
      have p0 : a'.tmps.getD 7 undef = .pointer (some ⟨B, 0, none⟩) := (Option.some.inj (hpre ⟨0, .data⟩ (by simp) 7 rfl)).symm
      simp only [Array.getD_eq_getD_getElem?] at p0
      have c0 := cell_kept z0 hb'
      go_simp
      exact hK (.int .i64 y) w' rfl (Below.refl _ _)
    · obtain rfl := Option.some.inj ho
      have p1 : a'.tmps.getD 8 undef = .int .i64 y := (Option.some.inj (hpre ⟨1, .data⟩ (by simp) 8 rfl)).symm
      simp only [Array.getD_eq_getD_getElem?] at p1
      go_simp
      go_at_call 142
      refine (HP1.out w' (hWp.trans (hb'.mono hWp.size))).mono ?_
      rintro e w'' ⟨rfl, hb''⟩
      exact hK _ _ rfl hb''
    · obtain rfl := Option.some.inj ho
      have p2 : a'.tmps.getD 9 undef = .string P1 := (Option.some.inj (hpre ⟨2, .data⟩ (by simp) 9 rfl)).symm
      simp only [Array.getD_eq_getD_getElem?] at p2
      go_simp
      exact hK _ _ (congrArg (fun x => some (Value.string x)) HX3.out.symm) (Below.refl _ _)
    · obtain rfl := Option.some.inj ho
      have e1 : a'.tmps[1]? = some (.pointer (some ⟨B, 0, none⟩)) := hout 1 (by decide)
      go_simp
      exact hK (.pointer (some ⟨B, 1, none⟩)) w' rfl (Below.refl _ _)
    · obtain rfl := Option.some.inj ho
      have p4 : a'.tmps.getD 11 undef = .pointer (some ⟨B, 1, none⟩) := (Option.some.inj (hpre ⟨4, .data⟩ (by simp) 11 rfl)).symm
      simp only [Array.getD_eq_getD_getElem?] at p4
      have c1 := cell_kept z1 hb'
      go_simp
      exact hK (.int .i64 m) w' rfl (Below.refl _ _)
    · obtain rfl := Option.some.inj ho
      have p5 : a'.tmps.getD 12 undef = .int .i64 m := (Option.some.inj (hpre ⟨5, .data⟩ (by simp) 12 rfl)).symm
      simp only [Array.getD_eq_getD_getElem?] at p5
      go_simp
      go_at_call 142
      refine (HP2.out w' (hWp.trans (hb'.mono hWp.size))).mono ?_
      rintro e w'' ⟨rfl, hb''⟩
      exact hK _ _ rfl hb''
    · obtain rfl := Option.some.inj ho
      have p3 : a'.tmps.getD 10 undef = .string X3 := (Option.some.inj (hpre ⟨3, .data⟩ (by simp) 10 rfl)).symm
      simp only [Array.getD_eq_getD_getElem?] at p3
      have p6 : a'.tmps.getD 13 undef = .string P2 := (Option.some.inj (hpre ⟨6, .data⟩ (by simp) 13 rfl)).symm
      simp only [Array.getD_eq_getD_getElem?] at p6
      go_simp
      exact hK _ _ (congrArg (fun x => some (Value.string x)) HX7.out.symm) (Below.refl _ _)
    · obtain rfl := Option.some.inj ho
      have p7 : a'.tmps.getD 14 undef = .string X7 := (Option.some.inj (hpre ⟨7, .data⟩ (by simp) 14 rfl)).symm
      simp only [Array.getD_eq_getD_getElem?] at p7
      go_simp
      exact hK _ _ (congrArg (fun x => some (Value.string x)) HX8.out.symm) (Below.refl _ _)
    · obtain rfl := Option.some.inj ho
      have e1 : a'.tmps[1]? = some (.pointer (some ⟨B, 0, none⟩)) := hout 1 (by decide)
      go_simp
      exact hK (.pointer (some ⟨B, 2, none⟩)) w' rfl (Below.refl _ _)
    · obtain rfl := Option.some.inj ho
      have p9 : a'.tmps.getD 16 undef = .pointer (some ⟨B, 2, none⟩) := (Option.some.inj (hpre ⟨9, .data⟩ (by simp) 16 rfl)).symm
      simp only [Array.getD_eq_getD_getElem?] at p9
      have c2 := cell_kept z2 hb'
      go_simp
      exact hK (.int .i64 d) w' rfl (Below.refl _ _)
    · obtain rfl := Option.some.inj ho
      have p10 : a'.tmps.getD 17 undef = .int .i64 d := (Option.some.inj (hpre ⟨10, .data⟩ (by simp) 17 rfl)).symm
      simp only [Array.getD_eq_getD_getElem?] at p10
      go_simp
      go_at_call 142
      refine (HP3.out w' (hWp.trans (hb'.mono hWp.size))).mono ?_
      rintro e w'' ⟨rfl, hb''⟩
      exact hK _ _ rfl hb''
    · obtain rfl := Option.some.inj ho
      have p8 : a'.tmps.getD 15 undef = .string X8 := (Option.some.inj (hpre ⟨8, .data⟩ (by simp) 15 rfl)).symm
      simp only [Array.getD_eq_getD_getElem?] at p8
      have p11 : a'.tmps.getD 18 undef = .string P3 := (Option.some.inj (hpre ⟨11, .data⟩ (by simp) 18 rfl)).symm
      simp only [Array.getD_eq_getD_getElem?] at p11
      go_simp
      exact hK _ _ (congrArg (fun x => some (Value.string x)) HX12.out.symm) (Below.refl _ _)
  · intro us w' hb' hfacts
    have h12 : us 12 = .string X12 := (Option.some.inj (hfacts 12 (by decide))).symm
    have hfin : Below w.heap.size w w' := hWp.trans (hb'.mono hWp.size)
    simp only [putL, Act.put, List.setIfInBounds_toArray, List.set_cons_zero, List.set_cons_succ]
    generalize us 12 = x12 at *
    subst h12
    simp only [List.drop_succ_cons, List.drop_zero]
    clear hb' hfacts
    go_wp2_with fail
    go_ret2
    exact ⟨rfl, hfin⟩
set_option maxRecDepth 100000 in
set_option maxHeartbeats 1600000 in
theorem formatClockR_any (c : Int) (w : World) (h0 : 0 ≤ c) (h1 : c < 1440) (hp : Pow10 w) : Calls Tryz.prog 119 #[.int .i64 c] w (TxtB (fmtClock c) w) := by
  have HPW : Hid (∀ V, Below w.heap.size w V → Pow10 V) := fun V hV => hp.next hV
  have n2 := numS_size (n := c / 60) (by omega) (by omega)
  have n3 := numS_size (n := c % 60) (by omega) (by omega)
  have HP2 : Hid (∀ V, Below w.heap.size w V → Calls Tryz.prog 142 #[.int .i64 (c / 60), .int .i64 2] V (StrB (padB (c / 60) 2) V)) := fun V hV => twoR_any (c / 60) 2 V (by omega) (by omega) (by omega) (by omega) (HPW.out V hV)
  have HP3 : Hid (∀ V, Below w.heap.size w V → Calls Tryz.prog 142 #[.int .i64 (c % 60), .int .i64 2] V (StrB (padB (c % 60) 2) V)) := fun V hV => twoR_any (c % 60) 2 V (by omega) (by omega) (by omega) (by omega) (HPW.out V hV)
  have s2 := padB_size (n := c / 60) (d := 2) (by omega) (by omega)
  have s3 := padB_size (n := c % 60) (d := 2) (by omega) (by omega)
  have HQ : Hid (fmtClock c = padB (c / 60) 2 ++ colS ++ padB (c % 60) 2) := rfl
  rw [HQ.out]
  generalize padB (c / 60) 2 = P2 at *
  generalize padB (c % 60) 2 = P3 at *
  have u1 : c.tdiv 60 = c / 60 := Int.tdiv_eq_ediv_of_nonneg h0
  have u2 : c.tmod 60 = c % 60 := Int.tmod_eq_emod_of_nonneg h0
  have u3 : IntKind.i64.wrap (c / 60) = c / 60 := IntWalk.i64_in _ (by omega)
  have u4 : IntKind.i64.wrap (c % 60) = c % 60 := IntWalk.i64_in _ (by omega)
  have u5 : ¬ c < 0 := by omega
  have u6 : ¬ (1440 : Int) ≤ c := by omega
  have u7 : ¬ (1439 : Int) < c := by omega
  have q1 : ¬ 9223372036854775807 < P2.size + 1 := by omega
  have q2 : ¬ 9223372036854775807 < P2.size + 1 + P3.size := by omega
  have q3 : ¬ 9223372036854775807 < (P2 ++ (⟨#[58]⟩ : ByteArray)).size + P3.size := by rw [ByteArray.size_append, show (⟨#[58]⟩ : ByteArray).size = 1 from rfl]; omega
  go_enter Tryz.func119, Tryz.ntmps119
  go_wp2_with fail
  refine (HP2.out w (Below.refl _ _)).mono ?_
  rintro e w1 ⟨rfl, hb1⟩
  go_wp2_with fail
  refine (HP3.out w1 hb1).mono ?_
  rintro e w2 ⟨rfl, hb2⟩
  have hfin : Below w.heap.size w w2 := hb1.trans (hb2.mono hb1.size)
  go_wp2_with fail
  go_ret2
  exact ⟨rfl, hfin⟩
set_option maxRecDepth 100000 in
set_option maxHeartbeats 1600000 in
theorem formatInstantR_any (t : Int) (w : World) (h0 : 0 ≤ t) (h1 : t < 52596000) (hp : Pow10 w) : Calls Tryz.prog 80 #[.int .i64 t] w (InsPost t w) := by
  have HPW : Hid (∀ V, Below w.heap.size w V → Pow10 V) := fun V hV => hp.next hV
  have u5 : ¬ t < 0 := by omega
  have u6 : ¬ (52596000 : Int) ≤ t := by omega
  have HSP := Lib.hid (splitMinuteR_any t w h0 h1)
  have HDO := Lib.hid (dateOfR_any (t / 1440) w (by omega) (by omega))
  have HCL : Hid (∀ V, Below w.heap.size w V → Calls Tryz.prog 119 #[.int .i64 (t % 1440)] V (TxtB (fmtClock (t % 1440)) V)) := fun V hV => formatClockR_any (t % 1440) V (by omega) (by omega) (HPW.out V hV)
  have hcs := fmtClock_size (c := t % 1440) (by omega) (by omega)
  have HIS : Hid (∀ y m d, validB y m d = true → dayB y m d = t / 1440 → IsIns t (fmtDate y m d ++ blankS ++ fmtClock (t % 1440))) := fun y m d a b => ⟨y, m, d, a, b, rfl⟩
  generalize fmtClock (t % 1440) = C at *
  go_enter Tryz.func80, Tryz.ntmps80
  go_wp2_with fail
  refine HSP.out.mono ?_
  rintro e w' ⟨rfl, rfl⟩
  go_wp2_with fail
  refine HDO.out.mono ?_
  rintro e w1 ⟨y, m, d, rfl, hv, hd, hb1⟩
  have HI := Lib.hid (HIS.out y m d hv hd)
  have hds := fmtDate_size hv
  have hb2 : Below w.heap.size w (w1.alloc (.cells #[.int .i64 y, .int .i64 m, .int .i64 d] 134)) := hb1.alloc hb1.size _
  have hr2 := heap_alloc_new w1 (.cells #[.int .i64 y, .int .i64 m, .int .i64 d] 134)
  have HFD := Lib.hid (formatDateR_any y m d (w1.alloc (.cells #[.int .i64 y, .int .i64 m, .int .i64 d] 134)) hv (HPW.out _ hb2))
  have HB2 := Lib.hid hb2
  generalize fmtDate y m d = D at *
  have q1 : ¬ 9223372036854775807 < D.size + 1 := by omega
  have q2 : ¬ 9223372036854775807 < D.size + 1 + C.size := by omega
  have q3 : ¬ 9223372036854775807 < (D ++ (⟨#[32]⟩ : ByteArray)).size + C.size := by rw [ByteArray.size_append, show (⟨#[32]⟩ : ByteArray).size = 1 from rfl]; omega
  have z0 := block_cell hr2 0; have z1 := block_cell hr2 1; have z2 := block_cell hr2 2
  clear hb1 hv hd hb2 hr2 HIS HSP HDO
  go_wp2_with fail
  refine HFD.out.mono ?_
  rintro e w2 ⟨rfl, hb3⟩
  have hb4 : Below w.heap.size w w2 := HB2.out.trans (hb3.mono HB2.out.size)
  clear HFD hb3 z0 z1 z2
  go_wp2_with fail
  refine (HCL.out w2 hb4).mono ?_
  rintro e w3 ⟨rfl, hb5⟩
  have HB6 : Hid (Below w.heap.size w w3) := hb4.trans (hb5.mono hb4.size)
  clear hb4 hb5
  go_wp2_with fail
  go_ret2
  exact ⟨_, rfl, HI.out, HB6.out⟩
theorem instantTxtR_any (t : Int) (w : World) (h0 : 0 ≤ t) (h1 : t < 52596000) (hp : Pow10 w) : Calls Tryz.prog 43 #[.int .i64 t] w fun e w' => ∃ s, e = .returned (.string s) ∧ IsIns t s ∧ Below w.heap.size w w' := by
  go_enter Tryz.func43, Tryz.ntmps43
  go_wp2_with fail
  refine (formatInstantR_any t w h0 h1 hp).mono ?_
  rintro e w1 ⟨s, rfl, hi, hb⟩
  have HI := Lib.hid hi
  clear hi
  go_wp2_with fail
  go_ret
  exact ⟨s, rfl, HI.out, hb⟩
end Go.Proofs.YtkhedjfdjjeopaaGreatDoor
/-
  Contracts of (*strings.Builder).copyCheck and WriteString, at a builder of the kit's word (Lib.IsBuilder).
  Condition: the builder lies in its block; the new length is no more than 2^47 bytes.
-/
namespace Go.Proofs.YtkhedjfdjjeopaaGreatDoor
set_option linter.unusedSimpArgs false
set_option linter.unusedVariables false
open Go.RowKit Go

theorem bld_size : (Tryz.prog.info? 78).map (·.size) = some 2 := by kernel_rfl
theorem bld_lies : liesAt Tryz.prog Tryz.prog.depth 78 (2 / Tryz.prog.cellsOf 78) 0 78 1 = true := by kernel_rfl

set_option maxHeartbeats 1600000 in
set_option maxRecDepth 100000 in
theorem copyCheck_any (B b : Nat) (xs : List Value) (w : World) (h : Lib.IsBuilder 78 5 B b xs w) :
    Calls Tryz.prog 75 #[.pointer (some ⟨b, 0, none⟩)] w fun e w' => e = .returned (.tuple #[]) ∧ Lib.BuilderAt 78 5 B b (.pointer (some ⟨b, 0, none⟩)) xs w' ∧ Below B w w' := by
  obtain ⟨j, hj, hjs⟩ := Option.map_eq_some_iff.1 bld_size
  rcases h with h | h
  · have h0 := h.cell0
    have hsh := h.shape
    have hfz := h.frozen0
    have HE : Hid (Lib.BuilderAt 78 5 B b (.pointer (some ⟨b, 0, none⟩)) xs (w.setCell ⟨b, 0, none⟩ (.pointer (some ⟨b, 0, none⟩))) ∧ Below B w (w.setCell ⟨b, 0, none⟩ (.pointer (some ⟨b, 0, none⟩)))) := ⟨h.used _, (Below.refl B w).setCell (p := ⟨b, 0, none⟩) h.1 _⟩
    have HTO := Lib.hid (Lib.run_to_unsafe w ⟨b, 0, none⟩ Tryz.underlying76 Tryz.underlying157 hj (by rw [hjs]; decide) hsh (Nat.zero_lt_succ 1))
    have HFR := Lib.hid (Lib.run_from_unsafe w ⟨b, 0, none⟩ Tryz.underlying157 Tryz.underlying76 hj hsh bld_lies)
    clear h hsh
    go_enter Tryz.func75, Tryz.ntmps75
    go_wp2_with fail
    rw [HTO.out]
    simp only [Result.andThen]
    rw [Oper.upon_value]
    go_wp2_with fail
    rw [run_callFunc_extern Tryz.func111 (by kernel_rfl) (by kernel_rfl) (by kernel_rfl) (e := Extern.AbiNoEscape.same) (by kernel_rfl)]
    rw [Lib.run_noEscape]
    simp only [Result.andThen]
    rw [Oper.upon_value]
    go_wp2_with fail
    rw [HFR.out]
    simp only [Result.andThen]
    rw [Oper.upon_value]
    go_wp2_with fail
    go_end0
    exact ⟨rfl, HE.out⟩
  · have h0 := h.cell0
    have HE : Hid (Lib.BuilderAt 78 5 B b (.pointer (some ⟨b, 0, none⟩)) xs w ∧ Below B w w) := ⟨h, Below.refl B w⟩
    have HN := Lib.hid (Lib.run_neq_ptr_same w ⟨b, 0, none⟩ Tryz.underlying76 hj)
    clear h
    go_enter Tryz.func75, Tryz.ntmps75
    go_wp2_with fail
    rw [HN.out]
    go_wp2_with fail
    go_end0
    exact ⟨rfl, HE.out⟩
set_option maxHeartbeats 1600000 in
set_option maxRecDepth 100000 in
theorem writeString_any (B b : Nat) (xs : List Value) (s : ByteArray) (w : World) (h : Lib.IsBuilder 78 5 B b xs w) (hlen : xs.length + s.size ≤ 140737488355328) (hB : B ≤ w.heap.size) :
    Calls Tryz.prog 36 #[.pointer (some ⟨b, 0, none⟩), .string s] w fun e w' => e = .returned (.tuple #[.int .i64 s.size, .nilIface]) ∧ Lib.BuilderAt 78 5 B b (.pointer (some ⟨b, 0, none⟩)) (xs ++ Lib.strCells s) w' ∧ Below B w w' := by
  obtain ⟨i0, hi, hz0, hz1, hz2⟩ := byte_info
  have HC := Lib.hid (copyCheck_any B b xs w h)
  clear h
  go_enter Tryz.func36, Tryz.ntmps36
  go_wp2_with fail
  refine HC.out.mono ?_
  rintro e w1 ⟨rfl, ⟨hBb, v, hbk, hown, hne⟩, hb1⟩
  have hs1 := hb1.size
  have hlt : b < w1.heap.size := (Array.getElem?_eq_some_iff.1 hbk).1
  have c1 : w1.cell? ⟨b, 1, none⟩ = some v := block_cell hbk 1
  have HB1 := Lib.hid hb1; have HBK := Lib.hid hbk; have HNE := Lib.hid hne
  have HOW := Lib.hid hown
  clear hb1 hbk hne HC hown
  go_wp2_with (at_builtin; refine Lib.wpList_append_own_string _ rfl _ _ 50 9 rfl B 5 i0 Tryz.underlying50 Tryz.underlying9 hi hz0 hz1 hz2 _ _ _ rfl HOW.out s rfl (by unfold maxLen; omega) (by omega) (by omega) ?_)
  intro v' w2 hown' hgrow _
  have hb2 : w2.heap[b]? = some (.cells #[.pointer (some ⟨b, 0, none⟩), v] 78 (0, 0)) := (hgrow.block b hlt (fun e => HNE.out e.symm)).trans HBK.out
  have d1 : w2.cell? ⟨b, 1, none⟩ = some v := block_cell hb2 1
  have f1 : w2.frozen? ⟨b, 1, none⟩ = false := block_free hb2 1
  have HE : Hid (Lib.BuilderAt 78 5 B b (.pointer (some ⟨b, 0, none⟩)) (xs ++ Lib.strCells s) (w2.setCell ⟨b, 1, none⟩ v') ∧ Below B w (w2.setCell ⟨b, 1, none⟩ v')) :=
    ⟨Lib.BuilderAt.put (T := 78) (e := 5) hBb hb2 (bs' := xs ++ Lib.strCells s) (by simpa [Lib.strCells_length] using hown') (by decide),
      (HB1.out.grown hgrow (by omega) (fun k hk => (HOW.out.lt k hk).1)).setCell (p := ⟨b, 1, none⟩) hBb _⟩
  obtain ⟨ao, n', cap, rfl⟩ : ∃ ao n' cap, v' = .slice ao n' cap := by
    rcases hown'.2 with ⟨hv, _⟩ | ⟨g, cap, cur, hv, _⟩
    · exact ⟨_, _, _, hv⟩
    · exact ⟨_, _, _, hv⟩
  clear hown' hgrow hb2 HBK HNE HOW HB1
  go_wp2_with fail
  go_ret2
  exact ⟨rfl, HE.out⟩
end Go.Proofs.YtkhedjfdjjeopaaGreatDoor
/-
  (*strings.Builder).WriteString once more: with what it leaves alone (boxes of other types); Len and String at such a builder.
  Condition: the builder lies in block b, its row in blocks from b on; the text takes no more than a million bytes.
-/
namespace Go.Proofs.YtkhedjfdjjeopaaGreatDoor
set_option linter.unusedSimpArgs false
set_option linter.unusedVariables false
open Go.RowKit Go

/-- A builder in block b; v: its buffer; L: its bytes. -/
structure Bld (b : Nat) (v : Value) (L : List UInt8) (w : World) : Prop where
  cell : ∃ p, (p = .pointer none ∨ p = .pointer (some ⟨b, 0, none⟩)) ∧ w.heap[b]? = some (.cells #[p, v] 78 (0, 0))
  row : w.ownsRow b 5 1 v L.length (Lib.byteCells L)
  ne : v.ownBlock ≠ some b
theorem Bld.is {b : Nat} {v : Value} {L : List UInt8} {w : World} (h : Bld b v L w) : Lib.IsBuilder 78 5 b b (Lib.byteCells L) w := by
  obtain ⟨⟨p, hp, hc⟩, hr, hn⟩ := h
  have hr' : w.ownsRow b 5 1 v (Lib.byteCells L).length (Lib.byteCells L) := by rw [Lib.byteCells_length]; exact hr
  rcases hp with rfl | rfl
  · exact .inl ⟨Nat.le_refl _, v, hc, hr', hn⟩
  · exact .inr ⟨Nat.le_refl _, v, hc, hr', hn⟩
theorem Bld.lt {b : Nat} {v : Value} {L : List UInt8} {w : World} (h : Bld b v L w) : b < w.heap.size := by
  obtain ⟨p, _, hc⟩ := h.cell
  exact (Array.getElem?_eq_some_iff.1 hc).1
theorem ownsRow_keep {w w' : World} {b : Nat} {e : TypeId} {z : Nat} {v : Value} {n : Nat} {xs : List Value} (h : w.ownsRow b e z v n xs) (hk : ∀ q, v.ownBlock = some q → w'.heap[q]? = w.heap[q]?) : w'.ownsRow b e z v n xs := by
  refine ⟨h.1, ?_⟩
  rcases h.2 with h3 | ⟨g, cap, cur, hv, hg, hb, r⟩
  · exact .inl h3
  · exact .inr ⟨g, cap, cur, hv, hg, (hk g (by rw [hv]; rfl)).trans hb, r⟩
theorem Bld.keep {b : Nat} {v : Value} {L : List UInt8} {w w' : World} (h : Bld b v L w) (hb : Below w.heap.size w w') : Bld b v L w' := by
  have hl := h.lt
  obtain ⟨⟨p, hp, hc⟩, hr, hn⟩ := h
  exact ⟨⟨p, hp, (hb.block b hl).trans hc⟩, ownsRow_keep hr fun q hq => hb.block q (hr.lt q hq).2, hn⟩
/-- A block of another type is not the row. -/
theorem row_apart {w : World} {b : Nat} {e : TypeId} {z : Nat} {v : Value} {n : Nat} {xs : List Value} (h : w.ownsRow b e z v n xs) {x : Nat} {cs : Array Value} {T : TypeId} {y : Nat × Nat} (hx : w.heap[x]? = some (.cells cs T y)) (hT : T ≠ e) : some x ≠ v.ownBlock := fun he => by
  rcases h.2 with ⟨rfl, _⟩ | ⟨g, cap, cur, rfl, _, hg, _⟩
  · simp [Value.ownBlock] at he
  · simp [Value.ownBlock] at he
    subst he
    rw [hx] at hg
    injection hg with hg
    injection hg with _ hg
    exact hT hg
set_option maxHeartbeats 1600000 in
set_option maxRecDepth 100000 in
theorem copyCheck_to (b : Nat) (p v : Value) (w : World) (hp : p = .pointer none ∨ p = .pointer (some ⟨b, 0, none⟩)) (hc : w.heap[b]? = some (.cells #[p, v] 78 (0, 0))) :
    Calls Tryz.prog 75 #[.pointer (some ⟨b, 0, none⟩)] w fun e w' => e = .returned (.tuple #[]) ∧ w'.heap[b]? = some (.cells #[.pointer (some ⟨b, 0, none⟩), v] 78 (0, 0)) ∧ But b w w' := by
  obtain ⟨j, hj, hjs⟩ := Option.map_eq_some_iff.1 bld_size
  have h0 : w.cell? ⟨b, 0, none⟩ = some p := block_cell hc 0
  have hfz : w.frozen? ⟨b, 0, none⟩ = false := block_free hc 0
  have hsh : w.shape? b = some (78, 2) := by simp [World.shape?, hc]
  rcases hp with rfl | rfl
  · have HE : Hid ((w.setCell ⟨b, 0, none⟩ (.pointer (some ⟨b, 0, none⟩))).heap[b]? = some (.cells #[.pointer (some ⟨b, 0, none⟩), v] 78 (0, 0)) ∧ But b w (w.setCell ⟨b, 0, none⟩ (.pointer (some ⟨b, 0, none⟩)))) := ⟨heap_setCell_same w b 0 _ _ _ hc, (But.refl _ _).setCell 0 _⟩
    have HTO := Lib.hid (Lib.run_to_unsafe w ⟨b, 0, none⟩ Tryz.underlying76 Tryz.underlying157 hj (by rw [hjs]; decide) hsh (Nat.zero_lt_succ 1))
    have HFR := Lib.hid (Lib.run_from_unsafe w ⟨b, 0, none⟩ Tryz.underlying157 Tryz.underlying76 hj hsh bld_lies)
    clear hc hsh
    go_enter Tryz.func75, Tryz.ntmps75
    go_wp2_with fail
    rw [HTO.out]
    simp only [Result.andThen]
    rw [Oper.upon_value]
    go_wp2_with fail
    rw [run_callFunc_extern Tryz.func111 (by kernel_rfl) (by kernel_rfl) (by kernel_rfl) (e := Extern.AbiNoEscape.same) (by kernel_rfl)]
    rw [Lib.run_noEscape]
    simp only [Result.andThen]
    rw [Oper.upon_value]
    go_wp2_with fail
    rw [HFR.out]
    simp only [Result.andThen]
    rw [Oper.upon_value]
    go_wp2_with fail
    go_end0
    exact ⟨rfl, HE.out⟩
  · have HE : Hid (w.heap[b]? = some (.cells #[.pointer (some ⟨b, 0, none⟩), v] 78 (0, 0)) ∧ But b w w) := ⟨hc, But.refl _ _⟩
    have HN := Lib.hid (Lib.run_neq_ptr_same w ⟨b, 0, none⟩ Tryz.underlying76 hj)
    clear hc hsh
    go_enter Tryz.func75, Tryz.ntmps75
    go_wp2_with fail
    rw [HN.out]
    go_wp2_with fail
    go_end0
    exact ⟨rfl, HE.out⟩
/-- What WriteString leaves: the builder with the new bytes; blocks ahead of it, and boxes of other types, as they were. -/
def BwPost (b : Nat) (L : List UInt8) (s : ByteArray) (w : World) (e : Ending) (w' : World) : Prop :=
  ∃ v', e = .returned (.tuple #[.int .i64 s.size, .nilIface]) ∧ Bld b v' (L ++ s.data.toList) w' ∧ Below b w w' ∧
    ∀ x cs T z, T ≠ 5 → x ≠ b → w.heap[x]? = some (.cells cs T z) → w'.heap[x]? = some (.cells cs T z)
set_option maxHeartbeats 1600000 in
set_option maxRecDepth 100000 in
theorem writeStr_any (b : Nat) (v : Value) (L : List UInt8) (s : ByteArray) (w : World) (h : Bld b v L w) (hlen : L.length + s.size ≤ 1000000) : Calls Tryz.prog 36 #[.pointer (some ⟨b, 0, none⟩), .string s] w (BwPost b L s w) := by
  obtain ⟨i0, hi, hz0, hz1, hz2⟩ := byte_info
  have hlt := h.lt
  obtain ⟨⟨p, hp, hc⟩, hr, hn⟩ := h
  have HC := Lib.hid (copyCheck_to b p v w hp hc)
  have HR := Lib.hid hr; have HNE := Lib.hid hn; have HCC := Lib.hid hc
  clear hp hc hr hn
  go_enter Tryz.func36, Tryz.ntmps36
  go_wp2_with fail
  refine HC.out.mono ?_
  rintro e w1 ⟨rfl, hbk, hbut⟩
  have hs1 := hbut.size
  have hr1 : w1.ownsRow b 5 1 v L.length (Lib.byteCells L) := ownsRow_keep HR.out fun q hq => hbut.block q (HR.out.lt q hq).2 (fun e => HNE.out (by rw [hq, e]))
  have c1 : w1.cell? ⟨b, 1, none⟩ = some v := block_cell hbk 1
  have HB1 := Lib.hid hbut; have HBK := Lib.hid hbk; have HOW := Lib.hid hr1
  clear hbut hbk hr1 HC
  go_wp2_with (at_builtin; refine Lib.wpList_append_own_string _ rfl _ _ 50 9 rfl b 5 i0 Tryz.underlying50 Tryz.underlying9 hi hz0 hz1 hz2 _ _ _ rfl HOW.out s rfl (by unfold maxLen; omega) (by omega) (by omega) ?_)
  intro v' w2 hown' hgrow _
  have hs2 := hgrow.size
  have hb2 : w2.heap[b]? = some (.cells #[.pointer (some ⟨b, 0, none⟩), v] 78 (0, 0)) := (hgrow.block b (by omega) (fun e => HNE.out e.symm)).trans HBK.out
  have d1 : w2.cell? ⟨b, 1, none⟩ = some v := block_cell hb2 1
  have f1 : w2.frozen? ⟨b, 1, none⟩ = false := block_free hb2 1
  have hb3 : (w2.setCell ⟨b, 1, none⟩ v').heap[b]? = some (.cells #[.pointer (some ⟨b, 0, none⟩), v'] 78 (0, 0)) := heap_setCell_same w2 b 1 _ _ v' hb2
  have hap : some b ≠ v'.ownBlock := row_apart hown' hb2 (by decide)
  have hoth : ∀ q, q ≠ b → (w2.setCell ⟨b, 1, none⟩ v').heap[q]? = w2.heap[q]? := fun q hq => heap_setCell_other _ _ _ _ hq
  have HBLD : Hid (Bld b v' (L ++ s.data.toList) (w2.setCell ⟨b, 1, none⟩ v')) := by
    refine ⟨⟨_, .inr rfl, hb3⟩, ?_, fun e => hap e.symm⟩
    have hown2 : w2.ownsRow b 5 1 v' (L ++ s.data.toList).length (Lib.byteCells (L ++ s.data.toList)) := by
      have e1 : (L ++ s.data.toList).length = L.length + s.size := by rw [List.length_append, Lib.size_eq]
      have e2 : Lib.byteCells (L ++ s.data.toList) = Lib.byteCells L ++ Lib.strCells s := by rw [Lib.strCells_eq]; simp [Lib.byteCells]
      rw [e1, e2]; exact hown'
    exact ownsRow_keep hown2 fun q hq => hoth q (fun e => hap (by rw [hq, e]))
  have HBEL : Hid (Below b w (w2.setCell ⟨b, 1, none⟩ v')) := by
    refine ⟨hgrow.os.trans HB1.out.os, hgrow.tape.trans HB1.out.tape, hgrow.output.trans HB1.out.output, by simp; omega, fun q hq => ?_⟩
    rw [hoth q (by omega), hgrow.block q (by omega) (fun e => by have := (HOW.out.lt q e.symm).1; omega)]
    exact HB1.out.block q (by omega) (by omega)
  have HBOX : Hid (∀ x cs T z, T ≠ 5 → x ≠ b → w.heap[x]? = some (.cells cs T z) → (w2.setCell ⟨b, 1, none⟩ v').heap[x]? = some (.cells cs T z)) := fun x cs T z hT hx hh => by
    have hxl := (Array.getElem?_eq_some_iff.1 hh).1
    have h1 : w1.heap[x]? = some (.cells cs T z) := (HB1.out.block x hxl hx).trans hh
    rw [hoth x hx, hgrow.block x (by omega) (row_apart HOW.out h1 hT)]
    exact h1
  obtain ⟨ao, n', cap, rfl⟩ : ∃ ao n' cap, v' = .slice ao n' cap := by
    rcases hown'.2 with ⟨hv, _⟩ | ⟨g, cap, cur, hv, _⟩
    · exact ⟨_, _, _, hv⟩
    · exact ⟨_, _, _, hv⟩
  clear hown' hgrow hb2 hb3 hap hoth HBK HNE HOW HB1 HR HCC
  go_wp2_with fail
  go_ret2
  exact ⟨_, rfl, HBLD.out, HBEL.out, HBOX.out⟩
theorem bldLen_any (b : Nat) (v : Value) (L : List UInt8) (w : World) (h : Bld b v L w) : Calls Tryz.prog 39 #[.pointer (some ⟨b, 0, none⟩)] w fun e w' => e = .returned (.int .i64 L.length) ∧ w' = w := by
  have := Tryz.Builder_Len b b (Lib.byteCells L) w h.is
  rwa [Lib.byteCells_length] at this
theorem bldString_any (b : Nat) (v : Value) (L : List UInt8) (w : World) (h : Bld b v L w) : Calls Tryz.prog 40 #[.pointer (some ⟨b, 0, none⟩)] w fun e w' => e = .returned (.string (bs L)) ∧ Below b w w' := by
  by_cases hL : L = []
  · subst hL
    exact (Tryz.Builder_String_empty b b w h.is (Nat.le_of_lt h.lt)).mono fun e w' ⟨h1, h2⟩ => ⟨h1, h2⟩
  · exact Tryz.Builder_String b b L w h.is hL
end Go.Proofs.YtkhedjfdjjeopaaGreatDoor
/-
  Plain rendered texts: lines of fields joined by blanks; the fields and the lines are read back.
  No condition.
-/
namespace Go.Proofs.YtkhedjfdjjeopaaGreatDoor
set_option linter.unusedSimpArgs false
set_option linter.unusedVariables false
open Go

/-- A field of a rendered line: not empty, bytes from 33 to 126, no '#'. -/
def fldOk (x : ByteArray) : Prop := x.data.toList ≠ [] ∧ ∀ b ∈ x.data.toList, 33 ≤ b.toNat ∧ b.toNat ≤ 126 ∧ b ≠ 35
def restT : List ByteArray → List UInt8
  | [] => []
  | f :: r => 32 :: (f.data.toList ++ restT r)
def lineT : List ByteArray → List UInt8
  | [] => []
  | f :: r => f.data.toList ++ restT r
def textT : List (List ByteArray) → List UInt8
  | [] => []
  | f :: r => lineT f ++ 10 :: textT r
theorem textT_app (a b : List (List ByteArray)) : textT (a ++ b) = textT a ++ textT b := by
  induction a with
  | nil => rfl
  | cons f r ih => simp [textT, ih]
theorem fldOk.no {x : ByteArray} (h : fldOk x) {c : UInt8} (hc : c.toNat ≤ 32 ∨ c = 35) : c ∉ x.data.toList := fun hm => by
  have := h.2 c hm
  rcases hc with h1 | h1
  · omega
  · exact this.2.2 h1
theorem splitT_app (c : UInt8) (x y : List UInt8) (h : c ∉ x) : splitL c (x ++ y) = (x ++ (splitL c y).headD []) :: (splitL c y).tail := by
  induction x with
  | nil => exact splitL_eq c y
  | cons a x ih =>
    have h1 : a ≠ c := fun e => h (by simp [e])
    have h2 : c ∉ x := fun e => h (by simp [e])
    rw [List.cons_append, splitL, if_neg h1, ih h2]
    rfl
theorem splitT_cut (c : UInt8) (x y : List UInt8) (h : c ∉ x) : splitL c (x ++ c :: y) = x :: splitL c y := by
  rw [splitT_app c x _ h, splitL, if_pos rfl]
  simp
theorem split_restT {fs : List ByteArray} (h : ∀ x ∈ fs, fldOk x) : splitL 32 (restT fs) = [] :: fs.map (·.data.toList) := by
  induction fs with
  | nil => rfl
  | cons f r ih =>
    rw [restT, splitL, if_pos rfl, splitT_app 32 _ _ ((h f (.head _)).no (.inl (by decide))), ih (fun y hy => h y (.tail _ hy))]
    simp
theorem restT_mem {fs : List ByteArray} (h : ∀ x ∈ fs, fldOk x) : ∀ b ∈ restT fs, 32 ≤ b.toNat ∧ b.toNat ≤ 126 ∧ b ≠ 35 := by
  induction fs with
  | nil => intro b hb; simp [restT] at hb
  | cons f r ih =>
    intro b hb
    simp only [restT, List.mem_cons, List.mem_append] at hb
    rcases hb with rfl | hb | hb
    · decide
    · obtain ⟨h1, h2, h3⟩ := (h f (.head _)).2 b hb
      exact ⟨by omega, h2, h3⟩
    · exact ih (fun y hy => h y (.tail _ hy)) b hb
theorem lineT_mem {fs : List ByteArray} (h : ∀ x ∈ fs, fldOk x) : ∀ b ∈ lineT fs, 32 ≤ b.toNat ∧ b.toNat ≤ 126 ∧ b ≠ 35 := by
  cases fs with
  | nil => intro b hb; simp [lineT] at hb
  | cons f r =>
    intro b hb
    simp only [lineT, List.mem_append] at hb
    rcases hb with hb | hb
    · obtain ⟨h1, h2, h3⟩ := (h f (.head _)).2 b hb
      exact ⟨by omega, h2, h3⟩
    · exact restT_mem (fun y hy => h y (.tail _ hy)) b hb
theorem takeT_all {l : List UInt8} (h : ∀ b ∈ l, b ≠ 35) : l.takeWhile (fun b => b != 35) = l := by
  induction l with
  | nil => rfl
  | cons a l ih =>
    rw [List.takeWhile_cons, if_pos (by simp [h a (.head _)]), ih (fun b hb => h b (.tail _ hb))]
theorem fields_lineT {fs : List ByteArray} (h : ∀ x ∈ fs, fldOk x) : fieldsB (bs (lineT fs)) = fs := by
  have hl := lineT_mem h
  unfold fieldsB fieldsL
  rw [bs_data, takeT_all fun b hb => (hl b hb).2.2]
  have hs : (splitL 32 (lineT fs)).filter (fun f => !f.isEmpty) = fs.map (·.data.toList) := by
    cases fs with
    | nil => rfl
    | cons f r =>
      rw [lineT, splitT_app 32 _ _ ((h f (.head _)).no (.inl (by decide))), split_restT (fun y hy => h y (.tail _ hy))]
      simp only [List.headD_cons, List.tail_cons, List.append_nil]
      refine List.filter_eq_self.2 fun x hx => ?_
      have hx' : x ∈ (f :: r).map (·.data.toList) := hx
      obtain ⟨g, hg, rfl⟩ := List.mem_map.1 hx'
      have := (h g hg).1
      cases e : g.data.toList with
      | nil => exact absurd e this
      | cons _ _ => rfl
  rw [hs, map_bs]
theorem split_textT {ls : List (List ByteArray)} (h : ∀ f ∈ ls, ∀ x ∈ f, fldOk x) : splitL 10 (textT ls) = ls.map lineT ++ [[]] := by
  induction ls with
  | nil => rfl
  | cons f r ih =>
    rw [textT, splitT_cut 10 _ _ (fun hm => by have := (lineT_mem (h f (.head _))) 10 hm; exact absurd this.1 (by decide)), ih (fun g hg => h g (.tail _ hg))]
    rfl
theorem lines_textT {ls : List (List ByteArray)} (h : ∀ f ∈ ls, ∀ x ∈ f, fldOk x) : linesL (textT ls) = ls.map lineT := by
  rw [linesL_of (split_textT h), if_pos rfl]
theorem textT_mem {ls : List (List ByteArray)} (h : ∀ f ∈ ls, ∀ x ∈ f, fldOk x) : ∀ b ∈ textT ls, b = 10 ∨ (32 ≤ b.toNat ∧ b.toNat ≤ 126) := by
  induction ls with
  | nil => intro b hb; simp [textT] at hb
  | cons f r ih =>
    intro b hb
    simp only [textT, List.mem_append, List.mem_cons] at hb
    rcases hb with hb | rfl | hb
    · obtain ⟨h1, h2, _⟩ := lineT_mem (h f (.head _)) b hb
      exact .inr ⟨h1, h2⟩
    · exact .inl rfl
    · exact ih (fun g hg => h g (.tail _ hg)) b hb
theorem linesB_textT {ls : List (List ByteArray)} (h : ∀ f ∈ ls, ∀ x ∈ f, fldOk x) (hz : (textT ls).length ≤ 20000) (hl : ls.length ≤ 1000) : linesB (bs (textT ls)) = (ls.map (fun f => bs (lineT f)), 0) := by
  unfold linesB
  have hs : (bs (textT ls)).size = (textT ls).length := bs_size _
  rw [if_neg (by omega)]
  have ha : allTo (okByte (bs (textT ls))) (bs (textT ls)).size = true := by
    rw [allTo_iff]
    intro k hk
    rw [hs] at hk
    unfold okByte byteAt
    rw [bs_data, List.getD_eq_getElem?_getD, List.getElem?_eq_getElem hk]
    simp only [Option.getD_some]
    rcases textT_mem h _ (List.getElem_mem hk) with e | ⟨e1, e2⟩
    · rw [e]; rfl
    · have a1 : (32 : Int) ≤ ((textT ls)[k].toNat : Int) := by omega
      have a2 : ((textT ls)[k].toNat : Int) ≤ 126 := by omega
      simp [a1, a2]
  rw [ha, bs_data, lines_textT h, if_neg (by simp), if_neg (by simpa using hl), List.map_map]
  rfl
end Go.Proofs.YtkhedjfdjjeopaaGreatDoor
/-
  The plain text of a crew, and that the plain parser reads it back.
  Condition: the crew is valid for the timetable; the text takes no more than 20000 bytes.
-/
namespace Go.Proofs.YtkhedjfdjjeopaaGreatDoor
set_option linter.unusedSimpArgs false
set_option linter.unusedVariables false
open Go.RowKit

/-- A point between sums. -/
theorem sum_find {f : Nat → Int} {x : Int} : ∀ {n : Nat}, 0 ≤ x → x < sumTo f n → ∃ k, k < n ∧ sumTo f k ≤ x ∧ x < sumTo f (k + 1) := by
  intro n
  induction n with
  | zero => intro h0 h1; simp [sumTo] at h1; omega
  | succ n ih =>
    intro h0 h1
    by_cases h : x < sumTo f n
    · obtain ⟨k, hk, a, b⟩ := ih h0 h
      exact ⟨k, by omega, a, b⟩
    · exact ⟨n, by omega, by omega, h1⟩
theorem yearSum_all : yearSum 102 = 37255 := by decide +kernel
theorem day_ex {day : Int} (h0 : 0 ≤ day) (h1 : day ≤ 36889) : ∃ y m d, validB y m d = true ∧ dayB y m d = day := by
  obtain ⟨k, hk, a, b⟩ := sum_find (f := fun i => yDays (1999 + i)) (x := day + 365) (n := 102) (by omega) (by have := yearSum_all; unfold yearSum at this; omega)
  have b' : day + 365 < sumTo (fun i => yDays (1999 + i)) k + yDays (1999 + k) := b
  have e := monSum_year (1999 + k)
  obtain ⟨j, hj, c, d⟩ := sum_find (f := fun i => mDays (1999 + k) (1 + i)) (x := day + 365 - sumTo (fun i => yDays (1999 + i)) k) (n := 12) (by omega) (by unfold monSum at e; omega)
  have d' : day + 365 - sumTo (fun i => yDays (1999 + i)) k < sumTo (fun i => mDays (1999 + k) (1 + i)) j + mDays (1999 + k) (1 + j) := d
  refine ⟨1999 + k, 1 + j, day + 365 - sumTo (fun i => yDays (1999 + i)) k - sumTo (fun i => mDays (1999 + k) (1 + i)) j + 1, validB_iff.2 ⟨by omega, by omega, by omega, by omega⟩, ?_⟩
  unfold dayB yearSum monSum
  have e1 : (1999 + (k : Int) - 1999).toNat = k := by omega
  have e2 : (1 + (j : Int) - 1).toNat = j := by omega
  rw [e1, e2]
  omega
/-- The date and the clock time of an instant. -/
noncomputable def insD (t : Int) : ByteArray := open Classical in if h : ∃ x : Int × Int × Int, validB x.1 x.2.1 x.2.2 = true ∧ dayB x.1 x.2.1 x.2.2 = t / 1440 then fmtDate h.choose.1 h.choose.2.1 h.choose.2.2 else noStr
noncomputable def insC (t : Int) : ByteArray := fmtClock (t % 1440)
theorem ins_is {t : Int} (h0 : 0 ≤ t) (h1 : t < 52596000) : IsIns t (insD t ++ blankS ++ insC t) := by
  obtain ⟨y, m, d, a, b⟩ := day_ex (day := t / 1440) (by omega) (by omega)
  have h : ∃ x : Int × Int × Int, validB x.1 x.2.1 x.2.2 = true ∧ dayB x.1 x.2.1 x.2.2 = t / 1440 := ⟨(y, m, d), a, b⟩
  refine ⟨h.choose.1, h.choose.2.1, h.choose.2.2, h.choose_spec.1, h.choose_spec.2, ?_⟩
  unfold insD insC
  rw [dif_pos h]
theorem IsIns.eqT {t : Int} {s : ByteArray} (h : IsIns t s) (h0 : 0 ≤ t) (h1 : t < 52596000) : s = insD t ++ blankS ++ insC t := h.eq (ins_is h0 h1)
theorem dgt_fld {n : Nat} (h : n < 10) : 33 ≤ (dgt n).toNat ∧ (dgt n).toNat ≤ 126 ∧ dgt n ≠ 35 := by
  have := dgt_nat h
  refine ⟨by omega, by omega, fun e => ?_⟩
  rw [e] at this
  have h35 : (35 : UInt8).toNat = 35 := rfl
  omega
theorem fld_of {l : List UInt8} (hne : l ≠ []) (h : ∀ b ∈ l, 33 ≤ b.toNat ∧ b.toNat ≤ 126 ∧ b ≠ 35) : fldOk (bs l) := ⟨hne, h⟩
theorem insD_fld {t : Int} (h0 : 0 ≤ t) (h1 : t < 52596000) : fldOk (insD t) ∧ (insD t).size = 10 := by
  obtain ⟨y, m, d, a, b, e⟩ := ins_is h0 h1
  have e' : insD t = fmtDate y m d := by
    have h : ∃ x : Int × Int × Int, validB x.1 x.2.1 x.2.2 = true ∧ dayB x.1 x.2.1 x.2.2 = t / 1440 := ⟨(y, m, d), a, b⟩
    unfold insD
    rw [dif_pos h]
    obtain ⟨q1, q2, q3⟩ := dayB_inj h.choose_spec.1 a (h.choose_spec.2.trans b.symm)
    rw [q1, q2, q3]
  obtain ⟨v1, v2, v3, v4⟩ := validB_iff.1 a
  have v5 := mDays_bd y m
  have p1 := pad4 (n := y.toNat) (by omega) (by omega)
  have p2 := pad2 (n := m.toNat) (by omega)
  have p3 := pad2 (n := d.toNat) (by omega)
  rw [show ((y.toNat : Nat) : Int) = y by omega] at p1
  rw [show ((m.toNat : Nat) : Int) = m by omega] at p2
  rw [show ((d.toNat : Nat) : Int) = d by omega] at p3
  have e2 : insD t = bs ([dgt (y.toNat / 1000), dgt (y.toNat / 100 % 10), dgt (y.toNat / 10 % 10), dgt (y.toNat % 10), 45, dgt (m.toNat / 10), dgt (m.toNat % 10), 45, dgt (d.toNat / 10), dgt (d.toNat % 10)]) := by
    rw [e']
    unfold fmtDate
    rw [p1, p2, p3]
    show bs _ ++ bs [45] ++ bs _ ++ bs [45] ++ bs _ = _
    simp only [bs_app]
    rfl
  rw [e2]
  refine ⟨fld_of (by simp) fun c hc => ?_, by rw [bs_size]; rfl⟩
  simp only [List.mem_cons, List.not_mem_nil, or_false] at hc
  rcases hc with rfl | rfl | rfl | rfl | rfl | rfl | rfl | rfl | rfl | rfl
  all_goals first | exact dgt_fld (by omega) | decide
theorem insC_fld {t : Int} : fldOk (insC t) ∧ (insC t).size = 5 := by
  unfold insC fmtClock
  have p2 := pad2 (n := (t % 1440 / 60).toNat) (by omega)
  have p3 := pad2 (n := (t % 1440 % 60).toNat) (by omega)
  rw [show (((t % 1440 / 60).toNat : Nat) : Int) = t % 1440 / 60 by omega] at p2
  rw [show (((t % 1440 % 60).toNat : Nat) : Int) = t % 1440 % 60 by omega] at p3
  rw [p2, p3]
  have e : bs [dgt ((t % 1440 / 60).toNat / 10), dgt ((t % 1440 / 60).toNat % 10)] ++ colS ++ bs [dgt ((t % 1440 % 60).toNat / 10), dgt ((t % 1440 % 60).toNat % 10)] = bs [dgt ((t % 1440 / 60).toNat / 10), dgt ((t % 1440 / 60).toNat % 10), 58, dgt ((t % 1440 % 60).toNat / 10), dgt ((t % 1440 % 60).toNat % 10)] := by
    show bs _ ++ bs [58] ++ bs _ = _
    simp only [bs_app]
    rfl
  rw [e]
  refine ⟨fld_of (by simp) fun c hc => ?_, by rw [bs_size]; rfl⟩
  simp only [List.mem_cons, List.not_mem_nil, or_false] at hc
  rcases hc with rfl | rfl | rfl | rfl | rfl
  all_goals first | exact dgt_fld (by omega) | decide
theorem ins_read {t : Int} (h0 : 0 ≤ t) (h1 : t < 52596000) : insB (insD t ++ spS ++ insC t) = (t, 0) := (ins_is h0 h1).back h0 h1
theorem numS_fld {n : Int} (h0 : 0 ≤ n) : fldOk (numS n) := by
  unfold numS
  rw [Lib.itoa, if_neg (by omega)]
  obtain ⟨h1, _, _⟩ := dec_facts n.toNat
  refine fld_of (fun e => by have := dec_pos n.toNat; rw [e] at this; simp at this) fun b hb => ?_
  obtain ⟨i, hi, rfl⟩ := List.getElem_of_mem hb
  have := h1 i hi
  unfold digAt numberI byteAt at this
  rw [bs_data, List.getD_eq_getElem?_getD, List.getElem?_eq_getElem hi] at this
  simp only [Option.getD_some, Bool.and_eq_true, decide_eq_true_eq] at this
  refine ⟨by omega, by omega, fun e => ?_⟩
  rw [e] at this
  have h35 : (35 : UInt8).toNat = 35 := rfl
  omega
theorem bytes_fld {s : ByteArray} (h1 : 1 ≤ s.size) (h : ∀ i, i < s.size → 36 ≤ byteAt s i ∧ byteAt s i ≤ 126) : fldOk s := by
  refine ⟨fun e => by rw [Lib.size_eq, e] at h1; simp at h1, fun b hb => ?_⟩
  obtain ⟨i, hi, rfl⟩ := List.getElem_of_mem hb
  have := h i (by rw [Lib.size_eq]; exact hi)
  unfold byteAt at this
  rw [List.getD_eq_getElem?_getD, List.getElem?_eq_getElem hi] at this
  simp only [Option.getD_some] at this
  refine ⟨by omega, by omega, fun e => ?_⟩
  rw [e] at this
  have h35 : (35 : UInt8).toNat = 35 := rfl
  omega
theorem name_fld {s : ByteArray} (h : isNameB s = true) : fldOk s := by
  unfold isNameB at h
  simp only [Bool.and_eq_true, decide_eq_true_eq] at h
  obtain ⟨⟨h1, h2⟩, h3⟩ := h
  refine bytes_fld h1 fun i hi => ?_
  have := allTo_iff.1 h3 i hi
  unfold nmAt lowerI numberI at this
  simp only [Bool.or_eq_true, Bool.and_eq_true, decide_eq_true_eq, beq_iff_eq] at this
  omega
theorem airport_fld {s : ByteArray} (h : isAirportB s = true) : fldOk s := by
  unfold isAirportB at h
  simp only [Bool.and_eq_true, beq_iff_eq] at h
  refine bytes_fld (by omega) fun i hi => ?_
  have := allTo_iff.1 h.2 i hi
  unfold upAt upperI at this
  simp only [Bool.and_eq_true, decide_eq_true_eq] at this
  omega
end Go.Proofs.YtkhedjfdjjeopaaGreatDoor
/-
  The lines of a valid crew's text, and that the plain parser reads the crew back.
  Condition: the crew is valid for the timetable; the text takes no more than 20000 bytes.
-/
namespace Go.Proofs.YtkhedjfdjjeopaaGreatDoor
set_option linter.unusedSimpArgs false
set_option linter.unusedVariables false
open Go.RowKit

def pF (p : GPerson) : List ByteArray := [personS, numS p.id, p.name, p.base, rankNm p.rank, numS p.sen]
def tF (id : Int) (s : ByteArray) : List ByteArray := [typeS, numS id, s]
noncomputable def vF (id : Int) (v : GShift) : List ByteArray := [vacS, numS id, insD v.at_, insC v.at_, insD (v.off - 1), insC (v.off - 1)]
noncomputable def linesP (p : GPerson) : List (List ByteArray) := pF p :: (p.types.map (tF p.id) ++ p.vacs.map (vF p.id))
noncomputable def crewF (l : List GPerson) : List (List ByteArray) := l.flatMap linesP
noncomputable def crewS (l : List GPerson) : ByteArray := bs (textT (crewF l))
structure PGood (p : GPerson) : Prop where
  id : 1 ≤ p.id ∧ p.id ≤ 999999
  name : isNameB p.name = true
  base : isAirportB p.base = true
  rank : 0 ≤ p.rank ∧ p.rank < 3
  sen : 1 ≤ p.sen ∧ p.sen ≤ 999999
  t : ∀ s ∈ p.types, isNameB s = true
  v : ∀ v ∈ p.vacs, 0 ≤ v.at_ ∧ v.at_ < v.off ∧ v.off ≤ 52596000
  lt : p.types.length ≤ 8
  lv : p.vacs.length ≤ 8
theorem pErr_good {codes : List ByteArray} {l : List GPerson} {i : Nat} (hc : ∀ c, hasB codes c = true → isAirportB c = true) (h : pErr codes l i = 0) : PGood (l.getD i noPerson) ∧ (0 < i → (l.getD (i - 1) noPerson).id < (l.getD i noPerson).id) := by
  unfold pErr at h
  split at h
  · exact absurd h (by decide)
  rename_i h1
  split at h
  · exact absurd h (by decide)
  rename_i h2
  split at h
  · exact absurd h (by decide)
  rename_i h3
  split at h
  · exact absurd h (by decide)
  rename_i h4
  split at h
  · exact absurd h (by decide)
  rename_i h5
  split at h
  · exact absurd h (by decide)
  split at h
  · exact absurd h (by decide)
  rename_i h7
  have g1 := not_false_true h1
  have g2 : rankOk (l.getD i noPerson).rank = true := not_false_true fun e => h5 (.inl e)
  have g3 : idOk (l.getD i noPerson).sen = true := not_false_true fun e => h5 (.inr e)
  unfold idOk at g1 g3
  unfold rankOk at g2
  simp only [Bool.and_eq_true, decide_eq_true_eq] at g1 g2 g3
  unfold listsE at h
  have ht : firstErr (typeErr (l.getD i noPerson).types) (l.getD i noPerson).types.length = 0 := by
    split at h
    · rename_i h8; exact absurd h h8
    · rename_i h8; exact Classical.not_not.1 h8
  rw [if_neg (fun hn => hn ht)] at h
  refine ⟨⟨g1, not_false_true h3, hc _ (not_false_true h4), g2, g3, fun s hs => ?_, fun s hs => ?_, by omega, by omega⟩, fun hi => by omega⟩
  · obtain ⟨j, hj, rfl⟩ := mem_getD hs noStr
    have h9 := firstErr_zero ht j hj
    unfold typeErr at h9
    split at h9
    · exact absurd h9 (by decide)
    · rename_i h10; exact not_false_true h10
  · obtain ⟨j, hj, rfl⟩ := mem_getD hs noShift
    have h9 := firstErr_zero h j hj
    unfold vacErr at h9
    split at h9
    · exact absurd h9 (by decide)
    · rename_i h10
      have h11 := not_false_true h10
      unfold vacOk at h11
      simp only [Bool.and_eq_true, decide_eq_true_eq] at h11
      omega
theorem CrewOk.ports {t : GTT} {l : List GPerson} (h : CrewOk t l) : ∀ c, hasB (aCodes t.airports) c = true → isAirportB c = true := fun c hc => by
  rw [hasB_iff, aCodes, List.mem_map] at hc
  obtain ⟨a, ham, e⟩ := hc
  rw [← e]
  obtain ⟨i, hi, rfl⟩ := mem_getD ham noAirport
  have h1 := h.tt.a i hi
  unfold aErr at h1
  split at h1
  · exact absurd h1 (by decide)
  · rename_i h2; exact not_false_true h2
theorem CrewOk.good {t : GTT} {l : List GPerson} (h : CrewOk t l) : ∀ p ∈ l, PGood p := fun p hp => by
  obtain ⟨i, hi, rfl⟩ := mem_getD hp noPerson
  exact (pErr_good h.ports (h.p i hi)).1
theorem CrewOk.incr {t : GTT} {l : List GPerson} (h : CrewOk t l) {i : Nat} (h0 : 0 < i) (hi : i < l.length) : (l.getD (i - 1) noPerson).id < (l.getD i noPerson).id := (pErr_good h.ports (h.p i hi)).2 h0
theorem CrewOk.less {t : GTT} {l : List GPerson} (h : CrewOk t l) : ∀ {j i : Nat}, i < j → j < l.length → (l.getD i noPerson).id < (l.getD j noPerson).id := by
  intro j
  induction j with
  | zero => intro i hi; omega
  | succ j ih =>
    intro i hij hj
    have h1 := h.incr (i := j + 1) (by omega) hj
    rw [Nat.add_sub_cancel] at h1
    rcases Nat.lt_or_eq_of_le (Nat.le_of_lt_succ hij) with h2 | h2
    · have := ih h2 (by omega); omega
    · subst h2; exact h1
theorem personS_fld : fldOk personS := ⟨by decide, by decide⟩
theorem typeS_fld : fldOk typeS := ⟨by decide, by decide⟩
theorem vacS_fld : fldOk vacS := ⟨by decide, by decide⟩
theorem rankNm_fld (r : Int) : fldOk (rankNm r) := by
  unfold rankNm
  split
  · exact ⟨by decide, by decide⟩
  · split
    · exact ⟨by decide, by decide⟩
    · exact ⟨by decide, by decide⟩
theorem PGood.lines {p : GPerson} (h : PGood p) : ∀ f ∈ linesP p, ∀ x ∈ f, fldOk x := by
  have hid := numS_fld (n := p.id) (by have := h.id; omega)
  intro f hf
  unfold linesP at hf
  rcases List.mem_cons.1 hf with rfl | hf
  · intro x hx
    simp only [pF, List.mem_cons, List.not_mem_nil, or_false] at hx
    rcases hx with rfl | rfl | rfl | rfl | rfl | rfl
    · exact personS_fld
    · exact hid
    · exact name_fld h.name
    · exact airport_fld h.base
    · exact rankNm_fld _
    · exact numS_fld (by have := h.sen; omega)
  · rcases List.mem_append.1 hf with hf | hf
    · obtain ⟨s, hs, rfl⟩ := List.mem_map.1 hf
      intro x hx
      simp only [tF, List.mem_cons, List.not_mem_nil, or_false] at hx
      rcases hx with rfl | rfl | rfl
      · exact typeS_fld
      · exact hid
      · exact name_fld (h.t _ hs)
    · obtain ⟨v, hv, rfl⟩ := List.mem_map.1 hf
      have := h.v v hv
      intro x hx
      simp only [vF, List.mem_cons, List.not_mem_nil, or_false] at hx
      rcases hx with rfl | rfl | rfl | rfl | rfl | rfl
      · exact vacS_fld
      · exact hid
      · exact (insD_fld (by omega) (by omega)).1
      · exact insC_fld.1
      · exact (insD_fld (by omega) (by omega)).1
      · exact insC_fld.1
theorem crew_fields {l : List GPerson} (h : ∀ p ∈ l, PGood p) : ∀ f ∈ crewF l, ∀ x ∈ f, fldOk x := fun f hf => by
  unfold crewF at hf
  obtain ⟨p, hp, hf'⟩ := List.mem_flatMap.1 hf
  exact (h p hp).lines f hf'
/-- The lines, one by one, lead from one list of persons to another, without an error. -/
inductive RunL : List (List ByteArray) → List GPerson → List GPerson → Prop
  | nil (ps : List GPerson) : RunL [] ps ps
  | cons {f : List ByteArray} {fs : List (List ByteArray)} {ps qs rs : List GPerson} (h : lineB f ps = (qs, 0)) (hr : RunL fs qs rs) : RunL (f :: fs) ps rs
theorem RunL.app {a b : List (List ByteArray)} {ps qs rs : List GPerson} (h : RunL a ps qs) (h' : RunL b qs rs) : RunL (a ++ b) ps rs := by
  induction h with
  | nil _ => exact h'
  | cons h _ ih => exact .cons h (ih h')
theorem rank_back {r : Int} (h : 0 ≤ r ∧ r < 3) : rankB (rankNm r) = r := by
  have : r = 0 ∨ r = 1 ∨ r = 2 := by omega
  rcases this with rfl | rfl | rfl <;> decide +kernel
theorem num_back {n : Int} (h : 1 ≤ n ∧ n ≤ 999999) : parseB (numS n) = (n, 0) := by
  have := parse_format n
  rw [if_pos (by omega)] at this
  exact this
theorem line_person {p : GPerson} (h : PGood p) (ps : List GPerson) : lineB (pF p) ps = (ps ++ [⟨p.id, p.name, p.base, p.rank, p.sen, [], []⟩], 0) := by
  have e1 : (pF p).getD 1 noStr = numS p.id := rfl
  have e2 : (pF p).getD 2 noStr = p.name := rfl
  have e3 : (pF p).getD 3 noStr = p.base := rfl
  have e4 : (pF p).getD 4 noStr = rankNm p.rank := rfl
  have e5 : (pF p).getD 5 noStr = numS p.sen := rfl
  have el : (pF p).length = 6 := rfl
  unfold lineB
  rw [if_pos (show (pF p).getD 0 noStr = personS from rfl), if_neg (by simp [el]), e1, e2, e3, e4, e5, num_back h.id, num_back h.sen, rank_back h.rank]
  rw [if_neg]
  have := h.rank
  simp
  omega
theorem id_last {ps : List GPerson} {q : GPerson} (h : ∀ p ∈ ps, p.id ≠ q.id) : idAt (ids (ps ++ [q])) q.id = some ps.length := by
  have e : ids (ps ++ [q]) = ids ps ++ [q.id] := by simp [ids]
  rw [e, idAt_snoc, idAt_none (l := ids ps)]
  · simp [ids]
  · intro j hj hc
    have hm := List.mem_of_getElem? hc
    unfold ids at hm
    obtain ⟨p, hp, he⟩ := List.mem_map.1 hm
    exact h p hp he
theorem line_type {ps : List GPerson} {q : GPerson} {s : ByteArray} (hid : 1 ≤ q.id ∧ q.id ≤ 999999) (h : ∀ p ∈ ps, p.id ≠ q.id) : lineB (tF q.id s) (ps ++ [q]) = (ps ++ [q.addT s], 0) := by
  have e1 : (tF q.id s).getD 1 noStr = numS q.id := rfl
  have e2 : (tF q.id s).getD 2 noStr = s := rfl
  have el : (tF q.id s).length = 3 := rfl
  unfold lineB
  rw [if_neg (show ¬ (tF q.id s).getD 0 noStr = personS by show ¬ typeS = personS; decide), if_pos (show (tF q.id s).getD 0 noStr = typeS from rfl), if_neg (by simp [el]), e1, e2, num_back hid, if_neg (by simp)]
  dsimp only
  rw [id_last h]
  have e3 : (ps ++ [q]).getD ps.length noPerson = q := by rw [List.getD_eq_getElem?_getD, List.getElem?_append_right (Nat.le_refl _), Nat.sub_self]; rfl
  dsimp only
  rw [e3, List.set_append_right _ _ (Nat.le_refl _), Nat.sub_self]
  rfl
theorem line_vac {ps : List GPerson} {q : GPerson} {v : GShift} (hid : 1 ≤ q.id ∧ q.id ≤ 999999) (hv : 0 ≤ v.at_ ∧ v.at_ < v.off ∧ v.off ≤ 52596000) (h : ∀ p ∈ ps, p.id ≠ q.id) : lineB (vF q.id v) (ps ++ [q]) = (ps ++ [q.addV v], 0) := by
  have e1 : (vF q.id v).getD 1 noStr = numS q.id := rfl
  have e2 : (vF q.id v).getD 2 noStr = insD v.at_ := rfl
  have e3 : (vF q.id v).getD 3 noStr = insC v.at_ := rfl
  have e4 : (vF q.id v).getD 4 noStr = insD (v.off - 1) := rfl
  have e5 : (vF q.id v).getD 5 noStr = insC (v.off - 1) := rfl
  have el : (vF q.id v).length = 6 := rfl
  unfold lineB
  rw [if_neg (show ¬ (vF q.id v).getD 0 noStr = personS by show ¬ vacS = personS; decide), if_neg (show ¬ (vF q.id v).getD 0 noStr = typeS by show ¬ vacS = typeS; decide), if_pos (show (vF q.id v).getD 0 noStr = vacS from rfl), if_neg (by simp [el]), e1, e2, e3, e4, e5, num_back hid,
    ins_read (t := v.at_) (by omega) (by omega), ins_read (t := v.off - 1) (by omega) (by omega), if_neg (by simp)]
  dsimp only
  rw [id_last h]
  have e6 : (ps ++ [q]).getD ps.length noPerson = q := by rw [List.getD_eq_getElem?_getD, List.getElem?_append_right (Nat.le_refl _), Nat.sub_self]; rfl
  dsimp only
  rw [e6, List.set_append_right _ _ (Nat.le_refl _), Nat.sub_self, Int.sub_add_cancel]
  rfl
theorem run_types {ps : List GPerson} : ∀ (ts : List ByteArray) (q : GPerson), (1 ≤ q.id ∧ q.id ≤ 999999) → (∀ p ∈ ps, p.id ≠ q.id) → RunL (ts.map (tF q.id)) (ps ++ [q]) (ps ++ [⟨q.id, q.name, q.base, q.rank, q.sen, q.types ++ ts, q.vacs⟩])
  | [], q, _, _ => by
    rw [List.append_nil]
    exact .nil _
  | s :: ts, q, hid, h => by
    have ih := run_types ts (q.addT s) hid h
    rw [show (q.addT s).types ++ ts = q.types ++ s :: ts by simp [GPerson.addT]] at ih
    exact .cons (line_type hid h) ih
theorem run_vacs {ps : List GPerson} : ∀ (vs : List GShift) (q : GPerson), (1 ≤ q.id ∧ q.id ≤ 999999) → (∀ v ∈ vs, 0 ≤ v.at_ ∧ v.at_ < v.off ∧ v.off ≤ 52596000) → (∀ p ∈ ps, p.id ≠ q.id) → RunL (vs.map (vF q.id)) (ps ++ [q]) (ps ++ [⟨q.id, q.name, q.base, q.rank, q.sen, q.types, q.vacs ++ vs⟩])
  | [], q, _, _, _ => by
    rw [List.append_nil]
    exact .nil _
  | v :: vs, q, hid, hv, h => by
    have ih := run_vacs vs (q.addV v) hid (fun x hx => hv x (.tail _ hx)) h
    rw [show (q.addV v).vacs ++ vs = q.vacs ++ v :: vs by simp [GPerson.addV]] at ih
    exact .cons (line_vac hid (hv v (.head _)) h) ih
theorem run_person {p : GPerson} (hp : PGood p) {ps : List GPerson} (h : ∀ q ∈ ps, q.id ≠ p.id) : RunL (linesP p) ps (ps ++ [p]) := by
  refine .cons (line_person hp ps) ?_
  have h1 := run_types p.types ⟨p.id, p.name, p.base, p.rank, p.sen, [], []⟩ hp.id h
  have h2 := run_vacs p.vacs ⟨p.id, p.name, p.base, p.rank, p.sen, p.types, []⟩ hp.id hp.v h
  exact h1.app h2
theorem run_crew {t : GTT} {l : List GPerson} (h : CrewOk t l) : ∀ k, k ≤ l.length → RunL (crewF (l.take k)) [] (l.take k)
  | 0, _ => .nil _
  | k + 1, hk => by
    have ih := run_crew h k (by omega)
    have hlt : k < l.length := by omega
    have e : l.take (k + 1) = l.take k ++ [l[k]] := by rw [List.take_add_one, List.getElem?_eq_getElem hlt]; rfl
    have eg : l.getD k noPerson = l[k] := by rw [List.getD_eq_getElem?_getD, List.getElem?_eq_getElem hlt]; rfl
    rw [e]
    have e2 : crewF (l.take k ++ [l[k]]) = crewF (l.take k) ++ linesP l[k] := by unfold crewF; rw [List.flatMap_append]; simp only [List.flatMap_cons, List.flatMap_nil, List.append_nil]
    rw [e2]
    refine ih.app (run_person (h.good _ (List.getElem_mem hlt)) fun q hq => ?_)
    obtain ⟨i, hi, rfl⟩ := List.getElem_of_mem hq
    rw [List.length_take] at hi
    have := h.less (i := i) (j := k) (by omega) hlt
    rw [eg, List.getD_eq_getElem?_getD, List.getElem?_eq_getElem (by omega)] at this
    simp only [Option.getD_some] at this
    rw [List.getElem_take]
    omega
theorem run_parse {fs : List (List ByteArray)} (hne : ∀ f ∈ fs, f ≠ []) (hok : ∀ f ∈ fs, ∀ x ∈ f, fldOk x) {qs : List GPerson} (h : RunL fs [] qs) :
    ∀ k, k ≤ fs.length → RunL (fs.drop k) (psAt (fs.map fun f => bs (lineT f)) k) qs ∧ ∀ j, j < k → errAt (fs.map fun f => bs (lineT f)) j = 0
  | 0, _ => ⟨h, fun j hj => by omega⟩
  | k + 1, hk => by
    obtain ⟨i1, i2⟩ := run_parse hne hok h k (by omega)
    have hlt : k < fs.length := by omega
    rw [List.drop_eq_getElem_cons hlt] at i1
    have hg : (fs.map fun f => bs (lineT f)).getD k noStr = bs (lineT fs[k]) := by
      rw [List.getD_eq_getElem?_getD, List.getElem?_map, List.getElem?_eq_getElem hlt]; rfl
    have hst : ∀ ps, stepB (bs (lineT fs[k])) ps = lineB fs[k] ps := fun ps => by
      unfold stepB
      rw [fields_lineT (hok _ (List.getElem_mem hlt)), if_neg (hne _ (List.getElem_mem hlt))]
    cases i1 with
    | @cons _ _ _ q' _ h1 h2 =>
      have e1 : psAt (fs.map fun f => bs (lineT f)) (k + 1) = q' := by
        show (stepB ((fs.map fun f => bs (lineT f)).getD k noStr) (psAt (fs.map fun f => bs (lineT f)) k)).1 = _
        rw [hg, hst, h1]
      refine ⟨by rw [e1]; exact h2, fun j hj => ?_⟩
      rcases Nat.lt_or_eq_of_le (Nat.le_of_lt_succ hj) with h3 | h3
      · exact i2 j h3
      · subst h3
        show (stepB ((fs.map fun f => bs (lineT f)).getD j noStr) (psAt (fs.map fun f => bs (lineT f)) j)).2 = 0
        rw [hg, hst, h1]
theorem restT_len (fs : List ByteArray) : fs.length ≤ (restT fs).length := by
  induction fs with
  | nil => simp [restT]
  | cons f r ih => simp [restT]; omega
theorem textT_len (ls : List (List ByteArray)) : (textT ls).length = (ls.map fun f => (lineT f).length + 1).sum := by
  induction ls with
  | nil => rfl
  | cons f r ih => simp [textT, ih]; omega
theorem vF_len {id : Int} {v : GShift} (hv : 0 ≤ v.at_ ∧ v.at_ < v.off ∧ v.off ≤ 52596000) : 39 ≤ (lineT (vF id v)).length := by
  have a := (insD_fld (t := v.at_) (by omega) (by omega)).2
  have b := (insC_fld (t := v.at_)).2
  have c := (insD_fld (t := v.off - 1) (by omega) (by omega)).2
  have d := (insC_fld (t := v.off - 1)).2
  rw [Lib.size_eq] at a b c d
  have e : vacS.data.toList.length = 8 := rfl
  simp only [vF, lineT, restT, List.length_append, List.length_cons, List.length_nil, a, b, c, d, e]
  omega
theorem sum_ge {α : Type} {f : α → Nat} {c : Nat} : ∀ {l : List α}, (∀ x ∈ l, c ≤ f x) → c * l.length ≤ (l.map f).sum
  | [], _ => by simp
  | x :: l, h => by
    have := sum_ge (f := f) (l := l) fun y hy => h y (.tail _ hy)
    have := h x (.head _)
    simp only [List.map_cons, List.sum_cons, List.length_cons, Nat.mul_add, Nat.mul_one]
    omega
theorem tF_len {id : Int} {s : ByteArray} : 6 ≤ (lineT (tF id s)).length := by
  have e : typeS.data.toList.length = 4 := rfl
  simp only [tF, lineT, restT, List.length_append, List.length_cons, List.length_nil, e]
  omega
theorem pF_len {p : GPerson} : 11 ≤ (lineT (pF p)).length := by
  have e : personS.data.toList.length = 6 := rfl
  simp only [pF, lineT, restT, List.length_append, List.length_cons, List.length_nil, e]
  omega
theorem linesP_len {p : GPerson} (h : PGood p) : 40 * (linesP p).length ≤ (textT (linesP p)).length + 292 := by
  have ht := sum_ge (f := fun f : List ByteArray => (lineT f).length + 1) (c := 7) (l := p.types.map (tF p.id)) (fun f hf => by
    obtain ⟨v, hv, rfl⟩ := List.mem_map.1 hf
    have := tF_len (id := p.id) (s := v)
    omega)
  have hp := pF_len (p := p)
  have e : (linesP p).length = 1 + p.types.length + p.vacs.length := by simp [linesP]; omega
  have hv := sum_ge (f := fun f : List ByteArray => (lineT f).length + 1) (c := 40) (l := p.vacs.map (vF p.id)) (fun f hf => by
    obtain ⟨v, hv, rfl⟩ := List.mem_map.1 hf
    have := vF_len (id := p.id) (h.v v hv)
    omega)
  have := h.lt
  rw [textT_len, e]
  simp only [linesP, List.map_cons, List.map_append, List.sum_cons, List.sum_append, List.length_map] at hv ht ⊢
  omega
theorem crewF_len {l : List GPerson} (h : ∀ p ∈ l, PGood p) : 40 * (crewF l).length ≤ (textT (crewF l)).length + 292 * l.length := by
  induction l with
  | nil => simp [crewF]
  | cons p l ih =>
    have h1 := ih fun q hq => h q (.tail _ hq)
    have h2 := linesP_len (h p (.head _))
    have e : crewF (p :: l) = linesP p ++ crewF l := by simp [crewF]
    rw [e, textT_app, List.length_append, List.length_append, List.length_cons]
    omega
theorem crew_back {t : GTT} {l : List GPerson} (h : crewE t l = 0) (hz : (crewS l).size ≤ 20000) : parseC t (crewS l) = (l, 0, 0) := by
  have hk := crewE_zero.1 h
  have hf := crew_fields hk.good
  unfold crewS at hz ⊢
  rw [bs_size] at hz
  have hlen := crewF_len hk.good
  have h64 := hk.len
  have hlb := linesB_textT hf hz (by omega)
  have hrun : RunL (crewF l) [] l := by
    have := run_crew hk l.length (Nat.le_refl _)
    rwa [List.take_length] at this
  have hne : ∀ f ∈ crewF l, f ≠ [] := fun f hf' e => by
    unfold crewF at hf'
    obtain ⟨p, _, hf''⟩ := List.mem_flatMap.1 hf'
    subst e
    unfold linesP at hf''
    rcases List.mem_cons.1 hf'' with h9 | h9
    · simp [pF] at h9
    · rcases List.mem_append.1 h9 with h9 | h9
      · obtain ⟨s, _, h9⟩ := List.mem_map.1 h9; simp [tF] at h9
      · obtain ⟨s, _, h9⟩ := List.mem_map.1 h9; simp [vF] at h9
  obtain ⟨r1, r2⟩ := run_parse hne hf hrun (crewF l).length (Nat.le_refl _)
  rw [List.drop_length] at r1
  have hps : psAt ((crewF l).map fun f => bs (lineT f)) (crewF l).length = l := by
    generalize psAt ((crewF l).map fun f => bs (lineT f)) (crewF l).length = q at r1
    cases r1
    rfl
  rw [parseC_all (ttE_zero.2 hk.tt) (by rw [hlb]) (by rw [hlb]; intro j hj; exact r2 j (by simpa using hj)), hlb]
  simp only [List.length_map]
  rw [hps, h, if_neg (by simp)]
end Go.Proofs.YtkhedjfdjjeopaaGreatDoor
/-
  Contract of crew.Format.
  Condition: the data are well formed; the table of powers of ten is laid.
-/
namespace Go.Proofs.YtkhedjfdjjeopaaGreatDoor
set_option linter.unusedSimpArgs false
set_option linter.unusedVariables false
open Go.RowKit

noncomputable def fmtC (t : GTT) (l : List GPerson) : ByteArray × Int := if crewE t l ≠ 0 then (noStr, crewE t l) else if 20000 < (crewS l).size then (noStr, 10) else (crewS l, 0)
def FmtPost (r : ByteArray × Int) (w : World) (e : Ending) (w' : World) : Prop := e = .returned (.tuple #[.string r.1, .int .i64 r.2]) ∧ Below w.heap.size w w'
theorem dataApp (a b : ByteArray) : (a ++ b).data.toList = a.data.toList ++ b.data.toList := by rw [ByteArray.data_append, Array.toList_append]
theorem sz1 (a : UInt8) : (⟨#[a]⟩ : ByteArray).size = 1 := rfl
theorem szP : (⟨#[112, 101, 114, 115, 111, 110, 32]⟩ : ByteArray).size = 7 := rfl
theorem szT : (⟨#[116, 121, 112, 101, 32]⟩ : ByteArray).size = 5 := rfl
theorem szV : (⟨#[118, 97, 99, 97, 116, 105, 111, 110, 32]⟩ : ByteArray).size = 9 := rfl
theorem hdr_eq (i n b r s : ByteArray) : ((⟨#[112, 101, 114, 115, 111, 110, 32]⟩ : ByteArray) ++ i ++ (⟨#[32]⟩ : ByteArray) ++ n ++ (⟨#[32]⟩ : ByteArray) ++ b ++ (⟨#[32]⟩ : ByteArray) ++ r).data.toList ++ ((⟨#[32]⟩ : ByteArray) ++ s ++ (⟨#[10]⟩ : ByteArray)).data.toList = lineT [personS, i, n, b, r, s] ++ [10] := by
  have e : personS.data.toList = [112, 101, 114, 115, 111, 110] := rfl
  simp only [dataApp, lineT, restT, List.append_assoc, e, List.cons_append, List.nil_append, List.append_nil]
theorem typ_eq (i s : ByteArray) : ((⟨#[116, 121, 112, 101, 32]⟩ : ByteArray) ++ i ++ (⟨#[32]⟩ : ByteArray) ++ s ++ (⟨#[10]⟩ : ByteArray)).data.toList = lineT [typeS, i, s] ++ [10] := by
  have e : typeS.data.toList = [116, 121, 112, 101] := rfl
  simp only [dataApp, lineT, restT, List.append_assoc, e, List.cons_append, List.nil_append, List.append_nil]
theorem vac_eq (i a b c d : ByteArray) : ((⟨#[118, 97, 99, 97, 116, 105, 111, 110, 32]⟩ : ByteArray) ++ i ++ (⟨#[32]⟩ : ByteArray) ++ (a ++ blankS ++ b) ++ (⟨#[32]⟩ : ByteArray) ++ (c ++ blankS ++ d) ++ (⟨#[10]⟩ : ByteArray)).data.toList = lineT [vacS, i, a, b, c, d] ++ [10] := by
  have e : vacS.data.toList = [118, 97, 99, 97, 116, 105, 111, 110] := rfl
  have f : blankS.data.toList = [32] := rfl
  simp only [dataApp, lineT, restT, List.append_assoc, e, f, List.cons_append, List.nil_append, List.append_nil]
theorem textT_snoc (a : List (List ByteArray)) (f : List ByteArray) : textT (a ++ [f]) = textT a ++ (lineT f ++ [10]) := by
  rw [textT_app]
  rfl
theorem numS_le {n : Int} (h : 1 ≤ n ∧ n ≤ 999999) : (numS n).size ≤ 10 := by
  unfold numS
  rw [bs_size, Lib.itoa, if_neg (by omega), Lib.decDigits_length]
  exact (nDigits_ten n.toNat).2 (by omega)
theorem rankNm_le (r : Int) : (rankNm r).size ≤ 7 := by
  unfold rankNm
  split
  · decide
  · split <;> decide
theorem name_le {s : ByteArray} (h : isNameB s = true) : s.size ≤ 16 := by
  unfold isNameB at h
  simp only [Bool.and_eq_true, decide_eq_true_eq] at h
  omega
theorem airport_le {s : ByteArray} (h : isAirportB s = true) : s.size ≤ 3 := by
  unfold isAirportB at h
  simp only [Bool.and_eq_true, beq_iff_eq] at h
  omega
theorem sum_le {α : Type} {f : α → Nat} {c : Nat} : ∀ {l : List α}, (∀ x ∈ l, f x ≤ c) → (l.map f).sum ≤ c * l.length
  | [], _ => by simp
  | x :: l, h => by
    have := sum_le (f := f) (l := l) fun y hy => h y (.tail _ hy)
    have := h x (.head _)
    simp only [List.map_cons, List.sum_cons, List.length_cons, Nat.mul_add, Nat.mul_one]
    omega
theorem pF_up {p : GPerson} (h : PGood p) : (lineT (pF p)).length ≤ 70 := by
  have a := numS_le h.id; have b := name_le h.name; have c := airport_le h.base; have d := rankNm_le p.rank; have e := numS_le h.sen
  rw [Lib.size_eq] at a b c d e
  have f : personS.data.toList.length = 6 := rfl
  simp only [pF, lineT, restT, List.length_append, List.length_cons, List.length_nil, f]
  omega
theorem tF_up {p : GPerson} (h : PGood p) {s : ByteArray} (hs : isNameB s = true) : (lineT (tF p.id s)).length + 1 ≤ 50 := by
  have a := numS_le h.id; have b := name_le hs
  rw [Lib.size_eq] at a b
  have f : typeS.data.toList.length = 4 := rfl
  simp only [tF, lineT, restT, List.length_append, List.length_cons, List.length_nil, f]
  omega
theorem vF_up {p : GPerson} (h : PGood p) {v : GShift} (hv : 0 ≤ v.at_ ∧ v.at_ < v.off ∧ v.off ≤ 52596000) : (lineT (vF p.id v)).length + 1 ≤ 70 := by
  have a' := numS_le h.id
  have a := (insD_fld (t := v.at_) (by omega) (by omega)).2
  have b := (insC_fld (t := v.at_)).2
  have c := (insD_fld (t := v.off - 1) (by omega) (by omega)).2
  have d := (insC_fld (t := v.off - 1)).2
  rw [Lib.size_eq] at a b c d a'
  have e : vacS.data.toList.length = 8 := rfl
  simp only [vF, lineT, restT, List.length_append, List.length_cons, List.length_nil, a, b, c, d, e]
  omega
theorem types_up {p : GPerson} (h : PGood p) (j : Nat) : (textT ((p.types.take j).map (tF p.id))).length ≤ 400 := by
  have := sum_le (f := fun f : List ByteArray => (lineT f).length + 1) (c := 50) (l := (p.types.take j).map (tF p.id)) (fun f hf => by
    obtain ⟨s, hs, rfl⟩ := List.mem_map.1 hf
    exact tF_up h (h.t s (List.mem_of_mem_take hs)))
  have h2 := h.lt
  rw [textT_len]
  simp only [List.length_map, List.length_take] at this
  omega
theorem vacs_up {p : GPerson} (h : PGood p) (j : Nat) : (textT ((p.vacs.take j).map (vF p.id))).length ≤ 560 := by
  have := sum_le (f := fun f : List ByteArray => (lineT f).length + 1) (c := 70) (l := (p.vacs.take j).map (vF p.id)) (fun f hf => by
    obtain ⟨s, hs, rfl⟩ := List.mem_map.1 hf
    exact vF_up h (h.v s (List.mem_of_mem_take hs)))
  have h2 := h.lv
  rw [textT_len]
  simp only [List.length_map, List.length_take] at this
  omega
theorem linesP_up {p : GPerson} (h : PGood p) : (textT (linesP p)).length ≤ 1100 := by
  have a := pF_up h; have b := types_up h p.types.length; have c := vacs_up h p.vacs.length
  rw [List.take_length] at b c
  unfold linesP
  rw [textT, textT_app]
  simp only [List.length_append, List.length_cons]
  omega
theorem crewF_up {l : List GPerson} (h : ∀ p ∈ l, PGood p) : (textT (crewF l)).length ≤ 1100 * l.length := by
  induction l with
  | nil => simp [crewF, textT]
  | cons p l ih =>
    have h1 := ih fun q hq => h q (.tail _ hq)
    have h2 := linesP_up (h p (.head _))
    have e : crewF (p :: l) = linesP p ++ crewF l := by simp [crewF]
    rw [e, textT_app, List.length_append, List.length_cons]
    omega
theorem map_take_snoc {α : Type} (f : α → List ByteArray) {l : List α} {j : Nat} (h : j < l.length) (d : α) : (l.take (j + 1)).map f = (l.take j).map f ++ [f (l.getD j d)] := by
  rw [List.take_add_one, List.getElem?_eq_getElem h, List.getD_eq_getElem?_getD, List.getElem?_eq_getElem h, List.map_append]
  rfl
theorem crewF_snoc {l : List GPerson} {k : Nat} (h : k < l.length) : crewF (l.take (k + 1)) = crewF (l.take k) ++ linesP (l.getD k noPerson) := by
  rw [List.take_add_one, List.getElem?_eq_getElem h, List.getD_eq_getElem?_getD, List.getElem?_eq_getElem h]
  unfold crewF
  rw [List.flatMap_append]
  simp
/-- The builder in the midst of the walk: its bytes, and what it was laid upon. -/
def FS (w1 wr : World) (v : Value) (L : List UInt8) : Prop := Bld w1.heap.size v L wr ∧ Below w1.heap.size w1 wr
theorem FS.next {w1 wr w' : World} {v : Value} {L : List UInt8} (h : FS w1 wr v L) (hb : Below wr.heap.size wr w') : FS w1 w' v L := ⟨h.1.keep hb, h.2.trans (hb.mono h.2.size)⟩
theorem FS.write {w1 wr : World} {v : Value} {L : List UInt8} (h : FS w1 wr v L) (s : ByteArray) (hl : L.length + s.size ≤ 1000000) : Calls Tryz.prog 36 #[.pointer (some ⟨w1.heap.size, 0, none⟩), .string s] wr fun e w' =>
    e = .returned (.tuple #[.int .i64 s.size, .nilIface]) ∧ (∃ v', FS w1 w' v' (L ++ s.data.toList)) ∧ ∀ x cs T z, T ≠ 5 → x ≠ w1.heap.size → wr.heap[x]? = some (.cells cs T z) → w'.heap[x]? = some (.cells cs T z) := by
  refine (writeStr_any w1.heap.size v L s wr h.1 hl).mono ?_
  rintro e w' ⟨v', rfl, hb, hbel, hbx⟩
  exact ⟨rfl, ⟨v', hb, h.2.trans hbel⟩, hbx⟩
set_option maxRecDepth 100000 in
set_option maxHeartbeats 6400000 in
theorem crewFormat_ok (t : GTT) (l : List GPerson) (A1 A2 A3 A4 : Option Addr) (n1 n2 n3 n4 c1 c2 c3 c4 : Nat) (w : World) (ht : t.ok) (hl : ∀ p ∈ l, p.ok) (hv : crewE t l = 0) (hs1 : Sl Ty.zone w (all_ w) A1 n1 c1 t.zones) (hs2 : Sl Ty.airport w (all_ w) A2 n2 c2 t.airports) (hs3 : Sl Ty.flight w (all_ w) A3 n3 c3 t.flights) (hs4 : Sl Ty.person w (all_ w) A4 n4 c4 l) (hp : Pow10 w) :
    Calls Tryz.prog 14 #[.agg #[.slice A1 n1 c1, .slice A2 n2 c2, .slice A3 n3 c3], .slice A4 n4 c4] w (FmtPost (if 20000 < (crewS l).size then (noStr, 10) else (crewS l, 0)) w) := by
  obtain ⟨R, hR⟩ : ∃ R : ByteArray × Int, (if 20000 < (crewS l).size then (noStr, 10) else (crewS l, 0)) = R := ⟨_, rfl⟩
  rw [hR]
  have HR := Lib.hid hR
  clear hR
  have hok := crewE_zero.1 hv
  have e1 : n4 ≤ l.length := Nat.le_of_eq hs4.len
  have e1' : l.length ≤ n4 := Nat.le_of_eq hs4.len.symm
  have b1 := hok.len
  have HG := Lib.hid hok.good
  have ha : ∀ o, Below w.heap.size w (w.alloc o) := fun o => (Below.refl _ _).alloc (Nat.le_refl _) _
  have HV : Hid (∀ o, Calls Tryz.prog 23 #[.agg #[.slice A1 n1 c1, .slice A2 n2 c2, .slice A3 n3 c3], .slice A4 n4 c4] (w.alloc o) (ErrPost 0 (w.alloc o))) := fun o => hv ▸ crewValidate_any t l A1 A2 A3 A4 n1 n2 n3 n4 c1 c2 c3 c4 (w.alloc o) ht hl (hs1.next (ha o)) (hs2.next (ha o)) (hs3.next (ha o)) (hs4.next (ha o))
  have HS4 := Lib.hid hs4
  have HPW : Hid (∀ V, Below w.heap.size w V → Pow10 V) := fun V hV => hp.next hV
  clear hok hs1 hs2 hs3 hs4 hv ht hl hp
  have hB0 := ha (.cells #[.slice A1 n1 c1, .slice A2 n2 c2, .slice A3 n3 c3] 26)
  have HB0 := Lib.hid hB0
  clear ha hB0
  go_enter Tryz.func14, Tryz.ntmps14
  go_wp2_with fail
  refine (HV.out _).mono ?_
  clear HV
  generalize w.alloc (.cells #[.slice A1 n1 c1, .slice A2 n2 c2, .slice A3 n3 c3] 26) = W at *
  rintro e w1 ⟨rfl, hb1⟩
  have hbw : Below w.heap.size w w1 := HB0.out.trans (hb1.mono HB0.out.size)
  have hsw := hbw.size
  have HT4 := Lib.hid (HS4.out.keep (all_keep hbw))
  have HBW := Lib.hid hbw
  clear HS4 HB0 hb1 hbw
  have hfs0 : FS w1 (w1.alloc (.cells #[.pointer none, .slice none 0 0] 78)) (.slice none 0 0) [] :=
    ⟨⟨⟨_, .inl rfl, heap_alloc_new _ _⟩, World.ownsRow_nil _ _ _ _, by simp [Value.ownBlock]⟩, (Below.refl _ _).alloc (Nat.le_refl _) _⟩
  have HFS0 := Lib.hid hfs0
  clear hfs0
  go_wp2_with fail
  go_loopw [27] (fun i wr => ∃ (k : Nat) (v : Value), k ≤ n4 ∧ i = .int .i64 k ∧ Hid (FS w1 wr v (textT (crewF (l.take k))))) (fun i _ => n4 - (intOf i).toNat)
  case atStart => exact ⟨0, _, Nat.zero_le _, rfl, HFS0⟩
  case round =>
    obtain ⟨k, v, hk, rfl, HFS⟩ := hrel
    clear HFS0
    have hlen : (textT (crewF (l.take k))).length ≤ 80000 := by
      have := crewF_up (l := l.take k) fun p hp => HG.out p (List.mem_of_mem_take hp)
      rw [List.length_take] at this
      omega
    by_cases hlt : k < n4
    · have hks : k < l.length := by omega
      obtain ⟨b, o, B1, k1, d1, B2, k2, d2, rfl, hbS, hat, hsT, hsV⟩ := (HT4.out.keep (w' := wr) fun b hb => HFS.out.2.block b (by unfold all_ at hb; omega)).person_at hks
      have hpg := HG.out _ (getD_in hks noPerson)
      have HSN : Hid (textT (crewF (l.take (k + 1))) = textT (crewF (l.take k)) ++ (lineT (pF (l.getD k noPerson)) ++ [10] ++ textT ((l.getD k noPerson).types.map (tF (l.getD k noPerson).id)) ++ textT ((l.getD k noPerson).vacs.map (vF (l.getD k noPerson).id)))) := by
        show _ = _
        rw [crewF_snoc hks, textT_app]
        unfold linesP
        rw [textT, textT_app]
        simp only [List.append_assoc, List.cons_append, List.nil_append]
      have hbS' : b < w.heap.size := hbS
      generalize l.getD k noPerson = p at *
      have HPG := Lib.hid hpg
      have m1 : k1 ≤ p.types.length := Nat.le_of_eq hsT.len
      have m1' : p.types.length ≤ k1 := Nat.le_of_eq hsT.len.symm
      have m2 : k2 ≤ p.vacs.length := Nat.le_of_eq hsV.len
      have m2' : p.vacs.length ≤ k2 := Nat.le_of_eq hsV.len.symm
      have HQ : Hid (∀ wq, Below w1.heap.size w1 wq → Sl Ty.str wq (all_ w) B1 k1 d1 p.types ∧ Sl Ty.shift wq (all_ w) B2 k2 d2 p.vacs) := fun wq hb => by
        have hq : ∀ b, all_ w b → wq.heap[b]? = wr.heap[b]? := fun b hb' => by
          unfold all_ at hb'
          rw [hb.block b (by omega), HFS.out.2.block b (by omega)]
        exact ⟨hsT.keep hq, hsV.keep hq⟩
      generalize textT (crewF (l.take k)) = pre at *
      have y0 : wr.cell? ⟨b, o + k * 7, none⟩ = some (.int .i64 p.id) := hat 0 _ rfl
      have y1 := hat 1 _ rfl; have y2 := hat 2 _ rfl; have y3 := hat 3 _ rfl; have y4 := hat 4 _ rfl; have y5 := hat 5 _ rfl; have y6 := hat 6 _ rfl
      have hwa : Below wr.heap.size wr (wr.alloc (.cells #[.int .i64 p.id, .string p.name, .string p.base, .int .i64 p.rank, .int .i64 p.sen, .slice B1 k1 d1, .slice B2 k2 d2] 49)) := (Below.refl _ _).alloc (Nat.le_refl _) _
      have hxa := heap_alloc_new wr (.cells #[.int .i64 p.id, .string p.name, .string p.base, .int .i64 p.rank, .int .i64 p.sen, .slice B1 k1 d1, .slice B2 k2 d2] 49)
      have hgb : w1.heap.size < wr.heap.size := HFS.out.1.lt
      have HFA := Lib.hid (HFS.out.next hwa)
      have HXA := Lib.hid hxa
      have ya : (wr.alloc (.cells #[.int .i64 p.id, .string p.name, .string p.base, .int .i64 p.rank, .int .i64 p.sen, .slice B1 k1 d1, .slice B2 k2 d2] 49)).cell? ⟨wr.heap.size, 0, none⟩ = some (.int .i64 p.id) := block_cell hxa 0
      have hPwr : Below w.heap.size w (wr.alloc (.cells #[.int .i64 p.id, .string p.name, .string p.base, .int .i64 p.rank, .int .i64 p.sen, .slice B1 k1 d1, .slice B2 k2 d2] 49)) := HBW.out.trans (HFA.out.2.mono hsw)
      have HFI : Hid (Calls Tryz.prog 35 #[.int .i64 p.id] (wr.alloc (.cells #[.int .i64 p.id, .string p.name, .string p.base, .int .i64 p.rank, .int .i64 p.sen, .slice B1 k1 d1, .slice B2 k2 d2] 49)) fun e w' => e = .returned (.string (numS p.id)) ∧ Below (wr.alloc (.cells #[.int .i64 p.id, .string p.name, .string p.base, .int .i64 p.rank, .int .i64 p.sen, .slice B1 k1 d1, .slice B2 k2 d2] 49)).heap.size (wr.alloc (.cells #[.int .i64 p.id, .string p.name, .string p.base, .int .i64 p.rank, .int .i64 p.sen, .slice B1 k1 d1, .slice B2 k2 d2] 49)) w') := formatInt_any p.id _ (by have := hpg.id; omega) (by have := hpg.id; omega) (HPW.out _ hPwr)
      have hxlt : wr.heap.size < (wr.alloc (.cells #[.int .i64 p.id, .string p.name, .string p.base, .int .i64 p.rank, .int .i64 p.sen, .slice B1 k1 d1, .slice B2 k2 d2] 49)).heap.size := by simp
      have t1 := numS_le hpg.id; have t2 := name_le hpg.name; have t3 := airport_le hpg.base; have t4 := rankNm_le p.rank; have t5 := numS_le hpg.sen
      have HHD := Lib.hid (hdr_eq (numS p.id) p.name p.base (rankNm p.rank) (numS p.sen))
      have HHL : Hid (lineT (pF p) = lineT [personS, numS p.id, p.name, p.base, rankNm p.rank, numS p.sen]) := rfl
      have HTL : Hid (∀ s, lineT (tF p.id s) = lineT [typeS, numS p.id, s]) := fun s => rfl
      have HVL : Hid (∀ v : GShift, lineT (vF p.id v) = lineT [vacS, numS p.id, insD v.at_, insC v.at_, insD (v.off - 1), insC (v.off - 1)]) := fun s => rfl
      have HFI2 : Hid (∀ V, Below w.heap.size w V → Calls Tryz.prog 35 #[.int .i64 p.sen] V fun e w' => e = .returned (.string (numS p.sen)) ∧ Below V.heap.size V w') := fun V hV => formatInt_any p.sen V (by have := hpg.sen; omega) (by have := hpg.sen; omega) (HPW.out V hV)
      have HRN : Hid (∀ V : World, Calls Tryz.prog 37 #[.int .i64 p.rank] V fun e w' => e = .returned (.string (rankNm p.rank)) ∧ V = w') := fun V => rankName_any p.rank V
      generalize numS p.id = idS at *
      generalize numS p.sen = snS at *
      generalize rankNm p.rank = rk at *
      have m3 := hpg.lt; have m4 := hpg.lv
      clear hpg hsT hsV hbS hat hwa hxa hPwr HFS
      go_wp2_with fail
      generalize wr.alloc (.cells #[.int .i64 p.id, .string p.name, .string p.base, .int .i64 p.rank, .int .i64 p.sen, .slice B1 k1 d1, .slice B2 k2 d2] 49) = wa at *
      generalize hbx : wr.heap.size = bx at *
      refine HFI.out.mono ?_
      rintro e w2 ⟨rfl, hb2⟩
      have HF2 := Lib.hid (HFA.out.next hb2)
      have hx2 := (hb2.block bx hxlt).trans HXA.out
      have HX2 := Lib.hid hx2
      have z1 : w2.cell? ⟨bx, 1, none⟩ = some (.string p.name) := block_cell hx2 1
      have z2 : w2.cell? ⟨bx, 2, none⟩ = some (.string p.base) := block_cell hx2 2
      have z3 : w2.cell? ⟨bx, 3, none⟩ = some (.int .i64 p.rank) := block_cell hx2 3
      clear hx2 hb2 y0 y1 y2 y3 y4 y5 y6 ya HFI HFA HXA
      have qa0a : ¬ 9223372036854775807 < 7 + idS.size := by omega
      have qa0b : ¬ 9223372036854775807 < ((⟨#[112, 101, 114, 115, 111, 110, 32]⟩ : ByteArray)).size + idS.size := by rw [show ((⟨#[112, 101, 114, 115, 111, 110, 32]⟩ : ByteArray)).size = 7 by first | rfl | (simp only [ByteArray.size_append]; rfl)]; omega
      have qa1a : ¬ 9223372036854775807 < 7 + idS.size + 1 := by omega
      have qa1b : ¬ 9223372036854775807 < ((⟨#[112, 101, 114, 115, 111, 110, 32]⟩ : ByteArray) ++ idS).size + 1 := by rw [show ((⟨#[112, 101, 114, 115, 111, 110, 32]⟩ : ByteArray) ++ idS).size = 7 + idS.size by first | rfl | (simp only [ByteArray.size_append]; rfl)]; omega
      have qa2a : ¬ 9223372036854775807 < 7 + idS.size + 1 + p.name.size := by omega
      have qa2b : ¬ 9223372036854775807 < ((⟨#[112, 101, 114, 115, 111, 110, 32]⟩ : ByteArray) ++ idS ++ (⟨#[32]⟩ : ByteArray)).size + p.name.size := by rw [show ((⟨#[112, 101, 114, 115, 111, 110, 32]⟩ : ByteArray) ++ idS ++ (⟨#[32]⟩ : ByteArray)).size = 7 + idS.size + 1 by first | rfl | (simp only [ByteArray.size_append]; rfl)]; omega
      have qa3a : ¬ 9223372036854775807 < 7 + idS.size + 1 + p.name.size + 1 := by omega
      have qa3b : ¬ 9223372036854775807 < ((⟨#[112, 101, 114, 115, 111, 110, 32]⟩ : ByteArray) ++ idS ++ (⟨#[32]⟩ : ByteArray) ++ p.name).size + 1 := by rw [show ((⟨#[112, 101, 114, 115, 111, 110, 32]⟩ : ByteArray) ++ idS ++ (⟨#[32]⟩ : ByteArray) ++ p.name).size = 7 + idS.size + 1 + p.name.size by first | rfl | (simp only [ByteArray.size_append]; rfl)]; omega
      have qa4a : ¬ 9223372036854775807 < 7 + idS.size + 1 + p.name.size + 1 + p.base.size := by omega
      have qa4b : ¬ 9223372036854775807 < ((⟨#[112, 101, 114, 115, 111, 110, 32]⟩ : ByteArray) ++ idS ++ (⟨#[32]⟩ : ByteArray) ++ p.name ++ (⟨#[32]⟩ : ByteArray)).size + p.base.size := by rw [show ((⟨#[112, 101, 114, 115, 111, 110, 32]⟩ : ByteArray) ++ idS ++ (⟨#[32]⟩ : ByteArray) ++ p.name ++ (⟨#[32]⟩ : ByteArray)).size = 7 + idS.size + 1 + p.name.size + 1 by first | rfl | (simp only [ByteArray.size_append]; rfl)]; omega
      have qa5a : ¬ 9223372036854775807 < 7 + idS.size + 1 + p.name.size + 1 + p.base.size + 1 := by omega
      have qa5b : ¬ 9223372036854775807 < ((⟨#[112, 101, 114, 115, 111, 110, 32]⟩ : ByteArray) ++ idS ++ (⟨#[32]⟩ : ByteArray) ++ p.name ++ (⟨#[32]⟩ : ByteArray) ++ p.base).size + 1 := by rw [show ((⟨#[112, 101, 114, 115, 111, 110, 32]⟩ : ByteArray) ++ idS ++ (⟨#[32]⟩ : ByteArray) ++ p.name ++ (⟨#[32]⟩ : ByteArray) ++ p.base).size = 7 + idS.size + 1 + p.name.size + 1 + p.base.size by first | rfl | (simp only [ByteArray.size_append]; rfl)]; omega
      have qa6a : ¬ 9223372036854775807 < 7 + idS.size + 1 + p.name.size + 1 + p.base.size + 1 + rk.size := by omega
      have qa6b : ¬ 9223372036854775807 < ((⟨#[112, 101, 114, 115, 111, 110, 32]⟩ : ByteArray) ++ idS ++ (⟨#[32]⟩ : ByteArray) ++ p.name ++ (⟨#[32]⟩ : ByteArray) ++ p.base ++ (⟨#[32]⟩ : ByteArray)).size + rk.size := by rw [show ((⟨#[112, 101, 114, 115, 111, 110, 32]⟩ : ByteArray) ++ idS ++ (⟨#[32]⟩ : ByteArray) ++ p.name ++ (⟨#[32]⟩ : ByteArray) ++ p.base ++ (⟨#[32]⟩ : ByteArray)).size = 7 + idS.size + 1 + p.name.size + 1 + p.base.size + 1 by first | rfl | (simp only [ByteArray.size_append]; rfl)]; omega
      go_upto_region 9 with (fail)
      refine wp_region_still_tail 15 (by kernel_rfl) (by kernel_rfl) ?_
      simp only [List.take_succ_cons, List.take_zero, List.drop_succ_cons, List.drop_zero]
      change wpStill _ _ w2.drew (fun a' => wpList _ _ _ _ a' w2.drew) _ _
      repeat still_step
      refine wpStill_step (fun K hK => ?_)
      go_simp
      refine ⟨_, (HRN.out _).mono (fun e w' h => ⟨h.1, h.2.symm⟩), hK _ ?_⟩
      clear hK K
      repeat still_step
      refine wpStill_nil ?_
      clear z1 z2 z3 qa0a qa0b qa1a qa1b qa2a qa2b qa3a qa3b qa4a qa4b qa5a qa5b qa6a qa6b
      have HF3 : Hid (FS w1 w2.drew v pre) := HF2.out.next (below_drewN (Below.refl _ _) 1)
      have HX3 : Hid (w2.drew.heap[bx]? = some (.cells #[.int .i64 p.id, .string p.name, .string p.base, .int .i64 p.rank, .int .i64 p.sen, .slice B1 k1 d1, .slice B2 k2 d2] 49 (0, 0))) := HX2.out
      generalize w2.drew = w3 at *
      have HW1 := Lib.hid (HF3.out.write ((⟨#[112, 101, 114, 115, 111, 110, 32]⟩ : ByteArray) ++ idS ++ (⟨#[32]⟩ : ByteArray) ++ p.name ++ (⟨#[32]⟩ : ByteArray) ++ p.base ++ (⟨#[32]⟩ : ByteArray) ++ rk) (by simp only [ByteArray.size_append, sz1, szP, szT, szV]; omega))
      have hXs0 : ((⟨#[112, 101, 114, 115, 111, 110, 32]⟩ : ByteArray) ++ idS ++ (⟨#[32]⟩ : ByteArray) ++ p.name ++ (⟨#[32]⟩ : ByteArray) ++ p.base ++ (⟨#[32]⟩ : ByteArray) ++ rk).size ≤ 100 := by simp only [ByteArray.size_append, sz1, szP, szT, szV]; omega
      obtain ⟨Xh, hXh⟩ : ∃ X, (⟨#[112, 101, 114, 115, 111, 110, 32]⟩ : ByteArray) ++ idS ++ (⟨#[32]⟩ : ByteArray) ++ p.name ++ (⟨#[32]⟩ : ByteArray) ++ p.base ++ (⟨#[32]⟩ : ByteArray) ++ rk = X := ⟨_, rfl⟩
      rw [hXh] at HW1 HHD hXs0 ⊢
      have hXs := hXs0
      clear hXs0
      clear hXh HF2 HX2
      go_wp2_with fail
      refine HW1.out.mono ?_
      rintro e w4 ⟨rfl, ⟨v4, hf4⟩, hbo4⟩
      have hx4 := hbo4 bx _ _ _ (by decide) (by omega) HX3.out
      have HX4 := Lib.hid hx4; have HF4 := Lib.hid hf4
      have z4 : w4.cell? ⟨bx, 4, none⟩ = some (.int .i64 p.sen) := block_cell hx4 4
      have HPW4 : Hid (Below w.heap.size w w4) := HBW.out.trans (hf4.2.mono hsw)
      have hs4 : bx < w4.heap.size := (Array.getElem?_eq_some_iff.1 hx4).1
      clear hbo4 hx4 hf4 HW1 HF3 HX3
      go_wp2_with fail
      refine (HFI2.out w4 HPW4.out).mono ?_
      rintro e w5 ⟨rfl, hb5⟩
      have hx5 := (hb5.block bx hs4).trans HX4.out
      have HX5 := Lib.hid hx5
      have HF5 := Lib.hid (HF4.out.next hb5)
      have HW2 := Lib.hid (HF5.out.write ((⟨#[32]⟩ : ByteArray) ++ snS ++ (⟨#[10]⟩ : ByteArray)) (by have h : Xh.size ≤ 100 := hXs; rw [Lib.size_eq] at h; simp only [ByteArray.size_append, sz1, List.length_append]; omega))
      have qb0a : ¬ 9223372036854775807 < 1 + snS.size := by omega
      have qb0b : ¬ 9223372036854775807 < ((⟨#[32]⟩ : ByteArray)).size + snS.size := by rw [show ((⟨#[32]⟩ : ByteArray)).size = 1 by first | rfl | (simp only [ByteArray.size_append]; rfl)]; omega
      have qb1a : ¬ 9223372036854775807 < 1 + snS.size + 1 := by omega
      have qb1b : ¬ 9223372036854775807 < ((⟨#[32]⟩ : ByteArray) ++ snS).size + 1 := by rw [show ((⟨#[32]⟩ : ByteArray) ++ snS).size = 1 + snS.size by first | rfl | (simp only [ByteArray.size_append]; rfl)]; omega
      clear z4 hx5 hb5 HX4 HF4 HFI2 HPW4
      go_wp2_with fail
      refine HW2.out.mono ?_
      rintro e w6 ⟨rfl, ⟨v6, hf6⟩, hbo6⟩
      have hx6 := hbo6 bx _ _ _ (by decide) (by omega) HX5.out
      have HX6 := Lib.hid hx6
      have z5 : w6.cell? ⟨bx, 5, none⟩ = some (.slice B1 k1 d1) := block_cell hx6 5
      rw [List.append_assoc, HHD.out, ← HHL.out] at hf6
      have hl7 : (pre ++ (lineT (pF p) ++ [10])).length ≤ 80100 := by
        have := pF_up HPG.out
        simp only [List.length_append, List.length_singleton]; omega
      have HSN7 : Hid (textT (crewF (l.take (k + 1))) = pre ++ (lineT (pF p) ++ [10]) ++ textT (p.types.map (tF p.id)) ++ textT (p.vacs.map (vF p.id))) := by
        show _ = _
        rw [HSN.out]; simp only [List.append_assoc]
      generalize pre ++ (lineT (pF p) ++ [10]) = pre7 at *
      have HF6 := Lib.hid hf6
      clear qb0a qb0b qb1a qb1b hx6 hbo6 HW2 HF5 HX5 hf6 HSN HHD HHL hXs
      go_wp2_with fail
      clear z5
      go_loopw [59] (fun i wq => ∃ (j : Nat) (v : Value), j ≤ k1 ∧ i = .int .i64 j ∧ Hid (FS w1 wq v (pre7 ++ textT ((p.types.take j).map (tF p.id)))) ∧ Hid (wq.heap[bx]? = some (.cells #[.int .i64 p.id, .string p.name, .string p.base, .int .i64 p.rank, .int .i64 p.sen, .slice B1 k1 d1, .slice B2 k2 d2] 49 (0, 0)))) (fun i _ => k1 - (intOf i).toNat)
      case atStart => exact ⟨0, v6, Nat.zero_le _, rfl, Lib.hid (by simpa [textT] using HF6.out), HX6⟩
      case round =>
        obtain ⟨j, v, hj, rfl, HFS, HX⟩ := hrel
        clear HF6 HX6
        have hlen2 : (pre7 ++ textT ((p.types.take j).map (tF p.id))).length ≤ 80600 := by
          have := types_up HPG.out j
          rw [List.length_append]
          omega
        by_cases hlt2 : j < k1
        · have hjs : j < p.types.length := by omega
          obtain ⟨bt, ot, rfl, hbS, y0⟩ := (HQ.out wr HFS.out.2).1.name_at hjs
          have hsz := name_le (HPG.out.t _ (getD_in hjs noStr))
          have HSN2 : Hid (pre7 ++ textT ((p.types.take (j + 1)).map (tF p.id)) = pre7 ++ textT ((p.types.take j).map (tF p.id)) ++ (lineT [typeS, idS, p.types.getD j noStr] ++ [10])) := by
            show _ = _
            rw [map_take_snoc _ hjs noStr, textT_snoc, HTL.out, List.append_assoc]
          generalize p.types.getD j noStr = s at *
          generalize pre7 ++ textT ((p.types.take j).map (tF p.id)) = pre8 at *
          have HW3 := Lib.hid (HFS.out.write ((⟨#[116, 121, 112, 101, 32]⟩ : ByteArray) ++ idS ++ (⟨#[32]⟩ : ByteArray) ++ s ++ (⟨#[10]⟩ : ByteArray)) (by simp only [ByteArray.size_append, sz1, szP, szT, szV]; omega))
          have qc0a : ¬ 9223372036854775807 < 5 + idS.size := by omega
          have qc0b : ¬ 9223372036854775807 < ((⟨#[116, 121, 112, 101, 32]⟩ : ByteArray)).size + idS.size := by rw [show ((⟨#[116, 121, 112, 101, 32]⟩ : ByteArray)).size = 5 by first | rfl | (simp only [ByteArray.size_append]; rfl)]; omega
          have qc1a : ¬ 9223372036854775807 < 5 + idS.size + 1 := by omega
          have qc1b : ¬ 9223372036854775807 < ((⟨#[116, 121, 112, 101, 32]⟩ : ByteArray) ++ idS).size + 1 := by rw [show ((⟨#[116, 121, 112, 101, 32]⟩ : ByteArray) ++ idS).size = 5 + idS.size by first | rfl | (simp only [ByteArray.size_append]; rfl)]; omega
          have qc2a : ¬ 9223372036854775807 < 5 + idS.size + 1 + s.size := by omega
          have qc2b : ¬ 9223372036854775807 < ((⟨#[116, 121, 112, 101, 32]⟩ : ByteArray) ++ idS ++ (⟨#[32]⟩ : ByteArray)).size + s.size := by rw [show ((⟨#[116, 121, 112, 101, 32]⟩ : ByteArray) ++ idS ++ (⟨#[32]⟩ : ByteArray)).size = 5 + idS.size + 1 by first | rfl | (simp only [ByteArray.size_append]; rfl)]; omega
          have qc3a : ¬ 9223372036854775807 < 5 + idS.size + 1 + s.size + 1 := by omega
          have qc3b : ¬ 9223372036854775807 < ((⟨#[116, 121, 112, 101, 32]⟩ : ByteArray) ++ idS ++ (⟨#[32]⟩ : ByteArray) ++ s).size + 1 := by rw [show ((⟨#[116, 121, 112, 101, 32]⟩ : ByteArray) ++ idS ++ (⟨#[32]⟩ : ByteArray) ++ s).size = 5 + idS.size + 1 + s.size by first | rfl | (simp only [ByteArray.size_append]; rfl)]; omega
          clear hbS
          go_wp2_with fail
          refine HW3.out.mono ?_
          rintro e w8 ⟨rfl, ⟨v8, hf8⟩, hbo8⟩
          have HX8 := Lib.hid (hbo8 bx _ _ _ (by decide) (by omega) HX.out)
          rw [typ_eq, ← HSN2.out] at hf8
          have HF8 := Lib.hid hf8
          clear hf8 hbo8 HW3 HFS HX y0 qc0a qc0b qc1a qc1b qc2a qc2b qc3a qc3b
          go_wp2_with fail
          go_roundw
          case rel => exact ⟨j + 1, v8, by omega, by go_num, HF8, HX8⟩
          case measure => simp [intOf]; omega
        · rw [List.take_of_length_le (by omega)] at HFS hlen2
          have q6 : wr.cell? ⟨bx, 6, none⟩ = some (.slice B2 k2 d2) := block_cell HX.out 6
          have HSN8 : Hid (textT (crewF (l.take (k + 1))) = pre7 ++ textT (p.types.map (tF p.id)) ++ textT (p.vacs.map (vF p.id))) := HSN7
          generalize pre7 ++ textT (p.types.map (tF p.id)) = pre9 at *
          clear HSN7 HX
          go_wp2_with fail
          clear q6
          obtain ⟨wo2, hwo2⟩ : ∃ wo : World, wo = wr := ⟨_, rfl⟩
          go_loopw [74] (fun i wq => ∃ (j : Nat) (v : Value), j ≤ k2 ∧ i = .int .i64 j ∧ Hid (FS w1 wq v (pre9 ++ textT ((p.vacs.take j).map (vF p.id))))) (fun i _ => k2 - (intOf i).toNat)
          case atStart => exact ⟨0, v, Nat.zero_le _, rfl, Lib.hid (by simpa [textT] using HFS.out)⟩
          case round =>
            clear HFS hwo2
            obtain ⟨r, v, hr, rfl, HFS⟩ := hrel
            have hlen3 : (pre9 ++ textT ((p.vacs.take r).map (vF p.id))).length ≤ 81600 := by
              have := vacs_up HPG.out r
              rw [List.length_append]
              omega
            by_cases hlt3 : r < k2
            · have hrs : r < p.vacs.length := by omega
              obtain ⟨bt, ot, rfl, hbS, y0, y1⟩ := (HQ.out wr HFS.out.2).2.shift_at hrs
              have hvg := HPG.out.v _ (getD_in hrs noShift)
              have HSN2 : Hid (pre9 ++ textT ((p.vacs.take (r + 1)).map (vF p.id)) = pre9 ++ textT ((p.vacs.take r).map (vF p.id)) ++ (lineT (vF p.id (p.vacs.getD r noShift)) ++ [10])) := by
                show _ = _
                rw [map_take_snoc _ hrs noShift, textT_snoc, List.append_assoc]
              generalize p.vacs.getD r noShift = sh at *
              generalize pre9 ++ textT ((p.vacs.take r).map (vF p.id)) = pre10 at *
              have hwa : Below wr.heap.size wr (wr.alloc (.cells #[.int .i64 sh.at_, .int .i64 sh.off] 72)) := (Below.refl _ _).alloc (Nat.le_refl _) _
              have hxa := heap_alloc_new wr (.cells #[.int .i64 sh.at_, .int .i64 sh.off] 72)
              have HFA := Lib.hid (HFS.out.next hwa)
              have HXA := Lib.hid hxa
              have ya : (wr.alloc (.cells #[.int .i64 sh.at_, .int .i64 sh.off] 72)).cell? ⟨wr.heap.size, 0, none⟩ = some (.int .i64 sh.at_) := block_cell hxa 0
              have hxlt2 : wr.heap.size < (wr.alloc (.cells #[.int .i64 sh.at_, .int .i64 sh.off] 72)).heap.size := by simp
              have HP0 : Hid (Pow10 (wr.alloc (.cells #[.int .i64 sh.at_, .int .i64 sh.off] 72))) := HPW.out _ (HBW.out.trans (HFA.out.2.mono hsw))
              have HVG := Lib.hid hvg
              clear hbS hwa hxa HFS hvg
              go_wp2_with fail
              generalize wr.alloc (.cells #[.int .i64 sh.at_, .int .i64 sh.off] 72) = wb at *
              generalize hby : wr.heap.size = by_ at *
              refine (formatInstant_any sh.at_ wb HVG.out.1 (by have := HVG.out; omega) HP0.out).mono ?_
              rintro e w2 ⟨fS, rfl, hi1, hb2⟩
              have hF1 := hi1.eqT HVG.out.1 (by have := HVG.out; omega)
              have hz1 : fS.size ≤ 16 := by
                rw [hF1, ByteArray.size_append, ByteArray.size_append, (insD_fld HVG.out.1 (by have := HVG.out; omega)).2, insC_fld.2]; decide
              have HF1 := Lib.hid hF1
              have HF2 := Lib.hid (HFA.out.next hb2)
              have hx2 := (hb2.block by_ hxlt2).trans HXA.out
              have z1 : w2.cell? ⟨by_, 1, none⟩ = some (.int .i64 sh.off) := block_cell hx2 1
              have HP2 : Hid (Pow10 w2) := HP0.out.next hb2
              clear hi1 hF1 hb2 hx2 ya y0 y1 HFA HXA HP0
              have hsub : IntKind.i64.wrap (sh.off - 1) = sh.off - 1 := IntWalk.i64_in _ (by have := HVG.out; omega)
              go_wp2_with fail
              refine (formatInstant_any (sh.off - 1) w2 (by have := HVG.out; omega) (by have := HVG.out; omega) HP2.out).mono ?_
              rintro e w3 ⟨gS, rfl, hi2, hb3⟩
              have hG1 := hi2.eqT (by have := HVG.out; omega) (by have := HVG.out; omega)
              have hz2 : gS.size ≤ 16 := by
                rw [hG1, ByteArray.size_append, ByteArray.size_append, (insD_fld (t := sh.off - 1) (by have := HVG.out; omega) (by have := HVG.out; omega)).2, insC_fld.2]; decide
              have hE : ((⟨#[118, 97, 99, 97, 116, 105, 111, 110, 32]⟩ : ByteArray) ++ idS ++ (⟨#[32]⟩ : ByteArray) ++ fS ++ (⟨#[32]⟩ : ByteArray) ++ gS ++ (⟨#[10]⟩ : ByteArray)).data.toList = lineT (vF p.id sh) ++ [10] := by
                rw [HF1.out, hG1, vac_eq, HVL.out]
              have HE := Lib.hid hE
              have HF3 := Lib.hid (HF2.out.next hb3)
              have HW4 := Lib.hid (HF3.out.write ((⟨#[118, 97, 99, 97, 116, 105, 111, 110, 32]⟩ : ByteArray) ++ idS ++ (⟨#[32]⟩ : ByteArray) ++ fS ++ (⟨#[32]⟩ : ByteArray) ++ gS ++ (⟨#[10]⟩ : ByteArray)) (by simp only [ByteArray.size_append, sz1, szP, szT, szV]; omega))
              have qd0a : ¬ 9223372036854775807 < 9 + idS.size := by omega
              have qd0b : ¬ 9223372036854775807 < ((⟨#[118, 97, 99, 97, 116, 105, 111, 110, 32]⟩ : ByteArray)).size + idS.size := by rw [show ((⟨#[118, 97, 99, 97, 116, 105, 111, 110, 32]⟩ : ByteArray)).size = 9 by first | rfl | (simp only [ByteArray.size_append]; rfl)]; omega
              have qd1a : ¬ 9223372036854775807 < 9 + idS.size + 1 := by omega
              have qd1b : ¬ 9223372036854775807 < ((⟨#[118, 97, 99, 97, 116, 105, 111, 110, 32]⟩ : ByteArray) ++ idS).size + 1 := by rw [show ((⟨#[118, 97, 99, 97, 116, 105, 111, 110, 32]⟩ : ByteArray) ++ idS).size = 9 + idS.size by first | rfl | (simp only [ByteArray.size_append]; rfl)]; omega
              have qd2a : ¬ 9223372036854775807 < 9 + idS.size + 1 + fS.size := by omega
              have qd2b : ¬ 9223372036854775807 < ((⟨#[118, 97, 99, 97, 116, 105, 111, 110, 32]⟩ : ByteArray) ++ idS ++ (⟨#[32]⟩ : ByteArray)).size + fS.size := by rw [show ((⟨#[118, 97, 99, 97, 116, 105, 111, 110, 32]⟩ : ByteArray) ++ idS ++ (⟨#[32]⟩ : ByteArray)).size = 9 + idS.size + 1 by first | rfl | (simp only [ByteArray.size_append]; rfl)]; omega
              have qd3a : ¬ 9223372036854775807 < 9 + idS.size + 1 + fS.size + 1 := by omega
              have qd3b : ¬ 9223372036854775807 < ((⟨#[118, 97, 99, 97, 116, 105, 111, 110, 32]⟩ : ByteArray) ++ idS ++ (⟨#[32]⟩ : ByteArray) ++ fS).size + 1 := by rw [show ((⟨#[118, 97, 99, 97, 116, 105, 111, 110, 32]⟩ : ByteArray) ++ idS ++ (⟨#[32]⟩ : ByteArray) ++ fS).size = 9 + idS.size + 1 + fS.size by first | rfl | (simp only [ByteArray.size_append]; rfl)]; omega
              have qd4a : ¬ 9223372036854775807 < 9 + idS.size + 1 + fS.size + 1 + gS.size := by omega
              have qd4b : ¬ 9223372036854775807 < ((⟨#[118, 97, 99, 97, 116, 105, 111, 110, 32]⟩ : ByteArray) ++ idS ++ (⟨#[32]⟩ : ByteArray) ++ fS ++ (⟨#[32]⟩ : ByteArray)).size + gS.size := by rw [show ((⟨#[118, 97, 99, 97, 116, 105, 111, 110, 32]⟩ : ByteArray) ++ idS ++ (⟨#[32]⟩ : ByteArray) ++ fS ++ (⟨#[32]⟩ : ByteArray)).size = 9 + idS.size + 1 + fS.size + 1 by first | rfl | (simp only [ByteArray.size_append]; rfl)]; omega
              have qd5a : ¬ 9223372036854775807 < 9 + idS.size + 1 + fS.size + 1 + gS.size + 1 := by omega
              have qd5b : ¬ 9223372036854775807 < ((⟨#[118, 97, 99, 97, 116, 105, 111, 110, 32]⟩ : ByteArray) ++ idS ++ (⟨#[32]⟩ : ByteArray) ++ fS ++ (⟨#[32]⟩ : ByteArray) ++ gS).size + 1 := by rw [show ((⟨#[118, 97, 99, 97, 116, 105, 111, 110, 32]⟩ : ByteArray) ++ idS ++ (⟨#[32]⟩ : ByteArray) ++ fS ++ (⟨#[32]⟩ : ByteArray) ++ gS).size = 9 + idS.size + 1 + fS.size + 1 + gS.size by first | rfl | (simp only [ByteArray.size_append]; rfl)]; omega
              clear hi2 hG1 hE hb3 z1 hsub HF2 HP2
              go_wp2_with fail
              refine HW4.out.mono ?_
              rintro e w8 ⟨rfl, ⟨v8, hf8⟩, hbo8⟩
              rw [HE.out, ← HSN2.out] at hf8
              have HF8 := Lib.hid hf8
              clear hf8 hbo8 HW4 HF3 HE HF1 qd0a qd0b qd1a qd1b qd2a qd2b qd3a qd3b qd4a qd4b qd5a qd5b
              go_wp2_with fail
              go_roundw
              case rel => exact ⟨r + 1, v8, by omega, by go_num, HF8⟩
              case measure => simp [intOf]; omega
            · rw [List.take_of_length_le (by omega)] at HFS
              rw [← HSN8.out] at HFS
              clear hlen3
              go_wp2_with fail
              go_roundw
              case rel => exact ⟨k + 1, v, by omega, by go_num, HFS⟩
              case measure => simp [intOf]; omega
    · rw [List.take_of_length_le (by omega)] at HFS hlen
      have hsz : (crewS l).size = (textT (crewF l)).length := bs_size _
      have HLEN := Lib.hid (bldLen_any _ v _ wr HFS.out.1)
      have HSTR := Lib.hid (bldString_any _ v _ wr HFS.out.1)
      have HBE : Hid (Below w.heap.size w wr) := HBW.out.trans (HFS.out.2.mono hsw)
      have HSZ := Lib.hid hsz
      clear hsz
      go_wp2_with fail
      refine HLEN.out.mono ?_
      rintro e w' ⟨rfl, rfl⟩
      clear HLEN
      by_cases hbig : 20000 < (textT (crewF l)).length
      · have hbig' : ((20000 : Int) < ((textT (crewF l)).length : Nat)) := by omega
        go_wp2_with fail
        go_ret2
        refine ⟨?_, HBE.out⟩
        rw [← HR.out, if_pos (by rw [HSZ.out]; exact hbig)]
        rfl
      · have hbig' : ¬ ((20000 : Int) < ((textT (crewF l)).length : Nat)) := by omega
        go_wp2_with fail
        refine HSTR.out.mono ?_
        rintro e w' ⟨rfl, hb9⟩
        have HB9 : Hid (Below w.heap.size w w') := HBE.out.trans (hb9.mono (by have := HBW.out.size; omega))
        clear hb9
        go_wp2_with fail
        go_ret2
        refine ⟨?_, HB9.out⟩
        rw [← HR.out, if_neg (by rw [HSZ.out]; exact hbig)]
        rfl
set_option maxRecDepth 100000 in
theorem crewFormat_any (t : GTT) (l : List GPerson) (A1 A2 A3 A4 : Option Addr) (n1 n2 n3 n4 c1 c2 c3 c4 : Nat) (w : World) (ht : t.ok) (hl : ∀ p ∈ l, p.ok) (hs1 : Sl Ty.zone w (all_ w) A1 n1 c1 t.zones) (hs2 : Sl Ty.airport w (all_ w) A2 n2 c2 t.airports) (hs3 : Sl Ty.flight w (all_ w) A3 n3 c3 t.flights) (hs4 : Sl Ty.person w (all_ w) A4 n4 c4 l) (hp : Pow10 w) :
    Calls Tryz.prog 14 #[.agg #[.slice A1 n1 c1, .slice A2 n2 c2, .slice A3 n3 c3], .slice A4 n4 c4] w (FmtPost (fmtC t l) w) := by
  by_cases hv : crewE t l = 0
  · unfold fmtC
    rw [if_neg (by simpa using hv)]
    exact crewFormat_ok t l A1 A2 A3 A4 n1 n2 n3 n4 c1 c2 c3 c4 w ht hl hv hs1 hs2 hs3 hs4 hp
  · unfold fmtC
    rw [if_pos hv]
    have ha : ∀ o, Below w.heap.size w (w.alloc o) := fun o => (Below.refl _ _).alloc (Nat.le_refl _) _
    have HV : Hid (∀ o, Calls Tryz.prog 23 #[.agg #[.slice A1 n1 c1, .slice A2 n2 c2, .slice A3 n3 c3], .slice A4 n4 c4] (w.alloc o) (ErrPost (crewE t l) (w.alloc o))) := fun o => crewValidate_any t l A1 A2 A3 A4 n1 n2 n3 n4 c1 c2 c3 c4 (w.alloc o) ht hl (hs1.next (ha o)) (hs2.next (ha o)) (hs3.next (ha o)) (hs4.next (ha o))
    have HB0 := Lib.hid (ha (.cells #[.slice A1 n1 c1, .slice A2 n2 c2, .slice A3 n3 c3] 26))
    generalize crewE t l = er at *
    have hv' : (er == 0) = false := by simpa using hv
    clear ha hs1 hs2 hs3 hs4 ht hl hp
    go_enter Tryz.func14, Tryz.ntmps14
    go_wp2_with fail
    refine (HV.out _).mono ?_
    rintro e w1 ⟨rfl, hb1⟩
    have HB1 : Hid (Below w.heap.size w w1) := HB0.out.trans (hb1.mono HB0.out.size)
    clear hb1 HB0 HV
    go_wp2_with fail
    go_ret2
    exact ⟨rfl, HB1.out⟩
end Go.Proofs.YtkhedjfdjjeopaaGreatDoor
/-
  Contract of the reference's FormatCrew.
  Condition: the data are well formed; the table of powers of ten is laid.
-/
namespace Go.Proofs.YtkhedjfdjjeopaaGreatDoor
set_option linter.unusedSimpArgs false
set_option linter.unusedVariables false
open Go.RowKit

theorem ext_bs {a : ByteArray} {L : List UInt8} (h : a.data.toList = L) : a = bs L := by rw [← h]; exact (bs_of a).symm
theorem hdrR_eq (s i n b r q : ByteArray) : (s ++ (⟨#[112, 101, 114, 115, 111, 110, 32]⟩ : ByteArray) ++ i ++ (⟨#[32]⟩ : ByteArray) ++ n ++ (⟨#[32]⟩ : ByteArray) ++ b ++ (⟨#[32]⟩ : ByteArray) ++ r ++ (⟨#[32]⟩ : ByteArray) ++ q ++ (⟨#[10]⟩ : ByteArray)).data.toList = s.data.toList ++ (lineT [personS, i, n, b, r, q] ++ [10]) := by
  rw [← hdr_eq]
  simp only [dataApp, List.append_assoc]
theorem typR_eq (t i s : ByteArray) : (t ++ (⟨#[116, 121, 112, 101, 32]⟩ : ByteArray) ++ i ++ (⟨#[32]⟩ : ByteArray) ++ s ++ (⟨#[10]⟩ : ByteArray)).data.toList = t.data.toList ++ (lineT [typeS, i, s] ++ [10]) := by
  rw [← typ_eq]
  simp only [dataApp, List.append_assoc]
theorem vacR_eq (t i f g : ByteArray) : (t ++ (⟨#[118, 97, 99, 97, 116, 105, 111, 110, 32]⟩ : ByteArray) ++ i ++ (⟨#[32]⟩ : ByteArray) ++ f ++ (⟨#[32]⟩ : ByteArray) ++ g ++ (⟨#[10]⟩ : ByteArray)).data.toList = t.data.toList ++ ((⟨#[118, 97, 99, 97, 116, 105, 111, 110, 32]⟩ : ByteArray) ++ i ++ (⟨#[32]⟩ : ByteArray) ++ f ++ (⟨#[32]⟩ : ByteArray) ++ g ++ (⟨#[10]⟩ : ByteArray)).data.toList := by
  simp only [dataApp, List.append_assoc]
theorem rankNm_is {r : Int} (h : 0 ≤ r ∧ r < 3) : (r = 0 ∧ rankNm r = capS) ∨ (r = 1 ∧ rankNm r = offS) ∨ (r = 2 ∧ rankNm r = cabS) := by
  have : r = 0 ∨ r = 1 ∨ r = 2 := by omega
  rcases this with rfl | rfl | rfl
  · exact .inl ⟨rfl, rfl⟩
  · exact .inr (.inl ⟨rfl, rfl⟩)
  · exact .inr (.inr ⟨rfl, rfl⟩)
set_option maxRecDepth 100000 in
set_option maxHeartbeats 6400000 in
theorem formatCrewR_ok (t : GTT) (l : List GPerson) (A1 A2 A3 A4 : Option Addr) (n1 n2 n3 n4 c1 c2 c3 c4 : Nat) (w : World) (ht : t.ok) (hl : ∀ p ∈ l, p.ok) (hv : crewE t l = 0) (hs1 : Sl Ty.zone w (all_ w) A1 n1 c1 t.zones) (hs2 : Sl Ty.airport w (all_ w) A2 n2 c2 t.airports) (hs3 : Sl Ty.flight w (all_ w) A3 n3 c3 t.flights) (hs4 : Sl Ty.person w (all_ w) A4 n4 c4 l) (hp : Pow10 w) :
    Calls Tryz.prog 15 #[.agg #[.slice A1 n1 c1, .slice A2 n2 c2, .slice A3 n3 c3], .slice A4 n4 c4] w (FmtPost (if 20000 < (crewS l).size then (noStr, 10) else (crewS l, 0)) w) := by
  obtain ⟨R, hR⟩ : ∃ R : ByteArray × Int, (if 20000 < (crewS l).size then (noStr, 10) else (crewS l, 0)) = R := ⟨_, rfl⟩
  rw [hR]
  have HR := Lib.hid hR
  clear hR
  have hok := crewE_zero.1 hv
  have e1 : n4 ≤ l.length := Nat.le_of_eq hs4.len
  have e1' : l.length ≤ n4 := Nat.le_of_eq hs4.len.symm
  have b1 := hok.len
  have HG := Lib.hid hok.good
  have ha : ∀ o, Below w.heap.size w (w.alloc o) := fun o => (Below.refl _ _).alloc (Nat.le_refl _) _
  have HV : Hid (∀ o, Calls Tryz.prog 31 #[.agg #[.slice A1 n1 c1, .slice A2 n2 c2, .slice A3 n3 c3], .slice A4 n4 c4] (w.alloc o) (ErrPost 0 (w.alloc o))) := fun o => hv ▸ validateCrewR_any t l A1 A2 A3 A4 n1 n2 n3 n4 c1 c2 c3 c4 (w.alloc o) ht hl (hs1.next (ha o)) (hs2.next (ha o)) (hs3.next (ha o)) (hs4.next (ha o))
  have HS4 := Lib.hid hs4
  have HPW : Hid (∀ V, Below w.heap.size w V → Pow10 V) := fun V hV => hp.next hV
  clear hok hs1 hs2 hs3 hs4 hv ht hl hp
  have hB0 := ha (.cells #[.slice A1 n1 c1, .slice A2 n2 c2, .slice A3 n3 c3] 26)
  have HB0 := Lib.hid hB0
  clear ha hB0
  go_enter Tryz.func15, Tryz.ntmps15
  go_wp2_with fail
  refine (HV.out _).mono ?_
  clear HV
  generalize w.alloc (.cells #[.slice A1 n1 c1, .slice A2 n2 c2, .slice A3 n3 c3] 26) = W at *
  rintro e w1 ⟨rfl, hb1⟩
  have hbw : Below w.heap.size w w1 := HB0.out.trans (hb1.mono HB0.out.size)
  have hsw := hbw.size
  have HT4 := Lib.hid (HS4.out.keep (all_keep hbw))
  have HBW := Lib.hid hbw
  clear HS4 HB0 hb1 hbw
  go_wp2_with fail
  go_loopw [7, 8] (fun s i wr => ∃ (k : Nat) (sv : ByteArray), k ≤ n4 ∧ i = .int .i64 k ∧ s = .string sv ∧ Hid (sv.data.toList = textT (crewF (l.take k))) ∧ Hid (Below w1.heap.size w1 wr)) (fun _ i _ => n4 - (intOf i).toNat)
  case atStart => exact ⟨0, _, Nat.zero_le _, rfl, rfl, rfl, Below.refl _ _⟩
  case round =>
    obtain ⟨k, s, hk, rfl, rfl, HS, HWR⟩ := hrel
    have hlen : (textT (crewF (l.take k))).length ≤ 80000 := by
      have := crewF_up (l := l.take k) fun p hp => HG.out p (List.mem_of_mem_take hp)
      rw [List.length_take] at this
      omega
    have hsz : s.size ≤ (textT (crewF (l.take k))).length := by rw [Lib.size_eq, HS.out]; exact Nat.le_refl _
    by_cases hlt : k < n4
    · have hks : k < l.length := by omega
      obtain ⟨b, o, B1, k1, d1, B2, k2, d2, rfl, hbS, hat, hsT, hsV⟩ := (HT4.out.keep (w' := wr) fun b hb => HWR.out.block b (by unfold all_ at hb; omega)).person_at hks
      have hpg := HG.out _ (getD_in hks noPerson)
      have HSN : Hid (textT (crewF (l.take (k + 1))) = textT (crewF (l.take k)) ++ (lineT (pF (l.getD k noPerson)) ++ [10]) ++ textT ((l.getD k noPerson).types.map (tF (l.getD k noPerson).id)) ++ textT ((l.getD k noPerson).vacs.map (vF (l.getD k noPerson).id))) := by
        show _ = _
        rw [crewF_snoc hks, textT_app]
        unfold linesP
        rw [textT, textT_app]
        simp only [List.append_assoc, List.cons_append, List.nil_append]
      have hbS' : b < w.heap.size := hbS
      generalize l.getD k noPerson = p at *
      have HPG := Lib.hid hpg
      have m1 : k1 ≤ p.types.length := Nat.le_of_eq hsT.len
      have m1' : p.types.length ≤ k1 := Nat.le_of_eq hsT.len.symm
      have m2 : k2 ≤ p.vacs.length := Nat.le_of_eq hsV.len
      have m2' : p.vacs.length ≤ k2 := Nat.le_of_eq hsV.len.symm
      have HQ : Hid (∀ wq, Below w1.heap.size w1 wq → Sl Ty.str wq (all_ w) B1 k1 d1 p.types ∧ Sl Ty.shift wq (all_ w) B2 k2 d2 p.vacs) := fun wq hb => by
        have hq : ∀ b, all_ w b → wq.heap[b]? = wr.heap[b]? := fun b hb' => by
          unfold all_ at hb'
          rw [hb.block b (by omega), HWR.out.block b (by omega)]
        exact ⟨hsT.keep hq, hsV.keep hq⟩
      generalize textT (crewF (l.take k)) = pre at *
      have y0 : wr.cell? ⟨b, o + k * 7, none⟩ = some (.int .i64 p.id) := hat 0 _ rfl
      have y1 := hat 1 _ rfl; have y2 := hat 2 _ rfl; have y3 := hat 3 _ rfl; have y4 := hat 4 _ rfl; have y5 := hat 5 _ rfl; have y6 := hat 6 _ rfl
      have hwa : Below wr.heap.size wr (wr.alloc (.cells #[.int .i64 p.id, .string p.name, .string p.base, .int .i64 p.rank, .int .i64 p.sen, .slice B1 k1 d1, .slice B2 k2 d2] 49)) := (Below.refl _ _).alloc (Nat.le_refl _) _
      have hxa := heap_alloc_new wr (.cells #[.int .i64 p.id, .string p.name, .string p.base, .int .i64 p.rank, .int .i64 p.sen, .slice B1 k1 d1, .slice B2 k2 d2] 49)
      have hgb : w1.heap.size ≤ wr.heap.size := HWR.out.size
      have HFA : Hid (Below w1.heap.size w1 (wr.alloc (.cells #[.int .i64 p.id, .string p.name, .string p.base, .int .i64 p.rank, .int .i64 p.sen, .slice B1 k1 d1, .slice B2 k2 d2] 49))) := HWR.out.trans (hwa.mono hgb)
      have HXA := Lib.hid hxa
      have ya : (wr.alloc (.cells #[.int .i64 p.id, .string p.name, .string p.base, .int .i64 p.rank, .int .i64 p.sen, .slice B1 k1 d1, .slice B2 k2 d2] 49)).cell? ⟨wr.heap.size, 0, none⟩ = some (.int .i64 p.id) := block_cell hxa 0
      have hPwr : Below w.heap.size w (wr.alloc (.cells #[.int .i64 p.id, .string p.name, .string p.base, .int .i64 p.rank, .int .i64 p.sen, .slice B1 k1 d1, .slice B2 k2 d2] 49)) := HBW.out.trans (HFA.out.mono hsw)
      have HFI : Hid (Calls Tryz.prog 41 #[.int .i64 p.id] (wr.alloc (.cells #[.int .i64 p.id, .string p.name, .string p.base, .int .i64 p.rank, .int .i64 p.sen, .slice B1 k1 d1, .slice B2 k2 d2] 49)) fun e w' => e = .returned (.string (numS p.id)) ∧ Below (wr.alloc (.cells #[.int .i64 p.id, .string p.name, .string p.base, .int .i64 p.rank, .int .i64 p.sen, .slice B1 k1 d1, .slice B2 k2 d2] 49)).heap.size (wr.alloc (.cells #[.int .i64 p.id, .string p.name, .string p.base, .int .i64 p.rank, .int .i64 p.sen, .slice B1 k1 d1, .slice B2 k2 d2] 49)) w') := formatIntR_any p.id _ (by have := hpg.id; omega) (by have := hpg.id; omega) (HPW.out _ hPwr)
      have hxlt : wr.heap.size < (wr.alloc (.cells #[.int .i64 p.id, .string p.name, .string p.base, .int .i64 p.rank, .int .i64 p.sen, .slice B1 k1 d1, .slice B2 k2 d2] 49)).heap.size := by simp
      have t1 := numS_le hpg.id; have t2 := name_le hpg.name; have t3 := airport_le hpg.base; have t4 := rankNm_le p.rank; have t5 := numS_le hpg.sen
      have HHL : Hid (lineT (pF p) = lineT [personS, numS p.id, p.name, p.base, rankNm p.rank, numS p.sen]) := rfl
      have HTL : Hid (∀ s, lineT (tF p.id s) = lineT [typeS, numS p.id, s]) := fun s => rfl
      have HVL : Hid (∀ v : GShift, lineT (vF p.id v) = lineT [vacS, numS p.id, insD v.at_, insC v.at_, insD (v.off - 1), insC (v.off - 1)]) := fun s => rfl
      have HFI2 : Hid (∀ V, Below w.heap.size w V → Calls Tryz.prog 41 #[.int .i64 p.sen] V fun e w' => e = .returned (.string (numS p.sen)) ∧ Below V.heap.size V w') := fun V hV => formatIntR_any p.sen V (by have := hpg.sen; omega) (by have := hpg.sen; omega) (HPW.out V hV)
      have HRK := Lib.hid (rankNm_is hpg.rank)
      generalize numS p.id = idS at *
      generalize numS p.sen = snS at *
      generalize rankNm p.rank = rk at *
      have m3 := hpg.lt; have m4 := hpg.lv
      clear hpg hsT hsV hbS hat hwa hxa hPwr HWR
      go_wp2_with fail
      generalize wr.alloc (.cells #[.int .i64 p.id, .string p.name, .string p.base, .int .i64 p.rank, .int .i64 p.sen, .slice B1 k1 d1, .slice B2 k2 d2] 49) = wa at *
      generalize hbx : wr.heap.size = bx at *
      refine HFI.out.mono ?_
      rintro e w2 ⟨rfl, hb2⟩
      have HF2 : Hid (Below w1.heap.size w1 w2) := HFA.out.trans (hb2.mono (by omega))
      have HBR : Hid (Below w.heap.size w w2) := HBW.out.trans (HF2.out.mono hsw)
      have hx2 := (hb2.block bx hxlt).trans HXA.out
      have HX2 := Lib.hid hx2
      have z1 : w2.cell? ⟨bx, 1, none⟩ = some (.string p.name) := block_cell hx2 1
      have z2 : w2.cell? ⟨bx, 2, none⟩ = some (.string p.base) := block_cell hx2 2
      have z3 : w2.cell? ⟨bx, 3, none⟩ = some (.int .i64 p.rank) := block_cell hx2 3
      have z4 : w2.cell? ⟨bx, 4, none⟩ = some (.int .i64 p.sen) := block_cell hx2 4
      have hbx2 : bx < w2.heap.size := (Array.getElem?_eq_some_iff.1 hx2).1
      clear hx2 hb2 y0 y1 y2 y3 y4 y5 y6 ya HFI HFA HXA
      obtain ⟨X1, hX1⟩ : ∃ X, s ++ (⟨#[112, 101, 114, 115, 111, 110, 32]⟩ : ByteArray) = X := ⟨_, rfl⟩
      have uX1 : X1.size ≤ s.size + 7 := by rw [← hX1, ByteArray.size_append]; exact Nat.le_refl _
      have HX1 := Lib.hid hX1
      have vX1 : ¬ 9223372036854775807 < s.size + 7 := by omega
      obtain ⟨X3, hX3⟩ : ∃ X, X1 ++ idS = X := ⟨_, rfl⟩
      have uX3 : X3.size ≤ X1.size + idS.size := by rw [← hX3, ByteArray.size_append]; exact Nat.le_refl _
      have HX3 := Lib.hid hX3
      have vX3 : ¬ 9223372036854775807 < X1.size + idS.size := by omega
      obtain ⟨X4, hX4⟩ : ∃ X, X3 ++ (⟨#[32]⟩ : ByteArray) = X := ⟨_, rfl⟩
      have uX4 : X4.size ≤ X3.size + 1 := by rw [← hX4, ByteArray.size_append]; exact Nat.le_refl _
      have HX4 := Lib.hid hX4
      have vX4 : ¬ 9223372036854775807 < X3.size + 1 := by omega
      obtain ⟨X7, hX7⟩ : ∃ X, X4 ++ p.name = X := ⟨_, rfl⟩
      have uX7 : X7.size ≤ X4.size + p.name.size := by rw [← hX7, ByteArray.size_append]; exact Nat.le_refl _
      have HX7 := Lib.hid hX7
      have vX7 : ¬ 9223372036854775807 < X4.size + p.name.size := by omega
      obtain ⟨X8, hX8⟩ : ∃ X, X7 ++ (⟨#[32]⟩ : ByteArray) = X := ⟨_, rfl⟩
      have uX8 : X8.size ≤ X7.size + 1 := by rw [← hX8, ByteArray.size_append]; exact Nat.le_refl _
      have HX8 := Lib.hid hX8
      have vX8 : ¬ 9223372036854775807 < X7.size + 1 := by omega
      obtain ⟨X11, hX11⟩ : ∃ X, X8 ++ p.base = X := ⟨_, rfl⟩
      have uX11 : X11.size ≤ X8.size + p.base.size := by rw [← hX11, ByteArray.size_append]; exact Nat.le_refl _
      have HX11 := Lib.hid hX11
      have vX11 : ¬ 9223372036854775807 < X8.size + p.base.size := by omega
      obtain ⟨X12, hX12⟩ : ∃ X, X11 ++ (⟨#[32]⟩ : ByteArray) = X := ⟨_, rfl⟩
      have uX12 : X12.size ≤ X11.size + 1 := by rw [← hX12, ByteArray.size_append]; exact Nat.le_refl _
      have HX12 := Lib.hid hX12
      have vX12 : ¬ 9223372036854775807 < X11.size + 1 := by omega
      obtain ⟨X18, hX18⟩ : ∃ X, X12 ++ rk = X := ⟨_, rfl⟩
      have uX18 : X18.size ≤ X12.size + rk.size := by rw [← hX18, ByteArray.size_append]; exact Nat.le_refl _
      have HX18 := Lib.hid hX18
      have vX18 : ¬ 9223372036854775807 < X12.size + rk.size := by omega
      obtain ⟨X19, hX19⟩ : ∃ X, X18 ++ (⟨#[32]⟩ : ByteArray) = X := ⟨_, rfl⟩
      have uX19 : X19.size ≤ X18.size + 1 := by rw [← hX19, ByteArray.size_append]; exact Nat.le_refl _
      have HX19 := Lib.hid hX19
      have vX19 : ¬ 9223372036854775807 < X18.size + 1 := by omega
      obtain ⟨X23, hX23⟩ : ∃ X, X19 ++ snS = X := ⟨_, rfl⟩
      have uX23 : X23.size ≤ X19.size + snS.size := by rw [← hX23, ByteArray.size_append]; exact Nat.le_refl _
      have HX23 := Lib.hid hX23
      have vX23 : ¬ 9223372036854775807 < X19.size + snS.size := by omega
      obtain ⟨X24, hX24⟩ : ∃ X, X23 ++ (⟨#[10]⟩ : ByteArray) = X := ⟨_, rfl⟩
      have uX24 : X24.size ≤ X23.size + 1 := by rw [← hX24, ByteArray.size_append]; exact Nat.le_refl _
      have HX24 := Lib.hid hX24
      have vX24 : ¬ 9223372036854775807 < X23.size + 1 := by omega
      clear hX1 hX3 hX4 hX7 hX8 hX11 hX12 hX18 hX19 hX23 hX24
      have HALL : Hid (s ++ (⟨#[112, 101, 114, 115, 111, 110, 32]⟩ : ByteArray) ++ idS ++ (⟨#[32]⟩ : ByteArray) ++ p.name ++ (⟨#[32]⟩ : ByteArray) ++ p.base ++ (⟨#[32]⟩ : ByteArray) ++ rk ++ (⟨#[32]⟩ : ByteArray) ++ snS ++ (⟨#[10]⟩ : ByteArray) = X24) := by show _ = _; rw [HX1.out, HX3.out, HX4.out, HX7.out, HX8.out, HX11.out, HX12.out, HX18.out, HX19.out, HX23.out, HX24.out]
      go_upto_region 10 with (fail)
      refine wp_region_facts 25 [32, 33, 34, 35, 36, 37, 38, 39, 40, 41, 42, 43, 44, 45, 46, 47, 48, 49, 50, 51, 52, 53, 54, 55, 56] (fun i v x => (([(fun v _ => v = .string s), (fun v _ => v = .string X1), (fun v _ => v = .string idS), (fun v _ => v = .string X3), (fun v _ => v = .string X4), (fun v _ => v = .pointer (some ⟨bx, 1, none⟩)), (fun v _ => v = .string p.name), (fun v _ => v = .string X7), (fun v _ => v = .string X8), (fun v _ => v = .pointer (some ⟨bx, 2, none⟩)), (fun v _ => v = .string p.base), (fun v _ => v = .string X11), (fun v _ => v = .string X12), (fun v x => ∃ b, v = .slice (some ⟨b, 0, none⟩) 3 3 ∧ x.heap[b]? = some (.cells #[.string capS, .string offS, .string cabS] 9 (0, 0))), (fun v _ => v = .pointer (some ⟨bx, 3, none⟩)), (fun v _ => v = .int .i64 p.rank), (fun v x => ∃ b k, v = .pointer (some ⟨b, k, none⟩) ∧ x.cell? ⟨b, k, none⟩ = some (.string rk)), (fun v _ => v = .string rk), (fun v _ => v = .string X18), (fun v _ => v = .string X19), (fun v _ => v = .pointer (some ⟨bx, 4, none⟩)), (fun v _ => v = .int .i64 p.sen), (fun v _ => v = .string snS), (fun v _ => v = .string X23), (fun v _ => v = .string X24)] : List (Value → World → Prop)).getD i (fun _ _ => True)) v x) (by kernel_rfl) (by kernel_rfl) (by kernel_rfl) (by kernel_rfl) (by kernel_rfl) ?_ ?_ ?_
      · intro i v x x' h hx
        rcases Nat.lt_or_ge i 25 with hi | hi
        · have hi' : i = 0 ∨ i = 1 ∨ i = 2 ∨ i = 3 ∨ i = 4 ∨ i = 5 ∨ i = 6 ∨ i = 7 ∨ i = 8 ∨ i = 9 ∨ i = 10 ∨ i = 11 ∨ i = 12 ∨ i = 13 ∨ i = 14 ∨ i = 15 ∨ i = 16 ∨ i = 17 ∨ i = 18 ∨ i = 19 ∨ i = 20 ∨ i = 21 ∨ i = 22 ∨ i = 23 ∨ i = 24 := by omega
          rcases hi' with rfl | rfl | rfl | rfl | rfl | rfl | rfl | rfl | rfl | rfl | rfl | rfl | rfl | rfl | rfl | rfl | rfl | rfl | rfl | rfl | rfl | rfl | rfl | rfl | rfl
          · exact h
          · exact h
          · exact h
          · exact h
          · exact h
          · exact h
          · exact h
          · exact h
          · exact h
          · exact h
          · exact h
          · exact h
          · exact h
          · exact let ⟨b, e, hc⟩ := h; ⟨b, e, (hx.block b (Array.getElem?_eq_some_iff.1 hc).1).trans hc⟩
          · exact h
          · exact h
          · exact let ⟨b, k, e, hc⟩ := h; ⟨b, k, e, cell_kept hc hx⟩
          · exact h
          · exact h
          · exact h
          · exact h
          · exact h
          · exact h
          · exact h
          · exact h
        · rw [List.getD_eq_getElem?_getD, List.getElem?_eq_none (by simpa using hi)]; trivial
      · intro q o' hq ho a' w' hb' hout hpre K hK
        have hq' : q = 0 ∨ q = 1 ∨ q = 2 ∨ q = 3 ∨ q = 4 ∨ q = 5 ∨ q = 6 ∨ q = 7 ∨ q = 8 ∨ q = 9 ∨ q = 10 ∨ q = 11 ∨ q = 12 ∨ q = 13 ∨ q = 14 ∨ q = 15 ∨ q = 16 ∨ q = 17 ∨ q = 18 ∨ q = 19 ∨ q = 20 ∨ q = 21 ∨ q = 22 ∨ q = 23 ∨ q = 24 := by omega
        rcases hq' with rfl | rfl | rfl | rfl | rfl | rfl | rfl | rfl | rfl | rfl | rfl | rfl | rfl | rfl | rfl | rfl | rfl | rfl | rfl | rfl | rfl | rfl | rfl | rfl | rfl
        · obtain rfl := Option.some.inj ho
          have e7 : a'.tmps[7]? = some (.string s) := hout 7 (by decide)
          go_simp
          exact hK (.string s) w' rfl (Below.refl _ _)
        · obtain rfl := Option.some.inj ho
          have p0 : a'.tmps.getD 32 undef = .string s := hpre ⟨0, .data⟩ (by simp) 32 rfl
          simp only [Array.getD_eq_getD_getElem?] at p0
          go_simp
          exact hK _ _ (congrArg Value.string HX1.out) (Below.refl _ _)
        · obtain rfl := Option.some.inj ho
          have e10 : a'.tmps[10]? = some (.string idS) := hout 10 (by decide)
          go_simp
          exact hK (.string idS) w' rfl (Below.refl _ _)
        · obtain rfl := Option.some.inj ho
          have p1 : a'.tmps.getD 33 undef = .string X1 := hpre ⟨1, .data⟩ (by simp) 33 rfl
          simp only [Array.getD_eq_getD_getElem?] at p1
          have p2 : a'.tmps.getD 34 undef = .string idS := hpre ⟨2, .data⟩ (by simp) 34 rfl
          simp only [Array.getD_eq_getD_getElem?] at p2
          go_simp
          exact hK _ _ (congrArg Value.string HX3.out) (Below.refl _ _)
        · obtain rfl := Option.some.inj ho
          have p3 : a'.tmps.getD 35 undef = .string X3 := hpre ⟨3, .data⟩ (by simp) 35 rfl
          simp only [Array.getD_eq_getD_getElem?] at p3
          go_simp
          exact hK _ _ (congrArg Value.string HX4.out) (Below.refl _ _)
        · obtain rfl := Option.some.inj ho
          have e9 : a'.tmps[9]? = some (.pointer (some ⟨bx, 0, none⟩)) := hout 9 (by decide)
          go_simp
          exact hK (.pointer (some ⟨bx, 1, none⟩)) w' rfl (Below.refl _ _)
        · obtain rfl := Option.some.inj ho
          have p5 : a'.tmps.getD 37 undef = .pointer (some ⟨bx, 1, none⟩) := hpre ⟨5, .data⟩ (by simp) 37 rfl
          simp only [Array.getD_eq_getD_getElem?] at p5
          have c6 := cell_kept z1 hb'
          go_simp
          exact hK (.string p.name) w' rfl (Below.refl _ _)
        · obtain rfl := Option.some.inj ho
          have p4 : a'.tmps.getD 36 undef = .string X4 := hpre ⟨4, .data⟩ (by simp) 36 rfl
          simp only [Array.getD_eq_getD_getElem?] at p4
          have p6 : a'.tmps.getD 38 undef = .string p.name := hpre ⟨6, .data⟩ (by simp) 38 rfl
          simp only [Array.getD_eq_getD_getElem?] at p6
          go_simp
          exact hK _ _ (congrArg Value.string HX7.out) (Below.refl _ _)
        · obtain rfl := Option.some.inj ho
          have p7 : a'.tmps.getD 39 undef = .string X7 := hpre ⟨7, .data⟩ (by simp) 39 rfl
          simp only [Array.getD_eq_getD_getElem?] at p7
          go_simp
          exact hK _ _ (congrArg Value.string HX8.out) (Below.refl _ _)
        · obtain rfl := Option.some.inj ho
          have e9 : a'.tmps[9]? = some (.pointer (some ⟨bx, 0, none⟩)) := hout 9 (by decide)
          go_simp
          exact hK (.pointer (some ⟨bx, 2, none⟩)) w' rfl (Below.refl _ _)
        · obtain rfl := Option.some.inj ho
          have p9 : a'.tmps.getD 41 undef = .pointer (some ⟨bx, 2, none⟩) := hpre ⟨9, .data⟩ (by simp) 41 rfl
          simp only [Array.getD_eq_getD_getElem?] at p9
          have c10 := cell_kept z2 hb'
          go_simp
          exact hK (.string p.base) w' rfl (Below.refl _ _)
        · obtain rfl := Option.some.inj ho
          have p8 : a'.tmps.getD 40 undef = .string X8 := hpre ⟨8, .data⟩ (by simp) 40 rfl
          simp only [Array.getD_eq_getD_getElem?] at p8
          have p10 : a'.tmps.getD 42 undef = .string p.base := hpre ⟨10, .data⟩ (by simp) 42 rfl
          simp only [Array.getD_eq_getD_getElem?] at p10
          go_simp
          exact hK _ _ (congrArg Value.string HX11.out) (Below.refl _ _)
        · obtain rfl := Option.some.inj ho
          have p11 : a'.tmps.getD 43 undef = .string X11 := hpre ⟨11, .data⟩ (by simp) 43 rfl
          simp only [Array.getD_eq_getD_getElem?] at p11
          go_simp
          exact hK _ _ (congrArg Value.string HX12.out) (Below.refl _ _)
        · obtain rfl := Option.some.inj ho
          go_simp
          go_at_call 42
          refine (rankNames_any w').mono ?_
          rintro e w'' ⟨rfl, rfl⟩
          exact hK _ _ ⟨w'.heap.size, rfl, heap_alloc_new _ _⟩ ((Below.refl _ _).alloc (Nat.le_refl _) _)
        · obtain rfl := Option.some.inj ho
          have e9 : a'.tmps[9]? = some (.pointer (some ⟨bx, 0, none⟩)) := hout 9 (by decide)
          go_simp
          exact hK (.pointer (some ⟨bx, 3, none⟩)) w' rfl (Below.refl _ _)
        · obtain rfl := Option.some.inj ho
          have p14 : a'.tmps.getD 46 undef = .pointer (some ⟨bx, 3, none⟩) := hpre ⟨14, .data⟩ (by simp) 46 rfl
          simp only [Array.getD_eq_getD_getElem?] at p14
          have c15 := cell_kept z3 hb'
          go_simp
          exact hK (.int .i64 p.rank) w' rfl (Below.refl _ _)
        · obtain rfl := Option.some.inj ho
          have p13 := hpre ⟨13, .data⟩ (by simp) 45 rfl
          simp only [Array.getD_eq_getD_getElem?] at p13
          have p15 : a'.tmps.getD 47 undef = .int .i64 p.rank := hpre ⟨15, .data⟩ (by simp) 47 rfl
          simp only [Array.getD_eq_getD_getElem?] at p15
          obtain ⟨b, p13, hb3⟩ := p13
          have c0 := block_cell hb3 0; have c1 := block_cell hb3 1; have c2 := block_cell hb3 2
          clear hb3
          rcases HRK.out with ⟨e0, e1⟩ | ⟨e0, e1⟩ | ⟨e0, e1⟩
          · rw [e0] at p15
            clear e0
            go_simp
            exact hK _ _ ⟨b, 0, rfl, by rw [e1]; exact c0⟩ (Below.refl _ _)
          · rw [e0] at p15
            clear e0
            go_simp
            exact hK _ _ ⟨b, 1, rfl, by rw [e1]; exact c1⟩ (Below.refl _ _)
          · rw [e0] at p15
            clear e0
            go_simp
            exact hK _ _ ⟨b, 2, rfl, by rw [e1]; exact c2⟩ (Below.refl _ _)
        · obtain rfl := Option.some.inj ho
          have p16 := hpre ⟨16, .data⟩ (by simp) 48 rfl
          simp only [Array.getD_eq_getD_getElem?] at p16
          obtain ⟨b, k, p16, hc⟩ := p16
          go_simp
          exact hK (.string rk) w' rfl (Below.refl _ _)
        · obtain rfl := Option.some.inj ho
          have p12 : a'.tmps.getD 44 undef = .string X12 := hpre ⟨12, .data⟩ (by simp) 44 rfl
          simp only [Array.getD_eq_getD_getElem?] at p12
          have p17 : a'.tmps.getD 49 undef = .string rk := hpre ⟨17, .data⟩ (by simp) 49 rfl
          simp only [Array.getD_eq_getD_getElem?] at p17
          go_simp
          exact hK _ _ (congrArg Value.string HX18.out) (Below.refl _ _)
        · obtain rfl := Option.some.inj ho
          have p18 : a'.tmps.getD 50 undef = .string X18 := hpre ⟨18, .data⟩ (by simp) 50 rfl
          simp only [Array.getD_eq_getD_getElem?] at p18
          go_simp
          exact hK _ _ (congrArg Value.string HX19.out) (Below.refl _ _)
        · obtain rfl := Option.some.inj ho
          have e9 : a'.tmps[9]? = some (.pointer (some ⟨bx, 0, none⟩)) := hout 9 (by decide)
          go_simp
          exact hK (.pointer (some ⟨bx, 4, none⟩)) w' rfl (Below.refl _ _)
        · obtain rfl := Option.some.inj ho
          have p20 : a'.tmps.getD 52 undef = .pointer (some ⟨bx, 4, none⟩) := hpre ⟨20, .data⟩ (by simp) 52 rfl
          simp only [Array.getD_eq_getD_getElem?] at p20
          have c21 := cell_kept z4 hb'
          go_simp
          exact hK (.int .i64 p.sen) w' rfl (Below.refl _ _)
        · obtain rfl := Option.some.inj ho
          have p21 : a'.tmps.getD 53 undef = .int .i64 p.sen := hpre ⟨21, .data⟩ (by simp) 53 rfl
          simp only [Array.getD_eq_getD_getElem?] at p21
          go_simp
          go_at_call 41
          refine (HFI2.out w' (HBR.out.trans (hb'.mono HBR.out.size))).mono ?_
          rintro e w'' ⟨rfl, hb''⟩
          exact hK _ _ rfl hb''
        · obtain rfl := Option.some.inj ho
          have p19 : a'.tmps.getD 51 undef = .string X19 := hpre ⟨19, .data⟩ (by simp) 51 rfl
          simp only [Array.getD_eq_getD_getElem?] at p19
          have p22 : a'.tmps.getD 54 undef = .string snS := hpre ⟨22, .data⟩ (by simp) 54 rfl
          simp only [Array.getD_eq_getD_getElem?] at p22
          go_simp
          exact hK _ _ (congrArg Value.string HX23.out) (Below.refl _ _)
        · obtain rfl := Option.some.inj ho
          have p23 : a'.tmps.getD 55 undef = .string X23 := hpre ⟨23, .data⟩ (by simp) 55 rfl
          simp only [Array.getD_eq_getD_getElem?] at p23
          go_simp
          exact hK _ _ (congrArg Value.string HX24.out) (Below.refl _ _)
      · intro us w' hb' hfacts
        have h24 : us 24 = .string X24 := hfacts 24 (by decide)
        simp only [putL, Act.put, List.setIfInBounds_toArray, List.set_cons_zero, List.set_cons_succ]
        generalize us 24 = x24 at *
        subst h24
        simp only [List.drop_succ_cons, List.drop_zero]
        clear hfacts
        have hx7 := (hb'.block bx hbx2).trans HX2.out
        have HBX7 := Lib.hid hx7
        have z5 : w'.cell? ⟨bx, 5, none⟩ = some (.slice B1 k1 d1) := block_cell hx7 5
        have HF7 : Hid (Below w1.heap.size w1 w') := HF2.out.trans (hb'.mono (by omega))
        have hs7 : X24.data.toList = pre ++ (lineT (pF p) ++ [10]) := by rw [← HALL.out, hdrR_eq, HS.out, HHL.out]
        have hl7 : (pre ++ (lineT (pF p) ++ [10])).length ≤ 80100 := by
          have := pF_up HPG.out
          simp only [List.length_append, List.length_singleton]; omega
        have HSN7 : Hid (textT (crewF (l.take (k + 1))) = pre ++ (lineT (pF p) ++ [10]) ++ textT (p.types.map (tF p.id)) ++ textT (p.vacs.map (vF p.id))) := HSN
        generalize pre ++ (lineT (pF p) ++ [10]) = pre7 at *
        have HS7 := Lib.hid hs7
        clear hb' hx7 hs7 HSN HS hsz HALL HX2 HF2 HBR z1 z2 z3 z4 z5 uX1 vX1 HX1 uX3 vX3 HX3 uX4 vX4 HX4 uX7 vX7 HX7 uX8 vX8 HX8 uX11 vX11 HX11 uX12 vX12 HX12 uX18 vX18 HX18 uX19 vX19 HX19 uX23 vX23 HX23 uX24 vX24 HX24
        generalize X24 = s7 at *
        go_wp2_with fail
        go_loopw [7, 11] (fun s i wq => ∃ (j : Nat) (sv : ByteArray), j ≤ k1 ∧ i = .int .i64 j ∧ s = .string sv ∧ Hid (sv.data.toList = pre7 ++ textT ((p.types.take j).map (tF p.id))) ∧ Hid (Below w1.heap.size w1 wq) ∧ Hid (wq.heap[bx]? = some (.cells #[.int .i64 p.id, .string p.name, .string p.base, .int .i64 p.rank, .int .i64 p.sen, .slice B1 k1 d1, .slice B2 k2 d2] 49 (0, 0)))) (fun _ i _ => k1 - (intOf i).toNat)
        case atStart => exact ⟨0, s7, Nat.zero_le _, rfl, rfl, Lib.hid (by simpa [textT] using HS7.out), HF7, HBX7⟩
        case round =>
          obtain ⟨j, s, hj, rfl, rfl, HS, HWQ, HX⟩ := hrel
          clear HS7 HF7 HBX7
          have hlen2 : (pre7 ++ textT ((p.types.take j).map (tF p.id))).length ≤ 80600 := by
            have := types_up HPG.out j
            rw [List.length_append]
            omega
          have hsz : s.size ≤ (pre7 ++ textT ((p.types.take j).map (tF p.id))).length := by rw [Lib.size_eq, HS.out]; exact Nat.le_refl _
          by_cases hlt2 : j < k1
          · have hjs : j < p.types.length := by omega
            obtain ⟨bt, ot, rfl, hbS, y0⟩ := (HQ.out wr HWQ.out).1.name_at hjs
            have hsq := name_le (HPG.out.t _ (getD_in hjs noStr))
            have HSN2 : Hid (pre7 ++ textT ((p.types.take (j + 1)).map (tF p.id)) = pre7 ++ textT ((p.types.take j).map (tF p.id)) ++ (lineT [typeS, idS, p.types.getD j noStr] ++ [10])) := by
              show _ = _
              rw [map_take_snoc _ hjs noStr, textT_snoc, HTL.out, List.append_assoc]
            generalize p.types.getD j noStr = q at *
            generalize pre7 ++ textT ((p.types.take j).map (tF p.id)) = pre8 at *
            have z5 : wr.cell? ⟨bx, 5, none⟩ = some (.slice (some ⟨bt, ot, none⟩) k1 d1) := block_cell HX.out 5
            have HE : Hid ((s ++ (⟨#[116, 121, 112, 101, 32]⟩ : ByteArray) ++ idS ++ (⟨#[32]⟩ : ByteArray) ++ q ++ (⟨#[10]⟩ : ByteArray)).data.toList = pre7 ++ textT ((p.types.take (j + 1)).map (tF p.id))) := by
              show _ = _
              rw [typR_eq, HS.out, HSN2.out]
            have qc0a : ¬ 9223372036854775807 < s.size + 5 := by omega
            have qc0b : ¬ 9223372036854775807 < (s).size + 5 := by rw [show (s).size = s.size by first | rfl | (simp only [ByteArray.size_append]; rfl)]; omega
            have qc1a : ¬ 9223372036854775807 < s.size + 5 + idS.size := by omega
            have qc1b : ¬ 9223372036854775807 < (s ++ (⟨#[116, 121, 112, 101, 32]⟩ : ByteArray)).size + idS.size := by rw [show (s ++ (⟨#[116, 121, 112, 101, 32]⟩ : ByteArray)).size = s.size + 5 by first | rfl | (simp only [ByteArray.size_append]; rfl)]; omega
            have qc2a : ¬ 9223372036854775807 < s.size + 5 + idS.size + 1 := by omega
            have qc2b : ¬ 9223372036854775807 < (s ++ (⟨#[116, 121, 112, 101, 32]⟩ : ByteArray) ++ idS).size + 1 := by rw [show (s ++ (⟨#[116, 121, 112, 101, 32]⟩ : ByteArray) ++ idS).size = s.size + 5 + idS.size by first | rfl | (simp only [ByteArray.size_append]; rfl)]; omega
            have qc3a : ¬ 9223372036854775807 < s.size + 5 + idS.size + 1 + q.size := by omega
            have qc3b : ¬ 9223372036854775807 < (s ++ (⟨#[116, 121, 112, 101, 32]⟩ : ByteArray) ++ idS ++ (⟨#[32]⟩ : ByteArray)).size + q.size := by rw [show (s ++ (⟨#[116, 121, 112, 101, 32]⟩ : ByteArray) ++ idS ++ (⟨#[32]⟩ : ByteArray)).size = s.size + 5 + idS.size + 1 by first | rfl | (simp only [ByteArray.size_append]; rfl)]; omega
            have qc4a : ¬ 9223372036854775807 < s.size + 5 + idS.size + 1 + q.size + 1 := by omega
            have qc4b : ¬ 9223372036854775807 < (s ++ (⟨#[116, 121, 112, 101, 32]⟩ : ByteArray) ++ idS ++ (⟨#[32]⟩ : ByteArray) ++ q).size + 1 := by rw [show (s ++ (⟨#[116, 121, 112, 101, 32]⟩ : ByteArray) ++ idS ++ (⟨#[32]⟩ : ByteArray) ++ q).size = s.size + 5 + idS.size + 1 + q.size by first | rfl | (simp only [ByteArray.size_append]; rfl)]; omega
            clear hbS
            go_wp2_with fail
            go_roundw
            case rel => exact ⟨j + 1, _, by omega, by go_num, rfl, HE, HWQ, HX⟩
            case measure => simp [intOf]; omega
          · rw [List.take_of_length_le (by omega)] at HS hlen2 hsz
            have HSN8 : Hid (textT (crewF (l.take (k + 1))) = pre7 ++ textT (p.types.map (tF p.id)) ++ textT (p.vacs.map (vF p.id))) := HSN7
            generalize pre7 ++ textT (p.types.map (tF p.id)) = pre9 at *
            have z5 : wr.cell? ⟨bx, 5, none⟩ = some (.slice B1 k1 d1) := block_cell HX.out 5
            clear HSN7
            go_wp2_with fail
            clear z5
            obtain ⟨s9, hs9⟩ : ∃ x : ByteArray, x = s := ⟨_, rfl⟩
            obtain ⟨wo2, hwo2⟩ : ∃ wo : World, wo = wr := ⟨_, rfl⟩
            go_loopw [7, 12] (fun s i wq => ∃ (j : Nat) (sv : ByteArray), j ≤ k2 ∧ i = .int .i64 j ∧ s = .string sv ∧ Hid (sv.data.toList = pre9 ++ textT ((p.vacs.take j).map (vF p.id))) ∧ Hid (Below w1.heap.size w1 wq) ∧ Hid (wq.heap[bx]? = some (.cells #[.int .i64 p.id, .string p.name, .string p.base, .int .i64 p.rank, .int .i64 p.sen, .slice B1 k1 d1, .slice B2 k2 d2] 49 (0, 0)))) (fun _ i _ => k2 - (intOf i).toNat)
            case atStart => exact ⟨0, s, Nat.zero_le _, rfl, rfl, Lib.hid (by simpa [textT] using HS.out), HWQ, HX⟩
            case round =>
              clear HS HWQ HX hwo2 hs9 hsz
              obtain ⟨r, s, hr, rfl, rfl, HS, HWQ, HX⟩ := hrel
              have hlen3 : (pre9 ++ textT ((p.vacs.take r).map (vF p.id))).length ≤ 81600 := by
                have := vacs_up HPG.out r
                rw [List.length_append]
                omega
              have hsz : s.size ≤ (pre9 ++ textT ((p.vacs.take r).map (vF p.id))).length := by rw [Lib.size_eq, HS.out]; exact Nat.le_refl _
              by_cases hlt3 : r < k2
              · have hrs : r < p.vacs.length := by omega
                obtain ⟨bt, ot, rfl, hbS, y0, y1⟩ := (HQ.out wr HWQ.out).2.shift_at hrs
                have hvg := HPG.out.v _ (getD_in hrs noShift)
                have HSN2 : Hid (pre9 ++ textT ((p.vacs.take (r + 1)).map (vF p.id)) = pre9 ++ textT ((p.vacs.take r).map (vF p.id)) ++ (lineT (vF p.id (p.vacs.getD r noShift)) ++ [10])) := by
                  show _ = _
                  rw [map_take_snoc _ hrs noShift, textT_snoc, List.append_assoc]
                generalize p.vacs.getD r noShift = sh at *
                generalize pre9 ++ textT ((p.vacs.take r).map (vF p.id)) = pre10 at *
                have z6 : wr.cell? ⟨bx, 6, none⟩ = some (.slice (some ⟨bt, ot, none⟩) k2 d2) := block_cell HX.out 6
                have HBR : Hid (Below w.heap.size w wr) := HBW.out.trans (HWQ.out.mono hsw)
                have hz1 : (insD sh.at_ ++ blankS ++ insC sh.at_).size ≤ 16 := by
                  rw [ByteArray.size_append, ByteArray.size_append, (insD_fld (t := sh.at_) (by omega) (by omega)).2, insC_fld.2]; decide
                have hz2 : (insD (sh.off - 1) ++ blankS ++ insC (sh.off - 1)).size ≤ 16 := by
                  rw [ByteArray.size_append, ByteArray.size_append, (insD_fld (t := sh.off - 1) (by omega) (by omega)).2, insC_fld.2]; decide
                have HI1 : Hid (∀ V, Below w.heap.size w V → Calls Tryz.prog 43 #[.int .i64 sh.at_] V fun e w' => e = .returned (.string (insD sh.at_ ++ blankS ++ insC sh.at_)) ∧ Below V.heap.size V w') := fun V hV =>
                  (instantTxtR_any sh.at_ V (by omega) (by omega) (HPW.out V hV)).mono fun e w' ⟨x, he, hi, hb⟩ => ⟨by rw [he, hi.eqT (by omega) (by omega)], hb⟩
                have HI2 : Hid (∀ V, Below w.heap.size w V → Calls Tryz.prog 43 #[.int .i64 (sh.off - 1)] V fun e w' => e = .returned (.string (insD (sh.off - 1) ++ blankS ++ insC (sh.off - 1))) ∧ Below V.heap.size V w') := fun V hV =>
                  (instantTxtR_any (sh.off - 1) V (by omega) (by omega) (HPW.out V hV)).mono fun e w' ⟨x, he, hi, hb⟩ => ⟨by rw [he, hi.eqT (by omega) (by omega)], hb⟩
                have HVQ : Hid (lineT (vF p.id sh) ++ [10] = ((⟨#[118, 97, 99, 97, 116, 105, 111, 110, 32]⟩ : ByteArray) ++ idS ++ (⟨#[32]⟩ : ByteArray) ++ (insD sh.at_ ++ blankS ++ insC sh.at_) ++ (⟨#[32]⟩ : ByteArray) ++ (insD (sh.off - 1) ++ blankS ++ insC (sh.off - 1)) ++ (⟨#[10]⟩ : ByteArray)).data.toList) := by
                  show _ = _
                  rw [vac_eq, HVL.out]
                have hsub : IntKind.i64.wrap (sh.off - 1) = sh.off - 1 := IntWalk.i64_in _ (by omega)
                generalize insD sh.at_ ++ blankS ++ insC sh.at_ = fS at *
                generalize insD (sh.off - 1) ++ blankS ++ insC (sh.off - 1) = gS at *
                have hbx3 : bx < wr.heap.size := (Array.getElem?_eq_some_iff.1 HX.out).1
                clear hbS hvg
                obtain ⟨Y1, hY1⟩ : ∃ X, s ++ (⟨#[118, 97, 99, 97, 116, 105, 111, 110, 32]⟩ : ByteArray) = X := ⟨_, rfl⟩
                have uY1 : Y1.size ≤ s.size + 9 := by rw [← hY1, ByteArray.size_append]; exact Nat.le_refl _
                have HY1 := Lib.hid hY1
                have vY1 : ¬ 9223372036854775807 < s.size + 9 := by omega
                obtain ⟨Y3, hY3⟩ : ∃ X, Y1 ++ idS = X := ⟨_, rfl⟩
                have uY3 : Y3.size ≤ Y1.size + idS.size := by rw [← hY3, ByteArray.size_append]; exact Nat.le_refl _
                have HY3 := Lib.hid hY3
                have vY3 : ¬ 9223372036854775807 < Y1.size + idS.size := by omega
                obtain ⟨Y4, hY4⟩ : ∃ X, Y3 ++ (⟨#[32]⟩ : ByteArray) = X := ⟨_, rfl⟩
                have uY4 : Y4.size ≤ Y3.size + 1 := by rw [← hY4, ByteArray.size_append]; exact Nat.le_refl _
                have HY4 := Lib.hid hY4
                have vY4 : ¬ 9223372036854775807 < Y3.size + 1 := by omega
                obtain ⟨Y12, hY12⟩ : ∃ X, Y4 ++ fS = X := ⟨_, rfl⟩
                have uY12 : Y12.size ≤ Y4.size + fS.size := by rw [← hY12, ByteArray.size_append]; exact Nat.le_refl _
                have HY12 := Lib.hid hY12
                have vY12 : ¬ 9223372036854775807 < Y4.size + fS.size := by omega
                obtain ⟨Y13, hY13⟩ : ∃ X, Y12 ++ (⟨#[32]⟩ : ByteArray) = X := ⟨_, rfl⟩
                have uY13 : Y13.size ≤ Y12.size + 1 := by rw [← hY13, ByteArray.size_append]; exact Nat.le_refl _
                have HY13 := Lib.hid hY13
                have vY13 : ¬ 9223372036854775807 < Y12.size + 1 := by omega
                obtain ⟨Y22, hY22⟩ : ∃ X, Y13 ++ gS = X := ⟨_, rfl⟩
                have uY22 : Y22.size ≤ Y13.size + gS.size := by rw [← hY22, ByteArray.size_append]; exact Nat.le_refl _
                have HY22 := Lib.hid hY22
                have vY22 : ¬ 9223372036854775807 < Y13.size + gS.size := by omega
                obtain ⟨Y23, hY23⟩ : ∃ X, Y22 ++ (⟨#[10]⟩ : ByteArray) = X := ⟨_, rfl⟩
                have uY23 : Y23.size ≤ Y22.size + 1 := by rw [← hY23, ByteArray.size_append]; exact Nat.le_refl _
                have HY23 := Lib.hid hY23
                have vY23 : ¬ 9223372036854775807 < Y22.size + 1 := by omega
                clear hY1 hY3 hY4 hY12 hY13 hY22 hY23
                have HALL : Hid (s ++ (⟨#[118, 97, 99, 97, 116, 105, 111, 110, 32]⟩ : ByteArray) ++ idS ++ (⟨#[32]⟩ : ByteArray) ++ fS ++ (⟨#[32]⟩ : ByteArray) ++ gS ++ (⟨#[10]⟩ : ByteArray) = Y23) := by show _ = _; rw [HY1.out, HY3.out, HY4.out, HY12.out, HY13.out, HY22.out, HY23.out]
                go_upto_region 18 with (fail)
                refine wp_region_facts 24 [83, 84, 85, 86, 87, 88, 89, 90, 91, 92, 93, 94, 95, 96, 97, 98, 99, 100, 101, 102, 103, 104, 105, 106] (fun i v x => (([(fun v _ => v = .string s), (fun v _ => v = .string Y1), (fun v _ => v = .string idS), (fun v _ => v = .string Y3), (fun v _ => v = .string Y4), (fun v _ => v = .pointer (some ⟨bx, 6, none⟩)), (fun v _ => v = .slice (some ⟨bt, ot, none⟩) k2 d2), (fun v _ => v = .int .i64 r), (fun v _ => v = .pointer (some ⟨bt, ot + r * 2, none⟩)), (fun v _ => v = .pointer (some ⟨bt, ot + r * 2, none⟩)), (fun v _ => v = .int .i64 sh.at_), (fun v _ => v = .string fS), (fun v _ => v = .string Y12), (fun v _ => v = .string Y13), (fun v _ => v = .pointer (some ⟨bx, 6, none⟩)), (fun v _ => v = .slice (some ⟨bt, ot, none⟩) k2 d2), (fun v _ => v = .int .i64 r), (fun v _ => v = .pointer (some ⟨bt, ot + r * 2, none⟩)), (fun v _ => v = .pointer (some ⟨bt, ot + r * 2 + 1, none⟩)), (fun v _ => v = .int .i64 sh.off), (fun v _ => v = .int .i64 (sh.off - 1)), (fun v _ => v = .string gS), (fun v _ => v = .string Y22), (fun v _ => v = .string Y23)] : List (Value → World → Prop)).getD i (fun _ _ => True)) v x) (by kernel_rfl) (by kernel_rfl) (by kernel_rfl) (by kernel_rfl) (by kernel_rfl) ?_ ?_ ?_
                · intro i v x x' h hx
                  rcases Nat.lt_or_ge i 24 with hi | hi
                  · have hi' : i = 0 ∨ i = 1 ∨ i = 2 ∨ i = 3 ∨ i = 4 ∨ i = 5 ∨ i = 6 ∨ i = 7 ∨ i = 8 ∨ i = 9 ∨ i = 10 ∨ i = 11 ∨ i = 12 ∨ i = 13 ∨ i = 14 ∨ i = 15 ∨ i = 16 ∨ i = 17 ∨ i = 18 ∨ i = 19 ∨ i = 20 ∨ i = 21 ∨ i = 22 ∨ i = 23 := by omega
                    rcases hi' with rfl | rfl | rfl | rfl | rfl | rfl | rfl | rfl | rfl | rfl | rfl | rfl | rfl | rfl | rfl | rfl | rfl | rfl | rfl | rfl | rfl | rfl | rfl | rfl
                    · exact h
                    · exact h
                    · exact h
                    · exact h
                    · exact h
                    · exact h
                    · exact h
                    · exact h
                    · exact h
                    · exact h
                    · exact h
                    · exact h
                    · exact h
                    · exact h
                    · exact h
                    · exact h
                    · exact h
                    · exact h
                    · exact h
                    · exact h
                    · exact h
                    · exact h
                    · exact h
                    · exact h
                  · rw [List.getD_eq_getElem?_getD, List.getElem?_eq_none (by simpa using hi)]; trivial
                · intro q o' hq ho a' w' hb' hout hpre K hK
                  have hq' : q = 0 ∨ q = 1 ∨ q = 2 ∨ q = 3 ∨ q = 4 ∨ q = 5 ∨ q = 6 ∨ q = 7 ∨ q = 8 ∨ q = 9 ∨ q = 10 ∨ q = 11 ∨ q = 12 ∨ q = 13 ∨ q = 14 ∨ q = 15 ∨ q = 16 ∨ q = 17 ∨ q = 18 ∨ q = 19 ∨ q = 20 ∨ q = 21 ∨ q = 22 ∨ q = 23 := by omega
                  rcases hq' with rfl | rfl | rfl | rfl | rfl | rfl | rfl | rfl | rfl | rfl | rfl | rfl | rfl | rfl | rfl | rfl | rfl | rfl | rfl | rfl | rfl | rfl | rfl | rfl
                  · obtain rfl := Option.some.inj ho
                    have e7 : a'.tmps[7]? = some (.string s) := hout 7 (by decide)
                    go_simp
                    exact hK (.string s) w' rfl (Below.refl _ _)
                  · obtain rfl := Option.some.inj ho
                    have p0 : a'.tmps.getD 83 undef = .string s := hpre ⟨0, .data⟩ (by simp) 83 rfl
                    simp only [Array.getD_eq_getD_getElem?] at p0
                    go_simp
                    exact hK _ _ (congrArg Value.string HY1.out) (Below.refl _ _)
                  · obtain rfl := Option.some.inj ho
                    have e10 : a'.tmps[10]? = some (.string idS) := hout 10 (by decide)
                    go_simp
                    exact hK (.string idS) w' rfl (Below.refl _ _)
                  · obtain rfl := Option.some.inj ho
                    have p1 : a'.tmps.getD 84 undef = .string Y1 := hpre ⟨1, .data⟩ (by simp) 84 rfl
                    simp only [Array.getD_eq_getD_getElem?] at p1
                    have p2 : a'.tmps.getD 85 undef = .string idS := hpre ⟨2, .data⟩ (by simp) 85 rfl
                    simp only [Array.getD_eq_getD_getElem?] at p2
                    go_simp
                    exact hK _ _ (congrArg Value.string HY3.out) (Below.refl _ _)
                  · obtain rfl := Option.some.inj ho
                    have p3 : a'.tmps.getD 86 undef = .string Y3 := hpre ⟨3, .data⟩ (by simp) 86 rfl
                    simp only [Array.getD_eq_getD_getElem?] at p3
                    go_simp
                    exact hK _ _ (congrArg Value.string HY4.out) (Below.refl _ _)
                  · obtain rfl := Option.some.inj ho
                    have e9 : a'.tmps[9]? = some (.pointer (some ⟨bx, 0, none⟩)) := hout 9 (by decide)
                    go_simp
                    exact hK (.pointer (some ⟨bx, 6, none⟩)) w' rfl (Below.refl _ _)
                  · obtain rfl := Option.some.inj ho
                    have p5 : a'.tmps.getD 88 undef = .pointer (some ⟨bx, 6, none⟩) := hpre ⟨5, .data⟩ (by simp) 88 rfl
                    simp only [Array.getD_eq_getD_getElem?] at p5
                    have c6 := cell_kept z6 hb'
                    go_simp
                    exact hK (.slice (some ⟨bt, ot, none⟩) k2 d2) w' rfl (Below.refl _ _)
                  · obtain rfl := Option.some.inj ho
                    have e12 : a'.tmps[12]? = some (.int .i64 r) := hout 12 (by decide)
                    go_simp
                    exact hK (.int .i64 r) w' rfl (Below.refl _ _)
                  · obtain rfl := Option.some.inj ho
                    have p6 : a'.tmps.getD 89 undef = .slice (some ⟨bt, ot, none⟩) k2 d2 := hpre ⟨6, .data⟩ (by simp) 89 rfl
                    simp only [Array.getD_eq_getD_getElem?] at p6
                    have p7 : a'.tmps.getD 90 undef = .int .i64 r := hpre ⟨7, .data⟩ (by simp) 90 rfl
                    simp only [Array.getD_eq_getD_getElem?] at p7
                    go_simp
                    exact hK (.pointer (some ⟨bt, ot + r * 2, none⟩)) w' rfl (Below.refl _ _)
                  · obtain rfl := Option.some.inj ho
                    have p8 : a'.tmps.getD 91 undef = .pointer (some ⟨bt, ot + r * 2, none⟩) := hpre ⟨8, .data⟩ (by simp) 91 rfl
                    simp only [Array.getD_eq_getD_getElem?] at p8
                    go_simp
                    exact hK (.pointer (some ⟨bt, ot + r * 2, none⟩)) w' rfl (Below.refl _ _)
                  · obtain rfl := Option.some.inj ho
                    have p9 : a'.tmps.getD 92 undef = .pointer (some ⟨bt, ot + r * 2, none⟩) := hpre ⟨9, .data⟩ (by simp) 92 rfl
                    simp only [Array.getD_eq_getD_getElem?] at p9
                    have c10 := cell_kept y0 hb'
                    go_simp
                    exact hK (.int .i64 sh.at_) w' rfl (Below.refl _ _)
                  · obtain rfl := Option.some.inj ho
                    have p10 : a'.tmps.getD 93 undef = .int .i64 sh.at_ := hpre ⟨10, .data⟩ (by simp) 93 rfl
                    simp only [Array.getD_eq_getD_getElem?] at p10
                    go_simp
                    go_at_call 43
                    refine (HI1.out w' (HBR.out.trans (hb'.mono HBR.out.size))).mono ?_
                    rintro e w'' ⟨rfl, hb''⟩
                    exact hK _ _ rfl hb''
                  · obtain rfl := Option.some.inj ho
                    have p4 : a'.tmps.getD 87 undef = .string Y4 := hpre ⟨4, .data⟩ (by simp) 87 rfl
                    simp only [Array.getD_eq_getD_getElem?] at p4
                    have p11 : a'.tmps.getD 94 undef = .string fS := hpre ⟨11, .data⟩ (by simp) 94 rfl
                    simp only [Array.getD_eq_getD_getElem?] at p11
                    go_simp
                    exact hK _ _ (congrArg Value.string HY12.out) (Below.refl _ _)
                  · obtain rfl := Option.some.inj ho
                    have p12 : a'.tmps.getD 95 undef = .string Y12 := hpre ⟨12, .data⟩ (by simp) 95 rfl
                    simp only [Array.getD_eq_getD_getElem?] at p12
                    go_simp
                    exact hK _ _ (congrArg Value.string HY13.out) (Below.refl _ _)
                  · obtain rfl := Option.some.inj ho
                    have e9 : a'.tmps[9]? = some (.pointer (some ⟨bx, 0, none⟩)) := hout 9 (by decide)
                    go_simp
                    exact hK (.pointer (some ⟨bx, 6, none⟩)) w' rfl (Below.refl _ _)
                  · obtain rfl := Option.some.inj ho
                    have p14 : a'.tmps.getD 97 undef = .pointer (some ⟨bx, 6, none⟩) := hpre ⟨14, .data⟩ (by simp) 97 rfl
                    simp only [Array.getD_eq_getD_getElem?] at p14
                    have c15 := cell_kept z6 hb'
                    go_simp
                    exact hK (.slice (some ⟨bt, ot, none⟩) k2 d2) w' rfl (Below.refl _ _)
                  · obtain rfl := Option.some.inj ho
                    have e12 : a'.tmps[12]? = some (.int .i64 r) := hout 12 (by decide)
                    go_simp
                    exact hK (.int .i64 r) w' rfl (Below.refl _ _)
                  · obtain rfl := Option.some.inj ho
                    have p15 : a'.tmps.getD 98 undef = .slice (some ⟨bt, ot, none⟩) k2 d2 := hpre ⟨15, .data⟩ (by simp) 98 rfl
                    simp only [Array.getD_eq_getD_getElem?] at p15
                    have p16 : a'.tmps.getD 99 undef = .int .i64 r := hpre ⟨16, .data⟩ (by simp) 99 rfl
                    simp only [Array.getD_eq_getD_getElem?] at p16
                    go_simp
                    exact hK (.pointer (some ⟨bt, ot + r * 2, none⟩)) w' rfl (Below.refl _ _)
                  · obtain rfl := Option.some.inj ho
                    have p17 : a'.tmps.getD 100 undef = .pointer (some ⟨bt, ot + r * 2, none⟩) := hpre ⟨17, .data⟩ (by simp) 100 rfl
                    simp only [Array.getD_eq_getD_getElem?] at p17
                    go_simp
                    exact hK (.pointer (some ⟨bt, ot + r * 2 + 1, none⟩)) w' rfl (Below.refl _ _)
                  · obtain rfl := Option.some.inj ho
                    have p18 : a'.tmps.getD 101 undef = .pointer (some ⟨bt, ot + r * 2 + 1, none⟩) := hpre ⟨18, .data⟩ (by simp) 101 rfl
                    simp only [Array.getD_eq_getD_getElem?] at p18
                    have c19 := cell_kept y1 hb'
                    go_simp
                    exact hK (.int .i64 sh.off) w' rfl (Below.refl _ _)
                  · obtain rfl := Option.some.inj ho
                    have p19 : a'.tmps.getD 102 undef = .int .i64 sh.off := hpre ⟨19, .data⟩ (by simp) 102 rfl
                    simp only [Array.getD_eq_getD_getElem?] at p19
                    go_simp
                    exact hK (.int .i64 (sh.off - 1)) w' rfl (Below.refl _ _)
                  · obtain rfl := Option.some.inj ho
                    have p20 : a'.tmps.getD 103 undef = .int .i64 (sh.off - 1) := hpre ⟨20, .data⟩ (by simp) 103 rfl
                    simp only [Array.getD_eq_getD_getElem?] at p20
                    go_simp
                    go_at_call 43
                    refine (HI2.out w' (HBR.out.trans (hb'.mono HBR.out.size))).mono ?_
                    rintro e w'' ⟨rfl, hb''⟩
                    exact hK _ _ rfl hb''
                  · obtain rfl := Option.some.inj ho
                    have p13 : a'.tmps.getD 96 undef = .string Y13 := hpre ⟨13, .data⟩ (by simp) 96 rfl
                    simp only [Array.getD_eq_getD_getElem?] at p13
                    have p21 : a'.tmps.getD 104 undef = .string gS := hpre ⟨21, .data⟩ (by simp) 104 rfl
                    simp only [Array.getD_eq_getD_getElem?] at p21
                    go_simp
                    exact hK _ _ (congrArg Value.string HY22.out) (Below.refl _ _)
                  · obtain rfl := Option.some.inj ho
                    have p22 : a'.tmps.getD 105 undef = .string Y22 := hpre ⟨22, .data⟩ (by simp) 105 rfl
                    simp only [Array.getD_eq_getD_getElem?] at p22
                    go_simp
                    exact hK _ _ (congrArg Value.string HY23.out) (Below.refl _ _)
                · intro us w' hb' hfacts
                  have h18 : us 23 = .string Y23 := hfacts 23 (by decide)
                  simp only [putL, Act.put, List.setIfInBounds_toArray, List.set_cons_zero, List.set_cons_succ]
                  generalize us 23 = x23 at *
                  subst h18
                  simp only [List.drop_succ_cons, List.drop_zero]
                  clear hfacts
                  have HF9 : Hid (Below w1.heap.size w1 w') := HWQ.out.trans (hb'.mono HWQ.out.size)
                  have HX9 : Hid (w'.heap[bx]? = some (.cells #[.int .i64 p.id, .string p.name, .string p.base, .int .i64 p.rank, .int .i64 p.sen, .slice B1 k1 d1, .slice (some ⟨bt, ot, none⟩) k2 d2] 49 (0, 0))) := (hb'.block bx hbx3).trans HX.out
                  have HE : Hid (Y23.data.toList = pre9 ++ textT ((p.vacs.take (r + 1)).map (vF p.id))) := by
                    show _ = _
                    rw [← HALL.out, vacR_eq, ← HVQ.out, HS.out, HSN2.out]
                  clear hb' HALL HS HSN2 HVQ HI1 HI2 HWQ HX hsub y0 y1 z6 uY1 vY1 HY1 uY3 vY3 HY3 uY4 vY4 HY4 uY12 vY12 HY12 uY13 vY13 HY13 uY22 vY22 HY22 uY23 vY23 HY23
                  generalize Y23 = s9 at *
                  go_wp2_with fail
                  go_roundw
                  case rel => exact ⟨r + 1, _, by omega, by go_num, rfl, HE, HF9, HX9⟩
                  case measure => simp [intOf]; omega
              · rw [List.take_of_length_le (by omega)] at HS
                have z6 : wr.cell? ⟨bx, 6, none⟩ = some (.slice B2 k2 d2) := block_cell HX.out 6
                rw [← HSN8.out] at HS
                clear hlen3 hsz
                go_wp2_with fail
                go_roundw
                case rel => exact ⟨k + 1, s, by omega, by go_num, rfl, HS, HWQ⟩
                case measure => simp [intOf]; omega
    · rw [List.take_of_length_le (by omega)] at hlen hsz HS
      have hszC : (crewS l).size = (textT (crewF l)).length := bs_size _
      have HBE : Hid (Below w.heap.size w wr) := HBW.out.trans (HWR.out.mono hsw)
      have hse : s = crewS l := ext_bs HS.out
      by_cases hbig : 20000 < s.size
      · have hbig' : ((20000 : Int) < (s.size : Nat)) := by omega
        have HE : Hid (R = (noStr, 10)) := by show _ = _; rw [← HR.out, if_pos (by rw [← hse]; exact hbig)]
        clear hse hszC hsz
        go_wp2_with fail
        go_ret2
        exact ⟨by rw [HE.out]; rfl, HBE.out⟩
      · have hbig' : ¬ ((20000 : Int) < (s.size : Nat)) := by omega
        have HE : Hid (R = (s, 0)) := by show _ = _; rw [← HR.out, if_neg (by rw [← hse]; exact hbig), hse]
        clear hse hszC hsz
        go_wp2_with fail
        go_ret2
        exact ⟨by rw [HE.out]; rfl, HBE.out⟩
set_option maxRecDepth 100000 in
theorem formatCrewR_any (t : GTT) (l : List GPerson) (A1 A2 A3 A4 : Option Addr) (n1 n2 n3 n4 c1 c2 c3 c4 : Nat) (w : World) (ht : t.ok) (hl : ∀ p ∈ l, p.ok) (hs1 : Sl Ty.zone w (all_ w) A1 n1 c1 t.zones) (hs2 : Sl Ty.airport w (all_ w) A2 n2 c2 t.airports) (hs3 : Sl Ty.flight w (all_ w) A3 n3 c3 t.flights) (hs4 : Sl Ty.person w (all_ w) A4 n4 c4 l) (hp : Pow10 w) :
    Calls Tryz.prog 15 #[.agg #[.slice A1 n1 c1, .slice A2 n2 c2, .slice A3 n3 c3], .slice A4 n4 c4] w (FmtPost (fmtC t l) w) := by
  by_cases hv : crewE t l = 0
  · unfold fmtC
    rw [if_neg (by simpa using hv)]
    exact formatCrewR_ok t l A1 A2 A3 A4 n1 n2 n3 n4 c1 c2 c3 c4 w ht hl hv hs1 hs2 hs3 hs4 hp
  · unfold fmtC
    rw [if_pos hv]
    have ha : ∀ o, Below w.heap.size w (w.alloc o) := fun o => (Below.refl _ _).alloc (Nat.le_refl _) _
    have HV : Hid (∀ o, Calls Tryz.prog 31 #[.agg #[.slice A1 n1 c1, .slice A2 n2 c2, .slice A3 n3 c3], .slice A4 n4 c4] (w.alloc o) (ErrPost (crewE t l) (w.alloc o))) := fun o => validateCrewR_any t l A1 A2 A3 A4 n1 n2 n3 n4 c1 c2 c3 c4 (w.alloc o) ht hl (hs1.next (ha o)) (hs2.next (ha o)) (hs3.next (ha o)) (hs4.next (ha o))
    have HB0 := Lib.hid (ha (.cells #[.slice A1 n1 c1, .slice A2 n2 c2, .slice A3 n3 c3] 26))
    generalize crewE t l = er at *
    have hv' : (er == 0) = false := by simpa using hv
    clear ha hs1 hs2 hs3 hs4 ht hl hp
    go_enter Tryz.func15, Tryz.ntmps15
    go_wp2_with fail
    refine (HV.out _).mono ?_
    rintro e w1 ⟨rfl, hb1⟩
    have HB1 : Hid (Below w.heap.size w w1) := HB0.out.trans (hb1.mono HB0.out.size)
    clear hb1 HB0 HV
    go_wp2_with fail
    go_ret2
    exact ⟨rfl, HB1.out⟩
end Go.Proofs.YtkhedjfdjjeopaaGreatDoor
/-
  The walk of pairinglaw10.CrewParses.
  Condition: the timetable is well formed; the string's length fits an int.
-/
namespace Go.Proofs.YtkhedjfdjjeopaaGreatDoor
set_option linter.unusedSimpArgs false
set_option linter.unusedVariables false
open Go.RowKit

theorem parseC_fine (t : GTT) (s : ByteArray) : (parseC t s).1.length ≤ 64 ∧ ∀ p ∈ (parseC t s).1, p.fine := by
  have h0 : ([] : List GPerson).length ≤ 64 ∧ ∀ p ∈ ([] : List GPerson), p.fine := ⟨Nat.zero_le _, fun _ h => (by cases h)⟩
  unfold parseC
  split
  · exact h0
  split
  · exact h0
  split
  · exact h0
  split
  · exact h0
  · rename_i h
    have hk := crewE_zero.1 (Classical.not_not.1 h)
    exact ⟨hk.len, hk.fine⟩
set_option maxRecDepth 100000 in
set_option maxHeartbeats 3200000 in
theorem lawCrewParses_any (t : GTT) (s : ByteArray) (A1 A2 A3 : Option Addr) (n1 n2 n3 c1 c2 c3 : Nat) (w : World) (ht : t.ok) (hs1 : Sl Ty.zone w (all_ w) A1 n1 c1 t.zones) (hs2 : Sl Ty.airport w (all_ w) A2 n2 c2 t.airports) (hs3 : Sl Ty.flight w (all_ w) A3 n3 c3 t.flights) (hz : s.size ≤ maxLen) (hg : Glo w) :
    Calls Tryz.prog 3 #[.agg #[.slice A1 n1 c1, .slice A2 n2 c2, .slice A3 n3 c3], .string s] w (CAwPost w) := by
  have hb0 := (Below.refl w.heap.size w).alloc (Nat.le_refl _) (.cells #[.slice A1 n1 c1, .slice A2 n2 c2, .slice A3 n3 c3] 26)
  have hx0 := heap_alloc_new w (.cells #[.slice A1 n1 c1, .slice A2 n2 c2, .slice A3 n3 c3] 26)
  have hz0 : (w.alloc (.cells #[.slice A1 n1 c1, .slice A2 n2 c2, .slice A3 n3 c3] 26)).heap.size = w.heap.size + 1 := by simp
  have HS : Hid (∀ V, Below w.heap.size w V → (Sl Ty.zone V (all_ V) A1 n1 c1 t.zones ∧ Sl Ty.airport V (all_ V) A2 n2 c2 t.airports ∧ Sl Ty.flight V (all_ V) A3 n3 c3 t.flights) ∧ Glo V) := fun V hV => ⟨⟨hs1.next hV, hs2.next hV, hs3.next hV⟩, hg.next hV⟩
  have HT := Lib.hid ht; have HZ := Lib.hid hz
  have HX : Hid (∀ V, Below (w.heap.size + 1) (w.alloc (.cells #[.slice A1 n1 c1, .slice A2 n2 c2, .slice A3 n3 c3] 26)) V → V.heap[w.heap.size]? = some (.cells #[.slice A1 n1 c1, .slice A2 n2 c2, .slice A3 n3 c3] 26 (0, 0)) ∧ Below w.heap.size w V ∧ w.heap.size + 1 ≤ V.heap.size) := fun V hV => ⟨(hV.block _ (by omega)).trans hx0, hb0.trans (hV.mono (by omega)), by have := hV.size; omega⟩
  have hBW := Below.refl (w.heap.size + 1) (w.alloc (.cells #[.slice A1 n1 c1, .slice A2 n2 c2, .slice A3 n3 c3] 26))
  clear hs1 hs2 hs3 hb0 hx0 hz0 ht hz hg
  go_enter Tryz.func3, Tryz.ntmps3
  go_wp2_with fail
  generalize w.alloc (.cells #[.slice A1 n1 c1, .slice A2 n2 c2, .slice A3 n3 c3] 26) = W at *
  refine (light_any t A1 A2 A3 n1 n2 n3 c1 c2 c3 W (HS.out W (HX.out W hBW).2.1).1.1).mono ?_
  rintro e w1 ⟨bl, rfl, hb1⟩
  have hk1 : Below (w.heap.size + 1) W w1 := hb1.mono (HX.out W hBW).2.2
  clear hb1
  have hnot : bl = false ∨ (bl = true ∧ (5000 : Int) < s.size) ∨ (bl = true ∧ ¬ (5000 : Int) < s.size) := by
    cases bl with
    | false => exact .inl rfl
    | true =>
      by_cases h : (5000 : Int) < s.size
      · exact .inr (.inl ⟨rfl, h⟩)
      · exact .inr (.inr ⟨rfl, h⟩)
  rcases hnot with rfl | ⟨rfl, hbig⟩ | ⟨rfl, hbig⟩
  · go_wp2_with fail
    refine (crewAwake_any w1).mono ?_
    rintro e w2 ⟨rfl, hb2⟩
    go_wp2_with fail
    go_ret
    exact ⟨rfl, (HX.out w1 hk1).2.1.trans (hb2.mono (HX.out w1 hk1).2.1.size)⟩
  · go_wp2_with fail
    refine (crewAwake_any w1).mono ?_
    rintro e w2 ⟨rfl, hb2⟩
    go_wp2_with fail
    go_ret
    exact ⟨rfl, (HX.out w1 hk1).2.1.trans (hb2.mono (HX.out w1 hk1).2.1.size)⟩
  · have x0 : w1.cell? ⟨w.heap.size, 0, none⟩ = some (.slice A1 n1 c1) := block_cell (HX.out w1 hk1).1 0
    have x1 : w1.cell? ⟨w.heap.size, 1, none⟩ = some (.slice A2 n2 c2) := block_cell (HX.out w1 hk1).1 1
    have x2 : w1.cell? ⟨w.heap.size, 2, none⟩ = some (.slice A3 n3 c3) := block_cell (HX.out w1 hk1).1 2
    have hs := HS.out w1 (HX.out w1 hk1).2.1
    have HP := Lib.hid (crewParse_any t s A1 A2 A3 n1 n2 n3 c1 c2 c3 w1 HT.out hs.1.1 hs.1.2.1 hs.1.2.2 HZ.out hs.2)
    have HFN := Lib.hid (parseC_fine t s)
    have HPR : Hid (∀ V, Below w.heap.size w V → Calls Tryz.prog 9 #[.agg #[.slice A1 n1 c1, .slice A2 n2 c2, .slice A3 n3 c3], .string s] V (CParPost (parseC t s) V)) := fun V hV => parseCrewR_any t s A1 A2 A3 n1 n2 n3 c1 c2 c3 V HT.out (HS.out V hV).1.1 (HS.out V hV).1.2.1 (HS.out V hV).1.2.2 HZ.out
    clear hs
    generalize parseC t s = r at *
    obtain ⟨l, ln, er⟩ := r
    unfold CParPost at HP HPR
    simp only at HP HPR HFN
    go_wp2_with fail
    refine HP.out.mono ?_
    clear x0 x1 x2 HP
    rintro e w2 ⟨Xa, nx, cx, rfl, hsx, hb2⟩
    have hk2 : Below (w.heap.size + 1) W w2 := hk1.trans (hb2.mono (HX.out w1 hk1).2.2)
    have HSX := Lib.hid hsx
    clear hb2 hsx
    have x0 : w2.cell? ⟨w.heap.size, 0, none⟩ = some (.slice A1 n1 c1) := block_cell (HX.out w2 hk2).1 0
    have x1 : w2.cell? ⟨w.heap.size, 1, none⟩ = some (.slice A2 n2 c2) := block_cell (HX.out w2 hk2).1 1
    have x2 : w2.cell? ⟨w.heap.size, 2, none⟩ = some (.slice A3 n3 c3) := block_cell (HX.out w2 hk2).1 2
    have HP2 := Lib.hid (HPR.out w2 (HX.out w2 hk2).2.1)
    go_wp2_with fail
    refine HP2.out.mono ?_
    clear x0 x1 x2 HP2 HPR
    rintro e w3 ⟨Ya, ny, cy, rfl, hsy, hb3⟩
    have hk3 : Below (w.heap.size + 1) W w3 := hk2.trans (hb3.mono (HX.out w2 hk2).2.2)
    have HSM := Lib.hid (crewSame_any l Xa Ya nx cx ny cy w3 HFN.out.1 HFN.out.2 (HSX.out.next hb3) hsy)
    clear hb3 hsy
    have e1 : (er == er) = true := by simp
    have e2 : (ln == ln) = true := by simp
    go_wp2_with fail
    refine HSM.out.mono ?_
    clear HSM
    rintro e w4 ⟨rfl, hb4⟩
    have hk4 : Below (w.heap.size + 1) W w4 := hk3.trans (hb4.mono (HX.out w3 hk3).2.2)
    clear hb4
    go_wp2_with fail
    refine (crewAwake_any w4).mono ?_
    rintro e w5 ⟨rfl, hb5⟩
    go_wp2_with fail
    go_ret
    exact ⟨rfl, (HX.out w4 hk4).2.1.trans (hb5.mono (HX.out w4 hk4).2.1.size)⟩
end Go.Proofs.YtkhedjfdjjeopaaGreatDoor
/-
  The walk of pairinglaw10.CrewTexts.
  Condition: the data are well formed; the table of powers of ten is laid.
-/
namespace Go.Proofs.YtkhedjfdjjeopaaGreatDoor
set_option linter.unusedSimpArgs false
set_option linter.unusedVariables false
open Go.RowKit

theorem fmtC_back {t : GTT} {l : List GPerson} (h : (fmtC t l).2 = 0) : parseC t (fmtC t l).1 = (l, 0, 0) ∧ (fmtC t l).1.size ≤ maxLen ∧ l.length ≤ 64 ∧ ∀ p ∈ l, p.fine := by
  unfold fmtC at h ⊢
  split at h
  · rename_i h1
    exact absurd h h1
  · rename_i h1
    have h1' : crewE t l = 0 := Classical.not_not.1 h1
    have hk := crewE_zero.1 h1'
    split at h
    · cases h
    · rename_i h2
      rw [if_neg h1, if_neg h2]
      refine ⟨crew_back h1' (by omega), ?_, hk.len, hk.fine⟩
      show (crewS l).size ≤ maxLen
      unfold maxLen
      omega
set_option maxRecDepth 100000 in
set_option maxHeartbeats 3200000 in
theorem lawCrewTexts_any (t : GTT) (l : List GPerson) (A1 A2 A3 A4 : Option Addr) (n1 n2 n3 n4 c1 c2 c3 c4 : Nat) (w : World) (ht : t.ok) (hl : ∀ p ∈ l, p.ok) (hs1 : Sl Ty.zone w (all_ w) A1 n1 c1 t.zones) (hs2 : Sl Ty.airport w (all_ w) A2 n2 c2 t.airports) (hs3 : Sl Ty.flight w (all_ w) A3 n3 c3 t.flights) (hs4 : Sl Ty.person w (all_ w) A4 n4 c4 l) (hg : Glo w) (hp : Pow10 w) :
    Calls Tryz.prog 5 #[.agg #[.slice A1 n1 c1, .slice A2 n2 c2, .slice A3 n3 c3], .slice A4 n4 c4] w (CAwPost w) := by
  have hb0 := (Below.refl w.heap.size w).alloc (Nat.le_refl _) (.cells #[.slice A1 n1 c1, .slice A2 n2 c2, .slice A3 n3 c3] 26)
  have hx0 := heap_alloc_new w (.cells #[.slice A1 n1 c1, .slice A2 n2 c2, .slice A3 n3 c3] 26)
  have hz0 : (w.alloc (.cells #[.slice A1 n1 c1, .slice A2 n2 c2, .slice A3 n3 c3] 26)).heap.size = w.heap.size + 1 := by simp
  have HS : Hid (∀ V, Below w.heap.size w V → (Sl Ty.zone V (all_ V) A1 n1 c1 t.zones ∧ Sl Ty.airport V (all_ V) A2 n2 c2 t.airports ∧ Sl Ty.flight V (all_ V) A3 n3 c3 t.flights ∧ Sl Ty.person V (all_ V) A4 n4 c4 l) ∧ Glo V ∧ Pow10 V) := fun V hV => ⟨⟨hs1.next hV, hs2.next hV, hs3.next hV, hs4.next hV⟩, hg.next hV, hp.next hV⟩
  have HT := Lib.hid ht; have HL := Lib.hid hl
  have HX : Hid (∀ V, Below (w.heap.size + 1) (w.alloc (.cells #[.slice A1 n1 c1, .slice A2 n2 c2, .slice A3 n3 c3] 26)) V → V.heap[w.heap.size]? = some (.cells #[.slice A1 n1 c1, .slice A2 n2 c2, .slice A3 n3 c3] 26 (0, 0)) ∧ Below w.heap.size w V ∧ w.heap.size + 1 ≤ V.heap.size) := fun V hV => ⟨(hV.block _ (by omega)).trans hx0, hb0.trans (hV.mono (by omega)), by have := hV.size; omega⟩
  have hBW := Below.refl (w.heap.size + 1) (w.alloc (.cells #[.slice A1 n1 c1, .slice A2 n2 c2, .slice A3 n3 c3] 26))
  clear hs1 hs2 hs3 hs4 hb0 hx0 hz0 ht hl hg hp
  go_enter Tryz.func5, Tryz.ntmps5
  go_wp2_with fail
  generalize w.alloc (.cells #[.slice A1 n1 c1, .slice A2 n2 c2, .slice A3 n3 c3] 26) = W at *
  refine (light_any t A1 A2 A3 n1 n2 n3 c1 c2 c3 W (HS.out W (HX.out W hBW).2.1).1.1).mono ?_
  rintro e w1 ⟨bl, rfl, hb1⟩
  have hk1 : Below (w.heap.size + 1) W w1 := hb1.mono (HX.out W hBW).2.2
  clear hb1
  cases bl with
  | false =>
    go_wp2_with fail
    refine (crewAwake_any w1).mono ?_
    rintro e w2 ⟨rfl, hb2⟩
    go_wp2_with fail
    go_ret
    exact ⟨rfl, (HX.out w1 hk1).2.1.trans (hb2.mono (HX.out w1 hk1).2.1.size)⟩
  | true =>
  go_wp2_with fail
  refine (crewLight_any l A4 n4 c4 w1 (HS.out w1 (HX.out w1 hk1).2.1).1.2.2.2).mono ?_
  rintro e w2 ⟨bl, rfl, hb2⟩
  have hk2 : Below (w.heap.size + 1) W w2 := hk1.trans (hb2.mono (HX.out w1 hk1).2.2)
  clear hb2 hk1
  cases bl with
  | false =>
    go_wp2_with fail
    refine (crewAwake_any w2).mono ?_
    rintro e w3 ⟨rfl, hb3⟩
    go_wp2_with fail
    go_ret
    exact ⟨rfl, (HX.out w2 hk2).2.1.trans (hb3.mono (HX.out w2 hk2).2.1.size)⟩
  | true =>
  have x0 : w2.cell? ⟨w.heap.size, 0, none⟩ = some (.slice A1 n1 c1) := block_cell (HX.out w2 hk2).1 0
  have x1 : w2.cell? ⟨w.heap.size, 1, none⟩ = some (.slice A2 n2 c2) := block_cell (HX.out w2 hk2).1 1
  have x2 : w2.cell? ⟨w.heap.size, 2, none⟩ = some (.slice A3 n3 c3) := block_cell (HX.out w2 hk2).1 2
  have hs := HS.out w2 (HX.out w2 hk2).2.1
  have HP := Lib.hid (crewFormat_any t l A1 A2 A3 A4 n1 n2 n3 n4 c1 c2 c3 c4 w2 HT.out HL.out hs.1.1 hs.1.2.1 hs.1.2.2.1 hs.1.2.2.2 hs.2.2)
  have HPR : Hid (∀ V, Below w.heap.size w V → Calls Tryz.prog 15 #[.agg #[.slice A1 n1 c1, .slice A2 n2 c2, .slice A3 n3 c3], .slice A4 n4 c4] V (FmtPost (fmtC t l) V)) := fun V hV => formatCrewR_any t l A1 A2 A3 A4 n1 n2 n3 n4 c1 c2 c3 c4 V HT.out HL.out (HS.out V hV).1.1 (HS.out V hV).1.2.1 (HS.out V hV).1.2.2.1 (HS.out V hV).1.2.2.2 (HS.out V hV).2.2
  have HBK := Lib.hid (fmtC_back (t := t) (l := l))
  clear hs
  generalize fmtC t l = r at *
  obtain ⟨s, er⟩ := r
  unfold FmtPost at HP HPR
  simp only at HP HPR HBK
  go_wp2_with fail
  refine HP.out.mono ?_
  clear x0 x1 x2 HP
  rintro e w3 ⟨rfl, hb3⟩
  have hk3 : Below (w.heap.size + 1) W w3 := hk2.trans (hb3.mono (HX.out w2 hk2).2.2)
  clear hb3
  have x0 : w3.cell? ⟨w.heap.size, 0, none⟩ = some (.slice A1 n1 c1) := block_cell (HX.out w3 hk3).1 0
  have x1 : w3.cell? ⟨w.heap.size, 1, none⟩ = some (.slice A2 n2 c2) := block_cell (HX.out w3 hk3).1 1
  have x2 : w3.cell? ⟨w.heap.size, 2, none⟩ = some (.slice A3 n3 c3) := block_cell (HX.out w3 hk3).1 2
  have HP2 := Lib.hid (HPR.out w3 (HX.out w3 hk3).2.1)
  go_wp2_with fail
  refine HP2.out.mono ?_
  clear x0 x1 x2 HP2 HPR
  rintro e w4 ⟨rfl, hb4⟩
  have hk4 : Below (w.heap.size + 1) W w4 := hk3.trans (hb4.mono (HX.out w3 hk3).2.2)
  clear hb4
  have e1 : (er == er) = true := by simp
  have e2 : (s.toList == s.toList) = true := by simp
  rcases Decidable.em (er = 0) with rfl | hne
  · have x0 : w4.cell? ⟨w.heap.size, 0, none⟩ = some (.slice A1 n1 c1) := block_cell (HX.out w4 hk4).1 0
    have x1 : w4.cell? ⟨w.heap.size, 1, none⟩ = some (.slice A2 n2 c2) := block_cell (HX.out w4 hk4).1 1
    have x2 : w4.cell? ⟨w.heap.size, 2, none⟩ = some (.slice A3 n3 c3) := block_cell (HX.out w4 hk4).1 2
    have hs := HS.out w4 (HX.out w4 hk4).2.1
    have HPP := crewParse_any t s A1 A2 A3 n1 n2 n3 c1 c2 c3 w4 HT.out hs.1.1 hs.1.2.1 hs.1.2.2.1 (HBK.out rfl).2.1 hs.2.1
    rw [(HBK.out rfl).1] at HPP
    have HPP := Lib.hid HPP
    unfold CParPost at HPP
    simp only at HPP
    clear hs
    go_wp2_with fail
    refine HPP.out.mono ?_
    clear x0 x1 x2 HPP
    rintro e w5 ⟨Xa, nx, cx, rfl, hsx, hb5⟩
    have hk5 : Below (w.heap.size + 1) W w5 := hk4.trans (hb5.mono (HX.out w4 hk4).2.2)
    have HSM := Lib.hid (crewSame_any l Xa A4 nx cx n4 c4 w5 (HBK.out (by first | rfl | trivial)).2.2.1 (HBK.out (by first | rfl | trivial)).2.2.2 hsx (HS.out w5 (HX.out w5 hk5).2.1).1.2.2.2)
    clear hb5 hsx
    go_wp2_with fail
    refine HSM.out.mono ?_
    clear HSM
    rintro e w6 ⟨rfl, hb6⟩
    have hk6 : Below (w.heap.size + 1) W w6 := hk5.trans (hb6.mono (HX.out w5 hk5).2.2)
    clear hb6
    go_wp2_with fail
    refine (crewAwake_any w6).mono ?_
    rintro e w7 ⟨rfl, hb7⟩
    go_wp2_with fail
    go_ret
    exact ⟨rfl, (HX.out w6 hk6).2.1.trans (hb7.mono (HX.out w6 hk6).2.1.size)⟩
  · have hne' : (er == 0) = false := by simpa using hne
    clear HBK hne
    go_wp2_with fail
    refine (crewAwake_any w4).mono ?_
    rintro e w5 ⟨rfl, hb5⟩
    go_wp2_with fail
    go_ret
    exact ⟨rfl, (HX.out w4 hk4).2.1.trans (hb5.mono (HX.out w4 hk4).2.1.size)⟩
end Go.Proofs.YtkhedjfdjjeopaaGreatDoor
/-
  The card of CrewTexts: for every timetable and every list of persons the law returns true, and the arguments read as before. No condition.
-/
namespace Go.Proofs.YtkhedjfdjjeopaaGreatDoor.crewTexts
set_option linter.unusedSimpArgs false
set_option linter.unusedVariables false
open Go.ChangeShapes Go.WideShapes Go.ChangeAt Go.RowKit
open Go.ChangeMaps (open_string shut_string)
theorem reads_all : (Tryz.f5.params.toList.all fun t => Tryz.prog.readableRec t && decide (t < Tryz.prog.types.size)) = true := by kernel_rfl
theorem reads_ok : ∀ t ∈ Tryz.f5.params.toList, Tryz.prog.readableRec t = true := fun t ht => by
  have h := List.all_eq_true.1 reads_all t ht
  rw [Bool.and_eq_true] at h
  exact h.1
theorem reads_lt : ∀ t ∈ Tryz.f5.params.toList, t < Tryz.prog.types.size := fun t ht => by
  have h := List.all_eq_true.1 reads_all t ht
  rw [Bool.and_eq_true] at h
  exact of_decide_eq_true h.2
set_option maxRecDepth 100000 in
theorem contract (H : Type) (enc : TypeId × Value → H) (W : World) (base : Nat) (args : Array Value) (ds gs : List (DataW H)) (before : List MemPlace)
    (hval : ∀ (j : Nat) t v, Tryz.f5.params[j]? = some t → args[j]? = some v → Value.okWide Tryz.prog W .any base t v)
    (hW : DataW.Whole enc Tryz.prog Tryz.f5.params.toList Rows.crewTextsSpec.vars false W args.toList ds gs before) (hL : laidMetH Tryz.prog Rows.crewTextsRow.laid W) (hsh : W.ShapedOpen Tryz.prog)
    (hreach : (DataW.weightsEach Tryz.prog (Tryz.f5.params.toList ++ (OpenSpec.ofChange Rows.crewTextsSpec).bare.plain.varTypes Tryz.prog) (ds ++ gs)).all (· ≤ reachBytes) = true) :
    Calls Tryz.prog 5 args W fun e W' => ∃ v, e = .returned v ∧ Rows.crewTextsSpec.post enc Tryz.prog Tryz.f5 false true false false W args v W' := by
  have hW' := hW
  obtain ⟨p, q, hA0, hV, rfl, hfz, hnd⟩ := hW
  have hA : DataW.TrodAll enc Tryz.prog W 0 (fun _ => true) true Tryz.f5.params.toList args.toList ds p := hA0
  rw [Tryz.params5] at hA hval
  obtain ⟨v0, vs0, d0, ds0, p0, q0, hargs, rfl, rfl, h0, r0⟩ := trodAll_cons hA
  obtain ⟨v1, vs1, d1, ds1, p1, q1, rfl, rfl, rfl, h1, r1⟩ := trodAll_cons r0
  obtain ⟨rfl, rfl, rfl⟩ := trodAll_nil r1
  obtain rfl : args = #[v0, v1] := by cases args; simp_all
  obtain ⟨rfl, rfl⟩ := trodVars_none hV
  have hlt : ∀ x ∈ p0, x.block < W.heap.size := fun x hx => hW'.lt x (by simp [hx])
  obtain ⟨A1, n1, c1, A2, n2, c2, A3, n3, c3, t, rfl, s1, s2, s3, hok⟩ := open_tt (hval 0 26 v0 rfl rfl) h0 hlt
  obtain ⟨A4, n4, c4, l, rfl, s4, hl4⟩ := open_fits_slice Tryz.underlying29 (by kernel_rfl) fits_person (hval 1 29 v1 rfl rfl) h1 (fun x hx => hW'.lt x (by simp [hx]))
  have hLm : laidMet Tryz.prog Rows.crewTextsRow.laid W := by rw [MakeChecks.laidMetH_plain _ _ _ (by kernel_rfl)] at hL; exact hL
  have hpt : Lib.TabIs Tryz.prog W "internal/strconv.uint64pow10" .u64 Lib.pow10Tab := Lib.tabIs_of_head (rest := Rows.crewTextsRow.laid.drop 3) (g := 1) (by kernel_rfl) (by kernel_rfl) Tryz.underlying188 Tryz.underlying178 (by kernel_rfl) (by kernel_rfl) (laidMet.tail (laidMet.tail hLm))
  have hpl : 1 < W.heap.size := World.block_lt_of_cell? W _ (hpt.cell (g := 1) (by kernel_rfl) 0 (by decide))
  refine (lawCrewTexts_any t l A1 A2 A3 A4 n1 n2 n3 n4 c1 c2 c3 c4 W hok hl4 s1 s2 s3 s4 (glo_of_shaped hsh) ⟨hpt, hpl⟩).mono fun e W' ⟨he, hb⟩ => ?_
  subst he
  exact ⟨_, rfl, law_post laidOut_true Tryz.underlying4 rfl rfl (fun t ht => ⟨by revert t; exact reads_ok, by revert t; exact reads_lt⟩) ⟨rfl, rfl, rfl⟩ hW' hb⟩
theorem reads (os : Os) {H : Type} (enc : TypeId × Value → H) : ∃ places, DataW.whole enc Tryz.prog ((World.laidAll Tryz.prog os Rows.crewTextsRow.laid).forCall (fun _ _ => 0) ⟨#[], #[.agg #[.slice none 0 0, .slice none 0 0, .slice none 0 0], .slice none 0 0], []⟩).memory Tryz.f5.params.toList Rows.crewTextsSpec.vars false (#[.agg #[.slice none 0 0, .slice none 0 0, .slice none 0 0], .slice none 0 0] : Array Value).toList 8 = some ([.agg [.nil, .nil, .nil], .nil], [], places) :=
  ⟨[], by kernel_rfl⟩
theorem laid_met (os : Os) : laidMetH Tryz.prog Rows.crewTextsRow.laid ((World.laidAll Tryz.prog os Rows.crewTextsRow.laid).forCall (fun _ _ => 0) ⟨#[], #[.agg #[.slice none 0 0, .slice none 0 0, .slice none 0 0], .slice none 0 0], []⟩).memory := by
  rw [MakeChecks.laidMetH_plain _ _ _ (by kernel_rfl)]
  exact laidMet_laidAll _ (by kernel_rfl) (by kernel_rfl)
set_option maxRecDepth 100000 in
theorem lifted (os : Os) (started : os.Started) (H : Type) (enc : TypeId × Value → H) (F : Stop.Interp) :
    ReturnsInHanded {} Tryz.checked os 5 .any ((OpenSpec.ofChange Rows.crewTextsSpec).preRow enc Tryz.prog Tryz.f5 Rows.crewTextsRow.domain false Rows.crewTextsRow.laid) (((OpenSpec.ofChange Rows.crewTextsSpec).at F).post enc Tryz.prog Tryz.f5 false true false false) := by
  obtain ⟨places, hx⟩ := reads os enc
  refine returnsInHanded_of_row (C := Tryz.checked) (s := OpenSpec.ofChange Rows.crewTextsSpec) ownKnob_none started (by kernel_rfl) Tryz.func5
    (witness_row_shaped (enc := enc) (C := Tryz.checked) false (World.laidAll Tryz.prog os Rows.crewTextsRow.laid) #[.agg #[.slice none 0 0, .slice none 0 0, .slice none 0 0], .slice none 0 0] (World.laidAll_os _ _ _) (World.shaped_of_ZipB (by kernel_rfl) (by kernel_rfl)) (by kernel_rfl)
      (OpenSpec.preRow_of_cond 8 hx (by kernel_rfl) (fun k hk => by cases hk) (by kernel_rfl) (laid_met os))) ?_
  intro W base args ds gs before hval hW _ hcond hreach hL hsh _
  exact contract H enc W base args ds gs before hval hW hL hsh hreach
theorem said : Rows.CrewTextsSaid :=
  OpenClaim.holds_of_cond 5 Tryz.f5 rfl rfl rfl rfl rfl rfl rfl ⟨rfl, rfl, rfl, rfl, rfl⟩ rfl rfl rfl rfl rfl (by kernel_rfl) Tryz.func5 (by kernel_rfl)
    (of_decide_eq_true (by kernel_rfl)) (by unfold Func.isWrapper; first | (rw [if_pos (by decide +kernel)]; kernel_rfl) | (rw [if_neg (by decide +kernel)]; exact ⟨rfl, rfl⟩))
    (fun os started H enc _ F => by rw [OpenClaim.pre_eq_preRow]; exact lifted os started H enc F)
theorem plain (f : FuncId) (fn : Func) (hf : Tryz.pinned.checked.prog.funcNamed Rows.crewTextsRow.func = some f) (hfn : Tryz.pinned.checked.prog.funcs[f]? = some fn) :
    false = Tryz.pinned.checked.prog.looks [] ∧ ∀ (j : Nat) t, fn.params[j]? = some t → Tryz.pinned.checked.prog.wantsStandIn t = false := by
  obtain rfl : f = 5 := Option.some.inj ((show Tryz.prog.funcNamed Rows.crewTextsRow.func = some 5 by kernel_rfl).symm.trans hf) |>.symm
  obtain rfl : fn = Tryz.f5 := (Option.some.inj (Tryz.func5.symm.trans hfn)).symm
  refine ⟨by kernel_rfl, fun j t ht => ?_⟩
  have hall : (Tryz.f5.params.toList.all fun u => !Tryz.prog.wantsStandIn u) = true := by kernel_rfl
  have hm : t ∈ Tryz.f5.params.toList := by simpa using Array.mem_of_getElem? ht
  have h := List.all_eq_true.1 hall t hm
  exact (show Tryz.prog.wantsStandIn t = false by simpa using h)
theorem card : Rows.CrewTextsCardSaid :=
  Claim7.holds_tied_plain_at .later [] _ _ _ _ said (fun _ h => by cases h) (by kernel_rfl) (fun _ h => by cases h) crewTexts_row_tie rfl ⟨rfl, rfl⟩ (by kernel_rfl) rfl plain (by kernel_rfl)
end Go.Proofs.YtkhedjfdjjeopaaGreatDoor.crewTexts
