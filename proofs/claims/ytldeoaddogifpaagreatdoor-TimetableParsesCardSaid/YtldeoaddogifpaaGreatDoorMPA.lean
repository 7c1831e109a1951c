/-
  Joined texts: FmtPlain; Fields; Numbers; Fmt; Fmt2; TextOut; TextSize; InsText; DurPlain. What each proves stands ahead of it, with its conditions.
-/
import Derived.Test.YtldeoaddogifpaaGreatDoorCalPlain
import Derived.Test.YtldeoaddogifpaaGreatDoorShelf
import Derived.Test.YtldeoaddogifpaaGreatDoorLib
import Derived.Test.YtldeoaddogifpaaGreatDoorTextPlain
import Derived.Deep.QuietTactic
import Derived.BigQuiet
import Derived.Test.YtldeoaddogifpaaGreatDoorNumPlain
import Derived.Test.YtldeoaddogifpaaGreatDoorNamesRef
import Derived.Sort.Grow
import Derived.Test.YtldeoaddogifpaaGreatDoorCal3
import Derived.Test.YtldeoaddogifpaaGreatDoorRegion
import Derived.Test.YtldeoaddogifpaaGreatDoorNames
import Derived.Test.YtldeoaddogifpaaGreatDoorTTPlain
/-
  Plain texts of dates, clock times and instants; that an instant is read back from its text; that a day has one date.
  No condition.
-/
namespace Go.Proofs.YtldeoaddogifpaaGreatDoor
set_option linter.unusedSimpArgs false
set_option linter.unusedVariables false
open Go

def zS : ByteArray := ⟨#[48]⟩
def dashS : ByteArray := ⟨#[45]⟩
def colS : ByteArray := ⟨#[58]⟩
def blankS : ByteArray := ⟨#[32]⟩
/-- The decimal text of a number. -/
def numS (n : Int) : ByteArray := bs (Lib.itoa n)
/-- A number with at least d digits (one is added at most). -/
def padB (n : Int) (d : Nat) : ByteArray := if (numS n).size < d then zS ++ numS n else numS n
def fmtDate (y m d : Int) : ByteArray := padB y 4 ++ dashS ++ padB m 2 ++ dashS ++ padB d 2
def fmtClock (c : Int) : ByteArray := padB (c / 60) 2 ++ colS ++ padB (c % 60) 2
def dgt (n : Nat) : UInt8 := UInt8.ofNat (48 + n)
theorem bs_app (a b : List UInt8) : bs a ++ bs b = bs (a ++ b) := by
  have : (bs a ++ bs b).data.toList = (bs (a ++ b)).data.toList := by
    rw [ByteArray.data_append, Array.toList_append]; rfl
  rw [← bs_of (bs a ++ bs b), this]
  rfl
theorem numS_one {n : Nat} (h : n < 10) : numS n = bs [dgt n] := by
  unfold numS
  rw [Lib.itoa, if_neg (by omega), Int.toNat_natCast, Lib.decDigits_one h]
  rfl
theorem numS_two {n : Nat} (h1 : ¬ n < 10) (h2 : n < 100) : numS n = bs [dgt (n / 10), dgt (n % 10)] := by
  unfold numS
  rw [Lib.itoa, if_neg (by omega), Int.toNat_natCast, Lib.decDigits_two h1 h2]
  rfl
theorem numS_four {n : Nat} (h1 : 1000 ≤ n) (h2 : n < 10000) : numS n = bs [dgt (n / 1000), dgt (n / 100 % 10), dgt (n / 10 % 10), dgt (n % 10)] := by
  unfold numS
  have e1 : Lib.decDigits n = Lib.decDigits (n / 10) ++ [UInt8.ofNat (48 + n % 10)] := by rw [Lib.decDigits, dif_neg (by omega)]
  have e2 : Lib.decDigits (n / 10) = Lib.decDigits (n / 10 / 10) ++ [UInt8.ofNat (48 + n / 10 % 10)] := by rw [Lib.decDigits, dif_neg (by omega)]
  rw [Lib.itoa, if_neg (by omega), Int.toNat_natCast, e1, e2, Lib.decDigits_two (by omega) (by omega)]
  have a1 : n / 10 / 10 / 10 = n / 1000 := by omega
  have a2 : n / 10 / 10 % 10 = n / 100 % 10 := by omega
  rw [a1, a2]
  rfl
theorem pad2 {n : Nat} (h : n < 100) : padB n 2 = bs [dgt (n / 10), dgt (n % 10)] := by
  unfold padB
  by_cases h1 : n < 10
  · rw [numS_one h1, if_pos (by rw [bs_size]; simp)]
    have e1 : n / 10 = 0 := by omega
    have e2 : n % 10 = n := by omega
    rw [e1, e2]
    exact bs_app [48] [dgt n]
  · rw [numS_two h1 h, if_neg (by rw [bs_size]; simp)]
theorem pad4 {n : Nat} (h1 : 1000 ≤ n) (h2 : n < 10000) : padB n 4 = bs [dgt (n / 1000), dgt (n / 100 % 10), dgt (n / 10 % 10), dgt (n % 10)] := by
  unfold padB
  rw [numS_four h1 h2, if_neg (by rw [bs_size]; simp)]
theorem dgt_nat {n : Nat} (h : n < 10) : (dgt n).toNat = 48 + n := by
  unfold dgt
  rw [UInt8.toNat_ofNat']; omega
/-- The sixteen bytes of an instant. -/
def insL (y m d h i : Nat) : List UInt8 := [dgt (y / 1000), dgt (y / 100 % 10), dgt (y / 10 % 10), dgt (y % 10), 45, dgt (m / 10), dgt (m % 10), 45, dgt (d / 10), dgt (d % 10), 32, dgt (h / 10), dgt (h % 10), 58, dgt (i / 10), dgt (i % 10)]
theorem fmt_bytes {y m d h i : Nat} (hy : 1000 ≤ y) (hy2 : y < 10000) (hm : m < 100) (hd : d < 100) (hh : h < 100) (hi : i < 60) : fmtDate y m d ++ blankS ++ fmtClock (60 * h + i) = bs (insL y m d h i) := by
  unfold fmtDate fmtClock
  have e1 : (60 * (h : Int) + i) / 60 = (h : Nat) := by omega
  have e2 : (60 * (h : Int) + i) % 60 = (i : Nat) := by omega
  rw [e1, e2, pad4 hy hy2, pad2 hm, pad2 hd, pad2 hh, pad2 (by omega)]
  show bs _ ++ bs [45] ++ bs _ ++ bs [45] ++ bs _ ++ bs [32] ++ (bs _ ++ bs [58] ++ bs _) = _
  simp only [bs_app]
  rfl
section
variable {y m d h i : Nat}
theorem byteAt_dgt {s : ByteArray} {k n : Nat} (e : s.data.toList.getD k 0 = dgt n) (hn : n < 10) : byteAt s k = 48 + n := by
  unfold byteAt
  rw [e, dgt_nat hn]
  omega
theorem digAt_dgt {s : ByteArray} {k n : Nat} (e : s.data.toList.getD k 0 = dgt n) (hn : n < 10) : digAt s k = true := by
  unfold digAt numberI
  rw [byteAt_dgt e hn]
  simp
  omega
theorem sub_two {s : ByteArray} {a b n : Nat} (hb : b = a + 2) (hs : b ≤ s.size) (e0 : byteAt s a = 48 + (n / 10 : Nat)) (e1 : byteAt s (a + 1) = 48 + (n % 10 : Nat)) : subN s a b = n := by
  subst hb
  unfold subN
  rw [size_sub hs]
  have : a + 2 - a = 2 := by omega
  rw [this]
  show 10 * (10 * 0 + (byteAt (s.extract a (a + 2)) 0 - 48)) + (byteAt (s.extract a (a + 2)) 1 - 48) = _
  rw [byteAt_extract _ _ _ _ (by omega), byteAt_extract _ _ _ _ (by omega), Nat.add_zero, e0, e1]
  omega
theorem sub_four {s : ByteArray} {n : Nat} (hs : 4 ≤ s.size) (e0 : byteAt s 0 = 48 + (n / 1000 : Nat)) (e1 : byteAt s 1 = 48 + (n / 100 % 10 : Nat)) (e2 : byteAt s 2 = 48 + (n / 10 % 10 : Nat)) (e3 : byteAt s 3 = 48 + (n % 10 : Nat)) : subN s 0 4 = n := by
  unfold subN
  rw [size_sub hs]
  show 10 * (10 * (10 * (10 * 0 + (byteAt (s.extract 0 4) 0 - 48)) + (byteAt (s.extract 0 4) 1 - 48)) + (byteAt (s.extract 0 4) 2 - 48)) + (byteAt (s.extract 0 4) 3 - 48) = _
  rw [byteAt_extract _ _ _ _ (by omega), byteAt_extract _ _ _ _ (by omega), byteAt_extract _ _ _ _ (by omega), byteAt_extract _ _ _ _ (by omega)]
  simp only [Nat.zero_add]
  rw [e0, e1, e2, e3]
  omega
theorem ins_match (hy2 : y < 10000) (hm : m < 100) (hd : d < 100) (hh : h < 100) (hi : i < 100) : matchB (bs (insL y m d h i)) patI = true := by
  unfold matchB
  have hz : (bs (insL y m d h i)).size = 16 := bs_size _
  rw [hz]
  rw [Bool.and_eq_true]
  refine ⟨by decide, ?_⟩
  rw [allTo_iff]
  intro k hk
  have hk' : k = 0 ∨ k = 1 ∨ k = 2 ∨ k = 3 ∨ k = 4 ∨ k = 5 ∨ k = 6 ∨ k = 7 ∨ k = 8 ∨ k = 9 ∨ k = 10 ∨ k = 11 ∨ k = 12 ∨ k = 13 ∨ k = 14 ∨ k = 15 := by omega
  unfold mAt
  rcases hk' with rfl | rfl | rfl | rfl | rfl | rfl | rfl | rfl | rfl | rfl | rfl | rfl | rfl | rfl | rfl | rfl
  all_goals first
    | (rw [if_neg (by decide)]; rfl)
    | (rw [if_pos (by decide)]; exact digAt_dgt (n := _) rfl (by omega))
theorem ins_parts (s : ByteArray) (hs : s = bs (insL y m d h i)) (hy2 : y < 10000) (hm : m < 100) (hd : d < 100) (hh : h < 100) (hi : i < 100) :
    s.size = 16 ∧ matchB s patI = true ∧ matchB (s.extract 0 10) patD = true ∧ matchB (s.extract 11 s.size) patC = true ∧
    subN (s.extract 0 10) 0 4 = y ∧ subN (s.extract 0 10) 5 7 = m ∧ subN (s.extract 0 10) 8 (s.extract 0 10).size = d ∧ subN (s.extract 11 s.size) 0 2 = h ∧ subN (s.extract 11 s.size) 3 (s.extract 11 s.size).size = i := by
  have hz : s.size = 16 := by rw [hs]; exact bs_size _
  have hM : matchB s patI = true := by rw [hs]; exact ins_match hy2 hm hd hh hi
  have hM2 := hM
  rw [matchI_iff] at hM2
  simp only [Bool.and_eq_true, decide_eq_true_eq] at hM2
  obtain ⟨-, ⟨-, hD⟩, hC⟩ := hM2
  have z1 : (s.extract 0 10).size = 10 := size_sub (by omega)
  have z2 : (s.extract 11 s.size).size = 5 := by rw [size_sub (Nat.le_refl _)]; omega
  have bd : ∀ k n, s.data.toList.getD k 0 = dgt n → n < 10 → k < 10 → byteAt (s.extract 0 10) k = 48 + n := fun k n e hn hk => by
    rw [byteAt_extract _ _ _ _ (by omega), Nat.zero_add]; exact byteAt_dgt e hn
  have bc : ∀ k n, s.data.toList.getD (11 + k) 0 = dgt n → n < 10 → 11 + k < 16 → byteAt (s.extract 11 s.size) k = 48 + n := fun k n e hn hk => by
    rw [byteAt_extract _ _ _ _ (by omega)]; exact byteAt_dgt e hn
  refine ⟨hz, hM, hD, hC, ?_, ?_, ?_, ?_, ?_⟩
  · exact sub_four (by omega) (bd 0 _ (by rw [hs]; rfl) (by omega) (by omega)) (bd 1 _ (by rw [hs]; rfl) (by omega) (by omega)) (bd 2 _ (by rw [hs]; rfl) (by omega) (by omega)) (bd 3 _ (by rw [hs]; rfl) (by omega) (by omega))
  · exact sub_two (by omega) (by omega) (bd 5 _ (by rw [hs]; rfl) (by omega) (by omega)) (bd 6 _ (by rw [hs]; rfl) (by omega) (by omega))
  · exact sub_two (by omega) (by omega) (bd 8 _ (by rw [hs]; rfl) (by omega) (by omega)) (bd 9 _ (by rw [hs]; rfl) (by omega) (by omega))
  · exact sub_two (by omega) (by omega) (bc 0 _ (by rw [hs]; rfl) (by omega) (by omega)) (bc 1 _ (by rw [hs]; rfl) (by omega) (by omega))
  · exact sub_two (by omega) (by omega) (bc 3 _ (by rw [hs]; rfl) (by omega) (by omega)) (bc 4 _ (by rw [hs]; rfl) (by omega) (by omega))
theorem ins_back (hv : validB y m d = true) (hh : h < 24) (hi : i < 60) (h0 : 0 ≤ dayB y m d * 1440 + (h * 60 + i)) (h1 : dayB y m d * 1440 + (h * 60 + i) < 52596000) : insB (bs (insL y m d h i)) = (dayB y m d * 1440 + (h * 60 + i), 0) := by
  obtain ⟨v1, v2, v3, v4⟩ := validB_iff.1 hv
  have v5 := mDays_bd y m
  obtain ⟨hz, p1, p2, p3, p4, p5, p6, p7, p8⟩ := ins_parts (y := y) (m := m) (d := d) (h := h) (i := i) _ rfl (by omega) (by omega) (by omega) (by omega) (by omega)
  generalize bs (insL y m d h i) = s at *
  have eD : dateB (s.extract 0 10) = (((y : Int), (m : Int), (d : Int)), (0 : Int)) := by
    unfold dateB
    rw [p2, p4, p5, p6, hv]
    rfl
  have eC : clockB (s.extract 11 s.size) = ((h : Int) * 60 + (i : Int), (0 : Int)) := by
    unfold clockB
    rw [p3, p7, p8, if_neg (by simp), if_neg (by omega)]
  unfold insB
  rw [p1, eD, eC, if_neg (by simp), if_neg (by simp), if_neg (by simp)]
  dsimp only
  rw [if_neg (by omega)]
end
/-- A year's months are its days. -/
theorem monSum_year (y : Int) : monSum y 12 = yDays y := by
  have e : monSum y 12 = 337 + mDays y 2 := by
    show sumTo _ 12 = _
    simp only [sumTo]
    have f : ∀ k : Nat, k ≠ 1 → mDays y (1 + (k : Int)) = mTab.getD k 0 := fun k hk => by
      unfold mDays
      rw [if_neg (by omega)]
      congr 1
      omega
    have g : mDays y (1 + ((1 : Nat) : Int)) = mDays y 2 := rfl
    rw [f 0 (by decide), g, f 2 (by decide), f 3 (by decide), f 4 (by decide), f 5 (by decide), f 6 (by decide), f 7 (by decide), f 8 (by decide), f 9 (by decide), f 10 (by decide), f 11 (by decide)]
    simp only [mTab, List.getD_cons_succ, List.getD_cons_zero]
    omega
  rw [e]
  unfold mDays yDays
  by_cases hl : leapB y = true
  · rw [if_pos ⟨rfl, hl⟩, if_pos hl]; rfl
  · rw [if_neg (by rintro ⟨-, h⟩; exact hl h), if_neg hl]; rfl
theorem sumTo_le {f : Nat → Int} (h : ∀ i, 0 ≤ f i) : ∀ {a b : Nat}, a ≤ b → sumTo f a ≤ sumTo f b := by
  intro a b hab
  induction b with
  | zero =>
    have : a = 0 := by omega
    rw [this]
    exact Int.le_refl _
  | succ b ih =>
    rcases Nat.lt_or_eq_of_le hab with h1 | h1
    · have := ih (by omega); have := h b; simp only [sumTo]; omega
    · rw [h1]; exact Int.le_refl _
theorem mon_lt {y m d m' d' : Int} (h1 : 1 ≤ m) (hm : m < m') (hd : d ≤ mDays y m) (hd' : 1 ≤ d') : monSum y (m - 1).toNat + d < monSum y (m' - 1).toNat + d' := by
  have e : monSum y ((m - 1).toNat + 1) = monSum y (m - 1).toNat + mDays y m := by
    show monSum y (m - 1).toNat + mDays y (1 + ((m - 1).toNat : Int)) = _
    congr 2
    omega
  have := sumTo_le (f := fun i => mDays y (1 + i)) (fun i => (mDays_bd _ _).1) (a := (m - 1).toNat + 1) (b := (m' - 1).toNat) (by omega)
  have : monSum y ((m - 1).toNat + 1) ≤ monSum y (m' - 1).toNat := this
  omega
theorem mon_le {y m d : Int} (h1 : 1 ≤ m) (h2 : m ≤ 12) (hd : d ≤ mDays y m) : monSum y (m - 1).toNat + d ≤ yDays y := by
  have e : monSum y ((m - 1).toNat + 1) = monSum y (m - 1).toNat + mDays y m := by
    show monSum y (m - 1).toNat + mDays y (1 + ((m - 1).toNat : Int)) = _
    congr 2
    omega
  have : monSum y ((m - 1).toNat + 1) ≤ monSum y 12 := sumTo_le (f := fun i => mDays y (1 + i)) (fun i => (mDays_bd _ _).1) (by omega)
  rw [monSum_year] at this
  omega
theorem year_lt {y m d y' m' d' : Int} (hv : validB y m d = true) (hv' : validB y' m' d' = true) (h : y < y') : dayB y m d < dayB y' m' d' := by
  obtain ⟨a1, a2, a3, a4⟩ := validB_iff.1 hv
  obtain ⟨b1, b2, b3, b4⟩ := validB_iff.1 hv'
  have c := mon_le a2.1 a2.2 a4
  have e : yearSum ((y - 1999).toNat + 1) = yearSum (y - 1999).toNat + yDays y := by
    show yearSum (y - 1999).toNat + yDays (1999 + ((y - 1999).toNat : Int)) = _
    congr 2
    omega
  have f : yearSum ((y - 1999).toNat + 1) ≤ yearSum (y' - 1999).toNat := sumTo_le (f := fun i => yDays (1999 + i)) (fun i => (yDays_bd _).1) (by omega)
  have g := monSum_bd y' (m' - 1).toNat
  unfold dayB
  omega
theorem dayB_inj {y m d y' m' d' : Int} (hv : validB y m d = true) (hv' : validB y' m' d' = true) (h : dayB y m d = dayB y' m' d') : y = y' ∧ m = m' ∧ d = d' := by
  have e1 : y = y' := by
    rcases Int.lt_trichotomy y y' with h1 | h1 | h1
    · have := year_lt hv hv' h1; omega
    · exact h1
    · have := year_lt hv' hv h1; omega
  subst e1
  obtain ⟨a1, a2, a3, a4⟩ := validB_iff.1 hv
  obtain ⟨b1, b2, b3, b4⟩ := validB_iff.1 hv'
  unfold dayB at h
  have e2 : m = m' := by
    rcases Int.lt_trichotomy m m' with h1 | h1 | h1
    · have := mon_lt a2.1 h1 a4 b3; omega
    · exact h1
    · have := mon_lt b2.1 h1 b4 a3; omega
  subst e2
  exact ⟨rfl, rfl, by omega⟩
/-- s is the text of the instant t. -/
def IsIns (t : Int) (s : ByteArray) : Prop := ∃ y m d, validB y m d = true ∧ dayB y m d = t / 1440 ∧ s = fmtDate y m d ++ blankS ++ fmtClock (t % 1440)
theorem IsIns.eq {t : Int} {s s' : ByteArray} (h : IsIns t s) (h' : IsIns t s') : s = s' := by
  obtain ⟨y, m, d, a1, a2, rfl⟩ := h
  obtain ⟨y', m', d', b1, b2, rfl⟩ := h'
  obtain ⟨rfl, rfl, rfl⟩ := dayB_inj a1 b1 (a2.trans b2.symm)
  rfl
theorem IsIns.bytes {t : Int} {s : ByteArray} (h : IsIns t s) : ∃ y m d hh i : Nat, (1999 ≤ y ∧ y ≤ 2100) ∧ (1 ≤ m ∧ m ≤ 12) ∧ (1 ≤ d ∧ d ≤ 31) ∧ hh < 24 ∧ i < 60 ∧ s = bs (insL y m d hh i) ∧ validB y m d = true ∧ dayB y m d * 1440 + (hh * 60 + i) = t := by
  obtain ⟨y, m, d, hv, hd, rfl⟩ := h
  obtain ⟨a1, a2, a3, a4⟩ := validB_iff.1 hv
  have a5 := mDays_bd y m
  refine ⟨y.toNat, m.toNat, d.toNat, (t % 1440 / 60).toNat, (t % 1440 % 60).toNat, by omega, by omega, by omega, by omega, by omega, ?_, ?_, ?_⟩
  · have e := fmt_bytes (y := y.toNat) (m := m.toNat) (d := d.toNat) (h := (t % 1440 / 60).toNat) (i := (t % 1440 % 60).toNat) (by omega) (by omega) (by omega) (by omega) (by omega) (by omega)
    rw [← e]
    have c1 : ((y.toNat : Nat) : Int) = y := by omega
    have c2 : ((m.toNat : Nat) : Int) = m := by omega
    have c3 : ((d.toNat : Nat) : Int) = d := by omega
    have c4 : 60 * (((t % 1440 / 60).toNat : Nat) : Int) + (((t % 1440 % 60).toNat : Nat) : Int) = t % 1440 := by omega
    rw [c1, c2, c3, c4]
  · have c1 : ((y.toNat : Nat) : Int) = y := by omega
    have c2 : ((m.toNat : Nat) : Int) = m := by omega
    have c3 : ((d.toNat : Nat) : Int) = d := by omega
    rw [c1, c2, c3]; exact hv
  · have c1 : ((y.toNat : Nat) : Int) = y := by omega
    have c2 : ((m.toNat : Nat) : Int) = m := by omega
    have c3 : ((d.toNat : Nat) : Int) = d := by omega
    rw [c1, c2, c3, hd]; omega
theorem IsIns.back {t : Int} {s : ByteArray} (h : IsIns t s) (h0 : 0 ≤ t) (h1 : t < 52596000) : insB s = (t, 0) := by
  obtain ⟨y, m, d, hh, i, -, -, -, b1, b2, rfl, hv, e⟩ := h.bytes
  rw [ins_back hv b1 b2 (by omega) (by omega), e]
end Go.Proofs.YtldeoaddogifpaaGreatDoor
/-
  Contract of text.Fields: it returns the specified fields in new memory and changes nothing that was there.
  Condition: the string is shorter than 2^31 bytes; the library's variable MaxLen holds an int.
-/
namespace Go.Proofs.YtldeoaddogifpaaGreatDoor
set_option linter.unusedSimpArgs false
set_option linter.unusedVariables false
open Go.RowKit

/-- What is asked of the package-level variables. -/
def Glo (w : World) : Prop := ∃ m, w.cell? ⟨0, 0, none⟩ = some (.int .i64 m)
theorem Glo.next {w w' : World} (h : Glo w) (hb : Below w.heap.size w w') : Glo w' := by
  obtain ⟨m, hm⟩ := h
  exact ⟨m, cell_kept hm hb⟩
theorem glo_of_shaped {w : World} (h : w.ShapedOpen Tryz.prog) : Glo w :=
  Go.Proofs.cell_of_shapedOpen_int (zero := #[.int .i64 0]) (t := 3) h (of_decide_eq_true (by kernel_rfl)) (by kernel_rfl) rfl (by kernel_rfl) (by kernel_rfl) Tryz.underlying3
theorem strElem : Elem Tryz.prog 52 9 1 16 := ⟨Tryz.underlying52, by kernel_rfl⟩

/-- What strings.Cut leaves ahead of the first byte c. -/
def cutB (c : UInt8) (s : ByteArray) : ByteArray := bs (s.data.toList.takeWhile (fun b => b != c))
theorem cutB_size (c : UInt8) (s : ByteArray) : (cutB c s).size ≤ s.size := by
  unfold cutB
  rw [bs_size, Lib.size_eq]
  exact (List.takeWhile_prefix _).length_le
theorem indexByte_take (c : UInt8) (l : List UInt8) : (0 ≤ Lib.indexByte l c → (Lib.indexByte l c).toNat < l.length ∧ l.take (Lib.indexByte l c).toNat = l.takeWhile (fun b => b != c)) ∧ (¬ 0 ≤ Lib.indexByte l c → l = l.takeWhile (fun b => b != c)) := by
  induction l with
  | nil => simp [Lib.indexByte]
  | cons b l ih =>
    rw [Lib.indexByte]
    by_cases hb : b = c
    · subst hb; simp
    · have hge := Lib.indexByte_ge l c
      have hne : (b != c) = true := by simp [hb]
      have hbe : (b == c) = false := by simp [hb]
      rw [hbe]
      simp only [Bool.false_eq_true, if_false]
      by_cases hi : Lib.indexByte l c = -1
      · have := ih.2 (by omega)
        simp only [hi, beq_self_eq_true, if_true]
        refine ⟨fun h => absurd h (by omega), fun _ => ?_⟩
        rw [List.takeWhile_cons, if_pos hne, ← this]
      · have h2 : (Lib.indexByte l c == -1) = false := by simp [hi]
        have := ih.1 (by omega)
        rw [h2]
        simp only [Bool.false_eq_true, if_false]
        refine ⟨fun _ => ?_, fun h => absurd h (by omega)⟩
        rw [List.takeWhile_cons, if_pos hne, ← this.2, show (Lib.indexByte l c + 1).toNat = (Lib.indexByte l c).toNat + 1 by omega]
        exact ⟨by rw [List.length_cons]; omega, rfl⟩

theorem liteCut_one (s : ByteArray) (c : UInt8) (w : World) (hs : s.size ≤ maxLen) :
    Calls Tryz.prog 95 #[.string s, .string ⟨#[c]⟩] w fun e w' => ∃ (b : ByteArray) (x : Bool) (n : Nat), e = .returned (.tuple #[.string (cutB c s), .string b, .bool x]) ∧ w' = w.drewN n := by
  unfold maxLen at hs
  obtain ⟨h1, h2⟩ := indexByte_take c s.data.toList
  have hge := Lib.indexByte_ge s.data.toList c
  have hix := Tryz.stringslite_Index_one s c w
  generalize hi : Lib.indexByte s.data.toList c = i at *
  clear hi
  have HIX := Lib.hid hix; clear hix
  by_cases h0 : 0 ≤ i
  · obtain ⟨h3, h4⟩ := h1 h0
    obtain ⟨k, rfl⟩ := Int.eq_ofNat_of_zero_le h0
    rw [Int.toNat_natCast] at h3 h4
    have HC : Hid (cutB c s = s.extract 0 k) := by show _ = _; rw [extract_take]; unfold cutB; rw [← h4]; rfl
    have hsz := Lib.size_eq s
    have hk : k < s.size := by omega
    clear h1 h2 h3 h4 h0 hsz
    go_enter Tryz.func95, Tryz.ntmps95
    go_wp2_with fail
    refine HIX.out.mono ?_
    rintro e w' ⟨rfl, rfl⟩
    go_wp2_with fail
    go_quiet (fail)
    go_wp2_with fail
    go_ret3
    exact ⟨_, _, _, by rw [HC.out]; rfl, rfl⟩
  · have HC : Hid (cutB c s = s) := by show _ = _; unfold cutB; rw [← h2 h0]; rfl
    have hlt : i < 0 := by omega
    clear h1 h2 h0
    go_enter Tryz.func95, Tryz.ntmps95
    go_wp2_with fail
    refine HIX.out.mono ?_
    rintro e w' ⟨rfl, rfl⟩
    go_wp2_with fail
    go_ret3
    exact ⟨_, _, 0, by rw [HC.out]; rfl, rfl⟩

theorem cut_one_any (s : ByteArray) (c : UInt8) (w : World) (hs : s.size ≤ maxLen) :
    Calls Tryz.prog 57 #[.string s, .string ⟨#[c]⟩] w fun e w' => ∃ (b : ByteArray) (x : Bool) (n : Nat), e = .returned (.tuple #[.string (cutB c s), .string b, .bool x]) ∧ w' = w.drewN n := by
  go_enter Tryz.func57, Tryz.ntmps57
  go_wp2_with fail
  refine (liteCut_one s c w hs).mono ?_
  rintro e w' ⟨b, x, n, rfl, rfl⟩
  go_wp2_with fail
  go_ret3
  exact ⟨b, x, n, rfl, rfl⟩
/-- The pieces that strings.Split makes at the byte c. -/
def piecesB (c : UInt8) (s : ByteArray) : List ByteArray := (splitL c s.data.toList).map bs
theorem split_any (s : ByteArray) (c : UInt8) (w : World) (hs : s.size < 4294967281) (hg : Glo w) :
    Calls Tryz.prog 55 #[.string s, .string ⟨#[c]⟩] w fun e w' => e = .returned (.slice (some ⟨w.heap.size, 0, none⟩) (piecesB c s).length (piecesB c s).length) ∧ w' = w.alloc (.cells ((piecesB c s).map Value.string).toArray 9) := by
  obtain ⟨m, hm⟩ := hg
  have h1 : (1 : Nat) ≤ (⟨#[c]⟩ : ByteArray).size := Nat.le_refl _
  have hlen := Lib.splitB_all ⟨#[c]⟩ h1 0 _ s rfl
  have hsp := splitB_one c s
  refine (Tryz.strings_Split s ⟨#[c]⟩ m w hs hm h1).mono ?_
  rintro e w' ⟨rfl, rfl⟩
  rw [← hlen, hsp]
  exact ⟨rfl, rfl⟩
theorem piecesB_le (c : UInt8) (s : ByteArray) : (piecesB c s).length ≤ s.size + 1 := by
  unfold piecesB
  rw [List.length_map, splitL_length, Lib.size_eq]
  have := List.count_le_length (a := c) (l := s.data.toList)
  omega

/-- The fields among the first k pieces. -/
def keptTo (ps : List ByteArray) (k : Nat) : List ByteArray := (ps.take k).filter (fun f => !f.toList.isEmpty)
theorem keptTo_succ (ps : List ByteArray) (k : Nat) (hk : k < ps.length) : keptTo ps (k + 1) = keptTo ps k ++ (if ps[k].toList.isEmpty then [] else [ps[k]]) := by
  unfold keptTo
  rw [List.take_succ_eq_append_getElem hk, List.filter_append]
  congr 1
  rw [List.filter_cons]
  cases ps[k].toList.isEmpty <;> simp
theorem keptTo_le (ps : List ByteArray) (k : Nat) : (keptTo ps k).length ≤ k := by
  unfold keptTo
  exact Nat.le_trans (List.length_filter_le _ _) (by rw [List.length_take]; omega)
theorem keptTo_all (s : ByteArray) : keptTo (piecesB 32 (cutB 35 s)) (piecesB 32 (cutB 35 s)).length = fieldsB s := by
  unfold keptTo piecesB cutB fieldsB fieldsL
  rw [List.take_length, bs_data, List.filter_map]
  congr 1
  refine List.filter_congr fun f _ => ?_
  show (!(bs f).toList.isEmpty) = _
  rw [ByteArray.toList_eq, bs_data]

set_option maxHeartbeats 400000 in
theorem fields_gen (s : ByteArray) (w : World) (hs : s.size ≤ maxLen) (hsz : (cutB 35 s).size < 2147483648) (hg : Glo w) :
    Calls Tryz.prog 19 #[.string s] w fun e w' => ∃ v, e = .returned v ∧ Own Ty.str 9 w' w.heap.size v (fieldsB s) ∧ Below w.heap.size w w' := by
  have HA := Lib.hid (keptTo_all s)
  go_enter Tryz.func19, Tryz.ntmps19
  go_wp2_with fail
  refine (cut_one_any s 35 w hs).mono ?_
  rintro e w' ⟨b, x, n, rfl, rfl⟩
  go_wp2_with fail
  refine (split_any _ _ _ (by omega) (hg.next (below_drewN (Below.refl _ _) n))).mono ?_
  rintro e w' ⟨rfl, rfl⟩
  have hpl := piecesB_le 32 (cutB 35 s)
  generalize hps : piecesB 32 (cutB 35 s) = ps at *
  clear hps
  have hc : ∀ k (h : k < ps.length), ((w.drewN n).alloc (.cells (ps.map Value.string).toArray 9)).cell? ⟨w.heap.size, k, none⟩ = some (.string ps[k]) := by
    intro k h
    rw [World.cell?_alloc_at _ _ _ _ (show w.heap.size = (w.drewN n).heap.size from rfl)]
    simp [h]
  have hbl : Below w.heap.size w ((w.drewN n).alloc (.cells (ps.map Value.string).toArray 9)) := (below_drewN (Below.refl _ _) n).alloc (Nat.le_refl _) _
  have hws : ((w.drewN n).alloc (.cells (ps.map Value.string).toArray 9)).heap.size = w.heap.size + 1 := by simp
  generalize hW : (w.drewN n).alloc (.cells (ps.map Value.string).toArray 9) = W at *
  clear hW
  have HC := Lib.hid hc; clear hc
  have HWS := Lib.hid hws; clear hws
  go_wp2_with fail
  go_loopw [3, 15] (fun v i wr => ∃ k : Nat, k ≤ ps.length ∧ i = .int .i64 k ∧ Own Ty.str 9 wr (w.heap.size + 1) v (keptTo ps k) ∧ Below (w.heap.size + 1) W wr) (fun _ i _ => ps.length - (intOf i).toNat)
  case atStart => exact ⟨0, Nat.zero_le _, rfl, Own.nil, Below.refl _ _⟩
  case round =>
    obtain ⟨k, hk, rfl, hown, hbr⟩ := hrel
    have hkl := keptTo_le ps k
    have hbs : w.heap.size + 1 ≤ wr.heap.size := by have := hbr.size; have := HWS.out; omega
    by_cases hlt : k < ps.length
    · have hcell : wr.cell? ⟨w.heap.size, k, none⟩ = some (.string ps[k]) := (hbr.cell (by simp)).trans (HC.out k hlt)
      have HK := Lib.hid (keptTo_succ ps k hlt)
      by_cases he : (!ps[k].toList.isEmpty) = true
      · have HE := Lib.hid he
        go_wp2_with (at_builtin; refine wpList_push_str rfl _ _ rfl strElem rfl (hown.alloc _) wr.heap.size ps[k] rfl ?c1 ?c2 ?c3 (Nat.le_refl _) (hbr.alloc hbs _) ?_)
        case c1 => simp
        case c2 => omega
        case c3 => simp; omega
        intro v' w1 hown' hbr2
        have hown2 : Own Ty.str 9 w1 (w.heap.size + 1) v' (keptTo ps (k + 1)) := by
          have hE := HE.out
          simp at hE
          rw [HK.out]
          simpa [hE] using hown'
        clear hown' hown
        go_wp2_with fail
        go_roundw
        case rel => exact ⟨k + 1, by omega, by go_num, hown2, hbr2⟩
        case measure => simp [intOf]; omega
      · have he' : (!ps[k].toList.isEmpty) = false := by simpa using he
        have HE := Lib.hid he'
        clear he
        have hown2 : Own Ty.str 9 wr (w.heap.size + 1) u3 (keptTo ps (k + 1)) := by
          have hE := HE.out
          simp at hE
          rw [HK.out]
          simpa [hE] using hown
        clear hown
        go_wp2_with fail
        go_roundw
        case rel => exact ⟨k + 1, by omega, by go_num, hown2, hbr⟩
        case measure => simp [intOf]; omega
    · go_wp2_with fail
      go_ret
      have e1 : k = ps.length := by omega
      subst e1
      rw [HA.out] at hown
      exact ⟨_, rfl, hown.lower (Nat.le_succ _), hbl.trans (hbr.mono (by omega))⟩
theorem fields_own (s : ByteArray) (w : World) (hs : s.size < 2147483648) (hg : Glo w) :
    Calls Tryz.prog 19 #[.string s] w fun e w' => ∃ v, e = .returned v ∧ Own Ty.str 9 w' w.heap.size v (fieldsB s) ∧ Below w.heap.size w w' :=
  fields_gen s w (by unfold maxLen; omega) (Nat.lt_of_le_of_lt (cutB_size 35 s) hs) hg
theorem fields_any (s : ByteArray) (w : World) (hs : s.size < 2147483648) (hg : Glo w) :
    Calls Tryz.prog 19 #[.string s] w fun e w' => ∃ A c, e = .returned (.slice A (fieldsB s).length c) ∧ Sl Ty.str w' (all_ w') A (fieldsB s).length c (fieldsB s) ∧ Below w.heap.size w w' := by
  refine (fields_own s w hs hg).mono ?_
  rintro e w' ⟨v, rfl, h, hb⟩
  obtain ⟨A, c, rfl, h2⟩ := h.sl
  exact ⟨A, c, rfl, h2.more fun b hb => hb.2, hb⟩
end Go.Proofs.YtldeoaddogifpaaGreatDoor
/-
  Contracts of text.ParseInt, text.FormatInt and of the references' Digits, plain, ParseInt, FormatInt.
  Condition: the string's length fits an int; the library's table of powers of ten holds what its text lays.
-/
namespace Go.Proofs.YtldeoaddogifpaaGreatDoor
set_option linter.unusedSimpArgs false
set_option linter.unusedVariables false
open Go.RowKit Go.Sort

theorem trimPrefix_any (s : ByteArray) (w : World) :
    Calls Tryz.prog 130 #[.string s, .string ⟨#[45]⟩] w fun e w' => e = .returned (.string (stripB s)) ∧ w = w' := by
  refine (Tryz.strings_TrimPrefix s ⟨#[45]⟩ w).mono ?_
  rintro e w' ⟨rfl, rfl⟩
  exact ⟨rfl, rfl⟩
def ParsePost (s : ByteArray) (w : World) (e : Ending) (w' : World) : Prop := e = .returned (.tuple #[.int .i64 (parseB s).1, .int .i64 (parseB s).2]) ∧ w = w'

/-- ParseInt behind the sign. -/
def parseD (d : ByteArray) (neg : Prop) [Decidable neg] : Int × Int :=
  if d.size < 1 ∨ 10 < d.size then (0, 1) else
    if byteAt d 0 = 48 ∧ (1 < d.size ∨ neg) then (0, 1) else
      if allTo (digAt d) d.size = false then (0, 1) else (if neg then - numTo d d.size else numTo d d.size, 0)
theorem parseB_D (s : ByteArray) : parseB s = parseD (stripB s) ((stripB s).size < s.size) := rfl

set_option maxHeartbeats 800000 in
theorem parseInt_any (s : ByteArray) (w : World) (hs : s.size ≤ maxLen) : Calls Tryz.prog 98 #[.string s] w (ParsePost s w) := by
  unfold maxLen at hs
  have HP := Lib.hid (parseB_D s)
  have hds : (stripB s).size ≤ s.size := by rw [stripB_size]; split <;> omega
  go_enter Tryz.func98, Tryz.ntmps98
  go_wp2_with fail
  refine (trimPrefix_any s w).mono ?_
  rintro e w' ⟨rfl, rfl⟩
  generalize hd : stripB s = d at *
  clear hd
  by_cases h1 : d.size < 1
  · have HR : Hid (parseB s = (0, 1)) := by rw [HP.out]; show parseD _ _ = _; unfold parseD; rw [if_pos (.inl h1)]
    clear HP
    go_wp2_with fail
    go_ret2
    exact ⟨by rw [HR.out]; rfl, rfl⟩
  by_cases h2 : 10 < d.size
  · have HR : Hid (parseB s = (0, 1)) := by rw [HP.out]; show parseD _ _ = _; unfold parseD; rw [if_pos (.inr h2)]
    clear HP
    go_wp2_with fail
    go_ret2
    exact ⟨by rw [HR.out]; rfl, rfl⟩
  have HB0 := Lib.hid (byteAt_eq d 0 (by omega))
  by_cases h4 : byteAt d 0 = 48 ∧ (1 < d.size ∨ d.size < s.size)
  · have HR : Hid (parseB s = (0, 1)) := by rw [HP.out]; show parseD _ _ = _; unfold parseD; rw [if_neg (by omega), if_pos h4]
    have e0 : ((d[0].toNat : Int) == 48) = true := by rw [HB0.out]; simpa using h4.1
    by_cases h5 : 1 < d.size
    · clear h4 HP
      go_wp2_with fail
      go_ret2
      exact ⟨by rw [HR.out]; rfl, rfl⟩
    · have h6 : d.size < s.size := by omega
      clear h4 HP
      go_wp2_with fail
      go_ret2
      exact ⟨by rw [HR.out]; rfl, rfl⟩
  · have HR : Hid (parseB s = if allTo (digAt d) d.size = false then (0, 1) else (if d.size < s.size then - numTo d d.size else numTo d d.size, 0)) := by
      rw [HP.out]; show parseD _ _ = _; unfold parseD; rw [if_neg (by omega), if_neg h4]
    have hcase : (((d[0].toNat : Int) == 48) = false ∧ d.size < s.size) ∨ (((d[0].toNat : Int) == 48) = false ∧ ¬ d.size < s.size) ∨ (((d[0].toNat : Int) == 48) = true ∧ ¬ d.size < s.size) := by
      rw [HB0.out]
      by_cases h0 : byteAt d 0 = 48
      · right; right; exact ⟨by simpa using h0, by omega⟩
      · by_cases h6 : d.size < s.size
        · left; exact ⟨by simpa using h0, h6⟩
        · right; left; exact ⟨by simpa using h0, h6⟩
    have hle1 : byteAt d 0 = 48 → ¬ 1 < d.size := fun h => by omega
    have h5 : ((d[0].toNat : Int) == 48) = true → ¬ 1 < d.size := fun h => hle1 (by rw [← HB0.out]; simpa using h)
    clear h4 HP hle1
    rcases hcase with ⟨e0, hneg⟩ | ⟨e0, hneg⟩ | ⟨e0, hneg⟩
    case' inr.inr => have h7 := h5 e0
    all_goals
      clear h5
      go_wp2_with fail
      clear e0
      go_loop [2, 3, 6, 7, 36] (fun _ _ n _ i => ∃ k : Nat, k ≤ d.size ∧ n = .int .i64 (numTo d k) ∧ i = .int .i64 k ∧ Hid (allTo (digAt d) k = true)) (fun _ _ _ _ i => d.size - (intOf i).toNat)
      case atStart => exact ⟨0, by omega, rfl, rfl, rfl⟩
      case round =>
        obtain ⟨k, hk, rfl, rfl, HA⟩ := hrel
        obtain ⟨hn1, hn2⟩ := numTo_bd d k HA.out
        have hb : bnd k ≤ 9999999999 := bnd_mono (k := 10) (by omega)
        by_cases hlt : k < d.size
        · have HB := Lib.hid (byteAt_eq d k hlt)
          have hb1 := byteAt_lo d k
          have hb2 := byteAt_hi d k
          by_cases hdg : digAt d k = true
          · have hdd := hdg
            unfold digAt numberI at hdd
            simp only [Bool.and_eq_true, decide_eq_true_eq] at hdd
            have l1 : 48 ≤ (d[k].toNat : Int) := by rw [HB.out]; exact hdd.1
            have l2 : (d[k].toNat : Int) ≤ 57 := by rw [HB.out]; exact hdd.2
            have HA2 : Hid (allTo (digAt d) (k + 1) = true) := by show allTo _ _ = true; rw [allTo_succ, HA.out, hdg]; rfl
            have HN : Hid (numTo d (k + 1) = 10 * numTo d k + ((d[k].toNat : Int) - 48)) := by show _ = _; rw [HB.out]; rfl
            clear hdd hdg HA
            go_wp2_with fail
            go_round
            case rel => exact ⟨k + 1, by omega, by rw [HN.out], by go_num, HA2⟩
            case measure => simp [intOf]; omega
          · have hdd : digAt d k = false := by simpa using hdg
            have HF := Lib.hid (allTo_false hlt hdd)
            unfold digAt numberI at hdd
            rw [← HB.out] at hdd
            have HD := Lib.hid hdd
            clear hdd hdg
            go_wp2_with fail
            all_goals have HD2 := HD.out
            all_goals first
              | (exfalso; simp at HD2; omega)
              | (go_ret2; exact ⟨by rw [HR.out, if_pos HF.out]; rfl, rfl⟩)
        · have hkk : k = d.size := by omega
          subst hkk
          have HT := Lib.hid HA.out
          first
          | (have HR2 : Hid (parseB s = (- numTo d d.size, 0)) := by rw [HR.out, if_neg (by rw [HA.out]; decide), if_pos hneg]; rfl
             go_wp2_with fail
             go_ret2
             exact ⟨by rw [HR2.out]; rfl, rfl⟩)
          | (have HR2 : Hid (parseB s = (numTo d d.size, 0)) := by rw [HR.out, if_neg (by rw [HA.out]; decide), if_neg hneg]; rfl
             go_wp2_with fail
             go_ret2
             exact ⟨by rw [HR2.out]; rfl, rfl⟩)

/-- The reference's Digits: the number and whether there are low to high digits and nothing else. -/
def digitsB (s : ByteArray) (lo hi : Int) : Int × Bool :=
  if (s.size : Int) < lo ∨ hi < (s.size : Int) then (0, false) else if allTo (digAt s) s.size = false then (0, false) else (numTo s s.size, true)
def DigitsPost (s : ByteArray) (lo hi : Int) (w : World) (e : Ending) (w' : World) : Prop := e = .returned (.tuple #[.int .i64 (digitsB s lo hi).1, .bool (digitsB s lo hi).2]) ∧ w = w'
set_option maxHeartbeats 800000 in
theorem digits_any (s : ByteArray) (lo hi : Int) (w : World) (hhi : hi ≤ 16) : Calls Tryz.prog 99 #[.string s, .int .i64 lo, .int .i64 hi] w (DigitsPost s lo hi w) := by
  by_cases h1 : (s.size : Int) < lo
  · have HR : Hid (digitsB s lo hi = (0, false)) := by show digitsB _ _ _ = _; unfold digitsB; rw [if_pos (.inl h1)]
    go_enter Tryz.func99, Tryz.ntmps99
    go_wp2_with fail
    go_ret2
    exact ⟨by rw [HR.out]; rfl, rfl⟩
  by_cases h2 : hi < (s.size : Int)
  · have HR : Hid (digitsB s lo hi = (0, false)) := by show digitsB _ _ _ = _; unfold digitsB; rw [if_pos (.inr h2)]
    go_enter Tryz.func99, Tryz.ntmps99
    go_wp2_with fail
    go_ret2
    exact ⟨by rw [HR.out]; rfl, rfl⟩
  have HR : Hid (digitsB s lo hi = if allTo (digAt s) s.size = false then (0, false) else (numTo s s.size, true)) := by
    show digitsB _ _ _ = _; unfold digitsB; rw [if_neg (by omega)]
  have hsz : s.size ≤ 16 := by omega
  go_enter Tryz.func99, Tryz.ntmps99
  go_wp2_with fail
  go_loop [6, 7, 8, 9] (fun _ _ n i => ∃ k : Nat, k ≤ s.size ∧ n = .int .i64 (numTo s k) ∧ i = .int .i64 k ∧ Hid (allTo (digAt s) k = true)) (fun _ _ _ i => s.size - (intOf i).toNat)
  case atStart => exact ⟨0, by omega, rfl, rfl, rfl⟩
  case round =>
    obtain ⟨k, hk, rfl, rfl, HA⟩ := hrel
    obtain ⟨hn1, hn2⟩ := numTo_bd s k HA.out
    have hb : bnd k ≤ 9999999999999999 := bnd_mono (k := 16) (by omega)
    by_cases hlt : k < s.size
    · have HB := Lib.hid (byteAt_eq s k hlt)
      have hb1 := byteAt_lo s k
      have hb2 := byteAt_hi s k
      by_cases hdg : digAt s k = true
      · have hdd := hdg
        unfold digAt at hdd
        rw [← HB.out] at hdd
        have HD := Lib.hid hdd
        unfold numberI at hdd
        simp only [Bool.and_eq_true, decide_eq_true_eq] at hdd
        have l1 : 48 ≤ (s[k].toNat : Int) := hdd.1
        have l2 : (s[k].toNat : Int) ≤ 57 := hdd.2
        have HA2 : Hid (allTo (digAt s) (k + 1) = true) := by show allTo _ _ = true; rw [allTo_succ, HA.out, hdg]; rfl
        have HN : Hid (numTo s (k + 1) = 10 * numTo s k + ((s[k].toNat : Int) - 48)) := by show _ = _; rw [HB.out]; rfl
        clear hdd hdg HA
        go_wp2_with fail
        refine (number_any _ _).mono ?_
        rintro e w' ⟨rfl, rfl⟩
        rw [HD.out]
        go_wp2_with fail
        go_round
        case rel => exact ⟨k + 1, by omega, by rw [HN.out], by go_num, HA2⟩
        case measure => simp [intOf]; omega
      · have hdd : digAt s k = false := by simpa using hdg
        have HF := Lib.hid (allTo_false hlt hdd)
        unfold digAt at hdd
        rw [← HB.out] at hdd
        have HD := Lib.hid hdd
        clear hdd hdg
        go_wp2_with fail
        refine (number_any _ _).mono ?_
        rintro e w' ⟨rfl, rfl⟩
        rw [HD.out]
        go_wp2_with fail
        go_ret2
        exact ⟨by rw [HR.out, if_pos HF.out]; rfl, rfl⟩
    · obtain rfl : k = s.size := by omega
      have HR2 : Hid (digitsB s lo hi = (numTo s s.size, true)) := by rw [HR.out, if_neg (by rw [HA.out]; decide)]; rfl
      go_wp2_with fail
      go_ret2
      exact ⟨by rw [HR2.out]; rfl, rfl⟩

def plainB (s : ByteArray) : Bool := (s.size == 1) || (decide (1 < s.size) && !(byteAt s 0 == 48))
theorem plain_any (s : ByteArray) (w : World) : Calls Tryz.prog 100 #[.string s] w fun e w' => e = .returned (.bool (plainB s)) ∧ w = w' := by
  by_cases h1 : s.size = 1
  · have hb : ((s.size : Int) == 1) = true := by simp [h1]
    have HR : Hid (plainB s = true) := by show _ = _; unfold plainB; rw [h1]; rfl
    clear h1
    go_enter Tryz.func100, Tryz.ntmps100
    go_wp2_with fail
    go_ret
    exact ⟨ret_bool HR.out.symm, rfl⟩
  · have hb : ((s.size : Int) == 1) = false := by simp; omega
    have hb' : (s.size == 1) = false := by simpa using h1
    by_cases h2 : 1 < s.size
    · have HB := Lib.hid (byteAt_eq s 0 (by omega))
      have HR : Hid (plainB s = !(byteAt s 0 == 48)) := by show _ = _; unfold plainB; rw [hb', decide_eq_true h2]; rfl
      clear h1 hb'
      go_enter Tryz.func100, Tryz.ntmps100
      go_wp2_with fail
      go_ret
      exact ⟨ret_bool (by rw [HR.out, ← HB.out]; rfl), rfl⟩
    · have HR : Hid (plainB s = false) := by show _ = _; unfold plainB; rw [hb', decide_eq_false h2]; rfl
      clear h1 hb'
      go_enter Tryz.func100, Tryz.ntmps100
      go_wp2_with fail
      go_ret
      exact ⟨ret_bool HR.out.symm, rfl⟩

theorem numTo_zero {d : ByteArray} {k : Nat} (h : allTo (digAt d) (k + 1) = true) (h0 : numTo d (k + 1) = 0) : byteAt d 0 = 48 := by
  have h1 := (allTo_iff.1 h) 0 (by omega)
  induction k with
  | zero =>
    simp only [numTo] at h0
    omega
  | succ k ih =>
    have h2 := h
    rw [allTo_succ, Bool.and_eq_true] at h2
    have hb := numTo_bd d (k + 1) h2.1
    have h3 := h2.2
    unfold digAt numberI at h3
    simp only [Bool.and_eq_true, decide_eq_true_eq] at h3
    rw [numTo] at h0
    exact ih h2.1 (by omega)
/-- How the reference parses. -/
theorem parse_ref (d : ByteArray) (neg : Prop) [Decidable neg] : parseD d neg = if (digitsB d 1 10).2 = false ∨ plainB d = false ∨ (neg ∧ (digitsB d 1 10).1 = 0) then (0, 1) else
    (if neg then - (digitsB d 1 10).1 else (digitsB d 1 10).1, 0) := by
  have big : digitsB d 1 10 = if d.size < 1 ∨ 10 < d.size then (0, false) else if allTo (digAt d) d.size = false then (0, false) else (numTo d d.size, true) := by
    unfold digitsB
    by_cases h1 : d.size < 1 ∨ 10 < d.size
    · rw [if_pos h1, if_pos (by omega)]
    · rw [if_neg h1, if_neg (by omega)]
  unfold parseD
  by_cases h1 : d.size < 1 ∨ 10 < d.size
  · rw [if_pos h1] at big ⊢
    rw [big, if_pos (.inl rfl)]
  · rw [if_neg h1] at big ⊢
    by_cases h2 : allTo (digAt d) d.size = false
    · rw [if_pos h2] at big ⊢
      rw [big, ite_self, if_pos (.inl rfl)]
    · have h3 : allTo (digAt d) d.size = true := by simpa using h2
      obtain ⟨k, hk⟩ : ∃ k, d.size = k + 1 := ⟨d.size - 1, by omega⟩
      rw [if_neg h2] at big ⊢
      rw [big]
      dsimp only
      by_cases h4 : byteAt d 0 = 48
      · by_cases h5 : d.size = 1
        · have hp : plainB d = true := by unfold plainB; rw [h5]; rfl
          have hz : numTo d d.size = 0 := by rw [h5]; simp only [numTo]; omega
          by_cases h6 : neg
          · rw [if_pos ⟨h4, .inr h6⟩, if_pos (.inr (.inr ⟨h6, hz⟩))]
          · have c1 : ¬ (byteAt d 0 = 48 ∧ (1 < d.size ∨ neg)) := by
              rintro ⟨_, h | h⟩
              · omega
              · exact h6 h
            have c2 : ¬ (true = false ∨ plainB d = false ∨ neg ∧ numTo d d.size = 0) := by
              rintro (h | h | ⟨h, _⟩)
              · cases h
              · rw [hp] at h; cases h
              · exact h6 h
            rw [if_neg c1, if_neg c2]
        · have hp : plainB d = false := by
            unfold plainB
            rw [h4, show (d.size == 1) = false by simpa using h5]
            simp
          rw [if_pos ⟨h4, .inl (by omega)⟩, if_pos (.inr (.inl hp))]
      · have hp : plainB d = true := by
          unfold plainB
          by_cases h5 : d.size = 1
          · rw [h5]; rfl
          · rw [decide_eq_true (show 1 < d.size by omega)]
            simp [h4]
        have c2 : ¬ (true = false ∨ plainB d = false ∨ neg ∧ numTo d d.size = 0) := by
          rintro (h | h | ⟨_, h⟩)
          · cases h
          · rw [hp] at h; cases h
          · rw [hk] at h h3
            exact h4 (numTo_zero h3 h)
        rw [if_neg (fun h => h4 h.1), if_neg c2]

set_option maxHeartbeats 800000 in
theorem parseIntR_any (s : ByteArray) (w : World) (hs : s.size ≤ maxLen) : Calls Tryz.prog 62 #[.string s] w (ParsePost s w) := by
  unfold maxLen at hs
  have HP := Lib.hid ((parseB_D s).trans (parse_ref _ _))
  have hse := stripB_eq s
  have hds := stripB_size s
  have hdb : 0 ≤ (digitsB (stripB s) 1 10).1 ∧ (digitsB (stripB s) 1 10).1 ≤ 9999999999 := by
    unfold digitsB
    split
    · decide
    · split
      · decide
      · rename_i h1 h2
        have h := numTo_bd (stripB s) (stripB s).size (by simpa using h2)
        have hb : bnd (stripB s).size ≤ bnd 10 := bnd_mono (by omega)
        rw [bnd_ten] at hb
        dsimp only
        omega
  obtain ⟨hd1, hd2⟩ := hdb
  by_cases h0 : 0 < s.size
  · have HB := Lib.hid (byteAt_eq s 0 h0)
    by_cases h45 : byteAt s 0 = 45
    · have e0 : ((s[0].toNat : Int) == 45) = true := by rw [HB.out]; simpa using h45
      rw [if_pos ⟨h0, h45⟩] at hse hds
      have hneg : (stripB s).size < s.size := by omega
      have HSE := Lib.hid hse
      clear h45 hse hds
      go_enter Tryz.func62, Tryz.ntmps62
      go_wp2_with fail
      rw [← HSE.out]
      refine (digits_any (stripB s) 1 10 w (by decide)).mono ?_
      rintro e w' ⟨rfl, rfl⟩
      generalize hn : (digitsB (stripB s) 1 10).1 = n at *
      generalize hok : (digitsB (stripB s) 1 10).2 = ok at *
      clear hn hok
      cases ok
      · have HR : Hid (parseB s = (0, 1)) := by rw [HP.out, if_pos (.inl rfl)]; rfl
        clear HP
        go_wp2_with fail
        go_ret2
        exact ⟨by rw [HR.out]; rfl, rfl⟩
      · go_wp2_with fail
        refine (plain_any (stripB s) w).mono ?_
        rintro e w' ⟨rfl, rfl⟩
        generalize hpl : plainB (stripB s) = pl at *
        clear hpl
        cases pl
        · have HR : Hid (parseB s = (0, 1)) := by rw [HP.out, if_pos (.inr (.inl rfl))]; rfl
          clear HP
          go_wp2_with fail
          go_ret2
          exact ⟨by rw [HR.out]; rfl, rfl⟩
        · by_cases hz : n = 0
          · have HR : Hid (parseB s = (0, 1)) := by rw [HP.out, if_pos (.inr (.inr ⟨hneg, hz⟩))]; rfl
            have hzb : (n == 0) = true := by simpa using hz
            clear HP hz
            go_wp2_with fail
            go_ret2
            exact ⟨by rw [HR.out]; rfl, rfl⟩
          · have HR : Hid (parseB s = (-n, 0)) := by rw [HP.out, if_neg (by rintro (h | h | ⟨_, h⟩); cases h; cases h; exact hz h), if_pos hneg]; rfl
            have hzb : (n == 0) = false := by simpa using hz
            clear HP hz
            go_wp2_with fail
            go_ret2
            exact ⟨by rw [HR.out]; rfl, rfl⟩
    · have e0 : ((s[0].toNat : Int) == 45) = false := by rw [HB.out]; simpa using h45
      rw [if_neg (fun h => h45 h.2)] at hse hds
      have hneg : ¬ (stripB s).size < s.size := by omega
      rw [hse] at HP hd1 hd2 hneg
      clear h45 hse hds
      go_enter Tryz.func62, Tryz.ntmps62
      go_wp2_with fail
      refine (digits_any (s) 1 10 w (by decide)).mono ?_
      rintro e w' ⟨rfl, rfl⟩
      generalize hn : (digitsB (s) 1 10).1 = n at *
      generalize hok : (digitsB (s) 1 10).2 = ok at *
      clear hn hok
      cases ok
      · have HR : Hid (parseB s = (0, 1)) := by rw [HP.out, if_pos (.inl rfl)]; rfl
        clear HP
        go_wp2_with fail
        go_ret2
        exact ⟨by rw [HR.out]; rfl, rfl⟩
      · go_wp2_with fail
        refine (plain_any (s) w).mono ?_
        rintro e w' ⟨rfl, rfl⟩
        generalize hpl : plainB (s) = pl at *
        clear hpl
        cases pl
        · have HR : Hid (parseB s = (0, 1)) := by rw [HP.out, if_pos (.inr (.inl rfl))]; rfl
          clear HP
          go_wp2_with fail
          go_ret2
          exact ⟨by rw [HR.out]; rfl, rfl⟩
        · have HR : Hid (parseB s = (n, 0)) := by rw [HP.out, if_neg (by rintro (h | h | ⟨h, _⟩); cases h; cases h; exact hneg h), if_neg hneg]; rfl
          clear HP
          go_wp2_with fail
          go_ret2
          exact ⟨by rw [HR.out]; rfl, rfl⟩
  · rw [if_neg (fun h => h0 h.1)] at hse hds
    have hneg : ¬ (stripB s).size < s.size := by omega
    rw [hse] at HP hd1 hd2 hneg
    clear hse hds
    go_enter Tryz.func62, Tryz.ntmps62
    go_wp2_with fail
    refine (digits_any (s) 1 10 w (by decide)).mono ?_
    rintro e w' ⟨rfl, rfl⟩
    generalize hn : (digitsB (s) 1 10).1 = n at *
    generalize hok : (digitsB (s) 1 10).2 = ok at *
    clear hn hok
    cases ok
    · have HR : Hid (parseB s = (0, 1)) := by rw [HP.out, if_pos (.inl rfl)]; rfl
      clear HP
      go_wp2_with fail
      go_ret2
      exact ⟨by rw [HR.out]; rfl, rfl⟩
    · go_wp2_with fail
      refine (plain_any (s) w).mono ?_
      rintro e w' ⟨rfl, rfl⟩
      generalize hpl : plainB (s) = pl at *
      clear hpl
      cases pl
      · have HR : Hid (parseB s = (0, 1)) := by rw [HP.out, if_pos (.inr (.inl rfl))]; rfl
        clear HP
        go_wp2_with fail
        go_ret2
        exact ⟨by rw [HR.out]; rfl, rfl⟩
      · have HR : Hid (parseB s = (n, 0)) := by rw [HP.out, if_neg (by rintro (h | h | ⟨h, _⟩); cases h; cases h; exact hneg h), if_neg hneg]; rfl
        clear HP
        go_wp2_with fail
        go_ret2
        exact ⟨by rw [HR.out]; rfl, rfl⟩

theorem grow_below (w : World) (k : Nat) (os : Array Obj) : Below w.heap.size w (grow (w.drewN k) os) := by
  refine ⟨rfl, rfl, rfl, ?_, fun i hi => ?_⟩
  · simp only [grow, World.heap_drewN, Array.size_append]; omega
  · simp only [grow, World.heap_drewN]
    rw [Array.getElem?_append, if_pos hi]
/-- The library's table of powers of ten holds what its text lays. -/
def Pow10 (w : World) : Prop := Lib.TabIs Tryz.prog w "internal/strconv.uint64pow10" .u64 Lib.pow10Tab ∧ 1 < w.heap.size
theorem Pow10.next {w w' : World} (h : Pow10 w) (hb : Below w.heap.size w w') : Pow10 w' :=
  ⟨var?_below hb (by kernel_rfl) h.2 h.1, Nat.lt_of_lt_of_le h.2 hb.size⟩
def fmtB (n : Int) : ByteArray := bs (Lib.itoa n)
theorem itoa_any (n : Int) (w : World) (h0 : -9223372036854775808 ≤ n) (h1 : n ≤ 9223372036854775807) (hp : Pow10 w) :
    Calls Tryz.prog 73 #[.int .i64 n] w fun e w' => e = .returned (.string (fmtB n)) ∧ Below w.heap.size w w' := by
  refine (Tryz.strconv_Itoa n h0 h1 w hp.1).mono ?_
  rintro e w' ⟨rfl, k, os, rfl⟩
  exact ⟨rfl, grow_below w k os⟩
theorem formatInt_any (n : Int) (w : World) (h0 : -9223372036854775808 ≤ n) (h1 : n ≤ 9223372036854775807) (hp : Pow10 w) :
    Calls Tryz.prog 38 #[.int .i64 n] w fun e w' => e = .returned (.string (fmtB n)) ∧ Below w.heap.size w w' := by
  go_enter Tryz.func38, Tryz.ntmps38
  go_wp2_with fail
  refine (itoa_any n w h0 h1 hp).mono ?_
  rintro e w' ⟨rfl, hb⟩
  go_wp2_with fail
  go_ret
  exact ⟨rfl, hb⟩
theorem formatIntR_any (n : Int) (w : World) (h0 : -9223372036854775808 ≤ n) (h1 : n ≤ 9223372036854775807) (hp : Pow10 w) :
    Calls Tryz.prog 30 #[.int .i64 n] w fun e w' => e = .returned (.string (fmtB n)) ∧ Below w.heap.size w w' := by
  go_enter Tryz.func30, Tryz.ntmps30
  go_wp2_with fail
  refine (itoa_any n w h0 h1 hp).mono ?_
  rintro e w' ⟨rfl, hb⟩
  go_wp2_with fail
  go_ret
  exact ⟨rfl, hb⟩
end Go.Proofs.YtldeoaddogifpaaGreatDoor
/-
  Contracts of calendar.padded, SplitMinute, DateOf.
  Condition: the numbers are small and not negative; the table of powers of ten is laid.
-/
namespace Go.Proofs.YtldeoaddogifpaaGreatDoor
set_option linter.unusedSimpArgs false
set_option linter.unusedVariables false
open Go.RowKit

def StrB (s : ByteArray) (w : World) (e : Ending) (w' : World) : Prop := e = .returned (.string s) ∧ Below w.heap.size w w'
theorem numS_size {n : Int} (h0 : 0 ≤ n) (h1 : n ≤ 9999) : 1 ≤ (numS n).size ∧ (numS n).size ≤ 21 := by
  unfold numS
  rw [bs_size]
  rw [Lib.itoa, if_neg (by omega)]
  refine ⟨dec_pos _, ?_⟩
  have := (nDigits_ten n.toNat).2 (by omega)
  rw [Lib.decDigits_length]
  omega
set_option maxRecDepth 100000 in
set_option maxHeartbeats 800000 in
theorem padded_any (n d : Int) (w : World) (h0 : 0 ≤ n) (h1 : n ≤ 9999) (hd : d ≤ ((numS n).size : Int) + 1) (hd0 : 0 ≤ d) (hp : Pow10 w) :
    Calls Tryz.prog 118 #[.int .i64 n, .int .i64 d] w (StrB (padB n d.toNat) w) := by
  have HF : Hid (Calls Tryz.prog 38 #[.int .i64 n] w fun e w' => e = .returned (.string (numS n)) ∧ Below w.heap.size w w') := formatInt_any n w (by omega) (by omega) hp
  have hz := numS_size h0 h1
  have HP : Hid (padB n d.toNat = if (numS n).size < d.toNat then zS ++ numS n else numS n) := rfl
  generalize numS n = s at *
  go_enter Tryz.func118, Tryz.ntmps118
  go_wp2_with fail
  refine HF.out.mono ?_
  rintro e w1 ⟨rfl, hb1⟩
  by_cases hlt : (s.size : Int) < d
  · have HR : Hid (padB n d.toNat = zS ++ s) := by show _ = _; rw [HP.out, if_pos (by omega)]
    have q1 : d - (s.size : Int) = 1 := by omega
    have q2 : IntKind.i64.wrap (d - (s.size : Int)) = 1 := by rw [q1]; decide
    have q3 : ¬ 9223372036854775807 < 1 + s.size := by omega
    have HRO : Hid (Calls Tryz.prog 132 #[.string ⟨#[48]⟩, .int .i64 1] w1 fun e w' => e = .returned (.string ⟨#[48]⟩) ∧ w' = w1) := Tryz.strings_Repeat_one ⟨#[48]⟩ w1
    clear q1
    go_wp2_with fail
    refine HRO.out.mono ?_
    rintro e w' ⟨rfl, rfl⟩
    go_wp2_with fail
    go_ret
    exact ⟨by rw [HR.out]; rfl, hb1⟩
  · have HR : Hid (padB n d.toNat = s) := by show _ = _; rw [HP.out, if_neg (by omega)]
    go_wp2_with fail
    go_ret
    exact ⟨by rw [HR.out]; rfl, hb1⟩
theorem splitMinute_any (t : Int) (w : World) (h0 : 0 ≤ t) (h1 : t < 52596000) : Calls Tryz.prog 119 #[.int .i64 t] w fun e w' => e = .returned (.tuple #[.int .i64 (t / 1440), .int .i64 (t % 1440)]) ∧ w = w' := by
  have q1 : t.tdiv 1440 = t / 1440 := Int.tdiv_eq_ediv_of_nonneg h0
  have q2 : t.tmod 1440 = t % 1440 := Int.tmod_eq_emod_of_nonneg h0
  have q3 : IntKind.i64.wrap (t / 1440) = t / 1440 := IntWalk.i64_in _ (by omega)
  have q4 : IntKind.i64.wrap (t % 1440) = t % 1440 := IntWalk.i64_in _ (by omega)
  have q5 : ¬ t % 1440 < 0 := by omega
  go_enter Tryz.func119, Tryz.ntmps119
  go_wp2_with fail
  go_ret2
  exact ⟨rfl, rfl⟩
theorem yearSum_last : yearSum 102 = 37255 := by decide +kernel
/-- The date of a day is handed back. -/
def DayPost (day : Int) (w : World) (e : Ending) (w' : World) : Prop := ∃ y m d : Int, e = .returned (.tuple #[.agg #[.int .i64 y, .int .i64 m, .int .i64 d], .int .i64 0]) ∧ validB y m d = true ∧ dayB y m d = day ∧ Below w.heap.size w w'
set_option maxRecDepth 100000 in
set_option maxHeartbeats 1600000 in
theorem dateOf_any (day : Int) (w : World) (h0 : 0 ≤ day) (h1 : day ≤ 36889) : Calls Tryz.prog 120 #[.int .i64 day] w (DayPost day w) := by
  have hb0 := (Below.refl w.heap.size w).alloc (Nat.le_refl _) (.cells #[.int .i64 0, .int .i64 0, .int .i64 0] 133)
  have hr0 := heap_alloc_new w (.cells #[.int .i64 0, .int .i64 0, .int .i64 0] 133)
  have hz0 : w.heap.size < (w.alloc (.cells #[.int .i64 0, .int .i64 0, .int .i64 0] 133)).heap.size := by simp
  have HB0 := Lib.hid hb0; have HR0 := Lib.hid hr0; have HZ0 := Lib.hid hz0
  clear hb0 hr0 hz0
  have c1 : ¬ day < -365 := by omega
  have c2 : ¬ (36889 : Int) < day := by omega
  have c3 : IntKind.i64.wrap (day - -365) = day + 365 := by rw [Int.sub_neg]; exact IntWalk.i64_in _ (by omega)
  go_enter Tryz.func120, Tryz.ntmps120
  go_wp2_with fail
  generalize w.alloc (.cells #[.int .i64 0, .int .i64 0, .int .i64 0] 133) = W at *
  go_loop [4, 5] (fun r y => ∃ k : Nat, k ≤ 101 ∧ r = .int .i64 (day + 365 - yearSum k) ∧ y = .int .i64 (1999 + k) ∧ 0 ≤ day + 365 - yearSum k) (fun _ y => 2200 - (intOf y).toNat)
  case atStart => exact ⟨0, by omega, by simp [yearSum, sumTo], rfl, by simp [yearSum, sumTo]; omega⟩
  case round =>
    obtain ⟨k, hk, rfl, rfl, hr⟩ := hrel
    have HY : Hid (Calls Tryz.prog 145 #[.int .i64 (1999 + k)] W fun e w' => e = .returned (.int .i64 (yDays (1999 + k))) ∧ W = w') := yearDays_any (1999 + k) W (by omega) (by omega)
    have HS : Hid (yearSum (k + 1) = yearSum k + yDays (1999 + k)) := rfl
    have hbs := yearSum_bd k
    have hyd := yDays_bd (1999 + k)
    by_cases hge : yDays (1999 + k) ≤ day + 365 - yearSum k
    · have hk2 : k < 101 := by
        rcases Nat.lt_or_ge k 101 with h | h
        · exact h
        · exfalso
          have e : k = 101 := by omega
          subst e
          have := HS.out
          rw [yearSum_last] at this
          omega
      have q1 : IntKind.i64.wrap (day + 365 - yearSum k - yDays (1999 + k)) = day + 365 - yearSum k - yDays (1999 + k) := IntWalk.i64_in _ (by omega)
      have q2 : IntKind.i64.wrap (1999 + (k : Int) + 1) = 1999 + (k : Int) + 1 := IntWalk.i64_in _ (by omega)
      have HE : Hid (day + 365 - yearSum k - yDays (1999 + k) = day + 365 - yearSum (k + 1)) := by show _ = _; rw [HS.out]; omega
      generalize yDays (1999 + k) = yd at *
      generalize hys : yearSum k = ys at *
      go_wp2_with fail
      refine HY.out.mono ?_
      rintro e w' ⟨rfl, rfl⟩
      go_wp2_with fail
      refine HY.out.mono ?_
      rintro e w' ⟨rfl, rfl⟩
      go_wp2_with fail
      go_round
      case rel => exact ⟨k + 1, by omega, by rw [HE.out], by go_num, by rw [← HE.out]; omega⟩
      case measure => simp [intOf]; omega
    · have hlt : day + 365 - yearSum k < yDays (1999 + k) := by omega
      have HYV : Hid (yDays (1999 + k) = monSum (1999 + k) 12) := (monSum_year _).symm
      have HDB : Hid (∀ (j : Nat) (d : Int), 1999 ≤ 1999 + (k : Int) → dayB (1999 + k) (1 + j) d = -365 + yearSum k + monSum (1999 + k) j + d - 1) := fun j d _ => by
        unfold dayB
        have e1 : (1999 + (k : Int) - 1999).toNat = k := by omega
        have e2 : (1 + (j : Int) - 1).toNat = j := by omega
        rw [e1, e2]
      have HVB : Hid (∀ (j : Nat) (d : Int), j ≤ 11 → 1 ≤ d → d ≤ mDays (1999 + k) (1 + j) → validB (1999 + k) (1 + j) d = true) := fun j d hj a b => validB_iff.2 ⟨⟨by omega, by omega⟩, ⟨by omega, by omega⟩, a, b⟩
      have hyb : 0 ≤ (1999 : Int) + k ∧ (1999 : Int) + k ≤ 100000 := by omega
      generalize hyd2 : yDays (1999 + k) = yd at *
      obtain ⟨ys, hys⟩ : ∃ ys, yearSum k = ys := ⟨_, rfl⟩
      rw [hys] at hr hlt hbs HDB hge ⊢
      obtain ⟨yy, hyy⟩ : ∃ yy : Int, 1999 + (k : Int) = yy := ⟨_, rfl⟩
      rw [hyy] at HDB HVB HY HYV hyb ⊢
      clear hys hyd2 hge HS
      go_wp2_with fail
      refine HY.out.mono ?_
      rintro e w' ⟨rfl, rfl⟩
      clear HY
      go_wp2_with fail
      go_loopw [4, 6] (fun r m wr => ∃ j : Nat, j ≤ 11 ∧ r = .int .i64 (day + 365 - ys - monSum yy j) ∧ m = .int .i64 (1 + j) ∧ 0 ≤ day + 365 - ys - monSum yy j ∧ Below W.heap.size W wr) (fun _ m _ => 100 - (intOf m).toNat)
      case atStart => exact ⟨0, by omega, by simp [monSum, sumTo], rfl, by simp [monSum, sumTo]; omega, Below.refl _ _⟩
      case round =>
        obtain ⟨j, hj, rfl, rfl, hr2, hbr⟩ := hrel
        have HM : Hid (∀ V : World, Calls Tryz.prog 146 #[.int .i64 yy, .int .i64 (1 + j)] V (IntPost (mDays yy (1 + j)) V)) := fun V => monthDays_any yy (1 + j) V hyb.1 hyb.2 (by omega) (by omega)
        have HS : Hid (monSum yy (j + 1) = monSum yy j + mDays yy (1 + j)) := rfl
        have hmb := monSum_bd yy j
        have hmd := mDays_bd yy (1 + j)
        unfold IntPost at HM
        have HDB2 := Lib.hid (HDB.out j (day + 365 - ys - monSum yy j + 1) (by omega))
        have HVB2 := Lib.hid (HVB.out j (day + 365 - ys - monSum yy j + 1) hj)
        by_cases hge : mDays yy (1 + j) ≤ day + 365 - ys - monSum yy j
        · have hj2 : j < 11 := by
            rcases Nat.lt_or_ge j 11 with h | h
            · exact h
            · exfalso
              have e : j = 11 := by omega
              subst e
              have h9 := HS.out
              have h8 := HYV.out
              rw [h9] at h8
              omega
          have q1 : IntKind.i64.wrap (day + 365 - ys - monSum yy j - mDays yy (1 + j)) = day + 365 - ys - monSum yy j - mDays yy (1 + j) := IntWalk.i64_in _ (by omega)
          have q2 : IntKind.i64.wrap (1 + (j : Int) + 1) = 1 + (j : Int) + 1 := IntWalk.i64_in _ (by omega)
          have HE : Hid (day + 365 - ys - monSum yy j - mDays yy (1 + j) = day + 365 - ys - monSum yy (j + 1)) := by show _ = _; rw [HS.out]; omega
          generalize mDays yy (1 + j) = md at *
          generalize hms : monSum yy j = ms at *
          go_wp2_with fail
          refine (HM.out _).mono ?_
          rintro e w3 ⟨rfl, hb3⟩
          go_wp2_with fail
          refine (HM.out _).mono ?_
          rintro e w4 ⟨rfl, hb4⟩
          have HB4 : Hid (Below W.heap.size W w4) := hbr.trans ((hb3.trans (hb4.mono hb3.size)).mono hbr.size)
          clear hb3 hb4
          go_wp2_with fail
          go_roundw
          case rel => exact ⟨j + 1, by omega, by rw [HE.out], by go_num, by rw [← HE.out]; omega, HB4.out⟩
          case measure => simp [intOf]; omega
        · have q1 : IntKind.i64.wrap (day + 365 - ys - monSum yy j + 1) = day + 365 - ys - monSum yy j + 1 := IntWalk.i64_in _ (by omega)
          have hlt2 : day + 365 - ys - monSum yy j < mDays yy (1 + j) := by omega
          have HV3 : Hid (validB yy (1 + j) (day + 365 - ys - monSum yy j + 1) = true) := HVB2.out (by omega) (by omega)
          have HD3 : Hid (dayB yy (1 + j) (day + 365 - ys - monSum yy j + 1) = day) := by show _ = _; rw [HDB2.out]; omega
          clear HVB HDB HVB2 HDB2 HYV HS
          generalize mDays yy (1 + j) = md at *
          generalize hms : monSum yy j = ms at *
          obtain ⟨dd, hdd⟩ : ∃ dd : Int, day + 365 - ys - ms + 1 = dd := ⟨_, rfl⟩
          rw [hdd] at q1 HV3 HD3
          clear hms hge
          go_wp2_with fail
          refine (HM.out _).mono ?_
          rintro e w3 ⟨rfl, hb3⟩
          have hb5 : Below W.heap.size W w3 := hbr.trans (hb3.mono hbr.size)
          have hbw : Below w.heap.size w w3 := HB0.out.trans (hb5.mono HB0.out.size)
          have hr3 := (hb5.block w.heap.size HZ0.out).trans HR0.out
          have z0 := block_cell hr3 0; have z1 := block_cell hr3 1; have z2 := block_cell hr3 2
          have f0 := block_free hr3 0; have f1 := block_free hr3 1; have f2 := block_free hr3 2
          clear hr3 hb3 hb5
          go_wp2_with fail
          refine bodyPost_ret (v := .tuple #[.agg #[.int .i64 yy, .int .i64 (1 + j), .int .i64 dd], .int .i64 0]) (by simp [results, Tryz.results120, go_sem, z0, z1, z2]) rfl ?_
          exact ⟨yy, 1 + j, dd, rfl, HV3.out, HD3.out, ((hbw.setCell (Nat.le_refl _) _).setCell (Nat.le_refl _) _).setCell (Nat.le_refl _) _⟩
end Go.Proofs.YtldeoaddogifpaaGreatDoor
/-
  Contracts of calendar.FormatDate, FormatClock and FormatInstant.
  Condition: the date is valid, the instant lies in the calendar; the table of powers of ten is laid.
-/
namespace Go.Proofs.YtldeoaddogifpaaGreatDoor
set_option linter.unusedSimpArgs false
set_option linter.unusedVariables false
open Go.RowKit

def TxtB (s : ByteArray) (w : World) (e : Ending) (w' : World) : Prop := e = .returned (.tuple #[.string s, .int .i64 0]) ∧ Below w.heap.size w w'
theorem padB_size {n : Int} {d : Nat} (h0 : 0 ≤ n) (h1 : n ≤ 9999) : (padB n d).size ≤ 22 := by
  have := numS_size h0 h1
  unfold padB
  split
  · rw [ByteArray.size_append, show zS.size = 1 from rfl]; omega
  · omega
set_option maxRecDepth 100000 in
set_option maxHeartbeats 1600000 in
theorem formatDate_any (y m d : Int) (w : World) (hv : validB y m d = true) (hp : Pow10 w) : Calls Tryz.prog 121 #[.agg #[.int .i64 y, .int .i64 m, .int .i64 d]] w (TxtB (fmtDate y m d) w) := by
  obtain ⟨v1, v2, v3, v4⟩ := validB_iff.1 hv
  have v5 := mDays_bd y m
  have hb0 := (Below.refl w.heap.size w).alloc (Nat.le_refl _) (.cells #[.int .i64 y, .int .i64 m, .int .i64 d] 133)
  have hr0 := heap_alloc_new w (.cells #[.int .i64 y, .int .i64 m, .int .i64 d] 133)
  have HB0 := Lib.hid hb0; have HR0 := Lib.hid hr0
  have HPW : Hid (∀ V, Below w.heap.size w V → Pow10 V) := fun V hV => hp.next hV
  have n1 : ((numS y).size : Int) = 4 := by
    have e := numS_four (n := y.toNat) (by omega) (by omega)
    rw [show ((y.toNat : Nat) : Int) = y by omega] at e
    rw [e, bs_size]; rfl
  have n2 := numS_size (n := m) (by omega) (by omega)
  have n3 := numS_size (n := d) (by omega) (by omega)
  have HP1 : Hid (∀ V, Below w.heap.size w V → Calls Tryz.prog 118 #[.int .i64 y, .int .i64 4] V (StrB (padB y 4) V)) := fun V hV => padded_any y 4 V (by omega) (by omega) (by omega) (by omega) (HPW.out V hV)
  have HP2 : Hid (∀ V, Below w.heap.size w V → Calls Tryz.prog 118 #[.int .i64 m, .int .i64 2] V (StrB (padB m 2) V)) := fun V hV => padded_any m 2 V (by omega) (by omega) (by omega) (by omega) (HPW.out V hV)
  have HP3 : Hid (∀ V, Below w.heap.size w V → Calls Tryz.prog 118 #[.int .i64 d, .int .i64 2] V (StrB (padB d 2) V)) := fun V hV => padded_any d 2 V (by omega) (by omega) (by omega) (by omega) (HPW.out V hV)
  have s1 := padB_size (n := y) (d := 4) (by omega) (by omega)
  have s2 := padB_size (n := m) (d := 2) (by omega) (by omega)
  have s3 := padB_size (n := d) (d := 2) (by omega) (by omega)
  have HQ : Hid (fmtDate y m d = padB y 4 ++ dashS ++ padB m 2 ++ dashS ++ padB d 2) := rfl
  rw [HQ.out]
  have HV := Lib.hid hv
  generalize padB y 4 = P1 at *
  generalize padB m 2 = P2 at *
  generalize padB d 2 = P3 at *
  obtain ⟨X3, hX3⟩ : ∃ X, P1 ++ dashS = X := ⟨_, rfl⟩
  obtain ⟨X7, hX7⟩ : ∃ X, X3 ++ P2 = X := ⟨_, rfl⟩
  obtain ⟨X8, hX8⟩ : ∃ X, X7 ++ dashS = X := ⟨_, rfl⟩
  obtain ⟨X12, hX12⟩ : ∃ X, X8 ++ P3 = X := ⟨_, rfl⟩
  have t3 : X3.size ≤ 30 := by rw [← hX3, ByteArray.size_append, show dashS.size = 1 from rfl]; omega
  have t7 : X7.size ≤ 60 := by rw [← hX7, ByteArray.size_append]; omega
  have t8 : X8.size ≤ 61 := by rw [← hX8, ByteArray.size_append, show dashS.size = 1 from rfl]; omega
  rw [hX3, hX7, hX8, hX12]
  have HX3 := Lib.hid hX3; have HX7 := Lib.hid hX7; have HX8 := Lib.hid hX8; have HX12 := Lib.hid hX12
  have q1 : ¬ 9223372036854775807 < P1.size + 1 := by omega
  have q2 : ¬ 9223372036854775807 < X3.size + P2.size := by omega
  have q3 : ¬ 9223372036854775807 < X7.size + 1 := by omega
  have q4 : ¬ 9223372036854775807 < X8.size + P3.size := by omega
  clear hb0 hr0 hX3 hX7 hX8 hX12 hv HQ v1 v2 v3 v4 v5 n1 n2 n3
  go_enter Tryz.func121, Tryz.ntmps121
  go_wp2_with fail
  generalize w.alloc (.cells #[.int .i64 y, .int .i64 m, .int .i64 d] 133) = W at *
  refine (valid_any y m d W).mono ?_
  rw [HV.out]
  rintro e w1 ⟨rfl, hb1⟩
  have hWp : Below w.heap.size w w1 := HB0.out.trans (hb1.mono HB0.out.size)
  have hr1 := (hb1.block w.heap.size (Array.getElem?_eq_some_iff.1 HR0.out).1).trans HR0.out
  obtain ⟨B, hB⟩ : ∃ B, w.heap.size = B := ⟨_, rfl⟩
  rw [hB] at hr1
  have z0 := block_cell hr1 0; have z1 := block_cell hr1 1; have z2 := block_cell hr1 2
  rw [hB]
  clear hr1 hb1 hB
  go_upto_region 3 with (fail)
  refine wp_region_facts 13 [7, 8, 9, 10, 11, 12, 13, 14, 15, 16, 17, 18, 19] (fun i v _ => ([(.pointer (some ⟨B, 0, none⟩) : Value), (.int .i64 y : Value), (.string P1 : Value), (.string X3 : Value), (.pointer (some ⟨B, 1, none⟩) : Value), (.int .i64 m : Value), (.string P2 : Value), (.string X7 : Value), (.string X8 : Value), (.pointer (some ⟨B, 2, none⟩) : Value), (.int .i64 d : Value), (.string P3 : Value), (.string X12 : Value)] : List Value)[i]? = some v) (by kernel_rfl) (by kernel_rfl) (by kernel_rfl) (by kernel_rfl) (by kernel_rfl) (fun _ _ _ _ h _ => h) ?_ ?_
  · intro q o' hq ho a' w' hb' hout hpre K hK
    have hq' : q = 0 ∨ q = 1 ∨ q = 2 ∨ q = 3 ∨ q = 4 ∨ q = 5 ∨ q = 6 ∨ q = 7 ∨ q = 8 ∨ q = 9 ∨ q = 10 ∨ q = 11 ∨ q = 12 := by omega
    rcases hq' with rfl | rfl | rfl | rfl | rfl | rfl | rfl | rfl | rfl | rfl | rfl | rfl | rfl
    · obtain rfl := Option.some.inj ho
      have e1 : a'.tmps[1]? = some (.pointer (some ⟨B, 0, none⟩)) := hout 1 (by decide)
      go_simp
      exact hK (.pointer (some ⟨B, 0, none⟩)) w' rfl (Below.refl _ _)
    · obtain rfl := Option.some.inj ho
      have p0 : a'.tmps.getD 7 undef = .pointer (some ⟨B, 0, none⟩) := (Option.some.inj (hpre ⟨0, .data⟩ (by simp) 7 rfl)).symm
      simp only [Array.getD_eq_getD_getElem?] at p0
      have c0 := cell_kept z0 hb'
      go_simp
      exact hK (.int .i64 y) w' rfl (Below.refl _ _)
    · obtain rfl := Option.some.inj ho
      have p1 : a'.tmps.getD 8 undef = .int .i64 y := (Option.some.inj (hpre ⟨1, .data⟩ (by simp) 8 rfl)).symm
      simp only [Array.getD_eq_getD_getElem?] at p1
      go_simp
      go_at_call 118
      refine (HP1.out w' (hWp.trans (hb'.mono hWp.size))).mono ?_
      rintro e w'' ⟨rfl, hb''⟩
      exact hK _ _ rfl hb''
    · obtain rfl := Option.some.inj ho
      have p2 : a'.tmps.getD 9 undef = .string P1 := (Option.some.inj (hpre ⟨2, .data⟩ (by simp) 9 rfl)).symm
      simp only [Array.getD_eq_getD_getElem?] at p2
      go_simp
      exact hK _ _ (congrArg (fun x => some (Value.string x)) HX3.out.symm) (Below.refl _ _)
    · obtain rfl := Option.some.inj ho
      have e1 : a'.tmps[1]? = some (.pointer (some ⟨B, 0, none⟩)) := hout 1 (by decide)
      go_simp
      exact hK (.pointer (some ⟨B, 1, none⟩)) w' rfl (Below.refl _ _)
    · obtain rfl := Option.some.inj ho
      have p4 : a'.tmps.getD 11 undef = .pointer (some ⟨B, 1, none⟩) := (Option.some.inj (hpre ⟨4, .data⟩ (by simp) 11 rfl)).symm
      simp only [Array.getD_eq_getD_getElem?] at p4
      have c1 := cell_kept z1 hb'
      go_simp
      exact hK (.int .i64 m) w' rfl (Below.refl _ _)
    · obtain rfl := Option.some.inj ho
      have p5 : a'.tmps.getD 12 undef = .int .i64 m := (Option.some.inj (hpre ⟨5, .data⟩ (by simp) 12 rfl)).symm
      simp only [Array.getD_eq_getD_getElem?] at p5
      go_simp
      go_at_call 118
      refine (HP2.out w' (hWp.trans (hb'.mono hWp.size))).mono ?_
      rintro e w'' ⟨rfl, hb''⟩
      exact hK _ _ rfl hb''
    · obtain rfl := Option.some.inj ho
      have p3 : a'.tmps.getD 10 undef = .string X3 := (Option.some.inj (hpre ⟨3, .data⟩ (by simp) 10 rfl)).symm
      simp only [Array.getD_eq_getD_getElem?] at p3
      have p6 : a'.tmps.getD 13 undef = .string P2 := (Option.some.inj (hpre ⟨6, .data⟩ (by simp) 13 rfl)).symm
      simp only [Array.getD_eq_getD_getElem?] at p6
      go_simp
      exact hK _ _ (congrArg (fun x => some (Value.string x)) HX7.out.symm) (Below.refl _ _)
    · obtain rfl := Option.some.inj ho
      have p7 : a'.tmps.getD 14 undef = .string X7 := (Option.some.inj (hpre ⟨7, .data⟩ (by simp) 14 rfl)).symm
      simp only [Array.getD_eq_getD_getElem?] at p7
      go_simp
      exact hK _ _ (congrArg (fun x => some (Value.string x)) HX8.out.symm) (Below.refl _ _)
    · obtain rfl := Option.some.inj ho
      have e1 : a'.tmps[1]? = some (.pointer (some ⟨B, 0, none⟩)) := hout 1 (by decide)
      go_simp
      exact hK (.pointer (some ⟨B, 2, none⟩)) w' rfl (Below.refl _ _)
    · obtain rfl := Option.some.inj ho
      have p9 : a'.tmps.getD 16 undef = .pointer (some ⟨B, 2, none⟩) := (Option.some.inj (hpre ⟨9, .data⟩ (by simp) 16 rfl)).symm
      simp only [Array.getD_eq_getD_getElem?] at p9
      have c2 := cell_kept z2 hb'
      go_simp
      exact hK (.int .i64 d) w' rfl (Below.refl _ _)
    · obtain rfl := Option.some.inj ho
      have p10 : a'.tmps.getD 17 undef = .int .i64 d := (Option.some.inj (hpre ⟨10, .data⟩ (by simp) 17 rfl)).symm
      simp only [Array.getD_eq_getD_getElem?] at p10
      go_simp
      go_at_call 118
      refine (HP3.out w' (hWp.trans (hb'.mono hWp.size))).mono ?_
      rintro e w'' ⟨rfl, hb''⟩
      exact hK _ _ rfl hb''
    · obtain rfl := Option.some.inj ho
      have p8 : a'.tmps.getD 15 undef = .string X8 := (Option.some.inj (hpre ⟨8, .data⟩ (by simp) 15 rfl)).symm
      simp only [Array.getD_eq_getD_getElem?] at p8
      have p11 : a'.tmps.getD 18 undef = .string P3 := (Option.some.inj (hpre ⟨11, .data⟩ (by simp) 18 rfl)).symm
      simp only [Array.getD_eq_getD_getElem?] at p11
      go_simp
      exact hK _ _ (congrArg (fun x => some (Value.string x)) HX12.out.symm) (Below.refl _ _)
  · intro us w' hb' hfacts
    have h12 : us 12 = .string X12 := (Option.some.inj (hfacts 12 (by decide))).symm
    have hfin : Below w.heap.size w w' := hWp.trans (hb'.mono hWp.size)
    simp only [putL, Act.put, List.setIfInBounds_toArray, List.set_cons_zero, List.set_cons_succ]
    generalize us 12 = x12 at *
    subst h12
    simp only [List.drop_succ_cons, List.drop_zero]
    clear hb' hfacts
    go_wp2_with fail
    go_ret2
    exact ⟨rfl, hfin⟩
set_option maxRecDepth 100000 in
set_option maxHeartbeats 1600000 in
theorem formatClock_any (c : Int) (w : World) (h0 : 0 ≤ c) (h1 : c < 1440) (hp : Pow10 w) : Calls Tryz.prog 122 #[.int .i64 c] w (TxtB (fmtClock c) w) := by
  have HPW : Hid (∀ V, Below w.heap.size w V → Pow10 V) := fun V hV => hp.next hV
  have n2 := numS_size (n := c / 60) (by omega) (by omega)
  have n3 := numS_size (n := c % 60) (by omega) (by omega)
  have HP2 : Hid (∀ V, Below w.heap.size w V → Calls Tryz.prog 118 #[.int .i64 (c / 60), .int .i64 2] V (StrB (padB (c / 60) 2) V)) := fun V hV => padded_any (c / 60) 2 V (by omega) (by omega) (by omega) (by omega) (HPW.out V hV)
  have HP3 : Hid (∀ V, Below w.heap.size w V → Calls Tryz.prog 118 #[.int .i64 (c % 60), .int .i64 2] V (StrB (padB (c % 60) 2) V)) := fun V hV => padded_any (c % 60) 2 V (by omega) (by omega) (by omega) (by omega) (HPW.out V hV)
  have s2 := padB_size (n := c / 60) (d := 2) (by omega) (by omega)
  have s3 := padB_size (n := c % 60) (d := 2) (by omega) (by omega)
  have HQ : Hid (fmtClock c = padB (c / 60) 2 ++ colS ++ padB (c % 60) 2) := rfl
  rw [HQ.out]
  generalize padB (c / 60) 2 = P2 at *
  generalize padB (c % 60) 2 = P3 at *
  have u1 : c.tdiv 60 = c / 60 := Int.tdiv_eq_ediv_of_nonneg h0
  have u2 : c.tmod 60 = c % 60 := Int.tmod_eq_emod_of_nonneg h0
  have u3 : IntKind.i64.wrap (c / 60) = c / 60 := IntWalk.i64_in _ (by omega)
  have u4 : IntKind.i64.wrap (c % 60) = c % 60 := IntWalk.i64_in _ (by omega)
  have u5 : ¬ c < 0 := by omega
  have u6 : ¬ (1440 : Int) ≤ c := by omega
  have u7 : ¬ (1439 : Int) < c := by omega
  have q1 : ¬ 9223372036854775807 < P2.size + 1 := by omega
  have q2 : ¬ 9223372036854775807 < P2.size + 1 + P3.size := by omega
  have q3 : ¬ 9223372036854775807 < (P2 ++ (⟨#[58]⟩ : ByteArray)).size + P3.size := by rw [ByteArray.size_append, show (⟨#[58]⟩ : ByteArray).size = 1 from rfl]; omega
  go_enter Tryz.func122, Tryz.ntmps122
  go_wp2_with fail
  refine (HP2.out w (Below.refl _ _)).mono ?_
  rintro e w1 ⟨rfl, hb1⟩
  go_wp2_with fail
  refine (HP3.out w1 hb1).mono ?_
  rintro e w2 ⟨rfl, hb2⟩
  have hfin : Below w.heap.size w w2 := hb1.trans (hb2.mono hb1.size)
  go_wp2_with fail
  go_ret2
  exact ⟨rfl, hfin⟩

/-- The text of an instant is handed back. -/
def InsPost (t : Int) (w : World) (e : Ending) (w' : World) : Prop := ∃ s, e = .returned (.tuple #[.string s, .int .i64 0]) ∧ IsIns t s ∧ Below w.heap.size w w'
theorem fmtDate_size {y m d : Int} (hv : validB y m d = true) : (fmtDate y m d).size ≤ 100 := by
  obtain ⟨v1, v2, v3, v4⟩ := validB_iff.1 hv
  have v5 := mDays_bd y m
  have s1 := padB_size (n := y) (d := 4) (by omega) (by omega)
  have s2 := padB_size (n := m) (d := 2) (by omega) (by omega)
  have s3 := padB_size (n := d) (d := 2) (by omega) (by omega)
  unfold fmtDate
  simp only [ByteArray.size_append]
  have : dashS.size = 1 := rfl
  omega
theorem fmtClock_size {c : Int} (h0 : 0 ≤ c) (h1 : c < 1440) : (fmtClock c).size ≤ 100 := by
  have s2 := padB_size (n := c / 60) (d := 2) (by omega) (by omega)
  have s3 := padB_size (n := c % 60) (d := 2) (by omega) (by omega)
  unfold fmtClock
  simp only [ByteArray.size_append]
  have : colS.size = 1 := rfl
  omega
set_option maxRecDepth 100000 in
set_option maxHeartbeats 1600000 in
theorem formatInstant_any (t : Int) (w : World) (h0 : 0 ≤ t) (h1 : t < 52596000) (hp : Pow10 w) : Calls Tryz.prog 76 #[.int .i64 t] w (InsPost t w) := by
  have HPW : Hid (∀ V, Below w.heap.size w V → Pow10 V) := fun V hV => hp.next hV
  have u5 : ¬ t < 0 := by omega
  have u6 : ¬ (52596000 : Int) ≤ t := by omega
  have HSP := Lib.hid (splitMinute_any t w h0 h1)
  have HDO := Lib.hid (dateOf_any (t / 1440) w (by omega) (by omega))
  have HCL : Hid (∀ V, Below w.heap.size w V → Calls Tryz.prog 122 #[.int .i64 (t % 1440)] V (TxtB (fmtClock (t % 1440)) V)) := fun V hV => formatClock_any (t % 1440) V (by omega) (by omega) (HPW.out V hV)
  have hcs := fmtClock_size (c := t % 1440) (by omega) (by omega)
  have HIS : Hid (∀ y m d, validB y m d = true → dayB y m d = t / 1440 → IsIns t (fmtDate y m d ++ blankS ++ fmtClock (t % 1440))) := fun y m d a b => ⟨y, m, d, a, b, rfl⟩
  generalize fmtClock (t % 1440) = C at *
  go_enter Tryz.func76, Tryz.ntmps76
  go_wp2_with fail
  refine HSP.out.mono ?_
  rintro e w' ⟨rfl, rfl⟩
  go_wp2_with fail
  refine HDO.out.mono ?_
  rintro e w1 ⟨y, m, d, rfl, hv, hd, hb1⟩
  have HI := Lib.hid (HIS.out y m d hv hd)
  have hds := fmtDate_size hv
  have hb2 : Below w.heap.size w (w1.alloc (.cells #[.int .i64 y, .int .i64 m, .int .i64 d] 133)) := hb1.alloc hb1.size _
  have hr2 := heap_alloc_new w1 (.cells #[.int .i64 y, .int .i64 m, .int .i64 d] 133)
  have HFD := Lib.hid (formatDate_any y m d (w1.alloc (.cells #[.int .i64 y, .int .i64 m, .int .i64 d] 133)) hv (HPW.out _ hb2))
  have HB2 := Lib.hid hb2
  generalize fmtDate y m d = D at *
  have q1 : ¬ 9223372036854775807 < D.size + 1 := by omega
  have q2 : ¬ 9223372036854775807 < D.size + 1 + C.size := by omega
  have q3 : ¬ 9223372036854775807 < (D ++ (⟨#[32]⟩ : ByteArray)).size + C.size := by rw [ByteArray.size_append, show (⟨#[32]⟩ : ByteArray).size = 1 from rfl]; omega
  have z0 := block_cell hr2 0; have z1 := block_cell hr2 1; have z2 := block_cell hr2 2
  clear hb1 hv hd hb2 hr2 HIS HSP HDO
  go_wp2_with fail
  refine HFD.out.mono ?_
  rintro e w2 ⟨rfl, hb3⟩
  have hb4 : Below w.heap.size w w2 := HB2.out.trans (hb3.mono HB2.out.size)
  clear HFD hb3 z0 z1 z2
  go_wp2_with fail
  refine (HCL.out w2 hb4).mono ?_
  rintro e w3 ⟨rfl, hb5⟩
  have HB6 : Hid (Below w.heap.size w w3) := hb4.trans (hb5.mono hb4.size)
  clear hb4 hb5
  go_wp2_with fail
  go_ret2
  exact ⟨_, rfl, HI.out, HB6.out⟩
end Go.Proofs.YtldeoaddogifpaaGreatDoor
/-
  Plain rendered texts: lines of fields joined by blanks; the fields and the lines are read back.
  No condition.
-/
namespace Go.Proofs.YtldeoaddogifpaaGreatDoor
set_option linter.unusedSimpArgs false
set_option linter.unusedVariables false
open Go

/-- A field of a rendered line: not empty, bytes from 33 to 126, no '#'. -/
def fldOk (x : ByteArray) : Prop := x.data.toList ≠ [] ∧ ∀ b ∈ x.data.toList, 33 ≤ b.toNat ∧ b.toNat ≤ 126 ∧ b ≠ 35
def restT : List ByteArray → List UInt8
  | [] => []
  | f :: r => 32 :: (f.data.toList ++ restT r)
def lineT : List ByteArray → List UInt8
  | [] => []
  | f :: r => f.data.toList ++ restT r
def textT : List (List ByteArray) → List UInt8
  | [] => []
  | f :: r => lineT f ++ 10 :: textT r
theorem textT_app (a b : List (List ByteArray)) : textT (a ++ b) = textT a ++ textT b := by
  induction a with
  | nil => rfl
  | cons f r ih => simp [textT, ih]
theorem fldOk.no {x : ByteArray} (h : fldOk x) {c : UInt8} (hc : c.toNat ≤ 32 ∨ c = 35) : c ∉ x.data.toList := fun hm => by
  have := h.2 c hm
  rcases hc with h1 | h1
  · omega
  · exact this.2.2 h1
theorem splitT_app (c : UInt8) (x y : List UInt8) (h : c ∉ x) : splitL c (x ++ y) = (x ++ (splitL c y).headD []) :: (splitL c y).tail := by
  induction x with
  | nil => exact splitL_eq c y
  | cons a x ih =>
    have h1 : a ≠ c := fun e => h (by simp [e])
    have h2 : c ∉ x := fun e => h (by simp [e])
    rw [List.cons_append, splitL, if_neg h1, ih h2]
    rfl
theorem splitT_cut (c : UInt8) (x y : List UInt8) (h : c ∉ x) : splitL c (x ++ c :: y) = x :: splitL c y := by
  rw [splitT_app c x _ h, splitL, if_pos rfl]
  simp
theorem split_restT {fs : List ByteArray} (h : ∀ x ∈ fs, fldOk x) : splitL 32 (restT fs) = [] :: fs.map (·.data.toList) := by
  induction fs with
  | nil => rfl
  | cons f r ih =>
    rw [restT, splitL, if_pos rfl, splitT_app 32 _ _ ((h f (.head _)).no (.inl (by decide))), ih (fun y hy => h y (.tail _ hy))]
    simp
theorem restT_mem {fs : List ByteArray} (h : ∀ x ∈ fs, fldOk x) : ∀ b ∈ restT fs, 32 ≤ b.toNat ∧ b.toNat ≤ 126 ∧ b ≠ 35 := by
  induction fs with
  | nil => intro b hb; simp [restT] at hb
  | cons f r ih =>
    intro b hb
    simp only [restT, List.mem_cons, List.mem_append] at hb
    rcases hb with rfl | hb | hb
    · decide
    · obtain ⟨h1, h2, h3⟩ := (h f (.head _)).2 b hb
      exact ⟨by omega, h2, h3⟩
    · exact ih (fun y hy => h y (.tail _ hy)) b hb
theorem lineT_mem {fs : List ByteArray} (h : ∀ x ∈ fs, fldOk x) : ∀ b ∈ lineT fs, 32 ≤ b.toNat ∧ b.toNat ≤ 126 ∧ b ≠ 35 := by
  cases fs with
  | nil => intro b hb; simp [lineT] at hb
  | cons f r =>
    intro b hb
    simp only [lineT, List.mem_append] at hb
    rcases hb with hb | hb
    · obtain ⟨h1, h2, h3⟩ := (h f (.head _)).2 b hb
      exact ⟨by omega, h2, h3⟩
    · exact restT_mem (fun y hy => h y (.tail _ hy)) b hb
theorem takeT_all {l : List UInt8} (h : ∀ b ∈ l, b ≠ 35) : l.takeWhile (fun b => b != 35) = l := by
  induction l with
  | nil => rfl
  | cons a l ih =>
    rw [List.takeWhile_cons, if_pos (by simp [h a (.head _)]), ih (fun b hb => h b (.tail _ hb))]
theorem fields_lineT {fs : List ByteArray} (h : ∀ x ∈ fs, fldOk x) : fieldsB (bs (lineT fs)) = fs := by
  have hl := lineT_mem h
  unfold fieldsB fieldsL
  rw [bs_data, takeT_all fun b hb => (hl b hb).2.2]
  have hs : (splitL 32 (lineT fs)).filter (fun f => !f.isEmpty) = fs.map (·.data.toList) := by
    cases fs with
    | nil => rfl
    | cons f r =>
      rw [lineT, splitT_app 32 _ _ ((h f (.head _)).no (.inl (by decide))), split_restT (fun y hy => h y (.tail _ hy))]
      simp only [List.headD_cons, List.tail_cons, List.append_nil]
      refine List.filter_eq_self.2 fun x hx => ?_
      have hx' : x ∈ (f :: r).map (·.data.toList) := hx
      obtain ⟨g, hg, rfl⟩ := List.mem_map.1 hx'
      have := (h g hg).1
      cases e : g.data.toList with
      | nil => exact absurd e this
      | cons _ _ => rfl
  rw [hs, map_bs]
theorem split_textT {ls : List (List ByteArray)} (h : ∀ f ∈ ls, ∀ x ∈ f, fldOk x) : splitL 10 (textT ls) = ls.map lineT ++ [[]] := by
  induction ls with
  | nil => rfl
  | cons f r ih =>
    rw [textT, splitT_cut 10 _ _ (fun hm => by have := (lineT_mem (h f (.head _))) 10 hm; exact absurd this.1 (by decide)), ih (fun g hg => h g (.tail _ hg))]
    rfl
theorem lines_textT {ls : List (List ByteArray)} (h : ∀ f ∈ ls, ∀ x ∈ f, fldOk x) : linesL (textT ls) = ls.map lineT := by
  rw [linesL_of (split_textT h), if_pos rfl]
theorem textT_mem {ls : List (List ByteArray)} (h : ∀ f ∈ ls, ∀ x ∈ f, fldOk x) : ∀ b ∈ textT ls, b = 10 ∨ (32 ≤ b.toNat ∧ b.toNat ≤ 126) := by
  induction ls with
  | nil => intro b hb; simp [textT] at hb
  | cons f r ih =>
    intro b hb
    simp only [textT, List.mem_append, List.mem_cons] at hb
    rcases hb with hb | rfl | hb
    · obtain ⟨h1, h2, _⟩ := lineT_mem (h f (.head _)) b hb
      exact .inr ⟨h1, h2⟩
    · exact .inl rfl
    · exact ih (fun g hg => h g (.tail _ hg)) b hb
theorem linesB_textT {ls : List (List ByteArray)} (h : ∀ f ∈ ls, ∀ x ∈ f, fldOk x) (hz : (textT ls).length ≤ 20000) (hl : ls.length ≤ 1000) : linesB (bs (textT ls)) = (ls.map (fun f => bs (lineT f)), 0) := by
  unfold linesB
  have hs : (bs (textT ls)).size = (textT ls).length := bs_size _
  rw [if_neg (by omega)]
  have ha : allTo (okByte (bs (textT ls))) (bs (textT ls)).size = true := by
    rw [allTo_iff]
    intro k hk
    rw [hs] at hk
    unfold okByte byteAt
    rw [bs_data, List.getD_eq_getElem?_getD, List.getElem?_eq_getElem hk]
    simp only [Option.getD_some]
    rcases textT_mem h _ (List.getElem_mem hk) with e | ⟨e1, e2⟩
    · rw [e]; rfl
    · have a1 : (32 : Int) ≤ ((textT ls)[k].toNat : Int) := by omega
      have a2 : ((textT ls)[k].toNat : Int) ≤ 126 := by omega
      simp [a1, a2]
  rw [ha, bs_data, lines_textT h, if_neg (by simp), if_neg (by simpa using hl), List.map_map]
  rfl
end Go.Proofs.YtldeoaddogifpaaGreatDoor
/-
  Plain: sizes of lines and fields; the first place at which something holds.
  No condition.
-/
namespace Go.Proofs.YtldeoaddogifpaaGreatDoor
set_option linter.unusedSimpArgs false
set_option linter.unusedVariables false
open Go.RowKit

theorem splitL_mem {c : UInt8} : ∀ {l x : List UInt8}, x ∈ splitL c l → x.length ≤ l.length := by
  intro l
  induction l with
  | nil => intro x hx; simp [splitL] at hx; subst hx; simp
  | cons b l ih =>
    intro x hx
    have he := splitL_eq c l
    unfold splitL at hx
    split at hx
    · rcases List.mem_cons.1 hx with rfl | h
      · simp
      · have := ih h; simp; omega
    · rcases List.mem_cons.1 hx with rfl | h
      · have : (splitL c l).headD [] ∈ splitL c l := by rw [he]; simp
        have := ih this
        rw [List.length_cons, List.length_cons]; omega
      · have : x ∈ splitL c l := by rw [he]; exact List.mem_cons_of_mem _ h
        have := ih this
        simp; omega
theorem takeWhile_len (p : UInt8 → Bool) (l : List UInt8) : (l.takeWhile p).length ≤ l.length := (List.takeWhile_prefix p).length_le
theorem fieldsB_mem {s f : ByteArray} (h : f ∈ fieldsB s) : f.size ≤ s.size := by
  unfold fieldsB fieldsL at h
  obtain ⟨x, hx, rfl⟩ := List.mem_map.1 h
  have h1 := splitL_mem (List.mem_filter.1 hx).1
  have h2 := takeWhile_len (fun b => b != 35) s.data.toList
  rw [bs_size, Lib.size_eq]
  simp only [Array.length_toList] at *
  omega
theorem linesB_mem {s f : ByteArray} (h : f ∈ (linesB s).1) : f.size ≤ s.size ∧ s.size ≤ 20000 := by
  unfold linesB at h
  split at h
  · simp at h
  · rename_i h0
    split at h
    · simp at h
    · split at h
      · simp at h
      · obtain ⟨x, hx, rfl⟩ := List.mem_map.1 h
        refine ⟨?_, by omega⟩
        obtain ⟨ps, cur, e⟩ := splitL_last 10 s.data.toList
        rw [linesL_of e] at hx
        have hm : x ∈ splitL 10 s.data.toList := by
          rw [e]
          split at hx
          · exact List.mem_append_left _ hx
          · exact hx
        have := splitL_mem hm
        rw [bs_size, Lib.size_eq]
        simpa using this
theorem linesB_len (s : ByteArray) : (linesB s).1.length ≤ 1000 := by
  unfold linesB
  split
  · simp
  · split
    · simp
    · split
      · simp
      · rename_i h; simp only [List.length_map]; omega
def spS : ByteArray := ⟨#[32]⟩
theorem find_first {p : Nat → Bool} {n k : Nat} (hk : k < n) (hp : p k = true) (hn : ∀ j, j < k → p j = false) : (List.range n).find? p = some k := by
  rw [List.find?_range_eq_some]
  exact ⟨hp, by simpa using hk, fun j hj => by rw [hn j hj]; rfl⟩
theorem find_no {p : Nat → Bool} {n : Nat} (hn : ∀ j, j < n → p j = false) : (List.range n).find? p = none := by
  rw [List.find?_eq_none]
  intro x hx
  rw [hn x (List.mem_range.1 hx)]
  decide
end Go.Proofs.YtldeoaddogifpaaGreatDoor
/-
  The texts of instants, numbers, names and airports as fields of rendered lines.
  No condition.
-/
namespace Go.Proofs.YtldeoaddogifpaaGreatDoor
set_option linter.unusedSimpArgs false
set_option linter.unusedVariables false
open Go.RowKit

/-- A point between sums. -/
theorem sum_find {f : Nat → Int} {x : Int} : ∀ {n : Nat}, 0 ≤ x → x < sumTo f n → ∃ k, k < n ∧ sumTo f k ≤ x ∧ x < sumTo f (k + 1) := by
  intro n
  induction n with
  | zero => intro h0 h1; simp [sumTo] at h1; omega
  | succ n ih =>
    intro h0 h1
    by_cases h : x < sumTo f n
    · obtain ⟨k, hk, a, b⟩ := ih h0 h
      exact ⟨k, by omega, a, b⟩
    · exact ⟨n, by omega, by omega, h1⟩
theorem yearSum_all : yearSum 102 = 37255 := by decide +kernel
theorem day_ex {day : Int} (h0 : 0 ≤ day) (h1 : day ≤ 36889) : ∃ y m d, validB y m d = true ∧ dayB y m d = day := by
  obtain ⟨k, hk, a, b⟩ := sum_find (f := fun i => yDays (1999 + i)) (x := day + 365) (n := 102) (by omega) (by have := yearSum_all; unfold yearSum at this; omega)
  have b' : day + 365 < sumTo (fun i => yDays (1999 + i)) k + yDays (1999 + k) := b
  have e := monSum_year (1999 + k)
  obtain ⟨j, hj, c, d⟩ := sum_find (f := fun i => mDays (1999 + k) (1 + i)) (x := day + 365 - sumTo (fun i => yDays (1999 + i)) k) (n := 12) (by omega) (by unfold monSum at e; omega)
  have d' : day + 365 - sumTo (fun i => yDays (1999 + i)) k < sumTo (fun i => mDays (1999 + k) (1 + i)) j + mDays (1999 + k) (1 + j) := d
  refine ⟨1999 + k, 1 + j, day + 365 - sumTo (fun i => yDays (1999 + i)) k - sumTo (fun i => mDays (1999 + k) (1 + i)) j + 1, validB_iff.2 ⟨by omega, by omega, by omega, by omega⟩, ?_⟩
  unfold dayB yearSum monSum
  have e1 : (1999 + (k : Int) - 1999).toNat = k := by omega
  have e2 : (1 + (j : Int) - 1).toNat = j := by omega
  rw [e1, e2]
  omega
/-- The date and the clock time of an instant. -/
noncomputable def insD (t : Int) : ByteArray := open Classical in if h : ∃ x : Int × Int × Int, validB x.1 x.2.1 x.2.2 = true ∧ dayB x.1 x.2.1 x.2.2 = t / 1440 then fmtDate h.choose.1 h.choose.2.1 h.choose.2.2 else (⟨#[]⟩ : ByteArray)
noncomputable def insC (t : Int) : ByteArray := fmtClock (t % 1440)
theorem ins_is {t : Int} (h0 : 0 ≤ t) (h1 : t < 52596000) : IsIns t (insD t ++ blankS ++ insC t) := by
  obtain ⟨y, m, d, a, b⟩ := day_ex (day := t / 1440) (by omega) (by omega)
  have h : ∃ x : Int × Int × Int, validB x.1 x.2.1 x.2.2 = true ∧ dayB x.1 x.2.1 x.2.2 = t / 1440 := ⟨(y, m, d), a, b⟩
  refine ⟨h.choose.1, h.choose.2.1, h.choose.2.2, h.choose_spec.1, h.choose_spec.2, ?_⟩
  unfold insD insC
  rw [dif_pos h]
theorem IsIns.eqT {t : Int} {s : ByteArray} (h : IsIns t s) (h0 : 0 ≤ t) (h1 : t < 52596000) : s = insD t ++ blankS ++ insC t := h.eq (ins_is h0 h1)
theorem dgt_fld {n : Nat} (h : n < 10) : 33 ≤ (dgt n).toNat ∧ (dgt n).toNat ≤ 126 ∧ dgt n ≠ 35 := by
  have := dgt_nat h
  refine ⟨by omega, by omega, fun e => ?_⟩
  rw [e] at this
  have h35 : (35 : UInt8).toNat = 35 := rfl
  omega
theorem fld_of {l : List UInt8} (hne : l ≠ []) (h : ∀ b ∈ l, 33 ≤ b.toNat ∧ b.toNat ≤ 126 ∧ b ≠ 35) : fldOk (bs l) := ⟨hne, h⟩
theorem insD_fld {t : Int} (h0 : 0 ≤ t) (h1 : t < 52596000) : fldOk (insD t) ∧ (insD t).size = 10 := by
  obtain ⟨y, m, d, a, b, e⟩ := ins_is h0 h1
  have e' : insD t = fmtDate y m d := by
    have h : ∃ x : Int × Int × Int, validB x.1 x.2.1 x.2.2 = true ∧ dayB x.1 x.2.1 x.2.2 = t / 1440 := ⟨(y, m, d), a, b⟩
    unfold insD
    rw [dif_pos h]
    obtain ⟨q1, q2, q3⟩ := dayB_inj h.choose_spec.1 a (h.choose_spec.2.trans b.symm)
    rw [q1, q2, q3]
  obtain ⟨v1, v2, v3, v4⟩ := validB_iff.1 a
  have v5 := mDays_bd y m
  have p1 := pad4 (n := y.toNat) (by omega) (by omega)
  have p2 := pad2 (n := m.toNat) (by omega)
  have p3 := pad2 (n := d.toNat) (by omega)
  rw [show ((y.toNat : Nat) : Int) = y by omega] at p1
  rw [show ((m.toNat : Nat) : Int) = m by omega] at p2
  rw [show ((d.toNat : Nat) : Int) = d by omega] at p3
  have e2 : insD t = bs ([dgt (y.toNat / 1000), dgt (y.toNat / 100 % 10), dgt (y.toNat / 10 % 10), dgt (y.toNat % 10), 45, dgt (m.toNat / 10), dgt (m.toNat % 10), 45, dgt (d.toNat / 10), dgt (d.toNat % 10)]) := by
    rw [e']
    unfold fmtDate
    rw [p1, p2, p3]
    show bs _ ++ bs [45] ++ bs _ ++ bs [45] ++ bs _ = _
    simp only [bs_app]
    rfl
  rw [e2]
  refine ⟨fld_of (by simp) fun c hc => ?_, by rw [bs_size]; rfl⟩
  simp only [List.mem_cons, List.not_mem_nil, or_false] at hc
  rcases hc with rfl | rfl | rfl | rfl | rfl | rfl | rfl | rfl | rfl | rfl
  all_goals first | exact dgt_fld (by omega) | decide
theorem insC_fld {t : Int} : fldOk (insC t) ∧ (insC t).size = 5 := by
  unfold insC fmtClock
  have p2 := pad2 (n := (t % 1440 / 60).toNat) (by omega)
  have p3 := pad2 (n := (t % 1440 % 60).toNat) (by omega)
  rw [show (((t % 1440 / 60).toNat : Nat) : Int) = t % 1440 / 60 by omega] at p2
  rw [show (((t % 1440 % 60).toNat : Nat) : Int) = t % 1440 % 60 by omega] at p3
  rw [p2, p3]
  have e : bs [dgt ((t % 1440 / 60).toNat / 10), dgt ((t % 1440 / 60).toNat % 10)] ++ colS ++ bs [dgt ((t % 1440 % 60).toNat / 10), dgt ((t % 1440 % 60).toNat % 10)] = bs [dgt ((t % 1440 / 60).toNat / 10), dgt ((t % 1440 / 60).toNat % 10), 58, dgt ((t % 1440 % 60).toNat / 10), dgt ((t % 1440 % 60).toNat % 10)] := by
    show bs _ ++ bs [58] ++ bs _ = _
    simp only [bs_app]
    rfl
  rw [e]
  refine ⟨fld_of (by simp) fun c hc => ?_, by rw [bs_size]; rfl⟩
  simp only [List.mem_cons, List.not_mem_nil, or_false] at hc
  rcases hc with rfl | rfl | rfl | rfl | rfl
  all_goals first | exact dgt_fld (by omega) | decide
theorem ins_read {t : Int} (h0 : 0 ≤ t) (h1 : t < 52596000) : insB (insD t ++ spS ++ insC t) = (t, 0) := (ins_is h0 h1).back h0 h1
theorem numS_fld {n : Int} (h0 : 0 ≤ n) : fldOk (numS n) := by
  unfold numS
  rw [Lib.itoa, if_neg (by omega)]
  obtain ⟨h1, _, _⟩ := dec_facts n.toNat
  refine fld_of (fun e => by have := dec_pos n.toNat; rw [e] at this; simp at this) fun b hb => ?_
  obtain ⟨i, hi, rfl⟩ := List.getElem_of_mem hb
  have := h1 i hi
  unfold digAt numberI byteAt at this
  rw [bs_data, List.getD_eq_getElem?_getD, List.getElem?_eq_getElem hi] at this
  simp only [Option.getD_some, Bool.and_eq_true, decide_eq_true_eq] at this
  refine ⟨by omega, by omega, fun e => ?_⟩
  rw [e] at this
  have h35 : (35 : UInt8).toNat = 35 := rfl
  omega
theorem bytes_fld {s : ByteArray} (h1 : 1 ≤ s.size) (h : ∀ i, i < s.size → 36 ≤ byteAt s i ∧ byteAt s i ≤ 126) : fldOk s := by
  refine ⟨fun e => by rw [Lib.size_eq, e] at h1; simp at h1, fun b hb => ?_⟩
  obtain ⟨i, hi, rfl⟩ := List.getElem_of_mem hb
  have := h i (by rw [Lib.size_eq]; exact hi)
  unfold byteAt at this
  rw [List.getD_eq_getElem?_getD, List.getElem?_eq_getElem hi] at this
  simp only [Option.getD_some] at this
  refine ⟨by omega, by omega, fun e => ?_⟩
  rw [e] at this
  have h35 : (35 : UInt8).toNat = 35 := rfl
  omega
theorem name_fld {s : ByteArray} (h : isNameB s = true) : fldOk s := by
  unfold isNameB at h
  simp only [Bool.and_eq_true, decide_eq_true_eq] at h
  obtain ⟨⟨h1, h2⟩, h3⟩ := h
  refine bytes_fld h1 fun i hi => ?_
  have := allTo_iff.1 h3 i hi
  unfold nmAt lowerI numberI at this
  simp only [Bool.or_eq_true, Bool.and_eq_true, decide_eq_true_eq, beq_iff_eq] at this
  omega
theorem airport_fld {s : ByteArray} (h : isAirportB s = true) : fldOk s := by
  unfold isAirportB at h
  simp only [Bool.and_eq_true, beq_iff_eq] at h
  refine bytes_fld (by omega) fun i hi => ?_
  have := allTo_iff.1 h.2 i hi
  unfold upAt upperI at this
  simp only [Bool.and_eq_true, decide_eq_true_eq] at this
  omega
end Go.Proofs.YtldeoaddogifpaaGreatDoor
/-
  The calendar's durations in plain words: durB (reading), durF (writing), that reading inverts writing, and the program's way of reading.
  No condition.
-/
namespace Go.Proofs.YtldeoaddogifpaaGreatDoor
set_option linter.unusedSimpArgs false
set_option linter.unusedVariables false
open Go.RowKit

def emS : ByteArray := ⟨#[]⟩
/-- The hours and the minutes of a duration without its sign. -/
def durH (t : ByteArray) : ByteArray := t.extract 0 (t.size - 3)
def durM (t : ByteArray) : ByteArray := t.extract (t.size - 2) t.size
def durD (t : ByteArray) (neg : Prop) [Decidable neg] : Int × Int :=
  if t.size < 4 then (0, 1) else
    if ¬ byteAt t (t.size - 3) = 58 then (0, 1) else
      if (digitsB (durH t) 1 11).2 = false ∨ (digitsB (durM t) 2 2).2 = false ∨ plainB (durH t) = false ∨ (neg ∧ (digitsB (durH t) 1 11).1 = 0 ∧ (digitsB (durM t) 2 2).1 = 0) then (0, 1) else
        if 59 < (digitsB (durM t) 2 2).1 ∨ 1099511627776 < 60 * (digitsB (durH t) 1 11).1 + (digitsB (durM t) 2 2).1 then (0, 5) else
          (if neg then -(60 * (digitsB (durH t) 1 11).1 + (digitsB (durM t) 2 2).1) else 60 * (digitsB (durH t) 1 11).1 + (digitsB (durM t) 2 2).1, 0)
/-- ParseDuration: the number and the error's number. -/
def durB (s : ByteArray) : Int × Int := durD (stripB s) ((stripB s).size < s.size)
/-- FormatDuration's text. -/
def durF (n : Int) : ByteArray := (if n < 0 then dashS else emS) ++ numS ((n.natAbs / 60 : Nat)) ++ colS ++ padB ((n.natAbs % 60 : Nat)) 2

theorem index_one (c : UInt8) : ∀ l : List UInt8, (∃ a b, l = a ++ c :: b ∧ c ∉ a ∧ Lib.index l [c] = a.length) ∨ (c ∉ l ∧ Lib.index l [c] = -1)
  | [] => .inr ⟨by simp, rfl⟩
  | x :: l => by
    rw [index_one_cons]
    by_cases hx : x = c
    · subst hx
      exact .inl ⟨[], l, rfl, by simp, by simp⟩
    · rw [if_neg hx]
      rcases index_one c l with ⟨a, b, rfl, ha, hi⟩ | ⟨hn, hi⟩
      · refine .inl ⟨x :: a, b, rfl, ?_, ?_⟩
        · intro h
          rcases List.mem_cons.1 h with h | h
          · exact hx h.symm
          · exact ha h
        · rw [hi, if_neg (by simp <;> omega)]
          simp
      · refine .inr ⟨?_, ?_⟩
        · intro h
          rcases List.mem_cons.1 h with h | h
          · exact hx h.symm
          · exact hn h
        · rw [hi]; rfl
theorem cut_split (c : UInt8) (l : List UInt8) : (∃ a b, l = a ++ c :: b ∧ c ∉ a ∧ Lib.cut l [c] = (a, b, true)) ∨ (c ∉ l ∧ Lib.cut l [c] = (l, [], false)) := by
  rcases index_one c l with ⟨a, b, e, ha, hi⟩ | ⟨hn, hi⟩
  · refine .inl ⟨a, b, e, ha, ?_⟩
    unfold Lib.cut
    rw [hi, if_pos (by omega), e]
    simp
  · refine .inr ⟨hn, ?_⟩
    unfold Lib.cut
    rw [hi, if_neg (by omega)]
def pat2 : ByteArray := ⟨#[48, 48]⟩
def negZ : ByteArray := ⟨#[45, 48, 58, 48, 48]⟩
/-- The program's way. -/
def durP (s : ByteArray) : Int × Int :=
  if s = negZ then (0, 1) else
    if (Lib.cut (stripB s).data.toList [58]).2.2 = false ∨ (Lib.cut (stripB s).data.toList [58]).1.length < 1 ∨ 11 < (Lib.cut (stripB s).data.toList [58]).1.length ∨ matchB (bs (Lib.cut (stripB s).data.toList [58]).2.1) pat2 = false then (0, 1) else
      if allTo (digAt (bs (Lib.cut (stripB s).data.toList [58]).1)) (Lib.cut (stripB s).data.toList [58]).1.length = false ∨ (byteAt (bs (Lib.cut (stripB s).data.toList [58]).1) 0 = 48 ∧ 1 < (Lib.cut (stripB s).data.toList [58]).1.length) then (0, 1) else
        if 59 < numTo (bs (Lib.cut (stripB s).data.toList [58]).2.1) 2 ∨ 1099511627776 < 60 * numTo (bs (Lib.cut (stripB s).data.toList [58]).1) (Lib.cut (stripB s).data.toList [58]).1.length + numTo (bs (Lib.cut (stripB s).data.toList [58]).2.1) 2 then (0, 5) else
          (if (stripB s).size < s.size then -(60 * numTo (bs (Lib.cut (stripB s).data.toList [58]).1) (Lib.cut (stripB s).data.toList [58]).1.length + numTo (bs (Lib.cut (stripB s).data.toList [58]).2.1) 2) else 60 * numTo (bs (Lib.cut (stripB s).data.toList [58]).1) (Lib.cut (stripB s).data.toList [58]).1.length + numTo (bs (Lib.cut (stripB s).data.toList [58]).2.1) 2, 0)
theorem byteAt_bs (l : List UInt8) (i : Nat) : byteAt (bs l) i = ((l.getD i 0).toNat : Int) := rfl
theorem match2_iff (m : List UInt8) : matchB (bs m) pat2 = (decide (m.length = 2) && allTo (digAt (bs m)) m.length) := by
  unfold matchB
  rw [bs_size, show pat2.size = 2 from rfl]
  by_cases h : m.length = 2
  · rw [h]
    have e : ∀ i, i < 2 → mAt (bs m) pat2 i = digAt (bs m) i := fun i hi => by
      have : i = 0 ∨ i = 1 := by omega
      rcases this with rfl | rfl <;> rfl
    rw [allTo_ext e]
  · rw [decide_eq_false h, Bool.false_and, Bool.false_and]
theorem digits_11 (h : List UInt8) : digitsB (bs h) 1 11 = if h.length < 1 ∨ 11 < h.length ∨ allTo (digAt (bs h)) h.length = false then (0, false) else (numTo (bs h) h.length, true) := by
  unfold digitsB
  rw [bs_size]
  by_cases h1 : h.length < 1
  · rw [if_pos (Or.inl (by omega)), if_pos (Or.inl h1)]
  by_cases h2 : 11 < h.length
  · rw [if_pos (Or.inr (by omega)), if_pos (Or.inr (Or.inl h2))]
  rw [if_neg (by omega)]
  by_cases h3 : allTo (digAt (bs h)) h.length = false
  · rw [if_pos h3, if_pos (Or.inr (Or.inr h3))]
  · rw [if_neg h3, if_neg (by rintro (h | h | h) <;> contradiction)]
theorem digits_2 (m : List UInt8) : digitsB (bs m) 2 2 = if matchB (bs m) pat2 = false then (0, false) else (numTo (bs m) 2, true) := by
  unfold digitsB
  rw [match2_iff, bs_size]
  by_cases h1 : m.length = 2
  · rw [if_neg (by omega), h1]
    simp
  · rw [if_pos (by omega)]
    simp [h1]
theorem plain_bs {h : List UInt8} (h1 : 1 ≤ h.length) : plainB (bs h) = false ↔ (byteAt (bs h) 0 = 48 ∧ 1 < h.length) := by
  unfold plainB
  rw [bs_size]
  by_cases h2 : h.length = 1
  · simp [h2]
  · have : 1 < h.length := by omega
    simp [this]
    omega
theorem digAt_bs {l : List UInt8} {i : Nat} (h : digAt (bs l) i = true) : 48 ≤ (l.getD i 0).toNat ∧ (l.getD i 0).toNat ≤ 57 := by
  unfold digAt numberI at h
  rw [byteAt_bs] at h
  simp only [Bool.and_eq_true, decide_eq_true_eq] at h
  omega
theorem numTo_zeros {l : List UInt8} : ∀ {k : Nat}, k ≤ l.length → allTo (digAt (bs l)) k = true → numTo (bs l) k = 0 → ∀ i, i < k → l.getD i 0 = 48
  | 0, _, _, _, i, hi => by omega
  | k + 1, hk, hd, hn, i, hi => by
    rw [allTo_succ, Bool.and_eq_true] at hd
    have hb := (numTo_bd (bs l) k hd.1).1
    have h2 : 10 * numTo (bs l) k + (byteAt (bs l) k - 48) = 0 := hn
    have h3 := digAt_bs hd.2
    rw [byteAt_bs] at h2
    have h4 : numTo (bs l) k = 0 := by omega
    rcases Nat.lt_or_eq_of_le (Nat.le_of_lt_succ hi) with h | rfl
    · exact numTo_zeros (by omega) hd.1 h4 i h
    · have h5 : (l.getD i 0).toNat = 48 := by omega
      exact UInt8.toNat.inj h5
theorem stripB_negZ : stripB negZ = ⟨#[48, 58, 48, 48]⟩ := by decide +kernel
theorem durB_negZ : durB negZ = (0, 1) := by decide +kernel
theorem strip_neg {s : ByteArray} (h : (stripB s).size < s.size) : s.data.toList = 45 :: (stripB s).data.toList := by
  rw [stripB_size] at h
  split at h
  · rename_i h1
    have e := stripB_eq s
    rw [if_pos h1] at e
    obtain ⟨⟨l⟩⟩ := s
    cases l with
    | nil => exact absurd h1.1 (by decide)
    | cons a l =>
      have ha : a = 45 := by
        have h2 : (a.toNat : Int) = 45 := h1.2
        exact UInt8.toNat.inj (by show a.toNat = 45; omega)
      rw [e, extract_take]
      subst ha
      show _ = 45 :: (((45 :: l : List UInt8).take (45 :: l).length).drop 1)
      rw [List.take_length]
      rfl
  · omega
/-- Both ways read alike. -/
theorem durP_eq (s : ByteArray) : durP s = durB s := by
  by_cases hz : s = negZ
  · subst hz
    rw [durB_negZ]
    unfold durP
    rw [if_pos rfl]
  unfold durP durB
  rw [if_neg hz]
  obtain ⟨neg, hneg⟩ : ∃ p : Prop, p = ((stripB s).size < s.size) := ⟨_, rfl⟩
  have hns : (stripB s).size < s.size → s.data.toList = 45 :: (stripB s).data.toList := strip_neg
  generalize ht : (stripB s).data.toList = t at *
  have hbt : stripB s = bs t := by rw [← ht]; rfl
  rw [hbt] at hns ⊢
  unfold durD durH durM
  rw [bs_size, extract_take, extract_take, bs_data]
  rcases cut_split 58 t with ⟨a, b, rfl, ha, hc⟩ | ⟨hn, hc⟩
  · rw [hc]
    simp only
    by_cases hb : b.length = 2
    · have hl : (a ++ 58 :: b).length = a.length + 3 := by simp; omega
      rw [hl]
      have e1 : ((a ++ 58 :: b).take (a.length + 3 - 3)).drop 0 = a := by
        rw [Nat.add_sub_cancel, List.drop_zero, List.take_left]
      have e2 : ((a ++ 58 :: b).take (a.length + 3)).drop (a.length + 3 - 2) = b := by
        rw [List.take_of_length_le (by omega), show a.length + 3 - 2 = (a ++ [58]).length by simp, show a ++ 58 :: b = (a ++ [58]) ++ b by simp, List.drop_left]
      have e3 : byteAt (bs (a ++ 58 :: b)) (a.length + 3 - 3) = 58 := by
        rw [byteAt_bs, Nat.add_sub_cancel, List.getD_eq_getElem?_getD, List.getElem?_append_right (Nat.le_refl _)]
        simp
      rw [e1, e2, e3, digits_2]
      by_cases hm : matchB (bs b) pat2 = false
      · rw [if_pos (Or.inr (Or.inr (Or.inr hm))), if_pos hm]
        simp
      · rw [if_neg hm]
        by_cases h1 : a.length < 1
        · rw [if_pos (Or.inr (Or.inl h1)), if_pos (by omega)]
        rw [if_neg (by omega : ¬ a.length + 3 < 4), if_neg (by simp : ¬ ¬ (58 : Int) = 58)]
        by_cases h2 : 11 < a.length
        · rw [if_pos (Or.inr (Or.inr (Or.inl h2))), digits_11, if_pos (Or.inr (Or.inl h2)), if_pos (Or.inl rfl)]
        rw [if_neg (by rintro (h | h | h | h) <;> first | contradiction | cases h)]
        by_cases h3 : allTo (digAt (bs a)) a.length = false
        · rw [if_pos (Or.inl h3), digits_11, if_pos (Or.inr (Or.inr h3)), if_pos (Or.inl rfl)]
        have D : digitsB (bs a) 1 11 = (numTo (bs a) a.length, true) := by rw [digits_11, if_neg (by rintro (h | h | h) <;> contradiction)]
        rw [D]
        simp only
        by_cases h4 : byteAt (bs a) 0 = 48 ∧ 1 < a.length
        · rw [if_pos (Or.inr h4), if_pos (Or.inr (Or.inr (Or.inl ((plain_bs (by omega)).2 h4))))]
        · rw [if_neg (by rintro (h | h) <;> contradiction)]
          rw [if_neg (show ¬ ((true : Bool) = false ∨ (true : Bool) = false ∨ plainB (bs a) = false ∨ (a.length + 3 < s.size ∧ numTo (bs a) a.length = 0 ∧ numTo (bs b) 2 = 0)) by
            rintro (h | h | h | ⟨h5, h6, h7⟩)
            · cases h
            · cases h
            · exact h4 ((plain_bs (by omega)).1 h)
            · apply hz
              have hd := hns (by rw [bs_size, hl]; exact h5)
              have h3' : allTo (digAt (bs a)) a.length = true := by simpa using h3
              have hza := numTo_zeros (Nat.le_refl _) h3' h6
              have hm' : matchB (bs b) pat2 = true := by simpa using hm
              rw [match2_iff, Bool.and_eq_true, decide_eq_true_eq] at hm'
              have hzb := numTo_zeros (l := b) (k := 2) (by omega) (by rw [← hb]; exact hm'.2) h7
              have h0 := hza 0 (by omega)
              have hla : a.length = 1 := by
                by_cases hq : a.length = 1
                · exact hq
                · exact absurd ⟨by rw [byteAt_bs, h0]; rfl, by omega⟩ h4
              have hea : a = [48] := by
                match a, hla with
                | [x], _ => have : x = 48 := h0; rw [this]
              have heb : b = [48, 48] := by
                have hb0 := hzb 0 (by omega); have hb1 := hzb 1 (by omega)
                match b, hb with
                | [x, y], _ => have e1 : x = 48 := hb0; have e2 : y = 48 := hb1; rw [e1, e2]
              rw [hea, heb] at hd
              have : s = bs s.data.toList := rfl
              rw [this, hd]
              rfl)]
    · have hm : matchB (bs b) pat2 = false := by rw [match2_iff, decide_eq_false hb, Bool.false_and]
      rw [if_pos (Or.inr (Or.inr (Or.inr hm)))]
      have hl : (a ++ 58 :: b).length = a.length + 1 + b.length := by simp; omega
      rw [hl]
      by_cases h4 : a.length + 1 + b.length < 4
      · rw [if_pos h4]
      rw [if_neg h4]
      by_cases h5 : byteAt (bs (a ++ 58 :: b)) (a.length + 1 + b.length - 3) = 58
      · rw [if_neg (by simpa using h5)]
        have hgt : a.length < a.length + 1 + b.length - 3 := by
          rcases Nat.lt_trichotomy (a.length + 1 + b.length - 3) a.length with h | h | h
          · exfalso
            rw [byteAt_bs, List.getD_eq_getElem?_getD, List.getElem?_append_left h, List.getElem?_eq_getElem h] at h5
            apply ha
            have h6 : a[a.length + 1 + b.length - 3].toNat = 58 := by
              have h7 : ((a[a.length + 1 + b.length - 3]).toNat : Int) = 58 := h5
              omega
            have h8 : a[a.length + 1 + b.length - 3] = 58 := UInt8.toNat.inj h6
            rw [← h8]
            exact List.getElem_mem h
          · omega
          · exact h
        rw [if_pos (Or.inl ?_)]
        rw [List.drop_zero, digits_11, if_pos]
        refine .inr (.inr (allTo_false (k := a.length) (by rw [List.length_take, hl]; omega) ?_))
        have : ((a ++ 58 :: b).take (a.length + 1 + b.length - 3)).getD a.length 0 = 58 := by
          rw [List.getD_eq_getElem?_getD, List.getElem?_take_of_lt hgt, List.getElem?_append_right (Nat.le_refl _)]
          simp
        unfold digAt numberI
        rw [byteAt_bs, this]
        rfl
      · rw [if_pos h5]
  · rw [hc]
    simp only
    rw [if_pos (Or.inl trivial)]
    by_cases h4 : t.length < 4
    · rw [if_pos h4]
    rw [if_neg h4, if_pos]
    intro h5
    rw [byteAt_bs, List.getD_eq_getElem?_getD, List.getElem?_eq_getElem (by omega)] at h5
    apply hn
    have h7 : ((t[t.length - 3]'(by omega)).toNat : Int) = 58 := h5
    have h8 : (t[t.length - 3]'(by omega)) = 58 := UInt8.toNat.inj (by show _ = 58; omega)
    rw [← h8]
    exact List.getElem_mem _
theorem dur_bd (s : ByteArray) : -1099511627776 ≤ (durB s).1 ∧ (durB s).1 ≤ 1099511627776 := by
  have hd : ∀ (x : ByteArray) (lo hi : Int), 0 ≤ (digitsB x lo hi).1 := fun x lo hi => by
    unfold digitsB
    split
    · decide
    split
    · decide
    · rename_i h1 h2
      exact (numTo_bd x x.size (by simpa using h2)).1
  have h1 := hd (durH (stripB s)) 1 11
  have h2 := hd (durM (stripB s)) 2 2
  unfold durB durD
  split
  · simp
  split
  · simp
  split
  · simp
  split
  · simp
  · rename_i h5
    simp only
    split <;> omega
theorem numS_nat (q : Nat) : numS (q : Int) = bs (Lib.decDigits q) := by
  unfold numS
  rw [Lib.itoa, if_neg (by omega), Int.toNat_natCast]
theorem nDigits_11 (u : Nat) (h : u ≤ 99999999999) : (Lib.decDigits u).length ≤ 11 := by
  by_cases hu : u < 10
  · rw [Lib.decDigits_one hu]; simp
  · have e1 : Lib.decDigits u = Lib.decDigits (u / 10) ++ [UInt8.ofNat (48 + u % 10)] := by rw [Lib.decDigits, dif_neg hu]
    rw [e1, List.length_append, Lib.decDigits_length]
    have := (nDigits_ten (u / 10)).2 (by omega)
    simp; omega
theorem dur_rest {q r : Nat} (hq : q ≤ 99999999999) (hr : r < 60) (neg : Prop) [Decidable neg] (hn : neg → ¬ (q = 0 ∧ r = 0)) (hv : 60 * (q : Int) + r ≤ 1099511627776) :
    durD (bs (Lib.decDigits q ++ 58 :: [dgt (r / 10), dgt (r % 10)])) neg = (if neg then -(60 * (q : Int) + r) else 60 * (q : Int) + r, 0) := by
  have hp := dec_pos q; have hl := nDigits_11 q hq
  obtain ⟨d1, d2, d3⟩ := dec_facts q
  have hd1 : allTo (digAt (bs (Lib.decDigits q))) (Lib.decDigits q).length = true := allTo_iff.2 d1
  unfold durD durH durM
  rw [bs_size, extract_take, extract_take, bs_data]
  have d4 := (plain_bs (h := Lib.decDigits q) hp)
  have hone : q = 0 → (Lib.decDigits q).length = 1 := fun h => by subst h; rw [Lib.decDigits_one (by decide)]; rfl
  generalize Lib.decDigits q = a at *
  have hla : (a ++ 58 :: [dgt (r / 10), dgt (r % 10)]).length = a.length + 3 := by simp
  rw [hla]
  have e1 : ((a ++ 58 :: [dgt (r / 10), dgt (r % 10)]).take (a.length + 3 - 3)).drop 0 = a := by
    rw [Nat.add_sub_cancel, List.drop_zero, List.take_left]
  have e2 : ((a ++ 58 :: [dgt (r / 10), dgt (r % 10)]).take (a.length + 3)).drop (a.length + 3 - 2) = [dgt (r / 10), dgt (r % 10)] := by
    rw [List.take_of_length_le (by omega), show a.length + 3 - 2 = (a ++ [58]).length by simp, show a ++ 58 :: [dgt (r / 10), dgt (r % 10)] = (a ++ [58]) ++ [dgt (r / 10), dgt (r % 10)] by simp, List.drop_left]
  have e3 : byteAt (bs (a ++ 58 :: [dgt (r / 10), dgt (r % 10)])) (a.length + 3 - 3) = 58 := by
    rw [byteAt_bs, Nat.add_sub_cancel, List.getD_eq_getElem?_getD, List.getElem?_append_right (Nat.le_refl _)]
    simp
  have b0 : byteAt (bs [dgt (r / 10), dgt (r % 10)]) 0 = 48 + (r / 10 : Nat) := byteAt_dgt (s := bs [dgt (r / 10), dgt (r % 10)]) (k := 0) rfl (by omega)
  have b1 : byteAt (bs [dgt (r / 10), dgt (r % 10)]) 1 = 48 + (r % 10 : Nat) := byteAt_dgt (s := bs [dgt (r / 10), dgt (r % 10)]) (k := 1) rfl (by omega)
  have hm : matchB (bs [dgt (r / 10), dgt (r % 10)]) pat2 = true := by
    rw [match2_iff, Bool.and_eq_true]
    refine ⟨rfl, allTo_iff.2 fun k hk => ?_⟩
    have : k = 0 ∨ k = 1 := by simp at hk; omega
    rcases this with rfl | rfl
    · exact digAt_dgt (s := bs [dgt (r / 10), dgt (r % 10)]) (k := 0) rfl (by omega)
    · exact digAt_dgt (s := bs [dgt (r / 10), dgt (r % 10)]) (k := 1) rfl (by omega)
  have hnr : numTo (bs [dgt (r / 10), dgt (r % 10)]) 2 = r := by
    show 10 * (10 * 0 + (byteAt (bs [dgt (r / 10), dgt (r % 10)]) 0 - 48)) + (byteAt (bs [dgt (r / 10), dgt (r % 10)]) 1 - 48) = _
    rw [b0, b1]
    omega
  have DM : digitsB (bs [dgt (r / 10), dgt (r % 10)]) 2 2 = ((r : Int), true) := by rw [digits_2, if_neg (by rw [hm]; simp), hnr]
  have DH : digitsB (bs a) 1 11 = ((q : Int), true) := by rw [digits_11, if_neg (by rw [hd1]; rintro (h | h | h) <;> first | omega | cases h), d2]
  rw [e1, e2, e3, DM, DH, if_neg (by omega : ¬ a.length + 3 < 4), if_neg (by simp : ¬ ¬ (58 : Int) = 58)]
  simp only
  rw [if_neg, if_neg]
  · rintro (h | h)
    · omega
    · omega
  · rintro (h | h | h | ⟨h1, h2, h3⟩)
    · cases h
    · cases h
    · have := d4.1 h
      have hq0 := d3 this.1
      have := hone hq0
      omega
    · exact hn h1 ⟨by omega, by omega⟩
theorem durF_eq (n : Int) : durF n = bs ((if n < 0 then [45] else []) ++ (Lib.decDigits (n.natAbs / 60) ++ 58 :: [dgt (n.natAbs % 60 / 10), dgt (n.natAbs % 60 % 10)])) := by
  unfold durF
  rw [numS_nat, pad2 (by omega), show colS = bs [58] from rfl]
  by_cases h : n < 0
  · rw [if_pos h, if_pos h, show dashS = bs [45] from rfl, bs_app, bs_app, bs_app]
    simp
  · rw [if_neg h, if_neg h, show emS = bs [] from rfl, bs_app, bs_app, bs_app]
    simp
theorem dur_back {n : Int} (h : -1099511627776 ≤ n ∧ n ≤ 1099511627776) : durB (durF n) = (n, 0) := by
  have hr := durF_eq n
  generalize hq : n.natAbs / 60 = q at *
  generalize hm : n.natAbs % 60 = r at *
  have hrest := fun (neg : Prop) [Decidable neg] (hn : neg → ¬ (q = 0 ∧ r = 0)) => dur_rest (q := q) (r := r) (by omega) (by omega) neg hn (by omega)
  rw [hr]
  unfold durB
  by_cases hneg : n < 0
  · rw [if_pos hneg]
    have hs : stripB (bs ([45] ++ (Lib.decDigits q ++ 58 :: [dgt (r / 10), dgt (r % 10)]))) = bs (Lib.decDigits q ++ 58 :: [dgt (r / 10), dgt (r % 10)]) := by
      rw [stripB_eq, if_pos ⟨by rw [bs_size]; simp, rfl⟩, extract_take, bs_data, List.take_of_length_le (by rw [bs_size]; exact Nat.le_refl _)]
      rfl
    have hz : (stripB (bs ([45] ++ (Lib.decDigits q ++ 58 :: [dgt (r / 10), dgt (r % 10)])))).size < (bs ([45] ++ (Lib.decDigits q ++ 58 :: [dgt (r / 10), dgt (r % 10)]))).size := by
      rw [hs, bs_size, bs_size]; simp
    have := hrest ((stripB (bs ([45] ++ (Lib.decDigits q ++ 58 :: [dgt (r / 10), dgt (r % 10)])))).size < (bs ([45] ++ (Lib.decDigits q ++ 58 :: [dgt (r / 10), dgt (r % 10)]))).size) (fun _ => by omega)
    rw [if_pos hz] at this
    rw [← hs] at this
    rw [this]
    congr 1
    omega
  · rw [if_neg hneg]
    rw [List.nil_append]
    have hne := dec_head q
    have hpos := dec_pos q
    have hs : stripB (bs (Lib.decDigits q ++ 58 :: [dgt (r / 10), dgt (r % 10)])) = bs (Lib.decDigits q ++ 58 :: [dgt (r / 10), dgt (r % 10)]) := by
      rw [stripB_eq, if_neg]
      rintro ⟨_, h45⟩
      apply hne
      rw [byteAt_bs] at h45 ⊢
      rw [List.getD_eq_getElem?_getD, List.getElem?_append_left (by omega), ← List.getD_eq_getElem?_getD] at h45
      exact h45
    rw [hs]
    have := hrest ((bs (Lib.decDigits q ++ 58 :: [dgt (r / 10), dgt (r % 10)])).size < (bs (Lib.decDigits q ++ 58 :: [dgt (r / 10), dgt (r % 10)])).size) (fun h => absurd h (Nat.lt_irrefl _))
    rw [this, if_neg (Nat.lt_irrefl _)]
    congr 1
    omega
theorem dgtD_fld {n : Nat} (h : n < 10) : 33 ≤ (dgt n).toNat ∧ (dgt n).toNat ≤ 126 ∧ dgt n ≠ 35 := by
  have := dgt_nat h
  refine ⟨by omega, by omega, fun e => ?_⟩
  rw [e] at this
  have h2 : (35 : UInt8).toNat = 35 := rfl
  omega
theorem durF_fld (n : Int) : fldOk (durF n) := by
  rw [durF_eq]
  refine ⟨by rw [bs_data]; simp, fun b hb => ?_⟩
  rw [bs_data] at hb
  simp only [List.mem_append, List.mem_cons, List.not_mem_nil, or_false] at hb
  rcases hb with hb | hb | rfl | rfl | rfl
  · split at hb
    · simp at hb; subst hb; decide
    · cases hb
  · obtain ⟨i, hi, rfl⟩ := List.getElem_of_mem hb
    have := digAt_bs ((dec_facts (n.natAbs / 60)).1 i hi)
    rw [List.getD_eq_getElem?_getD, List.getElem?_eq_getElem hi] at this
    have h2 : 48 ≤ ((Lib.decDigits (n.natAbs / 60))[i]).toNat ∧ ((Lib.decDigits (n.natAbs / 60))[i]).toNat ≤ 57 := this
    exact ⟨by omega, by omega, fun e => by rw [e] at h2; exact absurd h2.1 (by decide)⟩
  · decide
  · exact dgtD_fld (by omega)
  · exact dgtD_fld (by omega)
theorem durF_size {n : Int} (h : -1099511627776 ≤ n ∧ n ≤ 1099511627776) : 4 ≤ (durF n).size ∧ (durF n).size ≤ 15 := by
  rw [durF_eq, bs_size]
  have h1 := nDigits_11 (n.natAbs / 60) (by omega)
  have h2 := dec_pos (n.natAbs / 60)
  simp only [List.length_append, List.length_cons, List.length_nil]
  split <;> simp <;> omega
end Go.Proofs.YtldeoaddogifpaaGreatDoor
