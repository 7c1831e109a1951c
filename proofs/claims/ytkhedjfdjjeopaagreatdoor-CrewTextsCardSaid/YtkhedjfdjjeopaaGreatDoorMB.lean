/-
  Joined texts: CalPlain; RegionG; Cal; Cal2; Cal3; CalRef; CalRef2; CalRef3. What each proves stands ahead of it, with its conditions.
-/
import Derived.Test.YtkhedjfdjjeopaaGreatDoorMA
import Derived.Test.YtkhedjfdjjeopaaGreatDoorRegion
import Derived.Test.YtkhedjfdjjeopaaGreatDoorBase
import Derived.Test.YtkhedjfdjjeopaaGreatDoorBaseAt
import Derived.Deep.RegionLaw
import Derived.Deep.RegionWith
import Derived.Test.YtkhedjfdjjeopaaGreatDoorValidateRef
import Derived.Deep.DeepCutAuto
/-
  Plain dates, clock times and instants: what their parsing answers, and that the reference's conditions are the program's.
  No condition.
-/
namespace Go.Proofs.YtkhedjfdjjeopaaGreatDoor
set_option linter.unusedSimpArgs false
set_option linter.unusedVariables false
open Go

def leapB (y : Int) : Bool := decide (y % 4 = 0) && (decide (y % 100 ≠ 0) || decide (y % 400 = 0))
def mTab : List Int := [31, 28, 31, 30, 31, 30, 31, 31, 30, 31, 30, 31]
def mDays (y m : Int) : Int := if m = 2 ∧ leapB y = true then 29 else mTab.getD (m - 1).toNat 0
def yDays (y : Int) : Int := if leapB y = true then 366 else 365
def validB (y m d : Int) : Bool := decide (1999 ≤ y) && decide (y ≤ 2100) && decide (1 ≤ m) && decide (m ≤ 12) && decide (1 ≤ d) && decide (d ≤ mDays y m)
def sumTo (f : Nat → Int) : Nat → Int
  | 0 => 0
  | k + 1 => sumTo f k + f k
theorem sumTo_bd {f : Nat → Int} {lo hi : Int} (h : ∀ i, lo ≤ f i ∧ f i ≤ hi) : ∀ n : Nat, lo * n ≤ sumTo f n ∧ sumTo f n ≤ hi * n
  | 0 => ⟨by simp [sumTo], by simp [sumTo]⟩
  | n + 1 => by
    have h1 := sumTo_bd h n
    have h2 := h n
    simp only [sumTo, Int.natCast_add, Int.natCast_one, Int.mul_add, Int.mul_one]
    omega
theorem mTab_bd (n : Nat) : 0 ≤ mTab.getD n 0 ∧ mTab.getD n 0 ≤ 31 := by
  unfold mTab
  rcases n with _ | _ | _ | _ | _ | _ | _ | _ | _ | _ | _ | _ | n <;> simp
theorem mDays_bd (y m : Int) : 0 ≤ mDays y m ∧ mDays y m ≤ 31 := by
  unfold mDays
  split
  · omega
  · exact mTab_bd _
theorem yDays_bd (y : Int) : 0 ≤ yDays y ∧ yDays y ≤ 366 := by
  unfold yDays
  split <;> omega
theorem validB_iff {y m d : Int} : validB y m d = true ↔ (1999 ≤ y ∧ y ≤ 2100) ∧ (1 ≤ m ∧ m ≤ 12) ∧ 1 ≤ d ∧ d ≤ mDays y m := by
  unfold validB
  simp only [Bool.and_eq_true, decide_eq_true_eq]
  constructor
  · rintro ⟨⟨⟨⟨⟨a, b⟩, c⟩, d⟩, e⟩, f⟩; exact ⟨⟨a, b⟩, ⟨c, d⟩, e, f⟩
  · rintro ⟨⟨a, b⟩, ⟨c, d⟩, e, f⟩; exact ⟨⟨⟨⟨⟨a, b⟩, c⟩, d⟩, e⟩, f⟩
def yearSum (k : Nat) : Int := sumTo (fun i => yDays (1999 + i)) k
def monSum (y : Int) (k : Nat) : Int := sumTo (fun i => mDays y (1 + i)) k
theorem yearSum_bd (k : Nat) : 0 ≤ yearSum k ∧ yearSum k ≤ 366 * k := by
  have := sumTo_bd (f := fun i => yDays (1999 + i)) (fun i => yDays_bd _) k
  unfold yearSum
  omega
theorem monSum_bd (y : Int) (k : Nat) : 0 ≤ monSum y k ∧ monSum y k ≤ 31 * k := by
  have := sumTo_bd (f := fun i => mDays y (1 + i)) (fun i => mDays_bd _ _) k
  unfold monSum
  omega
/-- calendar.DayNumber of a valid date. -/
def dayB (y m d : Int) : Int := -365 + yearSum (y - 1999).toNat + monSum y (m - 1).toNat + d - 1
theorem dayB_bd {y m d : Int} (h : validB y m d = true) : -365 ≤ dayB y m d ∧ dayB y m d ≤ 40000 := by
  obtain ⟨h1, h2, h3, h4⟩ := validB_iff.1 h
  have a := yearSum_bd (y - 1999).toNat
  have b := monSum_bd y (m - 1).toNat
  have c := mDays_bd y m
  unfold dayB
  omega

/-- Does s have the form of a pattern, in which 0 stands for a digit? -/
def mAt (s p : ByteArray) (i : Nat) : Bool := if byteAt p i = 48 then digAt s i else decide (byteAt s i = byteAt p i)
def matchB (s p : ByteArray) : Bool := decide (s.size = p.size) && allTo (mAt s p) s.size
def patD : ByteArray := ⟨#[48, 48, 48, 48, 45, 48, 48, 45, 48, 48]⟩
def patC : ByteArray := ⟨#[48, 48, 58, 48, 48]⟩
def patI : ByteArray := ⟨#[48, 48, 48, 48, 45, 48, 48, 45, 48, 48, 32, 48, 48, 58, 48, 48]⟩
/-- The number of the digits of s from a to b. -/
def subN (s : ByteArray) (a b : Nat) : Int := numTo (s.extract a b) (s.extract a b).size
def dateB (s : ByteArray) : (Int × Int × Int) × Int :=
  if matchB s patD = false then ((0, 0, 0), 1) else
    if validB (subN s 0 4) (subN s 5 7) (subN s 8 s.size) = false then ((0, 0, 0), 5) else ((subN s 0 4, subN s 5 7, subN s 8 s.size), 0)
def clockB (s : ByteArray) : Int × Int :=
  if matchB s patC = false then (0, 1) else if 23 < subN s 0 2 ∨ 59 < subN s 3 s.size then (0, 5) else (subN s 0 2 * 60 + subN s 3 s.size, 0)
/-- calendar.ParseInstant. -/
def insB (s : ByteArray) : Int × Int :=
  if matchB s patI = false then (0, 1) else
    if (dateB (s.extract 0 10)).2 ≠ 0 then (0, (dateB (s.extract 0 10)).2) else
      if (clockB (s.extract 11 s.size)).2 ≠ 0 then (0, (clockB (s.extract 11 s.size)).2) else
        if dayB (dateB (s.extract 0 10)).1.1 (dateB (s.extract 0 10)).1.2.1 (dateB (s.extract 0 10)).1.2.2 * 1440 + (clockB (s.extract 11 s.size)).1 < 0 ∨ 52596000 ≤ dayB (dateB (s.extract 0 10)).1.1 (dateB (s.extract 0 10)).1.2.1 (dateB (s.extract 0 10)).1.2.2 * 1440 + (clockB (s.extract 11 s.size)).1 then (0, 5) else
          (dayB (dateB (s.extract 0 10)).1.1 (dateB (s.extract 0 10)).1.2.1 (dateB (s.extract 0 10)).1.2.2 * 1440 + (clockB (s.extract 11 s.size)).1, 0)
theorem insB_bd (s : ByteArray) : 0 ≤ (insB s).1 ∧ (insB s).1 < 52596000 := by
  unfold insB
  repeat' split
  all_goals first | decide | (dsimp only; omega)
theorem byteAt_extract (s : ByteArray) (a b i : Nat) (h : a + i < b) : byteAt (s.extract a b) i = byteAt s (a + i) := by
  unfold byteAt
  rw [extract_take, bs_data]
  congr 2
  rw [List.getD_eq_getElem?_getD, List.getD_eq_getElem?_getD, List.getElem?_drop, List.getElem?_take, if_pos h]
theorem digAt_extract (s : ByteArray) (a b i : Nat) (h : a + i < b) : digAt (s.extract a b) i = digAt s (a + i) := by
  unfold digAt
  rw [byteAt_extract _ _ _ _ h]
theorem size_sub {s : ByteArray} {a b : Nat} (h : b ≤ s.size) : (s.extract a b).size = b - a := by
  rw [ByteArray.size_extract]; omega
theorem allTo_ext {p q : Nat → Bool} {n : Nat} (h : ∀ i, i < n → p i = q i) : allTo p n = allTo q n := by
  rw [Bool.eq_iff_iff, allTo_iff, allTo_iff]
  exact ⟨fun g i hi => (h i hi) ▸ g i hi, fun g i hi => (h i hi).symm ▸ g i hi⟩
/-- The digits of a part. -/
def digOn (s : ByteArray) (a n : Nat) : Bool := allTo (fun i => digAt s (a + i)) n
theorem dig_sub {s : ByteArray} {a b : Nat} (h : b ≤ s.size) : allTo (digAt (s.extract a b)) (s.extract a b).size = digOn s a (b - a) := by
  rw [size_sub h]
  exact allTo_ext fun i hi => digAt_extract s a b i (by omega)
theorem matchD_iff (s : ByteArray) : matchB s patD = (decide (s.size = 10) && (digOn s 0 4 && decide (byteAt s 4 = 45) && digOn s 5 2 && decide (byteAt s 7 = 45) && digOn s 8 2)) := by
  unfold matchB
  have hp : patD.size = 10 := rfl
  rw [hp]
  by_cases h : s.size = 10
  · rw [h]
    simp only [allTo, digOn, List.range_succ, List.range_zero, List.nil_append, List.all_append, List.all_cons, List.all_nil, Bool.and_true, mAt]
    have e : ∀ i, byteAt patD i = (([48, 48, 48, 48, 45, 48, 48, 45, 48, 48] : List UInt8).getD i 0).toNat := fun i => rfl
    simp [e, Bool.and_assoc]
  · rw [decide_eq_false h]; rfl
theorem matchC_iff (s : ByteArray) : matchB s patC = (decide (s.size = 5) && (digOn s 0 2 && decide (byteAt s 2 = 58) && digOn s 3 2)) := by
  unfold matchB
  have hp : patC.size = 5 := rfl
  rw [hp]
  by_cases h : s.size = 5
  · rw [h]
    simp only [allTo, digOn, List.range_succ, List.range_zero, List.nil_append, List.all_append, List.all_cons, List.all_nil, Bool.and_true, mAt]
    have e : ∀ i, byteAt patC i = (([48, 48, 58, 48, 48] : List UInt8).getD i 0).toNat := fun i => rfl
    simp [e, Bool.and_assoc]
  · rw [decide_eq_false h]; rfl
theorem matchI_iff (s : ByteArray) : matchB s patI = (decide (s.size = 16) && (decide (byteAt s 10 = 32) && matchB (s.extract 0 10) patD && matchB (s.extract 11 s.size) patC)) := by
  rw [matchD_iff, matchC_iff]
  unfold matchB
  have hp : patI.size = 16 := rfl
  rw [hp]
  by_cases h : s.size = 16
  · have z1 : (s.extract 0 10).size = 10 := size_sub (by omega)
    have z2 : (s.extract 11 s.size).size = 5 := by rw [size_sub (Nat.le_refl _)]; omega
    rw [z1, z2, h]
    simp only [allTo, digOn, List.range_succ, List.range_zero, List.nil_append, List.all_append, List.all_cons, List.all_nil, Bool.and_true, mAt]
    have e : ∀ i, byteAt patI i = (([48, 48, 48, 48, 45, 48, 48, 45, 48, 48, 32, 48, 48, 58, 48, 48] : List UInt8).getD i 0).toNat := fun i => rfl
    rw [← h]
    rw [digAt_extract s 0 10 _ (by omega), digAt_extract s 0 10 _ (by omega), digAt_extract s 0 10 _ (by omega), digAt_extract s 0 10 _ (by omega), digAt_extract s 0 10 _ (by omega), digAt_extract s 0 10 _ (by omega), digAt_extract s 0 10 _ (by omega), digAt_extract s 0 10 _ (by omega),
      digAt_extract s 11 _ _ (by omega), digAt_extract s 11 _ _ (by omega), digAt_extract s 11 _ _ (by omega), digAt_extract s 11 _ _ (by omega), byteAt_extract s 0 10 _ (by omega), byteAt_extract s 0 10 _ (by omega), byteAt_extract s 11 _ _ (by omega)]
    simp [e]
    grind
  · rw [decide_eq_false h]; rfl
theorem dateB_err (s : ByteArray) : ((dateB s).2 = 1 ↔ matchB s patD = false) ∧ ((dateB s).2 = 0 ∨ (dateB s).2 = 1 ∨ (dateB s).2 = 5) := by
  unfold dateB
  split
  · rename_i h; exact ⟨⟨fun _ => h, fun _ => rfl⟩, .inr (.inl rfl)⟩
  · rename_i h
    split
    · exact ⟨⟨fun e => by simp at e, fun e => absurd e h⟩, .inr (.inr rfl)⟩
    · exact ⟨⟨fun e => by simp at e, fun e => absurd e h⟩, .inl rfl⟩
theorem clockB_err (s : ByteArray) : ((clockB s).2 = 1 ↔ matchB s patC = false) ∧ ((clockB s).2 = 0 ∨ (clockB s).2 = 1 ∨ (clockB s).2 = 5) := by
  unfold clockB
  split
  · rename_i h; exact ⟨⟨fun _ => h, fun _ => rfl⟩, .inr (.inl rfl)⟩
  · rename_i h
    split
    · exact ⟨⟨fun e => by simp at e, fun e => absurd e h⟩, .inr (.inr rfl)⟩
    · exact ⟨⟨fun e => by simp at e, fun e => absurd e h⟩, .inl rfl⟩
theorem dateB_valid {s : ByteArray} (h : (dateB s).2 = 0) : validB (dateB s).1.1 (dateB s).1.2.1 (dateB s).1.2.2 = true := by
  unfold dateB at h ⊢
  split at h
  · simp at h
  · rename_i h1
    rw [if_neg h1]
    split at h
    · simp at h
    · rename_i h2
      rw [if_neg h2]
      simpa using h2
theorem clockB_bd (s : ByteArray) : 0 ≤ (clockB s).1 ∧ (clockB s).1 ≤ 1439 := by
  unfold clockB
  split
  · decide
  · rename_i h
    split
    · decide
    · rename_i h2
      have hm : matchB s patC = true := by simpa using h
      rw [matchC_iff] at hm
      simp only [Bool.and_eq_true, decide_eq_true_eq] at hm
      obtain ⟨hs, ⟨h3, -⟩, h4⟩ := hm
      have d1 := numTo_bd (s.extract 0 2) (s.extract 0 2).size (by rw [dig_sub (by omega)]; exact h3)
      have d2 := numTo_bd (s.extract 3 s.size) (s.extract 3 s.size).size (by rw [dig_sub (Nat.le_refl _), hs]; exact h4)
      unfold subN at h2 ⊢
      dsimp only
      omega
/-- The reference's way to ParseInstant. -/
theorem insB_ref (s : ByteArray) : insB s = if ¬ s.size = 16 ∨ ¬ byteAt s 10 = 32 then (0, 1) else
    if (dateB (s.extract 0 10)).2 = 1 ∨ (clockB (s.extract 11 s.size)).2 = 1 then (0, 1) else
      if (dateB (s.extract 0 10)).2 ≠ 0 ∨ (clockB (s.extract 11 s.size)).2 ≠ 0 then (0, 5) else
        if 1440 * dayB (dateB (s.extract 0 10)).1.1 (dateB (s.extract 0 10)).1.2.1 (dateB (s.extract 0 10)).1.2.2 + (clockB (s.extract 11 s.size)).1 < 0 ∨ 52596000 ≤ 1440 * dayB (dateB (s.extract 0 10)).1.1 (dateB (s.extract 0 10)).1.2.1 (dateB (s.extract 0 10)).1.2.2 + (clockB (s.extract 11 s.size)).1 then (0, 5) else
          (1440 * dayB (dateB (s.extract 0 10)).1.1 (dateB (s.extract 0 10)).1.2.1 (dateB (s.extract 0 10)).1.2.2 + (clockB (s.extract 11 s.size)).1, 0) := by
  have e1 := dateB_err (s.extract 0 10)
  have e2 := clockB_err (s.extract 11 s.size)
  unfold insB
  rw [matchI_iff]
  generalize matchB (s.extract 0 10) patD = md at *
  generalize matchB (s.extract 11 s.size) patC = mc at *
  generalize dateB (s.extract 0 10) = D at *
  generalize clockB (s.extract 11 s.size) = C at *
  obtain ⟨⟨y, m, d⟩, e⟩ := D
  obtain ⟨c, f⟩ := C
  simp only at e1 e2 ⊢
  rw [Int.mul_comm 1440]
  generalize dayB y m d * 1440 + c = t
  by_cases h1 : s.size = 16
  · by_cases h2 : byteAt s 10 = 32
    · simp only [h1, h2, decide_true, Bool.true_and, not_true_eq_false, or_self, if_false]
      obtain ⟨e1, e1'⟩ := e1
      obtain ⟨e2, e2'⟩ := e2
      cases md <;> cases mc <;> rcases e1' with rfl | rfl | rfl <;> rcases e2' with rfl | rfl | rfl <;> simp at e1 e2 ⊢
    · simp [h1, h2]
  · simp [h1]
end Go.Proofs.YtkhedjfdjjeopaaGreatDoor
/-
  The rule of Region for a region with guards that are all met.
  No condition.
-/
namespace Go.Proofs.YtkhedjfdjjeopaaGreatDoor
set_option linter.unusedSimpArgs false
set_option linter.unusedVariables false
open Go.RowKit Go

/-- The first n operations: a slot of its own each, a guard is one of the earlier ones; edges lead back; every later operation waits for all of them. -/
def headOkG (ops : Array Oper) (n size : Nat) : Bool :=
  (List.range n).all (fun i => match dstOf ops i with
    | some d => decide (d < size) && (List.range i).all (fun j => dstOf ops j != some d)
    | none => false) &&
  (List.range n).all (fun i => match ops[i]? with
    | some o => (match o.guard with
      | none => true
      | some (j, _) => o.after.any fun e => e.on == j && Region.binds .any e) && o.after.all (fun e => decide (e.on < i))
    | none => false) &&
  (List.range ops.size).all (fun t => decide (t < n) || match ops[t]? with
    | some o => (List.range n).all fun i => o.after.any fun e => e.on == i && Region.binds .any e
    | none => false) && decide (n ≤ ops.size)
section
variable {P : Program} {ops : Array Oper} {Q : Exit → Act → World → Prop} {n : Nat} {a : Act} {W : World} {F : Nat → Value → World → Prop}
structure HeadFactsG (ops : Array Oper) (n size : Nat) : Prop where
  dst : ∀ i, i < n → ∃ d, dstOf ops i = some d ∧ d < size
  inj : ∀ i j d, i < n → j < n → dstOf ops i = some d → dstOf ops j = some d → i = j
  guard : ∀ i o, i < n → ops[i]? = some o → o.guard = none ∨ ∃ j b, o.guard = some (j, b) ∧ ∃ e ∈ o.after, e.on = j ∧ Region.binds .any e = true
  back : ∀ i o, i < n → ops[i]? = some o → ∀ e ∈ o.after, e.on < i
  cover : ∀ t o, n ≤ t → ops[t]? = some o → ∀ i, i < n → ∃ e ∈ o.after, e.on = i ∧ Region.binds .any e = true
  le : n ≤ ops.size
theorem headFactsG {size : Nat} (h : headOkG ops n size = true) : HeadFactsG ops n size := by
  unfold headOkG at h
  simp only [Bool.and_eq_true, List.all_eq_true, List.mem_range, decide_eq_true_eq] at h
  obtain ⟨⟨⟨h1, h2⟩, h3⟩, h4⟩ := h
  have h1' : ∀ i, i < n → ∃ d, dstOf ops i = some d ∧ d < size ∧ ∀ j, j < i → dstOf ops j ≠ some d := fun i hi => by
    have := h1 i hi
    cases hd : dstOf ops i with
    | none => rw [hd] at this; cases this
    | some d =>
      rw [hd] at this
      simp only [Bool.and_eq_true, decide_eq_true_eq, List.all_eq_true, List.mem_range, bne_iff_ne] at this
      exact ⟨d, rfl, this.1, this.2⟩
  refine ⟨fun i hi => ?_, fun i j d hi hj e1 e2 => ?_, fun i o hi ho => ?_, fun i o hi ho e he => ?_, fun t o ht ho i hi => ?_, h4⟩
  · obtain ⟨d, e, hl, _⟩ := h1' i hi
    exact ⟨d, e, hl⟩
  · rcases Nat.lt_trichotomy i j with hlt | rfl | hlt
    · obtain ⟨d', e', _, hn⟩ := h1' j hj
      rw [e2] at e'
      injection e' with e'
      subst e'
      exact absurd e1 (hn i hlt)
    · rfl
    · obtain ⟨d', e', _, hn⟩ := h1' i hi
      rw [e1] at e'
      injection e' with e'
      subst e'
      exact absurd e2 (hn j hlt)
  · have := h2 i hi
    rw [ho] at this
    rw [Bool.and_eq_true] at this
    cases hg : o.guard with
    | none => exact .inl rfl
    | some jb =>
      obtain ⟨j, b⟩ := jb
      have h9 := this.1
      rw [hg] at h9
      simp only [Array.any_eq_true, Bool.and_eq_true, beq_iff_eq] at h9
      obtain ⟨k, hk, he, hb⟩ := h9
      exact .inr ⟨j, b, rfl, _, Array.getElem_mem hk, he, hb⟩
  · have := h2 i hi
    rw [ho] at this
    rw [Bool.and_eq_true, Array.all_eq_true] at this
    obtain ⟨k, hk, rfl⟩ := Array.getElem_of_mem he
    exact of_decide_eq_true (this.2 k hk)
  · have hts : t < ops.size := (Array.getElem?_eq_some_iff.1 ho).1
    have := h3 t hts
    rw [ho] at this
    simp only [Bool.or_eq_true, decide_eq_true_eq, List.all_eq_true, List.mem_range, Array.any_eq_true, Bool.and_eq_true, beq_iff_eq] at this
    rcases this with h | h
    · omega
    · obtain ⟨k, hk, he, hb⟩ := h i hi
      exact ⟨_, Array.getElem_mem hk, he, hb⟩
theorem wpAny_factsG {l : List Oper} (hl : l.toArray = ops) (hh : HeadFactsG ops n a.tmps.size) (hseq : Region.seqB .any ops (ops.size - n) n (headListed ops n) = true)
    (hG : ∀ (i : Nat) (o : Oper) (j : Nat) (b : Bool), i < n → ops[i]? = some o → o.guard = some (j, b) → ∀ v w, F j v w → v = .bool b)
    (hF : ∀ i v w w', F i v w → Below w.heap.size w w' → F i v w')
    (hstep : ∀ i o, i < n → ops[i]? = some o → ∀ a' w', Below W.heap.size W w' → (∀ s, (∀ j, j < n → dstOf ops j ≠ some s) → a'.tmps[s]? = a.tmps[s]?) →
      (∀ e ∈ o.after, ∀ d, dstOf ops e.on = some d → F e.on (a'.tmps.getD d undef) w') → ∀ K : Act → World → Prop, (∀ v w'', F i v w'' → Below w'.heap.size w' w'' → K (a'.put o.dst v) w'') → o.wp P a' w' K Q)
    (hfin : ∀ us w', Below W.heap.size W w' → (∀ i, i < n → F i (us i) w') → wpList P ops Q (l.drop n) (putAll ops a us n) w') (hb : ∀ (i : Nat) (o : Oper), ops[i]? = some o → ∀ e ∈ o.after, Region.binds .any e = true) :
    ∀ (f : Nat) (listed : Array Bool) (a' : Act) (w' : World), left n listed = f → HI ops n a W F listed a' w' → wpAny P .any ops Q (f + (ops.size - n)) listed a' w' := by
  have hdl : (l.drop n).length = ops.size - n := by rw [List.length_drop, ← hl]; simp
  intro f
  induction f with
  | zero =>
    intro listed a' w' hlf hi
    have hall := left_zero hlf
    have e1 : listed = headListed ops n := by
      apply Array.ext
      · rw [hi.lsize]; simp [headListed]
      · intro k h1 h2
        have hk : k < ops.size := by rw [← hi.lsize]; exact h1
        have e3 : (headListed ops n)[k] = decide (k < n) := by simp [headListed]
        rw [e3]
        by_cases hkn : k < n
        · have := hall k hkn
          simp [h1] at this
          rw [this]; simp [hkn]
        · have := hi.tail k (by omega)
          simp [h1] at this
          rw [this]; simp [hkn]
    have e2 : a' = putAll ops a (fun i => a'.tmps.getD ((dstOf ops i).getD 0) undef) n := by
      have es : a'.tmps = (putAll ops a (fun i => a'.tmps.getD ((dstOf ops i).getD 0) undef) n).tmps := by
        apply Array.ext_getElem?
        intro s
        by_cases hs : ∃ i, i < n ∧ dstOf ops i = some s
        · obtain ⟨i, hin, hd⟩ := hs
          obtain ⟨d, hd', hlt⟩ := hh.dst i hin
          rw [hd] at hd'
          injection hd' with hd'
          subst hd'
          rw [putAll_in hlt hd hin fun j hj hji e => hji (hh.inj j i s hj hin e hd)]
          have : s < a'.tmps.size := by rw [hi.size]; exact hlt
          simp [hd, this]
        · rw [putAll_out fun j hj e => hs ⟨j, hj, e⟩]
          exact hi.out s fun j hj e => hs ⟨j, hj, e⟩
      have ed : a'.defers = (putAll ops a (fun i => a'.tmps.getD ((dstOf ops i).getD 0) undef) n).defers := by rw [putAll_defers]; exact hi.defers
      cases ha : a' with
      | mk t d =>
        rw [ha] at es ed
        cases hp : putAll ops a (fun i => (Act.mk t d).tmps.getD ((dstOf ops i).getD 0) undef) n with
        | mk t2 d2 =>
          rw [hp] at es ed
          simp only at es ed
          rw [es, ed]
    rw [Nat.zero_add, ← hdl]
    subst e1
    refine wpAny_of_seq (l.drop n) n _ a' w' (fun j => by rw [List.getElem?_drop, ← hl]; simp) (by rw [hdl]; exact hseq) ?_
    rw [e2]
    exact hfin _ w' hi.grow fun i hin => by
      obtain ⟨d, hd, _⟩ := hh.dst i hin
      have := hi.facts i d hin (hall i hin) hd
      simp only [hd, Option.getD_some]
      exact this
  | succ f ih =>
    intro listed a' w' hlf hi
    rw [show f + 1 + (ops.size - n) = (f + (ops.size - n)) + 1 by omega]
    have hle := hh.le
    refine ⟨fun h0 => ?_, fun i hr => ?_⟩
    · exfalso
      have hex : ∃ i, i < n ∧ listed.getD i false = false := by
        have hne : (List.range n).filter (fun i => !listed.getD i false) ≠ [] := fun e => by
          unfold left at hlf
          rw [e] at hlf
          cases hlf
        obtain ⟨i, hi'⟩ := List.exists_mem_of_ne_nil _ hne
        rw [List.mem_filter, List.mem_range] at hi'
        exact ⟨i, hi'.1, by simpa using hi'.2⟩
      have key : ∀ i, i < n → listed.getD i false = true := by
        intro i
        induction i using Nat.strongRecOn with
        | _ i ihi =>
          intro hin
          cases hli : listed.getD i false with
          | true => rfl
          | false =>
            exfalso
            have hil : i < listed.size := by rw [hi.lsize]; omega
            have hmem : i ∈ Region.ready .any ops listed := by
              rw [mem_ready]
              have hio : i < ops.size := by omega
              refine ⟨getD_in hil hli, ops[i], by simp [hio], fun e he _ => ?_⟩
              have hlt := hh.back i _ hin (by simp [hio]) e he
              exact ihi e.on hlt (by omega)
            rw [h0] at hmem
            cases hmem
      obtain ⟨i, hin, hlf'⟩ := hex
      rw [key i hin] at hlf'
      cases hlf'
    · obtain ⟨hun, o, ho, hall⟩ := mem_ready.1 hr
      have hun' := getD_both hun
      have hio : i < ops.size := (Array.getElem?_eq_some_iff.1 ho).1
      have hin : i < n := by
        rcases Nat.lt_or_ge i n with h | h
        · exact h
        · exfalso
          have hz : left n listed = 0 := by
            unfold left
            rw [List.length_eq_zero_iff, List.filter_eq_nil_iff]
            intro j hj
            obtain ⟨e, he, hon, hbd⟩ := hh.cover i o h ho j (List.mem_range.1 hj)
            have := hall e he hbd
            rw [hon] at this
            rw [this]
            simp
          omega
      have hil : i < listed.size := by rw [hi.lsize]; exact hio
      unfold wpOp
      rw [ho]
      have hwant : Region.wanted o (yielded ops a'.tmps) = true := by
        rcases hh.guard i o hin ho with hg | ⟨j, b, hg, e, he, hon, hbd⟩
        · simp [Region.wanted, hg]
        · have hjn : j < n := by have := hh.back i o hin ho e he; omega
          obtain ⟨d, hd, hdlt⟩ := hh.dst j hjn
          have hv := hG i o j b hin ho hg _ _ (hi.facts j d hjn (by rw [← hon]; exact hall e he hbd) hd)
          have hds : d < a'.tmps.size := by rw [hi.size]; exact hdlt
          have ht : a'.tmps[d]? = some (.bool b) := by
            have e9 : a'.tmps.getD d undef = a'.tmps[d] := by simp [hds]
            rw [e9] at hv
            rw [Array.getElem?_eq_getElem hds, hv]
          have hy : yielded ops a'.tmps j = some b := by
            unfold yielded
            have e8 : ((ops[j]?).bind (·.dst)) = some d := hd
            rw [e8]
            simp [ht]
          simp [Region.wanted, hg, hy]
      simp only [hwant, if_true]
      refine .inl (hstep i o hin ho a' w' hi.grow hi.out (fun e he d hd => ?_) _ fun v w'' hfv hbl => ?_)
      · exact hi.facts e.on d (Nat.lt_trans (hh.back i o hin ho e he) hin) (hall e he (hb i o ho e he)) hd
      · obtain ⟨d, hd, hdl'⟩ := hh.dst i hin
        have hod : o.dst = some d := by
          have : dstOf ops i = o.dst := by unfold dstOf; rw [ho]; rfl
          rw [← this]; exact hd
        refine ih _ _ _ ?_ ⟨by simpa using hi.lsize, fun t ht => by rw [getD_set_ne false (by omega)]; exact hi.tail t ht, ?_, ?_, fun s hs => ?_, fun j d' hj hlj hdj => ?_, hi.grow.trans (hbl.mono hi.grow.size)⟩
        · have := left_set hin hil hun'
          omega
        · rw [hod]; exact hi.defers
        · rw [hod]; simpa [Act.put] using hi.size
        · rw [hod]
          simp only [Act.put]
          rw [Array.getElem?_setIfInBounds_ne (fun e => hs i hin (by rw [hd, e]))]
          exact hi.out s hs
        · rw [hod]
          by_cases hji : j = i
          · subst hji
            rw [hd] at hdj
            injection hdj with hdj
            subst hdj
            have : d < a'.tmps.size := by rw [hi.size]; exact hdl'
            simp only [Act.put]
            simpa [this] using hfv
          · have hne : d ≠ d' := fun e => hji (hh.inj j i d' hj hin hdj (e ▸ hd))
            rw [getD_set_ne false (fun e => hji e.symm)] at hlj
            have h9 := hF j _ _ _ (hi.facts j d' hj hlj hdj) hbl
            simp only [Act.put]
            simpa [Array.getElem?_setIfInBounds_ne hne] using h9
end
section
variable {P : Program} {ops : Array Oper} {Q : Exit → Act → World → Prop} {n : Nat} {a : Act} {W : World} {F : Nat → Value → World → Prop}
/-- THE RULE. -/
theorem wp_region_factsG {id : Nat} {l : List Oper} {w : World} (n : Nat) (ds : List Nat) (F : Nat → Value → World → Prop) (hm : P.follows .mixedOrders = true) (hok : headOkG l.toArray n a.tmps.size = true) (hds : ((List.range n).map (dstOf l.toArray) == ds.map some) = true) (hseq : Region.seqB .any l.toArray (l.toArray.size - n) n (headListed l.toArray n) = true)
    (hbind : (l.all fun o => o.after.all fun e => Region.binds .any e) = true)
    (hG : ∀ (i : Nat) (o : Oper) (j : Nat) (b : Bool), i < n → l[i]? = some o → o.guard = some (j, b) → ∀ v w, F j v w → v = .bool b)
    (hF : ∀ i v w w', F i v w → Below w.heap.size w w' → F i v w')
    (hstep : ∀ i o, i < n → l[i]? = some o → ∀ a' w', Below w.heap.size w w' → (∀ s, s ∉ ds → a'.tmps[s]? = a.tmps[s]?) →
      (∀ e ∈ o.after, ∀ d, ds[e.on]? = some d → F e.on (a'.tmps.getD d undef) w') → ∀ K : Act → World → Prop, (∀ v w'', F i v w'' → Below w'.heap.size w' w'' → K (a'.put o.dst v) w'') → o.wp P a' w' K Q)
    (hfin : ∀ us w', Below w.heap.size w w' → (∀ i, i < n → F i (us i) w') → wpList P l.toArray Q (l.drop n) (putL us a ds 0) w') : (Code.region id l.toArray true).wp P Q a w := by
  have hh := headFactsG hok
  have hdl := beq_iff_eq.1 hds
  have hlen : ds.length = n := by
    have := congrArg List.length hdl
    simpa using this.symm
  have hdi : ∀ i, i < n → dstOf l.toArray i = ds[i]? := fun i hi => by
    have := congrArg (·[i]?) hdl
    simp only [List.getElem?_map, List.getElem?_range hi, Option.map_some] at this
    rw [List.getElem?_eq_getElem (by omega)] at this ⊢
    simpa using this
  refine wp_region_any hm ?_
  have hb : ∀ (i : Nat) (o : Oper), l.toArray[i]? = some o → ∀ e ∈ o.after, Region.binds .any e = true := fun i o ho e he => by
    have hmem : o ∈ l := by
      have : l[i]? = some o := by simpa using ho
      exact List.mem_of_getElem? this
    have h1 := List.all_eq_true.1 hbind o hmem
    rw [Array.all_eq_true] at h1
    obtain ⟨k, hk, rfl⟩ := Array.getElem_of_mem he
    exact h1 k hk
  have hl0 : left n (Array.replicate l.toArray.size false) = n := by
    unfold left
    rw [List.filter_eq_self.2 fun i _ => by rw [getD_replicate_false]; rfl, List.length_range]
  have hsz : l.toArray.size = n + (l.toArray.size - n) := by have := hh.le; omega
  have hD : Below w.heap.size w { w with drawn := w.drawn + 1 } := ⟨rfl, rfl, rfl, Nat.le_refl _, fun _ _ => rfl⟩
  have key := wpAny_factsG (P := P) (Q := Q) (ops := l.toArray) (n := n) (a := a) (W := w) (F := F) rfl hh hseq (fun i o j b hi ho hg => hG i o j b hi (by simpa using ho) hg) hF
    (fun i o hi ho a' w' hb' hout hpre => hstep i o hi (by simpa using ho) a' w' hb'
      (fun s hs => hout s fun j hj e => hs (by rw [hdi j hj] at e; exact List.mem_of_getElem? e))
      (fun e he d hd => hpre e he d (by
        have hlt := hh.back i o hi ho e he
        rw [hdi e.on (by omega)]; exact hd)))
    (fun us w' hb' hf => by
      have := hfin us w' hb' hf
      rw [← List.take_of_length_le (l := ds) (i := n) (by omega)] at this
      rw [putAll_eq n (by omega) hdi]
      exact this) hb n (Array.replicate l.toArray.size false) a { w with drawn := w.drawn + 1 } hl0
    ⟨by simp, fun t _ => getD_replicate_false _ _, rfl, rfl, fun _ _ => rfl, fun i d _ h _ => (by rw [getD_replicate_false] at h; cases h), hD⟩
  rw [← hsz] at key
  exact key
end
end Go.Proofs.YtkhedjfdjjeopaaGreatDoor
/-
  Contracts of package calendar: leap, monthDays, yearDays, valid, DayNumber, matches, number, ParseDate, ParseClock, ParseInstant.
  Condition: numbers are small, the string's length fits an int.
-/
namespace Go.Proofs.YtkhedjfdjjeopaaGreatDoor
set_option linter.unusedSimpArgs false
set_option linter.unusedVariables false
open Go.RowKit

theorem leap_any (y : Int) (w : World) (h0 : 0 ≤ y) (h1 : y ≤ 100000) : Calls Tryz.prog 139 #[.int .i64 y] w fun e w' => e = .returned (.bool (leapB y)) ∧ w = w' := by
  have HL : Hid (leapB y = (decide (y % 4 = 0) && (decide (y % 100 ≠ 0) || decide (y % 400 = 0)))) := rfl
  by_cases a : y % 4 = 0
  · have a' : (y % 4 == 0) = true := by simpa using a
    by_cases b : y % 100 = 0
    · have b' : (y % 100 != 0) = false := by simpa using b
      by_cases c : y % 400 = 0
      · have c' : (y % 400 == 0) = true := by simpa using c
        have HR : Hid (leapB y = true) := by show _ = _; rw [HL.out]; simp [a, b, c]
        clear a b c
        go_enter Tryz.func139, Tryz.ntmps139
        go_wp2_with fail
        go_ret
        exact ⟨ret_bool HR.out.symm, rfl⟩
      · have c' : (y % 400 == 0) = false := by simpa using c
        have HR : Hid (leapB y = false) := by show _ = _; rw [HL.out]; simp [a, b, c]
        clear a b c
        go_enter Tryz.func139, Tryz.ntmps139
        go_wp2_with fail
        go_ret
        exact ⟨ret_bool HR.out.symm, rfl⟩
    · have b' : (y % 100 != 0) = true := by simpa using b
      have HR : Hid (leapB y = true) := by show _ = _; rw [HL.out]; simp [a, b]
      clear a b
      go_enter Tryz.func139, Tryz.ntmps139
      go_wp2_with fail
      go_ret
      exact ⟨ret_bool HR.out.symm, rfl⟩
  · have a' : (y % 4 == 0) = false := by simpa using a
    have HR : Hid (leapB y = false) := by show _ = _; rw [HL.out]; simp [a]
    clear a
    go_enter Tryz.func139, Tryz.ntmps139
    go_wp2_with fail
    go_ret
    exact ⟨ret_bool HR.out.symm, rfl⟩
theorem yearDays_any (y : Int) (w : World) (h0 : 0 ≤ y) (h1 : y ≤ 100000) : Calls Tryz.prog 112 #[.int .i64 y] w fun e w' => e = .returned (.int .i64 (yDays y)) ∧ w = w' := by
  have HC := Lib.hid (leap_any y w h0 h1)
  have HY : Hid (yDays y = if leapB y = true then 366 else 365) := rfl
  go_enter Tryz.func112, Tryz.ntmps112
  go_wp2_with fail
  refine HC.out.mono ?_
  rintro e w' ⟨rfl, rfl⟩
  cases hl : leapB y
  · have HR : Hid (yDays y = 365) := by show _ = _; rw [HY.out, hl]; rfl
    go_wp2_with fail
    go_ret
    exact ⟨ret_int HR.out.symm, rfl⟩
  · have HR : Hid (yDays y = 366) := by show _ = _; rw [HY.out, hl]; rfl
    go_wp2_with fail
    go_ret
    exact ⟨ret_int HR.out.symm, rfl⟩
def monCells : Array Value := #[.int .i64 31, .int .i64 28, .int .i64 31, .int .i64 30, .int .i64 31, .int .i64 30, .int .i64 31, .int .i64 31, .int .i64 30, .int .i64 31, .int .i64 30, .int .i64 31]
theorem mon_cell (k : Nat) (h : k < 12) : monCells[k]? = some (.int .i64 (mTab.getD k 0)) := by
  have : k = 0 ∨ k = 1 ∨ k = 2 ∨ k = 3 ∨ k = 4 ∨ k = 5 ∨ k = 6 ∨ k = 7 ∨ k = 8 ∨ k = 9 ∨ k = 10 ∨ k = 11 := by omega
  rcases this with rfl | rfl | rfl | rfl | rfl | rfl | rfl | rfl | rfl | rfl | rfl | rfl <;> rfl
set_option maxRecDepth 100000 in
theorem monthDays_any (y m : Int) (w : World) (h0 : 0 ≤ y) (h1 : y ≤ 100000) (m0 : 1 ≤ m) (m1 : m ≤ 12) : Calls Tryz.prog 113 #[.int .i64 y, .int .i64 m] w (IntPost (mDays y m) w) := by
  have hb0 := (Below.refl w.heap.size w).alloc (Nat.le_refl _) (.cells monCells 172)
  have hr0 := heap_alloc_new w (.cells monCells 172)
  have hc : (w.alloc (.cells monCells 172)).cell? ⟨w.heap.size, (m - 1).toNat, none⟩ = some (.int .i64 (mTab.getD (m - 1).toNat 0)) := (block_cell hr0 _).trans (mon_cell _ (by omega))
  have hme : (m - 1).toNat = m.toNat - 1 := by omega
  have hc2 : (w.alloc (.cells monCells 172)).cell? ⟨w.heap.size, m.toNat - 1, none⟩ = some (.int .i64 (mTab.getD (m - 1).toNat 0)) := by rw [← hme]; exact hc
  have hc3 : monCells[m.toNat - 1]? = some (.int .i64 (mTab.getD (m - 1).toNat 0)) := by rw [← hme]; exact mon_cell _ (by omega)
  have HB := Lib.hid hb0
  have HM : Hid (mDays y m = if m = 2 ∧ leapB y = true then 29 else mTab.getD (m - 1).toNat 0) := rfl
  have HC := Lib.hid (leap_any y (w.alloc (.cells monCells 172)) h0 h1)
  unfold monCells at hc hc2 hc3 HB HC
  have q1 : IntKind.i64.wrap (m - 1) = m - 1 := IntWalk.i64_in _ (by omega)
  have q2 : 0 ≤ m - 1 := by omega
  have q3 : m - 1 < 12 := by omega
  clear hb0 hr0 hme
  go_enter Tryz.func113, Tryz.ntmps113
  by_cases hm : m = 2
  · subst hm
    go_wp2_with fail
    refine HC.out.mono ?_
    rintro e w' ⟨rfl, rfl⟩
    cases hl : leapB y
    · have HR : Hid (mDays y 2 = 28) := by show _ = _; rw [HM.out, hl]; rfl
      go_wp2_with fail
      go_ret
      exact ⟨ret_int HR.out.symm, HB.out⟩
    · have HR : Hid (mDays y 2 = 29) := by show _ = _; rw [HM.out, hl]; simp
      go_wp2_with fail
      go_ret
      exact ⟨ret_int HR.out.symm, HB.out⟩
  · have hm' : (m == 2) = false := by simpa using hm
    have HR : Hid (mDays y m = mTab.getD (m - 1).toNat 0) := by show _ = _; rw [HM.out, if_neg (fun h => hm h.1)]
    generalize mTab.getD (m - 1).toNat 0 = md at *
    clear hm
    go_wp2_with fail
    go_ret
    exact ⟨ret_int HR.out.symm, HB.out⟩
/-- What the operations of valid's region leave, where all its guards are met. -/
def valF (w : World) (y m d md : Int) (R : Bool) (k : Nat) (v : Value) (_ : World) : Prop := ([.pointer (some ⟨w.heap.size, 0, none⟩), .int .i64 y, .bool true, .bool true, .pointer (some ⟨w.heap.size, 0, none⟩), .int .i64 y, .bool true, .bool true, .bool true, .pointer (some ⟨w.heap.size, 1, none⟩), .int .i64 m, .bool true, .bool true, .bool true, .pointer (some ⟨w.heap.size, 1, none⟩), .int .i64 m, .bool true, .bool true, .bool true, .pointer (some ⟨w.heap.size, 2, none⟩), .int .i64 d, .bool true, .bool true, .bool true, .pointer (some ⟨w.heap.size, 2, none⟩), .int .i64 d, .pointer (some ⟨w.heap.size, 0, none⟩), .int .i64 y, .pointer (some ⟨w.heap.size, 1, none⟩), .int .i64 m, .int .i64 md, .bool R, .bool R] : List Value)[k]? = some v
def BoolPostC (x : Bool) (w : World) (e : Ending) (w' : World) : Prop := e = .returned (.bool x) ∧ Below w.heap.size w w'
set_option maxRecDepth 100000 in
set_option maxHeartbeats 800000 in
theorem valid_any (y m d : Int) (w : World) : Calls Tryz.prog 114 #[.agg #[.int .i64 y, .int .i64 m, .int .i64 d]] w (BoolPostC (validB y m d) w) := by
  have hb0 := (Below.refl w.heap.size w).alloc (Nat.le_refl _) (.cells #[.int .i64 y, .int .i64 m, .int .i64 d] 134)
  have hr0 := heap_alloc_new w (.cells #[.int .i64 y, .int .i64 m, .int .i64 d] 134)
  have HB := Lib.hid hb0
  have HBD : Hid (∀ q, Below w.heap.size w ((w.alloc (.cells #[.int .i64 y, .int .i64 m, .int .i64 d] 134)).drewN q)) := fun q => below_drewN hb0 q
  have HC : Hid (0 ≤ y → y ≤ 100000 → 1 ≤ m → m ≤ 12 → ∀ q, Calls Tryz.prog 113 #[.int .i64 y, .int .i64 m] ((w.alloc (.cells #[.int .i64 y, .int .i64 m, .int .i64 d] 134)).drewN q) (IntPost (mDays y m) ((w.alloc (.cells #[.int .i64 y, .int .i64 m, .int .i64 d] 134)).drewN q))) := fun h0 h1 h2 h3 q => monthDays_any y m _ h0 h1 h2 h3
  have HV : Hid (validB y m d = (decide (1999 ≤ y) && decide (y ≤ 2100) && decide (1 ≤ m) && decide (m ≤ 12) && decide (1 ≤ d) && decide (d ≤ mDays y m))) := rfl
  have x0 := block_cell hr0 0; have x1 := block_cell hr0 1; have x2 := block_cell hr0 2
  generalize validB y m d = V at *
  clear hb0 hr0
  go_enter Tryz.func114, Tryz.ntmps114
  go_wp2_with fail
  have HBW := Lib.hid HB.out
  generalize w.alloc (.cells #[.int .i64 y, .int .i64 m, .int .i64 d] 134) = W at *
  by_cases a1 : 1999 ≤ y
  case neg =>
    have HR : Hid (V = false) := by show _ = _; rw [HV.out, decide_eq_false a1]; simp
    go_quiet (fail)
    go_wp2_with fail
    go_ret
    exact ⟨ret_bool HR.out.symm, HBD.out _⟩
  by_cases a2 : y ≤ 2100
  case neg =>
    have HR : Hid (V = false) := by show _ = _; rw [HV.out, decide_eq_false a2]; simp
    go_quiet (fail)
    go_wp2_with fail
    go_ret
    exact ⟨ret_bool HR.out.symm, HBD.out _⟩
  by_cases a3 : 1 ≤ m
  case neg =>
    have HR : Hid (V = false) := by show _ = _; rw [HV.out, decide_eq_false a3]; simp
    go_quiet (fail)
    go_wp2_with fail
    go_ret
    exact ⟨ret_bool HR.out.symm, HBD.out _⟩
  by_cases a4 : m ≤ 12
  case neg =>
    have HR : Hid (V = false) := by show _ = _; rw [HV.out, decide_eq_false a4]; simp
    go_quiet (fail)
    go_wp2_with fail
    go_ret
    exact ⟨ret_bool HR.out.symm, HBD.out _⟩
  by_cases a5 : 1 ≤ d
  case neg =>
    have HR : Hid (V = false) := by show _ = _; rw [HV.out, decide_eq_false a5]; simp
    go_quiet (fail)
    go_wp2_with fail
    go_ret
    exact ⟨ret_bool HR.out.symm, HBD.out _⟩
  have HR : Hid (V = decide (d ≤ mDays y m)) := by show _ = _; rw [HV.out, decide_eq_true a1, decide_eq_true a2, decide_eq_true a3, decide_eq_true a4, decide_eq_true a5]; simp
  have HCC : Hid (∀ V : World, Calls Tryz.prog 113 #[.int .i64 y, .int .i64 m] V (IntPost (mDays y m) V)) := fun V => monthDays_any y m V (by omega) (by omega) a3 a4
  generalize mDays y m = md at *
  generalize hR : decide (d ≤ md) = R at *
  have hdl : (d ≤ md) ∨ ¬ (d ≤ md) := Classical.em _
  refine wp_region_factsG 33 [3, 4, 5, 6, 7, 8, 9, 10, 11, 12, 13, 14, 15, 16, 17, 18, 19, 20, 21, 22, 23, 24, 25, 26, 27, 28, 29, 30, 31, 32, 33, 34, 35] (valF w y m d md R) (by kernel_rfl) (by kernel_rfl) (by kernel_rfl) (by kernel_rfl) (by kernel_rfl) ?gd (fun _ _ _ _ h _ => h) ?_ ?_
  case gd =>
    intro i o j b hi ho hg v ww hv
    have hi' : i = 0 ∨ i = 1 ∨ i = 2 ∨ i = 3 ∨ i = 4 ∨ i = 5 ∨ i = 6 ∨ i = 7 ∨ i = 8 ∨ i = 9 ∨ i = 10 ∨ i = 11 ∨ i = 12 ∨ i = 13 ∨ i = 14 ∨ i = 15 ∨ i = 16 ∨ i = 17 ∨ i = 18 ∨ i = 19 ∨ i = 20 ∨ i = 21 ∨ i = 22 ∨ i = 23 ∨ i = 24 ∨ i = 25 ∨ i = 26 ∨ i = 27 ∨ i = 28 ∨ i = 29 ∨ i = 30 ∨ i = 31 ∨ i = 32 := by omega
    rcases hi' with rfl | rfl | rfl | rfl | rfl | rfl | rfl | rfl | rfl | rfl | rfl | rfl | rfl | rfl | rfl | rfl | rfl | rfl | rfl | rfl | rfl | rfl | rfl | rfl | rfl | rfl | rfl | rfl | rfl | rfl | rfl | rfl | rfl
    all_goals
      obtain rfl := Option.some.inj ho
      first
        | (cases hg; exact (Option.some.inj hv).symm)
        | (cases hg)
  · intro q o hq ho a' w' hb' hout hpre K hK
    clear HV HR HBD HB HC
    have hq' : q = 0 ∨ q = 1 ∨ q = 2 ∨ q = 3 ∨ q = 4 ∨ q = 5 ∨ q = 6 ∨ q = 7 ∨ q = 8 ∨ q = 9 ∨ q = 10 ∨ q = 11 ∨ q = 12 ∨ q = 13 ∨ q = 14 ∨ q = 15 ∨ q = 16 ∨ q = 17 ∨ q = 18 ∨ q = 19 ∨ q = 20 ∨ q = 21 ∨ q = 22 ∨ q = 23 ∨ q = 24 ∨ q = 25 ∨ q = 26 ∨ q = 27 ∨ q = 28 ∨ q = 29 ∨ q = 30 ∨ q = 31 ∨ q = 32 := by omega
    rcases hq' with rfl | rfl | rfl | rfl | rfl | rfl | rfl | rfl | rfl | rfl | rfl | rfl | rfl | rfl | rfl | rfl | rfl | rfl | rfl | rfl | rfl | rfl | rfl | rfl | rfl | rfl | rfl | rfl | rfl | rfl | rfl | rfl | rfl
    · obtain rfl := Option.some.inj ho
      have e1 : a'.tmps[1]? = some (.pointer (some ⟨w.heap.size, 0, none⟩)) := hout 1 (by decide)
      go_simp
      exact hK (.pointer (some ⟨w.heap.size, 0, none⟩)) w' rfl (Below.refl _ _)
    · obtain rfl := Option.some.inj ho
      have p0 : a'.tmps.getD 3 undef = .pointer (some ⟨w.heap.size, 0, none⟩) := (Option.some.inj (hpre ⟨0, .data⟩ (by simp) 3 rfl)).symm
      simp only [Array.getD_eq_getD_getElem?] at p0
      have hx := (hb'.cell (World.block_lt_of_cell? _ _ x0)).trans x0
      go_simp
      exact hK (.int .i64 y) w' rfl (Below.refl _ _)
    · obtain rfl := Option.some.inj ho
      have p1 : a'.tmps.getD 4 undef = .int .i64 y := (Option.some.inj (hpre ⟨1, .data⟩ (by simp) 4 rfl)).symm
      simp only [Array.getD_eq_getD_getElem?] at p1
      go_simp
      exact hK (.bool true) w' rfl (Below.refl _ _)
    · obtain rfl := Option.some.inj ho
      have p2 : a'.tmps.getD 5 undef = .bool true := (Option.some.inj (hpre ⟨2, .data⟩ (by simp) 5 rfl)).symm
      simp only [Array.getD_eq_getD_getElem?] at p2
      go_simp
      exact hK (.bool true) w' rfl (Below.refl _ _)
    · obtain rfl := Option.some.inj ho
      have e1 : a'.tmps[1]? = some (.pointer (some ⟨w.heap.size, 0, none⟩)) := hout 1 (by decide)
      go_simp
      exact hK (.pointer (some ⟨w.heap.size, 0, none⟩)) w' rfl (Below.refl _ _)
    · obtain rfl := Option.some.inj ho
      have p4 : a'.tmps.getD 7 undef = .pointer (some ⟨w.heap.size, 0, none⟩) := (Option.some.inj (hpre ⟨4, .data⟩ (by simp) 7 rfl)).symm
      simp only [Array.getD_eq_getD_getElem?] at p4
      have hx := (hb'.cell (World.block_lt_of_cell? _ _ x0)).trans x0
      go_simp
      exact hK (.int .i64 y) w' rfl (Below.refl _ _)
    · obtain rfl := Option.some.inj ho
      have p5 : a'.tmps.getD 8 undef = .int .i64 y := (Option.some.inj (hpre ⟨5, .data⟩ (by simp) 8 rfl)).symm
      simp only [Array.getD_eq_getD_getElem?] at p5
      go_simp
      exact hK (.bool true) w' rfl (Below.refl _ _)
    · obtain rfl := Option.some.inj ho
      have p3 : a'.tmps.getD 6 undef = .bool true := (Option.some.inj (hpre ⟨3, .data⟩ (by simp) 6 rfl)).symm
      simp only [Array.getD_eq_getD_getElem?] at p3
      have p6 : a'.tmps.getD 9 undef = .bool true := (Option.some.inj (hpre ⟨6, .data⟩ (by simp) 9 rfl)).symm
      simp only [Array.getD_eq_getD_getElem?] at p6
      go_simp
      exact hK (.bool true) w' rfl (Below.refl _ _)
    · obtain rfl := Option.some.inj ho
      have p7 : a'.tmps.getD 10 undef = .bool true := (Option.some.inj (hpre ⟨7, .data⟩ (by simp) 10 rfl)).symm
      simp only [Array.getD_eq_getD_getElem?] at p7
      go_simp
      exact hK (.bool true) w' rfl (Below.refl _ _)
    · obtain rfl := Option.some.inj ho
      have e1 : a'.tmps[1]? = some (.pointer (some ⟨w.heap.size, 0, none⟩)) := hout 1 (by decide)
      go_simp
      exact hK (.pointer (some ⟨w.heap.size, 1, none⟩)) w' rfl (Below.refl _ _)
    · obtain rfl := Option.some.inj ho
      have p9 : a'.tmps.getD 12 undef = .pointer (some ⟨w.heap.size, 1, none⟩) := (Option.some.inj (hpre ⟨9, .data⟩ (by simp) 12 rfl)).symm
      simp only [Array.getD_eq_getD_getElem?] at p9
      have hx := (hb'.cell (World.block_lt_of_cell? _ _ x1)).trans x1
      go_simp
      exact hK (.int .i64 m) w' rfl (Below.refl _ _)
    · obtain rfl := Option.some.inj ho
      have p10 : a'.tmps.getD 13 undef = .int .i64 m := (Option.some.inj (hpre ⟨10, .data⟩ (by simp) 13 rfl)).symm
      simp only [Array.getD_eq_getD_getElem?] at p10
      go_simp
      exact hK (.bool true) w' rfl (Below.refl _ _)
    · obtain rfl := Option.some.inj ho
      have p8 : a'.tmps.getD 11 undef = .bool true := (Option.some.inj (hpre ⟨8, .data⟩ (by simp) 11 rfl)).symm
      simp only [Array.getD_eq_getD_getElem?] at p8
      have p11 : a'.tmps.getD 14 undef = .bool true := (Option.some.inj (hpre ⟨11, .data⟩ (by simp) 14 rfl)).symm
      simp only [Array.getD_eq_getD_getElem?] at p11
      go_simp
      exact hK (.bool true) w' rfl (Below.refl _ _)
    · obtain rfl := Option.some.inj ho
      have p12 : a'.tmps.getD 15 undef = .bool true := (Option.some.inj (hpre ⟨12, .data⟩ (by simp) 15 rfl)).symm
      simp only [Array.getD_eq_getD_getElem?] at p12
      go_simp
      exact hK (.bool true) w' rfl (Below.refl _ _)
    · obtain rfl := Option.some.inj ho
      have e1 : a'.tmps[1]? = some (.pointer (some ⟨w.heap.size, 0, none⟩)) := hout 1 (by decide)
      go_simp
      exact hK (.pointer (some ⟨w.heap.size, 1, none⟩)) w' rfl (Below.refl _ _)
    · obtain rfl := Option.some.inj ho
      have p14 : a'.tmps.getD 17 undef = .pointer (some ⟨w.heap.size, 1, none⟩) := (Option.some.inj (hpre ⟨14, .data⟩ (by simp) 17 rfl)).symm
      simp only [Array.getD_eq_getD_getElem?] at p14
      have hx := (hb'.cell (World.block_lt_of_cell? _ _ x1)).trans x1
      go_simp
      exact hK (.int .i64 m) w' rfl (Below.refl _ _)
    · obtain rfl := Option.some.inj ho
      have p15 : a'.tmps.getD 18 undef = .int .i64 m := (Option.some.inj (hpre ⟨15, .data⟩ (by simp) 18 rfl)).symm
      simp only [Array.getD_eq_getD_getElem?] at p15
      go_simp
      exact hK (.bool true) w' rfl (Below.refl _ _)
    · obtain rfl := Option.some.inj ho
      have p13 : a'.tmps.getD 16 undef = .bool true := (Option.some.inj (hpre ⟨13, .data⟩ (by simp) 16 rfl)).symm
      simp only [Array.getD_eq_getD_getElem?] at p13
      have p16 : a'.tmps.getD 19 undef = .bool true := (Option.some.inj (hpre ⟨16, .data⟩ (by simp) 19 rfl)).symm
      simp only [Array.getD_eq_getD_getElem?] at p16
      go_simp
      exact hK (.bool true) w' rfl (Below.refl _ _)
    · obtain rfl := Option.some.inj ho
      have p17 : a'.tmps.getD 20 undef = .bool true := (Option.some.inj (hpre ⟨17, .data⟩ (by simp) 20 rfl)).symm
      simp only [Array.getD_eq_getD_getElem?] at p17
      go_simp
      exact hK (.bool true) w' rfl (Below.refl _ _)
    · obtain rfl := Option.some.inj ho
      have e1 : a'.tmps[1]? = some (.pointer (some ⟨w.heap.size, 0, none⟩)) := hout 1 (by decide)
      go_simp
      exact hK (.pointer (some ⟨w.heap.size, 2, none⟩)) w' rfl (Below.refl _ _)
    · obtain rfl := Option.some.inj ho
      have p19 : a'.tmps.getD 22 undef = .pointer (some ⟨w.heap.size, 2, none⟩) := (Option.some.inj (hpre ⟨19, .data⟩ (by simp) 22 rfl)).symm
      simp only [Array.getD_eq_getD_getElem?] at p19
      have hx := (hb'.cell (World.block_lt_of_cell? _ _ x2)).trans x2
      go_simp
      exact hK (.int .i64 d) w' rfl (Below.refl _ _)
    · obtain rfl := Option.some.inj ho
      have p20 : a'.tmps.getD 23 undef = .int .i64 d := (Option.some.inj (hpre ⟨20, .data⟩ (by simp) 23 rfl)).symm
      simp only [Array.getD_eq_getD_getElem?] at p20
      go_simp
      exact hK (.bool true) w' rfl (Below.refl _ _)
    · obtain rfl := Option.some.inj ho
      have p18 : a'.tmps.getD 21 undef = .bool true := (Option.some.inj (hpre ⟨18, .data⟩ (by simp) 21 rfl)).symm
      simp only [Array.getD_eq_getD_getElem?] at p18
      have p21 : a'.tmps.getD 24 undef = .bool true := (Option.some.inj (hpre ⟨21, .data⟩ (by simp) 24 rfl)).symm
      simp only [Array.getD_eq_getD_getElem?] at p21
      go_simp
      exact hK (.bool true) w' rfl (Below.refl _ _)
    · obtain rfl := Option.some.inj ho
      have p22 : a'.tmps.getD 25 undef = .bool true := (Option.some.inj (hpre ⟨22, .data⟩ (by simp) 25 rfl)).symm
      simp only [Array.getD_eq_getD_getElem?] at p22
      go_simp
      exact hK (.bool true) w' rfl (Below.refl _ _)
    · obtain rfl := Option.some.inj ho
      have e1 : a'.tmps[1]? = some (.pointer (some ⟨w.heap.size, 0, none⟩)) := hout 1 (by decide)
      go_simp
      exact hK (.pointer (some ⟨w.heap.size, 2, none⟩)) w' rfl (Below.refl _ _)
    · obtain rfl := Option.some.inj ho
      have p24 : a'.tmps.getD 27 undef = .pointer (some ⟨w.heap.size, 2, none⟩) := (Option.some.inj (hpre ⟨24, .data⟩ (by simp) 27 rfl)).symm
      simp only [Array.getD_eq_getD_getElem?] at p24
      have hx := (hb'.cell (World.block_lt_of_cell? _ _ x2)).trans x2
      go_simp
      exact hK (.int .i64 d) w' rfl (Below.refl _ _)
    · obtain rfl := Option.some.inj ho
      have e1 : a'.tmps[1]? = some (.pointer (some ⟨w.heap.size, 0, none⟩)) := hout 1 (by decide)
      go_simp
      exact hK (.pointer (some ⟨w.heap.size, 0, none⟩)) w' rfl (Below.refl _ _)
    · obtain rfl := Option.some.inj ho
      have p26 : a'.tmps.getD 29 undef = .pointer (some ⟨w.heap.size, 0, none⟩) := (Option.some.inj (hpre ⟨26, .data⟩ (by simp) 29 rfl)).symm
      simp only [Array.getD_eq_getD_getElem?] at p26
      have hx := (hb'.cell (World.block_lt_of_cell? _ _ x0)).trans x0
      go_simp
      exact hK (.int .i64 y) w' rfl (Below.refl _ _)
    · obtain rfl := Option.some.inj ho
      have e1 : a'.tmps[1]? = some (.pointer (some ⟨w.heap.size, 0, none⟩)) := hout 1 (by decide)
      go_simp
      exact hK (.pointer (some ⟨w.heap.size, 1, none⟩)) w' rfl (Below.refl _ _)
    · obtain rfl := Option.some.inj ho
      have p28 : a'.tmps.getD 31 undef = .pointer (some ⟨w.heap.size, 1, none⟩) := (Option.some.inj (hpre ⟨28, .data⟩ (by simp) 31 rfl)).symm
      simp only [Array.getD_eq_getD_getElem?] at p28
      have hx := (hb'.cell (World.block_lt_of_cell? _ _ x1)).trans x1
      go_simp
      exact hK (.int .i64 m) w' rfl (Below.refl _ _)
    · obtain rfl := Option.some.inj ho
      have p27 : a'.tmps.getD 30 undef = .int .i64 y := (Option.some.inj (hpre ⟨27, .data⟩ (by simp) 30 rfl)).symm
      simp only [Array.getD_eq_getD_getElem?] at p27
      have p29 : a'.tmps.getD 32 undef = .int .i64 m := (Option.some.inj (hpre ⟨29, .data⟩ (by simp) 32 rfl)).symm
      simp only [Array.getD_eq_getD_getElem?] at p29
      go_simp
      go_at_call 113
      refine (HCC.out w').mono ?_
      rintro e w'' ⟨rfl, hb1⟩
      exact hK _ _ rfl hb1
    · obtain rfl := Option.some.inj ho
      have p25 : a'.tmps.getD 28 undef = .int .i64 d := (Option.some.inj (hpre ⟨25, .data⟩ (by simp) 28 rfl)).symm
      simp only [Array.getD_eq_getD_getElem?] at p25
      have p30 : a'.tmps.getD 33 undef = .int .i64 md := (Option.some.inj (hpre ⟨30, .data⟩ (by simp) 33 rfl)).symm
      simp only [Array.getD_eq_getD_getElem?] at p30
      go_simp
      exact hK (.bool R) w' rfl (Below.refl _ _)
    · obtain rfl := Option.some.inj ho
      have p23 : a'.tmps.getD 26 undef = .bool true := (Option.some.inj (hpre ⟨23, .data⟩ (by simp) 26 rfl)).symm
      simp only [Array.getD_eq_getD_getElem?] at p23
      have p31 : a'.tmps.getD 34 undef = .bool R := (Option.some.inj (hpre ⟨31, .data⟩ (by simp) 34 rfl)).symm
      simp only [Array.getD_eq_getD_getElem?] at p31
      go_simp
      exact hK (.bool R) w' rfl (Below.refl _ _)
  · intro us w' hb' hfacts
    have h32 : us 32 = .bool R := Option.some.inj (hfacts 32 (by decide)).symm
    have HFIN : Hid (Below w.heap.size w w') := HBW.out.trans (hb'.mono HBW.out.size)
    clear hfacts
    simp only [putL, Act.put, List.setIfInBounds_toArray, List.set_cons_zero, List.set_cons_succ]
    generalize us 32 = x32 at *
    subst h32
    simp only [List.drop_succ_cons, List.drop_zero]
    go_wp2_with fail
    go_ret
    exact ⟨ret_bool (by rw [HR.out]), HFIN.out⟩
end Go.Proofs.YtkhedjfdjjeopaaGreatDoor
/-
  Contracts of calendar.DayNumber, matches, number, ParseClock.
  Condition: numbers are small, the string's length fits an int.
-/
namespace Go.Proofs.YtkhedjfdjjeopaaGreatDoor
set_option linter.unusedSimpArgs false
set_option linter.unusedVariables false
open Go.RowKit

/-- A number and an error's number. -/
def NumPost (x : Int × Int) (w : World) (e : Ending) (w' : World) : Prop := e = .returned (.tuple #[.int .i64 x.1, .int .i64 x.2]) ∧ Below w.heap.size w w'
def dayN (y m d : Int) : Int × Int := if validB y m d = true then (dayB y m d, 0) else (0, 5)
theorem yearSum_succ (k : Nat) : yearSum (k + 1) = yearSum k + yDays (1999 + k) := rfl
theorem monSum_succ (y : Int) (k : Nat) : monSum y (k + 1) = monSum y k + mDays y (1 + k) := rfl
set_option maxRecDepth 100000 in
set_option maxHeartbeats 800000 in
theorem dayNumber_any (y m d : Int) (w : World) (hd : -1000000 ≤ d ∧ d ≤ 1000000) : Calls Tryz.prog 132 #[.agg #[.int .i64 y, .int .i64 m, .int .i64 d]] w (NumPost (dayN y m d) w) := by
  have hb0 := (Below.refl w.heap.size w).alloc (Nat.le_refl _) (.cells #[.int .i64 y, .int .i64 m, .int .i64 d] 134)
  have hr0 := heap_alloc_new w (.cells #[.int .i64 y, .int .i64 m, .int .i64 d] 134)
  have hz0 : (w.alloc (.cells #[.int .i64 y, .int .i64 m, .int .i64 d] 134)).heap.size = w.heap.size + 1 := by simp
  have HB0 := Lib.hid hb0; have HR0 := Lib.hid hr0; have HZ0 := Lib.hid hz0
  have HD : Hid (dayN y m d = if validB y m d = true then (dayB y m d, 0) else (0, 5)) := rfl
  clear hb0 hr0 hz0
  go_enter Tryz.func132, Tryz.ntmps132
  go_wp2_with fail
  generalize w.alloc (.cells #[.int .i64 y, .int .i64 m, .int .i64 d] 134) = W at *
  refine (valid_any y m d W).mono ?_
  rintro e w1 ⟨rfl, hb1⟩
  have hbw1 : Below w.heap.size w w1 := HB0.out.trans (hb1.mono HB0.out.size)
  have hr1 := (hb1.block w.heap.size (by have := HZ0.out; omega)).trans HR0.out
  have hs1 : w.heap.size + 1 ≤ w1.heap.size := by have := hb1.size; have := HZ0.out; omega
  clear hb1
  cases hv : validB y m d
  · have HR : Hid (dayN y m d = (0, 5)) := by show _ = _; rw [HD.out, hv]; rfl
    clear hr1
    go_wp2_with fail
    go_ret2
    exact ⟨by rw [HR.out]; rfl, hbw1⟩
  obtain ⟨⟨y1, y2⟩, ⟨m1, m2⟩, d1, d2⟩ := validB_iff.1 hv
  have hmd := mDays_bd y m
  have HR : Hid (dayN y m d = (-365 + yearSum (y - 1999).toNat + monSum y (m - 1).toNat + d - 1, 0)) := by show _ = _; rw [HD.out, hv]; rfl
  obtain ⟨Y, hY⟩ := Int.eq_ofNat_of_zero_le (show 0 ≤ y - 1999 by omega)
  obtain ⟨M, hM⟩ := Int.eq_ofNat_of_zero_le (show 0 ≤ m - 1 by omega)
  rw [hY, hM, Int.toNat_natCast, Int.toNat_natCast] at HR
  obtain rfl : y = 1999 + Y := by omega
  obtain rfl : m = 1 + M := by omega
  have hYl : Y ≤ 101 := by omega
  have hMl : M ≤ 11 := by omega
  have x0 := block_cell hr1 0; have x1 := block_cell hr1 1; have x2 := block_cell hr1 2
  have HR1 := Lib.hid hr1
  have HY0 : Hid ((-365 : Int) = -365 + yearSum 0) := rfl
  clear hr1 hY hM hv hmd HD
  go_wp2_with fail
  go_loop [4, 5] (fun nv yv => ∃ k : Nat, k ≤ Y ∧ yv = .int .i64 (1999 + k) ∧ nv = .int .i64 (-365 + yearSum k)) (fun _ yv => Y - (intOf yv - 1999).toNat)
  case atStart => exact ⟨0, Nat.zero_le _, rfl, by rw [← HY0.out]⟩
  case round =>
    obtain ⟨k, hk, rfl, rfl⟩ := hrel
    have hyb := yearSum_bd k
    by_cases hlt : k < Y
    · have HS := Lib.hid (yearSum_succ k)
      have hyd := yDays_bd (1999 + k)
      have HC := Lib.hid (yearDays_any (1999 + k) w1 (by omega) (by omega))
      have hlt' : (1999 : Int) + k < 1999 + Y := by omega
      generalize yearSum k = ys at *
      generalize yDays (1999 + k) = yd at *
      go_wp2_with fail
      refine HC.out.mono ?_
      rintro e w' ⟨rfl, rfl⟩
      go_wp2_with fail
      go_round
      case rel => exact ⟨k + 1, by omega, by go_num, by rw [HS.out]; congr 1; omega⟩
      case measure => simp [intOf]; omega
    · have hkY : k = Y := by omega
      subst hkY
      have hnl : ¬ (1999 : Int) + k < 1999 + k := by omega
      have HM0 : Hid ((-365 : Int) + yearSum k = -365 + yearSum k + monSum (1999 + k) 0) := by show _ = _; rw [show monSum (1999 + k) 0 = 0 from rfl]; omega
      go_wp2_with fail
      go_loopw [4, 6] (fun nv mv wr => ∃ q : Nat, q ≤ M ∧ mv = .int .i64 (1 + q) ∧ nv = .int .i64 (-365 + yearSum k + monSum (1999 + k) q) ∧ Below (w.heap.size + 1) w1 wr) (fun _ mv _ => M - (intOf mv - 1).toNat)
      case atStart => exact ⟨0, Nat.zero_le _, rfl, by rw [← HM0.out], Below.refl _ _⟩
      case round =>
        obtain ⟨q, hq, rfl, rfl, hbr⟩ := hrel
        have hmb := monSum_bd (1999 + k) q
        have hr2 := (hbr.block w.heap.size (by omega)).trans HR1.out
        have z0 := block_cell hr2 0; have z1 := block_cell hr2 1; have z2 := block_cell hr2 2
        have hszr := hbr.size
        clear hr2
        by_cases hltq : q < M
        · have HS := Lib.hid (monSum_succ (1999 + k) q)
          have hyd := mDays_bd (1999 + k) (1 + q)
          have HC := Lib.hid (monthDays_any (1999 + k) (1 + q) wr (by omega) (by omega) (by omega) (by omega))
          have hlt' : (1 : Int) + q < 1 + M := by omega
          generalize monSum (1999 + k) q = ms at *
          generalize mDays (1999 + k) (1 + q) = md at *
          generalize yearSum k = ys at *
          go_wp2_with fail
          refine HC.out.mono ?_
          rintro e w5 ⟨rfl, hb5⟩
          have hbr5 : Below (w.heap.size + 1) w1 w5 := hbr.trans (hb5.mono (by omega))
          clear hb5
          go_wp2_with fail
          go_roundw
          case rel => exact ⟨q + 1, by omega, by go_num, by rw [HS.out]; congr 1; omega, hbr5⟩
          case measure => simp [intOf]; omega
        · have hqM : q = M := by omega
          subst hqM
          have hnl2 : ¬ (1 : Int) + q < 1 + q := by omega
          have hbF : Below w.heap.size w wr := hbw1.trans (hbr.mono (by omega))
          generalize hms : monSum (1999 + k) q = ms at *
          generalize hys : yearSum k = ys at *
          clear hms hys
          go_wp2_with fail
          go_ret2
          exact ⟨by rw [HR.out]; rfl, hbF⟩
theorem mAt_eq (s p : ByteArray) (i : Nat) : mAt s p i = if byteAt p i = 48 then digAt s i else decide (byteAt s i = byteAt p i) := rfl
set_option maxRecDepth 100000 in
set_option maxHeartbeats 800000 in
theorem matches_any (s p : ByteArray) (w : World) (hs : s.size ≤ maxLen) : Calls Tryz.prog 129 #[.string s, .string p] w (BoolPostC (matchB s p) w) := by
  unfold maxLen at hs
  have HM : Hid (matchB s p = (decide (s.size = p.size) && allTo (mAt s p) s.size)) := rfl
  by_cases hz : s.size = p.size
  case neg =>
    have hz' : ((s.size : Int) != (p.size : Int)) = true := by simp; omega
    have HR : Hid (matchB s p = false) := by show _ = _; rw [HM.out, decide_eq_false hz]; rfl
    clear hz
    go_enter Tryz.func129, Tryz.ntmps129
    go_wp2_with fail
    go_ret
    exact ⟨ret_bool HR.out.symm, Below.refl _ _⟩
  have hz' : ((s.size : Int) != (p.size : Int)) = false := by simp; omega
  have HR : Hid (matchB s p = allTo (mAt s p) s.size) := by show _ = _; rw [HM.out, decide_eq_true hz]; rfl
  have HZ := Lib.hid hz
  clear hz HM
  go_enter Tryz.func129, Tryz.ntmps129
  go_wp2_with fail
  go_loopw [4, 5, 13] (fun _ _ i wr => ∃ k : Nat, k ≤ s.size ∧ i = .int .i64 k ∧ Below w.heap.size w wr ∧ Hid (allTo (mAt s p) k = true)) (fun _ _ i _ => s.size - (intOf i).toNat)
  case atStart => exact ⟨0, Nat.zero_le _, rfl, Below.refl _ _, allTo_zero _⟩
  case round =>
    obtain ⟨k, hk, rfl, hbr, HK⟩ := hrel
    by_cases hlt : k < s.size
    · have hkp : k < p.size := by have := HZ.out; omega
      have HBS := Lib.hid (byteAt_eq s k hlt)
      have HBP := Lib.hid (byteAt_eq p k hkp)
      have HMA := Lib.hid (mAt_eq s p k)
      have HD : Hid (∀ q, Below w.heap.size w (wr.drewN q)) := fun q => below_drewN hbr q
      have HN : Hid (mAt s p k = true → allTo (mAt s p) (k + 1) = true) := fun h => by rw [allTo_succ, HK.out, h]; rfl
      have HF : Hid (mAt s p k = false → matchB s p = false) := fun h => by rw [HR.out]; exact allTo_false hlt h
      have hks : (k : Int) < (s.size : Int) := by omega
      have hkp' : (k : Int) < (p.size : Int) := by omega
      have hk0 : (0 : Int) ≤ (k : Int) := by omega
      by_cases hp : byteAt p k = 48
      · have hp' : ((p[k].toNat : Int) == 48) = true := by rw [HBP.out]; simpa using hp
        rw [if_pos hp] at HMA
        by_cases hdg : digAt s k = true
        · have hdd := hdg
          unfold digAt numberI at hdd
          simp only [Bool.and_eq_true, decide_eq_true_eq] at hdd
          have l1 : 48 ≤ (s[k].toNat : Int) := by rw [HBS.out]; exact hdd.1
          have l2 : (s[k].toNat : Int) ≤ 57 := by rw [HBS.out]; exact hdd.2
          have HN2 := Lib.hid (HN.out (by rw [HMA.out]; exact hdg))
          clear hdd hdg hp
          go_wp2_with fail
          go_roundw
          case rel => exact ⟨k + 1, by omega, by go_num, hbr, HN2⟩
          case measure => simp [intOf]; omega
        · have hdd : digAt s k = false := by simpa using hdg
          have HF2 := Lib.hid (HF.out (by rw [HMA.out]; exact hdd))
          unfold digAt numberI at hdd
          rw [← HBS.out] at hdd
          simp only [Bool.and_eq_false_iff, decide_eq_false_iff_not] at hdd
          have hcs : (s[k].toNat : Int) < 48 ∨ (¬ (s[k].toNat : Int) < 48 ∧ 57 < (s[k].toNat : Int)) := by omega
          clear hdd hdg hp
          rcases hcs with h | ⟨h, h'⟩
          all_goals
            go_wp2_with fail
            go_ret
            exact ⟨ret_bool HF2.out.symm, hbr⟩
      · have hp' : ((p[k].toNat : Int) == 48) = false := by rw [HBP.out]; simpa using hp
        rw [if_neg hp] at HMA
        by_cases hq : byteAt s k = byteAt p k
        · have hq' : ((s[k].toNat : Int) != (p[k].toNat : Int)) = false := by rw [HBS.out, HBP.out]; simpa using hq
          have HN2 := Lib.hid (HN.out (by rw [HMA.out]; exact decide_eq_true hq))
          clear hq hp
          go_wp2_with fail
          go_quiet (fail)
          go_wp2_with fail
          go_roundw
          case rel => exact ⟨k + 1, by omega, by go_num, HD.out _, HN2⟩
          case measure => simp [intOf]; omega
        · have hq' : ((s[k].toNat : Int) != (p[k].toNat : Int)) = true := by rw [HBS.out, HBP.out]; simpa using hq
          have HF2 := Lib.hid (HF.out (by rw [HMA.out]; exact decide_eq_false hq))
          clear hq hp
          go_wp2_with fail
          go_quiet (fail)
          go_wp2_with fail
          go_ret
          exact ⟨ret_bool HF2.out.symm, HD.out _⟩
    · have hks : k = s.size := by omega
      subst hks
      have HF2 : Hid (matchB s p = true) := by show _ = _; rw [HR.out]; exact HK.out
      go_wp2_with fail
      go_ret
      exact ⟨ret_bool HF2.out.symm, hbr⟩
theorem calNumber_any (s : ByteArray) (w : World) (hs : s.size ≤ 11) (hd : allTo (digAt s) s.size = true) : Calls Tryz.prog 151 #[.string s] w fun e w' => e = .returned (.int .i64 (numTo s s.size)) ∧ w = w' := by
  have HDG := Lib.hid (allTo_iff.1 hd)
  clear hd
  go_enter Tryz.func151, Tryz.ntmps151
  go_wp2_with fail
  go_loop [3, 4, 7] (fun n _ i => ∃ k : Nat, k ≤ s.size ∧ n = .int .i64 (numTo s k) ∧ i = .int .i64 k) (fun _ _ i => s.size - (intOf i).toNat)
  case atStart => exact ⟨0, by omega, rfl, rfl⟩
  case round =>
    obtain ⟨k, hk, rfl, rfl⟩ := hrel
    obtain ⟨hn1, hn2⟩ := numTo_bd s k (allTo_iff.2 fun i hi => HDG.out i (by omega))
    have hb : bnd k ≤ 99999999999 := bnd_mono (k := 11) (by omega)
    by_cases hlt : k < s.size
    · have HB := Lib.hid (byteAt_eq s k hlt)
      have hdd := HDG.out k hlt
      unfold digAt numberI at hdd
      simp only [Bool.and_eq_true, decide_eq_true_eq] at hdd
      have l1 : 48 ≤ (s[k].toNat : Int) := by rw [HB.out]; exact hdd.1
      have l2 : (s[k].toNat : Int) ≤ 57 := by rw [HB.out]; exact hdd.2
      have HN : Hid (numTo s (k + 1) = 10 * numTo s k + ((s[k].toNat : Int) - 48)) := by show _ = _; rw [HB.out]; rfl
      clear hdd
      go_wp2_with fail
      go_round
      case rel => exact ⟨k + 1, by omega, by rw [HN.out], by go_num⟩
      case measure => simp [intOf]; omega
    · obtain rfl : k = s.size := by omega
      go_wp2_with fail
      go_ret
      exact ⟨rfl, rfl⟩
end Go.Proofs.YtkhedjfdjjeopaaGreatDoor
/-
  Contracts of calendar.ParseDate, ParseClock, ParseInstant.
  Condition: the string's length fits an int.
-/
namespace Go.Proofs.YtkhedjfdjjeopaaGreatDoor
set_option linter.unusedSimpArgs false
set_option linter.unusedVariables false
open Go.RowKit

def DatePost (x : (Int × Int × Int) × Int) (w : World) (e : Ending) (w' : World) : Prop := e = .returned (.tuple #[.agg #[.int .i64 x.1.1, .int .i64 x.1.2.1, .int .i64 x.1.2.2], .int .i64 x.2]) ∧ Below w.heap.size w w'
/-- What the operations of ParseDate's region leave. -/
def datF (s : ByteArray) (H : Nat) : Nat → Value → World → Prop
  | 0, v, _ => v = .string s
  | 1, v, _ => v = .string (s.extract 0 4)
  | 2, v, _ => v = .int .i64 (subN s 0 4)
  | 3, v, _ => v = .string s
  | 4, v, _ => v = .string (s.extract 5 7)
  | 5, v, _ => v = .int .i64 (subN s 5 7)
  | 6, v, _ => v = .string s
  | 7, v, _ => v = .string (s.extract 8 s.size)
  | 8, v, _ => v = .int .i64 (subN s 8 s.size)
  | 9, v, _ => v = .agg #[.int .i64 (subN s 0 4), .int .i64 (subN s 5 7), .int .i64 (subN s 8 s.size)]
  | 10, v, w => ∃ b, v = .pointer (some ⟨b, 0, none⟩) ∧ H ≤ b ∧ w.heap[b]? = some (.cells #[.int .i64 0, .int .i64 0, .int .i64 0] 134 (0, 0))
  | _, _, _ => True
theorem datF_keep {s : ByteArray} {H : Nat} : ∀ (i : Nat) (v : Value) (w w' : World), datF s H i v w → Below w.heap.size w w' → datF s H i v w' := by
  intro i v w w' h hb
  unfold datF at h ⊢
  split at h <;> try exact h
  obtain ⟨b, e, hH, hc⟩ := h; exact ⟨b, e, hH, (hb.block b (Array.getElem?_eq_some_iff.1 hc).1).trans hc⟩
theorem date_info : (Tryz.prog.info? 134).map (·.size) = some 3 := by kernel_rfl
theorem below_setRowc {w0 w : World} {B b : Nat} {cs : Array Value} (h : Below B w0 w) (hb : B ≤ b) : Below B w0 (w.setRow b cs) :=
  ⟨h.os, h.tape, h.output, by simpa using h.size, fun q hq => (setRow_other _ _ _ _ (by omega)).trans (h.block q hq)⟩
set_option maxRecDepth 100000 in
set_option maxHeartbeats 1600000 in
theorem parseDate_any (s : ByteArray) (w : World) (hs : s.size ≤ maxLen) : Calls Tryz.prog 130 #[.string s] w (DatePost (dateB s) w) := by
  have HS := Lib.hid hs
  have hb0 := (Below.refl w.heap.size w).alloc (Nat.le_refl _) (.cells #[.int .i64 0, .int .i64 0, .int .i64 0] 134)
  have hr0 := heap_alloc_new w (.cells #[.int .i64 0, .int .i64 0, .int .i64 0] 134)
  have hz0 : (w.alloc (.cells #[.int .i64 0, .int .i64 0, .int .i64 0] 134)).heap.size = w.heap.size + 1 := by simp
  have HB0 := Lib.hid hb0; have HR0 := Lib.hid hr0; have HZ0 := Lib.hid hz0
  have HD : Hid (dateB s = if matchB s patD = false then ((0, 0, 0), 1) else if validB (subN s 0 4) (subN s 5 7) (subN s 8 s.size) = false then ((0, 0, 0), 5) else ((subN s 0 4, subN s 5 7, subN s 8 s.size), 0)) := rfl
  have HPD : Hid (patD = ⟨#[48, 48, 48, 48, 45, 48, 48, 45, 48, 48]⟩) := rfl
  clear hb0 hr0 hz0
  unfold maxLen at hs
  go_enter Tryz.func130, Tryz.ntmps130
  go_wp2_with fail
  generalize w.alloc (.cells #[.int .i64 0, .int .i64 0, .int .i64 0] 134) = W at *
  rw [← HPD.out]
  refine (matches_any s patD W HS.out).mono ?_
  rintro e w1 ⟨rfl, hb1⟩
  have hbw1 : Below w.heap.size w w1 := HB0.out.trans (hb1.mono HB0.out.size)
  have hr1 := (hb1.block w.heap.size (by have := HZ0.out; omega)).trans HR0.out
  have hs1 : w.heap.size + 1 ≤ w1.heap.size := by have := hb1.size; have := HZ0.out; omega
  have HR1 := Lib.hid hr1
  clear hb1 HR0
  cases hm : matchB s patD
  · have HR : Hid (dateB s = ((0, 0, 0), 1)) := by show _ = _; rw [HD.out, if_pos hm]
    have z0 := block_cell hr1 0; have z1 := block_cell hr1 1; have z2 := block_cell hr1 2
    have f0 := block_free hr1 0; have f1 := block_free hr1 1; have f2 := block_free hr1 2
    clear hr1 hm
    go_wp2_with fail
    refine bodyPost_ret (v := .tuple #[.agg #[.int .i64 0, .int .i64 0, .int .i64 0], .int .i64 1]) (by simp [results, Tryz.results130, go_sem, z0, z1, z2]) rfl ?_
    exact ⟨by rw [HR.out], ((hbw1.setCell (Nat.le_refl _) _).setCell (Nat.le_refl _) _).setCell (Nat.le_refl _) _⟩
  rw [if_neg (by rw [hm]; decide)] at HD
  have hm2 := hm
  rw [matchD_iff] at hm2
  simp only [Bool.and_eq_true, decide_eq_true_eq] at hm2
  obtain ⟨hsz, ⟨⟨⟨hd1, -⟩, hd2⟩, -⟩, hd3⟩ := hm2
  have HC1 : Hid (∀ V : World, Calls Tryz.prog 151 #[.string (s.extract 0 4)] V fun e w' => e = .returned (.int .i64 (subN s 0 4)) ∧ V = w') := fun V => calNumber_any _ V (by rw [size_sub (by omega)]; omega) (by rw [dig_sub (by omega)]; exact hd1)
  have HC2 : Hid (∀ V : World, Calls Tryz.prog 151 #[.string (s.extract 5 7)] V fun e w' => e = .returned (.int .i64 (subN s 5 7)) ∧ V = w') := fun V => calNumber_any _ V (by rw [size_sub (by omega)]; omega) (by rw [dig_sub (by omega)]; exact hd2)
  have HC3 : Hid (∀ V : World, Calls Tryz.prog 151 #[.string (s.extract 8 s.size)] V fun e w' => e = .returned (.int .i64 (subN s 8 s.size)) ∧ V = w') := fun V => calNumber_any _ V (by rw [size_sub (Nat.le_refl _)]; omega) (by rw [dig_sub (Nat.le_refl _), hsz]; exact hd3)
  have tz4 : (4 : Int) ≤ (s.size : Int) := by omega
  have tz7 : (7 : Int) ≤ (s.size : Int) := by omega
  have tz8 : (8 : Int) ≤ (s.size : Int) := by omega
  clear hr1 hm hd1 hd2 hd3 hsz
  go_upto_region 3 with (fail)
  refine wp_region_facts 11 [9, 10, 11, 12, 13, 14, 15, 16, 17, 18, 4] (datF s w1.heap.size) (by kernel_rfl) (by kernel_rfl) (by kernel_rfl) (by kernel_rfl) (by kernel_rfl) datF_keep ?_ ?_
  · intro q o hq ho a' w' hb' hout hpre K hK
    have hq' : q = 0 ∨ q = 1 ∨ q = 2 ∨ q = 3 ∨ q = 4 ∨ q = 5 ∨ q = 6 ∨ q = 7 ∨ q = 8 ∨ q = 9 ∨ q = 10 := by omega
    clear HD HR1 HB0 HZ0 hbw1
    rcases hq' with rfl | rfl | rfl | rfl | rfl | rfl | rfl | rfl | rfl | rfl | rfl
    · obtain rfl := Option.some.inj ho
      have e0 : a'.tmps[0]? = some (.string s) := hout 0 (by decide)
      go_simp
      exact hK (.string s) w' rfl (Below.refl _ _)
    · obtain rfl := Option.some.inj ho
      have p0 : a'.tmps.getD 9 undef = .string s := hpre ⟨0, .data⟩ (by simp) 9 rfl
      simp only [Array.getD_eq_getD_getElem?] at p0
      go_simp
      exact hK (.string (s.extract 0 4)) w' rfl (Below.refl _ _)
    · obtain rfl := Option.some.inj ho
      have p1 : a'.tmps.getD 10 undef = .string (s.extract 0 4) := hpre ⟨1, .data⟩ (by simp) 10 rfl
      simp only [Array.getD_eq_getD_getElem?] at p1
      go_simp
      go_at_call 151
      refine (HC1.out w').mono ?_
      rintro e w'' ⟨rfl, rfl⟩
      exact hK _ _ rfl (Below.refl _ _)
    · obtain rfl := Option.some.inj ho
      have e0 : a'.tmps[0]? = some (.string s) := hout 0 (by decide)
      go_simp
      exact hK (.string s) w' rfl (Below.refl _ _)
    · obtain rfl := Option.some.inj ho
      have p3 : a'.tmps.getD 12 undef = .string s := hpre ⟨3, .data⟩ (by simp) 12 rfl
      simp only [Array.getD_eq_getD_getElem?] at p3
      go_simp
      exact hK (.string (s.extract 5 7)) w' rfl (Below.refl _ _)
    · obtain rfl := Option.some.inj ho
      have p4 : a'.tmps.getD 13 undef = .string (s.extract 5 7) := hpre ⟨4, .data⟩ (by simp) 13 rfl
      simp only [Array.getD_eq_getD_getElem?] at p4
      go_simp
      go_at_call 151
      refine (HC2.out w').mono ?_
      rintro e w'' ⟨rfl, rfl⟩
      exact hK _ _ rfl (Below.refl _ _)
    · obtain rfl := Option.some.inj ho
      have e0 : a'.tmps[0]? = some (.string s) := hout 0 (by decide)
      go_simp
      exact hK (.string s) w' rfl (Below.refl _ _)
    · obtain rfl := Option.some.inj ho
      have p6 : a'.tmps.getD 15 undef = .string s := hpre ⟨6, .data⟩ (by simp) 15 rfl
      simp only [Array.getD_eq_getD_getElem?] at p6
      go_simp
      exact hK (.string (s.extract 8 s.size)) w' rfl (Below.refl _ _)
    · obtain rfl := Option.some.inj ho
      have p7 : a'.tmps.getD 16 undef = .string (s.extract 8 s.size) := hpre ⟨7, .data⟩ (by simp) 16 rfl
      simp only [Array.getD_eq_getD_getElem?] at p7
      go_simp
      go_at_call 151
      refine (HC3.out w').mono ?_
      rintro e w'' ⟨rfl, rfl⟩
      exact hK _ _ rfl (Below.refl _ _)
    · obtain rfl := Option.some.inj ho
      have p2 : a'.tmps.getD 11 undef = .int .i64 (subN s 0 4) := hpre ⟨2, .data⟩ (by simp) 11 rfl
      have p5 : a'.tmps.getD 14 undef = .int .i64 (subN s 5 7) := hpre ⟨5, .data⟩ (by simp) 14 rfl
      have p8 : a'.tmps.getD 17 undef = .int .i64 (subN s 8 s.size) := hpre ⟨8, .data⟩ (by simp) 17 rfl
      simp only [Array.getD_eq_getD_getElem?] at p2 p5 p8
      go_simp
      exact hK _ _ rfl (Below.refl _ _)
    · obtain rfl := Option.some.inj ho
      go_simp
      exact hK _ _ ⟨w'.heap.size, rfl, hb'.size, heap_alloc_new _ _⟩ ((Below.refl _ _).alloc (Nat.le_refl _) _)
  · intro us w' hb' hfacts
    have h9 : us 9 = .agg #[.int .i64 (subN s 0 4), .int .i64 (subN s 5 7), .int .i64 (subN s 8 s.size)] := hfacts 9 (by decide)
    obtain ⟨pb, h10, hpH, hpb⟩ := hfacts 10 (by decide)
    clear hfacts HC1 HC2 HC3
    generalize subN s 0 4 = y at *
    generalize subN s 5 7 = m at *
    generalize subN s 8 s.size = d at *
    simp only [putL, Act.put, List.setIfInBounds_toArray, List.set_cons_zero, List.set_cons_succ]
    generalize us 10 = x10 at *
    generalize us 9 = x9 at *
    subst h10 h9
    have HPB := Lib.hid hpb
    have hfb := below_setRowc (cs := #[.int .i64 y, .int .i64 m, .int .i64 d]) hb' hpH
    have hrow := setRow_heap w' pb _ #[.int .i64 y, .int .i64 m, .int .i64 d] _ _ hpb
    clear hpb
    simp only [List.drop_succ_cons, List.drop_zero]
    refine wpList_store_row rfl _ _ _ rfl pb #[.int .i64 y, .int .i64 m, .int .i64 d] rfl rfl _ _ HPB.out date_info rfl (by simp [Value.oneCell']) ?_
    generalize w'.setRow pb #[.int .i64 y, .int .i64 m, .int .i64 d] = V at *
    have hplt : pb < V.heap.size := (Array.getElem?_eq_some_iff.1 hrow).1
    have x0 := block_cell hrow 0; have x1 := block_cell hrow 1; have x2 := block_cell hrow 2
    have hbV : Below w.heap.size w V := hbw1.trans (hfb.mono (by omega))
    have hrV := (hfb.block w.heap.size (by omega)).trans HR1.out
    have HRW := Lib.hid hrow
    clear hrow hb'
    go_wp2_with fail
    refine (valid_any y m d V).mono ?_
    rintro e w2 ⟨rfl, hb2⟩
    have hbw2 : Below w.heap.size w w2 := hbV.trans (hb2.mono hbV.size)
    have hsv := hfb.size
    have hr2 := (hb2.block w.heap.size (by omega)).trans hrV
    have hp2 := (hb2.block pb hplt).trans HRW.out
    have z0 := block_cell hr2 0; have z1 := block_cell hr2 1; have z2 := block_cell hr2 2
    have f0 := block_free hr2 0; have f1 := block_free hr2 1; have f2 := block_free hr2 2
    have y0 := block_cell hp2 0; have y1 := block_cell hp2 1; have y2 := block_cell hp2 2
    have hpw : pb ≠ w.heap.size := by omega
    clear hr2 hp2 hrV hb2 x0 x1 x2
    cases hv : validB y m d
    · have HR : Hid (dateB s = ((0, 0, 0), 5)) := by show _ = _; rw [HD.out, if_pos hv]
      go_wp2_with fail
      refine bodyPost_ret (v := .tuple #[.agg #[.int .i64 0, .int .i64 0, .int .i64 0], .int .i64 5]) (by simp [results, Tryz.results130, go_sem, z0, z1, z2]) rfl ?_
      exact ⟨by rw [HR.out], ((hbw2.setCell (Nat.le_refl _) _).setCell (Nat.le_refl _) _).setCell (Nat.le_refl _) _⟩
    · have HR : Hid (dateB s = ((y, m, d), 0)) := by show _ = _; rw [HD.out, if_neg (by rw [hv]; decide)]
      go_wp2_with fail
      refine bodyPost_ret (v := .tuple #[.agg #[.int .i64 y, .int .i64 m, .int .i64 d], .int .i64 0]) (by simp [results, Tryz.results130, go_sem, z0, z1, z2]) rfl ?_
      exact ⟨by rw [HR.out], ((hbw2.setCell (Nat.le_refl _) _).setCell (Nat.le_refl _) _).setCell (Nat.le_refl _) _⟩
set_option maxRecDepth 100000 in
set_option maxHeartbeats 800000 in
theorem parseClock_any (s : ByteArray) (w : World) (hs : s.size ≤ maxLen) : Calls Tryz.prog 131 #[.string s] w (NumPost (clockB s) w) := by
  have HS := Lib.hid hs
  have HD : Hid (clockB s = if matchB s patC = false then (0, 1) else if 23 < subN s 0 2 ∨ 59 < subN s 3 s.size then (0, 5) else (subN s 0 2 * 60 + subN s 3 s.size, 0)) := rfl
  have HPD : Hid (patC = ⟨#[48, 48, 58, 48, 48]⟩) := rfl
  unfold maxLen at hs
  go_enter Tryz.func131, Tryz.ntmps131
  go_wp2_with fail
  rw [← HPD.out]
  refine (matches_any s patC w HS.out).mono ?_
  rintro e w1 ⟨rfl, hb1⟩
  cases hm : matchB s patC
  · have HR : Hid (clockB s = (0, 1)) := by show _ = _; rw [HD.out, if_pos hm]
    clear hm
    go_wp2_with fail
    go_ret2
    exact ⟨by rw [HR.out]; rfl, hb1⟩
  rw [if_neg (by rw [hm]; decide)] at HD
  have hm2 := hm
  rw [matchC_iff] at hm2
  simp only [Bool.and_eq_true, decide_eq_true_eq] at hm2
  obtain ⟨hsz, ⟨hd1, -⟩, hd2⟩ := hm2
  have n1 := numTo_bd (s.extract 0 2) (s.extract 0 2).size (by rw [dig_sub (by omega)]; exact hd1)
  have n2 := numTo_bd (s.extract 3 s.size) (s.extract 3 s.size).size (by rw [dig_sub (Nat.le_refl _), hsz]; exact hd2)
  have HC1 : Hid (∀ V : World, Calls Tryz.prog 151 #[.string (s.extract 0 2)] V fun e w' => e = .returned (.int .i64 (subN s 0 2)) ∧ V = w') := fun V => calNumber_any _ V (by rw [size_sub (by omega)]; omega) (by rw [dig_sub (by omega)]; exact hd1)
  have HC2 : Hid (∀ V : World, Calls Tryz.prog 151 #[.string (s.extract 3 s.size)] V fun e w' => e = .returned (.int .i64 (subN s 3 s.size)) ∧ V = w') := fun V => calNumber_any _ V (by rw [size_sub (Nat.le_refl _)]; omega) (by rw [dig_sub (Nat.le_refl _), hsz]; exact hd2)
  have b1 : bnd (s.extract 0 2).size = 99 := by rw [size_sub (show 2 ≤ s.size by omega)]; rfl
  have b2 : bnd (s.extract 3 s.size).size = 99 := by rw [size_sub (Nat.le_refl s.size), hsz]; rfl
  rw [b1] at n1
  rw [b2] at n2
  have k1 : 0 ≤ subN s 0 2 ∧ subN s 0 2 ≤ 99 := n1
  have k2 : 0 ≤ subN s 3 s.size ∧ subN s 3 s.size ≤ 99 := n2
  have t1 : 2 ≤ s.size := by omega
  have t2 : 3 ≤ s.size := by omega
  have t1' : (2 : Int) ≤ (s.size : Int) := by omega
  have t2' : (3 : Int) ≤ (s.size : Int) := by omega
  have HBD : Hid (∀ q, Below w.heap.size w (w1.drewN q)) := fun q => below_drewN hb1 q
  generalize subN s 0 2 = hh at *
  generalize subN s 3 s.size = mm at *
  clear n1 n2 hd1 hd2 hm hb1 b1 b2 hsz
  go_wp2_with fail
  go_quiet (first
    | (go_at_call 151; with_reducible exact quiet_left (HC1.out _))
    | (go_at_call 151; with_reducible exact quiet_left (HC2.out _)))
  by_cases h1 : 23 < hh
  · have HR : Hid (clockB s = (0, 5)) := by show _ = _; rw [HD.out, if_pos (.inl h1)]
    go_wp2_with fail
    go_ret2
    exact ⟨by rw [HR.out]; rfl, HBD.out _⟩
  by_cases h2 : 59 < mm
  · have HR : Hid (clockB s = (0, 5)) := by show _ = _; rw [HD.out, if_pos (.inr h2)]
    go_wp2_with fail
    go_ret2
    exact ⟨by rw [HR.out]; rfl, HBD.out _⟩
  have HR : Hid (clockB s = (hh * 60 + mm, 0)) := by show _ = _; rw [HD.out, if_neg (by rintro (h | h); exact h1 h; exact h2 h)]
  go_wp2_with fail
  go_ret2
  exact ⟨by rw [HR.out]; rfl, HBD.out _⟩
set_option maxRecDepth 100000 in
set_option maxHeartbeats 800000 in
theorem parseInstant_any (s : ByteArray) (w : World) (hs : s.size ≤ maxLen) : Calls Tryz.prog 98 #[.string s] w (NumPost (insB s) w) := by
  have HS := Lib.hid hs
  have HD : Hid (insB s = if matchB s patI = false then (0, 1) else
    if (dateB (s.extract 0 10)).2 ≠ 0 then (0, (dateB (s.extract 0 10)).2) else
      if (clockB (s.extract 11 s.size)).2 ≠ 0 then (0, (clockB (s.extract 11 s.size)).2) else
        if dayB (dateB (s.extract 0 10)).1.1 (dateB (s.extract 0 10)).1.2.1 (dateB (s.extract 0 10)).1.2.2 * 1440 + (clockB (s.extract 11 s.size)).1 < 0 ∨ 52596000 ≤ dayB (dateB (s.extract 0 10)).1.1 (dateB (s.extract 0 10)).1.2.1 (dateB (s.extract 0 10)).1.2.2 * 1440 + (clockB (s.extract 11 s.size)).1 then (0, 5) else
          (dayB (dateB (s.extract 0 10)).1.1 (dateB (s.extract 0 10)).1.2.1 (dateB (s.extract 0 10)).1.2.2 * 1440 + (clockB (s.extract 11 s.size)).1, 0)) := rfl
  have HPD : Hid (patI = ⟨#[48, 48, 48, 48, 45, 48, 48, 45, 48, 48, 32, 48, 48, 58, 48, 48]⟩) := rfl
  unfold maxLen at hs
  go_enter Tryz.func98, Tryz.ntmps98
  go_wp2_with fail
  rw [← HPD.out]
  refine (matches_any s patI w HS.out).mono ?_
  rintro e w1 ⟨rfl, hb1⟩
  cases hm : matchB s patI
  · have HR : Hid (insB s = (0, 1)) := by show _ = _; rw [HD.out, if_pos hm]
    clear hm
    go_wp2_with fail
    go_ret2
    exact ⟨by rw [HR.out]; rfl, hb1⟩
  rw [if_neg (by rw [hm]; decide)] at HD
  have hsz : s.size = 16 := by
    rw [matchI_iff] at hm
    simp only [Bool.and_eq_true, decide_eq_true_eq] at hm
    exact hm.1
  have t1 : 10 ≤ s.size := by omega
  have t2 : 11 ≤ s.size := by omega
  have HPDt := Lib.hid (parseDate_any (s.extract 0 10) w1 (by rw [size_sub t1]; unfold maxLen; omega))
  have HPC : Hid (∀ V : World, Calls Tryz.prog 131 #[.string (s.extract 11 s.size)] V (NumPost (clockB (s.extract 11 s.size)) V)) := fun V => parseClock_any _ V (by rw [size_sub (Nat.le_refl _)]; unfold maxLen; omega)
  have HVD := Lib.hid (dateB_valid (s := s.extract 0 10))
  have hcb := clockB_bd (s.extract 11 s.size)
  generalize dateB (s.extract 0 10) = D at *
  generalize clockB (s.extract 11 s.size) = C at *
  obtain ⟨⟨y, m, d⟩, e0⟩ := D
  obtain ⟨cl, f0⟩ := C
  simp only at HD HPDt HPC HVD hcb
  clear hm hsz
  go_wp2_with fail
  refine HPDt.out.mono ?_
  rintro e w2 ⟨rfl, hb2⟩
  have hbw2 : Below w.heap.size w w2 := hb1.trans (hb2.mono hb1.size)
  clear hb2 HPDt
  have hbA := hbw2.alloc hbw2.size (.cells #[.int .i64 y, .int .i64 m, .int .i64 d] 134)
  have hrA := heap_alloc_new w2 (.cells #[.int .i64 y, .int .i64 m, .int .i64 d] 134)
  have hzA : (w2.alloc (.cells #[.int .i64 y, .int .i64 m, .int .i64 d] 134)).heap.size = w2.heap.size + 1 := by simp
  have HBA := Lib.hid hbA; have HRA := Lib.hid hrA; have HZA := Lib.hid hzA
  clear hbA hrA hzA
  by_cases he : e0 = 0
  case neg =>
    have he' : (e0 != 0) = true := by simpa using he
    have HR : Hid (insB s = (0, e0)) := by show _ = _; rw [HD.out, if_pos he]
    clear he
    go_wp2_with fail
    go_ret2
    exact ⟨by rw [HR.out]; rfl, HBA.out⟩
  subst he
  rw [if_neg (by simp)] at HD
  have hdv := HVD.out rfl
  have hdb := dayB_bd hdv
  obtain ⟨⟨v1, v2⟩, ⟨v3, v4⟩, v5, v6⟩ := validB_iff.1 hdv
  have hmd := mDays_bd y m
  go_wp2_with fail
  generalize w2.alloc (.cells #[.int .i64 y, .int .i64 m, .int .i64 d] 134) = V at *
  refine (HPC.out V).mono ?_
  rintro e w3 ⟨rfl, hb3⟩
  have hbw3 : Below w.heap.size w w3 := HBA.out.trans (hb3.mono HBA.out.size)
  by_cases hf : f0 = 0
  case neg =>
    have hf' : (f0 != 0) = true := by simpa using hf
    have HR : Hid (insB s = (0, f0)) := by show _ = _; rw [HD.out, if_pos hf]
    clear hf
    go_wp2_with fail
    go_ret2
    exact ⟨by rw [HR.out]; rfl, hbw3⟩
  subst hf
  rw [if_neg (by simp)] at HD
  have hr3 := (hb3.block w2.heap.size (by have := HZA.out; omega)).trans HRA.out
  have x0 := block_cell hr3 0; have x1 := block_cell hr3 1; have x2 := block_cell hr3 2
  have HDN := Lib.hid (dayNumber_any y m d w3 (by omega))
  have HDE : Hid (dayN y m d = (dayB y m d, 0)) := by show _ = _; unfold dayN; rw [if_pos hdv]
  rw [HDE.out] at HDN
  generalize dayB y m d = dn at *
  clear hr3 hdv HVD HPC hb3
  go_wp2_with fail
  refine HDN.out.mono ?_
  rintro e w4 ⟨rfl, hb4⟩
  have hbw4 : Below w.heap.size w w4 := hbw3.trans (hb4.mono hbw3.size)
  clear HDN hb4 x0 x1 x2
  by_cases h1 : dn * 1440 + cl < 0
  · have HR : Hid (insB s = (0, 5)) := by show _ = _; rw [HD.out, if_pos (.inl h1)]
    go_wp2_with fail
    go_ret2
    exact ⟨by rw [HR.out]; rfl, hbw4⟩
  by_cases h2 : 52596000 ≤ dn * 1440 + cl
  · have HR : Hid (insB s = (0, 5)) := by show _ = _; rw [HD.out, if_pos (.inr h2)]
    go_wp2_with fail
    go_ret2
    exact ⟨by rw [HR.out]; rfl, hbw4⟩
  have HR : Hid (insB s = (dn * 1440 + cl, 0)) := by show _ = _; rw [HD.out, if_neg (by rintro (h | h); exact h1 h; exact h2 h)]
  go_wp2_with fail
  go_ret2
  exact ⟨by rw [HR.out]; rfl, hbw4⟩
end Go.Proofs.YtkhedjfdjjeopaaGreatDoor
/-
  Contracts of the reference's leap, DaysInMonth, IsDate, DayNumber, ParseDate, ParseClock, ParseInstant (package pairingref5).
  Condition: numbers are small, the string's length fits an int.
-/
namespace Go.Proofs.YtkhedjfdjjeopaaGreatDoor
set_option linter.unusedSimpArgs false
set_option linter.unusedVariables false
open Go.RowKit

theorem leapR_any (y : Int) (w : World) (h0 : 0 ≤ y) (h1 : y ≤ 100000) : Calls Tryz.prog 136 #[.int .i64 y] w fun e w' => e = .returned (.bool (leapB y)) ∧ w = w' := by
  have HL : Hid (leapB y = (decide (y % 4 = 0) && (decide (y % 100 ≠ 0) || decide (y % 400 = 0)))) := rfl
  by_cases a : y % 4 = 0
  · have a' : (y % 4 == 0) = true := by simpa using a
    by_cases b : y % 100 = 0
    · have b' : (y % 100 != 0) = false := by simpa using b
      by_cases c : y % 400 = 0
      · have c' : (y % 400 == 0) = true := by simpa using c
        have HR : Hid (leapB y = true) := by show _ = _; rw [HL.out]; simp [a, b, c]
        clear a b c
        go_enter Tryz.func136, Tryz.ntmps136
        go_wp2_with fail
        go_ret
        exact ⟨ret_bool HR.out.symm, rfl⟩
      · have c' : (y % 400 == 0) = false := by simpa using c
        have HR : Hid (leapB y = false) := by show _ = _; rw [HL.out]; simp [a, b, c]
        clear a b c
        go_enter Tryz.func136, Tryz.ntmps136
        go_wp2_with fail
        go_ret
        exact ⟨ret_bool HR.out.symm, rfl⟩
    · have b' : (y % 100 != 0) = true := by simpa using b
      have HR : Hid (leapB y = true) := by show _ = _; rw [HL.out]; simp [a, b]
      clear a b
      go_enter Tryz.func136, Tryz.ntmps136
      go_wp2_with fail
      go_ret
      exact ⟨ret_bool HR.out.symm, rfl⟩
  · have a' : (y % 4 == 0) = false := by simpa using a
    have c : ¬ y % 400 = 0 := by omega
    have c' : (y % 400 == 0) = false := by simpa using c
    have HR : Hid (leapB y = false) := by show _ = _; rw [HL.out]; simp [a]
    clear a c
    go_enter Tryz.func136, Tryz.ntmps136
    go_wp2_with fail
    go_ret
    exact ⟨ret_bool HR.out.symm, rfl⟩
def dimB (y m : Int) : Int × Int := if y < 1999 ∨ 2100 < y ∨ m < 1 ∨ 12 < m then (0, 5) else (mDays y m, 0)
set_option maxRecDepth 100000 in
set_option maxHeartbeats 800000 in
theorem daysInMonthR_any (y m : Int) (w : World) : Calls Tryz.prog 137 #[.int .i64 y, .int .i64 m] w fun e w' => e = .returned (.tuple #[.int .i64 (dimB y m).1, .int .i64 (dimB y m).2]) ∧ w = w' := by
  by_cases hb : y < 1999 ∨ 2100 < y ∨ m < 1 ∨ 12 < m
  · have HR : Hid (dimB y m = (0, 5)) := by show _ = _; unfold dimB; rw [if_pos hb]
    have hc : y < 1999 ∨ (¬ y < 1999 ∧ 2100 < y) ∨ (¬ y < 1999 ∧ ¬ 2100 < y ∧ m < 1) ∨ (¬ y < 1999 ∧ ¬ 2100 < y ∧ ¬ m < 1 ∧ 12 < m) := by omega
    clear hb
    rcases hc with h | ⟨h, h1⟩ | ⟨h, h1, h2⟩ | ⟨h, h1, h2, h3⟩
    all_goals
      go_enter Tryz.func137, Tryz.ntmps137
      go_wp2_with fail
      go_ret2
      exact ⟨by rw [HR.out]; rfl, rfl⟩
  have HR : Hid (dimB y m = (mDays y m, 0)) := by show _ = _; unfold dimB; rw [if_neg hb]
  have h1 : ¬ y < 1999 := by omega
  have h2 : ¬ 2100 < y := by omega
  have HC := Lib.hid (leapR_any y w (by omega) (by omega))
  have hm : m = 1 ∨ m = 2 ∨ m = 3 ∨ m = 4 ∨ m = 5 ∨ m = 6 ∨ m = 7 ∨ m = 8 ∨ m = 9 ∨ m = 10 ∨ m = 11 ∨ m = 12 := by omega
  have HM : Hid (mDays y m = if m = 2 ∧ leapB y = true then 29 else mTab.getD (m - 1).toNat 0) := rfl
  clear hb
  rcases hm with rfl | rfl | rfl | rfl | rfl | rfl | rfl | rfl | rfl | rfl | rfl | rfl
  case inr.inl =>
    go_enter Tryz.func137, Tryz.ntmps137
    go_wp2_with fail
    refine HC.out.mono ?_
    rintro e w' ⟨rfl, rfl⟩
    cases hl : leapB y
    · have HR2 : Hid (mDays y 2 = 28) := by show _ = _; rw [HM.out, hl]; rfl
      rw [HR2.out] at HR
      go_wp2_with fail
      go_ret2
      exact ⟨by rw [HR.out]; rfl, rfl⟩
    · have HR2 : Hid (mDays y 2 = 29) := by show _ = _; rw [HM.out, hl]; rfl
      rw [HR2.out] at HR
      go_wp2_with fail
      go_ret2
      exact ⟨by rw [HR.out]; rfl, rfl⟩
  all_goals
    rw [HM.out, if_neg (fun h => absurd h.1 (by decide))] at HR
    go_enter Tryz.func137, Tryz.ntmps137
    go_wp2_with fail
    go_ret2
    exact ⟨by rw [HR.out]; rfl, rfl⟩
theorem dimB_err (y m : Int) : (dimB y m).2 = 0 ∨ (dimB y m).2 = 5 := by
  unfold dimB; split
  · exact .inr rfl
  · exact .inl rfl
set_option maxRecDepth 100000 in
theorem isDateR_any (y m d : Int) (w : World) : Calls Tryz.prog 135 #[.agg #[.int .i64 y, .int .i64 m, .int .i64 d]] w (BoolPostC (validB y m d) w) := by
  have hb0 := (Below.refl w.heap.size w).alloc (Nat.le_refl _) (.cells #[.int .i64 y, .int .i64 m, .int .i64 d] 134)
  have hr0 := heap_alloc_new w (.cells #[.int .i64 y, .int .i64 m, .int .i64 d] 134)
  have HB := Lib.hid hb0
  have HC := Lib.hid (daysInMonthR_any y m (w.alloc (.cells #[.int .i64 y, .int .i64 m, .int .i64 d] 134)))
  have x0 := block_cell hr0 0; have x1 := block_cell hr0 1; have x2 := block_cell hr0 2
  have HV : Hid (validB y m d = true ↔ (1999 ≤ y ∧ y ≤ 2100) ∧ (1 ≤ m ∧ m ≤ 12) ∧ 1 ≤ d ∧ d ≤ mDays y m) := validB_iff
  have HDM : Hid (dimB y m = if y < 1999 ∨ 2100 < y ∨ m < 1 ∨ 12 < m then (0, 5) else (mDays y m, 0)) := rfl
  clear hb0 hr0
  go_enter Tryz.func135, Tryz.ntmps135
  go_wp2_with fail
  refine HC.out.mono ?_
  rintro e w' ⟨rfl, rfl⟩
  generalize w.alloc (.cells #[.int .i64 y, .int .i64 m, .int .i64 d] 134) = W at *
  clear HC
  by_cases hb : y < 1999 ∨ 2100 < y ∨ m < 1 ∨ 12 < m
  · rw [HDM.out, if_pos hb]
    have HR : Hid (validB y m d = false) := by
      show _ = _
      cases hv : validB y m d
      · rfl
      · have := HV.out.1 hv; omega
    clear hb
    go_wp2_with fail
    go_ret
    exact ⟨ret_bool HR.out.symm, HB.out⟩
  rw [HDM.out, if_neg hb]
  generalize mDays y m = md at *
  by_cases h1 : 1 ≤ d
  · by_cases h2 : d ≤ md
    · have HR : Hid (validB y m d = true) := HV.out.2 (by omega)
      clear hb
      go_wp2_with fail
      go_ret
      exact ⟨ret_bool HR.out.symm, HB.out⟩
    · have HR : Hid (validB y m d = false) := by
        show _ = _
        cases hv : validB y m d
        · rfl
        · have := HV.out.1 hv; omega
      clear hb
      go_wp2_with fail
      go_ret
      exact ⟨ret_bool ((decide_eq_false (Int.not_le.2 h2)).trans HR.out.symm), HB.out⟩
  · have HR : Hid (validB y m d = false) := by
      show _ = _
      cases hv : validB y m d
      · rfl
      · have := HV.out.1 hv; omega
    clear hb
    go_wp2_with fail
    go_ret
    exact ⟨ret_bool HR.out.symm, HB.out⟩
theorem yDays_leap (y : Int) : yDays y = if leapB y = true then 366 else 365 := rfl
set_option maxRecDepth 100000 in
set_option maxHeartbeats 800000 in
theorem dayNumberR_any (y m d : Int) (w : World) (hd : -1000000 ≤ d ∧ d ≤ 1000000) : Calls Tryz.prog 108 #[.agg #[.int .i64 y, .int .i64 m, .int .i64 d]] w (NumPost (dayN y m d) w) := by
  have hb0 := (Below.refl w.heap.size w).alloc (Nat.le_refl _) (.cells #[.int .i64 y, .int .i64 m, .int .i64 d] 134)
  have hr0 := heap_alloc_new w (.cells #[.int .i64 y, .int .i64 m, .int .i64 d] 134)
  have hz0 : (w.alloc (.cells #[.int .i64 y, .int .i64 m, .int .i64 d] 134)).heap.size = w.heap.size + 1 := by simp
  have HB0 := Lib.hid hb0; have HR0 := Lib.hid hr0; have HZ0 := Lib.hid hz0
  have HD : Hid (dayN y m d = if validB y m d = true then (dayB y m d, 0) else (0, 5)) := rfl
  clear hb0 hr0 hz0
  go_enter Tryz.func108, Tryz.ntmps108
  go_wp2_with fail
  generalize w.alloc (.cells #[.int .i64 y, .int .i64 m, .int .i64 d] 134) = W at *
  refine (isDateR_any y m d W).mono ?_
  rintro e w1 ⟨rfl, hb1⟩
  have hbw1 : Below w.heap.size w w1 := HB0.out.trans (hb1.mono HB0.out.size)
  have hr1 := (hb1.block w.heap.size (by have := HZ0.out; omega)).trans HR0.out
  clear hb1
  cases hv : validB y m d
  · have HR : Hid (dayN y m d = (0, 5)) := by show _ = _; rw [HD.out, hv]; rfl
    clear hr1
    go_wp2_with fail
    go_ret2
    exact ⟨by rw [HR.out]; rfl, hbw1⟩
  obtain ⟨⟨y1, y2⟩, ⟨m1, m2⟩, d1, d2⟩ := validB_iff.1 hv
  have HR : Hid (dayN y m d = (-365 + yearSum (y - 1999).toNat + monSum y (m - 1).toNat + d - 1, 0)) := by show _ = _; rw [HD.out, hv]; rfl
  obtain ⟨Y, hY⟩ := Int.eq_ofNat_of_zero_le (show 0 ≤ y - 1999 by omega)
  obtain ⟨M, hM⟩ := Int.eq_ofNat_of_zero_le (show 0 ≤ m - 1 by omega)
  rw [hY, hM, Int.toNat_natCast, Int.toNat_natCast] at HR
  obtain rfl : y = 1999 + Y := by omega
  obtain rfl : m = 1 + M := by omega
  have hYl : Y ≤ 101 := by omega
  have hMl : M ≤ 11 := by omega
  have x0 := block_cell hr1 0; have x1 := block_cell hr1 1; have x2 := block_cell hr1 2
  have HY0 : Hid ((-365 : Int) = -365 + yearSum 0) := rfl
  clear hr1 hY hM hv HD
  go_wp2_with fail
  go_loop [4, 5] (fun nv yv => ∃ k : Nat, k ≤ Y ∧ yv = .int .i64 (1999 + k) ∧ nv = .int .i64 (-365 + yearSum k)) (fun _ yv => Y - (intOf yv - 1999).toNat)
  case atStart => exact ⟨0, Nat.zero_le _, rfl, by rw [← HY0.out]⟩
  case round =>
    obtain ⟨k, hk, rfl, rfl⟩ := hrel
    have hyb := yearSum_bd k
    by_cases hlt : k < Y
    · have HS := Lib.hid (yearSum_succ k)
      have HYL := Lib.hid (yDays_leap (1999 + k))
      have HC := Lib.hid (leapR_any (1999 + k) w1 (by omega) (by omega))
      have hlt' : (1999 : Int) + k < 1999 + Y := by omega
      generalize yearSum k = ys at *
      generalize yDays (1999 + k) = yd at *
      go_wp2_with fail
      refine HC.out.mono ?_
      rintro e w' ⟨rfl, rfl⟩
      cases hl : leapB (1999 + k)
      · rw [hl] at HYL
        have e9 : yd = 365 := HYL.out
        go_wp2_with fail
        go_round
        case rel => exact ⟨k + 1, by omega, by go_num, by rw [HS.out]; congr 1; omega⟩
        case measure => simp [intOf]; omega
      · rw [hl] at HYL
        have e9 : yd = 366 := HYL.out
        go_wp2_with fail
        go_round
        case rel => exact ⟨k + 1, by omega, by go_num, by rw [HS.out]; congr 1; omega⟩
        case measure => simp [intOf]; omega
    · have hkY : k = Y := by omega
      subst hkY
      have hnl : ¬ (1999 : Int) + k < 1999 + k := by omega
      have HM0 : Hid ((-365 : Int) + yearSum k = -365 + yearSum k + monSum (1999 + k) 0) := by show _ = _; rw [show monSum (1999 + k) 0 = 0 from rfl]; omega
      go_wp2_with fail
      go_loop [4, 6, 7, 8] (fun nv mv _ _ => ∃ q : Nat, q ≤ M ∧ mv = .int .i64 (1 + q) ∧ nv = .int .i64 (-365 + yearSum k + monSum (1999 + k) q)) (fun _ mv _ _ => M - (intOf mv - 1).toNat)
      case atStart => exact ⟨0, Nat.zero_le _, rfl, by rw [← HM0.out]⟩
      case round =>
        obtain ⟨q, hq, rfl, rfl⟩ := hrel
        have hmb := monSum_bd (1999 + k) q
        by_cases hltq : q < M
        · have HS := Lib.hid (monSum_succ (1999 + k) q)
          have hyd := mDays_bd (1999 + k) (1 + q)
          have HC := Lib.hid (daysInMonthR_any (1999 + k) (1 + q) w1)
          have HDE : Hid (dimB (1999 + k) (1 + q) = (mDays (1999 + k) (1 + q), 0)) := by show _ = _; unfold dimB; rw [if_neg (by omega)]
          rw [HDE.out] at HC
          have hlt' : (1 : Int) + q < 1 + M := by omega
          generalize monSum (1999 + k) q = ms at *
          generalize mDays (1999 + k) (1 + q) = md at *
          generalize yearSum k = ys at *
          go_wp2_with fail
          refine HC.out.mono ?_
          rintro e w' ⟨rfl, rfl⟩
          go_wp2_with fail
          go_round
          case rel => exact ⟨q + 1, by omega, by go_num, by rw [HS.out]; congr 1; omega⟩
          case measure => simp [intOf]; omega
        · have hqM : q = M := by omega
          subst hqM
          have hnl2 : ¬ (1 : Int) + q < 1 + q := by omega
          generalize hms : monSum (1999 + k) q = ms at *
          generalize hys : yearSum k = ys at *
          clear hms hys
          go_wp2_with fail
          go_ret2
          exact ⟨by rw [HR.out]; rfl, hbw1⟩
theorem digits_sub {s : ByteArray} {a b n : Nat} (h : b ≤ s.size) (hn : b - a = n) : digitsB (s.extract a b) n n = if digOn s a n = true then (subN s a b, true) else (0, false) := by
  unfold digitsB
  rw [dig_sub h, hn]
  have hz : (s.extract a b).size = n := by rw [size_sub h, hn]
  rw [if_neg (by rw [hz]; omega)]
  cases digOn s a n <;> rfl
end Go.Proofs.YtkhedjfdjjeopaaGreatDoor
/-
  Contracts of the reference's ParseDate, ParseClock, ParseInstant (package pairingref5).
  Condition: the string's length fits an int.
-/
namespace Go.Proofs.YtkhedjfdjjeopaaGreatDoor
set_option linter.unusedSimpArgs false
set_option linter.unusedVariables false
open Go.RowKit

theorem dateB_size {s : ByteArray} (h : ¬ s.size = 10) : dateB s = ((0, 0, 0), 1) := by
  unfold dateB; rw [matchD_iff, decide_eq_false h]; rfl
theorem dateB_b4 {s : ByteArray} (h : ¬ byteAt s 4 = 45) : dateB s = ((0, 0, 0), 1) := by
  unfold dateB; rw [matchD_iff, decide_eq_false h]; simp
theorem dateB_b7 {s : ByteArray} (h : ¬ byteAt s 7 = 45) : dateB s = ((0, 0, 0), 1) := by
  unfold dateB; rw [matchD_iff, decide_eq_false h]; simp
theorem dateB_dig {s : ByteArray} (h : ¬ (digOn s 0 4 = true ∧ digOn s 5 2 = true ∧ digOn s 8 2 = true)) : dateB s = ((0, 0, 0), 1) := by
  unfold dateB; rw [matchD_iff]
  rw [if_pos]
  generalize digOn s 0 4 = a at *
  generalize digOn s 5 2 = b at *
  generalize digOn s 8 2 = c at *
  cases a <;> cases b <;> cases c <;> simp at h ⊢
theorem dateB_ok {s : ByteArray} (h0 : s.size = 10) (h4 : byteAt s 4 = 45) (h7 : byteAt s 7 = 45) (hd : digOn s 0 4 = true ∧ digOn s 5 2 = true ∧ digOn s 8 2 = true) :
    dateB s = if validB (subN s 0 4) (subN s 5 7) (subN s 8 s.size) = false then ((0, 0, 0), 5) else ((subN s 0 4, subN s 5 7, subN s 8 s.size), 0) := by
  have hm : matchB s patD = true := by
    rw [matchD_iff, hd.1, hd.2.1, hd.2.2, decide_eq_true h0, decide_eq_true h4, decide_eq_true h7]; rfl
  unfold dateB; rw [if_neg (by rw [hm]; decide)]
set_option maxRecDepth 100000 in
set_option maxHeartbeats 1600000 in
theorem parseDateR_any (s : ByteArray) (w : World) (hs : s.size ≤ maxLen) : Calls Tryz.prog 106 #[.string s] w (DatePost (dateB s) w) := by
  have hb0 := (Below.refl w.heap.size w).alloc (Nat.le_refl _) (.cells #[.int .i64 0, .int .i64 0, .int .i64 0] 134)
  have hr0 := heap_alloc_new w (.cells #[.int .i64 0, .int .i64 0, .int .i64 0] 134)
  have hz0 : (w.alloc (.cells #[.int .i64 0, .int .i64 0, .int .i64 0] 134)).heap.size = w.heap.size + 1 := by simp
  unfold maxLen at hs
  have z0 := block_cell hr0 0; have z1 := block_cell hr0 1; have z2 := block_cell hr0 2
  have f0 := block_free hr0 0; have f1 := block_free hr0 1; have f2 := block_free hr0 2
  have HB0 := Lib.hid hb0; have HR0 := Lib.hid hr0; have HZ0 := Lib.hid hz0
  clear hb0 hr0 hz0
  by_cases hsz : s.size = 10
  case neg =>
    have hz' : ((s.size : Int) != 10) = true := by simp; omega
    have HR := Lib.hid (dateB_size hsz)
    clear hsz
    go_enter Tryz.func106, Tryz.ntmps106
    go_wp2_with fail
    generalize w.alloc (.cells #[.int .i64 0, .int .i64 0, .int .i64 0] 134) = W at *
    refine bodyPost_ret (v := .tuple #[.agg #[.int .i64 0, .int .i64 0, .int .i64 0], .int .i64 1]) (by simp [results, Tryz.results106, go_sem, z0, z1, z2]) rfl ?_
    first | exact ⟨by rw [HR.out], HB0.out⟩ | exact ⟨by rw [HR.out], ((HB0.out.setCell (Nat.le_refl _) _).setCell (Nat.le_refl _) _).setCell (Nat.le_refl _) _⟩
  have hz' : ((s.size : Int) != 10) = false := by simp; omega
  have l4 : 4 < s.size := by omega
  have l7 : 7 < s.size := by omega
  have l4' : (4 : Int) < (s.size : Int) := by omega
  have l7' : (7 : Int) < (s.size : Int) := by omega
  have HB4 := Lib.hid (byteAt_eq s 4 l4)
  have HB7 := Lib.hid (byteAt_eq s 7 l7)
  have HSZ := Lib.hid hsz
  clear hsz
  by_cases h4 : byteAt s 4 = 45
  case neg =>
    have h4' : ((s[4].toNat : Int) != 45) = true := by rw [HB4.out]; simpa using h4
    have HR := Lib.hid (dateB_b4 h4)
    clear h4
    go_enter Tryz.func106, Tryz.ntmps106
    go_wp2_with fail
    generalize w.alloc (.cells #[.int .i64 0, .int .i64 0, .int .i64 0] 134) = W at *
    refine bodyPost_ret (v := .tuple #[.agg #[.int .i64 0, .int .i64 0, .int .i64 0], .int .i64 1]) (by simp [results, Tryz.results106, go_sem, z0, z1, z2]) rfl ?_
    first | exact ⟨by rw [HR.out], HB0.out⟩ | exact ⟨by rw [HR.out], ((HB0.out.setCell (Nat.le_refl _) _).setCell (Nat.le_refl _) _).setCell (Nat.le_refl _) _⟩
  have h4' : ((s[4].toNat : Int) != 45) = false := by rw [HB4.out]; simpa using h4
  by_cases h7 : byteAt s 7 = 45
  case neg =>
    have h7' : ((s[7].toNat : Int) != 45) = true := by rw [HB7.out]; simpa using h7
    have HR := Lib.hid (dateB_b7 h7)
    clear h4 h7
    go_enter Tryz.func106, Tryz.ntmps106
    go_wp2_with fail
    generalize w.alloc (.cells #[.int .i64 0, .int .i64 0, .int .i64 0] 134) = W at *
    refine bodyPost_ret (v := .tuple #[.agg #[.int .i64 0, .int .i64 0, .int .i64 0], .int .i64 1]) (by simp [results, Tryz.results106, go_sem, z0, z1, z2]) rfl ?_
    first | exact ⟨by rw [HR.out], HB0.out⟩ | exact ⟨by rw [HR.out], ((HB0.out.setCell (Nat.le_refl _) _).setCell (Nat.le_refl _) _).setCell (Nat.le_refl _) _⟩
  have h7' : ((s[7].toNat : Int) != 45) = false := by rw [HB7.out]; simpa using h7
  have HC1 : Hid (∀ V : World, Calls Tryz.prog 104 #[.string (s.extract 0 4), .int .i64 4, .int .i64 4] V (DigitsPost (s.extract 0 4) 4 4 V)) := fun V => digits_any _ 4 4 V (by decide)
  have HC2 : Hid (∀ V : World, Calls Tryz.prog 104 #[.string (s.extract 5 7), .int .i64 2, .int .i64 2] V (DigitsPost (s.extract 5 7) 2 2 V)) := fun V => digits_any _ 2 2 V (by decide)
  have HC3 : Hid (∀ V : World, Calls Tryz.prog 104 #[.string (s.extract 8 s.size), .int .i64 2, .int .i64 2] V (DigitsPost (s.extract 8 s.size) 2 2 V)) := fun V => digits_any _ 2 2 V (by decide)
  unfold DigitsPost at HC1 HC2 HC3
  have E1 := digits_sub (s := s) (a := 0) (b := 4) (n := 4) (by omega) (by omega)
  have E2 := digits_sub (s := s) (a := 5) (b := 7) (n := 2) (by omega) (by omega)
  have E3 := digits_sub (s := s) (a := 8) (b := s.size) (n := 2) (Nat.le_refl _) (by have := HSZ.out; omega)
  rw [show digitsB (s.extract 0 4) 4 4 = digitsB (s.extract 0 4) ((4 : Nat) : Int) ((4 : Nat) : Int) from rfl, E1] at HC1
  rw [show digitsB (s.extract 5 7) 2 2 = digitsB (s.extract 5 7) ((2 : Nat) : Int) ((2 : Nat) : Int) from rfl, E2] at HC2
  rw [show digitsB (s.extract 8 s.size) 2 2 = digitsB (s.extract 8 s.size) ((2 : Nat) : Int) ((2 : Nat) : Int) from rfl, E3] at HC3
  clear E1 E2 E3
  have HOK := Lib.hid (dateB_ok HSZ.out h4 h7)
  have HNO := Lib.hid (dateB_dig (s := s))
  have tz5 : (5 : Int) ≤ (s.size : Int) := by omega
  have tz8 : (8 : Int) ≤ (s.size : Int) := by omega
  have tz4 : (4 : Int) ≤ (s.size : Int) := by omega
  have tz7 : (7 : Int) ≤ (s.size : Int) := by omega
  clear h4 h7 HB4 HB7 HSZ
  generalize digOn s 0 4 = a at *
  generalize digOn s 5 2 = b at *
  generalize digOn s 8 2 = c at *
  by_cases habc : a = true ∧ b = true ∧ c = true
  case neg =>
    have HR := Lib.hid (HNO.out habc)
    clear HNO HOK
    cases a <;> cases b <;> cases c <;> first
      | exact absurd ⟨rfl, rfl, rfl⟩ habc
      | (clear habc
         simp only [if_true, Bool.false_eq_true, if_false] at HC1 HC2 HC3
         go_enter Tryz.func106, Tryz.ntmps106
         go_wp2_with fail
         generalize w.alloc (.cells #[.int .i64 0, .int .i64 0, .int .i64 0] 134) = W at *
         refine (HC1.out _).mono ?_
         rintro e w' ⟨rfl, rfl⟩
         go_wp2_with fail
         refine (HC2.out _).mono ?_
         rintro e w' ⟨rfl, rfl⟩
         go_wp2_with fail
         refine (HC3.out _).mono ?_
         rintro e w' ⟨rfl, rfl⟩
         go_wp2_with fail
         refine bodyPost_ret (v := .tuple #[.agg #[.int .i64 0, .int .i64 0, .int .i64 0], .int .i64 1]) (by simp [results, Tryz.results106, go_sem, z0, z1, z2]) rfl ?_
         first | exact ⟨by rw [HR.out], HB0.out⟩ | exact ⟨by rw [HR.out], ((HB0.out.setCell (Nat.le_refl _) _).setCell (Nat.le_refl _) _).setCell (Nat.le_refl _) _⟩)
  have HR := Lib.hid (HOK.out habc)
  obtain ⟨rfl, rfl, rfl⟩ := habc
  simp only [if_true] at HC1 HC2 HC3
  clear HNO HOK
  generalize subN s 0 4 = y at *
  generalize subN s 5 7 = m at *
  generalize subN s 8 s.size = d at *
  go_enter Tryz.func106, Tryz.ntmps106
  go_wp2_with fail
  generalize w.alloc (.cells #[.int .i64 0, .int .i64 0, .int .i64 0] 134) = W at *
  refine (HC1.out _).mono ?_
  rintro e w' ⟨rfl, rfl⟩
  go_wp2_with fail
  refine (HC2.out _).mono ?_
  rintro e w' ⟨rfl, rfl⟩
  go_wp2_with fail
  refine (HC3.out _).mono ?_
  rintro e w' ⟨rfl, rfl⟩
  have hbA := HB0.out.alloc HB0.out.size (.cells #[.int .i64 y, .int .i64 m, .int .i64 d] 134)
  have hbB := (Below.refl W.heap.size W).alloc (Nat.le_refl _) (.cells #[.int .i64 y, .int .i64 m, .int .i64 d] 134)
  have hrA := heap_alloc_new W (.cells #[.int .i64 y, .int .i64 m, .int .i64 d] 134)
  have hzA : (W.alloc (.cells #[.int .i64 y, .int .i64 m, .int .i64 d] 134)).heap.size = W.heap.size + 1 := by simp
  have x0 := block_cell hrA 0; have x1 := block_cell hrA 1; have x2 := block_cell hrA 2
  have HBA := Lib.hid hbA; have HRA := Lib.hid hrA; have HZA := Lib.hid hzA; have HBB := Lib.hid hbB
  clear hbA hrA hzA hbB HC1 HC2 HC3 z0 z1 z2 f0 f1 f2
  go_wp2_with fail
  generalize W.alloc (.cells #[.int .i64 y, .int .i64 m, .int .i64 d] 134) = V at *
  refine (isDateR_any y m d V).mono ?_
  rintro e w2 ⟨rfl, hb2⟩
  have hbw2 : Below w.heap.size w w2 := HBA.out.trans (hb2.mono HBA.out.size)
  have hr2 := (hb2.block w.heap.size (by have := HZA.out; have := HZ0.out; omega)).trans ((HBB.out.block w.heap.size (by have := HZ0.out; omega)).trans HR0.out)
  have hp2 := (hb2.block W.heap.size (by have := HZA.out; omega)).trans HRA.out
  have z0 := block_cell hr2 0; have z1 := block_cell hr2 1; have z2 := block_cell hr2 2
  have f0 := block_free hr2 0; have f1 := block_free hr2 1; have f2 := block_free hr2 2
  have y0 := block_cell hp2 0; have y1 := block_cell hp2 1; have y2 := block_cell hp2 2
  have hpw : W.heap.size ≠ w.heap.size := by have := HZ0.out; omega
  clear hr2 hp2 hb2 x0 x1 x2
  cases hv : validB y m d
  · have HR : Hid (dateB s = ((0, 0, 0), 5)) := by show _ = _; rw [HR.out, if_pos hv]
    go_wp2_with fail
    refine bodyPost_ret (v := .tuple #[.agg #[.int .i64 0, .int .i64 0, .int .i64 0], .int .i64 5]) (by simp [results, Tryz.results106, go_sem, z0, z1, z2]) rfl ?_
    exact ⟨by rw [HR.out], ((hbw2.setCell (Nat.le_refl _) _).setCell (Nat.le_refl _) _).setCell (Nat.le_refl _) _⟩
  · have HR : Hid (dateB s = ((y, m, d), 0)) := by show _ = _; rw [HR.out, if_neg (by rw [hv]; decide)]
    go_wp2_with fail
    refine bodyPost_ret (v := .tuple #[.agg #[.int .i64 y, .int .i64 m, .int .i64 d], .int .i64 0]) (by simp [results, Tryz.results106, go_sem, z0, z1, z2]) rfl ?_
    exact ⟨by rw [HR.out], ((hbw2.setCell (Nat.le_refl _) _).setCell (Nat.le_refl _) _).setCell (Nat.le_refl _) _⟩
theorem clockB_size {s : ByteArray} (h : ¬ s.size = 5) : clockB s = (0, 1) := by
  unfold clockB; rw [matchC_iff, decide_eq_false h]; rfl
theorem clockB_b2 {s : ByteArray} (h : ¬ byteAt s 2 = 58) : clockB s = (0, 1) := by
  unfold clockB; rw [matchC_iff, decide_eq_false h]; simp
theorem clockB_dig {s : ByteArray} (h : ¬ (digOn s 0 2 = true ∧ digOn s 3 2 = true)) : clockB s = (0, 1) := by
  unfold clockB; rw [matchC_iff]
  rw [if_pos]
  generalize digOn s 0 2 = a at *
  generalize digOn s 3 2 = b at *
  cases a <;> cases b <;> simp at h ⊢
theorem clockB_ok {s : ByteArray} (h0 : s.size = 5) (h2 : byteAt s 2 = 58) (hd : digOn s 0 2 = true ∧ digOn s 3 2 = true) :
    clockB s = (if 23 < subN s 0 2 ∨ 59 < subN s 3 s.size then (0, 5) else (subN s 0 2 * 60 + subN s 3 s.size, 0)) ∧ (0 ≤ subN s 0 2 ∧ subN s 0 2 ≤ 99) ∧ (0 ≤ subN s 3 s.size ∧ subN s 3 s.size ≤ 99) := by
  have hm : matchB s patC = true := by
    rw [matchC_iff, hd.1, hd.2, decide_eq_true h0, decide_eq_true h2]; rfl
  refine ⟨?_, ?_, ?_⟩
  · unfold clockB; rw [if_neg (by rw [hm]; decide)]
  · have n1 := numTo_bd (s.extract 0 2) (s.extract 0 2).size (by rw [dig_sub (by omega)]; exact hd.1)
    have b1 : bnd (s.extract 0 2).size = 99 := by rw [size_sub (show 2 ≤ s.size by omega)]; rfl
    rw [b1] at n1
    exact n1
  · have n2 := numTo_bd (s.extract 3 s.size) (s.extract 3 s.size).size (by rw [dig_sub (Nat.le_refl _), h0]; exact hd.2)
    have b2 : bnd (s.extract 3 s.size).size = 99 := by rw [size_sub (Nat.le_refl s.size), h0]; rfl
    rw [b2] at n2
    exact n2
set_option maxRecDepth 100000 in
set_option maxHeartbeats 800000 in
theorem parseClockR_any (s : ByteArray) (w : World) (hs : s.size ≤ maxLen) : Calls Tryz.prog 107 #[.string s] w (NumPost (clockB s) w) := by
  unfold maxLen at hs
  have HB0 := Lib.hid (Below.refl w.heap.size w)
  by_cases hsz : s.size = 5
  case neg =>
    have hz' : ((s.size : Int) != 5) = true := by simp; omega
    have HR := Lib.hid (clockB_size hsz)
    clear hsz
    go_enter Tryz.func107, Tryz.ntmps107
    go_wp2_with fail
    go_ret2
    exact ⟨by rw [HR.out]; rfl, HB0.out⟩
  have hz' : ((s.size : Int) != 5) = false := by simp; omega
  have l2 : 2 < s.size := by omega
  have l2' : (2 : Int) < (s.size : Int) := by omega
  have HB2 := Lib.hid (byteAt_eq s 2 l2)
  have HSZ := Lib.hid hsz
  clear hsz
  by_cases h2 : byteAt s 2 = 58
  case neg =>
    have h2' : ((s[2].toNat : Int) != 58) = true := by rw [HB2.out]; simpa using h2
    have HR := Lib.hid (clockB_b2 h2)
    clear h2
    go_enter Tryz.func107, Tryz.ntmps107
    go_wp2_with fail
    go_ret2
    exact ⟨by rw [HR.out]; rfl, HB0.out⟩
  have h2' : ((s[2].toNat : Int) != 58) = false := by rw [HB2.out]; simpa using h2
  have HC1 : Hid (∀ V : World, Calls Tryz.prog 104 #[.string (s.extract 0 2), .int .i64 2, .int .i64 2] V (DigitsPost (s.extract 0 2) 2 2 V)) := fun V => digits_any _ 2 2 V (by decide)
  have HC2 : Hid (∀ V : World, Calls Tryz.prog 104 #[.string (s.extract 3 s.size), .int .i64 2, .int .i64 2] V (DigitsPost (s.extract 3 s.size) 2 2 V)) := fun V => digits_any _ 2 2 V (by decide)
  unfold DigitsPost at HC1 HC2
  have E1 := digits_sub (s := s) (a := 0) (b := 2) (n := 2) (by omega) (by omega)
  have E2 := digits_sub (s := s) (a := 3) (b := s.size) (n := 2) (Nat.le_refl _) (by have := HSZ.out; omega)
  rw [show digitsB (s.extract 0 2) 2 2 = digitsB (s.extract 0 2) ((2 : Nat) : Int) ((2 : Nat) : Int) from rfl, E1] at HC1
  rw [show digitsB (s.extract 3 s.size) 2 2 = digitsB (s.extract 3 s.size) ((2 : Nat) : Int) ((2 : Nat) : Int) from rfl, E2] at HC2
  clear E1 E2
  have HOK := Lib.hid (clockB_ok HSZ.out h2)
  have HNO := Lib.hid (clockB_dig (s := s))
  have tz2 : (2 : Int) ≤ (s.size : Int) := by omega
  have tz3 : (3 : Int) ≤ (s.size : Int) := by omega
  clear h2 HB2 HSZ
  generalize digOn s 0 2 = a at *
  generalize digOn s 3 2 = b at *
  by_cases habc : a = true ∧ b = true
  case neg =>
    have HR := Lib.hid (HNO.out habc)
    clear HNO HOK
    cases a <;> cases b <;> first
      | exact absurd ⟨rfl, rfl⟩ habc
      | (clear habc
         simp only [if_true, Bool.false_eq_true, if_false] at HC1 HC2
         go_enter Tryz.func107, Tryz.ntmps107
         go_wp2_with fail
         refine (HC1.out _).mono ?_
         rintro e w' ⟨rfl, rfl⟩
         go_wp2_with fail
         refine (HC2.out _).mono ?_
         rintro e w' ⟨rfl, rfl⟩
         go_wp2_with fail
         go_ret2
         exact ⟨by rw [HR.out]; rfl, HB0.out⟩)
  obtain ⟨hR, ⟨k1, k2⟩, k3, k4⟩ := HOK.out habc
  have HR := Lib.hid hR
  obtain ⟨rfl, rfl⟩ := habc
  simp only [if_true] at HC1 HC2
  clear HNO HOK hR
  generalize subN s 0 2 = hh at *
  generalize subN s 3 s.size = mm at *
  go_enter Tryz.func107, Tryz.ntmps107
  go_wp2_with fail
  refine (HC1.out _).mono ?_
  rintro e w' ⟨rfl, rfl⟩
  go_wp2_with fail
  refine (HC2.out _).mono ?_
  rintro e w' ⟨rfl, rfl⟩
  by_cases h1 : 23 < hh
  · have HR : Hid (clockB s = (0, 5)) := by show _ = _; rw [HR.out, if_pos (.inl h1)]
    go_wp2_with fail
    go_ret2
    exact ⟨by rw [HR.out]; rfl, HB0.out⟩
  by_cases h2 : 59 < mm
  · have HR : Hid (clockB s = (0, 5)) := by show _ = _; rw [HR.out, if_pos (.inr h2)]
    go_wp2_with fail
    go_ret2
    exact ⟨by rw [HR.out]; rfl, HB0.out⟩
  have HR : Hid (clockB s = (60 * hh + mm, 0)) := by show _ = _; rw [HR.out, if_neg (by rintro (h | h); exact h1 h; exact h2 h), Int.mul_comm]
  go_wp2_with fail
  go_ret2
  exact ⟨by rw [HR.out]; rfl, HB0.out⟩
end Go.Proofs.YtkhedjfdjjeopaaGreatDoor
/-
  Contract of the reference's ParseInstant (package pairingref5), and of the methods number and instant of pairingref9's parser.
  Condition: the string's length fits an int.
-/
namespace Go.Proofs.YtkhedjfdjjeopaaGreatDoor
set_option linter.unusedSimpArgs false
set_option linter.unusedVariables false
open Go.RowKit

set_option maxRecDepth 100000 in
set_option maxHeartbeats 1600000 in
theorem parseInstantR_any (s : ByteArray) (w : World) (hs : s.size ≤ maxLen) : Calls Tryz.prog 70 #[.string s] w (NumPost (insB s) w) := by
  unfold maxLen at hs
  have HD := Lib.hid (insB_ref s)
  have HB0 := Lib.hid (Below.refl w.heap.size w)
  by_cases hsz : s.size = 16
  case neg =>
    have hz' : ((s.size : Int) != 16) = true := by simp; omega
    have HR : Hid (insB s = (0, 1)) := by show _ = _; rw [HD.out, if_pos (.inl hsz)]
    clear hsz HD
    go_enter Tryz.func70, Tryz.ntmps70
    go_wp2_with fail
    go_ret2
    exact ⟨by rw [HR.out]; rfl, HB0.out⟩
  have hz' : ((s.size : Int) != 16) = false := by simp; omega
  have l2 : 10 < s.size := by omega
  have l2' : (10 : Int) < (s.size : Int) := by omega
  have t1 : 10 ≤ s.size := by omega
  have t2 : 11 ≤ s.size := by omega
  have t1' : (10 : Int) ≤ (s.size : Int) := by omega
  have t2' : (11 : Int) ≤ (s.size : Int) := by omega
  have HB2 := Lib.hid (byteAt_eq s 10 l2)
  have HSZ := Lib.hid hsz
  clear hsz
  by_cases h2 : byteAt s 10 = 32
  case neg =>
    have h2' : ((s[10].toNat : Int) != 32) = true := by rw [HB2.out]; simpa using h2
    have HR : Hid (insB s = (0, 1)) := by show _ = _; rw [HD.out, if_pos (.inr h2)]
    clear h2 HD
    go_enter Tryz.func70, Tryz.ntmps70
    go_wp2_with fail
    go_ret2
    exact ⟨by rw [HR.out]; rfl, HB0.out⟩
  have h2' : ((s[10].toNat : Int) != 32) = false := by rw [HB2.out]; simpa using h2
  rw [if_neg (by rintro (h | h); exact h HSZ.out; exact h h2)] at HD
  have HPDt := Lib.hid (parseDateR_any (s.extract 0 10) w (by rw [size_sub t1]; unfold maxLen; omega))
  have HPC : Hid (∀ V : World, Calls Tryz.prog 107 #[.string (s.extract 11 s.size)] V (NumPost (clockB (s.extract 11 s.size)) V)) := fun V => parseClockR_any _ V (by rw [size_sub (Nat.le_refl _)]; unfold maxLen; omega)
  have HVD := Lib.hid (dateB_valid (s := s.extract 0 10))
  have hcb := clockB_bd (s.extract 11 s.size)
  generalize dateB (s.extract 0 10) = D at *
  generalize clockB (s.extract 11 s.size) = C at *
  obtain ⟨⟨y, m, d⟩, e0⟩ := D
  obtain ⟨cl, f0⟩ := C
  simp only at HD HPDt HPC HVD hcb
  clear h2 HB2 HSZ
  go_enter Tryz.func70, Tryz.ntmps70
  go_wp2_with fail
  refine HPDt.out.mono ?_
  rintro e w2 ⟨rfl, hbw2⟩
  clear HPDt
  have hbA := hbw2.alloc hbw2.size (.cells #[.int .i64 y, .int .i64 m, .int .i64 d] 134)
  have hrA := heap_alloc_new w2 (.cells #[.int .i64 y, .int .i64 m, .int .i64 d] 134)
  have hzA : (w2.alloc (.cells #[.int .i64 y, .int .i64 m, .int .i64 d] 134)).heap.size = w2.heap.size + 1 := by simp
  have HBA := Lib.hid hbA; have HRA := Lib.hid hrA; have HZA := Lib.hid hzA
  clear hbA hrA hzA
  go_wp2_with fail
  generalize w2.alloc (.cells #[.int .i64 y, .int .i64 m, .int .i64 d] 134) = V at *
  refine (HPC.out V).mono ?_
  rintro e w3 ⟨rfl, hb3⟩
  have hbw3 : Below w.heap.size w w3 := HBA.out.trans (hb3.mono HBA.out.size)
  have hr3 := (hb3.block w2.heap.size (by have := HZA.out; omega)).trans HRA.out
  clear HPC hb3
  by_cases he : e0 = 1
  · have he' : (e0 == 1) = true := by simpa using he
    have HR : Hid (insB s = (0, 1)) := by show _ = _; rw [HD.out, if_pos (.inl he)]
    clear he HD hr3
    go_wp2_with fail
    go_ret2
    exact ⟨by rw [HR.out]; rfl, hbw3⟩
  have he' : (e0 == 1) = false := by simpa using he
  by_cases hf : f0 = 1
  · have hf' : (f0 == 1) = true := by simpa using hf
    have HR : Hid (insB s = (0, 1)) := by show _ = _; rw [HD.out, if_pos (.inr hf)]
    clear he hf HD hr3
    go_wp2_with fail
    go_ret2
    exact ⟨by rw [HR.out]; rfl, hbw3⟩
  have hf' : (f0 == 1) = false := by simpa using hf
  rw [if_neg (by rintro (h | h); exact he h; exact hf h)] at HD
  by_cases he2 : e0 = 0
  case neg =>
    have he2' : (e0 != 0) = true := by simpa using he2
    have HR : Hid (insB s = (0, 5)) := by show _ = _; rw [HD.out, if_pos (.inl he2)]
    clear he2 he hf HD hr3
    go_wp2_with fail
    go_ret2
    exact ⟨by rw [HR.out]; rfl, hbw3⟩
  by_cases hf2 : f0 = 0
  case neg =>
    subst he2
    have hf2' : (f0 != 0) = true := by simpa using hf2
    have HR : Hid (insB s = (0, 5)) := by show _ = _; rw [HD.out, if_pos (.inr hf2)]
    clear hf2 he hf HD hr3
    go_wp2_with fail
    go_ret2
    exact ⟨by rw [HR.out]; rfl, hbw3⟩
  subst he2 hf2
  rw [if_neg (by simp)] at HD
  have hdv := HVD.out rfl
  have hdb := dayB_bd hdv
  obtain ⟨⟨v1, v2⟩, ⟨v3, v4⟩, v5, v6⟩ := validB_iff.1 hdv
  have hmd := mDays_bd y m
  have x0 := block_cell hr3 0; have x1 := block_cell hr3 1; have x2 := block_cell hr3 2
  have HDN := Lib.hid (dayNumberR_any y m d w3 (by omega))
  have HDE : Hid (dayN y m d = (dayB y m d, 0)) := by show _ = _; unfold dayN; rw [if_pos hdv]
  rw [HDE.out] at HDN
  generalize dayB y m d = dn at *
  clear hr3 hdv HVD
  go_wp2_with fail
  refine HDN.out.mono ?_
  rintro e w4 ⟨rfl, hb4⟩
  have hbw4 : Below w.heap.size w w4 := hbw3.trans (hb4.mono hbw3.size)
  clear HDN hb4 x0 x1 x2
  by_cases h1 : 1440 * dn + cl < 0
  · have HR : Hid (insB s = (0, 5)) := by show _ = _; rw [HD.out, if_pos (.inl h1)]
    go_wp2_with fail
    go_ret2
    exact ⟨by rw [HR.out]; rfl, hbw4⟩
  by_cases h2 : 52596000 ≤ 1440 * dn + cl
  · have HR : Hid (insB s = (0, 5)) := by show _ = _; rw [HD.out, if_pos (.inr h2)]
    go_wp2_with fail
    go_ret2
    exact ⟨by rw [HR.out]; rfl, hbw4⟩
  have HR : Hid (insB s = (1440 * dn + cl, 0)) := by show _ = _; rw [HD.out, if_neg (by rintro (h | h); exact h1 h; exact h2 h)]
  go_wp2_with fail
  go_ret2
  exact ⟨by rw [HR.out]; rfl, hbw4⟩
end Go.Proofs.YtkhedjfdjjeopaaGreatDoor
