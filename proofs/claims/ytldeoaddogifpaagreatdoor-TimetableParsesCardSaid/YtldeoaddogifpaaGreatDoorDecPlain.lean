/-
  Plain functions of the wire decodings and that they invert the encodings.
  No condition.
-/
import Derived.Test.YtldeoaddogifpaaGreatDoorWirePlain
namespace Go.Proofs.YtldeoaddogifpaaGreatDoor
set_option linter.unusedSimpArgs false
set_option linter.unusedVariables false
open Go

/-- Reading a number in groups of seven bits: i groups are read, with the sum n; then what is left. -/
def decF : Nat → Nat → Int → List Int → Int × Nat × Int
  | 0, _, _, _ => (0, 0, 2)
  | _ + 1, _, _, [] => (0, 0, 3)
  | f + 1, i, n, c :: l =>
    if 128 ≤ c then decF f (i + 1) (n + c % 128 * 128 ^ i) l
    else if (c = 0 ∧ 0 < i) ∨ 4611686018427387904 < n + c % 128 * 128 ^ i then (0, 0, 2)
    else (n + c % 128 * 128 ^ i, i + 1, 0)
def decU (l : List Int) : Int × Nat × Int := decF 9 0 0 l

theorem decF_err : ∀ (f i : Nat) (n : Int) (l : List Int), (decF f i n l).2.2 ≠ 0 → (decF f i n l).1 = 0 ∧ (decF f i n l).2.1 = 0
  | 0, _, _, _, _ => ⟨rfl, rfl⟩
  | _ + 1, _, _, [], _ => ⟨rfl, rfl⟩
  | f + 1, i, n, c :: l, h => by
    rw [decF] at h ⊢
    split at h
    · rename_i h1
      rw [if_pos h1]
      exact decF_err f _ _ l h
    · rename_i h1
      rw [if_neg h1]
      split at h
      · rename_i h2; rw [if_pos h2]; exact ⟨rfl, rfl⟩
      · exact absurd rfl h
theorem decU_err {l : List Int} (h : (decU l).2.2 ≠ 0) : (decU l).1 = 0 ∧ (decU l).2.1 = 0 := decF_err 9 0 0 l h
theorem pow128_pos (i : Nat) : (0 : Int) < 128 ^ i := Int.pow_pos (by decide)
theorem decF_ok : ∀ (f i : Nat) (n : Int) (l : List Int), 0 ≤ n → (∀ x ∈ l, isByte x) → (decF f i n l).2.2 = 0 →
    0 ≤ (decF f i n l).1 ∧ (decF f i n l).1 ≤ 4611686018427387904 ∧ i + 1 ≤ (decF f i n l).2.1 ∧ (decF f i n l).2.1 ≤ i + l.length ∧ (decF f i n l).2.1 ≤ i + f
  | 0, _, _, _, _, _, h => by cases h
  | _ + 1, _, _, [], _, _, h => by cases h
  | f + 1, i, n, c :: l, hn, hb, h => by
    have hp := pow128_pos i
    have hc := hb c (by simp)
    have hm : 0 ≤ c % 128 * 128 ^ i := Int.mul_nonneg (by omega) (by omega)
    rw [decF] at h ⊢
    split at h
    · rename_i h1
      rw [if_pos h1]
      have := decF_ok f (i + 1) _ l (by omega) (fun x hx => hb x (by simp [hx])) h
      simp only [List.length_cons]
      omega
    · rename_i h1
      rw [if_neg h1]
      split at h
      · exact absurd h (by decide)
      · rename_i h2
        rw [if_neg h2]
        simp only [List.length_cons]
        omega
theorem decU_ok {l : List Int} (hb : ∀ x ∈ l, isByte x) (h : (decU l).2.2 = 0) : 0 ≤ (decU l).1 ∧ (decU l).1 ≤ 4611686018427387904 ∧ 1 ≤ (decU l).2.1 ∧ (decU l).2.1 ≤ l.length ∧ (decU l).2.1 ≤ 9 := by
  have := decF_ok 9 0 0 l (by decide) hb h
  unfold decU
  omega
theorem decF_e : ∀ (f i : Nat) (n : Int) (l : List Int), (decF f i n l).2.2 = 0 ∨ (decF f i n l).2.2 = 2 ∨ (decF f i n l).2.2 = 3
  | 0, _, _, _ => .inr (.inl rfl)
  | _ + 1, _, _, [] => .inr (.inr rfl)
  | f + 1, i, n, c :: l => by
    rw [decF]
    split
    · exact decF_e f _ _ l
    · split
      · exact .inr (.inl rfl)
      · exact .inl rfl
theorem decF_uvar : ∀ (f i : Nat) (n m : Int) (r : List Int), 0 ≤ m → m < 128 ^ (f + 1) → (i = 0 ∨ m ≠ 0) → n + m * 128 ^ i ≤ 4611686018427387904 → m ≤ 4611686018427387904 → decF (f + 1) i n (uvar m ++ r) = (n + m * 128 ^ i, i + (uvar m).length, 0)
  | f, i, n, m, r, h0, h1, h2, h3, h4 => by
    by_cases hm : m < 128
    · have e : m % 128 = m := Int.emod_eq_of_lt h0 hm
      rw [uvar_small hm, List.singleton_append, decF, if_neg (by omega), e, if_neg (by omega)]
      rfl
    · have hf : ∃ g, f = g + 1 := by
        cases f with
        | zero => exact absurd h1 (by simpa using (by omega : 128 ≤ m))
        | succ g => exact ⟨g, rfl⟩
      obtain ⟨g, rfl⟩ := hf
      have e1 : (m % 128 + 128) % 128 = m % 128 := by omega
      have e2 : n + m % 128 * 128 ^ i + m / 128 * 128 ^ (i + 1) = n + m * 128 ^ i := by
        have : m * 128 ^ i = (m % 128 + 128 * (m / 128)) * 128 ^ i := by rw [Int.emod_add_mul_ediv]
        rw [this, Int.add_mul, Int.pow_succ, Int.add_assoc]
        congr 2
        rw [Int.mul_comm 128 (m / 128), Int.mul_assoc, Int.mul_comm 128 (128 ^ i)]
      rw [uvar_step (by omega) h4, List.cons_append, decF, if_pos (by omega), e1, decF_uvar g (i + 1) _ (m / 128) r (by omega) (by
        rw [Int.pow_succ] at h1
        exact Int.ediv_lt_of_lt_mul (by decide) (by omega)) (.inr (by omega)) (by rw [e2]; exact h3) (by omega), e2]
      simp only [List.length_cons, Prod.mk.injEq, true_and, and_true]
      omega
theorem decU_uvar {m : Int} (r : List Int) (h0 : 0 ≤ m) (h1 : m ≤ 4611686018427387904) : decU (uvar m ++ r) = (m, (uvar m).length, 0) := by
  have h : ((128 : Int) ^ (8 + 1)) = 9223372036854775808 := by decide
  have := decF_uvar 8 0 0 m r h0 (by omega) (.inl rfl) (by simpa using h1) h1
  unfold decU
  rw [this]
  simp
/-- A signed number out of a number. -/
def unzig (u : Int) : Int := if u % 2 = 0 then u / 2 else -(u / 2 + 1)
theorem unzig_zig (n : Int) : unzig (zig n) = n := by
  unfold unzig zig
  split <;> split <;> omega
def decI (l : List Int) : Int × Nat × Int := if (decU l).2.2 = 0 then (unzig (decU l).1, (decU l).2.1, 0) else (0, 0, (decU l).2.2)
/-- The bytes as a string. -/
def decT (l : List Int) : ByteArray × Nat × Int :=
  if (decU l).2.2 ≠ 0 then (⟨#[]⟩, 0, (decU l).2.2) else
    if 20000 < (decU l).1 then (⟨#[]⟩, 0, 2) else
      if (l.length : Int) - ((decU l).2.1 : Int) < (decU l).1 then (⟨#[]⟩, 0, 3) else
        (strOf ((l.drop (decU l).2.1).take (decU l).1.toNat), (decU l).2.1 + (decU l).1.toNat, 0)
theorem decI_zig {m : Int} (r : List Int) (h0 : -2305843009213693952 ≤ m) (h1 : m ≤ 2305843009213693952) : decI (uvar (zig m) ++ r) = (m, (uvar (zig m)).length, 0) := by
  have hz : 0 ≤ zig m ∧ zig m ≤ 4611686018427387904 := by unfold zig; split <;> omega
  unfold decI
  rw [decU_uvar r hz.1 hz.2]
  simp [unzig_zig]
theorem strOf_bytesOf (s : ByteArray) : strOf (bytesOf s) = s := by
  unfold strOf bytesOf
  rw [List.map_map]
  have : ((fun n : Int => UInt8.ofNat n.toNat) ∘ fun b : UInt8 => (b.toNat : Int)) = id := by
    funext b
    simp
  rw [this, List.map_id]
  rfl
theorem decT_text {s : ByteArray} (r : List Int) (h : s.size ≤ 20000) : decT (textB s ++ r) = (s, (textB s).length, 0) := by
  unfold decT textB
  have hl := bytesOf_len s
  rw [List.append_assoc, decU_uvar _ (by omega) (by omega)]
  simp only [ne_eq, not_true_eq_false, if_false, List.length_append, Int.natCast_add, Int.toNat_natCast, List.drop_left]
  rw [if_neg (by omega), if_neg (by omega), ← hl, List.take_left, strOf_bytesOf]

theorem decU_okU {l : List Int} (hb : ∀ x ∈ l, isByte x) (h : (decU l).2.2 = 0) : 1 ≤ (decU l).2.1 ∧ (decU l).2.1 ≤ l.length := ⟨(decU_ok hb h).2.2.1, (decU_ok hb h).2.2.2.1⟩
theorem decI_okU {l : List Int} (hb : ∀ x ∈ l, isByte x) (h : (decI l).2.2 = 0) : 1 ≤ (decI l).2.1 ∧ (decI l).2.1 ≤ l.length := by
  unfold decI at h ⊢
  split at h
  · rename_i h1
    rw [if_pos h1]
    exact decU_okU hb h1
  · rename_i h1
    exact absurd h h1
theorem decT_okU {l : List Int} (hb : ∀ x ∈ l, isByte x) (h : (decT l).2.2 = 0) : 1 ≤ (decT l).2.1 ∧ (decT l).2.1 ≤ l.length := by
  unfold decT at h ⊢
  split at h
  · rename_i h1
    exact absurd h h1
  rename_i h1
  rw [if_neg h1]
  have h1' : (decU l).2.2 = 0 := Classical.not_not.1 h1
  have h2 := decU_ok hb h1'
  split at h
  · exact absurd h (by decide)
  rename_i h3
  rw [if_neg h3]
  split at h
  · exact absurd h (by decide)
  rename_i h4
  rw [if_neg h4]
  simp only
  omega
/-- The reader's steps: what is read, what is left, whether something was bad. -/
def rdU (s : List Int) (bad : Bool) : Int × List Int × Bool := if (decU s).2.2 = 0 then ((decU s).1, s.drop (decU s).2.1, bad) else ((decU s).1, [], true)
def rdI (s : List Int) (bad : Bool) : Int × List Int × Bool := if (decI s).2.2 = 0 then ((decI s).1, s.drop (decI s).2.1, bad) else ((decI s).1, [], true)
def rdT (s : List Int) (bad : Bool) : ByteArray × List Int × Bool := if (decT s).2.2 = 0 then ((decT s).1, s.drop (decT s).2.1, bad) else ((decT s).1, [], true)
def rdC (s : List Int) (bad : Bool) : Int × List Int × Bool := if ((rdU s bad).2.1.length : Int) < (rdU s bad).1 then (0, [], true) else rdU s bad
def rdN (most : Int) (s : List Int) (bad : Bool) : Int × List Int × Bool := if most < (rdC s bad).1 then (0, [], true) else rdC s bad
end Go.Proofs.YtldeoaddogifpaaGreatDoor
