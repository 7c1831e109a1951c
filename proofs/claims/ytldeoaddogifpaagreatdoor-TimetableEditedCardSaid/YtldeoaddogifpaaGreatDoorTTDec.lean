/-
  The plain reading of a timetable's encoding.
  No condition.
-/
import Derived.Test.YtldeoaddogifpaaGreatDoorTTBody
import Derived.Test.YtldeoaddogifpaaGreatDoorDecPlain
namespace Go.Proofs.YtldeoaddogifpaaGreatDoor
set_option linter.unusedSimpArgs false
set_option linter.unusedVariables false
open Go

/-- k readings, one behind the other. -/
def rdMany {α : Type} (f : List Int → Bool → α × List Int × Bool) : Nat → List Int → Bool → List α × List Int × Bool
  | 0, s, b => ([], s, b)
  | k + 1, s, b => ((rdMany f k s b).1 ++ [(f (rdMany f k s b).2.1 (rdMany f k s b).2.2).1], (f (rdMany f k s b).2.1 (rdMany f k s b).2.2).2.1, (f (rdMany f k s b).2.1 (rdMany f k s b).2.2).2.2)
def rdShift (s : List Int) (b : Bool) : GShift × List Int × Bool :=
  (⟨(rdU s b).1, (rdI (rdU s b).2.1 (rdU s b).2.2).1⟩, (rdI (rdU s b).2.1 (rdU s b).2.2).2)
def rdZone (s : List Int) (b : Bool) : GZone × List Int × Bool :=
  let t := rdT s b
  let i := rdI t.2.1 t.2.2
  let n := rdN 16 i.2.1 i.2.2
  let m := rdMany rdShift n.1.toNat n.2.1 n.2.2
  (⟨t.1, i.1, m.1⟩, m.2.1, m.2.2)
def rdAirport (s : List Int) (b : Bool) : GAirport × List Int × Bool :=
  (⟨(rdT s b).1, (rdT (rdT s b).2.1 (rdT s b).2.2).1⟩, (rdT (rdT s b).2.1 (rdT s b).2.2).2)
def rdFlight (s : List Int) (b : Bool) : GFlight × List Int × Bool :=
  let t1 := rdT s b
  let t2 := rdT t1.2.1 t1.2.2
  let t3 := rdT t2.2.1 t2.2.2
  let u1 := rdU t3.2.1 t3.2.2
  let u2 := rdU u1.2.1 u1.2.2
  let t4 := rdT u2.2.1 u2.2.2
  let n0 := rdU t4.2.1 t4.2.2
  let n1 := rdU n0.2.1 n0.2.2
  let n2 := rdU n1.2.1 n1.2.2
  (⟨t1.1, t2.1, t3.1, u1.1, u2.1, t4.1, n0.1, n1.1, n2.1⟩, n2.2.1, n2.2.2)

def bytesL (s : List Int) : Prop := ∀ x ∈ s, isByte x
theorem bytesL_nil : bytesL [] := fun x hx => by cases hx
theorem bytesL_drop {s : List Int} (h : bytesL s) (k : Nat) : bytesL (s.drop k) := fun x hx => h x (List.mem_of_mem_drop hx)
theorem rdU_bytes {s : List Int} (b : Bool) (h : bytesL s) : bytesL (rdU s b).2.1 := by
  unfold rdU; split
  · exact bytesL_drop h _
  · exact bytesL_nil
theorem rdI_bytes {s : List Int} (b : Bool) (h : bytesL s) : bytesL (rdI s b).2.1 := by
  unfold rdI; split
  · exact bytesL_drop h _
  · exact bytesL_nil
theorem rdT_bytes {s : List Int} (b : Bool) (h : bytesL s) : bytesL (rdT s b).2.1 := by
  unfold rdT; split
  · exact bytesL_drop h _
  · exact bytesL_nil
theorem rdC_bytes {s : List Int} (b : Bool) (h : bytesL s) : bytesL (rdC s b).2.1 := by
  unfold rdC; split
  · exact bytesL_nil
  · exact rdU_bytes b h
theorem rdN_bytes {s : List Int} (m : Int) (b : Bool) (h : bytesL s) : bytesL (rdN m s b).2.1 := by
  unfold rdN; split
  · exact bytesL_nil
  · exact rdC_bytes b h
theorem rdU_range {s : List Int} (b : Bool) (h : bytesL s) : 0 ≤ (rdU s b).1 ∧ (rdU s b).1 ≤ 4611686018427387904 := by
  unfold rdU
  split
  · rename_i he
    have := decU_ok h he
    exact ⟨this.1, this.2.1⟩
  · rename_i he
    have := (decU_err he).1
    simp only
    omega
theorem rdI_range {s : List Int} (b : Bool) (h : bytesL s) : -4611686018427387904 ≤ (rdI s b).1 ∧ (rdI s b).1 ≤ 4611686018427387904 := by
  have key : -4611686018427387904 ≤ (decI s).1 ∧ (decI s).1 ≤ 4611686018427387904 := by
    unfold decI
    split
    · rename_i he
      have := decU_ok h he
      unfold unzig
      simp only
      split <;> omega
    · simp only; omega
  unfold rdI
  split <;> exact key
theorem strOf_size (l : List Int) : (strOf l).size = l.length := by
  unfold strOf
  rw [Lib.size_eq]
  simp [bs]
theorem rdT_size (s : List Int) (b : Bool) : (rdT s b).1.size ≤ 20000 := by
  have key : (decT s).1.size ≤ 20000 := by
    unfold decT
    split
    · exact Nat.zero_le _
    · split
      · exact Nat.zero_le _
      · split
        · exact Nat.zero_le _
        · rename_i h1 h2 h3
          simp only
          rw [strOf_size, List.length_take]
          omega
  unfold rdT
  split <;> exact key
theorem rdC_range {s : List Int} (b : Bool) (h : bytesL s) : 0 ≤ (rdC s b).1 := by
  unfold rdC; split
  · simp
  · exact (rdU_range b h).1
theorem rdN_range {s : List Int} {m : Int} (b : Bool) (h : bytesL s) (hm : 0 ≤ m) : 0 ≤ (rdN m s b).1 ∧ (rdN m s b).1 ≤ m := by
  unfold rdN; split
  · exact ⟨by simp, hm⟩
  · rename_i h1; exact ⟨rdC_range b h, by omega⟩
section
variable {α : Type} {f : List Int → Bool → α × List Int × Bool}
theorem rdMany_bytes (hf : ∀ s b, bytesL s → bytesL (f s b).2.1) : ∀ (k : Nat) (s : List Int) (b : Bool), bytesL s → bytesL (rdMany f k s b).2.1
  | 0, _, _, h => h
  | k + 1, s, b, h => hf _ _ (rdMany_bytes hf k s b h)
theorem rdMany_all {p : α → Prop} (hf : ∀ s b, bytesL s → bytesL (f s b).2.1) (hp : ∀ s b, bytesL s → p (f s b).1) : ∀ (k : Nat) (s : List Int) (b : Bool), bytesL s → ∀ x ∈ (rdMany f k s b).1, p x
  | 0, _, _, _, x, hx => by cases hx
  | k + 1, s, b, h, x, hx => by
    rw [rdMany, List.mem_append, List.mem_singleton] at hx
    rcases hx with hx | rfl
    · exact rdMany_all hf hp k s b h x hx
    · exact hp _ _ (rdMany_bytes hf k s b h)
theorem rdMany_len : ∀ (k : Nat) (s : List Int) (b : Bool), (rdMany f k s b).1.length = k
  | 0, _, _ => rfl
  | k + 1, s, b => by rw [rdMany, List.length_append, rdMany_len k]; rfl
/-- Reading in front first. -/
theorem rdMany_cons : ∀ (k : Nat) (s : List Int) (b : Bool), rdMany f (k + 1) s b = ((f s b).1 :: (rdMany f k (f s b).2.1 (f s b).2.2).1, (rdMany f k (f s b).2.1 (f s b).2.2).2)
  | 0, s, b => rfl
  | k + 1, s, b => by
    rw [rdMany, rdMany_cons k s b]
    simp only [rdMany, List.cons_append]
theorem rdMany_back {g : α → List Int} (h : ∀ x r, f (g x ++ r) false = (x, r, false)) : ∀ (l : List α) (r : List Int), rdMany f l.length (l.flatMap g ++ r) false = (l, r, false)
  | [], r => rfl
  | a :: l, r => by
    rw [List.length_cons, rdMany_cons, List.flatMap_cons, List.append_assoc, h a, rdMany_back h l r]
theorem rdMany_back' {g : α → List Int} {p : α → Prop} (h : ∀ x r, p x → f (g x ++ r) false = (x, r, false)) : ∀ (l : List α) (r : List Int), (∀ x ∈ l, p x) → rdMany f l.length (l.flatMap g ++ r) false = (l, r, false)
  | [], r, _ => rfl
  | a :: l, r, hp => by
    rw [List.length_cons, rdMany_cons, List.flatMap_cons, List.append_assoc, h a _ (hp a (by simp)), rdMany_back' h l r fun x hx => hp x (by simp [hx])]
end
theorem i64_of {n : Int} (h : 0 ≤ n ∧ n ≤ 4611686018427387904) : -9223372036854775808 ≤ n ∧ n ≤ 9223372036854775807 := by omega
theorem i64_of' {n : Int} (h : -4611686018427387904 ≤ n ∧ n ≤ 4611686018427387904) : -9223372036854775808 ≤ n ∧ n ≤ 9223372036854775807 := by omega
theorem len_of {n : Nat} (h : n ≤ 20000) : n ≤ maxLen := by unfold maxLen; omega
theorem rdShift_bytes (s : List Int) (b : Bool) (h : bytesL s) : bytesL (rdShift s b).2.1 := rdI_bytes _ (rdU_bytes _ h)
theorem rdShift_ok (s : List Int) (b : Bool) (h : bytesL s) : (rdShift s b).1.ok := by
  have h1 := rdU_range b h
  have h2 := rdI_range (rdU s b).2.2 (rdU_bytes b h)
  unfold rdShift
  generalize rdI (rdU s b).2.1 (rdU s b).2.2 = i at *
  generalize rdU s b = u at *
  exact ⟨i64_of h1, i64_of' h2⟩
theorem rdZone_bytes (s : List Int) (b : Bool) (h : bytesL s) : bytesL (rdZone s b).2.1 := rdMany_bytes rdShift_bytes _ _ _ (rdN_bytes _ _ (rdI_bytes _ (rdT_bytes _ h)))
theorem rdZone_ok (s : List Int) (b : Bool) (h : bytesL s) : (rdZone s b).1.ok := by
  have h1 := rdT_size s b
  have h2 := rdI_range (rdT s b).2.2 (rdT_bytes b h)
  have h3 := rdMany_all rdShift_bytes rdShift_ok (rdN 16 (rdI (rdT s b).2.1 (rdT s b).2.2).2.1 (rdI (rdT s b).2.1 (rdT s b).2.2).2.2).1.toNat _ (rdN 16 (rdI (rdT s b).2.1 (rdT s b).2.2).2.1 (rdI (rdT s b).2.1 (rdT s b).2.2).2.2).2.2 (rdN_bytes 16 (rdI (rdT s b).2.1 (rdT s b).2.2).2.2 (rdI_bytes (rdT s b).2.2 (rdT_bytes b h)))
  unfold rdZone
  simp only
  generalize rdMany rdShift (rdN 16 (rdI (rdT s b).2.1 (rdT s b).2.2).2.1 (rdI (rdT s b).2.1 (rdT s b).2.2).2.2).1.toNat (rdN 16 (rdI (rdT s b).2.1 (rdT s b).2.2).2.1 (rdI (rdT s b).2.1 (rdT s b).2.2).2.2).2.1 (rdN 16 (rdI (rdT s b).2.1 (rdT s b).2.2).2.1 (rdI (rdT s b).2.1 (rdT s b).2.2).2.2).2.2 = m at *
  generalize rdI (rdT s b).2.1 (rdT s b).2.2 = i at *
  generalize rdT s b = t at *
  exact ⟨len_of h1, i64_of' h2, h3⟩
theorem rdAirport_bytes (s : List Int) (b : Bool) (h : bytesL s) : bytesL (rdAirport s b).2.1 := rdT_bytes _ (rdT_bytes _ h)
theorem rdAirport_ok (s : List Int) (b : Bool) (h : bytesL s) : (rdAirport s b).1.ok := by
  have h1 := rdT_size s b
  have h2 := rdT_size (rdT s b).2.1 (rdT s b).2.2
  unfold rdAirport
  generalize rdT (rdT s b).2.1 (rdT s b).2.2 = u at *
  generalize rdT s b = t at *
  exact ⟨len_of h1, len_of h2⟩
theorem rdFlight_bytes (s : List Int) (b : Bool) (h : bytesL s) : bytesL (rdFlight s b).2.1 := by
  unfold rdFlight
  simp only
  with_reducible refine rdU_bytes _ ?_
  with_reducible refine rdU_bytes _ ?_
  with_reducible refine rdU_bytes _ ?_
  with_reducible refine rdT_bytes _ ?_
  with_reducible refine rdU_bytes _ ?_
  with_reducible refine rdU_bytes _ ?_
  with_reducible refine rdT_bytes _ ?_
  with_reducible refine rdT_bytes _ ?_
  with_reducible refine rdT_bytes _ ?_
  exact h
theorem rdFlight_ok (s : List Int) (b : Bool) (h : bytesL s) : (rdFlight s b).1.ok := by
  have b1 := rdT_bytes b h
  have b2 := rdT_bytes (rdT s b).2.2 b1
  generalize h1 : rdT s b = t1 at *
  have b3 := rdT_bytes (rdT t1.2.1 t1.2.2).2.2 b2
  generalize h2 : rdT t1.2.1 t1.2.2 = t2 at *
  have b4 := rdU_bytes (rdT t2.2.1 t2.2.2).2.2 b3
  have r1 := rdU_range (rdT t2.2.1 t2.2.2).2.2 b3
  generalize h3 : rdT t2.2.1 t2.2.2 = t3 at *
  have b5 := rdU_bytes (rdU t3.2.1 t3.2.2).2.2 b4
  have r2 := rdU_range (rdU t3.2.1 t3.2.2).2.2 b4
  generalize h4 : rdU t3.2.1 t3.2.2 = u1 at *
  have b6 := rdT_bytes (rdU u1.2.1 u1.2.2).2.2 b5
  generalize h5 : rdU u1.2.1 u1.2.2 = u2 at *
  have b7 := rdU_bytes (rdT u2.2.1 u2.2.2).2.2 b6
  have r3 := rdU_range (rdT u2.2.1 u2.2.2).2.2 b6
  generalize h6 : rdT u2.2.1 u2.2.2 = t4 at *
  have b8 := rdU_bytes (rdU t4.2.1 t4.2.2).2.2 b7
  have r4 := rdU_range (rdU t4.2.1 t4.2.2).2.2 b7
  generalize h7 : rdU t4.2.1 t4.2.2 = n0 at *
  have r5 := rdU_range (rdU n0.2.1 n0.2.2).2.2 b8
  have s1 := rdT_size s b; have s2 := rdT_size t1.2.1 t1.2.2; have s3 := rdT_size t2.2.1 t2.2.2; have s4 := rdT_size u2.2.1 u2.2.2
  have e : (rdFlight s b).1 = ⟨t1.1, t2.1, t3.1, u1.1, u2.1, t4.1, n0.1, (rdU n0.2.1 n0.2.2).1, (rdU (rdU n0.2.1 n0.2.2).2.1 (rdU n0.2.1 n0.2.2).2.2).1⟩ := by
    unfold rdFlight
    simp only [h1, h2, h3, h4, h5, h6, h7]
  rw [e]
  rw [h1] at s1; rw [h2] at s2; rw [h3] at s3; rw [h6] at s4
  exact ⟨len_of s1, len_of s2, len_of s3, len_of s4, i64_of r1, i64_of r2, i64_of r3, i64_of r4, i64_of r5⟩

/-- The timetable in a body, what is left, whether something was bad. -/
def rdTT (s : List Int) : GTT × List Int × Bool :=
  let n1 := rdN 16 s false
  let z := rdMany rdZone n1.1.toNat n1.2.1 n1.2.2
  let n2 := rdN 64 z.2.1 z.2.2
  let a := rdMany rdAirport n2.1.toNat n2.2.1 n2.2.2
  let n3 := rdN 200 a.2.1 a.2.2
  let f := rdMany rdFlight n3.1.toNat n3.2.1 n3.2.2
  (⟨z.1, a.1, f.1⟩, f.2.1, f.2.2)
def noTT : GTT := ⟨[], [], []⟩
theorem rdTT_ok (s : List Int) (h : bytesL s) : (rdTT s).1.ok := by
  have b1 := rdN_bytes 16 false h
  have b2 := rdMany_bytes rdZone_bytes (rdN 16 s false).1.toNat _ (rdN 16 s false).2.2 b1
  have b3 := fun b => rdN_bytes 64 b b2
  exact ⟨rdMany_all rdZone_bytes rdZone_ok _ _ _ b1, rdMany_all rdAirport_bytes rdAirport_ok _ _ _ (b3 _), rdMany_all rdFlight_bytes rdFlight_ok _ _ _ (rdN_bytes _ _ (rdMany_bytes rdAirport_bytes _ _ _ (b3 _)))⟩
end Go.Proofs.YtldeoaddogifpaaGreatDoor
