/-
  The plain body of a crew's encoding, that a valid crew's data are within their limits, and the plain reading.
  No condition.
-/
import Derived.Test.YtkhedjfdjjeopaaGreatDoorCrewPlain
import Derived.Test.YtkhedjfdjjeopaaGreatDoorTTDec
import Derived.Test.YtkhedjfdjjeopaaGreatDoorSum4
import Derived.Test.YtkhedjfdjjeopaaGreatDoorReader
namespace Go.Proofs.YtkhedjfdjjeopaaGreatDoor
set_option linter.unusedSimpArgs false
set_option linter.unusedVariables false
open Go

def spanB (s : GShift) : List Int := uvar s.at_ ++ uvar s.off
def personB (p : GPerson) : List Int := uvar p.id ++ textB p.name ++ textB p.base ++ uvar p.rank ++ uvar p.sen ++ uvar p.types.length ++ p.types.flatMap textB ++ uvar p.vacs.length ++ p.vacs.flatMap spanB
def crewB (l : List GPerson) : List Int := uvar l.length ++ l.flatMap personB

def spanFine (s : GShift) : Prop := (0 ≤ s.at_ ∧ s.at_ ≤ 52596000) ∧ (0 ≤ s.off ∧ s.off ≤ 52596000)
structure GPerson.fine (p : GPerson) : Prop where
  id : 0 ≤ p.id ∧ p.id ≤ 999999
  name : p.name.size ≤ 16
  base : p.base.size ≤ 16
  rank : 0 ≤ p.rank ∧ p.rank ≤ 2
  sen : 0 ≤ p.sen ∧ p.sen ≤ 999999
  lt : p.types.length ≤ 8
  t : ∀ s ∈ p.types, s.size ≤ 16
  lv : p.vacs.length ≤ 8
  v : ∀ s ∈ p.vacs, spanFine s
theorem listsE_fine {p : GPerson} (h : listsE p = 0) : (∀ s ∈ p.types, s.size ≤ 16) ∧ ∀ s ∈ p.vacs, spanFine s := by
  unfold listsE at h
  split at h
  · rename_i h1; exact absurd h h1
  rename_i h1
  refine ⟨fun s hs => ?_, fun s hs => ?_⟩
  · obtain ⟨i, hi, rfl⟩ := mem_getD hs noStr
    have h4 := firstErr_zero (Classical.not_not.1 h1) i hi
    unfold typeErr at h4
    split at h4
    · exact absurd h4 (by decide)
    · rename_i h5
      exact (isName_size (not_false_true h5)).2
  · obtain ⟨i, hi, rfl⟩ := mem_getD hs noShift
    have h4 := firstErr_zero h i hi
    unfold vacErr at h4
    split at h4
    · exact absurd h4 (by decide)
    · rename_i h5
      have h6 := not_false_true h5
      unfold vacOk at h6
      simp only [Bool.and_eq_true, decide_eq_true_eq] at h6
      exact ⟨by omega, by omega⟩
theorem pErr_fine {codes : List ByteArray} {l : List GPerson} {i : Nat} (hc : ∀ c, hasB codes c = true → c.size ≤ 16) (h : pErr codes l i = 0) : (l.getD i noPerson).fine := by
  unfold pErr at h
  split at h
  · exact absurd h (by decide)
  rename_i h1
  split at h
  · exact absurd h (by decide)
  split at h
  · exact absurd h (by decide)
  rename_i h3
  split at h
  · exact absurd h (by decide)
  rename_i h4
  split at h
  · exact absurd h (by decide)
  rename_i h5
  split at h
  · exact absurd h (by decide)
  split at h
  · exact absurd h (by decide)
  rename_i h7
  have g1 := not_false_true h1
  have g2 : rankOk (l.getD i noPerson).rank = true := not_false_true fun e => h5 (.inl e)
  have g3 : idOk (l.getD i noPerson).sen = true := not_false_true fun e => h5 (.inr e)
  unfold idOk at g1 g3
  unfold rankOk at g2
  simp only [Bool.and_eq_true, decide_eq_true_eq] at g1 g2 g3
  obtain ⟨f1, f2⟩ := listsE_fine h
  exact ⟨by omega, (isName_size (not_false_true h3)).2, hc _ (not_false_true h4), by omega, by omega, by omega, f1, by omega, f2⟩
/-- What a valid crew is. -/
structure CrewOk (t : GTT) (l : List GPerson) : Prop where
  tt : t.valid
  len : l.length ≤ 64
  p : zeroTo (pErr (aCodes t.airports) l) l.length
theorem crewE_zero {t : GTT} {l : List GPerson} : crewE t l = 0 ↔ CrewOk t l := by
  unfold crewE
  constructor
  · intro h
    split at h
    · rename_i h1; exact absurd h h1
    rename_i h1
    split at h
    · exact absurd h (by decide)
    rename_i h2
    exact ⟨ttE_zero.1 (Classical.not_not.1 h1), by omega, firstErr_zero h⟩
  · intro h
    rw [if_neg (by rw [ttE_zero.2 h.tt]; simp), if_neg (by have := h.len; omega), firstErr_none h.p]
theorem CrewOk.codes {t : GTT} {l : List GPerson} (h : CrewOk t l) : ∀ c, hasB (aCodes t.airports) c = true → c.size ≤ 16 := fun c hc => by
  rw [hasB_iff, aCodes, List.mem_map] at hc
  obtain ⟨a, ham, e⟩ := hc
  rw [← e]
  exact (h.tt.fine.a a ham).1
theorem CrewOk.fine {t : GTT} {l : List GPerson} (h : CrewOk t l) : ∀ p ∈ l, p.fine := fun p hp => by
  obtain ⟨i, hi, rfl⟩ := mem_getD hp noPerson
  exact pErr_fine h.codes (h.p i hi)

theorem spanB_len (s : GShift) : (spanB s).length ≤ 20 := by
  unfold spanB
  have := uvar_len s.at_; have := uvar_len s.off
  rw [List.length_append]
  omega
theorem personB_len {p : GPerson} (h : p.fine) : (personB p).length ≤ 600 := by
  unfold personB
  have h1 := flatMap_len (f := textB) (M := 26) (l := p.types) fun x hx => textB_le (h.t x hx)
  have h2 := flatMap_len (f := spanB) (M := 20) (l := p.vacs) fun x _ => spanB_len x
  have := textB_le h.name; have := textB_le h.base
  have := uvar_len p.id; have := uvar_len p.rank; have := uvar_len p.sen; have := uvar_len p.types.length; have := uvar_len p.vacs.length
  have := h.lt; have := h.lv
  simp only [List.length_append]
  omega
theorem crewB_len {l : List GPerson} (hl : l.length ≤ 64) (h : ∀ p ∈ l, p.fine) : (crewB l).length ≤ 60000 := by
  unfold crewB
  have h1 := flatMap_len (f := personB) (M := 600) fun x hx => personB_len (h x hx)
  have := uvar_len l.length
  rw [List.length_append]
  omega
theorem crewB_bytes {l : List GPerson} (h : ∀ p ∈ l, p.fine) : bytesL (crewB l) := by
  unfold crewB
  refine bytesL_append (uvar_bytes (by omega)) (bytesL_flatMap fun p hp => ?_)
  have hf := h p hp
  unfold personB
  refine bytesL_append (bytesL_append (bytesL_append (bytesL_append (bytesL_append (bytesL_append (bytesL_append (bytesL_append (uvar_bytes hf.id.1) (textB_bytes _)) (textB_bytes _)) (uvar_bytes hf.rank.1)) (uvar_bytes hf.sen.1)) (uvar_bytes (by omega))) (bytesL_flatMap fun s _ => textB_bytes s)) (uvar_bytes (by omega))) (bytesL_flatMap fun s hs => ?_)
  obtain ⟨h1, h2⟩ := hf.v s hs
  exact bytesL_append (uvar_bytes h1.1) (uvar_bytes h2.1)

def rdSpan (s : List Int) (b : Bool) : GShift × List Int × Bool :=
  (⟨(rdU s b).1, (rdU (rdU s b).2.1 (rdU s b).2.2).1⟩, (rdU (rdU s b).2.1 (rdU s b).2.2).2)
def rdPerson (s : List Int) (b : Bool) : GPerson × List Int × Bool :=
  let u1 := rdU s b
  let t1 := rdT u1.2.1 u1.2.2
  let t2 := rdT t1.2.1 t1.2.2
  let u2 := rdU t2.2.1 t2.2.2
  let u3 := rdU u2.2.1 u2.2.2
  let n1 := rdN 8 u3.2.1 u3.2.2
  let m1 := rdMany rdT n1.1.toNat n1.2.1 n1.2.2
  let n2 := rdN 8 m1.2.1 m1.2.2
  let m2 := rdMany rdSpan n2.1.toNat n2.2.1 n2.2.2
  (⟨u1.1, t1.1, t2.1, u2.1, u3.1, m1.1, m2.1⟩, m2.2.1, m2.2.2)
theorem rdSpan_bytes (s : List Int) (b : Bool) (h : bytesL s) : bytesL (rdSpan s b).2.1 := rdU_bytes _ (rdU_bytes _ h)
theorem rdSpan_ok (s : List Int) (b : Bool) (h : bytesL s) : (rdSpan s b).1.ok := by
  have h1 := rdU_range b h
  have h2 := rdU_range (rdU s b).2.2 (rdU_bytes b h)
  unfold rdSpan
  generalize rdU (rdU s b).2.1 (rdU s b).2.2 = i at *
  generalize rdU s b = u at *
  exact ⟨i64_of h1, i64_of h2⟩
theorem rdT_bytes' (s : List Int) (b : Bool) (h : bytesL s) : bytesL (rdT s b).2.1 := rdT_bytes b h
theorem rdPerson_bytes (s : List Int) (b : Bool) (h : bytesL s) : bytesL (rdPerson s b).2.1 := by
  unfold rdPerson
  simp only
  with_reducible refine rdMany_bytes rdSpan_bytes _ _ _ ?_
  with_reducible refine rdN_bytes _ _ ?_
  with_reducible refine rdMany_bytes rdT_bytes' _ _ _ ?_
  with_reducible refine rdN_bytes _ _ ?_
  with_reducible refine rdU_bytes _ ?_
  with_reducible refine rdU_bytes _ ?_
  with_reducible refine rdT_bytes _ ?_
  with_reducible refine rdT_bytes _ ?_
  with_reducible refine rdU_bytes _ ?_
  exact h
theorem rdPerson_ok (s : List Int) (b : Bool) (h : bytesL s) : (rdPerson s b).1.ok := by
  have r1 := rdU_range b h
  have b1 := rdU_bytes b h
  unfold rdPerson
  simp only
  generalize rdU s b = u1 at *
  have b2 := rdT_bytes u1.2.2 b1
  have s1 := rdT_size u1.2.1 u1.2.2
  generalize rdT u1.2.1 u1.2.2 = t1 at *
  have b3 := rdT_bytes t1.2.2 b2
  have s2 := rdT_size t1.2.1 t1.2.2
  generalize rdT t1.2.1 t1.2.2 = t2 at *
  have b4 := rdU_bytes t2.2.2 b3
  have r2 := rdU_range t2.2.2 b3
  generalize rdU t2.2.1 t2.2.2 = u2 at *
  have b5 := rdU_bytes u2.2.2 b4
  have r3 := rdU_range u2.2.2 b4
  generalize rdU u2.2.1 u2.2.2 = u3 at *
  have b6 := rdN_bytes 8 u3.2.2 b5
  generalize rdN 8 u3.2.1 u3.2.2 = n1 at *
  have b7 := rdMany_bytes rdT_bytes' n1.1.toNat _ n1.2.2 b6
  have q1 := rdMany_all (p := fun x => x.size ≤ 20000) rdT_bytes' (fun s b _ => rdT_size s b) n1.1.toNat _ n1.2.2 b6
  generalize rdMany rdT n1.1.toNat n1.2.1 n1.2.2 = m1 at *
  have b8 := rdN_bytes 8 m1.2.2 b7
  generalize rdN 8 m1.2.1 m1.2.2 = n2 at *
  have q2 := rdMany_all rdSpan_bytes rdSpan_ok n2.1.toNat _ n2.2.2 b8
  exact ⟨i64_of r1, len_of s1, len_of s2, i64_of r2, i64_of r3, fun x hx => len_of (q1 x hx), q2⟩
/-- The crew in a body, what is left, whether something was bad. -/
def rdCrew (s : List Int) : List GPerson × List Int × Bool := rdMany rdPerson (rdN 64 s false).1.toNat (rdN 64 s false).2.1 (rdN 64 s false).2.2
theorem rdCrew_ok (s : List Int) (h : bytesL s) : ∀ p ∈ (rdCrew s).1, p.ok := rdMany_all rdPerson_bytes rdPerson_ok _ _ _ (rdN_bytes 64 false h)
/-- crew.Decode. -/
def decCrew (t : GTT) (bs : List Int) : List GPerson × Int :=
  if ttE t ≠ 0 then ([], ttE t) else
  if (unfr bs).2.2.2 ≠ 0 then ([], (unfr bs).2.2.2) else
    if (unfr bs).1 ≠ 2 ∨ (unfr bs).2.2.1 ≠ bs.length then ([], 2) else
      if doneB (rdCrew (unfr bs).2.1).2.1 (rdCrew (unfr bs).2.1).2.2 = false then ([], 2) else
        if crewE t (rdCrew (unfr bs).2.1).1 ≠ 0 then ([], crewE t (rdCrew (unfr bs).2.1).1) else ((rdCrew (unfr bs).2.1).1, 0)
theorem spanB_pos (s : GShift) : spanB s ≠ [] := fun e => by
  unfold spanB at e
  exact uvar_pos _ (List.append_eq_nil_iff.1 e).1
theorem personB_pos (p : GPerson) : personB p ≠ [] := fun e => by
  unfold personB at e
  simp only [List.append_eq_nil_iff] at e
  exact uvar_pos _ e.1.1.1.1.1.1.1.1
theorem rdSpan_back (s : GShift) (r : List Int) (h : spanFine s) : rdSpan (spanB s ++ r) false = (s, r, false) := by
  obtain ⟨h1, h2⟩ := h
  unfold rdSpan spanB
  rw [List.append_assoc, rdU_back _ _ (by omega) (by omega)]
  simp only
  rw [rdU_back _ _ (by omega) (by omega)]
theorem rdPerson_back (p : GPerson) (r : List Int) (h : p.fine) : rdPerson (personB p ++ r) false = (p, r, false) := by
  obtain ⟨h1, h2, h3, h4, h5, h6, h7, h8, h9⟩ := h
  have g1 := flatMap_ge (f := textB) textB_pos p.types
  have g2 := flatMap_ge spanB_pos p.vacs
  unfold rdPerson personB
  simp only [List.append_assoc]
  rw [rdU_back _ _ (by omega) (by omega)]
  simp only
  rw [rdT_back _ _ (by omega)]
  simp only
  rw [rdT_back _ _ (by omega)]
  simp only
  rw [rdU_back _ _ (by omega) (by omega)]
  simp only
  rw [rdU_back _ _ (by omega) (by omega)]
  simp only
  rw [rdN_back _ _ (by rw [List.length_append]; omega) (by omega) (by omega)]
  simp only [Int.toNat_natCast]
  rw [rdMany_back' (p := fun x : ByteArray => x.size ≤ 16) (fun x r h => rdT_back r false (by omega)) p.types _ h7]
  simp only
  rw [rdN_back _ _ (by rw [List.length_append]; omega) (by omega) (by omega)]
  simp only [Int.toNat_natCast]
  rw [rdMany_back' (p := spanFine) (fun x r h => rdSpan_back x r h) p.vacs r h9]
theorem rdCrew_back (l : List GPerson) (hl : l.length ≤ 64) (h : ∀ p ∈ l, p.fine) : rdCrew (crewB l) = (l, [], false) := by
  have g1 := flatMap_ge personB_pos l
  unfold rdCrew crewB
  rw [rdN_back _ _ (by omega) (by omega) (by omega)]
  simp only [Int.toNat_natCast]
  have := rdMany_back' (p := GPerson.fine) (fun x r h => rdPerson_back x r h) l [] h
  rwa [List.append_nil] at this
theorem decCrew_back (t : GTT) (l : List GPerson) (h : CrewOk t l) : decCrew t (frameB 2 (crewB l)) = (l, 0) := by
  have hl := crewB_len h.len h.fine
  unfold decCrew
  rw [if_neg (by rw [ttE_zero.2 h.tt]; simp), unfr_frame 2 (by omega)]
  simp only
  rw [if_neg (by simp), if_neg (by simp), rdCrew_back l h.len h.fine]
  simp only
  rw [if_neg (by decide), if_neg (by simp [crewE_zero.2 h])]
end Go.Proofs.YtkhedjfdjjeopaaGreatDoor
