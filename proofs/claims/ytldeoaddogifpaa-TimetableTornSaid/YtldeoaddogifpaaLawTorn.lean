/-
  The walk of pairinglaw9.TimetableTorn.
  Condition: none but that the arguments read as their types.
-/
import Derived.Test.YtldeoaddogifpaaAwake
import Derived.Test.YtldeoaddogifpaaBaseTT
import Derived.Test.YtldeoaddogifpaaBaseValid
import Derived.Test.YtldeoaddogifpaaTornPlain
namespace Go.Proofs.Ytldeoaddogifpaa
set_option linter.unusedSimpArgs false
set_option linter.unusedVariables false
open Go.RowKit

/-- A byte turned by an odd byte. -/
def turned (c d : Int) : Int := bits .xor .u8 c (bits .or .u8 d 1)
theorem wrap_u8_bv (x : BitVec 8) : IntKind.u8.wrap (x.toNat : Int) = (x.toNat : Int) := by
  rw [IntKind.wrap_u8]
  have := x.isLt
  omega
theorem turned_eq (c d : Int) : turned c d = ((BitVec.ofInt 8 c ^^^ (BitVec.ofInt 8 d ||| 1#8)).toNat : Int) := by
  have e1 : bits .or .u8 d 1 = ((BitVec.ofInt 8 d ||| 1#8).toNat : Int) := by
    show IntKind.u8.wrap ((BitVec.ofInt 8 d ||| BitVec.ofInt 8 1).toNat : Int) = _
    rw [wrap_u8_bv]
    rfl
  unfold turned
  rw [e1]
  show IntKind.u8.wrap ((BitVec.ofInt 8 c ^^^ BitVec.ofInt 8 ((BitVec.ofInt 8 d ||| 1#8).toNat : Int)).toNat : Int) = _
  rw [wrap_u8_bv]
  have e2 : BitVec.ofInt 8 ((BitVec.ofInt 8 d ||| 1#8).toNat : Int) = BitVec.ofInt 8 d ||| 1#8 := by
    apply BitVec.eq_of_toNat_eq
    rw [BitVec.toNat_ofInt]
    have := (BitVec.ofInt 8 d ||| 1#8).isLt
    omega
  rw [e2]
theorem turned_byte (c d : Int) : isByte (turned c d) := by
  rw [turned_eq]
  have := (BitVec.ofInt 8 c ^^^ (BitVec.ofInt 8 d ||| 1#8)).isLt
  exact ⟨by omega, by omega⟩
theorem turned_ne {c d : Int} (hc : isByte c) : turned c d ≠ c := by
  intro e
  rw [turned_eq] at e
  have h1 : BitVec.ofInt 8 c ^^^ (BitVec.ofInt 8 d ||| 1#8) = BitVec.ofInt 8 c := by
    apply BitVec.eq_of_toNat_eq
    rw [BitVec.toNat_ofInt]
    unfold isByte at hc
    have := (BitVec.ofInt 8 c ^^^ (BitVec.ofInt 8 d ||| 1#8)).isLt
    omega
  have h2 : BitVec.ofInt 8 d ||| 1#8 = 0#8 := by
    have : BitVec.ofInt 8 c ^^^ (BitVec.ofInt 8 d ||| 1#8) = BitVec.ofInt 8 c ^^^ 0#8 := by rw [h1, BitVec.xor_zero]
    exact (BitVec.xor_right_inj _).1 this
  have h3 := congrArg (fun x : BitVec 8 => x.getLsbD 0) h2
  simp at h3
/-- The encoding of the built timetable. -/
def baseB (l : List Int) : List Int := frameB 1 (bodyB (baseTT l))
theorem baseB_body (l : List Int) : (bodyB (baseTT l)).length ≤ 60000 ∧ bytesL (bodyB (baseTT l)) := ⟨bodyB_len (base_valid l).fine, bodyB_bytes (base_valid l).fine⟩
theorem baseB_bytes (l : List Int) : bytesL (baseB l) := frameB_bytes ⟨by decide, by decide⟩ (baseB_body l).2
theorem baseB_len (l : List Int) : 6 ≤ (baseB l).length ∧ (baseB l).length ≤ 70000 := by
  have h1 := frameB_len 1 (bodyB (baseTT l))
  have h2 := (baseB_body l).1
  have h3 := uvar_len (bodyB (baseTT l)).length
  have h4 := List.length_pos_iff.2 (uvar_pos (bodyB (baseTT l)).length)
  have h5 := List.length_pos_iff.2 (bodyB_pos (baseTT l))
  unfold baseB
  omega
theorem flights_len (f : GFlight) : 9 ≤ (flightB f).length := by
  unfold flightB textB
  have h := fun n => List.length_pos_iff.2 (uvar_pos n)
  have := h f.number.size; have := h f.src.size; have := h f.dst.size; have := h f.dep; have := h f.arr; have := h f.kind.size; have := h f.n0; have := h f.n1; have := h f.n2
  simp only [List.length_append]
  omega
/-- The length field takes one or two bytes. -/
theorem body_small (l : List Int) : (bodyB (baseTT l)).length < 16384 := by
  have hf := (base_valid l).fine
  have hl := base_len l
  unfold bodyB
  have h1 := flatMap_len (f := zoneB) (M := 400) fun x hx => zoneB_len (hf.z x hx)
  have h2 := flatMap_len (f := airportB) (M := 52) fun x hx => airportB_len (hf.a x hx)
  have h3 := flatMap_len (f := flightB) (M := 200) fun x hx => flightB_len (hf.f x hx)
  have e1 : (baseTT l).zones.length = 3 := rfl
  have e2 : (baseTT l).airports.length = 3 := rfl
  have := uvar_len (baseTT l).zones.length; have := uvar_len (baseTT l).airports.length; have := uvar_len (baseTT l).flights.length
  simp only [List.length_append]
  rw [e1] at h1
  rw [e2] at h2
  have h4 : (baseTT l).flights.length * 200 ≤ 7 * 200 := Nat.mul_le_mul_right _ hl.2
  omega
theorem uvar_two {n : Int} (h0 : 0 ≤ n) (h : n < 16384) : (uvar n).length ≤ 2 := by
  by_cases h1 : n < 128
  · rw [uvar_small h1]; simp
  · rw [uvar_step (by omega) (by omega), uvar_small (by omega)]
    simp
theorem dec_cut (l : List Int) {k : Nat} (hk : k < (baseB l).length) : decTT ((baseB l).take k) = (noTT, 3) := by
  have h := torn_cut (kind := 1) (body := bodyB (baseTT l)) (by have := (baseB_body l).1; omega) (i := k) hk
  unfold decTT
  have h' : (unfr ((baseB l).take k)).2.2.2 = 3 := h
  rw [h', if_pos (by decide)]
theorem dec_more (l : List Int) (y : Int) : decTT (baseB l ++ [y]) = (noTT, 2) := by
  have h : unfr (baseB l ++ [y]) = (1, bodyB (baseTT l), (baseB l).length, 0) := torn_more (kind := 1) (body := bodyB (baseTT l)) (by have := (baseB_body l).1; omega) y
  unfold decTT
  rw [h]
  simp only
  rw [if_neg (by simp), if_pos (by right; simp)]
theorem dec_change (l : List Int) {j : Nat} {d : Int} (hj : j = 0 ∨ 3 ≤ j) (hjl : j < (baseB l).length) : decTT ((baseB l).set j (turned ((baseB l).getD j 0) d)) = (noTT, 4) := by
  have hb : (baseB l)[j]? = some ((baseB l).getD j 0) := by rw [List.getD_eq_getElem?_getD, List.getElem?_eq_getElem hjl]; rfl
  have hby : isByte ((baseB l).getD j 0) := baseB_bytes l _ (List.mem_of_getElem? hb)
  have h2 := uvar_two (n := (bodyB (baseTT l)).length) (by omega) (by have := body_small l; omega)
  have h := torn_change (kind := 1) (body := bodyB (baseTT l)) (by have := (baseB_body l).1; omega) ⟨by decide, by decide⟩ (baseB_body l).2 (j := j) (y := turned ((baseB l).getD j 0) d) (by omega) hjl (turned_byte _ _) (fun e => by
    have e' : (baseB l)[j]? = some (turned ((baseB l).getD j 0) d) := e
    rw [hb] at e'
    injection e' with e'
    exact turned_ne hby e'.symm)
  unfold decTT
  have h' : (unfr ((baseB l).set j (turned ((baseB l).getD j 0) d))).2.2.2 = 4 := h
  rw [h', if_pos (by decide)]
end Go.Proofs.Ytldeoaddogifpaa
