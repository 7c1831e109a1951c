/-
  Rows of integers of the call's own: making, storing; bytes turned into a string.
  No condition.
-/
import Derived.Test.YtldeoaddogifpaaGreatDoorTextPlain
namespace Go.Proofs.YtldeoaddogifpaaGreatDoor
set_option linter.unusedSimpArgs false
set_option linter.unusedVariables false
open Go.RowKit

section
variable {κ : IntKind} {e : TypeId} {w : World} {base : Nat} {v : Value} {xs : List Int}
theorem repAll_int {S : Nat → Prop} {cs : List Value} : RepAll (Ty.int κ) w S cs xs ↔ cs = xs.map (Value.int κ) := by
  constructor
  · rintro ⟨h1, h2⟩
    have hl : cs.length = xs.length := by rw [h1]; exact Nat.mul_one _
    apply List.ext_getElem?
    intro i
    by_cases hi : i < xs.length
    · have h3 := h2 i xs[i] (List.getElem?_eq_getElem hi)
      have h4 : (cs.drop (i * 1)).take 1 = [.int κ xs[i]] := h3
      rw [Nat.mul_one] at h4
      have h5 := congrArg (·[0]?) h4
      simp only [List.getElem?_take, List.getElem?_drop, Nat.zero_lt_one, if_true, Nat.add_zero, List.getElem?_cons_zero] at h5
      rw [h5, List.getElem?_map, List.getElem?_eq_getElem hi]
      rfl
    · rw [List.getElem?_eq_none (by omega), List.getElem?_eq_none (by simp; omega)]
  · rintro rfl
    refine ⟨by simp [Ty.int], fun i x hi => ?_⟩
    have h0 := (List.getElem?_eq_some_iff.1 hi).1
    show (List.drop (i * 1) (xs.map (Value.int κ))).take 1 = [.int κ x]
    rw [Nat.mul_one, List.drop_eq_getElem_cons (by simpa using h0), List.take_succ_cons, List.take_zero, List.getElem_map]
    rw [(List.getElem?_eq_some_iff.1 hi).2]
theorem own_ints : Own (Ty.int κ) e w base v xs ↔ w.ownsRow base e 1 v xs.length (xs.map (Value.int κ)) := by
  constructor
  · rintro ⟨cs, h1, h2⟩
    rw [repAll_int] at h2
    subst h2
    exact h1
  · intro h
    exact ⟨_, h, repAll_int.2 rfl⟩
theorem Own.int_at (h : Own (Ty.int κ) e w base v xs) {k : Nat} (hk : k < xs.length) : ∃ g c, v = .slice (some ⟨g, 0, none⟩) xs.length c ∧ base ≤ g ∧ g < w.heap.size ∧ w.cell? ⟨g, k, none⟩ = some (.int κ xs[k]) ∧ w.frozen? ⟨g, k, none⟩ = false ∧
    ∀ x, Own (Ty.int κ) e (w.setCell ⟨g, k, none⟩ (.int κ x)) base v (xs.set k x) := by
  have h1 := own_ints.1 h
  rcases h1.2 with ⟨_, h0⟩ | ⟨g, cap, cur, rfl, hb, hg, _⟩
  · omega
  · refine ⟨g, cap, rfl, hb, (Array.getElem?_eq_some_iff.1 hg).1, ?_, h1.frozenAt k, fun x => ?_⟩
    · rw [h1.cellAt k (by omega)]
      simp [hk]
    · rw [own_ints]
      have := (h1.stored k (.int κ x)).1
      rwa [List.map_set, List.length_set]
end

/-- The string that a list of bytes makes. -/
def strOf (ns : List Int) : ByteArray := bs (ns.map fun n => UInt8.ofNat n.toNat)
theorem push_strOf (ns : List Int) : ∀ s : ByteArray, ns.foldl (fun r n => r.push (UInt8.ofNat n.toNat)) s = s ++ strOf ns := by
  induction ns with
  | nil => intro s; apply Go.WideShapes.bytes_inj; simp [strOf, bs]
  | cons a r ih =>
    intro s
    rw [List.foldl_cons, ih]
    apply Go.WideShapes.bytes_inj
    simp [strOf, bs, ByteArray.push]
theorem run_string_of {P : Program} {w : World} {S : Nat → Prop} {src dst e : TypeId} {A : Option Addr} {n c : Nat} {ns : List Int} (hs : P.underlying src = some (.slice e)) (he : P.underlying e = some (.int .u8)) (hd : P.underlying dst = some .string)
    (h : Sl (Ty.int .u8) w S A n c ns) (hA : A ≠ none) : (convert src dst (.slice A n c)).run P w = .ok (.string (strOf ns)) w := by
  rw [run_convert_bytes_string w src dst e A n c hs he hd]
  have hn := h.len
  subst hn
  cases A with
  | none => exact absurd rfl hA
  | some a =>
    rw [run_bytesToString w a ns.length c ns]
    · rw [push_strOf]
      simp
    · have := run_loadCells_list (P := P) w a (ns.map (Value.int .u8)) (fun j u hu => by
        rw [List.getElem?_map, Option.map_eq_some_iff] at hu
        obtain ⟨x, hx, rfl⟩ := hu
        have hj := (List.getElem?_eq_some_iff.1 hx).1
        obtain ⟨b, o, e1, _, hc⟩ := h.int_at hj
        injection e1 with e1
        subst e1
        rw [addr_add, hc, (List.getElem?_eq_some_iff.1 hx).2])
      simpa using this
theorem and3 (n : Int) : ∃ k : Nat, k ≤ 3 ∧ bits .and .i64 n 3 = (k : Int) := by
  refine ⟨(BitVec.ofInt 64 n &&& BitVec.ofInt 64 3).toNat, ?_, ?_⟩
  · rw [BitVec.toNat_and]
    exact Nat.le_trans Nat.and_le_right (by decide)
  · have h : (BitVec.ofInt 64 n &&& BitVec.ofInt 64 3).toNat ≤ 3 := by
      rw [BitVec.toNat_and]
      exact Nat.le_trans Nat.and_le_right (by decide)
    show IntKind.i64.wrap ((BitVec.ofInt 64 n &&& BitVec.ofInt 64 3).toNat : Int) = _
    rw [IntKind.wrap_i64]
    omega
end Go.Proofs.YtldeoaddogifpaaGreatDoor
