/-
  A map[int]bool that the call made and that holds true at some keys: look-up and store.
  No condition.
-/
import Derived.Test.YtifconapjfdkcaaGreatDoorSAL
import Derived.Test.YtifconapjfdkcaaGreatDoorSBH
import Derived.Maps.OwnOps
import Derived.Maps.Views
import Derived.ProofKit
namespace Go.Proofs.YtifconapjfdkcaaGreatDoor
set_option linter.unusedSimpArgs false
set_option linter.unusedVariables false
open Go.RowKit Go.Maps

/-- Block b is a map that holds true at the listed keys and nothing else. -/
def ISet (P : Program) (k e : TypeId) (w : World) (b : Nat) (keys : List Int) : Prop :=
  ∃ (n : Nat) (D : DataW Unit), n ≤ keys.length ∧ w.ownsMap P k (plainElem P e) b n D ∧ IsMap D ∧ ∀ key : Int, D.atKey (.int .i64 key) (.lit (.bool false)) = .lit (.bool (hasI keys key))
theorem wf_i64 {a : Int} (h : -9223372036854775808 ≤ a ∧ a ≤ 9223372036854775807) : (Lit.int .i64 a).wf = true := by
  have e1 : IntKind.i64.min = -9223372036854775808 := by decide
  have e2 : IntKind.i64.max = 9223372036854775807 := by decide
  simp only [Lit.wf, e1, e2, Bool.and_eq_true, decide_eq_true_eq]
  exact h
section
variable {P : Program} {k e t : TypeId} {w w' : World} {b : Nat} {keys : List Int}
theorem ISet.made (w : World) : ISet P k e (w.alloc (.map #[] 0)) w.heap.size [] :=
  ⟨0, .map [], Nat.le_refl _, World.ownsMap_made _ _ _ _, isMap_empty, fun key => rfl⟩
theorem ISet.keep (h : ISet P k e w b keys) (hb : w'.heap[b]? = w.heap[b]?) : ISet P k e w' b keys := by
  obtain ⟨n, D, h1, ⟨es, clock, h2, h3⟩, h4⟩ := h
  exact ⟨n, D, h1, ⟨es, clock, hb.trans h2, h3⟩, h4⟩
theorem ISet.lookup (h : ISet P k e w b keys) (hk : P.underlying k = some (.int .i64)) (ht : P.underlying t = some (.map k e)) (he : P.underlying e = some .bool) (hz : (zeroValue e).run P w = .ok (.bool false) w) (key : Int) (hs : -9223372036854775808 ≤ key ∧ key ≤ 9223372036854775807) :
    (Instr.lookup t (.map (some b)) (.int .i64 key) false).run P w = .ok (.bool (hasI keys key)) w := by
  obtain ⟨n, D, _, h2, _, h3⟩ := h
  obtain ⟨v, ps, hrun, hv⟩ := h2.lookup (int_keyed hk) ht hz (plainElem_bool he false) (keyOf_int_mk hk (wf_i64 hs))
  rw [h3 key] at hv
  have : v = .bool (hasI keys key) := by
    unfold plainElem at hv
    rw [he] at hv
    split at hv <;> simp_all
  rw [hrun, this]
theorem ISet.store (h : ISet P k e w b keys) (hk : P.underlying k = some (.int .i64)) (ht : P.underlying t = some (.map k e)) (he : P.underlying e = some .bool) (hl : keys.length < 4611686018427387904) (key : Int) (hs : -9223372036854775808 ≤ key ∧ key ≤ 9223372036854775807) :
    ∃ w', (Instr.mapUpdate t (.map (some b)) (.int .i64 key) (.bool true)).run P w = .ok () w' ∧ ISet P k e w' b (keys ++ [key]) ∧ w.grownBy w' (some b) := by
  obtain ⟨n, D, h1, h2, h4, h3⟩ := h
  have K := int_keyed hk
  have hkey := keyOf_int_mk (P := P) (k := k) hk (wf_i64 hs)
  obtain ⟨w', hrun, ho, hg⟩ := h2.update K ht (by unfold maxLen; omega) hkey (plainElem_bool he true)
  refine ⟨w', hrun, ⟨n + 1, _, by simp; omega, ho, ?_, fun y => ?_⟩, hg⟩
  · obtain ⟨es, he', _⟩ := h4
    exact ⟨_, rfl⟩
  · rw [hasI_snoc]
    by_cases hy : y = key
    · subst hy
      rw [atKey_put_same h4 (K.key hkey)]
      simp
    · rw [atKey_put_other (by intro e; injection e with _ e; exact hy e), h3 y]
      simp [hy]
end
/-- The store at the operation. -/
theorem wpList_iset_store {P : Program} {k e t : TypeId} {w : World} {b : Nat} {keys : List Int} {ops : Array Oper} {rest : List Oper} {o : Oper} {a : Act} {Q : Exit → Act → World → Prop}
    (hg : o.guard = none) (m x v : Operand) (hop : o.op = Op.mapUpdate t m x v) (hk : P.underlying k = some (.int .i64)) (ht : P.underlying t = some (.map k e)) (he : P.underlying e = some .bool)
    (hm : a.eval m = .map (some b)) (h : ISet P k e w b keys) (hl : keys.length < 4611686018427387904) (key : Int) (hs : -9223372036854775808 ≤ key ∧ key ≤ 9223372036854775807) (hx : a.eval x = .int .i64 key) (hv : a.eval v = .bool true)
    (hK : ∀ w', ISet P k e w' b (keys ++ [key]) → w.grownBy w' (some b) → wpList P ops Q rest (a.put o.dst undef) w') : wpList P ops Q (o :: rest) a w := by
  refine wpList_plain hg fun K' hK' => ?_
  obtain ⟨w', hrun, r1, r2⟩ := h.store hk ht he hl key hs
  unfold Oper.wp
  simp [execOp, hop, hm, hx, hv, hrun, Result.andThen]
  exact hK' _ _ (hK w' r1 r2)
theorem iset_get {w : World} {b : Nat} {keys : List Int} (h : ISet Tryz.prog 3 4 w b keys) (key : Int) (hs : -9223372036854775808 ≤ key ∧ key ≤ 9223372036854775807) :
    (Instr.lookup 126 (.map (some b)) (.int .i64 key) false).run Tryz.prog w = .ok (.bool (hasI keys key)) w :=
  h.lookup Tryz.underlying3 Tryz.underlying126 Tryz.underlying4 (zeroBool w) key hs
end Go.Proofs.YtifconapjfdkcaaGreatDoor
