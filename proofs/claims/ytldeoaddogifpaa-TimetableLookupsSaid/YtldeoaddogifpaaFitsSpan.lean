/-
  How an argument's reading gives a span.
  No condition.
-/
import Derived.Test.YtldeoaddogifpaaFits
namespace Go.Proofs.Ytldeoaddogifpaa
set_option linter.unusedSimpArgs false
set_option linter.unusedVariables false
open Go.ChangeShapes Go.WideShapes Go.ChangeAt Go.RowKit Go.Deep
set_option maxRecDepth 100000 in
/-- A span as an argument. -/
theorem open_span {H : Type} {enc : TypeId × Value → H} {w : World} {base : Nat} {spare : Nat → Bool} {held : Bool} {v : Value} {d : DataW H} {p : List MemPlace} (hv : Value.okWide Try.prog w .any base 59 v)
    (h : DataW.Trod enc Try.prog w 0 spare held 59 v d p) (hlt : ∀ x ∈ p, x.block < w.heap.size) : ∃ a b : Int, v = .agg #[.int .i64 a, .int .i64 b] := by
  obtain ⟨cs, rfl, -⟩ := okWide_struct Try.underlying59 hv
  clear hv
  obtain ⟨fuel, h1⟩ := h
  obtain ⟨hl, hf⟩ := struct_field Try.underlying59 h1 hlt
  obtain ⟨d0, r0, o0⟩ := hf 0 _ rfl fits_i64
  obtain ⟨d1, r1, o1⟩ := hf 1 _ rfl fits_i64
  have e := hl.trans (show Try.prog.cellsOf 59 = 2 by kernel_rfl)
  obtain ⟨a, b, e2⟩ := list2 e
  rw [e2] at r0 r1
  have e0 : [a] = [Value.int .i64 d0] := r0
  have e1 : [b] = [Value.int .i64 d1] := r1
  simp only [List.cons.injEq, and_true] at e0 e1
  subst e0 e1
  exact ⟨d0, d1, congrArg Value.agg (Array.ext' e2)⟩
end Go.Proofs.Ytldeoaddogifpaa
