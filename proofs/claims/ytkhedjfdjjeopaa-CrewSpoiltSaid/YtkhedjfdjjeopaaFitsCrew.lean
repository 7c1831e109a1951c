/-
  How an argument's reading gives the data of crews.
  No condition.
-/
import Derived.Test.YtkhedjfdjjeopaaFits
import Derived.Test.YtkhedjfdjjeopaaCrewPlain
namespace Go.Proofs.Ytkhedjfdjjeopaa
set_option linter.unusedSimpArgs false
set_option linter.unusedVariables false
open Go.ChangeShapes Go.WideShapes Go.ChangeAt Go.RowKit Go.Deep

theorem fits_spanS : Fits Try.prog 42 Ty.shift := by
  refine ⟨by kernel_rfl, fun enc w spare held fuel cs x h hlt => ?_⟩
  obtain ⟨hl, hf⟩ := struct_field Try.underlying42 h hlt
  obtain ⟨d0, r0, o0⟩ := hf 0 _ rfl fits_i64
  obtain ⟨d1, r1, o1⟩ := hf 1 _ rfl fits_i64
  obtain ⟨a, b, rfl⟩ := list2 (hl.trans (show Try.prog.cellsOf 42 = 2 by kernel_rfl))
  have e0 : [a] = [Value.int .i64 d0] := r0
  have e1 : [b] = [Value.int .i64 d1] := r1
  simp only [List.cons.injEq, and_true] at e0 e1
  subst e0 e1
  exact ⟨⟨d0, d1⟩, rfl, ⟨i64_ok o0, i64_ok o1⟩⟩
theorem list7 {α : Type} {l : List α} (h : l.length = 7) : ∃ a b c d e f g, l = [a, b, c, d, e, f, g] := by
  match l, h with
  | [a, b, c, d, e, f, g], _ => exact ⟨a, b, c, d, e, f, g, rfl⟩
theorem fits_person : Fits Try.prog 40 Ty.person := by
  refine ⟨by kernel_rfl, fun enc w spare held fuel cs x h hlt => ?_⟩
  obtain ⟨hl, hf⟩ := struct_field Try.underlying40 h hlt
  obtain ⟨d0, r0, o0⟩ := hf 0 _ rfl fits_i64
  obtain ⟨d1, r1, o1⟩ := hf 1 _ rfl fits_string
  obtain ⟨d2, r2, o2⟩ := hf 2 _ rfl fits_string
  obtain ⟨d3, r3, o3⟩ := hf 3 _ rfl fits_i64
  obtain ⟨d4, r4, o4⟩ := hf 4 _ rfl fits_i64
  obtain ⟨d5, r5, o5⟩ := hf 5 _ rfl (fits_slice Try.underlying37 (by kernel_rfl) fits_string)
  obtain ⟨d6, r6, o6⟩ := hf 6 _ rfl (fits_slice Try.underlying38 (by kernel_rfl) fits_spanS)
  obtain ⟨c0, c1, c2, c3, c4, c5, c6, rfl⟩ := list7 (hl.trans (show Try.prog.cellsOf 40 = 7 by kernel_rfl))
  have e0 : [c0] = [Value.int .i64 d0] := r0
  have e1 : [c1] = [Value.string d1] := r1
  have e2 : [c2] = [Value.string d2] := r2
  have e3 : [c3] = [Value.int .i64 d3] := r3
  have e4 : [c4] = [Value.int .i64 d4] := r4
  obtain ⟨A5, n5, q5, e5, s5⟩ := r5
  obtain ⟨A6, n6, q6, e6, s6⟩ := r6
  have e5' : [c5] = [Value.slice A5 n5 q5] := e5
  have e6' : [c6] = [Value.slice A6 n6 q6] := e6
  simp only [List.cons.injEq, and_true] at e0 e1 e2 e3 e4 e5' e6'
  subst e0 e1 e2 e3 e4 e5' e6'
  exact ⟨⟨d0, d1, d2, d3, d4, d5, d6⟩, ⟨A5, n5, q5, A6, n6, q6, rfl, s5, s6⟩, ⟨i64_ok o0, o1, o2, i64_ok o3, i64_ok o4, o5, o6⟩⟩
set_option maxRecDepth 100000 in
theorem open_crew {H : Type} {enc : TypeId × Value → H} {w : World} {base : Nat} {spare : Nat → Bool} {held : Bool} {v : Value} {d : DataW H} {p : List MemPlace} (hv : Value.okWide Try.prog w .any base 27 v)
    (h : DataW.Trod enc Try.prog w 0 spare held 27 v d p) (hlt : ∀ x ∈ p, x.block < w.heap.size) : ∃ A n c l, v = .slice A n c ∧ Sl Ty.person w (all_ w) A n c l ∧ ∀ x ∈ l, x.ok :=
  open_fits_slice Try.underlying27 (by kernel_rfl) fits_person hv h hlt
end Go.Proofs.Ytkhedjfdjjeopaa
