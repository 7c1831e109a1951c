/-
  Contracts: rests between duties; airports.
  Condition: the lists lie in memory.
-/
import Derived.Test.YthldmlfpebgojaaGreatDoorR03
import Derived.Test.YthldmlfpebgojaaGreatDoorR07
namespace Go.Proofs.YthldmlfpebgojaaGreatDoor
set_option linter.unusedSimpArgs false
set_option linter.unusedVariables false
set_option maxHeartbeats 0
set_option maxRecDepth 20000
open Go.RowKit Go

section
variable {B : St} {t : TT} {c : CT} {fs : List Flt}
theorem between_ev {d1 d2 : Slc} {x y : Duty} (hF : FlsOk fs) (hC : c.Fit) (hf : SqS .flt B t.fls fs) (h1 : SqS .task B d1 x) (h2 : SqS .task B d2 y) :
    EvP Tryz.prog 69 [t.v, c.v, d1.v, d2.v] B fun v _ => ∃ e, v = .int .i64 e ∧ (e = 0 → DOk fs x ∧ DOk fs y ∧ ∀ (k : Nat) (hk : k < x.length) (j : Nat) (hj : j < y.length) (a b : Nat) (ha : a < fs.length) (hb : b < fs.length), k + 1 = x.length → j = 0 → x[k].flight = (a : Int) → y[j].flight = (b : Int) → fs[a].arr ≤ fs[b].dep) := by
  refine EvP.go Tryz.func69 rfl Tryz.ntmps69 Tryz.results69 rfl [] rfl ?_
  (repeat' (first | refine J.seq ?_ | refine J.roA rfl ?_ | refine X.ro rfl rfl ?_ | refine X.nil0 ?_ | refine X.la 0 rfl rfl rfl rfl rfl rfl rfl rfl rfl rfl ?_ | refine X.la 1 rfl rfl rfl rfl rfl rfl rfl rfl rfl rfl ?_ | refine X.bx rfl rfl rfl rfl rfl rfl rfl rfl fun b => ?_))
  refine X.callq rfl rfl (gV_ok rfl) rfl rfl rfl rfl (en rfl) (structure_ev hF hC hf h1) ?_
  rintro v ⟨e1, rfl, he1⟩
  (repeat' (first | refine J.seq ?_ | refine J.roA rfl ?_ | refine X.ro rfl rfl ?_ | refine X.nil0 ?_ | refine J.skip ?_ | refine J.ret ?_ | refine X.la 0 rfl rfl rfl rfl rfl rfl rfl rfl rfl rfl ?_ | refine X.la 1 rfl rfl rfl rfl rfl rfl rfl rfl rfl rfl ?_ | refine J.cond_nd rfl (fun h => ?_) (fun h => ?_)))
  · exact ⟨_, .cons (.tmp rfl) .nil, rfl, fun _ _ _ => ⟨_, rfl, fun h => absurd h (by assumption)⟩⟩
  refine X.callq rfl rfl (gV_ok rfl) rfl rfl rfl rfl (en rfl) (structure_ev hF hC hf h2) ?_
  rintro v ⟨e2, rfl, he2⟩
  (repeat' (first | refine J.seq ?_ | refine J.roA rfl ?_ | refine J.rdA (by kernel_rfl) rfl ?_ | refine X.ro rfl rfl ?_ | refine X.rd rfl rfl ?_ | refine X.nil0 ?_ | refine J.skip ?_ | refine J.ret ?_ | refine X.la 0 rfl rfl rfl rfl rfl rfl rfl rfl rfl rfl ?_ | refine X.la 1 rfl rfl rfl rfl rfl rfl rfl rfl rfl rfl ?_ | refine J.cond_nd rfl (fun h => ?_) (fun h => ?_)))
  · exact ⟨_, .cons (.tmp rfl) .nil, rfl, fun _ _ _ => ⟨_, rfl, fun h => absurd h (by assumption)⟩⟩
  have D1 := he1 (by assumption)
  have D2 := he2 (by assumption)
  have p1 := D1.pos
  have p2 := D2.pos
  have l1 := D1.le
  have l2 := D2.le
  obtain ⟨i1, g1, g2⟩ := D1.rng 0 p1
  obtain ⟨j1, g3, g4⟩ := D1.rng (x.length - 1) (by omega)
  obtain ⟨i2, g5, g6⟩ := D2.rng 0 p2
  obtain ⟨j2, g7, g8⟩ := D2.rng (y.length - 1) (by omega)
  have r1 := hF.rng i2 g6
  have r2 := hF.rng j1 g4
  have r3 := hC.rep
  have r4 := hC.rel
  refine X.callq rfl rfl (gV_ok rfl) rfl rfl rfl rfl (en rfl) (span_ev hF hC hf h2 p2 (by omega) g5 g6 g7 g8) ?_
  rintro v rfl
  (repeat' (first | refine X.rd rfl rfl ?_ | refine X.la 0 rfl rfl rfl rfl rfl rfl rfl rfl rfl rfl ?_ | refine X.la 1 rfl rfl rfl rfl rfl rfl rfl rfl rfl rfl ?_ | refine X.fe rfl rfl rfl rfl rfl rfl rfl rfl ?_))
  refine X.callq rfl rfl (gV_ok rfl) rfl rfl rfl rfl (en rfl) (span_ev hF hC hf h1 p1 (by omega) g1 g2 g3 g4) ?_
  rintro v rfl
  (repeat' (first | refine J.seq ?_ | refine J.rdA (by kernel_rfl) rfl ?_ | refine X.rd rfl rfl ?_ | refine X.nil1 ⟨by kernel_rfl, ?_⟩ | refine X.la 0 rfl rfl rfl rfl rfl rfl rfl rfl rfl rfl ?_ | refine X.fe rfl rfl rfl rfl rfl rfl rfl rfl ?_ | refine X.sb rfl rfl rfl rfl rfl rfl (by omega) ?_))
  refine X.callq rfl rfl (gV_ok rfl) rfl rfl rfl rfl (en rfl) (last_ev hf h1 p1 (by omega) g3 g4) ?_
  rintro v rfl
  (repeat' (first | refine X.rd rfl rfl ?_ | refine X.la 0 rfl rfl rfl rfl rfl rfl rfl rfl rfl rfl ?_ | refine X.fe rfl rfl rfl rfl rfl rfl rfl rfl ?_))
  refine X.callq rfl rfl (gV_ok rfl) rfl rfl rfl rfl (en rfl) (first_ev hf h2 p2 g5 g6) ?_
  rintro v rfl
  (repeat' (first | refine J.seq ?_ | refine J.roA rfl ?_ | refine X.ro rfl rfl ?_ | refine X.rd rfl rfl ?_ | refine X.nil0 ?_ | refine X.nil1 ⟨by kernel_rfl, ?_⟩ | refine J.skip ?_ | refine J.ret ?_ | refine J.cond_t rfl ?_ | refine X.l1 1 rfl rfl rfl rfl rfl rfl rfl rfl rfl ?_ | refine X.fe rfl rfl rfl rfl rfl rfl rfl rfl ?_ | refine X.g_d rfl rfl rfl (fun h => ?_) (fun h => ?_) | refine X.g_n rfl rfl rfl (fun h => ?_) (fun h => ?_) | refine J.cond_d rfl (fun h => ?_) (fun h => ?_)))
  · exact ⟨_, .cons (.tmp rfl) .nil, rfl, fun _ _ _ => ⟨_, rfl, fun h => by cases h⟩⟩
  · exact ⟨_, .cons (.tmp rfl) .nil, rfl, fun _ _ _ => ⟨_, rfl, fun h => by cases h⟩⟩
  · exact ⟨_, .cons (.tmp rfl) .nil, rfl, fun _ _ _ => ⟨_, rfl, fun h => by cases h⟩⟩
  · exact ⟨_, .cons (.tmp rfl) .nil, rfl, fun _ _ _ => ⟨_, rfl, fun _ => ⟨D1, D2, fun k hk j hj a b ha hb ek ej ea eb => by
      obtain rfl : k = x.length - 1 := by omega
      subst ej
      obtain rfl : a = j1 := by omega
      obtain rfl : b = i2 := by omega
      omega⟩⟩⟩
end
end Go.Proofs.YthldmlfpebgojaaGreatDoor
