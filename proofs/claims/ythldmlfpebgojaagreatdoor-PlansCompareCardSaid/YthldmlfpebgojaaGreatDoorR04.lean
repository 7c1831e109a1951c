/-
  Contracts of functions on numbers.
  No condition.
-/
import Derived.Test.YthldmlfpebgojaaGreatDoorQK
namespace Go.Proofs.YthldmlfpebgojaaGreatDoor
set_option linter.unusedSimpArgs false
set_option linter.unusedVariables false
set_option maxHeartbeats 0
set_option maxRecDepth 20000
open Go.RowKit Go

section
variable {B : St}
theorem flag_ev (b : Bool) : EvP Tryz.prog 188 [.bool b] B fun v _ => v = .int .i64 (if b then 1 else 0) := by
  refine EvP.go Tryz.func188 rfl Tryz.ntmps188 Tryz.results188 rfl [] rfl ?_
  (repeat' (first | refine J.seq ?_ | refine J.roA rfl ?_ | refine X.ro rfl rfl ?_ | refine X.nil0 ?_ | refine J.skip ?_ | refine J.ret ?_ | refine J.cond rfl (fun h => ?_) (fun h => ?_)))
  · exact ⟨_, .cons (.tmp rfl) .nil, rfl, fun _ _ _ => (by simp_all; rfl)⟩
  · exact ⟨_, .cons (.tmp rfl) .nil, rfl, fun _ _ _ => (by simp_all; rfl)⟩
theorem clamp_ev (n : Int) : EvP Tryz.prog 290 [.int .i64 n] B fun v _ => isI v := by
  refine EvP.go Tryz.func290 rfl Tryz.ntmps290 Tryz.results290 rfl [] rfl ?_
  (repeat' (first | refine J.seq ?_ | refine J.roA rfl ?_ | refine X.ro rfl rfl ?_ | refine X.nil0 ?_ | refine J.ret ?_ | refine X.mx rfl rfl rfl rfl rfl rfl ?_ | refine X.mi rfl rfl rfl rfl rfl rfl ?_))
  exact ⟨_, .cons (.tmp rfl) .nil, rfl, fun _ _ _ => ⟨_, rfl, inR.of (by split <;> split <;> omega)⟩⟩
theorem satAdd_ev (a b : Int) : EvP Tryz.prog 291 [.int .i64 a, .int .i64 b] B fun v _ => isI v := by
  refine EvP.go Tryz.func291 rfl Tryz.ntmps291 Tryz.results291 rfl [] rfl ?_
  (repeat' (first | refine J.seq ?_ | refine J.roA rfl ?_ | refine X.ro rfl rfl ?_ | refine X.nil0 ?_ | refine J.skip ?_ | refine J.ret ?_ | refine J.cond_f rfl ?_ | refine X.g_d rfl rfl rfl (fun h => ?_) (fun h => ?_) | refine J.cond_d rfl (fun h => ?_) (fun h => ?_) | refine X.adw rfl rfl rfl rfl rfl rfl ?_))
  all_goals try (refine X.callq rfl rfl (gV_ok rfl) rfl rfl rfl rfl (en rfl) (clamp_ev _) ?_; rintro v ⟨z, rfl, hz⟩; (repeat' (first | refine X.ro rfl rfl ?_ | refine X.nil0 ?_ | refine J.ret ?_)))
  all_goals exact ⟨_, .cons (.tmp rfl) .nil, rfl, fun _ _ _ => ⟨_, rfl, by first | exact inR.wrap _ | assumption | exact inR.of (by omega) | (refine inR.ite ?_ ?_ <;> first | exact inR.wrap _ | assumption | exact inR.of (by omega) | (refine inR.ite ?_ ?_ <;> first | exact inR.wrap _ | assumption | exact inR.of (by omega)))⟩⟩
theorem size_ev (n : Int) (hb : inR n) : EvP Tryz.prog 328 [.int .i64 n] B fun v _ => ∃ a, v = .int .u64 a ∧ (n ≠ 0 → a ≠ 0) := by
  unfold inR at hb
  refine EvP.go Tryz.func328 rfl Tryz.ntmps328 Tryz.results328 rfl [] rfl ?_
  (repeat' (first | refine J.seq ?_ | refine J.roA rfl ?_ | refine X.ro rfl rfl ?_ | refine X.nil0 ?_ | refine J.skip ?_ | refine J.ret ?_ | refine J.cond_d rfl (fun h => ?_) (fun h => ?_) | refine X.cv rfl rfl rfl rfl rfl rfl (by kernel_rfl) ?_))
  · exact ⟨_, .cons (.tmp rfl) .nil, rfl, fun _ _ _ => ⟨_, rfl, by rw [IntKind.wrap_u64, IntKind.wrap_u64]; omega⟩⟩
  · exact ⟨_, .cons (.tmp rfl) .nil, rfl, fun _ _ _ => ⟨_, rfl, by rw [IntKind.wrap_u64]; omega⟩⟩
theorem satMul_ev (a b : Int) (ha : inR a) (hb : inR b) : EvP Tryz.prog 292 [.int .i64 a, .int .i64 b] B fun v _ => isI v := by
  refine EvP.go Tryz.func292 rfl Tryz.ntmps292 Tryz.results292 rfl [] rfl ?_
  (repeat' (first | refine J.seq ?_ | refine J.roA rfl ?_ | refine X.ro rfl rfl ?_ | refine X.nil0 ?_ | refine J.skip ?_ | refine J.ret ?_ | refine J.cond_t rfl ?_ | refine X.g_d rfl rfl rfl (fun h => ?_) (fun h => ?_) | refine J.cond_d rfl (fun h => ?_) (fun h => ?_)))
  case refine_2.refine_2 =>
    (refine X.callq rfl rfl (gV_ok rfl) rfl rfl rfl rfl (en rfl) (size_ev a ha) ?_; rintro v ⟨z, rfl, hz⟩; (repeat' (first | refine X.ro rfl rfl ?_)))
    (refine X.callq rfl rfl (gV_ok rfl) rfl rfl rfl rfl (en rfl) (size_ev b hb) ?_; rintro v ⟨z, rfl, hz⟩; (repeat' (first | refine J.seq ?_ | refine J.roA rfl ?_ | refine X.ro rfl rfl ?_ | refine X.nil0 ?_ | refine J.skip ?_ | refine J.ret ?_ | refine X.bn rfl rfl rfl rfl rfl rfl rfl ?_ | refine J.cond_d rfl (fun h => ?_) (fun h => ?_) | refine J.cond_nd rfl (fun h => ?_) (fun h => ?_) | refine X.muw rfl rfl rfl rfl rfl rfl ?_ | refine X.quw rfl rfl rfl rfl rfl rfl (by omega) ?_ | refine X.cv rfl rfl rfl rfl rfl rfl (by kernel_rfl) ?_)))
    all_goals exact ⟨_, .cons (.tmp rfl) .nil, rfl, fun _ _ _ => ⟨_, rfl, by first | exact inR.wrap _ | assumption | exact inR.of (by omega) | (refine inR.ite ?_ ?_ <;> first | exact inR.wrap _ | assumption | exact inR.of (by omega) | (refine inR.ite ?_ ?_ <;> first | exact inR.wrap _ | assumption | exact inR.of (by omega)))⟩⟩
  all_goals exact ⟨_, .cons (.tmp rfl) .nil, rfl, fun _ _ _ => ⟨_, rfl, by first | exact inR.wrap _ | assumption | exact inR.of (by omega) | (refine inR.ite ?_ ?_ <;> first | exact inR.wrap _ | assumption | exact inR.of (by omega) | (refine inR.ite ?_ ?_ <;> first | exact inR.wrap _ | assumption | exact inR.of (by omega)))⟩⟩
theorem satDiv_ev (a b : Int) (ha : inR a) (hb : inR b) : EvP Tryz.prog 293 [.int .i64 a, .int .i64 b] B fun v _ => isI v := by
  refine EvP.go Tryz.func293 rfl Tryz.ntmps293 Tryz.results293 rfl [] rfl ?_
  (repeat' (first | refine J.seq ?_ | refine J.roA rfl ?_ | refine X.ro rfl rfl ?_ | refine X.nil0 ?_ | refine J.skip ?_ | refine J.ret ?_ | refine J.cond_d rfl (fun h => ?_) (fun h => ?_)))
  · all_goals exact ⟨_, .cons (.tmp rfl) .nil, rfl, fun _ _ _ => ⟨_, rfl, by first | exact inR.wrap _ | assumption | exact inR.of (by omega) | (refine inR.ite ?_ ?_ <;> first | exact inR.wrap _ | assumption | exact inR.of (by omega) | (refine inR.ite ?_ ?_ <;> first | exact inR.wrap _ | assumption | exact inR.of (by omega)))⟩⟩
  · (refine X.callq rfl rfl (gV_ok rfl) rfl rfl rfl rfl (en rfl) (size_ev a ha) ?_; rintro v ⟨z, rfl, hz⟩; (repeat' (first | refine X.ro rfl rfl ?_)))
    (refine X.callq rfl rfl (gV_ok rfl) rfl rfl rfl rfl (en rfl) (size_ev b hb) ?_; rintro v ⟨z, rfl, hz⟩; (repeat' (first | refine J.seq ?_ | refine J.roA rfl ?_ | refine X.ro rfl rfl ?_ | refine X.nil0 ?_ | refine J.skip ?_ | refine J.ret ?_ | refine X.be rfl rfl rfl rfl rfl rfl rfl ?_ | refine X.mi rfl rfl rfl rfl rfl rfl ?_ | refine J.cond_d rfl (fun h => ?_) (fun h => ?_) | refine X.adw rfl rfl rfl rfl rfl rfl ?_ | refine X.quw rfl rfl rfl rfl rfl rfl (by omega) ?_ | refine X.rew rfl rfl rfl rfl rfl rfl (by omega) ?_ | refine X.cv rfl rfl rfl rfl rfl rfl (by kernel_rfl) ?_)))
    all_goals exact ⟨_, .cons (.tmp rfl) .nil, rfl, fun _ _ _ => ⟨_, rfl, by first | exact inR.wrap _ | assumption | exact inR.of (by omega) | (refine inR.ite ?_ ?_ <;> first | exact inR.wrap _ | assumption | exact inR.of (by omega) | (refine inR.ite ?_ ?_ <;> first | exact inR.wrap _ | assumption | exact inR.of (by omega)))⟩⟩
theorem inBand5_ev (a b c : Int) : EvP Tryz.prog 296 [.int .i64 a, .int .i64 b, .int .i64 c] B fun v _ => ∃ b, v = .bool b := by
  refine EvP.go Tryz.func296 rfl Tryz.ntmps296 Tryz.results296 rfl [] rfl ?_
  (repeat' (first | refine J.seq ?_ | refine J.roA rfl ?_ | refine X.ro rfl rfl ?_ | refine X.nil0 ?_ | refine J.skip ?_ | refine J.ret ?_ | refine X.g_d rfl rfl rfl (fun h => ?_) (fun h => ?_) | refine J.cond_d rfl (fun h => ?_) (fun h => ?_)))
  all_goals exact ⟨_, .cons (.tmp rfl) .nil, rfl, fun _ _ _ => ⟨_, rfl⟩⟩
theorem inBand_ev (a b c : Int) : EvP Tryz.prog 294 [.int .i64 a, .int .i64 b, .int .i64 c] B fun v _ => ∃ b, v = .bool b := by
  refine EvP.go Tryz.func294 rfl Tryz.ntmps294 Tryz.results294 rfl [] rfl ?_
  (repeat' (first | refine J.seq ?_ | refine J.roA rfl ?_ | refine X.ro rfl rfl ?_ | refine X.nil0 ?_))
  refine X.callq rfl rfl (gV_ok rfl) rfl rfl rfl rfl (en rfl) (inBand5_ev a b c) ?_
  rintro v ⟨z, rfl⟩
  (repeat' (first | refine X.ro rfl rfl ?_ | refine X.nil0 ?_ | refine J.ret ?_))
  all_goals exact ⟨_, .cons (.tmp rfl) .nil, rfl, fun _ _ _ => ⟨_, rfl⟩⟩
theorem floor_ev (a b : Int) (hb : b ≠ 0) : EvP Tryz.prog 327 [.int .i64 a, .int .i64 b] B fun v _ => isI v := by
  refine EvP.go Tryz.func327 rfl Tryz.ntmps327 Tryz.results327 rfl [] rfl ?_
  (repeat' (first | refine J.seq ?_ | refine J.roA rfl ?_ | refine X.ro rfl rfl ?_ | refine X.nil0 ?_ | refine J.skip ?_ | refine J.ret ?_ | refine J.cond_d rfl (fun h => ?_) (fun h => ?_) | refine X.sbw rfl rfl rfl rfl rfl rfl ?_ | refine X.quw rfl rfl rfl rfl rfl rfl (by omega) ?_ | refine X.rew rfl rfl rfl rfl rfl rfl (by omega) ?_))
  all_goals exact ⟨_, .cons (.tmp rfl) .nil, rfl, fun _ _ _ => ⟨_, rfl, by first | exact inR.wrap _ | assumption | exact inR.of (by omega) | (refine inR.ite ?_ ?_ <;> first | exact inR.wrap _ | assumption | exact inR.of (by omega) | (refine inR.ite ?_ ?_ <;> first | exact inR.wrap _ | assumption | exact inR.of (by omega)))⟩⟩
theorem splitMinute_ev (a : Int) : EvP Tryz.prog 289 [.int .i64 a] B fun v _ => ∃ a b, v = .tuple #[.int .i64 a, .int .i64 b] ∧ inR a ∧ inR b := by
  refine EvP.go Tryz.func289 rfl Tryz.ntmps289 Tryz.results289 rfl [] rfl ?_
  (repeat' (first | refine J.seq ?_ | refine J.roA rfl ?_ | refine X.ro rfl rfl ?_ | refine X.nil0 ?_))
  (refine X.callq rfl rfl (gV_ok rfl) rfl rfl rfl rfl (en rfl) (floor_ev a 1440 (by decide)) ?_; rintro v ⟨z, rfl, hz⟩; (repeat' (first | refine J.seq ?_ | refine J.roA rfl ?_ | refine X.ro rfl rfl ?_ | refine X.nil0 ?_ | refine J.ret ?_ | refine X.sbw rfl rfl rfl rfl rfl rfl ?_ | refine X.muw rfl rfl rfl rfl rfl rfl ?_)))
  exact ⟨_, .cons (.tmp rfl) (.cons (.tmp rfl) .nil), rfl, fun _ _ _ => ⟨_, _, rfl, hz, inR.wrap _⟩⟩
theorem offset_ev (a : Int) : EvP Tryz.prog 300 [.int .i64 a] B fun v _ => ∃ b, v = .bool b := by
  refine EvP.go Tryz.func300 rfl Tryz.ntmps300 Tryz.results300 rfl [] rfl ?_
  (repeat' (first | refine J.seq ?_ | refine J.roA rfl ?_ | refine X.ro rfl rfl ?_ | refine X.nil0 ?_ | refine J.ret ?_ | refine X.g_d rfl rfl rfl (fun h => ?_) (fun h => ?_)))
  all_goals exact ⟨_, .cons (.tmp rfl) .nil, rfl, fun _ _ _ => ⟨_, rfl⟩⟩
theorem instant_ev (a : Int) : EvP Tryz.prog 301 [.int .i64 a] B fun v _ => ∃ b, v = .bool b := by
  refine EvP.go Tryz.func301 rfl Tryz.ntmps301 Tryz.results301 rfl [] rfl ?_
  (repeat' (first | refine J.seq ?_ | refine J.roA rfl ?_ | refine X.ro rfl rfl ?_ | refine X.nil0 ?_ | refine J.ret ?_ | refine X.g_d rfl rfl rfl (fun h => ?_) (fun h => ?_)))
  all_goals exact ⟨_, .cons (.tmp rfl) .nil, rfl, fun _ _ _ => ⟨_, rfl⟩⟩
theorem span5_ev (a b : Int) : EvP Tryz.prog 298 [.agg #[.int .i64 a, .int .i64 b]] B fun v _ => ∃ c, v = .bool c ∧ (c = true → 0 ≤ a ∧ a ≤ b ∧ b ≤ 52596000) := by
  refine EvP.go Tryz.func298 rfl Tryz.ntmps298 Tryz.results298 rfl [] rfl ?_
  (repeat' (first | refine J.seq ?_ | refine J.roA rfl ?_ | refine X.ro rfl rfl ?_ | refine X.nil0 ?_ | refine J.ret ?_ | refine X.l1 0 rfl rfl rfl rfl rfl rfl rfl rfl rfl ?_ | refine X.bx rfl rfl rfl rfl rfl rfl rfl rfl fun b => ?_ | refine X.g_d rfl rfl rfl (fun h => ?_) (fun h => ?_)))
  all_goals exact ⟨_, .cons (.tmp rfl) .nil, rfl, fun _ _ _ => ⟨_, rfl, fun h => by simp_all⟩⟩
end
end Go.Proofs.YthldmlfpebgojaaGreatDoor
