/-
  Contracts of the reference's small functions on lists of numbers.
  Condition: the lists lie in memory.
-/
import Derived.Test.YthldmlfpebgojaaGreatDoorQJ
namespace Go.Proofs.YthldmlfpebgojaaGreatDoor
set_option linter.unusedSimpArgs false
set_option linter.unusedVariables false
set_option maxHeartbeats 0
open Go.RowKit Go

theorem has_ev (l : List Int) (n : Int) (A : Option Addr) (c : Nat) (B : St) (hs : Sq (Dt.int .i64) B A l.length c l) (hl : l.length ≤ 9223372036854775807) : EvP Tryz.prog 32 [.slice A l.length c, .int .i64 n] B fun v _ => v = .bool (decide (n ∈ l)) := by
  refine EvP.go Tryz.func32 rfl Tryz.ntmps32 Tryz.results32 rfl [] rfl ?_
  repeat' (first | refine J.seq ?_ | refine J.ro rfl rfl ?_ | refine X.nil0 ?_ | refine J.block ?_)
  refine J.loop (σ := Nat) (fun i => [(0, .slice A l.length c), (1, .int .i64 n), (5, .int .i64 (i : Int))]) (fun _ => []) (fun B1 i => Ge B B1 ∧ i ≤ l.length ∧ ∀ j, j < i → l[j]? ≠ some n) (fun i => l.length - i) 0 ⟨Ge.refl B, Nat.zero_le _, fun j h => absurd h (by omega)⟩ ⟨rfl, rfl, rfl, trivial⟩ (Less.refl _) fun i B1 hB ⟨hB1, hi, hno⟩ => ?_
  repeat' (first | refine J.seq ?_ | refine J.ro rfl rfl ?_ | refine X.nil0 ?_ | refine J.block ?_ | refine J.cond_d rfl (fun h => ?_) (fun h => ?_) | refine J.skip ?_ | refine J.exit ?_ | refine J.ret ?_)
  · have hi2 : i < l.length := by omega
    obtain ⟨b, o, rfl, hr⟩ := (hs.ge hB1).int_at hi2
    refine X.pure (.none rfl) rfl rfl (.idx rfl rfl rfl (el rfl) rfl hi2) ?_
    refine X.loadB (.none rfl) rfl rfl (.one rfl rfl (ag rfl) rfl) hr ?_
    refine X.runO (d := dr0) rfl ?_
    refine X.nil0 ?_
    refine J.cond_d rfl (fun h2 => ?_) (fun h2 => ?_)
    · repeat' (first | refine J.seq ?_ | refine J.ro rfl rfl ?_ | refine X.nil0 ?_ | refine J.ret ?_)
      exact ⟨_, .cons (.tmp rfl) .nil, rfl, fun _ _ _ => congrArg Value.bool (decide_eq_true (h2 ▸ List.getElem_mem hi2)).symm⟩
    · repeat' (first | refine J.seq ?_ | refine J.ro rfl rfl ?_ | refine X.nil0 ?_ | refine J.skip ?_)
      refine X.pure (.none rfl) rfl rfl (.addi rfl rfl rfl rfl (by omega)) ?_
      refine X.runO (d := dr0) rfl ?_
      refine X.nil0 ?_
      refine ⟨i + 1, ⟨rfl, rfl, rfl, trivial⟩, Less.refl _, ⟨by assumption, by omega, fun j hj => ?_⟩, by dsimp only; omega⟩
      rcases Nat.lt_or_eq_of_le (Nat.le_of_lt_succ hj) with h3 | rfl
      · exact hno j h3
      · rw [List.getElem?_eq_getElem hi2]; exact fun e => h2 (Option.some.inj e)
  · exact ⟨_, .cons (.tmp rfl) .nil, rfl, fun _ _ _ => congrArg Value.bool (decide_eq_false fun hm => by
      obtain ⟨j, hj, e⟩ := List.getElem_of_mem hm
      exact hno j (by omega) (by rw [List.getElem?_eq_getElem hj, e])).symm⟩
end Go.Proofs.YthldmlfpebgojaaGreatDoor
