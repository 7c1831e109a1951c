/-
  Calls whose runs are carried over, as contracts.
  No condition.
-/
import Derived.Test.YthldmlfpebgojaaGreatDoorQK
namespace Go.Proofs.YthldmlfpebgojaaGreatDoor
set_option linter.unusedSimpArgs false
set_option linter.unusedVariables false
open Go.RowKit Go

/-- A copy of blocks stands, s further on. -/
def Copy (R : List (Nat × Blk)) (r : Nat → Nat) (B : St) : Prop := ∀ p ∈ R, ∃ k, B.get (r p.1) = some ⟨p.2.cells.map (ren1 r), p.2.elem, k⟩ ∧ (0 < p.2.sz → 0 < k)
theorem Copy.ge {R : List (Nat × Blk)} {r : Nat → Nat} {B B' : St} (h : Copy R r B) (hB : Ge B B') : Copy R r B' := fun p hp => (h p hp).imp fun k hk => ⟨hB _ _ hk.1, hk.2⟩
def hasTop (C : List (Nat × Blk)) (n : Nat) : Bool := Nat.beq n 0 || C.any fun p => Nat.beq (p.1 + 1) n
theorem EvP.cl {P : Program} (c : Cl) {s : Nat} {args : List Value} {B : St} {Q : Value → St → Prop} (hf : c.Fine) (hd : clFns.any (Nat.beq c.f) = true) (hp : clPick cls c.f c.as = some c) (ha : args = c.as.map (ren2 (· + s)))
    (hC : Copy c.C (· + s) B) (hcn : hasTop c.C c.cn = true) (hs : fbVs c.as = none → s = 0) (hs0 : c.cn = 0 → s = 0) (hQ : ∀ n B', Ge B B' → Copy c.R (c.mv s n) B' → Q (ren3 (c.mv s n) c.v) B') : EvP P c.f args B Q := fun n hB => by
  have hnx : c.cn + s ≤ n := by
    unfold hasTop at hcn
    rw [Bool.or_eq_true] at hcn
    rcases hcn with h | h
    · have h := Nat.eq_of_beq_eq_true h
      rw [hs0 h, h]; exact Nat.zero_le _
    · obtain ⟨p, hp, h⟩ := List.any_eq_true.1 h
      have h := Nat.eq_of_beq_eq_true h
      obtain ⟨k, hk, _⟩ := hC p hp
      have h7 : p.1 + s < n := hB _ _ hk
      omega
  have hA : c.At s args ⟨B, n⟩ := ⟨ha, fun p hp => (hC p hp).imp fun k hk => hk.1, hnx⟩
  have h1 := clCall_at hp hA hs
  have h2 := orc_cl (P := P) hd h1
  refine ⟨_, _, h2, fun b X hb => ?_, hQ n _ (fun b X hb => ?_) fun p hp => ?_⟩
  · simp only [Cl.out]
    rw [addT_other fun p hp e => ?_]
    · exact hb
    · have := hB b X hb
      rw [Cl.mv_new (hf.new p hp).1] at e
      omega
  · simp only [Cl.out]
    rw [addT_other fun p hp e => ?_]
    · exact hb
    · have := hB b X hb
      rw [Cl.mv_new (hf.new p hp).1] at e
      omega
  · exact ⟨_, addT_self (Cl.mv_inj hnx) hf.uniq p hp, id⟩
end Go.Proofs.YthldmlfpebgojaaGreatDoor
