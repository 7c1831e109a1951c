/-
  append of one element at a step of a region that draws its order.
  No condition.
-/
import Derived.Test.YtldeoaddogifpaaGreatDoorLib
import Derived.Deep.AppendLies
import Derived.Deep.RegionLaw
namespace Go.Proofs.YtldeoaddogifpaaGreatDoor
set_option linter.unusedSimpArgs false
set_option linter.unusedVariables false
open Go.RowKit

theorem step_push {α : Type} {t : Ty α} {e : TypeId} {w : World} {base : Nat} {v : Value} {xs : List α} {P : Program} {ops : Array Oper} {o : Oper} {a : Act} {K : Act → World → Prop} {Q : Exit → Act → World → Prop} {E : Prop} (hgd : o.guard = none) (s x : Operand) (T : TypeId)
    (ho : o.op = .call { callee := .builtin .append, args := #[s, x], argTypes := #[T, T] }) (bytes : Nat) (he : Elem P T e t.size bytes) (hs : a.eval s = v) (hown : Own t e w base v xs)
    (g : Nat) (y : α) (S : Nat → Prop) (hx : a.eval x = .slice (some ⟨g, 0, none⟩) 1 1) (hy : ∃ cs, t.rep w S cs y ∧ At w g 0 cs) (hS : ∀ b, S b → base ≤ b ∧ b < w.heap.size ∧ some b ≠ v.ownBlock)
    (hlen : (xs.length + 1) * bytes ≤ 140737488355328) (hpos : 0 < bytes) (hbase : base ≤ w.heap.size)
    (h : ∀ g' cap w', Own t e w' base (.slice (some ⟨g', 0, none⟩) (xs.length + 1) cap) (xs ++ [y]) → w.grownBy w' v.ownBlock → (v.ownBlock = some g' ∨ g' = w.heap.size) → K (a.put o.dst (.slice (some ⟨g', 0, none⟩) (xs.length + 1) cap)) w') :
    if Region.wanted o (yielded ops a.tmps) = true then Oper.wp P o a w K Q else E := by
  obtain ⟨i, z, hi, hz, h1, h2, h3⟩ := he.parts
  obtain ⟨cs, hown1, hown2⟩ := hown
  obtain ⟨c1, hr, hat⟩ := hy
  have h63 : xs.length + 1 ≤ maxLen := by
    have := Nat.le_mul_of_pos_right (xs.length + 1) hpos
    unfold maxLen
    omega
  refine step_append_lies _ hgd s x T ho base e i z t.size bytes he.1 hi hz h1 h2 h3 t.pos v xs.length cs hs hown1 ⟨g, 0, none⟩ 1 1 c1 hx (by rw [t.len hr, Nat.one_mul]) (fun j u hu => by rw [addr_add]; exact hat j u hu) (t.one hr) (by decide) h63 hlen hbase _ rfl ?_
  intro g' cap w' ho' hgr hv' hlt
  refine h g' cap w' ⟨cs ++ c1, by simpa using ho', ?_⟩ hgr hv'
  have hb := hgr.block
  have hsz := hgr.size
  have hS' : ∀ b, base ≤ b ∧ b < w.heap.size ∧ some b ≠ v.ownBlock → base ≤ b ∧ b < w'.heap.size ∧ some b ≠ (Value.slice (some ⟨g', 0, none⟩) (xs.length + 1) cap).ownBlock := by
    rintro b ⟨hb1, hb2, hb3⟩
    refine ⟨hb1, Nat.lt_of_lt_of_le hb2 hsz, ?_⟩
    have hn : (Value.slice (some ⟨g', 0, none⟩) (xs.length + 1) cap).ownBlock = some g' := rfl
    rw [hn]
    rcases hv' with e' | e'
    · rw [← e']; exact hb3
    · intro e2
      injection e2 with e2
      omega
  exact (hown2.keep (fun b hb' => hb b hb'.2.1 hb'.2.2) hS').snoc (t.more (t.keep hr fun b hb' => hb b (hS b hb').2.1 (hS b hb').2.2) fun b hb' => hS' b (hS b hb'))
end Go.Proofs.YtldeoaddogifpaaGreatDoor
