/-
  append of a whole slice of plain data to a row of the call's own, and slices.Clone over shifts.
  Condition: the slice reads as a list.
-/
import Derived.Test.YtkhedjfdjjeopaaGreatDoorTTMem
import Derived.Test.YtkhedjfdjjeopaaGreatDoorTTRead
import Derived.Test.YtkhedjfdjjeopaaGreatDoorBase
namespace Go.Proofs.YtkhedjfdjjeopaaGreatDoor
set_option linter.unusedSimpArgs false
set_option linter.unusedVariables false
open Go.RowKit

/-- Data without inner blocks. -/
def Ty.Flat {α : Type} (t : Ty α) : Prop := ∀ {w w' : World} {S S' : Nat → Prop} {cs : List Value} {x : α}, t.rep w S cs x → t.rep w' S' cs x
theorem flat_shift : Ty.shift.Flat := fun h => h
theorem flat_str : Ty.str.Flat := fun h => h
theorem flat_int (k : IntKind) : (Ty.int k).Flat := fun h => h
theorem flat_airport : Ty.airport.Flat := fun h => h
theorem flat_flight : Ty.flight.Flat := fun h => h
section
variable {α : Type} {t : Ty α} {w w' : World} {S : Nat → Prop} {n c : Nat} {xs : List α}
theorem RepAll.flat {S' : Nat → Prop} {cs : List Value} (ht : t.Flat) (h : RepAll t w S cs xs) : RepAll t w' S' cs xs := ⟨h.1, fun i x hi => ht (h.2 i x hi)⟩
/-- The cells of a slice, one behind the other. -/
theorem Sl.cells {ad : Addr} (h : Sl t w S (some ad) n c xs) : ∃ cs, RepAll t w S cs xs ∧ (∀ j u, cs[j]? = some u → w.cell? (ad.add j) = some u) ∧ ∀ u ∈ cs, u.oneCell' = true := by
  obtain ⟨h1, h2, h3, h4⟩ := h
  rcases Nat.eq_zero_or_pos n with h0 | h0
  · have : xs = [] := List.eq_nil_of_length_eq_zero (by omega)
    subst this
    exact ⟨[], RepAll.nil _ _ _, fun j u hu => by simp at hu, fun u hu => by cases hu⟩
  · obtain ⟨b, o, e, hs, hx⟩ := h4 h0
    cases e
    have key : ∀ k, k ≤ xs.length → ∃ cs, RepAll t w S cs (xs.take k) ∧ At w b o cs ∧ ∀ u ∈ cs, u.oneCell' = true := fun k => by
      induction k with
      | zero => exact fun _ => ⟨[], RepAll.nil _ _ _, fun j u hu => by simp at hu, fun u hu => by cases hu⟩
      | succ k ih =>
        intro hk
        obtain ⟨cs, hr, ha, ho⟩ := ih (by omega)
        obtain ⟨c1, hr1, ha1⟩ := hx k _ (List.getElem?_eq_getElem (by omega))
        refine ⟨cs ++ c1, ?_, fun j u hu => ?_, fun u hu => ?_⟩
        · rw [List.take_succ_eq_append_getElem (by omega)]
          exact hr.snoc hr1
        · have hl : cs.length = k * t.size := by rw [hr.1, List.length_take]; congr 1; omega
          rcases Nat.lt_or_ge j cs.length with hj | hj
          · exact ha j u (by rwa [List.getElem?_append_left hj] at hu)
          · rw [List.getElem?_append_right hj] at hu
            have := ha1 _ u hu
            rw [hl] at this hj
            rw [← this]
            congr 2
            omega
        · rcases List.mem_append.1 hu with hu | hu
          · exact ho u hu
          · exact t.one hr1 u hu
    obtain ⟨cs, hr, ha, ho⟩ := key xs.length (Nat.le_refl _)
    rw [List.take_length] at hr
    exact ⟨cs, hr, fun j u hu => by rw [addr_add]; exact ha j u hu, ho⟩
theorem Own.made {e : TypeId} {base cap : Nat} {cur : Array Value} (hb : base ≤ w.heap.size) (hm : cap ≤ maxLen) (hs : cur.size = cap * t.size) : Own t e (w.alloc (.cells cur e)) base (.slice (some ⟨w.heap.size, 0, none⟩) 0 cap) ([] : List α) :=
  ⟨[], World.ownsRow_made w cur cap hb hm hs, RepAll.nil _ _ _⟩
/-- append of a slice of plain data. -/
theorem wpList_concat {P : Program} {ops : Array Oper} {rest : List Oper} {o : Oper} {a : Act} {Q : Exit → Act → World → Prop} {T e : TypeId} {v : Value} {base : Nat} {ys : List α} (ht : t.Flat) (hgd : o.guard = none) (s x : Operand)
    (ho : o.op = .call { callee := .builtin .append, args := #[s, x], argTypes := #[T, T] }) (bytes : Nat) (he : Elem P T e t.size bytes) (hs : a.eval s = v) (hown : Own t e w base v xs)
    (ad : Addr) (m c : Nat) (hx : a.eval x = .slice (some ad) m c) (hy : Sl t w S (some ad) m c ys)
    (hlen : (xs.length + m) * bytes ≤ 140737488355328) (hpos : 0 < bytes) (hbase : base ≤ w.heap.size)
    (h : ∀ v' w', Own t e w' base v' (xs ++ ys) → w.grownBy w' v.ownBlock → wpList P ops Q rest (a.put o.dst v') w') : wpList P ops Q (o :: rest) a w := by
  obtain ⟨i, z, hi, hz, h1, h2, h3⟩ := he.parts
  obtain ⟨cs, hown1, hown2⟩ := hown
  have hm := hy.len
  obtain ⟨c1, hr, hat, hone⟩ := hy.cells
  have h63 : xs.length + m ≤ maxLen := by
    have := Nat.le_mul_of_pos_right (xs.length + m) hpos
    unfold maxLen
    omega
  refine wpList_append_own_at _ hgd s x T ho base e i z t.size bytes he.1 hi hz h1 h2 h3 t.pos v xs.length cs hs hown1 ad m c c1 hx (by rw [hr.1, hm]) hat hone h63 hlen hbase ?_
  intro v' w' ho' hgr _ hv'
  refine h v' w' ⟨cs ++ c1, by rw [List.length_append, ← hm]; exact ho', ?_⟩ hgr
  have hb := hgr.block
  have hsz := hgr.size
  have hcat : ∀ (zs : List α) (dz : List Value), RepAll t w S dz zs → RepAll t w' (fun b => base ≤ b ∧ b < w'.heap.size ∧ some b ≠ v'.ownBlock) dz zs := fun zs dz hz => hz.flat ht
  refine ⟨by rw [List.length_append, List.length_append, hown2.1, hr.1, Nat.add_mul], fun i x hi => ?_⟩
  rcases Nat.lt_or_ge i xs.length with hlt | hge
  · have e1 : xs[i]? = some x := by rwa [List.getElem?_append_left hlt] at hi
    have h9 : i * t.size + t.size ≤ cs.length := by
      rw [hown2.1, ← Nat.succ_mul]
      exact Nat.mul_le_mul_right _ hlt
    rw [List.drop_append_of_le_length (by omega), List.take_append_of_le_length (by rw [List.length_drop]; omega)]
    exact ht (hown2.2 i x e1)
  · rw [List.getElem?_append_right hge] at hi
    have e2 : i * t.size = cs.length + (i - xs.length) * t.size := by
      rw [hown2.1, ← Nat.add_mul]
      congr 1
      omega
    rw [e2, List.drop_append]
    have e3 : cs.drop (cs.length + (i - xs.length) * t.size) = [] := List.drop_eq_nil_of_le (by omega)
    rw [e3, List.nil_append, Nat.add_sub_cancel_left]
    exact ht (hr.2 _ x hi)
end

end Go.Proofs.YtkhedjfdjjeopaaGreatDoor
