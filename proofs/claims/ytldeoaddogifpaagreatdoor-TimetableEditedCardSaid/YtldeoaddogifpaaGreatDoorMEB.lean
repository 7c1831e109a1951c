/-
  Joined texts: Copy; TPMem; TParseZ; TParseF; TParseLine; CalRef; CalRef2; CalRef3. What each proves stands ahead of it, with its conditions.
-/
import Derived.Test.YtldeoaddogifpaaGreatDoorTTMem
import Derived.Test.YtldeoaddogifpaaGreatDoorTTRead
import Derived.Test.YtldeoaddogifpaaGreatDoorBase
import Derived.Test.YtldeoaddogifpaaGreatDoorMEA
import Derived.Maps.AppendAt
import Derived.Test.YtldeoaddogifpaaGreatDoorStep
import Derived.Test.YtldeoaddogifpaaGreatDoorReader
import Derived.Deep.RegionLaw
import Derived.Deep.DeepCutAuto
import Derived.Test.YtldeoaddogifpaaGreatDoorTTReadF
import Derived.Test.YtldeoaddogifpaaGreatDoorRegion
import Derived.Test.YtldeoaddogifpaaGreatDoorTTDecode
import Derived.Test.YtldeoaddogifpaaGreatDoorCal3
/-
  append of a whole slice of plain data to a row of the call's own, and slices.Clone over shifts.
  Condition: the slice reads as a list.
-/
namespace Go.Proofs.YtldeoaddogifpaaGreatDoor
set_option linter.unusedSimpArgs false
set_option linter.unusedVariables false
open Go.RowKit

/-- Data without inner blocks. -/
def Ty.Flat {α : Type} (t : Ty α) : Prop := ∀ {w w' : World} {S S' : Nat → Prop} {cs : List Value} {x : α}, t.rep w S cs x → t.rep w' S' cs x
theorem flat_shift : Ty.shift.Flat := fun h => h
theorem flat_str : Ty.str.Flat := fun h => h
theorem flat_int (k : IntKind) : (Ty.int k).Flat := fun h => h
theorem flat_airport : Ty.airport.Flat := fun h => h
theorem flat_flight : Ty.flight.Flat := fun h => h
section
variable {α : Type} {t : Ty α} {w w' : World} {S : Nat → Prop} {n c : Nat} {xs : List α}
theorem RepAll.flat {S' : Nat → Prop} {cs : List Value} (ht : t.Flat) (h : RepAll t w S cs xs) : RepAll t w' S' cs xs := ⟨h.1, fun i x hi => ht (h.2 i x hi)⟩
/-- The cells of a slice, one behind the other. -/
theorem Sl.cells {ad : Addr} (h : Sl t w S (some ad) n c xs) : ∃ cs, RepAll t w S cs xs ∧ (∀ j u, cs[j]? = some u → w.cell? (ad.add j) = some u) ∧ ∀ u ∈ cs, u.oneCell' = true := by
  obtain ⟨h1, h2, h3, h4⟩ := h
  rcases Nat.eq_zero_or_pos n with h0 | h0
  · have : xs = [] := List.eq_nil_of_length_eq_zero (by omega)
    subst this
    exact ⟨[], RepAll.nil _ _ _, fun j u hu => by simp at hu, fun u hu => by cases hu⟩
  · obtain ⟨b, o, e, hs, hx⟩ := h4 h0
    cases e
    have key : ∀ k, k ≤ xs.length → ∃ cs, RepAll t w S cs (xs.take k) ∧ At w b o cs ∧ ∀ u ∈ cs, u.oneCell' = true := fun k => by
      induction k with
      | zero => exact fun _ => ⟨[], RepAll.nil _ _ _, fun j u hu => by simp at hu, fun u hu => by cases hu⟩
      | succ k ih =>
        intro hk
        obtain ⟨cs, hr, ha, ho⟩ := ih (by omega)
        obtain ⟨c1, hr1, ha1⟩ := hx k _ (List.getElem?_eq_getElem (by omega))
        refine ⟨cs ++ c1, ?_, fun j u hu => ?_, fun u hu => ?_⟩
        · rw [List.take_succ_eq_append_getElem (by omega)]
          exact hr.snoc hr1
        · have hl : cs.length = k * t.size := by rw [hr.1, List.length_take]; congr 1; omega
          rcases Nat.lt_or_ge j cs.length with hj | hj
          · exact ha j u (by rwa [List.getElem?_append_left hj] at hu)
          · rw [List.getElem?_append_right hj] at hu
            have := ha1 _ u hu
            rw [hl] at this hj
            rw [← this]
            congr 2
            omega
        · rcases List.mem_append.1 hu with hu | hu
          · exact ho u hu
          · exact t.one hr1 u hu
    obtain ⟨cs, hr, ha, ho⟩ := key xs.length (Nat.le_refl _)
    rw [List.take_length] at hr
    exact ⟨cs, hr, fun j u hu => by rw [addr_add]; exact ha j u hu, ho⟩
theorem Own.made {e : TypeId} {base cap : Nat} {cur : Array Value} (hb : base ≤ w.heap.size) (hm : cap ≤ maxLen) (hs : cur.size = cap * t.size) : Own t e (w.alloc (.cells cur e)) base (.slice (some ⟨w.heap.size, 0, none⟩) 0 cap) ([] : List α) :=
  ⟨[], World.ownsRow_made w cur cap hb hm hs, RepAll.nil _ _ _⟩
/-- append of a slice of plain data. -/
theorem wpList_concat {P : Program} {ops : Array Oper} {rest : List Oper} {o : Oper} {a : Act} {Q : Exit → Act → World → Prop} {T e : TypeId} {v : Value} {base : Nat} {ys : List α} (ht : t.Flat) (hgd : o.guard = none) (s x : Operand)
    (ho : o.op = .call { callee := .builtin .append, args := #[s, x], argTypes := #[T, T] }) (bytes : Nat) (he : Elem P T e t.size bytes) (hs : a.eval s = v) (hown : Own t e w base v xs)
    (ad : Addr) (m c : Nat) (hx : a.eval x = .slice (some ad) m c) (hy : Sl t w S (some ad) m c ys)
    (hlen : (xs.length + m) * bytes ≤ 140737488355328) (hpos : 0 < bytes) (hbase : base ≤ w.heap.size)
    (h : ∀ v' w', Own t e w' base v' (xs ++ ys) → w.grownBy w' v.ownBlock → wpList P ops Q rest (a.put o.dst v') w') : wpList P ops Q (o :: rest) a w := by
  obtain ⟨i, z, hi, hz, h1, h2, h3⟩ := he.parts
  obtain ⟨cs, hown1, hown2⟩ := hown
  have hm := hy.len
  obtain ⟨c1, hr, hat, hone⟩ := hy.cells
  have h63 : xs.length + m ≤ maxLen := by
    have := Nat.le_mul_of_pos_right (xs.length + m) hpos
    unfold maxLen
    omega
  refine wpList_append_own_at _ hgd s x T ho base e i z t.size bytes he.1 hi hz h1 h2 h3 t.pos v xs.length cs hs hown1 ad m c c1 hx (by rw [hr.1, hm]) hat hone h63 hlen hbase ?_
  intro v' w' ho' hgr _ hv'
  refine h v' w' ⟨cs ++ c1, by rw [List.length_append, ← hm]; exact ho', ?_⟩ hgr
  have hb := hgr.block
  have hsz := hgr.size
  have hcat : ∀ (zs : List α) (dz : List Value), RepAll t w S dz zs → RepAll t w' (fun b => base ≤ b ∧ b < w'.heap.size ∧ some b ≠ v'.ownBlock) dz zs := fun zs dz hz => hz.flat ht
  refine ⟨by rw [List.length_append, List.length_append, hown2.1, hr.1, Nat.add_mul], fun i x hi => ?_⟩
  rcases Nat.lt_or_ge i xs.length with hlt | hge
  · have e1 : xs[i]? = some x := by rwa [List.getElem?_append_left hlt] at hi
    have h9 : i * t.size + t.size ≤ cs.length := by
      rw [hown2.1, ← Nat.succ_mul]
      exact Nat.mul_le_mul_right _ hlt
    rw [List.drop_append_of_le_length (by omega), List.take_append_of_le_length (by rw [List.length_drop]; omega)]
    exact ht (hown2.2 i x e1)
  · rw [List.getElem?_append_right hge] at hi
    have e2 : i * t.size = cs.length + (i - xs.length) * t.size := by
      rw [hown2.1, ← Nat.add_mul]
      congr 1
      omega
    rw [e2, List.drop_append]
    have e3 : cs.drop (cs.length + (i - xs.length) * t.size) = [] := List.drop_eq_nil_of_le (by omega)
    rw [e3, List.nil_append, Nat.add_sub_cancel_left]
    exact ht (hr.2 _ x hi)
end

end Go.Proofs.YtldeoaddogifpaaGreatDoor
/-
  A timetable under construction by a parser: three rows of its own, the zones' shifts in blocks of their own type; append of a zone, an airport, a flight.
  No condition.
-/
namespace Go.Proofs.YtldeoaddogifpaaGreatDoor
set_option linter.unusedSimpArgs false
set_option linter.unusedVariables false
open Go.RowKit

/-- The block is a whole row of shifts. -/
def shTag (w : World) (b : Nat) : Prop := ∃ cur, w.heap[b]? = some (.cells cur 64 (0, 0))
def shS (w : World) (lo : Nat) : Nat → Prop := fun b => lo ≤ b ∧ shTag w b
theorem shTag.lt {w : World} {b : Nat} (h : shTag w b) : b < w.heap.size := by
  obtain ⟨cur, h⟩ := h
  exact (Array.getElem?_eq_some_iff.1 h).1
structure TPM (w : World) (lo : Nat) (v1 v2 v3 : Value) (t : GTT) : Prop where
  z : ∃ cs, w.ownsRow lo 51 3 v1 t.zones.length cs ∧ RepAll Ty.zone w (shS w lo) cs t.zones
  a : Own Ty.airport 66 w lo v2 t.airports
  f : Own Ty.flight 47 w lo v3 t.flights
theorem flat_air : Ty.airport.Flat := fun h => h
theorem flat_fli : Ty.flight.Flat := fun h => h
section
variable {α : Type} {T : Ty α} {e : TypeId} {w w' : World} {base : Nat} {v : Value} {xs : List α}
theorem Own.flatT (ht : T.Flat) (h : Own T e w base v xs) (hk : ∀ b, v.ownBlock = some b → w'.heap[b]? = w.heap[b]?) : Own T e w' base v xs := by
  obtain ⟨cs, h1, h2⟩ := h
  refine ⟨cs, ⟨h1.1, ?_⟩, h2.flat ht⟩
  rcases h1.2 with h3 | ⟨g, cap, cur, hv, hg, hb, r⟩
  · exact .inl h3
  · exact .inr ⟨g, cap, cur, hv, hg, (hk g (by rw [hv]; rfl)).trans hb, r⟩
theorem rowTag {n z : Nat} {cs : List Value} (h : w.ownsRow base e z v n cs) {b : Nat} (hb : v.ownBlock = some b) : base ≤ b ∧ ∃ cur, w.heap[b]? = some (.cells cur e (0, 0)) := by
  rcases h.2 with ⟨rfl, _⟩ | ⟨g, cap, cur, rfl, hg0, hg, _⟩
  · simp [Value.ownBlock] at hb
  · simp [Value.ownBlock] at hb
    subst hb
    exact ⟨hg0, cur, hg⟩
theorem Own.rowTag (h : Own T e w base v xs) {b : Nat} (hb : v.ownBlock = some b) : base ≤ b ∧ ∃ cur, w.heap[b]? = some (.cells cur e (0, 0)) := by
  obtain ⟨cs, h1, _⟩ := h
  exact Go.Proofs.YtldeoaddogifpaaGreatDoor.rowTag h1 hb
/-- A block of another type is not the row. -/
theorem row_ne {n z : Nat} {cs : List Value} (h : w.ownsRow base e z v n cs) {b : Nat} {cur : Array Value} {U : TypeId} (hb : w.heap[b]? = some (.cells cur U (0, 0))) (hU : U ≠ e) : some b ≠ v.ownBlock := by
  intro e1
  obtain ⟨_, c2, h2⟩ := Go.Proofs.YtldeoaddogifpaaGreatDoor.rowTag h e1.symm
  rw [hb] at h2
  injection h2 with h2
  injection h2 with _ h3
  exact hU h3
theorem row_keep {n z : Nat} {cs : List Value} (h : w.ownsRow base e z v n cs) (hk : ∀ b, v.ownBlock = some b → w'.heap[b]? = w.heap[b]?) : w'.ownsRow base e z v n cs := by
  refine ⟨h.1, ?_⟩
  rcases h.2 with h3 | ⟨g, cap, cur, hv, hg, hb, r⟩
  · exact .inl h3
  · exact .inr ⟨g, cap, cur, hv, hg, (hk g (by rw [hv]; rfl)).trans hb, r⟩
/-- A call's own row of flat data, read as a slice of a block of its type. -/
theorem Own.slTag (ht : T.Flat) (h : Own T e w base v xs) : ∃ A c, v = .slice A xs.length c ∧ Sl T w (fun b => base ≤ b ∧ ∃ cur, w.heap[b]? = some (.cells cur e (0, 0))) A xs.length c xs := by
  obtain ⟨cs, h1, h2⟩ := h
  rcases h1.2 with ⟨rfl, h0⟩ | ⟨g, cap, cur, rfl, hb, hg, hnc, hm, hcur, htake⟩
  · rw [h0, List.eq_nil_of_length_eq_zero h0]
    exact ⟨none, 0, rfl, Sl.nil0⟩
  · refine ⟨_, _, rfl, rfl, hnc, hm, fun _ => ⟨_, _, rfl, ⟨hb, cur, hg⟩, fun i x hi => ⟨_, ht (h2.2 i x hi), fun j u hu => ?_⟩⟩⟩
    rw [List.getElem?_take] at hu
    split at hu
    · rw [List.getElem?_drop] at hu
      have := h1.cells (g := g) rfl _ _ hu
      rw [addr_add] at this
      rw [← this]
      congr 2
      omega
    · cases hu
end
theorem TPM.nil (w : World) (lo : Nat) : TPM w lo (.slice none 0 0) (.slice none 0 0) (.slice none 0 0) emTT :=
  ⟨⟨[], World.ownsRow_nil _ _ _ _, RepAll.nil _ _ _⟩, Own.nil, Own.nil⟩
section
variable {w w' : World} {lo : Nat} {v1 v2 v3 : Value} {t : GTT}
/-- Kept, if the blocks of the four types stay. -/
theorem TPM.keep (h : TPM w lo v1 v2 v3 t) (hk : ∀ b cur T, w.heap[b]? = some (.cells cur T (0, 0)) → lo ≤ b → (T = 51 ∨ T = 66 ∨ T = 47 ∨ T = 64) → w'.heap[b]? = w.heap[b]?) : TPM w' lo v1 v2 v3 t := by
  obtain ⟨⟨cs, h1, h2⟩, h3, h4⟩ := h
  refine ⟨⟨cs, row_keep h1 fun b hb => ?_, h2.keep (fun b hb => ?_) fun b hb => ?_⟩, h3.flatT flat_air fun b hb => ?_, h4.flatT flat_fli fun b hb => ?_⟩
  · obtain ⟨hl, cur, hc⟩ := rowTag h1 hb
    exact hk b cur _ hc hl (.inl rfl)
  · obtain ⟨hl, cur, hc⟩ := hb
    exact hk b cur _ hc hl (.inr (.inr (.inr rfl)))
  · obtain ⟨hl, cur, hc⟩ := hb
    exact ⟨hl, cur, (hk b cur _ hc hl (.inr (.inr (.inr rfl)))).trans hc⟩
  · obtain ⟨hl, cur, hc⟩ := h3.rowTag hb
    exact hk b cur _ hc hl (.inr (.inl rfl))
  · obtain ⟨hl, cur, hc⟩ := h4.rowTag hb
    exact hk b cur _ hc hl (.inr (.inr (.inl rfl)))
theorem TPM.next (h : TPM w lo v1 v2 v3 t) (hb : Below w.heap.size w w') : TPM w' lo v1 v2 v3 t :=
  h.keep fun b cur T hc _ _ => hb.block b (Array.getElem?_eq_some_iff.1 hc).1
/-- A box of another type, or one ahead of the rows, may change. -/
theorem TPM.setBox (h : TPM w lo v1 v2 v3 t) {tb j : Nat} {x : Value} (hb : tb < lo) : TPM (w.setCell ⟨tb, j, none⟩ x) lo v1 v2 v3 t :=
  h.keep fun b cur T hc hl _ => heap_setCell_other _ _ _ _ (by show b ≠ tb; omega)
theorem TPM.grownZ {v' : Value} {cs cz : List Value} {z : GZone} (h : TPM w lo v1 v2 v3 t) (h1 : w.ownsRow lo 51 3 v1 t.zones.length cs) (h2 : RepAll Ty.zone w (shS w lo) cs t.zones) (hz : Ty.zone.rep w (shS w lo) cz z)
    (ho' : w'.ownsRow lo 51 3 v' (t.zones.length + 1) (cs ++ cz)) (hg : w.grownBy w' v1.ownBlock) : TPM w' lo v' v2 v3 (t.addZ z) := by
  have hk : ∀ (b : Nat) (cur : Array Value) (T : TypeId), w.heap[b]? = some (Obj.cells cur T (0, 0)) → T ≠ 51 → w'.heap[b]? = w.heap[b]? := fun b cur T hc hT => hg.block b (Array.getElem?_eq_some_iff.1 hc).1 (row_ne h1 hc hT)
  have hs : ∀ b, shS w lo b → w'.heap[b]? = w.heap[b]? := fun b ⟨_, cur, hc⟩ => hk b cur _ hc (by decide)
  have hm : ∀ b, shS w lo b → shS w' lo b := fun b hb => ⟨hb.1, by obtain ⟨cur, hc⟩ := hb.2; exact ⟨cur, (hs b hb).trans hc⟩⟩
  refine ⟨⟨_, by simpa [GTT.addZ] using ho', (h2.keep hs hm).snoc (Ty.zone.more (Ty.zone.keep hz hs) hm)⟩, h.a.flatT flat_air fun b hb => ?_, h.f.flatT flat_fli fun b hb => ?_⟩
  · obtain ⟨_, cur, hc⟩ := h.a.rowTag hb
    exact hk b cur _ hc (by decide)
  · obtain ⟨_, cur, hc⟩ := h.f.rowTag hb
    exact hk b cur _ hc (by decide)
theorem TPM.grownA {v' : Value} {a : GAirport} (h : TPM w lo v1 v2 v3 t) (ho' : Own Ty.airport 66 w' lo v' (t.airports ++ [a])) (hg : w.grownBy w' v2.ownBlock) : TPM w' lo v1 v' v3 (t.addA a) := by
  obtain ⟨⟨cs, h1, h2⟩, ⟨ca, h3, h3'⟩, h4⟩ := h
  have hk : ∀ (b : Nat) (cur : Array Value) (T : TypeId), w.heap[b]? = some (Obj.cells cur T (0, 0)) → T ≠ 66 → w'.heap[b]? = w.heap[b]? := fun b cur T hc hT => hg.block b (Array.getElem?_eq_some_iff.1 hc).1 (row_ne h3 hc hT)
  have hs : ∀ b, shS w lo b → w'.heap[b]? = w.heap[b]? := fun b ⟨_, cur, hc⟩ => hk b cur _ hc (by decide)
  have hm : ∀ b, shS w lo b → shS w' lo b := fun b hb => ⟨hb.1, by obtain ⟨cur, hc⟩ := hb.2; exact ⟨cur, (hs b hb).trans hc⟩⟩
  refine ⟨⟨cs, row_keep h1 fun b hb => ?_, h2.keep hs hm⟩, ho', h4.flatT flat_fli fun b hb => ?_⟩
  · obtain ⟨_, cur, hc⟩ := rowTag h1 hb
    exact hk b cur _ hc (by decide)
  · obtain ⟨_, cur, hc⟩ := h4.rowTag hb
    exact hk b cur _ hc (by decide)
theorem TPM.grownF {v' : Value} {x : GFlight} (h : TPM w lo v1 v2 v3 t) (ho' : Own Ty.flight 47 w' lo v' (t.flights ++ [x])) (hg : w.grownBy w' v3.ownBlock) : TPM w' lo v1 v2 v' (t.addF x) := by
  obtain ⟨⟨cs, h1, h2⟩, h3, ⟨ca, h4, h4'⟩⟩ := h
  have hk : ∀ (b : Nat) (cur : Array Value) (T : TypeId), w.heap[b]? = some (Obj.cells cur T (0, 0)) → T ≠ 47 → w'.heap[b]? = w.heap[b]? := fun b cur T hc hT => hg.block b (Array.getElem?_eq_some_iff.1 hc).1 (row_ne h4 hc hT)
  have hs : ∀ b, shS w lo b → w'.heap[b]? = w.heap[b]? := fun b ⟨_, cur, hc⟩ => hk b cur _ hc (by decide)
  have hm : ∀ b, shS w lo b → shS w' lo b := fun b hb => ⟨hb.1, by obtain ⟨cur, hc⟩ := hb.2; exact ⟨cur, (hs b hb).trans hc⟩⟩
  refine ⟨⟨cs, row_keep h1 fun b hb => ?_, h2.keep hs hm⟩, h3.flatT flat_air fun b hb => ?_, ho'⟩
  · obtain ⟨_, cur, hc⟩ := rowTag h1 hb
    exact hk b cur _ hc (by decide)
  · obtain ⟨_, cur, hc⟩ := h3.rowTag hb
    exact hk b cur _ hc (by decide)
theorem TPM.lt (h : TPM w lo v1 v2 v3 t) : (∀ k, v1.ownBlock = some k → lo ≤ k ∧ k < w.heap.size) ∧ (∀ k, v2.ownBlock = some k → lo ≤ k ∧ k < w.heap.size) ∧ ∀ k, v3.ownBlock = some k → lo ≤ k ∧ k < w.heap.size := by
  obtain ⟨⟨cs, h1, h2⟩, h3, h4⟩ := h
  exact ⟨h1.lt, h3.lt, h4.lt⟩
/-- Read as three slices. -/
theorem TPM.sl (h : TPM w lo v1 v2 v3 t) : ∃ A1 c1 A2 c2 A3 c3, v1 = .slice A1 t.zones.length c1 ∧ v2 = .slice A2 t.airports.length c2 ∧ v3 = .slice A3 t.flights.length c3 ∧
    Sl Ty.zone w (fun b => lo ≤ b ∧ b < w.heap.size) A1 t.zones.length c1 t.zones ∧ Sl Ty.airport w (fun b => lo ≤ b ∧ b < w.heap.size) A2 t.airports.length c2 t.airports ∧ Sl Ty.flight w (fun b => lo ≤ b ∧ b < w.heap.size) A3 t.flights.length c3 t.flights := by
  obtain ⟨⟨cs, h1, h2⟩, h3, h4⟩ := h
  obtain ⟨A2, c2, e2, s2⟩ := h3.sl
  obtain ⟨A3, c3, e3, s3⟩ := h4.sl
  have hz : ∃ A1 c1, v1 = .slice A1 t.zones.length c1 ∧ Sl Ty.zone w (fun b => lo ≤ b ∧ b < w.heap.size) A1 t.zones.length c1 t.zones := by
    rcases h1.2 with ⟨rfl, h0⟩ | ⟨g, cap, cur, rfl, hb, hg, hnc, hm, hcur, htake⟩
    · rw [h0, List.eq_nil_of_length_eq_zero h0]
      exact ⟨none, 0, rfl, Sl.nil0⟩
    · refine ⟨_, _, rfl, rfl, hnc, hm, fun _ => ⟨_, _, rfl, ⟨hb, (Array.getElem?_eq_some_iff.1 hg).1⟩, fun i x hi => ⟨_, Ty.zone.more (h2.2 i x hi) fun b hS => ⟨hS.1, hS.2.lt⟩, fun j u hu => ?_⟩⟩⟩
      rw [List.getElem?_take] at hu
      split at hu
      · rw [List.getElem?_drop] at hu
        have := h1.cells (g := g) rfl _ _ hu
        rw [addr_add] at this
        rw [← this]
        congr 2
        show 0 + i * Ty.zone.size + j = 0 + (i * Ty.zone.size + j)
        omega
      · cases hu
  obtain ⟨A1, c1, e1, s1⟩ := hz
  exact ⟨A1, c1, A2, c2, A3, c3, e1, e2, e3, s1, s2, s3⟩
end
theorem zone_row : Elem Tryz.prog 23 51 3 48 := ⟨Tryz.underlying23, by kernel_rfl⟩
theorem air_row : Elem Tryz.prog 24 66 2 32 := ⟨Tryz.underlying24, by kernel_rfl⟩
theorem fli_row : Elem Tryz.prog 25 47 9 104 := ⟨Tryz.underlying25, by kernel_rfl⟩
section
variable {P : Program} {ops : Array Oper} {rest : List Oper} {o : Oper} {a : Act} {Q : Exit → Act → World → Prop} {w : World} {lo : Nat} {v1 v2 v3 : Value} {t : GTT}
/-- append of a zone that lies in a block of its own. -/
theorem wpList_pushZ (hgd : o.guard = none) (s x : Operand) (T : TypeId) (ho : o.op = .call { callee := .builtin .append, args := #[s, x], argTypes := #[T, T] }) (he : Elem P T 51 3 48) (hs : a.eval s = v1) (h : TPM w lo v1 v2 v3 t)
    (g : Nat) (z : GZone) (hx : a.eval x = .slice (some ⟨g, 0, none⟩) 1 1) (hz : ∃ cz, Ty.zone.rep w (shS w lo) cz z ∧ At w g 0 cz) (hlen : t.zones.length ≤ 1000) (hlo : lo ≤ w.heap.size)
    (hn : ∀ v' w', TPM w' lo v' v2 v3 (t.addZ z) → w.grownBy w' v1.ownBlock → wpList P ops Q rest (a.put o.dst v') w') : wpList P ops Q (o :: rest) a w := by
  obtain ⟨i, zr, hi, hzr, h1, h2, h3⟩ := he.parts
  obtain ⟨cs, r1, r2⟩ := h.z
  obtain ⟨cz, hr, hat⟩ := hz
  refine wpList_append_own_at _ hgd s x T ho lo 51 i zr 3 48 he.1 hi hzr h1 h2 h3 (by decide) v1 _ cs hs r1 ⟨g, 0, none⟩ 1 1 cz hx (by rw [Ty.zone.len hr]; rfl) (fun j u hu => by rw [addr_add]; exact hat j u hu) (Ty.zone.one hr) (by unfold maxLen; omega) (by omega) hlo ?_
  intro v' w' ho' hgr _ _
  exact hn v' w' (h.grownZ r1 r2 hr ho' hgr) hgr
theorem wpList_pushA (hgd : o.guard = none) (s x : Operand) (T : TypeId) (ho : o.op = .call { callee := .builtin .append, args := #[s, x], argTypes := #[T, T] }) (he : Elem P T 66 2 32) (hs : a.eval s = v2) (h : TPM w lo v1 v2 v3 t)
    (g : Nat) (z : GAirport) (hx : a.eval x = .slice (some ⟨g, 0, none⟩) 1 1) (hz : At w g 0 [.string z.code, .string z.zone]) (hlen : t.airports.length ≤ 1000) (hlo : lo ≤ w.heap.size)
    (hn : ∀ v' w', TPM w' lo v1 v' v3 (t.addA z) → w.grownBy w' v2.ownBlock → wpList P ops Q rest (a.put o.dst v') w') : wpList P ops Q (o :: rest) a w :=
  wpList_push hgd s x T ho 32 he hs h.a g z (fun _ => False) hx ⟨_, rfl, hz⟩ (fun _ h => h.elim) (by omega) (by decide) hlo fun v' w' ho' hg => hn v' w' (h.grownA ho' hg) hg
theorem wpList_pushF (hgd : o.guard = none) (s x : Operand) (T : TypeId) (ho : o.op = .call { callee := .builtin .append, args := #[s, x], argTypes := #[T, T] }) (he : Elem P T 47 9 104) (hs : a.eval s = v3) (h : TPM w lo v1 v2 v3 t)
    (g : Nat) (z : GFlight) (hx : a.eval x = .slice (some ⟨g, 0, none⟩) 1 1) (hz : At w g 0 (flightCells z)) (hlen : t.flights.length ≤ 1000) (hlo : lo ≤ w.heap.size)
    (hn : ∀ v' w', TPM w' lo v1 v2 v' (t.addF z) → w.grownBy w' v3.ownBlock → wpList P ops Q rest (a.put o.dst v') w') : wpList P ops Q (o :: rest) a w :=
  wpList_push hgd s x T ho 104 he hs h.f g z (fun _ => False) hx ⟨_, rfl, hz⟩ (fun _ h => h.elim) (by omega) (by decide) hlo fun v' w' ho' hg => hn v' w' (h.grownF ho' hg) hg
end
end Go.Proofs.YtldeoaddogifpaaGreatDoor
/-
  Contract of timetable.parseZone.
  Condition: the fields read as a list of strings of no more than 20000 bytes, no more than 100000 of them.
-/
namespace Go.Proofs.YtldeoaddogifpaaGreatDoor
set_option linter.unusedSimpArgs false
set_option linter.unusedVariables false
open Go.RowKit

theorem size_sp9 {a b : ByteArray} (ha : a.size ≤ 20000) (hb : b.size ≤ 20000) : (a ++ spS ++ b).size ≤ maxLen ∧ ¬ 9223372036854775807 < a.size + 1 ∧ ¬ 9223372036854775807 < (a ++ (⟨#[32]⟩ : ByteArray)).size + b.size ∧ ¬ 9223372036854775807 < a.size + 1 + b.size := by
  have hz1 : (a ++ spS).size = a.size + 1 := by rw [ByteArray.size_append, show spS.size = 1 from rfl]
  refine ⟨?_, by omega, ?_, by omega⟩
  · rw [ByteArray.size_append, hz1]; unfold maxLen; omega
  · rw [show (⟨#[32]⟩ : ByteArray) = spS from rfl, hz1]; omega
theorem fld_cells {f : List ByteArray} {w : World} {S : Nat → Prop} {A : Option Addr} {n c : Nat} (h : Sl Ty.str w S A n c f) (h0 : 0 < f.length) : ∃ b o, A = some ⟨b, o, none⟩ ∧ S b ∧ ∀ k, k < f.length → w.cell? ⟨b, o + k, none⟩ = some (.string (fld f k)) := by
  obtain ⟨b, o, e, hS, _⟩ := h.str_at h0
  refine ⟨b, o, e, hS, fun k hk => ?_⟩
  obtain ⟨b', o', e', _, hc⟩ := h.str_at hk
  rw [e] at e'
  injection e' with e'
  injection e' with e1 e2
  subst e1 e2
  have : f[k] = fld f k := Option.some.inj ((List.getElem?_eq_getElem hk).symm.trans (fld_at hk))
  rw [← this]
  exact hc
def sliceLen : Value → Nat
  | .slice _ n _ => n
  | _ => 0
def ZPost (fs : List ByteArray) (w : World) (e : Ending) (w' : World) : Prop := ∃ (z : GZone) (v : Value), e = .returned (.tuple #[.agg #[.string z.name, .int .i64 z.off, v], .bool (!zoneBad fs)]) ∧
  Own Ty.shift 64 w' w.heap.size v z.shifts ∧ Below w.heap.size w w' ∧ (zoneBad fs = false → z = zoneF fs)
theorem zbad {fs : List ByteArray} {w w' : World} (h : zoneBad fs = true) (hb : Below w.heap.size w w') : ZPost fs w (.returned (.tuple #[.agg #[.string (⟨#[]⟩ : ByteArray), .int .i64 0, .slice none 0 0], .bool false])) w' :=
  ⟨noZone, .slice none 0 0, by rw [h]; rfl, Own.nil, hb, fun h2 => by rw [h] at h2; cases h2⟩
set_option maxRecDepth 100000 in
set_option maxHeartbeats 3200000 in
theorem parseZone_any (fs : List ByteArray) (A : Option Addr) (n c : Nat) (w : World) (hf : Sl Ty.str w (all_ w) A n c fs) (h1 : 1 ≤ fs.length) (hl : fs.length ≤ 100000) (hz : ∀ x ∈ fs, x.size ≤ 20000) (hg : Glo w) :
    Calls Tryz.prog 58 #[.slice A n c] w (ZPost fs w) := by
  have hn := hf.len
  have hnc := hf.2.1
  have hcm := hf.2.2.1
  unfold maxLen at hcm
  obtain ⟨fb, o, rfl, hSb, hcells⟩ := fld_cells hf (by omega)
  have hfb : fb < w.heap.size := hSb
  subst hn
  have ha := (Below.refl w.heap.size w).alloc (Nat.le_refl _) (.cells #[.string ⟨#[]⟩, .int .i64 0, .slice none 0 0] 51)
  have hx := heap_alloc_new w (.cells #[.string ⟨#[]⟩, .int .i64 0, .slice none 0 0] 51)
  have hsz0 : (w.alloc (.cells #[.string ⟨#[]⟩, .int .i64 0, .slice none 0 0] 51)).heap.size = w.heap.size + 1 := by simp
  have HA := Lib.hid ha; have HX := Lib.hid hx; have HS0 := Lib.hid hsz0
  have HC : Hid (∀ V : World, Below w.heap.size w V → ∀ k, k < fs.length → V.cell? ⟨fb, o + k, none⟩ = some (.string (fld fs k))) := fun V hV k hk => (World.cell?_of_block (a := ⟨fb, o + k, none⟩) (hV.block fb hfb)).trans (hcells k hk)
  have HZ := Lib.hid (fld_le (m := 20000) hz)
  have HGL : Hid (∀ V, Below w.heap.size w V → Glo V) := fun V hV => hg.next hV
  have HBAD : Hid (∀ V, zoneBad fs = true → Below w.heap.size w V → ZPost fs w (.returned (.tuple #[.agg #[.string (⟨#[]⟩ : ByteArray), .int .i64 0, .slice none 0 0], .bool false])) V) := fun V h hb => zbad h hb
  clear hf hSb hcells ha hx hsz0 hz hg
  have HZB : Hid (zoneBad fs = (decide (fs.length < 3) || decide ((fs.length - 3) % 3 ≠ 0) || decide ((durB (fld fs 2)).2 ≠ 0) || shiftsBad fs ((fs.length - 3) / 3))) := rfl
  obtain ⟨W, hW⟩ : ∃ W, W = w.alloc (.cells #[.string ⟨#[]⟩, .int .i64 0, .slice none 0 0] 51) := ⟨_, rfl⟩
  have HW0 := Lib.hid hW
  rw [← hW] at HA HX HS0
  have z0 : W.cell? ⟨w.heap.size, 0, none⟩ = some (.string ⟨#[]⟩) := block_cell HX.out 0
  have z1 : W.cell? ⟨w.heap.size, 1, none⟩ = some (.int .i64 0) := block_cell HX.out 1
  have z2 : W.cell? ⟨w.heap.size, 2, none⟩ = some (.slice none 0 0) := block_cell HX.out 2
  have f0 := block_free HX.out 0; have f1 := block_free HX.out 1; have f2 := block_free HX.out 2
  clear hW
  by_cases h3 : fs.length < 3
  · have HR : Hid (zoneBad fs = true) := by show _ = _; rw [HZB.out, decide_eq_true h3]; rfl
    have h3' : (fs.length : Int) < 3 := by omega
    clear HZB h3
    go_enter Tryz.func58, Tryz.ntmps58
    go_upto_region 1 with (fail)
    rw [← HW0.out]
    go_wp2_with fail
    refine bodyPost_ret (v := .tuple #[.agg #[.string ⟨#[]⟩, .int .i64 0, .slice none 0 0], .bool false]) (by simp [results, Tryz.results58, go_sem, z0, z1, z2]) rfl ?_
    exact HBAD.out _ HR.out (((HA.out.setCell (Nat.le_refl _) _).setCell (Nat.le_refl _) _).setCell (Nat.le_refl _) _)
  have h3' : ¬ (fs.length : Int) < 3 := by omega
  obtain ⟨p, hp⟩ : ∃ p, fs.length = p + 3 := ⟨fs.length - 3, by omega⟩
  have q0 : IntKind.i64.wrap ((fs.length : Int) - 3) = (p : Int) := by rw [show (fs.length : Int) - 3 = p by omega]; exact IntWalk.i64_in _ (by omega)
  have q1 : (p : Int).tmod 3 = ((p % 3 : Nat) : Int) := by rw [Int.tmod_eq_emod_of_nonneg (by omega)]; omega
  have q2 : IntKind.i64.wrap ((p % 3 : Nat) : Int) = ((p % 3 : Nat) : Int) := IntWalk.i64_in _ (by omega)
  have hpz : fs.length - 3 = p := by omega
  rw [hpz] at HZB
  have HPE := Lib.hid hp
  have hpl : p + 3 ≤ fs.length := by omega
  have hpl2 : fs.length ≤ p + 3 := by omega
  clear hp hpz
  by_cases hm : p % 3 = 0
  case neg =>
    have HR : Hid (zoneBad fs = true) := by show _ = _; rw [HZB.out, decide_eq_true hm]; simp
    have hm' : (((p % 3 : Nat) : Int) != 0) = true := by simp; omega
    clear HZB hm
    generalize p % 3 = pm at *
    go_enter Tryz.func58, Tryz.ntmps58
    go_upto_region 1 with (fail)
    rw [← HW0.out]
    go_wp2_with fail
    refine bodyPost_ret (v := .tuple #[.agg #[.string ⟨#[]⟩, .int .i64 0, .slice none 0 0], .bool false]) (by simp [results, Tryz.results58, go_sem, z0, z1, z2]) rfl ?_
    exact HBAD.out _ HR.out (((HA.out.setCell (Nat.le_refl _) _).setCell (Nat.le_refl _) _).setCell (Nat.le_refl _) _)
  have hm' : (((p % 3 : Nat) : Int) != 0) = false := by simp; omega
  obtain ⟨m, hpm⟩ : ∃ m, p = 3 * m := ⟨p / 3, by omega⟩
  have hpd : p / 3 = m := by omega
  rw [hpd, decide_eq_false h3, decide_eq_false (by simpa using hm)] at HZB
  generalize p % 3 = pm at *
  have HPM := Lib.hid hpm
  have hpm1 : 3 * m ≤ p := by omega
  have hpm2 : p ≤ 3 * m := by omega
  have c2 := HC.out W HA.out 2 (by omega)
  have l2 : (2 : Int) < (fs.length : Int) := by omega
  have HD : Hid (∀ k V, Below w.heap.size w V → Calls Tryz.prog 96 #[.string (fld fs k)] V (NumPost (durB (fld fs k)) V)) := fun k V hV => parseDuration_any _ V (by have := HZ.out k; omega) (HGL.out V hV)
  have HD2 := Lib.hid (HD.out 2 W HA.out)
  have HZF : Hid (zoneF fs = ⟨fld fs 1, (durB (fld fs 2)).1, shiftsF fs m⟩) := by show _ = _; unfold zoneF; rw [show (fs.length - 3) / 3 = m by omega]
  unfold NumPost at HD2
  generalize durB (fld fs 2) = d2 at *
  obtain ⟨off, er⟩ := d2
  simp only at HD2 HZB HZF
  clear hpm hpd hm h3
  go_enter Tryz.func58, Tryz.ntmps58
  go_upto_region 1 with (fail)
  rw [← HW0.out]
  go_wp2_with fail
  refine HD2.out.mono ?_
  rintro e w1 ⟨rfl, hb1⟩
  have hx1 := (hb1.block w.heap.size (by have := HS0.out; omega)).trans HX.out
  have HX1 := Lib.hid hx1
  have HB1 : Hid (Below w.heap.size w w1) := HA.out.trans (hb1.mono HA.out.size)
  have hs1 : w.heap.size + 1 ≤ w1.heap.size := by have := hb1.size; have := HS0.out; omega
  clear z0 z1 z2 f0 f1 f2 c2 hb1 HD2
  have z0 : w1.cell? ⟨w.heap.size, 0, none⟩ = some (.string ⟨#[]⟩) := block_cell hx1 0
  have z1 : w1.cell? ⟨w.heap.size, 1, none⟩ = some (.int .i64 0) := block_cell hx1 1
  have z2 : w1.cell? ⟨w.heap.size, 2, none⟩ = some (.slice none 0 0) := block_cell hx1 2
  have f0 := block_free hx1 0; have f1 := block_free hx1 1; have f2 := block_free hx1 2
  clear hx1
  by_cases her : er = 0
  case neg =>
    have HR : Hid (zoneBad fs = true) := by show _ = _; rw [HZB.out, decide_eq_true her]; simp
    have her' : (er != 0) = true := by simpa using her
    clear HZB her
    go_wp2_with fail
    refine bodyPost_ret (v := .tuple #[.agg #[.string ⟨#[]⟩, .int .i64 0, .slice none 0 0], .bool false]) (by simp [results, Tryz.results58, go_sem, z0, z1, z2]) rfl ?_
    exact HBAD.out _ HR.out (((HB1.out.setCell (Nat.le_refl _) _).setCell (Nat.le_refl _) _).setCell (Nat.le_refl _) _)
  subst her
  have HZB2 : Hid (zoneBad fs = shiftsBad fs m) := by show _ = _; rw [HZB.out]; simp
  clear HZB
  have c1 := HC.out w1 HB1.out 1 (by omega)
  have l1 : (1 : Int) < (fs.length : Int) := by omega
  have l3 : (3 : Int) ≤ (c : Int) := by omega
  have l4 : (3 : Int) ≤ (fs.length : Int) := by omega
  have hxz := heap_alloc_new w1 (.cells #[.string (fld fs 1), .int .i64 off, .slice none 0 0] 51)
  have hbz : Below w1.heap.size w1 (w1.alloc (.cells #[.string (fld fs 1), .int .i64 off, .slice none 0 0] 51)) := (Below.refl _ _).alloc (Nat.le_refl _) _
  have hsz2 : (w1.alloc (.cells #[.string (fld fs 1), .int .i64 off, .slice none 0 0] 51)).heap.size = w1.heap.size + 1 := by simp
  have HXZ := Lib.hid hxz; have HBZ := Lib.hid hbz; have HSZ2 := Lib.hid hsz2
  clear hxz hbz hsz2
  go_upto_region 7 with (fail)
  go_cut [7] (fun r wx => ∃ (A' : Option Addr) (c' : Nat), r = .slice A' (3 * m) c' ∧ (0 < m → A' = some ⟨fb, o + 3, none⟩) ∧ 3 * m ≤ c' ∧ c' ≤ 9223372036854775807 ∧ wx = w1.alloc (.cells #[.string (fld fs 1), .int .i64 off, .slice none 0 0] 51))
  case first =>
    go_wp2_with fail
    · have hcc : c = 3 := by assumption
      subst hcc
      go_meet
      exact ⟨_, _, congrArg (fun k => Value.slice (some ⟨fb, o, none⟩) k 0) (show fs.length - 3 = 3 * m by omega), fun h => by omega, by omega, by omega, rfl⟩
    · go_meet
      exact ⟨_, _, congrArg (fun k => Value.slice (some ⟨fb, o + 3, none⟩) k (c - 3)) (show fs.length - 3 = 3 * m by omega), fun _ => rfl, by omega, by omega, rfl⟩
  case rest =>
  obtain ⟨A0, cc0, rfl, hA0, hc0, hcm0, rfl⟩ := hcut
  have HA0 := Lib.hid hA0
  clear z0 z1 z2 f0 f1 f2 c1 hA0 q0 q1 q2 hm' l1 l2 l3 l4
  obtain ⟨w2, hw2⟩ : ∃ x, x = w1.alloc (.cells #[.string (fld fs 1), .int .i64 off, .slice none 0 0] 51) := ⟨_, rfl⟩
  rw [← hw2] at HXZ HBZ HSZ2 ⊢
  clear hw2
  have HX2 : Hid (w2.heap[w.heap.size]? = some (.cells #[.string ⟨#[]⟩, .int .i64 0, .slice none 0 0] 51 (0, 0))) := (HBZ.out.block _ (by omega)).trans HX1.out
  have HB2 : Hid (Below w.heap.size w w2) := HB1.out.trans (HBZ.out.mono (by omega))
  obtain ⟨H1, hH1⟩ : ∃ x, x = w1.heap.size := ⟨_, rfl⟩
  rw [← hH1] at HXZ HSZ2 hs1 ⊢
  clear HX1 HB1 HBZ hH1
  go_upto_block 1 with (fail)
  go_loopw [7] (fun r wr => ∃ (k : Nat) (v : Value) (A' : Option Addr) (c' : Nat), k ≤ m ∧ r = .slice A' (3 * (m - k)) c' ∧ Hid (k < m → A' = some ⟨fb, o + 3 + 3 * k, none⟩) ∧ 3 * (m - k) ≤ c' ∧ c' ≤ 9223372036854775807 ∧ Hid (shiftsBad fs k = false) ∧ Hid (wr.heap[H1]? = some (.cells #[.string (fld fs 1), .int .i64 off, v] 51 (0, 0))) ∧ Hid (Own Ty.shift 64 wr (H1 + 1) v (shiftsF fs k)) ∧ Hid (wr.heap[w.heap.size]? = some (.cells #[.string ⟨#[]⟩, .int .i64 0, .slice none 0 0] 51 (0, 0))) ∧ Hid (Below w.heap.size w wr)) (fun r _ => sliceLen r)
  case atStart => exact ⟨0, _, A0, cc0, Nat.zero_le _, rfl, Lib.hid (fun h => HA0.out h), hc0, hcm0, rfl, HXZ, Lib.hid Own.nil, HX2, HB2⟩
  case round =>
    clear HXZ HX2 HB2 HA0 HSZ2 hc0 hcm0
    obtain ⟨k, v, A', c', hk, rfl, HA', hc1, hc2, HSB, HXH, HOW, HXR, HBW⟩ := hrel
    have hx := HXR.out
    have z0 : wr.cell? ⟨w.heap.size, 0, none⟩ = some (.string ⟨#[]⟩) := block_cell hx 0
    have z1 : wr.cell? ⟨w.heap.size, 1, none⟩ = some (.int .i64 0) := block_cell hx 1
    have z2 : wr.cell? ⟨w.heap.size, 2, none⟩ = some (.slice none 0 0) := block_cell hx 2
    have f0 := block_free hx 0; have f1 := block_free hx 1; have f2 := block_free hx 2
    have hHl : H1 < wr.heap.size := (Array.getElem?_eq_some_iff.1 HXH.out).1
    have hRl : w.heap.size < wr.heap.size := (Array.getElem?_eq_some_iff.1 hx).1
    clear hx
    by_cases hlt : k < m
    · obtain rfl := HA'.out hlt
      obtain ⟨L, hL⟩ : ∃ L, L = 3 * (m - k) := ⟨_, rfl⟩
      rw [← hL] at hc1 ⊢
      have hL3 : 3 ≤ L := by omega
      have l0 : (0 : Int) < (L : Int) := by omega
      have l1 : (1 : Int) < (L : Int) := by omega
      have l2 : (2 : Int) < (L : Int) := by omega
      have l3 : (3 : Int) ≤ (L : Int) := by omega
      have l4 : (3 : Int) ≤ (c' : Int) := by omega
      have d0 := HC.out wr HBW.out (3 + 3 * k) (by omega)
      have d1 := HC.out wr HBW.out (3 + 3 * k + 1) (by omega)
      have d2 := HC.out wr HBW.out (5 + 3 * k) (by omega)
      have D2 : Hid (∀ V, Below w.heap.size w V → V.cell? ⟨fb, o + 3 + 3 * k + 2, none⟩ = some (.string (fld fs (5 + 3 * k)))) := fun V hV => by
        have := HC.out V hV (5 + 3 * k) (by omega)
        rw [show o + (5 + 3 * k) = o + 3 + 3 * k + 2 by omega] at this
        exact this
      rw [show o + (3 + 3 * k) = o + 3 + 3 * k by omega] at d0
      rw [show o + (3 + 3 * k + 1) = o + 3 + 3 * k + 1 by omega] at d1
      clear d2
      have HLK : Hid (L = 3 * (m - k)) := hL
      clear hL
      have zz0 := HZ.out (3 + 3 * k); have zz1 := HZ.out (3 + 3 * k + 1)
      obtain ⟨za, qa1, qa2, qa3⟩ := size_sp9 zz0 zz1
      have HI1 : Hid (∀ V : World, Calls Tryz.prog 97 #[.string (fld fs (3 + 3 * k) ++ spS ++ fld fs (3 + 3 * k + 1))] V (NumPost (insF fs (3 + 3 * k)) V)) := fun V => parseInstant_any _ V za
      have HD3 : Hid (∀ V, Below w.heap.size w V → Calls Tryz.prog 96 #[.string (fld fs (5 + 3 * k))] V (NumPost (durB (fld fs (5 + 3 * k))) V)) := fun V hV => HD.out _ V hV
      have HSF : Hid (shiftsF fs (k + 1) = shiftsF fs k ++ [⟨(insF fs (3 + 3 * k)).1, (durB (fld fs (5 + 3 * k))).1⟩]) := shiftsF_succ fs k
      have HSB2 : Hid (shiftBad fs k = (decide ((insF fs (3 + 3 * k)).2 ≠ 0) || decide ((durB (fld fs (5 + 3 * k))).2 ≠ 0))) := rfl
      have HSS : Hid (shiftsBad fs (k + 1) = shiftBad fs k) := by show _ = _; rw [shiftsBad_succ, HSB.out, Bool.false_or]
      have HLEN := Lib.hid (shiftsF_len fs k)
      unfold NumPost at HI1 HD3
      generalize insF fs (3 + 3 * k) = a1 at *
      generalize durB (fld fs (5 + 3 * k)) = a2 at *
      generalize fld fs (3 + 3 * k) = g1 at *
      generalize fld fs (3 + 3 * k + 1) = g2 at *
      obtain ⟨x1, er1⟩ := a1
      obtain ⟨x2, er2⟩ := a2
      simp only at HI1 HD3 HSF HSB2
      clear zz0 zz1 za
      go_upto_region 10 with (fail)
      go_cut [8, 9] (fun a b wx => a = .int .i64 x1 ∧ b = .int .i64 er1 ∧ Below wr.heap.size wr wx)
      case first =>
        go_region_law (first
          | (go_simp; go_at_call 97; refine (HI1.out _).mono ?_; rintro e w3 ⟨rfl, hb3⟩)
          | fail)
        all_goals
          go_wp2_with fail
          go_meet
          exact ⟨rfl, rfl, ⟨hb3.os, hb3.tape, hb3.output, hb3.size, hb3.block⟩⟩
      case rest =>
      obtain ⟨rfl, rfl, hb3⟩ := hcut
      obtain ⟨w3, rfl⟩ : ∃ x : World, x = wc := ⟨_, rfl⟩
      have hx3 := (hb3.block w.heap.size hRl).trans HXR.out
      have HXR3 := Lib.hid hx3
      have HXH3 := Lib.hid ((hb3.block H1 hHl).trans HXH.out)
      have HB3 : Hid (Below w.heap.size w w3) := HBW.out.trans (hb3.mono (by omega))
      have HOW3 := Lib.hid (HOW.out.next hb3)
      have hs3 := hb3.size
      have d2 := D2.out w3 HB3.out
      clear z0 z1 z2 f0 f1 f2 d0 d1 hb3 HI1 HXR HXH HBW HOW qa1 qa2 qa3
      have z0 : w3.cell? ⟨w.heap.size, 0, none⟩ = some (.string ⟨#[]⟩) := block_cell hx3 0
      have z1 : w3.cell? ⟨w.heap.size, 1, none⟩ = some (.int .i64 0) := block_cell hx3 1
      have z2 : w3.cell? ⟨w.heap.size, 2, none⟩ = some (.slice none 0 0) := block_cell hx3 2
      have f0 := block_free hx3 0; have f1 := block_free hx3 1; have f2 := block_free hx3 2
      clear hx3
      by_cases he1 : er1 = 0
      case neg =>
        have HR : Hid (zoneBad fs = true) := by show _ = _; rw [HZB2.out]; exact shiftsBad_hit hlt (by rw [HSB2.out, decide_eq_true he1]; rfl)
        have he1' : (er1 != 0) = true := by simpa using he1
        clear he1
        go_wp2_with fail
        refine bodyPost_ret (v := .tuple #[.agg #[.string ⟨#[]⟩, .int .i64 0, .slice none 0 0], .bool false]) (by simp [results, Tryz.results58, go_sem, z0, z1, z2]) rfl ?_
        exact HBAD.out _ HR.out (((HB3.out.setCell (Nat.le_refl _) _).setCell (Nat.le_refl _) _).setCell (Nat.le_refl _) _)
      subst he1
      go_wp2_with fail
      refine (HD3.out w3 HB3.out).mono ?_
      rintro e w4 ⟨rfl, hb4⟩
      have hx4 := (hb4.block w.heap.size (by omega)).trans HXR3.out
      have HXR4 := Lib.hid hx4
      have hxh4 := (hb4.block H1 (by omega)).trans HXH3.out
      have HXH4 := Lib.hid hxh4
      have HB4 : Hid (Below w.heap.size w w4) := HB3.out.trans (hb4.mono (by omega))
      have HOW4 := Lib.hid (HOW3.out.next hb4)
      have hs4 := hb4.size
      clear z0 z1 z2 f0 f1 f2 d2 hb4 HXR3 HXH3 HB3 HOW3 HD3
      have z0 : w4.cell? ⟨w.heap.size, 0, none⟩ = some (.string ⟨#[]⟩) := block_cell hx4 0
      have z1 : w4.cell? ⟨w.heap.size, 1, none⟩ = some (.int .i64 0) := block_cell hx4 1
      have z2 : w4.cell? ⟨w.heap.size, 2, none⟩ = some (.slice none 0 0) := block_cell hx4 2
      have f0 := block_free hx4 0; have f1 := block_free hx4 1; have f2 := block_free hx4 2
      clear hx4
      by_cases he2 : er2 = 0
      case neg =>
        have HR : Hid (zoneBad fs = true) := by show _ = _; rw [HZB2.out]; exact shiftsBad_hit hlt (by rw [HSB2.out, decide_eq_true he2]; simp)
        have he2' : (er2 != 0) = true := by simpa using he2
        clear he2 hxh4
        go_wp2_with fail
        refine bodyPost_ret (v := .tuple #[.agg #[.string ⟨#[]⟩, .int .i64 0, .slice none 0 0], .bool false]) (by simp [results, Tryz.results58, go_sem, z0, z1, z2]) rfl ?_
        exact HBAD.out _ HR.out (((HB4.out.setCell (Nat.le_refl _) _).setCell (Nat.le_refl _) _).setCell (Nat.le_refl _) _)
      subst he2
      have HSB5 : Hid (shiftsBad fs (k + 1) = false) := by show _ = _; rw [HSS.out, HSB2.out]; simp
      have y2 : w4.cell? ⟨H1, 2, none⟩ = some v := block_cell hxh4 2
      have g2' := block_free hxh4 2
      have hl4 : (shiftsF fs k).length ≤ 100000 := by rw [HLEN.out]; omega
      have hbl : Below w4.heap.size w4 (w4.alloc (.cells #[.int .i64 x1, .int .i64 x2] 64)) := (Below.refl _ _).alloc (Nat.le_refl _) _
      have HOA := Lib.hid (HOW4.out.alloc (.cells #[.int .i64 x1, .int .i64 x2] 64))
      have HOL := Lib.hid HOW4.out.lt
      have HBL := Lib.hid hbl
      obtain ⟨As, cs, hvs, -⟩ := HOW4.out.sl
      have HVS := Lib.hid hvs
      clear z0 z1 z2 f0 f1 f2 hxh4 hbl HSS HSB2 hvs HSB
      go_wp2_with (at_builtin; refine wpList_push (t := Ty.shift) rfl _ _ _ rfl 16 elem_shift rfl HOA.out w4.heap.size ⟨x1, x2⟩ (fun _ => False) rfl ⟨_, rfl, At.new w4 #[.int .i64 x1, .int .i64 x2] _⟩ (fun _ h => h.elim) (by omega) (by decide) (by simp; omega) ?_)
      intro v6 w6 hown6 hgr6
      have hz4 : (w4.alloc (.cells #[.int .i64 x1, .int .i64 x2] 64)).heap.size = w4.heap.size + 1 := by simp
      have hk6 : ∀ b, b ≤ H1 → w6.heap[b]? = w4.heap[b]? := fun b hb => by
        rw [hgr6.block b (by omega) (fun e => by have := HOL.out b e.symm; omega)]
        exact HBL.out.block b (by omega)
      have hxh6 := (hk6 H1 (Nat.le_refl _)).trans HXH4.out
      have f6 := block_free hxh6 2
      have y6 : w6.cell? ⟨H1, 2, none⟩ = some v := block_cell hxh6 2
      have HXH7 : Hid ((w6.setCell ⟨H1, 2, none⟩ v6).heap[H1]? = some (.cells #[.string (fld fs 1), .int .i64 off, v6] 51 (0, 0))) := heap_setCell_same _ _ _ _ _ _ hxh6
      have HXR7 : Hid ((w6.setCell ⟨H1, 2, none⟩ v6).heap[w.heap.size]? = some (.cells #[.string ⟨#[]⟩, .int .i64 0, .slice none 0 0] 51 (0, 0))) := (heap_setCell_other _ _ _ _ (by show w.heap.size ≠ H1; omega)).trans ((hk6 _ (by omega)).trans HXR4.out)
      have HOW7 : Hid (Own Ty.shift 64 (w6.setCell ⟨H1, 2, none⟩ v6) (H1 + 1) v6 (shiftsF fs (k + 1))) := by
        show Own _ _ _ _ _ _
        rw [HSF.out]
        exact hown6.flatT flat_shift fun b hb => heap_setCell_other _ _ _ _ (by show b ≠ H1; have := hown6.lt b hb; omega)
      have HB7 : Hid (Below w.heap.size w (w6.setCell ⟨H1, 2, none⟩ v6)) := ((HB4.out.trans (HBL.out.mono (by omega))).grown hgr6 (by omega) (fun q hq => by have := HOL.out q hq; omega)).setCell (by show w.heap.size ≤ H1; omega) _
      have hh6 := hgr6.size
      obtain ⟨A6, c6, e6, -⟩ := hown6.sl
      subst e6
      generalize (shiftsF fs k ++ [(⟨x1, x2⟩ : GShift)]).length = nl at *
      clear hgr6 hown6 hk6 hxh6 HXH4 HXR4 HOW4 HB4 HBL HOL HOA y2 g2' HVS
      go_wp2_with fail
      refine ⟨⟨k + 1, .slice A6 nl c6, _, _, by omega, congrArg (fun q => Value.slice _ q (c' - 3)) (show L - 3 = 3 * (m - (k + 1)) by have := HLK.out; omega), Lib.hid fun h => ?_, by have := HLK.out; omega, by omega, HSB5, HXH7, HOW7, HXR7, HB7⟩, ?_⟩
      · have := HLK.out
        rw [if_neg (by omega)]
        congr 1
      · show L - 3 < L
        omega
    · obtain rfl : k = m := by omega
      have l0 : ¬ (0 : Int) < ((3 * (k - k) : Nat) : Int) := by omega
      have hsl : 3 * (k - k) = 0 := by omega
      rw [hsl] at l0 ⊢
      have hxh := HXH.out
      have y0 : wr.cell? ⟨H1, 0, none⟩ = some (.string (fld fs 1)) := block_cell hxh 0
      have y1 : wr.cell? ⟨H1, 1, none⟩ = some (.int .i64 off) := block_cell hxh 1
      have y2 : wr.cell? ⟨H1, 2, none⟩ = some v := block_cell hxh 2
      have HRES : Hid (∀ V, (∀ b, H1 ≤ b → V.heap[b]? = wr.heap[b]?) → Below w.heap.size w V → ZPost fs w (.returned (.tuple #[.agg #[.string (fld fs 1), .int .i64 off, v], .bool true])) V) := fun V hV hb => by
        have hz0 : zoneBad fs = false := by rw [HZB2.out]; exact HSB.out
        refine ⟨zoneF fs, v, ?_, ?_, hb, fun _ => rfl⟩
        · rw [hz0, HZF.out]; rfl
        · rw [HZF.out]
          exact (HOW.out.flatT flat_shift fun b hb => hV b (by have := HOW.out.lt b hb; omega)).lower (by omega)
      clear hxh hlt hsl
      obtain ⟨Av, cv, rfl, -⟩ := HOW.out.sl
      go_wp2_with fail
      refine bodyPost_ret (v := .tuple #[.agg #[.string (fld fs 1), .int .i64 off, .slice Av (shiftsF fs k).length cv], .bool true]) (by simp [results, Tryz.results58, go_sem, z0, z1, z2]) rfl ?_
      refine HRES.out _ (fun b hb => ?_) (((HBW.out.setCell (Nat.le_refl _) _).setCell (Nat.le_refl _) _).setCell (Nat.le_refl _) _)
      rw [heap_setCell_other _ _ _ _ (by show b ≠ w.heap.size; omega), heap_setCell_other _ _ _ _ (by show b ≠ w.heap.size; omega), heap_setCell_other _ _ _ _ (by show b ≠ w.heap.size; omega)]
end Go.Proofs.YtldeoaddogifpaaGreatDoor
/-
  Contract of timetable.parseFlight.
  Condition: the fields read as a list of strings of no more than 20000 bytes, no more than 100000 of them.
-/
namespace Go.Proofs.YtldeoaddogifpaaGreatDoor
set_option linter.unusedSimpArgs false
set_option linter.unusedVariables false
open Go.RowKit

def FPost (fs : List ByteArray) (w : World) (e : Ending) (w' : World) : Prop := ∃ x : GFlight, e = .returned (.tuple #[.agg #[.string x.number, .string x.src, .string x.dst, .int .i64 x.dep, .int .i64 x.arr, .string x.kind, .int .i64 x.n0, .int .i64 x.n1, .int .i64 x.n2], .bool (!flightBad fs)]) ∧
  Below w.heap.size w w' ∧ (flightBad fs = false → x = flightF fs)
theorem fbad {fs : List ByteArray} {w w' : World} (h : flightBad fs = true) (hb : Below w.heap.size w w') : FPost fs w (.returned (.tuple #[.agg #[.string ⟨#[]⟩, .string ⟨#[]⟩, .string ⟨#[]⟩, .int .i64 0, .int .i64 0, .string ⟨#[]⟩, .int .i64 0, .int .i64 0, .int .i64 0], .bool false])) w' :=
  ⟨noFlight, by rw [h]; rfl, hb, fun h2 => by rw [h] at h2; cases h2⟩
/-- The needs' fields, j of them. -/
def needsBad (fs : List ByteArray) (j : Nat) : Bool := (List.range j).any fun k => decide ((parseB (fld fs (9 + k))).2 ≠ 0)
theorem needsBad_succ (fs : List ByteArray) (j : Nat) : needsBad fs (j + 1) = (needsBad fs j || decide ((parseB (fld fs (9 + j))).2 ≠ 0)) := by
  unfold needsBad
  rw [List.range_succ, List.any_append]
  simp
def needsF (fs : List ByteArray) : Nat → Int × Int × Int
  | 0 => (0, 0, 0)
  | j + 1 => need3 (parseB (fld fs (9 + j))).1 (needsF fs j) j
theorem flightBad_eq (fs : List ByteArray) : flightBad fs = (decide (fs.length ≠ 12) || decide ((insF fs 5).2 ≠ 0) || decide ((insF fs 7).2 ≠ 0) || needsBad fs 3) := by
  unfold flightBad needsBad
  simp only [List.range_succ, List.range_zero, List.nil_append, List.any_append, List.any_cons, List.any_nil, Bool.or_false, Bool.or_assoc]
theorem needsBad_hit {fs : List ByteArray} {j n : Nat} (hj : j < n) (h : (parseB (fld fs (9 + j))).2 ≠ 0) : needsBad fs n = true := by
  unfold needsBad
  rw [List.any_eq_true]
  exact ⟨j, List.mem_range.2 hj, decide_eq_true h⟩
set_option maxRecDepth 100000 in
set_option maxHeartbeats 6400000 in
theorem parseFlight_any (fs : List ByteArray) (A : Option Addr) (n c : Nat) (w : World) (hf : Sl Ty.str w (all_ w) A n c fs) (h1 : 1 ≤ fs.length) (hl : fs.length ≤ 100000) (hz : ∀ x ∈ fs, x.size ≤ 20000) :
    Calls Tryz.prog 59 #[.slice A n c] w (FPost fs w) := by
  have hn := hf.len
  have hnc := hf.2.1
  have hcm := hf.2.2.1
  unfold maxLen at hcm
  obtain ⟨fb, o, rfl, hSb, hcells⟩ := fld_cells hf (by omega)
  have hfb : fb < w.heap.size := hSb
  subst hn
  have ha := (Below.refl w.heap.size w).alloc (Nat.le_refl _) (.cells #[.string ⟨#[]⟩, .string ⟨#[]⟩, .string ⟨#[]⟩, .int .i64 0, .int .i64 0, .string ⟨#[]⟩, .int .i64 0, .int .i64 0, .int .i64 0] 47)
  have hx := heap_alloc_new w (.cells #[.string ⟨#[]⟩, .string ⟨#[]⟩, .string ⟨#[]⟩, .int .i64 0, .int .i64 0, .string ⟨#[]⟩, .int .i64 0, .int .i64 0, .int .i64 0] 47)
  have hsz0 : (w.alloc (.cells #[.string ⟨#[]⟩, .string ⟨#[]⟩, .string ⟨#[]⟩, .int .i64 0, .int .i64 0, .string ⟨#[]⟩, .int .i64 0, .int .i64 0, .int .i64 0] 47)).heap.size = w.heap.size + 1 := by simp
  have HA := Lib.hid ha; have HX := Lib.hid hx; have HS0 := Lib.hid hsz0
  have HC : Hid (∀ V : World, Below w.heap.size w V → ∀ k, k < fs.length → V.cell? ⟨fb, o + k, none⟩ = some (.string (fld fs k))) := fun V hV k hk => (World.cell?_of_block (a := ⟨fb, o + k, none⟩) (hV.block fb hfb)).trans (hcells k hk)
  have HZ := Lib.hid (fld_le (m := 20000) hz)
  have HBAD : Hid (∀ V, flightBad fs = true → Below w.heap.size w V → FPost fs w (.returned (.tuple #[.agg #[.string ⟨#[]⟩, .string ⟨#[]⟩, .string ⟨#[]⟩, .int .i64 0, .int .i64 0, .string ⟨#[]⟩, .int .i64 0, .int .i64 0, .int .i64 0], .bool false])) V) := fun V h hb => fbad h hb
  clear hf hSb hcells ha hx hsz0 hz
  have HZB := Lib.hid (flightBad_eq fs)
  obtain ⟨W, hW⟩ : ∃ W, W = w.alloc (.cells #[.string ⟨#[]⟩, .string ⟨#[]⟩, .string ⟨#[]⟩, .int .i64 0, .int .i64 0, .string ⟨#[]⟩, .int .i64 0, .int .i64 0, .int .i64 0] 47) := ⟨_, rfl⟩
  have HW0 := Lib.hid hW
  rw [← hW] at HA HX HS0
  have z0 : W.cell? ⟨w.heap.size, 0, none⟩ = some (.string ⟨#[]⟩) := block_cell HX.out 0
  have z1 : W.cell? ⟨w.heap.size, 1, none⟩ = some (.string ⟨#[]⟩) := block_cell HX.out 1
  have z2 : W.cell? ⟨w.heap.size, 2, none⟩ = some (.string ⟨#[]⟩) := block_cell HX.out 2
  have z3 : W.cell? ⟨w.heap.size, 3, none⟩ = some (.int .i64 0) := block_cell HX.out 3
  have z4 : W.cell? ⟨w.heap.size, 4, none⟩ = some (.int .i64 0) := block_cell HX.out 4
  have z5 : W.cell? ⟨w.heap.size, 5, none⟩ = some (.string ⟨#[]⟩) := block_cell HX.out 5
  have z6 : W.cell? ⟨w.heap.size, 6, none⟩ = some (.int .i64 0) := block_cell HX.out 6
  have z7 : W.cell? ⟨w.heap.size, 7, none⟩ = some (.int .i64 0) := block_cell HX.out 7
  have z8 : W.cell? ⟨w.heap.size, 8, none⟩ = some (.int .i64 0) := block_cell HX.out 8
  have f0 := block_free HX.out 0; have f1 := block_free HX.out 1; have f2 := block_free HX.out 2; have f3 := block_free HX.out 3; have f4 := block_free HX.out 4; have f5 := block_free HX.out 5; have f6 := block_free HX.out 6; have f7 := block_free HX.out 7; have f8 := block_free HX.out 8
  clear hW
  by_cases h3 : fs.length = 12
  case neg =>
    have HR : Hid (flightBad fs = true) := by show _ = _; rw [HZB.out, decide_eq_true h3]; rfl
    have h3' : ((fs.length : Int) != 12) = true := by simp; omega
    clear HZB h3
    go_enter Tryz.func59, Tryz.ntmps59
    go_upto_region 1 with (fail)
    rw [← HW0.out]
    go_wp2_with fail
    refine bodyPost_ret (v := .tuple #[.agg #[.string ⟨#[]⟩, .string ⟨#[]⟩, .string ⟨#[]⟩, .int .i64 0, .int .i64 0, .string ⟨#[]⟩, .int .i64 0, .int .i64 0, .int .i64 0], .bool false]) (by simp [results, Tryz.results59, go_sem, z0, z1, z2, z3, z4, z5, z6, z7, z8]) rfl ?_
    exact HBAD.out _ HR.out (((((((((HA.out.setCell (Nat.le_refl _) _).setCell (Nat.le_refl _) _).setCell (Nat.le_refl _) _).setCell (Nat.le_refl _) _).setCell (Nat.le_refl _) _).setCell (Nat.le_refl _) _).setCell (Nat.le_refl _) _).setCell (Nat.le_refl _) _).setCell (Nat.le_refl _) _)
  have h3' : ((fs.length : Int) != 12) = false := by simp; omega
  rw [decide_eq_false (by simpa using h3)] at HZB
  have HL12 := Lib.hid h3
  have l1 : (1 : Int) < (fs.length : Int) := by omega
  have l2 : (2 : Int) < (fs.length : Int) := by omega
  have l3 : (3 : Int) < (fs.length : Int) := by omega
  have l4 : (4 : Int) < (fs.length : Int) := by omega
  have l5 : (5 : Int) < (fs.length : Int) := by omega
  have l6 : (6 : Int) < (fs.length : Int) := by omega
  have l7 : (7 : Int) < (fs.length : Int) := by omega
  have l8 : (8 : Int) < (fs.length : Int) := by omega
  have c1x := HC.out W HA.out 1 (by omega); have c2x := HC.out W HA.out 2 (by omega); have c3x := HC.out W HA.out 3 (by omega); have c4x := HC.out W HA.out 4 (by omega)
  obtain ⟨za, qa1, qa2, qa3⟩ := size_sp9 (HZ.out 5) (HZ.out 6)
  obtain ⟨zb, qb1, qb2, qb3⟩ := size_sp9 (HZ.out 7) (HZ.out 8)
  have HI1 : Hid (∀ V : World, Calls Tryz.prog 97 #[.string (fld fs 5 ++ spS ++ fld fs 6)] V (NumPost (insF fs 5) V)) := fun V => parseInstant_any _ V za
  have HI2 : Hid (∀ V : World, Calls Tryz.prog 97 #[.string (fld fs 7 ++ spS ++ fld fs 8)] V (NumPost (insF fs 7) V)) := fun V => parseInstant_any _ V zb
  have HFF : Hid (flightF fs = ⟨fld fs 1, fld fs 2, fld fs 3, (insF fs 5).1, (insF fs 7).1, fld fs 4, (needsF fs 3).1, (needsF fs 3).2.1, (needsF fs 3).2.2⟩) := rfl
  unfold NumPost at HI1 HI2
  generalize insF fs 5 = a1 at *
  generalize insF fs 7 = a2 at *
  obtain ⟨x1, er1⟩ := a1
  obtain ⟨x2, er2⟩ := a2
  simp only at HI1 HI2 HFF HZB
  clear za zb h3
  have hH0 : w.heap.size < W.heap.size := by have := HS0.out; omega
  go_enter Tryz.func59, Tryz.ntmps59
  go_upto_region 1 with (fail)
  rw [← HW0.out]
  go_upto_region 3 with (fail)
  obtain ⟨H0, hH0e⟩ : ∃ x, x = W.heap.size := ⟨_, rfl⟩
  rw [← hH0e] at hH0
  go_cut [4] (fun v wx => ∃ H1, v = .pointer (some ⟨H1, 0, none⟩) ∧ H0 ≤ H1 ∧ wx.heap[H1]? = some (.cells (fCells (fld fs 1) (fld fs 2) (fld fs 3) 0 0 (fld fs 4) (0, 0, 0)) 47 (0, 0)) ∧ Below W.heap.size W wx)
  case first =>
    refine wp_region_facts 14 [15, 16, 17, 18, 19, 20, 21, 22, 23, 24, 25, 26, 27, 4] (fun i v x => (([(fun v _ => v = .slice (some ⟨fb, o, none⟩) fs.length c), (fun v _ => v = .pointer (some ⟨fb, o + 1, none⟩)), (fun v _ => v = .string (fld fs 1)), (fun v _ => v = .slice (some ⟨fb, o, none⟩) fs.length c), (fun v _ => v = .pointer (some ⟨fb, o + 2, none⟩)), (fun v _ => v = .string (fld fs 2)), (fun v _ => v = .slice (some ⟨fb, o, none⟩) fs.length c), (fun v _ => v = .pointer (some ⟨fb, o + 3, none⟩)), (fun v _ => v = .string (fld fs 3)), (fun v _ => v = .slice (some ⟨fb, o, none⟩) fs.length c), (fun v _ => v = .pointer (some ⟨fb, o + 4, none⟩)), (fun v _ => v = .string (fld fs 4)), (fun v _ => v = .agg #[.string (fld fs 1), .string (fld fs 2), .string (fld fs 3), .int .i64 0, .int .i64 0, .string (fld fs 4), .int .i64 0, .int .i64 0, .int .i64 0]), (fun v x => ∃ b, v = .pointer (some ⟨b, 0, none⟩) ∧ W.heap.size ≤ b ∧ x.heap[b]? = some (.cells #[.string ⟨#[]⟩, .string ⟨#[]⟩, .string ⟨#[]⟩, .int .i64 0, .int .i64 0, .string ⟨#[]⟩, .int .i64 0, .int .i64 0, .int .i64 0] 47 (0, 0)))] : List (Value → World → Prop)).getD i (fun _ _ => True)) v x) (by kernel_rfl) (by kernel_rfl) (by kernel_rfl) (by kernel_rfl) (by kernel_rfl) ?_ ?_ ?_
    · intro i v x x' h hx
      rcases Nat.lt_or_ge i 14 with hi | hi
      · have hi' : i = 0 ∨ i = 1 ∨ i = 2 ∨ i = 3 ∨ i = 4 ∨ i = 5 ∨ i = 6 ∨ i = 7 ∨ i = 8 ∨ i = 9 ∨ i = 10 ∨ i = 11 ∨ i = 12 ∨ i = 13 := by omega
        rcases hi' with rfl | rfl | rfl | rfl | rfl | rfl | rfl | rfl | rfl | rfl | rfl | rfl | rfl | rfl
        · exact h
        · exact h
        · exact h
        · exact h
        · exact h
        · exact h
        · exact h
        · exact h
        · exact h
        · exact h
        · exact h
        · exact h
        · exact h
        · exact let ⟨b, e, hl, hc⟩ := h; ⟨b, e, hl, (hx.block b (Array.getElem?_eq_some_iff.1 hc).1).trans hc⟩
      · rw [List.getD_eq_getElem?_getD, List.getElem?_eq_none (by simpa using hi)]; trivial
    · intro q o' hq ho a' w' hb' hout hpre K hK
      have hq' : q = 0 ∨ q = 1 ∨ q = 2 ∨ q = 3 ∨ q = 4 ∨ q = 5 ∨ q = 6 ∨ q = 7 ∨ q = 8 ∨ q = 9 ∨ q = 10 ∨ q = 11 ∨ q = 12 ∨ q = 13 := by omega
      rcases hq' with rfl | rfl | rfl | rfl | rfl | rfl | rfl | rfl | rfl | rfl | rfl | rfl | rfl | rfl
      · obtain rfl := Option.some.inj ho
        have e0 : a'.tmps[0]? = some (.slice (some ⟨fb, o, none⟩) fs.length c) := hout 0 (by decide)
        go_simp
        exact hK (.slice (some ⟨fb, o, none⟩) fs.length c) w' rfl (Below.refl _ _)
      · obtain rfl := Option.some.inj ho
        have p0 : a'.tmps.getD 15 undef = .slice (some ⟨fb, o, none⟩) fs.length c := hpre ⟨0, .data⟩ (by simp) 15 rfl
        simp only [Array.getD_eq_getD_getElem?] at p0
        go_simp
        exact hK (.pointer (some ⟨fb, o + 1, none⟩)) w' rfl (Below.refl _ _)
      · obtain rfl := Option.some.inj ho
        have p1 : a'.tmps.getD 16 undef = .pointer (some ⟨fb, o + 1, none⟩) := hpre ⟨1, .data⟩ (by simp) 16 rfl
        simp only [Array.getD_eq_getD_getElem?] at p1
        have c2 := cell_kept c1x hb'
        go_simp
        exact hK (.string (fld fs 1)) w' rfl (Below.refl _ _)
      · obtain rfl := Option.some.inj ho
        have e0 : a'.tmps[0]? = some (.slice (some ⟨fb, o, none⟩) fs.length c) := hout 0 (by decide)
        go_simp
        exact hK (.slice (some ⟨fb, o, none⟩) fs.length c) w' rfl (Below.refl _ _)
      · obtain rfl := Option.some.inj ho
        have p3 : a'.tmps.getD 18 undef = .slice (some ⟨fb, o, none⟩) fs.length c := hpre ⟨3, .data⟩ (by simp) 18 rfl
        simp only [Array.getD_eq_getD_getElem?] at p3
        go_simp
        exact hK (.pointer (some ⟨fb, o + 2, none⟩)) w' rfl (Below.refl _ _)
      · obtain rfl := Option.some.inj ho
        have p4 : a'.tmps.getD 19 undef = .pointer (some ⟨fb, o + 2, none⟩) := hpre ⟨4, .data⟩ (by simp) 19 rfl
        simp only [Array.getD_eq_getD_getElem?] at p4
        have c5 := cell_kept c2x hb'
        go_simp
        exact hK (.string (fld fs 2)) w' rfl (Below.refl _ _)
      · obtain rfl := Option.some.inj ho
        have e0 : a'.tmps[0]? = some (.slice (some ⟨fb, o, none⟩) fs.length c) := hout 0 (by decide)
        go_simp
        exact hK (.slice (some ⟨fb, o, none⟩) fs.length c) w' rfl (Below.refl _ _)
      · obtain rfl := Option.some.inj ho
        have p6 : a'.tmps.getD 21 undef = .slice (some ⟨fb, o, none⟩) fs.length c := hpre ⟨6, .data⟩ (by simp) 21 rfl
        simp only [Array.getD_eq_getD_getElem?] at p6
        go_simp
        exact hK (.pointer (some ⟨fb, o + 3, none⟩)) w' rfl (Below.refl _ _)
      · obtain rfl := Option.some.inj ho
        have p7 : a'.tmps.getD 22 undef = .pointer (some ⟨fb, o + 3, none⟩) := hpre ⟨7, .data⟩ (by simp) 22 rfl
        simp only [Array.getD_eq_getD_getElem?] at p7
        have c8 := cell_kept c3x hb'
        go_simp
        exact hK (.string (fld fs 3)) w' rfl (Below.refl _ _)
      · obtain rfl := Option.some.inj ho
        have e0 : a'.tmps[0]? = some (.slice (some ⟨fb, o, none⟩) fs.length c) := hout 0 (by decide)
        go_simp
        exact hK (.slice (some ⟨fb, o, none⟩) fs.length c) w' rfl (Below.refl _ _)
      · obtain rfl := Option.some.inj ho
        have p9 : a'.tmps.getD 24 undef = .slice (some ⟨fb, o, none⟩) fs.length c := hpre ⟨9, .data⟩ (by simp) 24 rfl
        simp only [Array.getD_eq_getD_getElem?] at p9
        go_simp
        exact hK (.pointer (some ⟨fb, o + 4, none⟩)) w' rfl (Below.refl _ _)
      · obtain rfl := Option.some.inj ho
        have p10 : a'.tmps.getD 25 undef = .pointer (some ⟨fb, o + 4, none⟩) := hpre ⟨10, .data⟩ (by simp) 25 rfl
        simp only [Array.getD_eq_getD_getElem?] at p10
        have c11 := cell_kept c4x hb'
        go_simp
        exact hK (.string (fld fs 4)) w' rfl (Below.refl _ _)
      · obtain rfl := Option.some.inj ho
        have p2 : a'.tmps.getD 17 undef = .string (fld fs 1) := hpre ⟨2, .data⟩ (by simp) 17 rfl
        simp only [Array.getD_eq_getD_getElem?] at p2
        have p5 : a'.tmps.getD 20 undef = .string (fld fs 2) := hpre ⟨5, .data⟩ (by simp) 20 rfl
        simp only [Array.getD_eq_getD_getElem?] at p5
        have p8 : a'.tmps.getD 23 undef = .string (fld fs 3) := hpre ⟨8, .data⟩ (by simp) 23 rfl
        simp only [Array.getD_eq_getD_getElem?] at p8
        have p11 : a'.tmps.getD 26 undef = .string (fld fs 4) := hpre ⟨11, .data⟩ (by simp) 26 rfl
        simp only [Array.getD_eq_getD_getElem?] at p11
        go_simp
        exact hK (.agg #[.string (fld fs 1), .string (fld fs 2), .string (fld fs 3), .int .i64 0, .int .i64 0, .string (fld fs 4), .int .i64 0, .int .i64 0, .int .i64 0]) w' rfl (Below.refl _ _)
      · obtain rfl := Option.some.inj ho
        go_simp
        exact hK _ _ ⟨w'.heap.size, rfl, hb'.size, heap_alloc_new _ _⟩ ((Below.refl _ _).alloc (Nat.le_refl _) _)
    · intro us w' hb' hfacts
      have hbi : us 12 = .agg #[.string (fld fs 1), .string (fld fs 2), .string (fld fs 3), .int .i64 0, .int .i64 0, .string (fld fs 4), .int .i64 0, .int .i64 0, .int .i64 0] := hfacts 12 (by decide)
      obtain ⟨H1, hxa, hH1, hbox⟩ := hfacts 13 (by decide)
      simp only [putL, Act.put, List.setIfInBounds_toArray, List.set_cons_zero, List.set_cons_succ]
      generalize us 12 = x12 at *
      generalize us 13 = x13 at *
      subst hbi
      simp only [List.drop_succ_cons, List.drop_zero]
      clear hfacts
      subst hxa
      have y0 : w'.cell? ⟨H1, 0, none⟩ = some (.string ⟨#[]⟩) := block_cell hbox 0
      have y1 : w'.cell? ⟨H1, 1, none⟩ = some (.string ⟨#[]⟩) := block_cell hbox 1
      have y2 : w'.cell? ⟨H1, 2, none⟩ = some (.string ⟨#[]⟩) := block_cell hbox 2
      have y3 : w'.cell? ⟨H1, 3, none⟩ = some (.int .i64 0) := block_cell hbox 3
      have y4 : w'.cell? ⟨H1, 4, none⟩ = some (.int .i64 0) := block_cell hbox 4
      have y5 : w'.cell? ⟨H1, 5, none⟩ = some (.string ⟨#[]⟩) := block_cell hbox 5
      have y6 : w'.cell? ⟨H1, 6, none⟩ = some (.int .i64 0) := block_cell hbox 6
      have y7 : w'.cell? ⟨H1, 7, none⟩ = some (.int .i64 0) := block_cell hbox 7
      have y8 : w'.cell? ⟨H1, 8, none⟩ = some (.int .i64 0) := block_cell hbox 8
      have g0 := block_free hbox 0; have g1 := block_free hbox 1; have g2 := block_free hbox 2; have g3 := block_free hbox 3; have g4 := block_free hbox 4; have g5 := block_free hbox 5; have g6 := block_free hbox 6; have g7 := block_free hbox 7; have g8 := block_free hbox 8
      have s0 : _ = some (Obj.cells #[.string (fld fs 1), .string ⟨#[]⟩, .string ⟨#[]⟩, .int .i64 0, .int .i64 0, .string ⟨#[]⟩, .int .i64 0, .int .i64 0, .int .i64 0] 47 (0, 0)) := heap_setCell_same w' H1 0 _ _ (.string (fld fs 1)) hbox
      have s1 : _ = some (Obj.cells #[.string (fld fs 1), .string (fld fs 2), .string ⟨#[]⟩, .int .i64 0, .int .i64 0, .string ⟨#[]⟩, .int .i64 0, .int .i64 0, .int .i64 0] 47 (0, 0)) := heap_setCell_same _ H1 1 _ _ (.string (fld fs 2)) s0
      have s2 : _ = some (Obj.cells #[.string (fld fs 1), .string (fld fs 2), .string (fld fs 3), .int .i64 0, .int .i64 0, .string ⟨#[]⟩, .int .i64 0, .int .i64 0, .int .i64 0] 47 (0, 0)) := heap_setCell_same _ H1 2 _ _ (.string (fld fs 3)) s1
      have s3 : _ = some (Obj.cells #[.string (fld fs 1), .string (fld fs 2), .string (fld fs 3), .int .i64 0, .int .i64 0, .string ⟨#[]⟩, .int .i64 0, .int .i64 0, .int .i64 0] 47 (0, 0)) := heap_setCell_same _ H1 3 _ _ (.int .i64 0) s2
      have s4 : _ = some (Obj.cells #[.string (fld fs 1), .string (fld fs 2), .string (fld fs 3), .int .i64 0, .int .i64 0, .string ⟨#[]⟩, .int .i64 0, .int .i64 0, .int .i64 0] 47 (0, 0)) := heap_setCell_same _ H1 4 _ _ (.int .i64 0) s3
      have s5 : _ = some (Obj.cells #[.string (fld fs 1), .string (fld fs 2), .string (fld fs 3), .int .i64 0, .int .i64 0, .string (fld fs 4), .int .i64 0, .int .i64 0, .int .i64 0] 47 (0, 0)) := heap_setCell_same _ H1 5 _ _ (.string (fld fs 4)) s4
      have s6 : _ = some (Obj.cells #[.string (fld fs 1), .string (fld fs 2), .string (fld fs 3), .int .i64 0, .int .i64 0, .string (fld fs 4), .int .i64 0, .int .i64 0, .int .i64 0] 47 (0, 0)) := heap_setCell_same _ H1 6 _ _ (.int .i64 0) s5
      have s7 : _ = some (Obj.cells #[.string (fld fs 1), .string (fld fs 2), .string (fld fs 3), .int .i64 0, .int .i64 0, .string (fld fs 4), .int .i64 0, .int .i64 0, .int .i64 0] 47 (0, 0)) := heap_setCell_same _ H1 7 _ _ (.int .i64 0) s6
      have s8 : _ = some (Obj.cells #[.string (fld fs 1), .string (fld fs 2), .string (fld fs 3), .int .i64 0, .int .i64 0, .string (fld fs 4), .int .i64 0, .int .i64 0, .int .i64 0] 47 (0, 0)) := heap_setCell_same _ H1 8 _ _ (.int .i64 0) s7
      have hbk : ∀ k, W.heap.size ≤ (⟨H1, k, none⟩ : Addr).block := fun _ => hH1
      have HB9 := Lib.hid (((((((((hb'.setCell (hbk 0) (.string (fld fs 1))).setCell (hbk 1) (.string (fld fs 2))).setCell (hbk 2) (.string (fld fs 3))).setCell (hbk 3) (.int .i64 0)).setCell (hbk 4) (.int .i64 0)).setCell (hbk 5) (.string (fld fs 4))).setCell (hbk 6) (.int .i64 0)).setCell (hbk 7) (.int .i64 0)).setCell (hbk 8) (.int .i64 0))
      have HS9 := Lib.hid s8
      clear hb' hbox s0 s1 s2 s3 s4 s5 s6 s7 s8
      go_wp2_with fail
      go_meet
      refine ⟨H1, rfl, by omega, ?_, ?_⟩
      · exact HS9.out
      · exact HB9.out
  case rest =>
  obtain ⟨H1, rfl, hH1, hbox, hbw⟩ := hcut
  obtain ⟨w1, rfl⟩ : ∃ x : World, x = wc := ⟨_, rfl⟩
  have hxr := (hbw.block w.heap.size (by omega)).trans HX.out
  have HX1 := Lib.hid hxr; have HF1 := Lib.hid hbox
  have HB1 : Hid (Below w.heap.size w w1) := HA.out.trans (hbw.mono (by omega))
  clear z0 f0 z1 f1 z2 f2 z3 f3 z4 f4 z5 f5 z6 f6 z7 f7 z8 f8
  clear c1x c2x c3x c4x hbw
  have c5 := HC.out w1 HB1.out 5 (by have := HL12.out; omega); have c6 := HC.out w1 HB1.out 6 (by have := HL12.out; omega)
  have hHl1 : H1 < w1.heap.size := (Array.getElem?_eq_some_iff.1 hbox).1
  clear hbox hxr
  go_upto_region 4 with (fail)
  go_cut [5, 6] (fun a b wx => a = .int .i64 x1 ∧ b = .int .i64 er1 ∧ Below w1.heap.size w1 wx)
  case first =>
    go_region_law (first
      | (go_simp; go_at_call 97; refine (HI1.out _).mono ?_; rintro e w3 ⟨rfl, hb3⟩)
      | fail)
    all_goals
      go_wp2_with fail
      go_meet
      exact ⟨rfl, rfl, ⟨hb3.os, hb3.tape, hb3.output, hb3.size, hb3.block⟩⟩
  case rest =>
  obtain ⟨rfl, rfl, hb3⟩ := hcut
  obtain ⟨w2, rfl⟩ : ∃ x : World, x = wc := ⟨_, rfl⟩
  have hxr := (hb3.block w.heap.size (by omega)).trans HX1.out
  have HX2 := Lib.hid hxr
  have HF2 := Lib.hid ((hb3.block H1 hHl1).trans HF1.out)
  have HB2 : Hid (Below w.heap.size w w2) := HB1.out.trans (hb3.mono (by omega))
  have hs2 := hb3.size
  clear c5 c6 hb3 HX1 HF1 HB1 HI1 qa1 qa2 qa3
  have z0 : w2.cell? ⟨w.heap.size, 0, none⟩ = some (.string ⟨#[]⟩) := block_cell hxr 0
  have z1 : w2.cell? ⟨w.heap.size, 1, none⟩ = some (.string ⟨#[]⟩) := block_cell hxr 1
  have z2 : w2.cell? ⟨w.heap.size, 2, none⟩ = some (.string ⟨#[]⟩) := block_cell hxr 2
  have z3 : w2.cell? ⟨w.heap.size, 3, none⟩ = some (.int .i64 0) := block_cell hxr 3
  have z4 : w2.cell? ⟨w.heap.size, 4, none⟩ = some (.int .i64 0) := block_cell hxr 4
  have z5 : w2.cell? ⟨w.heap.size, 5, none⟩ = some (.string ⟨#[]⟩) := block_cell hxr 5
  have z6 : w2.cell? ⟨w.heap.size, 6, none⟩ = some (.int .i64 0) := block_cell hxr 6
  have z7 : w2.cell? ⟨w.heap.size, 7, none⟩ = some (.int .i64 0) := block_cell hxr 7
  have z8 : w2.cell? ⟨w.heap.size, 8, none⟩ = some (.int .i64 0) := block_cell hxr 8
  have f0 := block_free hxr 0; have f1 := block_free hxr 1; have f2 := block_free hxr 2; have f3 := block_free hxr 3; have f4 := block_free hxr 4; have f5 := block_free hxr 5; have f6 := block_free hxr 6; have f7 := block_free hxr 7; have f8 := block_free hxr 8
  clear hxr
  by_cases he1 : er1 = 0
  case neg =>
    have HR : Hid (flightBad fs = true) := by show _ = _; rw [HZB.out, decide_eq_true he1]; simp
    have he1' : (er1 != 0) = true := by simpa using he1
    clear he1
    go_wp2_with fail
    refine bodyPost_ret (v := .tuple #[.agg #[.string ⟨#[]⟩, .string ⟨#[]⟩, .string ⟨#[]⟩, .int .i64 0, .int .i64 0, .string ⟨#[]⟩, .int .i64 0, .int .i64 0, .int .i64 0], .bool false]) (by simp [results, Tryz.results59, go_sem, z0, z1, z2, z3, z4, z5, z6, z7, z8]) rfl ?_
    exact HBAD.out _ HR.out (((((((((HB2.out.setCell (Nat.le_refl _) _).setCell (Nat.le_refl _) _).setCell (Nat.le_refl _) _).setCell (Nat.le_refl _) _).setCell (Nat.le_refl _) _).setCell (Nat.le_refl _) _).setCell (Nat.le_refl _) _).setCell (Nat.le_refl _) _).setCell (Nat.le_refl _) _)
  subst he1
  clear z0 f0 z1 f1 z2 f2 z3 f3 z4 f4 z5 f5 z6 f6 z7 f7 z8 f8
  have c7 := HC.out w2 HB2.out 7 (by have := HL12.out; omega); have c8 := HC.out w2 HB2.out 8 (by have := HL12.out; omega)
  go_upto_region 7 with (fail)
  go_cut [7, 6] (fun a b wx => a = .int .i64 x2 ∧ b = .int .i64 er2 ∧ Below w2.heap.size w2 wx)
  case first =>
    go_region_law (first
      | (go_simp; go_at_call 97; refine (HI2.out _).mono ?_; rintro e w3 ⟨rfl, hb3⟩)
      | fail)
    all_goals
      go_wp2_with fail
      go_meet
      exact ⟨rfl, rfl, ⟨hb3.os, hb3.tape, hb3.output, hb3.size, hb3.block⟩⟩
  case rest =>
  obtain ⟨rfl, rfl, hb3⟩ := hcut
  obtain ⟨w3, rfl⟩ : ∃ x : World, x = wc := ⟨_, rfl⟩
  have hxr := (hb3.block w.heap.size (by omega)).trans HX2.out
  have HX3 := Lib.hid hxr
  have hf3 := (hb3.block H1 (by omega)).trans HF2.out
  have HF3 := Lib.hid hf3
  have HB3 : Hid (Below w.heap.size w w3) := HB2.out.trans (hb3.mono (by omega))
  have hs3 := hb3.size
  clear c7 c8 hb3 HX2 HF2 HB2 HI2 qb1 qb2 qb3
  have z0 : w3.cell? ⟨w.heap.size, 0, none⟩ = some (.string ⟨#[]⟩) := block_cell hxr 0
  have z1 : w3.cell? ⟨w.heap.size, 1, none⟩ = some (.string ⟨#[]⟩) := block_cell hxr 1
  have z2 : w3.cell? ⟨w.heap.size, 2, none⟩ = some (.string ⟨#[]⟩) := block_cell hxr 2
  have z3 : w3.cell? ⟨w.heap.size, 3, none⟩ = some (.int .i64 0) := block_cell hxr 3
  have z4 : w3.cell? ⟨w.heap.size, 4, none⟩ = some (.int .i64 0) := block_cell hxr 4
  have z5 : w3.cell? ⟨w.heap.size, 5, none⟩ = some (.string ⟨#[]⟩) := block_cell hxr 5
  have z6 : w3.cell? ⟨w.heap.size, 6, none⟩ = some (.int .i64 0) := block_cell hxr 6
  have z7 : w3.cell? ⟨w.heap.size, 7, none⟩ = some (.int .i64 0) := block_cell hxr 7
  have z8 : w3.cell? ⟨w.heap.size, 8, none⟩ = some (.int .i64 0) := block_cell hxr 8
  have f0 := block_free hxr 0; have f1 := block_free hxr 1; have f2 := block_free hxr 2; have f3 := block_free hxr 3; have f4 := block_free hxr 4; have f5 := block_free hxr 5; have f6 := block_free hxr 6; have f7 := block_free hxr 7; have f8 := block_free hxr 8
  clear hxr
  by_cases he2 : er2 = 0
  case neg =>
    have HR : Hid (flightBad fs = true) := by show _ = _; rw [HZB.out, decide_eq_true he2]; simp
    have he2' : (er2 != 0) = true := by simpa using he2
    clear he2 hf3
    go_wp2_with fail
    refine bodyPost_ret (v := .tuple #[.agg #[.string ⟨#[]⟩, .string ⟨#[]⟩, .string ⟨#[]⟩, .int .i64 0, .int .i64 0, .string ⟨#[]⟩, .int .i64 0, .int .i64 0, .int .i64 0], .bool false]) (by simp [results, Tryz.results59, go_sem, z0, z1, z2, z3, z4, z5, z6, z7, z8]) rfl ?_
    exact HBAD.out _ HR.out (((((((((HB3.out.setCell (Nat.le_refl _) _).setCell (Nat.le_refl _) _).setCell (Nat.le_refl _) _).setCell (Nat.le_refl _) _).setCell (Nat.le_refl _) _).setCell (Nat.le_refl _) _).setCell (Nat.le_refl _) _).setCell (Nat.le_refl _) _).setCell (Nat.le_refl _) _)
  subst he2
  have HZB2 : Hid (flightBad fs = needsBad fs 3) := by show _ = _; rw [HZB.out]; simp
  clear z0 f0 z1 f1 z2 f2 z3 f3 z4 f4 z5 f5 z6 f6 z7 f7 z8 f8
  have y3 : w3.cell? ⟨H1, 3, none⟩ = some (.int .i64 0) := block_cell hf3 3
  have g3 := block_free hf3 3
  have hf4 := heap_setCell_same w3 H1 3 _ _ (.int .i64 x1) hf3
  have y4 : (w3.setCell ⟨H1, 3, none⟩ (.int .i64 x1)).cell? ⟨H1, 4, none⟩ = some (.int .i64 0) := block_cell hf4 4
  have g4 := block_free hf4 4
  have hf5 := heap_setCell_same _ H1 4 _ _ (.int .i64 x2) hf4
  have HF5 : Hid (((w3.setCell ⟨H1, 3, none⟩ (.int .i64 x1)).setCell ⟨H1, 4, none⟩ (.int .i64 x2)).heap[H1]? = some (.cells (fCells (fld fs 1) (fld fs 2) (fld fs 3) x1 x2 (fld fs 4) (needsF fs 0)) 47 (0, 0))) := hf5
  have HX5 : Hid (((w3.setCell ⟨H1, 3, none⟩ (.int .i64 x1)).setCell ⟨H1, 4, none⟩ (.int .i64 x2)).heap[w.heap.size]? = some (.cells #[.string ⟨#[]⟩, .string ⟨#[]⟩, .string ⟨#[]⟩, .int .i64 0, .int .i64 0, .string ⟨#[]⟩, .int .i64 0, .int .i64 0, .int .i64 0] 47 (0, 0))) := by
    show _ = _
    rw [heap_setCell_other _ _ _ _ (by show w.heap.size ≠ H1; omega), heap_setCell_other _ _ _ _ (by show w.heap.size ≠ H1; omega)]
    exact HX3.out
  have HB5 : Hid (Below w.heap.size w ((w3.setCell ⟨H1, 3, none⟩ (.int .i64 x1)).setCell ⟨H1, 4, none⟩ (.int .i64 x2))) := (HB3.out.setCell (by show w.heap.size ≤ H1; omega) _).setCell (by show w.heap.size ≤ H1; omega) _
  clear hf3 hf4 hf5 HX3 HF3 HB3 HZB
  go_wp2_with fail
  generalize (w3.setCell ⟨H1, 3, none⟩ (.int .i64 x1)).setCell ⟨H1, 4, none⟩ (.int .i64 x2) = w5 at *
  clear y3 y4 g3 g4
  go_loopw [62] (fun i wr => ∃ (j : Nat), j ≤ 3 ∧ i = .int .i64 j ∧ Hid (needsBad fs j = false) ∧ Hid (wr.heap[H1]? = some (.cells (fCells (fld fs 1) (fld fs 2) (fld fs 3) x1 x2 (fld fs 4) (needsF fs j)) 47 (0, 0))) ∧ Hid (wr.heap[w.heap.size]? = some (.cells #[.string ⟨#[]⟩, .string ⟨#[]⟩, .string ⟨#[]⟩, .int .i64 0, .int .i64 0, .string ⟨#[]⟩, .int .i64 0, .int .i64 0, .int .i64 0] 47 (0, 0))) ∧ Hid (Below w.heap.size w wr)) (fun i _ => 3 - (intOf i).toNat)
  case atStart => exact ⟨0, Nat.zero_le _, rfl, rfl, HF5, HX5, HB5⟩
  case round =>
    clear HF5 HX5 HB5
    obtain ⟨j, hj, rfl, HNB, HF, HXR, HB⟩ := hrel
    have hxr := HXR.out
    have z0 : wr.cell? ⟨w.heap.size, 0, none⟩ = some (.string ⟨#[]⟩) := block_cell hxr 0
    have z1 : wr.cell? ⟨w.heap.size, 1, none⟩ = some (.string ⟨#[]⟩) := block_cell hxr 1
    have z2 : wr.cell? ⟨w.heap.size, 2, none⟩ = some (.string ⟨#[]⟩) := block_cell hxr 2
    have z3 : wr.cell? ⟨w.heap.size, 3, none⟩ = some (.int .i64 0) := block_cell hxr 3
    have z4 : wr.cell? ⟨w.heap.size, 4, none⟩ = some (.int .i64 0) := block_cell hxr 4
    have z5 : wr.cell? ⟨w.heap.size, 5, none⟩ = some (.string ⟨#[]⟩) := block_cell hxr 5
    have z6 : wr.cell? ⟨w.heap.size, 6, none⟩ = some (.int .i64 0) := block_cell hxr 6
    have z7 : wr.cell? ⟨w.heap.size, 7, none⟩ = some (.int .i64 0) := block_cell hxr 7
    have z8 : wr.cell? ⟨w.heap.size, 8, none⟩ = some (.int .i64 0) := block_cell hxr 8
    have f0 := block_free hxr 0; have f1 := block_free hxr 1; have f2 := block_free hxr 2; have f3 := block_free hxr 3; have f4 := block_free hxr 4; have f5 := block_free hxr 5; have f6 := block_free hxr 6; have f7 := block_free hxr 7; have f8 := block_free hxr 8
    clear hxr
    by_cases hlt : j < 3
    · have cj := HC.out wr HB.out (9 + j) (by have := HL12.out; omega)
      have hcj : wr.cell? ⟨fb, o + (9 + (j : Int)).toNat, none⟩ = some (.string (fld fs (9 + j))) := by rw [show (9 + (j : Int)).toNat = 9 + j by omega]; exact cj
      have lj : 9 + (j : Int) < (fs.length : Int) := by have := HL12.out; omega
      have lj0 : 0 ≤ 9 + (j : Int) := by omega
      have qj : IntKind.i64.wrap (9 + (j : Int)) = 9 + j := IntWalk.i64_in _ (by omega)
      have HPI : Hid (∀ V, Calls Tryz.prog 98 #[.string (fld fs (9 + j))] V (ParsePost (fld fs (9 + j)) V)) := fun V => parseInt_any _ V (by have := HZ.out (9 + j); unfold maxLen; omega)
      have HNS : Hid (needsF fs (j + 1) = need3 (parseB (fld fs (9 + j))).1 (needsF fs j) j) := rfl
      have HNB2 := Lib.hid (needsBad_succ fs j)
      have HHIT : Hid ((parseB (fld fs (9 + j))).2 ≠ 0 → needsBad fs 3 = true) := fun h => needsBad_hit hlt h
      unfold ParsePost at HPI
      generalize parseB (fld fs (9 + j)) = pj at *
      obtain ⟨nj, ej⟩ := pj
      simp only at HPI HNS HNB2 HHIT
      go_wp2_with fail
      refine (HPI.out _).mono ?_
      rintro e w' ⟨rfl, rfl⟩
      by_cases hej : ej = 0
      case neg =>
        have HR : Hid (flightBad fs = true) := by show _ = _; rw [HZB2.out]; exact HHIT.out hej
        have hej' : (ej != 0) = true := by simpa using hej
        clear hej
        go_wp2_with fail
        refine bodyPost_ret (v := .tuple #[.agg #[.string ⟨#[]⟩, .string ⟨#[]⟩, .string ⟨#[]⟩, .int .i64 0, .int .i64 0, .string ⟨#[]⟩, .int .i64 0, .int .i64 0, .int .i64 0], .bool false]) (by simp [results, Tryz.results59, go_sem, z0, z1, z2, z3, z4, z5, z6, z7, z8]) rfl ?_
        exact HBAD.out _ HR.out (((((((((HB.out.setCell (Nat.le_refl _) _).setCell (Nat.le_refl _) _).setCell (Nat.le_refl _) _).setCell (Nat.le_refl _) _).setCell (Nat.le_refl _) _).setCell (Nat.le_refl _) _).setCell (Nat.le_refl _) _).setCell (Nat.le_refl _) _).setCell (Nat.le_refl _) _)
      subst hej
      have HNB3 : Hid (needsBad fs (j + 1) = false) := by show _ = _; rw [HNB2.out, HNB.out]; simp
      obtain ⟨y, hy⟩ := fCells_get (fld fs 1) (fld fs 2) (fld fs 3) x1 x2 (fld fs 4) (needsF fs j) j hlt
      have hc7 : wr.cell? ⟨H1, 6 + j, none⟩ = some (.int .i64 y) := (block_cell HF.out _).trans hy
      have hf7 : wr.frozen? ⟨H1, 6 + j, none⟩ = false := block_free HF.out _
      have HF7 : Hid ((wr.setCell ⟨H1, 6 + j, none⟩ (.int .i64 nj)).heap[H1]? = some (.cells (fCells (fld fs 1) (fld fs 2) (fld fs 3) x1 x2 (fld fs 4) (needsF fs (j + 1))) 47 (0, 0))) := by
        show _ = _
        rw [heap_setCell_same _ _ _ _ _ _ HF.out, fCells_set _ _ _ _ _ _ _ _ _ hlt, HNS.out]
      have HX7 : Hid ((wr.setCell ⟨H1, 6 + j, none⟩ (.int .i64 nj)).heap[w.heap.size]? = some (.cells #[.string ⟨#[]⟩, .string ⟨#[]⟩, .string ⟨#[]⟩, .int .i64 0, .int .i64 0, .string ⟨#[]⟩, .int .i64 0, .int .i64 0, .int .i64 0] 47 (0, 0))) := (heap_setCell_other _ _ _ _ (by show w.heap.size ≠ H1; omega)).trans HXR.out
      have HB7 : Hid (Below w.heap.size w (wr.setCell ⟨H1, 6 + j, none⟩ (.int .i64 nj))) := HB.out.setCell (by show w.heap.size ≤ H1; omega) _
      have lj3 : (j : Int) < 3 := by omega
      clear z0 f0 z1 f1 z2 f2 z3 f3 z4 f4 z5 f5 z6 f6 z7 f7 z8 f8
      clear hy hcj cj
      go_wp2_with fail
      go_roundw
      case rel => exact ⟨j + 1, by omega, by go_num, HNB3, HF7, HX7, HB7⟩
      case measure => simp [intOf]; omega
    · have hj3 : j = 3 := by omega
      subst hj3
      have HRES : Hid (∀ V, Below w.heap.size w V → FPost fs w (.returned (.tuple #[.agg #[.string (fld fs 1), .string (fld fs 2), .string (fld fs 3), .int .i64 x1, .int .i64 x2, .string (fld fs 4), .int .i64 (needsF fs 3).1, .int .i64 (needsF fs 3).2.1, .int .i64 (needsF fs 3).2.2], .bool true])) V) := fun V hb => by
        have hz0 : flightBad fs = false := by rw [HZB2.out]; exact HNB.out
        exact ⟨flightF fs, by rw [hz0, HFF.out]; rfl, hb, fun _ => rfl⟩
      generalize needsF fs 3 = nf at *
      obtain ⟨m0, m1, m2⟩ := nf
      simp only at HRES
      have hxh := HF.out
      have y0 : wr.cell? ⟨H1, 0, none⟩ = some (.string (fld fs 1)) := block_cell hxh 0
      have y1 : wr.cell? ⟨H1, 1, none⟩ = some (.string (fld fs 2)) := block_cell hxh 1
      have y2 : wr.cell? ⟨H1, 2, none⟩ = some (.string (fld fs 3)) := block_cell hxh 2
      have y3 : wr.cell? ⟨H1, 3, none⟩ = some (.int .i64 x1) := block_cell hxh 3
      have y4 : wr.cell? ⟨H1, 4, none⟩ = some (.int .i64 x2) := block_cell hxh 4
      have y5 : wr.cell? ⟨H1, 5, none⟩ = some (.string (fld fs 4)) := block_cell hxh 5
      have y6 : wr.cell? ⟨H1, 6, none⟩ = some (.int .i64 m0) := block_cell hxh 6
      have y7 : wr.cell? ⟨H1, 7, none⟩ = some (.int .i64 m1) := block_cell hxh 7
      have y8 : wr.cell? ⟨H1, 8, none⟩ = some (.int .i64 m2) := block_cell hxh 8
      clear hxh hlt
      go_wp2_with fail
      refine bodyPost_ret (v := .tuple #[.agg #[.string (fld fs 1), .string (fld fs 2), .string (fld fs 3), .int .i64 x1, .int .i64 x2, .string (fld fs 4), .int .i64 m0, .int .i64 m1, .int .i64 m2], .bool true]) (by simp [results, Tryz.results59, go_sem, z0, z1, z2, z3, z4, z5, z6, z7, z8]) rfl ?_
      exact HRES.out _ (((((((((HB.out.setCell (Nat.le_refl _) _).setCell (Nat.le_refl _) _).setCell (Nat.le_refl _) _).setCell (Nat.le_refl _) _).setCell (Nat.le_refl _) _).setCell (Nat.le_refl _) _).setCell (Nat.le_refl _) _).setCell (Nat.le_refl _) _).setCell (Nat.le_refl _) _)
end Go.Proofs.YtldeoaddogifpaaGreatDoor
/-
  Contract of timetable.parseLine: the timetable in a box grows by the line's element.
  Condition: the fields read as a list of strings of no more than 20000 bytes, no more than 100000 of them; the timetable's lists are short.
-/
namespace Go.Proofs.YtldeoaddogifpaaGreatDoor
set_option linter.unusedSimpArgs false
set_option linter.unusedVariables false
open Go.RowKit

section
variable {w : World} {lo : Nat} {v1 v2 v3 : Value} {t : GTT} {P : Program} {ops : Array Oper} {o : Oper} {a : Act} {K : Act → World → Prop} {Q : Exit → Act → World → Prop} {E : Prop}
theorem step_pushZ (hgd : o.guard = none) (s x : Operand) (T : TypeId)
    (ho : o.op = .call { callee := .builtin .append, args := #[s, x], argTypes := #[T, T] }) (he : Elem P T 51 3 48) (hs : a.eval s = v1) (h : TPM w lo v1 v2 v3 t)
    (g : Nat) (z : GZone) (hx : a.eval x = .slice (some ⟨g, 0, none⟩) 1 1) (hz : ∃ cz, Ty.zone.rep w (shS w lo) cz z ∧ At w g 0 cz) (hlen : t.zones.length ≤ 1000) (hlo : lo ≤ w.heap.size)
    (hn : ∀ g' cap w', TPM w' lo (.slice (some ⟨g', 0, none⟩) (t.zones.length + 1) cap) v2 v3 (t.addZ z) → w.grownBy w' v1.ownBlock → K (a.put o.dst (.slice (some ⟨g', 0, none⟩) (t.zones.length + 1) cap)) w') :
    if Region.wanted o (yielded ops a.tmps) = true then Oper.wp P o a w K Q else E := by
  obtain ⟨i, zr, hi, hzr, h1, h2, h3⟩ := he.parts
  obtain ⟨cs, r1, r2⟩ := h.z
  obtain ⟨cz, hr, hat⟩ := hz
  refine step_append_lies _ hgd s x T ho lo 51 i zr 3 48 he.1 hi hzr h1 h2 h3 (by decide) v1 _ cs hs r1 ⟨g, 0, none⟩ 1 1 cz hx (by rw [Ty.zone.len hr]; rfl) (fun j u hu => by rw [addr_add]; exact hat j u hu) (Ty.zone.one hr) (by decide) (by unfold maxLen; omega) (by omega) hlo _ rfl ?_
  intro g' cap w' ho' hgr _ _
  exact hn g' cap w' (h.grownZ r1 r2 hr ho' hgr) hgr
theorem step_pushA (hgd : o.guard = none) (s x : Operand) (T : TypeId)
    (ho : o.op = .call { callee := .builtin .append, args := #[s, x], argTypes := #[T, T] }) (he : Elem P T 66 2 32) (hs : a.eval s = v2) (h : TPM w lo v1 v2 v3 t)
    (g : Nat) (z : GAirport) (hx : a.eval x = .slice (some ⟨g, 0, none⟩) 1 1) (hz : At w g 0 [.string z.code, .string z.zone]) (hlen : t.airports.length ≤ 1000) (hlo : lo ≤ w.heap.size)
    (hn : ∀ g' cap w', TPM w' lo v1 (.slice (some ⟨g', 0, none⟩) (t.airports.length + 1) cap) v3 (t.addA z) → w.grownBy w' v2.ownBlock → K (a.put o.dst (.slice (some ⟨g', 0, none⟩) (t.airports.length + 1) cap)) w') :
    if Region.wanted o (yielded ops a.tmps) = true then Oper.wp P o a w K Q else E :=
  step_push hgd s x T ho 32 he hs h.a g z (fun _ => False) hx ⟨_, rfl, hz⟩ (fun _ h => h.elim) (by omega) (by decide) hlo fun g' cap w' ho' hg _ => hn g' cap w' (h.grownA ho' hg) hg
theorem step_pushF (hgd : o.guard = none) (s x : Operand) (T : TypeId)
    (ho : o.op = .call { callee := .builtin .append, args := #[s, x], argTypes := #[T, T] }) (he : Elem P T 47 9 104) (hs : a.eval s = v3) (h : TPM w lo v1 v2 v3 t)
    (g : Nat) (z : GFlight) (hx : a.eval x = .slice (some ⟨g, 0, none⟩) 1 1) (hz : At w g 0 (flightCells z)) (hlen : t.flights.length ≤ 1000) (hlo : lo ≤ w.heap.size)
    (hn : ∀ g' cap w', TPM w' lo v1 v2 (.slice (some ⟨g', 0, none⟩) (t.flights.length + 1) cap) (t.addF z) → w.grownBy w' v3.ownBlock → K (a.put o.dst (.slice (some ⟨g', 0, none⟩) (t.flights.length + 1) cap)) w') :
    if Region.wanted o (yielded ops a.tmps) = true then Oper.wp P o a w K Q else E :=
  step_push hgd s x T ho 104 he hs h.f g z (fun _ => False) hx ⟨_, rfl, hz⟩ (fun _ h => h.elim) (by omega) (by decide) hlo fun g' cap w' ho' hg _ => hn g' cap w' (h.grownF ho' hg) hg
end
/-- The timetable under construction, in a box. -/
structure TBx (w : World) (tb lo : Nat) (v1 v2 v3 : Value) (t : GTT) : Prop where
  box : w.heap[tb]? = some (.cells #[v1, v2, v3] 27 (0, 0))
  m : TPM w lo v1 v2 v3 t
  lt : tb < lo
  le : lo ≤ w.heap.size
/-- Blocks ahead of lo stay, but for the box. -/
structure TKeep (tb lo : Nat) (w w' : World) : Prop where
  os : w'.os = w.os
  tape : w'.tape = w.tape
  output : w'.output = w.output
  size : w.heap.size ≤ w'.heap.size
  block : ∀ q, q < lo → q ≠ tb → w'.heap[q]? = w.heap[q]?
section
variable {w w' w'' : World} {tb lo : Nat} {v1 v2 v3 : Value} {t : GTT}
theorem TBx.next (h : TBx w tb lo v1 v2 v3 t) (hb : Below w.heap.size w w') : TBx w' tb lo v1 v2 v3 t :=
  ⟨(hb.block tb (Nat.lt_of_lt_of_le h.lt h.le)).trans h.box, h.m.next hb, h.lt, Nat.le_trans h.le hb.size⟩
theorem TBx.store0 (h : TBx w tb lo v1 v2 v3 t) (hk : w'.heap[tb]? = w.heap[tb]?) {v' : Value} {t' : GTT} (hm : TPM w' lo v' v2 v3 t') (hs : w.heap.size ≤ w'.heap.size) : TBx (w'.setCell ⟨tb, 0, none⟩ v') tb lo v' v2 v3 t' :=
  ⟨heap_setCell_same _ _ _ _ _ _ (hk.trans h.box), hm.setBox h.lt, h.lt, by simp; exact Nat.le_trans h.le hs⟩
theorem TBx.store1 (h : TBx w tb lo v1 v2 v3 t) (hk : w'.heap[tb]? = w.heap[tb]?) {v' : Value} {t' : GTT} (hm : TPM w' lo v1 v' v3 t') (hs : w.heap.size ≤ w'.heap.size) : TBx (w'.setCell ⟨tb, 1, none⟩ v') tb lo v1 v' v3 t' :=
  ⟨heap_setCell_same _ _ _ _ _ _ (hk.trans h.box), hm.setBox h.lt, h.lt, by simp; exact Nat.le_trans h.le hs⟩
theorem TBx.store2 (h : TBx w tb lo v1 v2 v3 t) (hk : w'.heap[tb]? = w.heap[tb]?) {v' : Value} {t' : GTT} (hm : TPM w' lo v1 v2 v' t') (hs : w.heap.size ≤ w'.heap.size) : TBx (w'.setCell ⟨tb, 2, none⟩ v') tb lo v1 v2 v' t' :=
  ⟨heap_setCell_same _ _ _ _ _ _ (hk.trans h.box), hm.setBox h.lt, h.lt, by simp; exact Nat.le_trans h.le hs⟩
theorem TKeep.of_below (hb : Below w.heap.size w w') (hl : lo ≤ w.heap.size) : TKeep tb lo w w' := ⟨hb.os, hb.tape, hb.output, hb.size, fun q hq _ => hb.block q (by omega)⟩
theorem TKeep.trans (h : TKeep tb lo w w') (h' : TKeep tb lo w' w'') : TKeep tb lo w w'' := ⟨h'.os.trans h.os, h'.tape.trans h.tape, h'.output.trans h.output, Nat.le_trans h.size h'.size, fun q a b => (h'.block q a b).trans (h.block q a b)⟩
theorem TKeep.grown {row : Option Nat} (h : TKeep tb lo w w') (hg : w'.grownBy w'' row) (hr : ∀ k, row = some k → lo ≤ k) (hl : lo ≤ w'.heap.size) : TKeep tb lo w w'' :=
  ⟨hg.os.trans h.os, hg.tape.trans h.tape, hg.output.trans h.output, Nat.le_trans h.size hg.size, fun q a b => (hg.block q (by omega) (fun e => by have := hr q e.symm; omega)).trans (h.block q a b)⟩
theorem TKeep.setBox (h : TKeep tb lo w w') (j : Nat) (x : Value) : TKeep tb lo w (w'.setCell ⟨tb, j, none⟩ x) :=
  ⟨h.os, h.tape, h.output, by simp; exact h.size, fun q a b => (heap_setCell_other _ _ _ _ b).trans (h.block q a b)⟩
end
def LnPost9 (fs : List ByteArray) (t : GTT) (tb lo : Nat) (w : World) (e : Ending) (w' : World) : Prop :=
  e = .returned (.bool (lineT9 fs t).isSome) ∧ TKeep tb lo w w' ∧ ∃ v1 v2 v3 t', TBx w' tb lo v1 v2 v3 t' ∧ ∀ x, lineT9 fs t = some x → t' = x
theorem line_bad9 {fs : List ByteArray} {t : GTT} {tb lo : Nat} {w w' : World} {v1 v2 v3 : Value} {t' : GTT} (h : lineT9 fs t = none) (hk : TKeep tb lo w w') (hx : TBx w' tb lo v1 v2 v3 t') : LnPost9 fs t tb lo w (.returned (.bool false)) w' :=
  ⟨by rw [h]; rfl, hk, v1, v2, v3, t', hx, fun x hx => by rw [h] at hx; cases hx⟩
theorem line_good9 {fs : List ByteArray} {t : GTT} {tb lo : Nat} {w w' : World} {v1 v2 v3 : Value} {t' : GTT} (h : lineT9 fs t = some t') (hk : TKeep tb lo w w') (hx : TBx w' tb lo v1 v2 v3 t') : LnPost9 fs t tb lo w (.returned (.bool true)) w' :=
  ⟨by rw [h]; rfl, hk, v1, v2, v3, t', hx, fun x hx => by rw [h] at hx; exact Option.some.inj hx⟩
theorem eq_zone (x : ByteArray) : (x.toList == [122, 111, 110, 101]) = decide (x = zoneS) := by
  rw [← str_beq, ByteArray.toList_eq zoneS]; rfl
theorem eq_air (x : ByteArray) : (x.toList == [97, 105, 114, 112, 111, 114, 116]) = decide (x = airS) := by
  rw [← str_beq, ByteArray.toList_eq airS]; rfl
theorem eq_fli (x : ByteArray) : (x.toList == [102, 108, 105, 103, 104, 116]) = decide (x = fliS) := by
  rw [← str_beq, ByteArray.toList_eq fliS]; rfl
set_option maxRecDepth 100000 in
set_option maxHeartbeats 6400000 in
theorem parseLine9_any (fs : List ByteArray) (A : Option Addr) (n c : Nat) (t : GTT) (tb lo : Nat) (v1 v2 v3 : Value) (w : World) (hb : TBx w tb lo v1 v2 v3 t) (hok : TtOk 1000 t) (hf : Sl Ty.str w (all_ w) A n c fs) (h1 : 1 ≤ fs.length) (hl : fs.length ≤ 100000) (hz : ∀ x ∈ fs, x.size ≤ 20000) (hg : Glo w) :
    Calls Tryz.prog 20 #[.pointer (some ⟨tb, 0, none⟩), .slice A n c] w (LnPost9 fs t tb lo w) := by
  have HPZ := Lib.hid (parseZone_any fs A n c w hf h1 hl hz hg)
  have HPF := Lib.hid (parseFlight_any fs A n c w hf h1 hl hz)
  have hn := hf.len
  obtain ⟨fb, o, rfl, hSb, hcells⟩ := fld_cells hf (by omega)
  have hfb : fb < w.heap.size := hSb
  subst hn
  have c0 : w.cell? ⟨fb, o, none⟩ = some (.string (fld fs 0)) := hcells 0 (by omega)
  have l0 : (0 : Int) < (fs.length : Int) := by omega
  have HC := Lib.hid hcells
  have HLN : Hid (lineT9 fs t = if fld fs 0 = zoneS then (if zoneBad fs = true then none else some (t.addZ (zoneF fs)))
    else if fld fs 0 = airS then (if fs.length ≠ 3 then none else some (t.addA ⟨fld fs 1, fld fs 2⟩))
    else if fld fs 0 = fliS then (if flightBad fs = true then none else some (t.addF (flightF fs))) else none) := rfl
  have ez := eq_zone (fld fs 0); have ea := eq_air (fld fs 0); have ef := eq_fli (fld fs 0)
  have HTB := Lib.hid hb
  obtain ⟨o1, o2, o3, o4⟩ := hok
  obtain ⟨A1, cp1, A2, cp2, A3, cp3, rfl, rfl, rfl, -⟩ := hb.m.sl
  have HLT := Lib.hid hb.m.lt
  have htl := hb.lt
  have hll := hb.le
  have HBX := Lib.hid hb.box
  have HTK : Hid (∀ V, Below w.heap.size w V → TKeep tb lo w V) := fun V hV => TKeep.of_below hV hll
  clear hf hz hg hSb hcells hb o1
  by_cases hz : fld fs 0 = zoneS
  · rw [decide_eq_true hz] at ez
    rw [if_pos hz] at HLN
    clear ea ef hz
    go_enter Tryz.func20, Tryz.ntmps20
    go_wp2_with fail
    refine HPZ.out.mono ?_
    rintro e w1 ⟨z, v, rfl, hown, hb1, hgood⟩
    have HB1 := Lib.hid hb1
    have hs1 := hb1.size
    obtain ⟨Av, cv, rfl, hslv⟩ := hown.slTag flat_shift
    have HSV := Lib.hid hslv
    have HGOOD := Lib.hid hgood
    have hb2 : Below w.heap.size w (w1.alloc (.cells #[.string z.name, .int .i64 z.off, .slice Av z.shifts.length cv] 51)) := hb1.alloc hs1 _
    have HB2 := Lib.hid hb2
    have hx2 := heap_alloc_new w1 (.cells #[.string z.name, .int .i64 z.off, .slice Av z.shifts.length cv] 51)
    have y0 : (w1.alloc (.cells #[.string z.name, .int .i64 z.off, .slice Av z.shifts.length cv] 51)).cell? ⟨w1.heap.size, 0, none⟩ = some (.string z.name) := block_cell hx2 0
    have y1 : (w1.alloc (.cells #[.string z.name, .int .i64 z.off, .slice Av z.shifts.length cv] 51)).cell? ⟨w1.heap.size, 1, none⟩ = some (.int .i64 z.off) := block_cell hx2 1
    have y2 : (w1.alloc (.cells #[.string z.name, .int .i64 z.off, .slice Av z.shifts.length cv] 51)).cell? ⟨w1.heap.size, 2, none⟩ = some (.slice Av z.shifts.length cv) := block_cell hx2 2
    have hsz2 : (w1.alloc (.cells #[.string z.name, .int .i64 z.off, .slice Av z.shifts.length cv] 51)).heap.size = w1.heap.size + 1 := by simp
    have HSV2 : Hid (Sl Ty.shift (w1.alloc (.cells #[.string z.name, .int .i64 z.off, .slice Av z.shifts.length cv] 51)) (shS (w1.alloc (.cells #[.string z.name, .int .i64 z.off, .slice Av z.shifts.length cv] 51)) lo) Av z.shifts.length cv z.shifts) := by
      refine (hslv.keep (w' := w1.alloc (.cells #[.string z.name, .int .i64 z.off, .slice Av z.shifts.length cv] 51)) fun b hb => ?_).more fun b hb => ⟨by have := hb.1; omega, ?_⟩
      · obtain ⟨_, cur, hc⟩ := hb
        exact Below.heap_alloc _ _ _ (Array.getElem?_eq_some_iff.1 hc).1
      · obtain ⟨_, cur, hc⟩ := hb
        exact ⟨cur, (Below.heap_alloc _ _ _ (Array.getElem?_eq_some_iff.1 hc).1).trans hc⟩
    clear hown hb1 hgood hslv hx2 c0 hb2
    go_upto_region 4 with (fail)
    generalize w1.alloc (.cells #[.string z.name, .int .i64 z.off, .slice Av z.shifts.length cv] 51) = w2 at *
    have HT2 : Hid (TBx w2 tb lo (.slice A1 t.zones.length cp1) (.slice A2 t.airports.length cp2) (.slice A3 t.flights.length cp3) t) := HTB.out.next HB2.out
    have x0 : w2.cell? ⟨tb, 0, none⟩ = some (.slice A1 t.zones.length cp1) := block_cell HT2.out.box 0
    have HTM : Hid (∀ ob, TPM (w2.drew.alloc ob) lo (.slice A1 t.zones.length cp1) (.slice A2 t.airports.length cp2) (.slice A3 t.flights.length cp3) t) := fun ob => HT2.out.m.next ((below_drewN (Below.refl _ _) 1).alloc (Nat.le_refl _) ob)
    have HP6 : Hid (∀ ob v' w6, TPM w6 lo v' (.slice A2 t.airports.length cp2) (.slice A3 t.flights.length cp3) (t.addZ z) → (w2.drew.alloc ob).grownBy w6 (Value.slice A1 t.zones.length cp1).ownBlock → w6.heap[tb]? = some (.cells #[.slice A1 t.zones.length cp1, .slice A2 t.airports.length cp2, .slice A3 t.flights.length cp3] 27 (0, 0)) ∧ TBx (w6.setCell ⟨tb, 0, none⟩ v') tb lo v' (.slice A2 t.airports.length cp2) (.slice A3 t.flights.length cp3) (t.addZ z) ∧ TKeep tb lo w (w6.setCell ⟨tb, 0, none⟩ v')) := fun ob v' w6 hm hg => by
      have hsz : (w2.drew.alloc ob).heap.size = w2.heap.size + 1 := by simp
      have hle := HT2.out.le
      have hbd : Below w2.heap.size w2 (w2.drew.alloc ob) := (below_drewN (Below.refl _ _) 1).alloc (Nat.le_refl _) ob
      have hrow : ∀ k, (Value.slice A1 t.zones.length cp1).ownBlock = some k → lo ≤ k := fun k hk => (HLT.out.1 k hk).1
      have hk6 : w6.heap[tb]? = w2.heap[tb]? := (hg.block tb (by omega) (fun e => by have := hrow tb e.symm; omega)).trans (Below.heap_alloc _ _ _ (by show tb < w2.heap.size; omega))
      exact ⟨hk6.trans HT2.out.box, HT2.out.store0 hk6 hm (by have := hg.size; omega), (((HTK.out w2 HB2.out).trans (TKeep.of_below ((below_drewN (Below.refl _ _) 1).alloc (Nat.le_refl _) ob) hle)).grown hg hrow (Nat.le_trans hle hbd.size)).setBox _ _⟩
    have HSVB : Hid (∀ ob, Sl Ty.shift (w2.drew.alloc ob) (shS (w2.drew.alloc ob) lo) Av z.shifts.length cv z.shifts) := fun ob => by
      have hbv : Below w2.heap.size w2 (w2.drew.alloc ob) := (below_drewN (Below.refl _ _) 1).alloc (Nat.le_refl _) ob
      refine (HSV2.out.keep (w' := w2.drew.alloc ob) fun b hb => hbv.block b hb.2.lt).more fun b hb => ⟨hb.1, ?_⟩
      obtain ⟨_, cur, hc⟩ := hb
      exact ⟨cur, (hbv.block b (Array.getElem?_eq_some_iff.1 hc).1).trans hc⟩
    have HFIN : Hid (∀ V v', TKeep tb lo w V → TBx V tb lo v' (.slice A2 t.airports.length cp2) (.slice A3 t.flights.length cp3) (t.addZ z) → LnPost9 fs t tb lo w (.returned (.bool (!zoneBad fs))) V) := fun V v' hk hx => by
      cases hzb : zoneBad fs with
      | true =>
        rw [hzb] at HLN
        exact line_bad9 (by have := HLN.out; rwa [if_pos rfl] at this) hk hx
      | false =>
        rw [hzb] at HLN
        obtain rfl := HGOOD.out hzb
        exact line_good9 (by have := HLN.out; rwa [if_neg (by simp)] at this) hk hx
    have hle2 : lo ≤ w2.heap.size := HT2.out.le
    have x0a : ∀ ob, (w2.alloc ob).cell? ⟨tb, 0, none⟩ = some (.slice A1 t.zones.length cp1) := fun ob => (World.cell?_alloc_past _ _ _ (show tb < w2.heap.size by omega)).trans x0
    clear HB1 HPZ HPF HTB HBX
    generalize zoneBad fs = zb at *
    go_region_law (first
      | (refine step_pushZ rfl (.tmp 23) (.tmp 25) 23 rfl zone_row (by simp [Act.eval, Act.put]) (HTM.out _) w2.heap.size z (by simp [Act.eval, Act.put]) ⟨[.string z.name, .int .i64 z.off, .slice Av z.shifts.length cv], ⟨Av, _, cv, rfl, HSVB.out _⟩, At.new w2.drew #[.string z.name, .int .i64 z.off, .slice Av z.shifts.length cv] _⟩ o2 (by simp; omega) ?_; intro g6 cap6 w6 hm6 hgr6; obtain ⟨hb6, hx6, hk6⟩ := HP6.out _ _ _ hm6 hgr6; have y6 := block_cell hb6 0; have f6 := block_free hb6 0; have HX6 := Lib.hid hx6; have HK6 := Lib.hid hk6; clear hb6 hx6 hk6 hm6 hgr6)
      | fail)
    all_goals
      go_wp2_with fail
      go_ret
      exact HFIN.out _ _ HK6.out HX6.out
  rw [decide_eq_false hz] at ez
  rw [if_neg hz] at HLN
  clear hz
  by_cases hz : fld fs 0 = airS
  · rw [decide_eq_true hz] at ea
    rw [if_pos hz] at HLN
    clear ef hz HPZ HPF
    by_cases h3 : fs.length = 3
    case neg =>
      rw [if_pos h3] at HLN
      have h3' : ((fs.length : Int) != 3) = true := by simp; omega
      have HRES := Lib.hid (line_bad9 (w' := w) HLN.out (HTK.out w (Below.refl _ _)) HTB.out)
      clear h3
      go_enter Tryz.func20, Tryz.ntmps20
      go_wp2_with fail
      go_ret
      exact HRES.out
    rw [if_neg (by simpa using h3)] at HLN
    have h3' : ((fs.length : Int) != 3) = false := by simp; omega
    have l1 : (1 : Int) < (fs.length : Int) := by omega
    have l2 : (2 : Int) < (fs.length : Int) := by omega
    have c1 := HC.out 1 (by omega); have c2 := HC.out 2 (by omega)
    have HT2 := HTB
    have HB0 := Lib.hid (Below.refl w.heap.size w)
    have HTM : Hid (∀ ob, TPM (w.drew.alloc ob) lo (.slice A1 t.zones.length cp1) (.slice A2 t.airports.length cp2) (.slice A3 t.flights.length cp3) t) := fun ob => HT2.out.m.next ((below_drewN (Below.refl _ _) 1).alloc (Nat.le_refl _) ob)
    have HP6 : Hid (∀ ob v' w6, TPM w6 lo (.slice A1 t.zones.length cp1) v' (.slice A3 t.flights.length cp3) (t.addA ⟨fld fs 1, fld fs 2⟩) → (w.drew.alloc ob).grownBy w6 (Value.slice A2 t.airports.length cp2).ownBlock → w6.heap[tb]? = some (.cells #[.slice A1 t.zones.length cp1, .slice A2 t.airports.length cp2, .slice A3 t.flights.length cp3] 27 (0, 0)) ∧ TBx (w6.setCell ⟨tb, 1, none⟩ v') tb lo (.slice A1 t.zones.length cp1) v' (.slice A3 t.flights.length cp3) (t.addA ⟨fld fs 1, fld fs 2⟩) ∧ TKeep tb lo w (w6.setCell ⟨tb, 1, none⟩ v')) := fun ob v' w6 hm hg => by
      have hsz : (w.drew.alloc ob).heap.size = w.heap.size + 1 := by simp
      have hle := HT2.out.le
      have hbd : Below w.heap.size w (w.drew.alloc ob) := (below_drewN (Below.refl _ _) 1).alloc (Nat.le_refl _) ob
      have hrow : ∀ k, (Value.slice A2 t.airports.length cp2).ownBlock = some k → lo ≤ k := fun k hk => (HLT.out.2.1 k hk).1
      have hk6 : w6.heap[tb]? = w.heap[tb]? := (hg.block tb (by omega) (fun e => by have := hrow tb e.symm; omega)).trans (Below.heap_alloc _ _ _ (by show tb < w.heap.size; omega))
      exact ⟨hk6.trans HT2.out.box, HT2.out.store1 hk6 hm (by have := hg.size; omega), (((HTK.out w HB0.out).trans (TKeep.of_below ((below_drewN (Below.refl _ _) 1).alloc (Nat.le_refl _) ob) hle)).grown hg hrow (Nat.le_trans hle hbd.size)).setBox _ _⟩
    have HFIN : Hid (∀ V v', TKeep tb lo w V → TBx V tb lo (.slice A1 t.zones.length cp1) v' (.slice A3 t.flights.length cp3) (t.addA ⟨fld fs 1, fld fs 2⟩) → LnPost9 fs t tb lo w (.returned (.bool true)) V) := fun V v' hk hx => line_good9 HLN.out hk hx
    have x1 : w.cell? ⟨tb, 1, none⟩ = some (.slice A2 t.airports.length cp2) := block_cell HTB.out.box 1
    have HC1A : Hid (∀ ob, ((w.drew.alloc ob).cell? ⟨fb, o + 1, none⟩ = some (.string (fld fs 1)))) := fun ob => (World.cell?_alloc_past _ _ _ (show fb < w.heap.size by omega)).trans c1
    have x1a : ∀ ob, (w.alloc ob).cell? ⟨tb, 1, none⟩ = some (.slice A2 t.airports.length cp2) := fun ob => (World.cell?_alloc_past _ _ _ (show tb < w.heap.size by omega)).trans x1
    clear h3 HTB HBX
    generalize fld fs 1 = g1 at *
    generalize fld fs 2 = g2 at *
    go_enter Tryz.func20, Tryz.ntmps20
    go_upto_region 9 with (fail)
    clear c0
    go_region_law (first
      | (refine step_pushA rfl (.tmp 39) (.tmp 47) 24 rfl air_row (by simp [Act.eval, Act.put]) (HTM.out _) w.heap.size ⟨g1, g2⟩ (by simp [Act.eval, Act.put]) (At.new w.drew #[.string g1, .string g2] _) o3 (by simp; omega) ?_; intro g6 cap6 w6 hm6 hgr6; obtain ⟨hb6, hx6, hk6⟩ := HP6.out _ _ _ hm6 hgr6; have y6 := block_cell hb6 1; have f6 := block_free hb6 1; have HX6 := Lib.hid hx6; have HK6 := Lib.hid hk6; clear hb6 hx6 hk6 hm6 hgr6)
      | fail)
    all_goals
      go_wp2_with fail
      go_ret
      exact HFIN.out _ _ HK6.out HX6.out
  rw [decide_eq_false hz] at ea
  rw [if_neg hz] at HLN
  clear hz
  by_cases hz : fld fs 0 = fliS
  · rw [decide_eq_true hz] at ef
    rw [if_pos hz] at HLN
    clear hz HPZ
    go_enter Tryz.func20, Tryz.ntmps20
    go_wp2_with fail
    refine HPF.out.mono ?_
    rintro e w1 ⟨z, rfl, hb1, hgood⟩
    have hs1 := hb1.size
    have HGOOD := Lib.hid hgood
    have hb2 : Below w.heap.size w (w1.alloc (.cells #[.string z.number, .string z.src, .string z.dst, .int .i64 z.dep, .int .i64 z.arr, .string z.kind, .int .i64 z.n0, .int .i64 z.n1, .int .i64 z.n2] 47)) := hb1.alloc hs1 _
    have HB2 := Lib.hid hb2
    have hx2 := heap_alloc_new w1 (.cells #[.string z.number, .string z.src, .string z.dst, .int .i64 z.dep, .int .i64 z.arr, .string z.kind, .int .i64 z.n0, .int .i64 z.n1, .int .i64 z.n2] 47)
    have HX2 := Lib.hid hx2
    clear hb1 hgood hx2 c0 hb2
    go_upto_region 13 with (fail)
    generalize w1.alloc (.cells #[.string z.number, .string z.src, .string z.dst, .int .i64 z.dep, .int .i64 z.arr, .string z.kind, .int .i64 z.n0, .int .i64 z.n1, .int .i64 z.n2] 47) = w2 at *
    have hx2 := HX2.out
    have y0 : w2.cell? ⟨w1.heap.size, 0, none⟩ = some (.string z.number) := block_cell hx2 0
    have y1 : w2.cell? ⟨w1.heap.size, 1, none⟩ = some (.string z.src) := block_cell hx2 1
    have y2 : w2.cell? ⟨w1.heap.size, 2, none⟩ = some (.string z.dst) := block_cell hx2 2
    have y3 : w2.cell? ⟨w1.heap.size, 3, none⟩ = some (.int .i64 z.dep) := block_cell hx2 3
    have y4 : w2.cell? ⟨w1.heap.size, 4, none⟩ = some (.int .i64 z.arr) := block_cell hx2 4
    have y5 : w2.cell? ⟨w1.heap.size, 5, none⟩ = some (.string z.kind) := block_cell hx2 5
    have y6 : w2.cell? ⟨w1.heap.size, 6, none⟩ = some (.int .i64 z.n0) := block_cell hx2 6
    have y7 : w2.cell? ⟨w1.heap.size, 7, none⟩ = some (.int .i64 z.n1) := block_cell hx2 7
    have y8 : w2.cell? ⟨w1.heap.size, 8, none⟩ = some (.int .i64 z.n2) := block_cell hx2 8
    have HT2 : Hid (TBx w2 tb lo (.slice A1 t.zones.length cp1) (.slice A2 t.airports.length cp2) (.slice A3 t.flights.length cp3) t) := HTB.out.next HB2.out
    have x0 : w2.cell? ⟨tb, 2, none⟩ = some (.slice A3 t.flights.length cp3) := block_cell HT2.out.box 2
    have HTM : Hid (∀ ob, TPM (w2.drew.alloc ob) lo (.slice A1 t.zones.length cp1) (.slice A2 t.airports.length cp2) (.slice A3 t.flights.length cp3) t) := fun ob => HT2.out.m.next ((below_drewN (Below.refl _ _) 1).alloc (Nat.le_refl _) ob)
    have HP6 : Hid (∀ ob v' w6, TPM w6 lo (.slice A1 t.zones.length cp1) (.slice A2 t.airports.length cp2) v' (t.addF z) → (w2.drew.alloc ob).grownBy w6 (Value.slice A3 t.flights.length cp3).ownBlock → w6.heap[tb]? = some (.cells #[.slice A1 t.zones.length cp1, .slice A2 t.airports.length cp2, .slice A3 t.flights.length cp3] 27 (0, 0)) ∧ TBx (w6.setCell ⟨tb, 2, none⟩ v') tb lo (.slice A1 t.zones.length cp1) (.slice A2 t.airports.length cp2) v' (t.addF z) ∧ TKeep tb lo w (w6.setCell ⟨tb, 2, none⟩ v')) := fun ob v' w6 hm hg => by
      have hsz : (w2.drew.alloc ob).heap.size = w2.heap.size + 1 := by simp
      have hle := HT2.out.le
      have hbd : Below w2.heap.size w2 (w2.drew.alloc ob) := (below_drewN (Below.refl _ _) 1).alloc (Nat.le_refl _) ob
      have hrow : ∀ k, (Value.slice A3 t.flights.length cp3).ownBlock = some k → lo ≤ k := fun k hk => (HLT.out.2.2 k hk).1
      have hk6 : w6.heap[tb]? = w2.heap[tb]? := (hg.block tb (by omega) (fun e => by have := hrow tb e.symm; omega)).trans (Below.heap_alloc _ _ _ (by show tb < w2.heap.size; omega))
      exact ⟨hk6.trans HT2.out.box, HT2.out.store2 hk6 hm (by have := hg.size; omega), (((HTK.out w2 HB2.out).trans (TKeep.of_below ((below_drewN (Below.refl _ _) 1).alloc (Nat.le_refl _) ob) hle)).grown hg hrow (Nat.le_trans hle hbd.size)).setBox _ _⟩
    have HFIN : Hid (∀ V v', TKeep tb lo w V → TBx V tb lo (.slice A1 t.zones.length cp1) (.slice A2 t.airports.length cp2) v' (t.addF z) → LnPost9 fs t tb lo w (.returned (.bool (!flightBad fs))) V) := fun V v' hk hx => by
      cases hzb : flightBad fs with
      | true =>
        rw [hzb] at HLN
        exact line_bad9 (by have := HLN.out; rwa [if_pos rfl] at this) hk hx
      | false =>
        rw [hzb] at HLN
        obtain rfl := HGOOD.out hzb
        exact line_good9 (by have := HLN.out; rwa [if_neg (by simp)] at this) hk hx
    have hle2 : lo ≤ w2.heap.size := HT2.out.le
    have x0a : ∀ ob, (w2.alloc ob).cell? ⟨tb, 2, none⟩ = some (.slice A3 t.flights.length cp3) := fun ob => (World.cell?_alloc_past _ _ _ (show tb < w2.heap.size by omega)).trans x0
    clear HPF HTB HBX hx2 HX2
    generalize flightBad fs = zb at *
    go_region_law (first
      | (refine step_pushF rfl (.tmp 62) (.tmp 64) 25 rfl fli_row (by simp [Act.eval, Act.put]) (HTM.out _) w2.heap.size z (by simp [Act.eval, Act.put]) (At.new w2.drew (flightCells z).toArray _) o4 (by simp; omega) ?_; intro g6 cap6 w6 hm6 hgr6; obtain ⟨hb6, hx6, hk6⟩ := HP6.out _ _ _ hm6 hgr6; have yy6 := block_cell hb6 2; have f6 := block_free hb6 2; have HX6 := Lib.hid hx6; have HK6 := Lib.hid hk6; clear hb6 hx6 hk6 hm6 hgr6)
      | fail)
    all_goals
      go_wp2_with fail
      go_ret
      exact HFIN.out _ _ HK6.out HX6.out
  rw [decide_eq_false hz] at ef
  rw [if_neg hz] at HLN
  have HRES := Lib.hid (line_bad9 (w' := w) HLN.out (HTK.out w (Below.refl _ _)) HTB.out)
  clear hz HPZ HPF
  go_enter Tryz.func20, Tryz.ntmps20
  go_wp2_with fail
  go_ret
  exact HRES.out
end Go.Proofs.YtldeoaddogifpaaGreatDoor
/-
  Contracts of the reference's leap, DaysInMonth, IsDate, DayNumber, ParseDate, ParseClock, ParseInstant (package pairingref5).
  Condition: numbers are small, the string's length fits an int.
-/
namespace Go.Proofs.YtldeoaddogifpaaGreatDoor
set_option linter.unusedSimpArgs false
set_option linter.unusedVariables false
open Go.RowKit

theorem leapR_any (y : Int) (w : World) (h0 : 0 ≤ y) (h1 : y ≤ 100000) : Calls Tryz.prog 140 #[.int .i64 y] w fun e w' => e = .returned (.bool (leapB y)) ∧ w = w' := by
  have HL : Hid (leapB y = (decide (y % 4 = 0) && (decide (y % 100 ≠ 0) || decide (y % 400 = 0)))) := rfl
  by_cases a : y % 4 = 0
  · have a' : (y % 4 == 0) = true := by simpa using a
    by_cases b : y % 100 = 0
    · have b' : (y % 100 != 0) = false := by simpa using b
      by_cases c : y % 400 = 0
      · have c' : (y % 400 == 0) = true := by simpa using c
        have HR : Hid (leapB y = true) := by show _ = _; rw [HL.out]; simp [a, b, c]
        clear a b c
        go_enter Tryz.func140, Tryz.ntmps140
        go_wp2_with fail
        go_ret
        exact ⟨ret_bool HR.out.symm, rfl⟩
      · have c' : (y % 400 == 0) = false := by simpa using c
        have HR : Hid (leapB y = false) := by show _ = _; rw [HL.out]; simp [a, b, c]
        clear a b c
        go_enter Tryz.func140, Tryz.ntmps140
        go_wp2_with fail
        go_ret
        exact ⟨ret_bool HR.out.symm, rfl⟩
    · have b' : (y % 100 != 0) = true := by simpa using b
      have HR : Hid (leapB y = true) := by show _ = _; rw [HL.out]; simp [a, b]
      clear a b
      go_enter Tryz.func140, Tryz.ntmps140
      go_wp2_with fail
      go_ret
      exact ⟨ret_bool HR.out.symm, rfl⟩
  · have a' : (y % 4 == 0) = false := by simpa using a
    have c : ¬ y % 400 = 0 := by omega
    have c' : (y % 400 == 0) = false := by simpa using c
    have HR : Hid (leapB y = false) := by show _ = _; rw [HL.out]; simp [a]
    clear a c
    go_enter Tryz.func140, Tryz.ntmps140
    go_wp2_with fail
    go_ret
    exact ⟨ret_bool HR.out.symm, rfl⟩
def dimB (y m : Int) : Int × Int := if y < 1999 ∨ 2100 < y ∨ m < 1 ∨ 12 < m then (0, 5) else (mDays y m, 0)
set_option maxRecDepth 100000 in
set_option maxHeartbeats 800000 in
theorem daysInMonthR_any (y m : Int) (w : World) : Calls Tryz.prog 141 #[.int .i64 y, .int .i64 m] w fun e w' => e = .returned (.tuple #[.int .i64 (dimB y m).1, .int .i64 (dimB y m).2]) ∧ w = w' := by
  by_cases hb : y < 1999 ∨ 2100 < y ∨ m < 1 ∨ 12 < m
  · have HR : Hid (dimB y m = (0, 5)) := by show _ = _; unfold dimB; rw [if_pos hb]
    have hc : y < 1999 ∨ (¬ y < 1999 ∧ 2100 < y) ∨ (¬ y < 1999 ∧ ¬ 2100 < y ∧ m < 1) ∨ (¬ y < 1999 ∧ ¬ 2100 < y ∧ ¬ m < 1 ∧ 12 < m) := by omega
    clear hb
    rcases hc with h | ⟨h, h1⟩ | ⟨h, h1, h2⟩ | ⟨h, h1, h2, h3⟩
    all_goals
      go_enter Tryz.func141, Tryz.ntmps141
      go_wp2_with fail
      go_ret2
      exact ⟨by rw [HR.out]; rfl, rfl⟩
  have HR : Hid (dimB y m = (mDays y m, 0)) := by show _ = _; unfold dimB; rw [if_neg hb]
  have h1 : ¬ y < 1999 := by omega
  have h2 : ¬ 2100 < y := by omega
  have HC := Lib.hid (leapR_any y w (by omega) (by omega))
  have hm : m = 1 ∨ m = 2 ∨ m = 3 ∨ m = 4 ∨ m = 5 ∨ m = 6 ∨ m = 7 ∨ m = 8 ∨ m = 9 ∨ m = 10 ∨ m = 11 ∨ m = 12 := by omega
  have HM : Hid (mDays y m = if m = 2 ∧ leapB y = true then 29 else mTab.getD (m - 1).toNat 0) := rfl
  clear hb
  rcases hm with rfl | rfl | rfl | rfl | rfl | rfl | rfl | rfl | rfl | rfl | rfl | rfl
  case inr.inl =>
    go_enter Tryz.func141, Tryz.ntmps141
    go_wp2_with fail
    refine HC.out.mono ?_
    rintro e w' ⟨rfl, rfl⟩
    cases hl : leapB y
    · have HR2 : Hid (mDays y 2 = 28) := by show _ = _; rw [HM.out, hl]; rfl
      rw [HR2.out] at HR
      go_wp2_with fail
      go_ret2
      exact ⟨by rw [HR.out]; rfl, rfl⟩
    · have HR2 : Hid (mDays y 2 = 29) := by show _ = _; rw [HM.out, hl]; rfl
      rw [HR2.out] at HR
      go_wp2_with fail
      go_ret2
      exact ⟨by rw [HR.out]; rfl, rfl⟩
  all_goals
    rw [HM.out, if_neg (fun h => absurd h.1 (by decide))] at HR
    go_enter Tryz.func141, Tryz.ntmps141
    go_wp2_with fail
    go_ret2
    exact ⟨by rw [HR.out]; rfl, rfl⟩
theorem dimB_err (y m : Int) : (dimB y m).2 = 0 ∨ (dimB y m).2 = 5 := by
  unfold dimB; split
  · exact .inr rfl
  · exact .inl rfl
set_option maxRecDepth 100000 in
theorem isDateR_any (y m d : Int) (w : World) : Calls Tryz.prog 139 #[.agg #[.int .i64 y, .int .i64 m, .int .i64 d]] w (BoolPostC (validB y m d) w) := by
  have hb0 := (Below.refl w.heap.size w).alloc (Nat.le_refl _) (.cells #[.int .i64 y, .int .i64 m, .int .i64 d] 133)
  have hr0 := heap_alloc_new w (.cells #[.int .i64 y, .int .i64 m, .int .i64 d] 133)
  have HB := Lib.hid hb0
  have HC := Lib.hid (daysInMonthR_any y m (w.alloc (.cells #[.int .i64 y, .int .i64 m, .int .i64 d] 133)))
  have x0 := block_cell hr0 0; have x1 := block_cell hr0 1; have x2 := block_cell hr0 2
  have HV : Hid (validB y m d = true ↔ (1999 ≤ y ∧ y ≤ 2100) ∧ (1 ≤ m ∧ m ≤ 12) ∧ 1 ≤ d ∧ d ≤ mDays y m) := validB_iff
  have HDM : Hid (dimB y m = if y < 1999 ∨ 2100 < y ∨ m < 1 ∨ 12 < m then (0, 5) else (mDays y m, 0)) := rfl
  clear hb0 hr0
  go_enter Tryz.func139, Tryz.ntmps139
  go_wp2_with fail
  refine HC.out.mono ?_
  rintro e w' ⟨rfl, rfl⟩
  generalize w.alloc (.cells #[.int .i64 y, .int .i64 m, .int .i64 d] 133) = W at *
  clear HC
  by_cases hb : y < 1999 ∨ 2100 < y ∨ m < 1 ∨ 12 < m
  · rw [HDM.out, if_pos hb]
    have HR : Hid (validB y m d = false) := by
      show _ = _
      cases hv : validB y m d
      · rfl
      · have := HV.out.1 hv; omega
    clear hb
    go_wp2_with fail
    go_ret
    exact ⟨ret_bool HR.out.symm, HB.out⟩
  rw [HDM.out, if_neg hb]
  generalize mDays y m = md at *
  by_cases h1 : 1 ≤ d
  · by_cases h2 : d ≤ md
    · have HR : Hid (validB y m d = true) := HV.out.2 (by omega)
      clear hb
      go_wp2_with fail
      go_ret
      exact ⟨ret_bool HR.out.symm, HB.out⟩
    · have HR : Hid (validB y m d = false) := by
        show _ = _
        cases hv : validB y m d
        · rfl
        · have := HV.out.1 hv; omega
      clear hb
      go_wp2_with fail
      go_ret
      exact ⟨ret_bool ((decide_eq_false (Int.not_le.2 h2)).trans HR.out.symm), HB.out⟩
  · have HR : Hid (validB y m d = false) := by
      show _ = _
      cases hv : validB y m d
      · rfl
      · have := HV.out.1 hv; omega
    clear hb
    go_wp2_with fail
    go_ret
    exact ⟨ret_bool HR.out.symm, HB.out⟩
theorem yDays_leap (y : Int) : yDays y = if leapB y = true then 366 else 365 := rfl
set_option maxRecDepth 100000 in
set_option maxHeartbeats 800000 in
theorem dayNumberR_any (y m d : Int) (w : World) (hd : -1000000 ≤ d ∧ d ≤ 1000000) : Calls Tryz.prog 103 #[.agg #[.int .i64 y, .int .i64 m, .int .i64 d]] w (NumPost (dayN y m d) w) := by
  have hb0 := (Below.refl w.heap.size w).alloc (Nat.le_refl _) (.cells #[.int .i64 y, .int .i64 m, .int .i64 d] 133)
  have hr0 := heap_alloc_new w (.cells #[.int .i64 y, .int .i64 m, .int .i64 d] 133)
  have hz0 : (w.alloc (.cells #[.int .i64 y, .int .i64 m, .int .i64 d] 133)).heap.size = w.heap.size + 1 := by simp
  have HB0 := Lib.hid hb0; have HR0 := Lib.hid hr0; have HZ0 := Lib.hid hz0
  have HD : Hid (dayN y m d = if validB y m d = true then (dayB y m d, 0) else (0, 5)) := rfl
  clear hb0 hr0 hz0
  go_enter Tryz.func103, Tryz.ntmps103
  go_wp2_with fail
  generalize w.alloc (.cells #[.int .i64 y, .int .i64 m, .int .i64 d] 133) = W at *
  refine (isDateR_any y m d W).mono ?_
  rintro e w1 ⟨rfl, hb1⟩
  have hbw1 : Below w.heap.size w w1 := HB0.out.trans (hb1.mono HB0.out.size)
  have hr1 := (hb1.block w.heap.size (by have := HZ0.out; omega)).trans HR0.out
  clear hb1
  cases hv : validB y m d
  · have HR : Hid (dayN y m d = (0, 5)) := by show _ = _; rw [HD.out, hv]; rfl
    clear hr1
    go_wp2_with fail
    go_ret2
    exact ⟨by rw [HR.out]; rfl, hbw1⟩
  obtain ⟨⟨y1, y2⟩, ⟨m1, m2⟩, d1, d2⟩ := validB_iff.1 hv
  have HR : Hid (dayN y m d = (-365 + yearSum (y - 1999).toNat + monSum y (m - 1).toNat + d - 1, 0)) := by show _ = _; rw [HD.out, hv]; rfl
  obtain ⟨Y, hY⟩ := Int.eq_ofNat_of_zero_le (show 0 ≤ y - 1999 by omega)
  obtain ⟨M, hM⟩ := Int.eq_ofNat_of_zero_le (show 0 ≤ m - 1 by omega)
  rw [hY, hM, Int.toNat_natCast, Int.toNat_natCast] at HR
  obtain rfl : y = 1999 + Y := by omega
  obtain rfl : m = 1 + M := by omega
  have hYl : Y ≤ 101 := by omega
  have hMl : M ≤ 11 := by omega
  have x0 := block_cell hr1 0; have x1 := block_cell hr1 1; have x2 := block_cell hr1 2
  have HY0 : Hid ((-365 : Int) = -365 + yearSum 0) := rfl
  clear hr1 hY hM hv HD
  go_wp2_with fail
  go_loop [4, 5] (fun nv yv => ∃ k : Nat, k ≤ Y ∧ yv = .int .i64 (1999 + k) ∧ nv = .int .i64 (-365 + yearSum k)) (fun _ yv => Y - (intOf yv - 1999).toNat)
  case atStart => exact ⟨0, Nat.zero_le _, rfl, by rw [← HY0.out]⟩
  case round =>
    obtain ⟨k, hk, rfl, rfl⟩ := hrel
    have hyb := yearSum_bd k
    by_cases hlt : k < Y
    · have HS := Lib.hid (yearSum_succ k)
      have HYL := Lib.hid (yDays_leap (1999 + k))
      have HC := Lib.hid (leapR_any (1999 + k) w1 (by omega) (by omega))
      have hlt' : (1999 : Int) + k < 1999 + Y := by omega
      generalize yearSum k = ys at *
      generalize yDays (1999 + k) = yd at *
      go_wp2_with fail
      refine HC.out.mono ?_
      rintro e w' ⟨rfl, rfl⟩
      cases hl : leapB (1999 + k)
      · rw [hl] at HYL
        have e9 : yd = 365 := HYL.out
        go_wp2_with fail
        go_round
        case rel => exact ⟨k + 1, by omega, by go_num, by rw [HS.out]; congr 1; omega⟩
        case measure => simp [intOf]; omega
      · rw [hl] at HYL
        have e9 : yd = 366 := HYL.out
        go_wp2_with fail
        go_round
        case rel => exact ⟨k + 1, by omega, by go_num, by rw [HS.out]; congr 1; omega⟩
        case measure => simp [intOf]; omega
    · have hkY : k = Y := by omega
      subst hkY
      have hnl : ¬ (1999 : Int) + k < 1999 + k := by omega
      have HM0 : Hid ((-365 : Int) + yearSum k = -365 + yearSum k + monSum (1999 + k) 0) := by show _ = _; rw [show monSum (1999 + k) 0 = 0 from rfl]; omega
      go_wp2_with fail
      go_loop [4, 6, 7, 8] (fun nv mv _ _ => ∃ q : Nat, q ≤ M ∧ mv = .int .i64 (1 + q) ∧ nv = .int .i64 (-365 + yearSum k + monSum (1999 + k) q)) (fun _ mv _ _ => M - (intOf mv - 1).toNat)
      case atStart => exact ⟨0, Nat.zero_le _, rfl, by rw [← HM0.out]⟩
      case round =>
        obtain ⟨q, hq, rfl, rfl⟩ := hrel
        have hmb := monSum_bd (1999 + k) q
        by_cases hltq : q < M
        · have HS := Lib.hid (monSum_succ (1999 + k) q)
          have hyd := mDays_bd (1999 + k) (1 + q)
          have HC := Lib.hid (daysInMonthR_any (1999 + k) (1 + q) w1)
          have HDE : Hid (dimB (1999 + k) (1 + q) = (mDays (1999 + k) (1 + q), 0)) := by show _ = _; unfold dimB; rw [if_neg (by omega)]
          rw [HDE.out] at HC
          have hlt' : (1 : Int) + q < 1 + M := by omega
          generalize monSum (1999 + k) q = ms at *
          generalize mDays (1999 + k) (1 + q) = md at *
          generalize yearSum k = ys at *
          go_wp2_with fail
          refine HC.out.mono ?_
          rintro e w' ⟨rfl, rfl⟩
          go_wp2_with fail
          go_round
          case rel => exact ⟨q + 1, by omega, by go_num, by rw [HS.out]; congr 1; omega⟩
          case measure => simp [intOf]; omega
        · have hqM : q = M := by omega
          subst hqM
          have hnl2 : ¬ (1 : Int) + q < 1 + q := by omega
          generalize hms : monSum (1999 + k) q = ms at *
          generalize hys : yearSum k = ys at *
          clear hms hys
          go_wp2_with fail
          go_ret2
          exact ⟨by rw [HR.out]; rfl, hbw1⟩
theorem digits_sub {s : ByteArray} {a b n : Nat} (h : b ≤ s.size) (hn : b - a = n) : digitsB (s.extract a b) n n = if digOn s a n = true then (subN s a b, true) else (0, false) := by
  unfold digitsB
  rw [dig_sub h, hn]
  have hz : (s.extract a b).size = n := by rw [size_sub h, hn]
  rw [if_neg (by rw [hz]; omega)]
  cases digOn s a n <;> rfl
end Go.Proofs.YtldeoaddogifpaaGreatDoor
/-
  Contracts of the reference's ParseDate, ParseClock, ParseInstant (package pairingref5).
  Condition: the string's length fits an int.
-/
namespace Go.Proofs.YtldeoaddogifpaaGreatDoor
set_option linter.unusedSimpArgs false
set_option linter.unusedVariables false
open Go.RowKit

theorem dateB_size {s : ByteArray} (h : ¬ s.size = 10) : dateB s = ((0, 0, 0), 1) := by
  unfold dateB; rw [matchD_iff, decide_eq_false h]; rfl
theorem dateB_b4 {s : ByteArray} (h : ¬ byteAt s 4 = 45) : dateB s = ((0, 0, 0), 1) := by
  unfold dateB; rw [matchD_iff, decide_eq_false h]; simp
theorem dateB_b7 {s : ByteArray} (h : ¬ byteAt s 7 = 45) : dateB s = ((0, 0, 0), 1) := by
  unfold dateB; rw [matchD_iff, decide_eq_false h]; simp
theorem dateB_dig {s : ByteArray} (h : ¬ (digOn s 0 4 = true ∧ digOn s 5 2 = true ∧ digOn s 8 2 = true)) : dateB s = ((0, 0, 0), 1) := by
  unfold dateB; rw [matchD_iff]
  rw [if_pos]
  generalize digOn s 0 4 = a at *
  generalize digOn s 5 2 = b at *
  generalize digOn s 8 2 = c at *
  cases a <;> cases b <;> cases c <;> simp at h ⊢
theorem dateB_ok {s : ByteArray} (h0 : s.size = 10) (h4 : byteAt s 4 = 45) (h7 : byteAt s 7 = 45) (hd : digOn s 0 4 = true ∧ digOn s 5 2 = true ∧ digOn s 8 2 = true) :
    dateB s = if validB (subN s 0 4) (subN s 5 7) (subN s 8 s.size) = false then ((0, 0, 0), 5) else ((subN s 0 4, subN s 5 7, subN s 8 s.size), 0) := by
  have hm : matchB s patD = true := by
    rw [matchD_iff, hd.1, hd.2.1, hd.2.2, decide_eq_true h0, decide_eq_true h4, decide_eq_true h7]; rfl
  unfold dateB; rw [if_neg (by rw [hm]; decide)]
set_option maxRecDepth 100000 in
set_option maxHeartbeats 1600000 in
theorem parseDateR_any (s : ByteArray) (w : World) (hs : s.size ≤ maxLen) : Calls Tryz.prog 101 #[.string s] w (DatePost (dateB s) w) := by
  have hb0 := (Below.refl w.heap.size w).alloc (Nat.le_refl _) (.cells #[.int .i64 0, .int .i64 0, .int .i64 0] 133)
  have hr0 := heap_alloc_new w (.cells #[.int .i64 0, .int .i64 0, .int .i64 0] 133)
  have hz0 : (w.alloc (.cells #[.int .i64 0, .int .i64 0, .int .i64 0] 133)).heap.size = w.heap.size + 1 := by simp
  unfold maxLen at hs
  have z0 := block_cell hr0 0; have z1 := block_cell hr0 1; have z2 := block_cell hr0 2
  have f0 := block_free hr0 0; have f1 := block_free hr0 1; have f2 := block_free hr0 2
  have HB0 := Lib.hid hb0; have HR0 := Lib.hid hr0; have HZ0 := Lib.hid hz0
  clear hb0 hr0 hz0
  by_cases hsz : s.size = 10
  case neg =>
    have hz' : ((s.size : Int) != 10) = true := by simp; omega
    have HR := Lib.hid (dateB_size hsz)
    clear hsz
    go_enter Tryz.func101, Tryz.ntmps101
    go_wp2_with fail
    generalize w.alloc (.cells #[.int .i64 0, .int .i64 0, .int .i64 0] 133) = W at *
    refine bodyPost_ret (v := .tuple #[.agg #[.int .i64 0, .int .i64 0, .int .i64 0], .int .i64 1]) (by simp [results, Tryz.results101, go_sem, z0, z1, z2]) rfl ?_
    first | exact ⟨by rw [HR.out], HB0.out⟩ | exact ⟨by rw [HR.out], ((HB0.out.setCell (Nat.le_refl _) _).setCell (Nat.le_refl _) _).setCell (Nat.le_refl _) _⟩
  have hz' : ((s.size : Int) != 10) = false := by simp; omega
  have l4 : 4 < s.size := by omega
  have l7 : 7 < s.size := by omega
  have l4' : (4 : Int) < (s.size : Int) := by omega
  have l7' : (7 : Int) < (s.size : Int) := by omega
  have HB4 := Lib.hid (byteAt_eq s 4 l4)
  have HB7 := Lib.hid (byteAt_eq s 7 l7)
  have HSZ := Lib.hid hsz
  clear hsz
  by_cases h4 : byteAt s 4 = 45
  case neg =>
    have h4' : ((s[4].toNat : Int) != 45) = true := by rw [HB4.out]; simpa using h4
    have HR := Lib.hid (dateB_b4 h4)
    clear h4
    go_enter Tryz.func101, Tryz.ntmps101
    go_wp2_with fail
    generalize w.alloc (.cells #[.int .i64 0, .int .i64 0, .int .i64 0] 133) = W at *
    refine bodyPost_ret (v := .tuple #[.agg #[.int .i64 0, .int .i64 0, .int .i64 0], .int .i64 1]) (by simp [results, Tryz.results101, go_sem, z0, z1, z2]) rfl ?_
    first | exact ⟨by rw [HR.out], HB0.out⟩ | exact ⟨by rw [HR.out], ((HB0.out.setCell (Nat.le_refl _) _).setCell (Nat.le_refl _) _).setCell (Nat.le_refl _) _⟩
  have h4' : ((s[4].toNat : Int) != 45) = false := by rw [HB4.out]; simpa using h4
  by_cases h7 : byteAt s 7 = 45
  case neg =>
    have h7' : ((s[7].toNat : Int) != 45) = true := by rw [HB7.out]; simpa using h7
    have HR := Lib.hid (dateB_b7 h7)
    clear h4 h7
    go_enter Tryz.func101, Tryz.ntmps101
    go_wp2_with fail
    generalize w.alloc (.cells #[.int .i64 0, .int .i64 0, .int .i64 0] 133) = W at *
    refine bodyPost_ret (v := .tuple #[.agg #[.int .i64 0, .int .i64 0, .int .i64 0], .int .i64 1]) (by simp [results, Tryz.results101, go_sem, z0, z1, z2]) rfl ?_
    first | exact ⟨by rw [HR.out], HB0.out⟩ | exact ⟨by rw [HR.out], ((HB0.out.setCell (Nat.le_refl _) _).setCell (Nat.le_refl _) _).setCell (Nat.le_refl _) _⟩
  have h7' : ((s[7].toNat : Int) != 45) = false := by rw [HB7.out]; simpa using h7
  have HC1 : Hid (∀ V : World, Calls Tryz.prog 99 #[.string (s.extract 0 4), .int .i64 4, .int .i64 4] V (DigitsPost (s.extract 0 4) 4 4 V)) := fun V => digits_any _ 4 4 V (by decide)
  have HC2 : Hid (∀ V : World, Calls Tryz.prog 99 #[.string (s.extract 5 7), .int .i64 2, .int .i64 2] V (DigitsPost (s.extract 5 7) 2 2 V)) := fun V => digits_any _ 2 2 V (by decide)
  have HC3 : Hid (∀ V : World, Calls Tryz.prog 99 #[.string (s.extract 8 s.size), .int .i64 2, .int .i64 2] V (DigitsPost (s.extract 8 s.size) 2 2 V)) := fun V => digits_any _ 2 2 V (by decide)
  unfold DigitsPost at HC1 HC2 HC3
  have E1 := digits_sub (s := s) (a := 0) (b := 4) (n := 4) (by omega) (by omega)
  have E2 := digits_sub (s := s) (a := 5) (b := 7) (n := 2) (by omega) (by omega)
  have E3 := digits_sub (s := s) (a := 8) (b := s.size) (n := 2) (Nat.le_refl _) (by have := HSZ.out; omega)
  rw [show digitsB (s.extract 0 4) 4 4 = digitsB (s.extract 0 4) ((4 : Nat) : Int) ((4 : Nat) : Int) from rfl, E1] at HC1
  rw [show digitsB (s.extract 5 7) 2 2 = digitsB (s.extract 5 7) ((2 : Nat) : Int) ((2 : Nat) : Int) from rfl, E2] at HC2
  rw [show digitsB (s.extract 8 s.size) 2 2 = digitsB (s.extract 8 s.size) ((2 : Nat) : Int) ((2 : Nat) : Int) from rfl, E3] at HC3
  clear E1 E2 E3
  have HOK := Lib.hid (dateB_ok HSZ.out h4 h7)
  have HNO := Lib.hid (dateB_dig (s := s))
  have tz5 : (5 : Int) ≤ (s.size : Int) := by omega
  have tz8 : (8 : Int) ≤ (s.size : Int) := by omega
  have tz4 : (4 : Int) ≤ (s.size : Int) := by omega
  have tz7 : (7 : Int) ≤ (s.size : Int) := by omega
  clear h4 h7 HB4 HB7 HSZ
  generalize digOn s 0 4 = a at *
  generalize digOn s 5 2 = b at *
  generalize digOn s 8 2 = c at *
  by_cases habc : a = true ∧ b = true ∧ c = true
  case neg =>
    have HR := Lib.hid (HNO.out habc)
    clear HNO HOK
    cases a <;> cases b <;> cases c <;> first
      | exact absurd ⟨rfl, rfl, rfl⟩ habc
      | (clear habc
         simp only [if_true, Bool.false_eq_true, if_false] at HC1 HC2 HC3
         go_enter Tryz.func101, Tryz.ntmps101
         go_wp2_with fail
         generalize w.alloc (.cells #[.int .i64 0, .int .i64 0, .int .i64 0] 133) = W at *
         refine (HC1.out _).mono ?_
         rintro e w' ⟨rfl, rfl⟩
         go_wp2_with fail
         refine (HC2.out _).mono ?_
         rintro e w' ⟨rfl, rfl⟩
         go_wp2_with fail
         refine (HC3.out _).mono ?_
         rintro e w' ⟨rfl, rfl⟩
         go_wp2_with fail
         refine bodyPost_ret (v := .tuple #[.agg #[.int .i64 0, .int .i64 0, .int .i64 0], .int .i64 1]) (by simp [results, Tryz.results101, go_sem, z0, z1, z2]) rfl ?_
         first | exact ⟨by rw [HR.out], HB0.out⟩ | exact ⟨by rw [HR.out], ((HB0.out.setCell (Nat.le_refl _) _).setCell (Nat.le_refl _) _).setCell (Nat.le_refl _) _⟩)
  have HR := Lib.hid (HOK.out habc)
  obtain ⟨rfl, rfl, rfl⟩ := habc
  simp only [if_true] at HC1 HC2 HC3
  clear HNO HOK
  generalize subN s 0 4 = y at *
  generalize subN s 5 7 = m at *
  generalize subN s 8 s.size = d at *
  go_enter Tryz.func101, Tryz.ntmps101
  go_wp2_with fail
  generalize w.alloc (.cells #[.int .i64 0, .int .i64 0, .int .i64 0] 133) = W at *
  refine (HC1.out _).mono ?_
  rintro e w' ⟨rfl, rfl⟩
  go_wp2_with fail
  refine (HC2.out _).mono ?_
  rintro e w' ⟨rfl, rfl⟩
  go_wp2_with fail
  refine (HC3.out _).mono ?_
  rintro e w' ⟨rfl, rfl⟩
  have hbA := HB0.out.alloc HB0.out.size (.cells #[.int .i64 y, .int .i64 m, .int .i64 d] 133)
  have hbB := (Below.refl W.heap.size W).alloc (Nat.le_refl _) (.cells #[.int .i64 y, .int .i64 m, .int .i64 d] 133)
  have hrA := heap_alloc_new W (.cells #[.int .i64 y, .int .i64 m, .int .i64 d] 133)
  have hzA : (W.alloc (.cells #[.int .i64 y, .int .i64 m, .int .i64 d] 133)).heap.size = W.heap.size + 1 := by simp
  have x0 := block_cell hrA 0; have x1 := block_cell hrA 1; have x2 := block_cell hrA 2
  have HBA := Lib.hid hbA; have HRA := Lib.hid hrA; have HZA := Lib.hid hzA; have HBB := Lib.hid hbB
  clear hbA hrA hzA hbB HC1 HC2 HC3 z0 z1 z2 f0 f1 f2
  go_wp2_with fail
  generalize W.alloc (.cells #[.int .i64 y, .int .i64 m, .int .i64 d] 133) = V at *
  refine (isDateR_any y m d V).mono ?_
  rintro e w2 ⟨rfl, hb2⟩
  have hbw2 : Below w.heap.size w w2 := HBA.out.trans (hb2.mono HBA.out.size)
  have hr2 := (hb2.block w.heap.size (by have := HZA.out; have := HZ0.out; omega)).trans ((HBB.out.block w.heap.size (by have := HZ0.out; omega)).trans HR0.out)
  have hp2 := (hb2.block W.heap.size (by have := HZA.out; omega)).trans HRA.out
  have z0 := block_cell hr2 0; have z1 := block_cell hr2 1; have z2 := block_cell hr2 2
  have f0 := block_free hr2 0; have f1 := block_free hr2 1; have f2 := block_free hr2 2
  have y0 := block_cell hp2 0; have y1 := block_cell hp2 1; have y2 := block_cell hp2 2
  have hpw : W.heap.size ≠ w.heap.size := by have := HZ0.out; omega
  clear hr2 hp2 hb2 x0 x1 x2
  cases hv : validB y m d
  · have HR : Hid (dateB s = ((0, 0, 0), 5)) := by show _ = _; rw [HR.out, if_pos hv]
    go_wp2_with fail
    refine bodyPost_ret (v := .tuple #[.agg #[.int .i64 0, .int .i64 0, .int .i64 0], .int .i64 5]) (by simp [results, Tryz.results101, go_sem, z0, z1, z2]) rfl ?_
    exact ⟨by rw [HR.out], ((hbw2.setCell (Nat.le_refl _) _).setCell (Nat.le_refl _) _).setCell (Nat.le_refl _) _⟩
  · have HR : Hid (dateB s = ((y, m, d), 0)) := by show _ = _; rw [HR.out, if_neg (by rw [hv]; decide)]
    go_wp2_with fail
    refine bodyPost_ret (v := .tuple #[.agg #[.int .i64 y, .int .i64 m, .int .i64 d], .int .i64 0]) (by simp [results, Tryz.results101, go_sem, z0, z1, z2]) rfl ?_
    exact ⟨by rw [HR.out], ((hbw2.setCell (Nat.le_refl _) _).setCell (Nat.le_refl _) _).setCell (Nat.le_refl _) _⟩
theorem clockB_size {s : ByteArray} (h : ¬ s.size = 5) : clockB s = (0, 1) := by
  unfold clockB; rw [matchC_iff, decide_eq_false h]; rfl
theorem clockB_b2 {s : ByteArray} (h : ¬ byteAt s 2 = 58) : clockB s = (0, 1) := by
  unfold clockB; rw [matchC_iff, decide_eq_false h]; simp
theorem clockB_dig {s : ByteArray} (h : ¬ (digOn s 0 2 = true ∧ digOn s 3 2 = true)) : clockB s = (0, 1) := by
  unfold clockB; rw [matchC_iff]
  rw [if_pos]
  generalize digOn s 0 2 = a at *
  generalize digOn s 3 2 = b at *
  cases a <;> cases b <;> simp at h ⊢
theorem clockB_ok {s : ByteArray} (h0 : s.size = 5) (h2 : byteAt s 2 = 58) (hd : digOn s 0 2 = true ∧ digOn s 3 2 = true) :
    clockB s = (if 23 < subN s 0 2 ∨ 59 < subN s 3 s.size then (0, 5) else (subN s 0 2 * 60 + subN s 3 s.size, 0)) ∧ (0 ≤ subN s 0 2 ∧ subN s 0 2 ≤ 99) ∧ (0 ≤ subN s 3 s.size ∧ subN s 3 s.size ≤ 99) := by
  have hm : matchB s patC = true := by
    rw [matchC_iff, hd.1, hd.2, decide_eq_true h0, decide_eq_true h2]; rfl
  refine ⟨?_, ?_, ?_⟩
  · unfold clockB; rw [if_neg (by rw [hm]; decide)]
  · have n1 := numTo_bd (s.extract 0 2) (s.extract 0 2).size (by rw [dig_sub (by omega)]; exact hd.1)
    have b1 : bnd (s.extract 0 2).size = 99 := by rw [size_sub (show 2 ≤ s.size by omega)]; rfl
    rw [b1] at n1
    exact n1
  · have n2 := numTo_bd (s.extract 3 s.size) (s.extract 3 s.size).size (by rw [dig_sub (Nat.le_refl _), h0]; exact hd.2)
    have b2 : bnd (s.extract 3 s.size).size = 99 := by rw [size_sub (Nat.le_refl s.size), h0]; rfl
    rw [b2] at n2
    exact n2
set_option maxRecDepth 100000 in
set_option maxHeartbeats 800000 in
theorem parseClockR_any (s : ByteArray) (w : World) (hs : s.size ≤ maxLen) : Calls Tryz.prog 102 #[.string s] w (NumPost (clockB s) w) := by
  unfold maxLen at hs
  have HB0 := Lib.hid (Below.refl w.heap.size w)
  by_cases hsz : s.size = 5
  case neg =>
    have hz' : ((s.size : Int) != 5) = true := by simp; omega
    have HR := Lib.hid (clockB_size hsz)
    clear hsz
    go_enter Tryz.func102, Tryz.ntmps102
    go_wp2_with fail
    go_ret2
    exact ⟨by rw [HR.out]; rfl, HB0.out⟩
  have hz' : ((s.size : Int) != 5) = false := by simp; omega
  have l2 : 2 < s.size := by omega
  have l2' : (2 : Int) < (s.size : Int) := by omega
  have HB2 := Lib.hid (byteAt_eq s 2 l2)
  have HSZ := Lib.hid hsz
  clear hsz
  by_cases h2 : byteAt s 2 = 58
  case neg =>
    have h2' : ((s[2].toNat : Int) != 58) = true := by rw [HB2.out]; simpa using h2
    have HR := Lib.hid (clockB_b2 h2)
    clear h2
    go_enter Tryz.func102, Tryz.ntmps102
    go_wp2_with fail
    go_ret2
    exact ⟨by rw [HR.out]; rfl, HB0.out⟩
  have h2' : ((s[2].toNat : Int) != 58) = false := by rw [HB2.out]; simpa using h2
  have HC1 : Hid (∀ V : World, Calls Tryz.prog 99 #[.string (s.extract 0 2), .int .i64 2, .int .i64 2] V (DigitsPost (s.extract 0 2) 2 2 V)) := fun V => digits_any _ 2 2 V (by decide)
  have HC2 : Hid (∀ V : World, Calls Tryz.prog 99 #[.string (s.extract 3 s.size), .int .i64 2, .int .i64 2] V (DigitsPost (s.extract 3 s.size) 2 2 V)) := fun V => digits_any _ 2 2 V (by decide)
  unfold DigitsPost at HC1 HC2
  have E1 := digits_sub (s := s) (a := 0) (b := 2) (n := 2) (by omega) (by omega)
  have E2 := digits_sub (s := s) (a := 3) (b := s.size) (n := 2) (Nat.le_refl _) (by have := HSZ.out; omega)
  rw [show digitsB (s.extract 0 2) 2 2 = digitsB (s.extract 0 2) ((2 : Nat) : Int) ((2 : Nat) : Int) from rfl, E1] at HC1
  rw [show digitsB (s.extract 3 s.size) 2 2 = digitsB (s.extract 3 s.size) ((2 : Nat) : Int) ((2 : Nat) : Int) from rfl, E2] at HC2
  clear E1 E2
  have HOK := Lib.hid (clockB_ok HSZ.out h2)
  have HNO := Lib.hid (clockB_dig (s := s))
  have tz2 : (2 : Int) ≤ (s.size : Int) := by omega
  have tz3 : (3 : Int) ≤ (s.size : Int) := by omega
  clear h2 HB2 HSZ
  generalize digOn s 0 2 = a at *
  generalize digOn s 3 2 = b at *
  by_cases habc : a = true ∧ b = true
  case neg =>
    have HR := Lib.hid (HNO.out habc)
    clear HNO HOK
    cases a <;> cases b <;> first
      | exact absurd ⟨rfl, rfl⟩ habc
      | (clear habc
         simp only [if_true, Bool.false_eq_true, if_false] at HC1 HC2
         go_enter Tryz.func102, Tryz.ntmps102
         go_wp2_with fail
         refine (HC1.out _).mono ?_
         rintro e w' ⟨rfl, rfl⟩
         go_wp2_with fail
         refine (HC2.out _).mono ?_
         rintro e w' ⟨rfl, rfl⟩
         go_wp2_with fail
         go_ret2
         exact ⟨by rw [HR.out]; rfl, HB0.out⟩)
  obtain ⟨hR, ⟨k1, k2⟩, k3, k4⟩ := HOK.out habc
  have HR := Lib.hid hR
  obtain ⟨rfl, rfl⟩ := habc
  simp only [if_true] at HC1 HC2
  clear HNO HOK hR
  generalize subN s 0 2 = hh at *
  generalize subN s 3 s.size = mm at *
  go_enter Tryz.func102, Tryz.ntmps102
  go_wp2_with fail
  refine (HC1.out _).mono ?_
  rintro e w' ⟨rfl, rfl⟩
  go_wp2_with fail
  refine (HC2.out _).mono ?_
  rintro e w' ⟨rfl, rfl⟩
  by_cases h1 : 23 < hh
  · have HR : Hid (clockB s = (0, 5)) := by show _ = _; rw [HR.out, if_pos (.inl h1)]
    go_wp2_with fail
    go_ret2
    exact ⟨by rw [HR.out]; rfl, HB0.out⟩
  by_cases h2 : 59 < mm
  · have HR : Hid (clockB s = (0, 5)) := by show _ = _; rw [HR.out, if_pos (.inr h2)]
    go_wp2_with fail
    go_ret2
    exact ⟨by rw [HR.out]; rfl, HB0.out⟩
  have HR : Hid (clockB s = (60 * hh + mm, 0)) := by show _ = _; rw [HR.out, if_neg (by rintro (h | h); exact h1 h; exact h2 h), Int.mul_comm]
  go_wp2_with fail
  go_ret2
  exact ⟨by rw [HR.out]; rfl, HB0.out⟩
end Go.Proofs.YtldeoaddogifpaaGreatDoor
/-
  Contract of the reference's ParseInstant (package pairingref5), and of the methods number and instant of pairingref9's parser.
  Condition: the string's length fits an int.
-/
namespace Go.Proofs.YtldeoaddogifpaaGreatDoor
set_option linter.unusedSimpArgs false
set_option linter.unusedVariables false
open Go.RowKit

set_option maxRecDepth 100000 in
set_option maxHeartbeats 1600000 in
theorem parseInstantR_any (s : ByteArray) (w : World) (hs : s.size ≤ maxLen) : Calls Tryz.prog 61 #[.string s] w (NumPost (insB s) w) := by
  unfold maxLen at hs
  have HD := Lib.hid (insB_ref s)
  have HB0 := Lib.hid (Below.refl w.heap.size w)
  by_cases hsz : s.size = 16
  case neg =>
    have hz' : ((s.size : Int) != 16) = true := by simp; omega
    have HR : Hid (insB s = (0, 1)) := by show _ = _; rw [HD.out, if_pos (.inl hsz)]
    clear hsz HD
    go_enter Tryz.func61, Tryz.ntmps61
    go_wp2_with fail
    go_ret2
    exact ⟨by rw [HR.out]; rfl, HB0.out⟩
  have hz' : ((s.size : Int) != 16) = false := by simp; omega
  have l2 : 10 < s.size := by omega
  have l2' : (10 : Int) < (s.size : Int) := by omega
  have t1 : 10 ≤ s.size := by omega
  have t2 : 11 ≤ s.size := by omega
  have t1' : (10 : Int) ≤ (s.size : Int) := by omega
  have t2' : (11 : Int) ≤ (s.size : Int) := by omega
  have HB2 := Lib.hid (byteAt_eq s 10 l2)
  have HSZ := Lib.hid hsz
  clear hsz
  by_cases h2 : byteAt s 10 = 32
  case neg =>
    have h2' : ((s[10].toNat : Int) != 32) = true := by rw [HB2.out]; simpa using h2
    have HR : Hid (insB s = (0, 1)) := by show _ = _; rw [HD.out, if_pos (.inr h2)]
    clear h2 HD
    go_enter Tryz.func61, Tryz.ntmps61
    go_wp2_with fail
    go_ret2
    exact ⟨by rw [HR.out]; rfl, HB0.out⟩
  have h2' : ((s[10].toNat : Int) != 32) = false := by rw [HB2.out]; simpa using h2
  rw [if_neg (by rintro (h | h); exact h HSZ.out; exact h h2)] at HD
  have HPDt := Lib.hid (parseDateR_any (s.extract 0 10) w (by rw [size_sub t1]; unfold maxLen; omega))
  have HPC : Hid (∀ V : World, Calls Tryz.prog 102 #[.string (s.extract 11 s.size)] V (NumPost (clockB (s.extract 11 s.size)) V)) := fun V => parseClockR_any _ V (by rw [size_sub (Nat.le_refl _)]; unfold maxLen; omega)
  have HVD := Lib.hid (dateB_valid (s := s.extract 0 10))
  have hcb := clockB_bd (s.extract 11 s.size)
  generalize dateB (s.extract 0 10) = D at *
  generalize clockB (s.extract 11 s.size) = C at *
  obtain ⟨⟨y, m, d⟩, e0⟩ := D
  obtain ⟨cl, f0⟩ := C
  simp only at HD HPDt HPC HVD hcb
  clear h2 HB2 HSZ
  go_enter Tryz.func61, Tryz.ntmps61
  go_wp2_with fail
  refine HPDt.out.mono ?_
  rintro e w2 ⟨rfl, hbw2⟩
  clear HPDt
  have hbA := hbw2.alloc hbw2.size (.cells #[.int .i64 y, .int .i64 m, .int .i64 d] 133)
  have hrA := heap_alloc_new w2 (.cells #[.int .i64 y, .int .i64 m, .int .i64 d] 133)
  have hzA : (w2.alloc (.cells #[.int .i64 y, .int .i64 m, .int .i64 d] 133)).heap.size = w2.heap.size + 1 := by simp
  have HBA := Lib.hid hbA; have HRA := Lib.hid hrA; have HZA := Lib.hid hzA
  clear hbA hrA hzA
  go_wp2_with fail
  generalize w2.alloc (.cells #[.int .i64 y, .int .i64 m, .int .i64 d] 133) = V at *
  refine (HPC.out V).mono ?_
  rintro e w3 ⟨rfl, hb3⟩
  have hbw3 : Below w.heap.size w w3 := HBA.out.trans (hb3.mono HBA.out.size)
  have hr3 := (hb3.block w2.heap.size (by have := HZA.out; omega)).trans HRA.out
  clear HPC hb3
  by_cases he : e0 = 1
  · have he' : (e0 == 1) = true := by simpa using he
    have HR : Hid (insB s = (0, 1)) := by show _ = _; rw [HD.out, if_pos (.inl he)]
    clear he HD hr3
    go_wp2_with fail
    go_ret2
    exact ⟨by rw [HR.out]; rfl, hbw3⟩
  have he' : (e0 == 1) = false := by simpa using he
  by_cases hf : f0 = 1
  · have hf' : (f0 == 1) = true := by simpa using hf
    have HR : Hid (insB s = (0, 1)) := by show _ = _; rw [HD.out, if_pos (.inr hf)]
    clear he hf HD hr3
    go_wp2_with fail
    go_ret2
    exact ⟨by rw [HR.out]; rfl, hbw3⟩
  have hf' : (f0 == 1) = false := by simpa using hf
  rw [if_neg (by rintro (h | h); exact he h; exact hf h)] at HD
  by_cases he2 : e0 = 0
  case neg =>
    have he2' : (e0 != 0) = true := by simpa using he2
    have HR : Hid (insB s = (0, 5)) := by show _ = _; rw [HD.out, if_pos (.inl he2)]
    clear he2 he hf HD hr3
    go_wp2_with fail
    go_ret2
    exact ⟨by rw [HR.out]; rfl, hbw3⟩
  by_cases hf2 : f0 = 0
  case neg =>
    subst he2
    have hf2' : (f0 != 0) = true := by simpa using hf2
    have HR : Hid (insB s = (0, 5)) := by show _ = _; rw [HD.out, if_pos (.inr hf2)]
    clear hf2 he hf HD hr3
    go_wp2_with fail
    go_ret2
    exact ⟨by rw [HR.out]; rfl, hbw3⟩
  subst he2 hf2
  rw [if_neg (by simp)] at HD
  have hdv := HVD.out rfl
  have hdb := dayB_bd hdv
  obtain ⟨⟨v1, v2⟩, ⟨v3, v4⟩, v5, v6⟩ := validB_iff.1 hdv
  have hmd := mDays_bd y m
  have x0 := block_cell hr3 0; have x1 := block_cell hr3 1; have x2 := block_cell hr3 2
  have HDN := Lib.hid (dayNumberR_any y m d w3 (by omega))
  have HDE : Hid (dayN y m d = (dayB y m d, 0)) := by show _ = _; unfold dayN; rw [if_pos hdv]
  rw [HDE.out] at HDN
  generalize dayB y m d = dn at *
  clear hr3 hdv HVD
  go_wp2_with fail
  refine HDN.out.mono ?_
  rintro e w4 ⟨rfl, hb4⟩
  have hbw4 : Below w.heap.size w w4 := hbw3.trans (hb4.mono hbw3.size)
  clear HDN hb4 x0 x1 x2
  by_cases h1 : 1440 * dn + cl < 0
  · have HR : Hid (insB s = (0, 5)) := by show _ = _; rw [HD.out, if_pos (.inl h1)]
    go_wp2_with fail
    go_ret2
    exact ⟨by rw [HR.out]; rfl, hbw4⟩
  by_cases h2 : 52596000 ≤ 1440 * dn + cl
  · have HR : Hid (insB s = (0, 5)) := by show _ = _; rw [HD.out, if_pos (.inr h2)]
    go_wp2_with fail
    go_ret2
    exact ⟨by rw [HR.out]; rfl, hbw4⟩
  have HR : Hid (insB s = (1440 * dn + cl, 0)) := by show _ = _; rw [HD.out, if_neg (by rintro (h | h); exact h1 h; exact h2 h)]
  go_wp2_with fail
  go_ret2
  exact ⟨by rw [HR.out]; rfl, hbw4⟩
end Go.Proofs.YtldeoaddogifpaaGreatDoor
