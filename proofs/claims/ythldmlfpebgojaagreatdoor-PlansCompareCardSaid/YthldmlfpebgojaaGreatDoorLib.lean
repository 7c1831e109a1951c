/-
  Plain words for memory: a descriptor 'Ty' says how a Lean datum lies in the cells of a world, inside a given set of blocks; slices, owned rows, and how these facts are kept.
  No condition.
-/
import Derived.WalkKit
import Derived.WalkLawsBesides
import Derived.WalkSpells
import Derived.Lib.Hide
import Derived.Maps.AppendAt
namespace Go.Proofs.YthldmlfpebgojaaGreatDoor
set_option linter.unusedSimpArgs false
set_option linter.unusedVariables false
open Go.RowKit

/-- How data of type α lie in memory: how many cells, and what the cells say in a world, all further blocks in S. -/
structure Ty (α : Type) where
  size : Nat
  rep : World → (Nat → Prop) → List Value → α → Prop
  ok : α → Prop
  pos : 0 < size
  len : ∀ {w S cs x}, rep w S cs x → cs.length = size
  keep : ∀ {w w' S cs x}, rep w S cs x → (∀ b, S b → w'.heap[b]? = w.heap[b]?) → rep w' S cs x
  more : ∀ {w S S' cs x}, rep w S cs x → (∀ b, S b → S' b) → rep w S' cs x
  one : ∀ {w S cs x}, rep w S cs x → ∀ u ∈ cs, u.oneCell' = true

def Ty.str : Ty ByteArray := {
  size := 1
  rep := fun _ _ cs x => cs = [.string x]
  ok := fun x => x.size ≤ maxLen
  pos := by decide
  len := fun h => by rw [h]; rfl
  keep := fun h _ => h
  more := fun h _ => h
  one := fun h u hu => by rw [h] at hu; simp at hu; subst hu; rfl }
def Ty.int (k : IntKind) : Ty Int := {
  size := 1
  rep := fun _ _ cs x => cs = [.int k x]
  ok := fun x => k.min ≤ x ∧ x ≤ k.max
  pos := by decide
  len := fun h => by rw [h]; rfl
  keep := fun h _ => h
  more := fun h _ => h
  one := fun h u hu => by rw [h] at hu; simp at hu; subst hu; rfl }
def Ty.bool : Ty Bool := {
  size := 1
  rep := fun _ _ cs x => cs = [.bool x]
  ok := fun _ => True
  pos := by decide
  len := fun h => by rw [h]; rfl
  keep := fun h _ => h
  more := fun h _ => h
  one := fun h u hu => by rw [h] at hu; simp at hu; subst hu; rfl }

theorem cell_of_same {w w' : World} {a : Addr} (h : w'.heap[a.block]? = w.heap[a.block]?) : w'.cell? a = w.cell? a := World.cell?_of_block h

theorem addr_add (b o n : Nat) : (⟨b, o, none⟩ : Addr).add n = ⟨b, o + n, none⟩ := by
  unfold Addr.add
  split <;> simp_all

/-- The cells of block b from offset o on. -/
def At (w : World) (b o : Nat) (cs : List Value) : Prop := ∀ j u, cs[j]? = some u → w.cell? ⟨b, o + j, none⟩ = some u
theorem At.keep {w w' : World} {b o : Nat} {cs : List Value} (h : At w b o cs) (hk : w'.heap[b]? = w.heap[b]?) : At w' b o cs :=
  fun j u hu => (cell_of_same (a := ⟨b, o + j, none⟩) hk).trans (h j u hu)

/-- A slice value's three parts read as a list. -/
def Sl {α : Type} (t : Ty α) (w : World) (S : Nat → Prop) (A : Option Addr) (n c : Nat) (xs : List α) : Prop :=
  n = xs.length ∧ n ≤ c ∧ c ≤ maxLen ∧
    (0 < n → ∃ b o, A = some ⟨b, o, none⟩ ∧ S b ∧ ∀ i x, xs[i]? = some x → ∃ cs, t.rep w S cs x ∧ At w b (o + i * t.size) cs)

section
variable {α : Type} {t : Ty α} {w w' : World} {S S' : Nat → Prop} {A : Option Addr} {n c : Nat} {xs : List α}
theorem Sl.nil (A : Option Addr) (hc : c ≤ maxLen) : Sl t w S A 0 c [] := ⟨rfl, Nat.zero_le _, hc, fun h => absurd h (by omega)⟩
theorem Sl.nil0 : Sl t w S none 0 0 [] := Sl.nil none (Nat.zero_le _)
theorem Sl.keep (h : Sl t w S A n c xs) (hk : ∀ b, S b → w'.heap[b]? = w.heap[b]?) : Sl t w' S A n c xs := by
  obtain ⟨h1, h2, h3, h4⟩ := h
  refine ⟨h1, h2, h3, fun hn => ?_⟩
  obtain ⟨b, o, e, hs, hx⟩ := h4 hn
  refine ⟨b, o, e, hs, fun i x hi => ?_⟩
  obtain ⟨cs, hr, ha⟩ := hx i x hi
  exact ⟨cs, t.keep hr hk, ha.keep (hk _ hs)⟩
theorem Sl.more (h : Sl t w S A n c xs) (hk : ∀ b, S b → S' b) : Sl t w S' A n c xs := by
  obtain ⟨h1, h2, h3, h4⟩ := h
  refine ⟨h1, h2, h3, fun hn => ?_⟩
  obtain ⟨b, o, e, hs, hx⟩ := h4 hn
  refine ⟨b, o, e, hk _ hs, fun i x hi => ?_⟩
  obtain ⟨cs, hr, ha⟩ := hx i x hi
  exact ⟨cs, t.more hr hk, ha⟩
theorem Sl.len (h : Sl t w S A n c xs) : n = xs.length := h.1
theorem Sl.le (h : Sl t w S A n c xs) : n ≤ maxLen := Nat.le_trans h.2.1 h.2.2.1
theorem Sl.at_ (h : Sl t w S A n c xs) {k : Nat} (hk : k < xs.length) : ∃ b o cs, A = some ⟨b, o, none⟩ ∧ S b ∧ t.rep w S cs xs[k] ∧ At w b (o + k * t.size) cs := by
  obtain ⟨h1, h2, h3, h4⟩ := h
  obtain ⟨b, o, e, hs, hx⟩ := h4 (by omega)
  obtain ⟨cs, hr, ha⟩ := hx k _ (List.getElem?_eq_getElem hk)
  exact ⟨b, o, cs, e, hs, hr, ha⟩
end

def Ty.slice {α : Type} (t : Ty α) : Ty (List α) := {
  size := 1
  rep := fun w S cs xs => ∃ A n c, cs = [.slice A n c] ∧ Sl t w S A n c xs
  ok := fun xs => ∀ x ∈ xs, t.ok x
  pos := by decide
  len := by rintro _ _ _ _ ⟨_, _, _, rfl, _⟩; rfl
  keep := by rintro _ _ _ _ _ ⟨_, _, _, rfl, h⟩ hk; exact ⟨_, _, _, rfl, h.keep hk⟩
  more := by rintro _ _ _ _ _ ⟨_, _, _, rfl, h⟩ hk; exact ⟨_, _, _, rfl, h.more hk⟩
  one := by rintro _ _ _ _ ⟨_, _, _, rfl, _⟩ u hu; simp at hu; subst hu; rfl }

/-- All blocks that a world has. -/
def all_ (w : World) : Nat → Prop := fun b => b < w.heap.size
theorem all_keep {w w' : World} (h : Below w.heap.size w w') : ∀ b, all_ w b → w'.heap[b]? = w.heap[b]? := fun b hb => h.block b hb
theorem all_more {w w' : World} (h : Below w.heap.size w w') : ∀ b, all_ w b → all_ w' b := fun _ hb => Nat.lt_of_lt_of_le hb h.size

section
variable {α : Type} {t : Ty α} {w w' : World} {A : Option Addr} {n c : Nat} {xs : List α}
theorem Sl.next (h : Sl t w (all_ w) A n c xs) (hb : Below w.heap.size w w') : Sl t w' (all_ w') A n c xs := (h.keep (all_keep hb)).more (all_more hb)
theorem Sl.str_at {xs : List ByteArray} {S : Nat → Prop} (h : Sl Ty.str w S A n c xs) {k : Nat} (hk : k < xs.length) : ∃ b o, A = some ⟨b, o, none⟩ ∧ S b ∧ w.cell? ⟨b, o + k, none⟩ = some (.string xs[k]) := by
  obtain ⟨b, o, cs, e, hs, hr, ha⟩ := h.at_ hk
  have hr' : cs = [.string xs[k]] := hr
  subst hr'
  have := ha 0 _ rfl
  simp only [Ty.str, Nat.mul_one, Nat.add_zero] at this
  exact ⟨b, o, e, hs, this⟩
theorem Sl.int_at {κ : IntKind} {xs : List Int} {S : Nat → Prop} (h : Sl (Ty.int κ) w S A n c xs) {k : Nat} (hk : k < xs.length) : ∃ b o, A = some ⟨b, o, none⟩ ∧ S b ∧ w.cell? ⟨b, o + k, none⟩ = some (.int κ xs[k]) := by
  obtain ⟨b, o, cs, e, hs, hr, ha⟩ := h.at_ hk
  have hr' : cs = [.int κ xs[k]] := hr
  subst hr'
  have := ha 0 _ rfl
  simp only [Ty.int, Nat.mul_one, Nat.add_zero] at this
  exact ⟨b, o, e, hs, this⟩
/-- A row of one-cell data that the call owns, as a slice. -/
theorem Sl.of_own {f : α → Value} {base : Nat} {e : TypeId} {v : Value} (hsz : t.size = 1) (hrep : ∀ w S x, t.rep w S [f x] x) (h : w.ownsRow base e 1 v n (xs.map f)) (hn : n = xs.length) :
    ∃ A c, v = .slice A n c ∧ Sl t w (fun b => base ≤ b ∧ b < w.heap.size) A n c xs := by
  subst hn
  rcases h.2 with ⟨rfl, h0⟩ | ⟨g, cap, cur, rfl, hb, hg, hnc, hm, _⟩
  · rw [h0]
    rw [List.eq_nil_of_length_eq_zero h0]
    exact ⟨none, 0, rfl, Sl.nil0⟩
  · refine ⟨_, _, rfl, rfl, hnc, hm, fun _ => ⟨_, _, rfl, ⟨hb, (Array.getElem?_eq_some_iff.1 hg).1⟩, fun i x hi => ⟨[f x], hrep _ _ _, fun j u hu => ?_⟩⟩⟩
    have hj : j = 0 := by
      rcases j with _ | j
      · rfl
      · simp at hu
    subst hj
    simp at hu
    subst hu
    have := h.cells (g := g) rfl i (f x) (by rw [List.getElem?_map, hi]; rfl)
    rw [addr_add] at this
    rw [hsz, Nat.mul_one, Nat.add_zero]
    exact this
end

/-- A slice type with its element's row in the table of types. -/
def Elem (P : Program) (T e : TypeId) (size bytes : Nat) : Prop :=
  P.underlying T = some (.slice e) ∧ (P.info? e).map (fun i => (i.zero.map (fun z => z.cells.size), i.size, i.bytes)) = some (some size, size, bytes)
theorem Elem.parts {P : Program} {T e : TypeId} {size bytes : Nat} (h : Elem P T e size bytes) : ∃ i z, P.info? e = some i ∧ i.zero = some z ∧ i.size = size ∧ i.bytes = bytes ∧ z.cells.size = size := by
  obtain ⟨_, h2⟩ := h
  rw [Option.map_eq_some_iff] at h2
  obtain ⟨i, hi, h3⟩ := h2
  simp only [Prod.mk.injEq, Option.map_eq_some_iff] at h3
  obtain ⟨⟨z, hz, hzs⟩, h4, h5⟩ := h3
  exact ⟨i, z, hi, hz, h4, h5, hzs⟩

/-- Cells that hold a list of data, one behind the other. -/
def RepAll {α : Type} (t : Ty α) (w : World) (S : Nat → Prop) (cs : List Value) (xs : List α) : Prop :=
  cs.length = xs.length * t.size ∧ ∀ i x, xs[i]? = some x → t.rep w S ((cs.drop (i * t.size)).take t.size) x
theorem RepAll.nil {α : Type} (t : Ty α) (w : World) (S : Nat → Prop) : RepAll t w S [] [] := ⟨by simp, fun i x h => by simp at h⟩
theorem RepAll.keep {α : Type} {t : Ty α} {w w' : World} {S S' : Nat → Prop} {cs : List Value} {xs : List α} (h : RepAll t w S cs xs) (hk : ∀ b, S b → w'.heap[b]? = w.heap[b]?) (hm : ∀ b, S b → S' b) : RepAll t w' S' cs xs :=
  ⟨h.1, fun i x hi => t.more (t.keep (h.2 i x hi) hk) hm⟩
theorem RepAll.snoc {α : Type} {t : Ty α} {w : World} {S : Nat → Prop} {cs c1 : List Value} {xs : List α} {y : α} (h : RepAll t w S cs xs) (hy : t.rep w S c1 y) : RepAll t w S (cs ++ c1) (xs ++ [y]) := by
  have hl := t.len hy
  refine ⟨by rw [List.length_append, List.length_append, h.1, hl, List.length_singleton, Nat.add_mul, Nat.one_mul], fun i x hi => ?_⟩
  have hle : i ≤ xs.length := by
    have := (List.getElem?_eq_some_iff.1 hi).1
    simp at this
    omega
  rcases Nat.lt_or_eq_of_le hle with hlt | rfl
  · have h1 : xs[i]? = some x := by rwa [List.getElem?_append_left hlt] at hi
    have h2 := h.2 i x h1
    have h3 : i * t.size + t.size ≤ cs.length := by
      rw [h.1, ← Nat.succ_mul]
      exact Nat.mul_le_mul_right _ hlt
    rwa [List.drop_append_of_le_length (by omega), List.take_append_of_le_length (by rw [List.length_drop]; omega)]
  · have h1 : x = y := by simpa using hi.symm
    subst h1
    rw [← h.1, List.drop_left, ← hl, List.take_length]
    exact hy

/-- The call's own row: the slice v holds xs; the row and all that its elements reach lie in blocks from base on, and no element reaches the row itself. -/
def Own {α : Type} (t : Ty α) (e : TypeId) (w : World) (base : Nat) (v : Value) (xs : List α) : Prop :=
  ∃ cs, w.ownsRow base e t.size v xs.length cs ∧ RepAll t w (fun b => base ≤ b ∧ b < w.heap.size ∧ some b ≠ v.ownBlock) cs xs
section
variable {α : Type} {t : Ty α} {e : TypeId} {w w' : World} {base : Nat} {v : Value} {xs : List α}
theorem Own.nil : Own t e w base (.slice none 0 0) ([] : List α) := ⟨[], World.ownsRow_nil _ _ _ _, RepAll.nil _ _ _⟩
theorem Own.lt (h : Own t e w base v xs) : ∀ k, v.ownBlock = some k → base ≤ k ∧ k < w.heap.size := by
  obtain ⟨cs, h1, _⟩ := h
  exact h1.lt
theorem Own.next (h : Own t e w base v xs) (hb : Below w.heap.size w w') : Own t e w' base v xs := by
  have hlt := h.lt
  obtain ⟨cs, h1, h2⟩ := h
  refine ⟨cs, h1.kept (row := none) ⟨hb.os, hb.tape, hb.output, hb.size, fun k hk _ => hb.block k hk⟩ (by cases v.ownBlock <;> simp), h2.keep (fun b hS => hb.block b hS.2.1) fun b hS => ⟨hS.1, Nat.lt_of_lt_of_le hS.2.1 hb.size, hS.2.2⟩⟩
theorem Own.lower (h : Own t e w base v xs) {base' : Nat} (hb : base' ≤ base) : Own t e w base' v xs := by
  obtain ⟨cs, h1, h2⟩ := h
  refine ⟨cs, ⟨h1.1, ?_⟩, h2.keep (fun _ _ => rfl) fun b hS => ⟨Nat.le_trans hb hS.1, hS.2⟩⟩
  rcases h1.2 with h3 | ⟨g, cap, cur, hv, hg, r⟩
  · exact .inl h3
  · exact .inr ⟨g, cap, cur, hv, Nat.le_trans hb hg, r⟩
theorem Own.alloc (h : Own t e w base v xs) (o : Obj) : Own t e (w.alloc o) base v xs := h.next ((Below.refl _ _).alloc (Nat.le_refl _) o)
theorem Own.drewN (h : Own t e w base v xs) (n : Nat) : Own t e (w.drewN n) base v xs := h.next ⟨rfl, rfl, rfl, Nat.le_refl _, fun _ _ => rfl⟩
theorem Own.sl (h : Own t e w base v xs) : ∃ A c, v = .slice A xs.length c ∧ Sl t w (fun b => base ≤ b ∧ b < w.heap.size) A xs.length c xs := by
  obtain ⟨cs, h1, h2⟩ := h
  rcases h1.2 with ⟨rfl, h0⟩ | ⟨g, cap, cur, rfl, hb, hg, hnc, hm, hcur, htake⟩
  · rw [h0, List.eq_nil_of_length_eq_zero h0]
    exact ⟨none, 0, rfl, Sl.nil0⟩
  · refine ⟨_, _, rfl, rfl, hnc, hm, fun _ => ⟨_, _, rfl, ⟨hb, (Array.getElem?_eq_some_iff.1 hg).1⟩, fun i x hi => ⟨_, t.more (h2.2 i x hi) fun b hS => ⟨hS.1, hS.2.1⟩, fun j u hu => ?_⟩⟩⟩
    rw [List.getElem?_take] at hu
    split at hu
    · rw [List.getElem?_drop] at hu
      have := h1.cells (g := g) rfl _ _ hu
      rw [addr_add] at this
      rw [← this]
      congr 2
      omega
    · cases hu
/-- append of one element that lies in a block of its own. -/
theorem wpList_push {P : Program} {ops : Array Oper} {rest : List Oper} {o : Oper} {a : Act} {Q : Exit → Act → World → Prop} (hgd : o.guard = none) (s x : Operand) (T : TypeId)
    (ho : o.op = .call { callee := .builtin .append, args := #[s, x], argTypes := #[T, T] }) (bytes : Nat) (he : Elem P T e t.size bytes) (hs : a.eval s = v) (hown : Own t e w base v xs)
    (g : Nat) (y : α) (S : Nat → Prop) (hx : a.eval x = .slice (some ⟨g, 0, none⟩) 1 1) (hy : ∃ cs, t.rep w S cs y ∧ At w g 0 cs) (hS : ∀ b, S b → base ≤ b ∧ b < w.heap.size ∧ some b ≠ v.ownBlock)
    (hlen : (xs.length + 1) * bytes ≤ 140737488355328) (hpos : 0 < bytes) (hbase : base ≤ w.heap.size)
    (h : ∀ v' w', Own t e w' base v' (xs ++ [y]) → w.grownBy w' v.ownBlock → wpList P ops Q rest (a.put o.dst v') w') : wpList P ops Q (o :: rest) a w := by
  obtain ⟨i, z, hi, hz, h1, h2, h3⟩ := he.parts
  obtain ⟨cs, hown1, hown2⟩ := hown
  obtain ⟨c1, hr, hat⟩ := hy
  have h63 : xs.length + 1 ≤ maxLen := by
    have := Nat.le_mul_of_pos_right (xs.length + 1) hpos
    unfold maxLen
    omega
  refine wpList_append_own_at _ hgd s x T ho base e i z t.size bytes he.1 hi hz h1 h2 h3 t.pos v xs.length cs hs hown1 ⟨g, 0, none⟩ 1 1 c1 hx (by rw [t.len hr, Nat.one_mul]) (fun j u hu => by rw [addr_add]; exact hat j u hu) (t.one hr) h63 hlen hbase ?_
  intro v' w' ho' hgr _ hv'
  refine h v' w' ⟨cs ++ c1, by simpa using ho', ?_⟩ hgr
  have hb := hgr.block
  have hsz := hgr.size
  have hS' : ∀ b, base ≤ b ∧ b < w.heap.size ∧ some b ≠ v.ownBlock → base ≤ b ∧ b < w'.heap.size ∧ some b ≠ v'.ownBlock := by
    rintro b ⟨hb1, hb2, hb3⟩
    refine ⟨hb1, Nat.lt_of_lt_of_le hb2 hsz, ?_⟩
    rcases hv' with e' | e'
    · rw [e']; exact hb3
    · rw [e']
      intro e2
      injection e2 with e2
      omega
  exact (hown2.keep (fun b hb' => hb b hb'.2.1 hb'.2.2) hS').snoc (t.more (t.keep hr fun b hb' => hb b (hS b hb').2.1 (hS b hb').2.2) fun b hb' => hS' b (hS b hb'))
end

theorem wpList_push_str {P : Program} {ops : Array Oper} {rest : List Oper} {o : Oper} {a : Act} {Q : Exit → Act → World → Prop} {w W : World} {B base : Nat} {v : Value} {xs : List ByteArray} {T e : TypeId}
    (hgd : o.guard = none) (s x : Operand) (ho : o.op = .call { callee := .builtin .append, args := #[s, x], argTypes := #[T, T] }) (he : Elem P T e 1 16) (hs : a.eval s = v) (hown : Own Ty.str e w base v xs)
    (g : Nat) (y : ByteArray) (hx : a.eval x = .slice (some ⟨g, 0, none⟩) 1 1) (hy : w.cell? ⟨g, 0, none⟩ = some (.string y)) (hlen : xs.length < 1099511627776) (hbase : base ≤ w.heap.size) (hB : B ≤ base) (hbel : Below B W w)
    (h : ∀ v' w', Own Ty.str e w' base v' (xs ++ [y]) → Below B W w' → wpList P ops Q rest (a.put o.dst v') w') : wpList P ops Q (o :: rest) a w := by
  refine wpList_push hgd s x T ho 16 he hs hown g y (fun _ => False) hx ⟨[.string y], rfl, fun j u hu => ?_⟩ (fun _ h => h.elim) (by omega) (by decide) hbase fun v' w' ho' hg => h v' w' ho' ?_
  · rcases j with _ | j
    · simp at hu; subst hu; exact hy
    · simp at hu
  · exact hbel.grown hg (by omega) fun k hk => Nat.le_trans hB (hown.lt k hk).1
theorem below_drewN {B : Nat} {a w : World} (h : Below B a w) (n : Nat) : Below B a (w.drewN n) := ⟨h.os, h.tape, h.output, h.size, h.block⟩
theorem cell_kept {w w' : World} {a : Addr} {v : Value} (h : w.cell? a = some v) (hb : Below w.heap.size w w') : w'.cell? a = some v :=
  (hb.cell (World.block_lt_of_cell? w a h)).trans h

/-- A byte of a string as an integer; 0 past the end. -/
def byteAt (s : ByteArray) (j : Nat) : Int := ((s.data.toList.getD j 0).toNat : Int)
theorem byteAt_eq (s : ByteArray) (k : Nat) (h : k < s.size) : (s[k].toNat : Int) = byteAt s k := by
  unfold byteAt
  rw [List.getD_eq_getElem?_getD, List.getElem?_eq_getElem (by simpa using h)]
  rfl
theorem byteAt_lo (s : ByteArray) (k : Nat) : 0 ≤ byteAt s k := by unfold byteAt; omega
theorem byteAt_hi (s : ByteArray) (k : Nat) : byteAt s k ≤ 255 := by
  unfold byteAt
  have := (s.data.toList.getD k 0).toNat_lt
  omega
def allTo (p : Nat → Bool) (k : Nat) : Bool := (List.range k).all p
theorem allTo_succ (p : Nat → Bool) (k : Nat) : allTo p (k + 1) = (allTo p k && p k) := by simp [allTo, List.range_succ]
theorem allTo_zero (p : Nat → Bool) : allTo p 0 = true := rfl
theorem allTo_false {p : Nat → Bool} {k n : Nat} (hk : k < n) (h : p k = false) : allTo p n = false := by
  simp only [allTo, List.all_eq_false, List.mem_range]
  exact ⟨k, hk, by simp [h]⟩
theorem allTo_iff {p : Nat → Bool} {n : Nat} : allTo p n = true ↔ ∀ k, k < n → p k = true := by simp [allTo]
theorem str_beq (a b : ByteArray) : (a.toList == b.toList) = decide (a = b) := by
  rw [ByteArray.toList_eq, ByteArray.toList_eq, Bool.eq_iff_iff, beq_iff_eq, decide_eq_true_eq]
  refine ⟨fun h => ?_, fun h => by rw [h]⟩
  obtain ⟨⟨a⟩⟩ := a
  obtain ⟨⟨b⟩⟩ := b
  have h' : a = b := h
  rw [h']
theorem ret_bool {a b : Bool} (h : a = b) : Ending.returned (.bool a) = .returned (.bool b) := by rw [h]
theorem ret_int {k : IntKind} {a b : Int} (h : a = b) : Ending.returned (.int k a) = .returned (.int k b) := by rw [h]
end Go.Proofs.YthldmlfpebgojaaGreatDoor
