/-
  Data in memory that stands: how a datum lies in cells; slices as lists; rows that grow.
  No condition.
-/
import Derived.Test.YthldmlfpebgojaaGreatDoorQT
namespace Go.Proofs.YthldmlfpebgojaaGreatDoor
set_option linter.unusedSimpArgs false
set_option linter.unusedVariables false
open Go.RowKit Go

theorem rdT_len {B : St} {b o n : Nat} {cs : List Value} (h : rdT B b o n = some cs) : cs.length = n := by
  have h1 : rd ⟨B, 0⟩ b o n = some cs := h
  obtain ⟨_, _, _, h2, _⟩ := rd_some h1
  exact h2
/-- A part of what can be read. -/
theorem rdT_part {B : St} {b o n : Nat} {cs : List Value} (h : rdT B b o n = some cs) {k m : Nat} (hkm : k + m ≤ n) : rdT B b (o + k) m = some ((cs.drop k).take m) := by
  have h1 : rd ⟨B, 0⟩ b o n = some cs := h
  obtain ⟨X, h2, h3, h4, h5⟩ := rd_some h1
  have hX : B.get b = some X := h2
  unfold rdT
  rw [hX]
  simp only
  have hlen : o + n ≤ X.cells.length ∨ n = 0 := by
    rw [h3, List.length_take, List.length_drop] at h4
    omega
  have hc : cut X.cells (o + k) m = some ((cs.drop k).take m) := by
    unfold cut
    rw [takeK_eq, dropN_eq]
    have e : (cs.drop k).take m = (X.cells.drop (o + k)).take m := by
      rw [h3, List.drop_take, List.drop_drop, List.take_take, Nat.min_eq_left (by omega)]
    rw [if_pos, e]
    · rfl
    · rw [List.length_drop]
      rcases hlen with h | h <;> omega
  rw [hc]
  unfold rdK
  simp only
  have : (Nat.blt 0 X.sz || ((cs.drop k).take m).all ok1) = true := by
    rw [Bool.or_eq_true]
    rcases h5 with h5 | h5
    · exact .inl (Nat.ble_eq_true_of_le h5)
    · right
      rw [List.all_eq_true]
      exact fun u hu => h5 u (List.mem_of_mem_drop (List.mem_of_mem_take hu))
  rw [this]
  rfl
/-- How a datum lies in cells. -/
structure Dt (α : Type) where
  size : Nat
  rep : St → List Value → α → Prop
  pos : 0 < size
  len : ∀ {B cs x}, rep B cs x → cs.length = size
  ge : ∀ {B B' cs x}, Ge B B' → rep B cs x → rep B' cs x
  fl : ∀ {B cs x}, rep B cs x → cs.all fl1 = true
def Dt.int (k : IntKind) : Dt Int := ⟨1, fun _ cs x => cs = [.int k x], by decide, fun h => by rw [h]; rfl, fun _ h => h, fun h => by rw [h]; rfl⟩
def Dt.bool : Dt Bool := ⟨1, fun _ cs x => cs = [.bool x], by decide, fun h => by rw [h]; rfl, fun _ h => h, fun h => by rw [h]; rfl⟩
def Dt.str : Dt ByteArray := ⟨1, fun _ cs x => cs = [.string x], by decide, fun h => by rw [h]; rfl, fun _ h => h, fun h => by rw [h]; rfl⟩
/-- Cells that hold a list of data. -/
def Rows {α : Type} (t : Dt α) (B : St) (cs : List Value) (xs : List α) : Prop := cs.length = xs.length * t.size ∧ ∀ (i : Nat) x, xs[i]? = some x → t.rep B ((cs.drop (i * t.size)).take t.size) x
/-- A slice's parts read as a list. -/
def Sq {α : Type} (t : Dt α) (B : St) (A : Option Addr) (n c : Nat) (xs : List α) : Prop :=
  n = xs.length ∧ n ≤ c ∧ (A = none ∨ ∃ b o, A = some ⟨b, o, none⟩) ∧ (0 < n → ∃ b o cs, A = some ⟨b, o, none⟩ ∧ rdT B b o (n * t.size) = some cs ∧ Rows t B cs xs)
section
variable {α : Type} {t : Dt α} {B B' : St} {A : Option Addr} {n c : Nat} {xs : List α} {cs : List Value}
theorem Rows.nil : Rows t B [] [] := ⟨by simp, fun i x h => by simp at h⟩
theorem Rows.ge (h : Rows t B cs xs) (hB : Ge B B') : Rows t B' cs xs := ⟨h.1, fun i x hi => t.ge hB (h.2 i x hi)⟩
theorem Rows.app {ds : List Value} {ys : List α} (h : Rows t B cs xs) (k : Rows t B ds ys) : Rows t B (cs ++ ds) (xs ++ ys) := by
  refine ⟨by rw [List.length_append, List.length_append, h.1, k.1, Nat.add_mul], fun i x hi => ?_⟩
  by_cases hlt : i < xs.length
  · rw [List.getElem?_append_left hlt] at hi
    have h2 := h.2 i x hi
    have h3 : i * t.size + t.size ≤ cs.length := by
      rw [h.1, ← Nat.succ_mul]
      exact Nat.mul_le_mul_right _ hlt
    rwa [List.drop_append_of_le_length (by omega), List.take_append_of_le_length (by rw [List.length_drop]; omega)]
  · rw [List.getElem?_append_right (by omega)] at hi
    have h2 := k.2 (i - xs.length) x hi
    have e : i * t.size = cs.length + (i - xs.length) * t.size := by
      rw [h.1, ← Nat.add_mul]
      congr 1
      omega
    rw [e, List.drop_append, List.drop_eq_nil_of_le (by omega), List.nil_append, Nat.add_sub_cancel_left]
    exact h2
theorem Rows.one {y : α} (h : t.rep B cs y) : Rows t B cs [y] := ⟨by rw [t.len h]; simp, fun i x hi => by
  rcases i with _ | i
  · have : y = x := by simpa using hi
    subst this
    rw [Nat.zero_mul, List.drop_zero, ← t.len h, List.take_length]
    exact h
  · simp at hi⟩
theorem Rows.snoc {y : α} {ds : List Value} (h : Rows t B cs xs) (k : t.rep B ds y) : Rows t B (cs ++ ds) (xs ++ [y]) := h.app (.one k)
theorem Rows.fl (h : Rows t B cs xs) : cs.all fl1 = true := by
  rw [List.all_eq_true]
  intro u hu
  obtain ⟨j, hj⟩ := List.getElem?_of_mem hu
  have hlt := (List.getElem?_eq_some_iff.1 hj).1
  have hp := t.pos
  have hi : j / t.size < xs.length := by rw [Nat.div_lt_iff_lt_mul hp, ← h.1]; exact hlt
  have h1 := t.fl (h.2 _ _ (List.getElem?_eq_getElem hi))
  rw [List.all_eq_true] at h1
  refine h1 u (List.mem_of_getElem? (i := j % t.size) ?_)
  rw [List.getElem?_take, if_pos (Nat.mod_lt _ hp), List.getElem?_drop, Nat.mul_comm, Nat.div_add_mod]
  exact hj
theorem Sq.ge (h : Sq t B A n c xs) (hB : Ge B B') : Sq t B' A n c xs := by
  obtain ⟨h1, h2, h3, h4⟩ := h
  refine ⟨h1, h2, h3, fun hn => ?_⟩
  obtain ⟨b, o, cs, e, hr, hx⟩ := h4 hn
  exact ⟨b, o, cs, e, rdT_ge hB hr, hx.ge hB⟩
theorem Sq.nil (A : Option Addr) (hA : A = none ∨ ∃ b o, A = some ⟨b, o, none⟩) (c : Nat) : Sq t B A 0 c [] := ⟨rfl, Nat.zero_le _, hA, fun h => absurd h (by omega)⟩
theorem Sq.nil0 : Sq t B none 0 0 [] := Sq.nil none (.inl rfl) 0
theorem Sq.len (h : Sq t B A n c xs) : n = xs.length := h.1
theorem Sq.at_ (h : Sq t B A n c xs) {k : Nat} (hk : k < xs.length) : ∃ b o, A = some ⟨b, o, none⟩ ∧ ∃ cs, rdT B b (o + k * t.size) t.size = some cs ∧ t.rep B cs xs[k] := by
  obtain ⟨h1, h2, h3, h4⟩ := h
  obtain ⟨b, o, cs, e, hr, hx⟩ := h4 (by omega)
  have hle : k * t.size + t.size ≤ n * t.size := by
    rw [← Nat.succ_mul, h1]
    exact Nat.mul_le_mul_right _ hk
  exact ⟨b, o, e, _, rdT_part hr hle, hx.2 k _ (List.getElem?_eq_getElem hk)⟩
theorem Sq.int_at {k : IntKind} {xs : List Int} (h : Sq (Dt.int k) B A n c xs) {i : Nat} (hi : i < xs.length) : ∃ b o, A = some ⟨b, o, none⟩ ∧ rdT B b (o + i * 1) 1 = some [.int k xs[i]] := by
  obtain ⟨b, o, e, cs, hr, hx⟩ := h.at_ hi
  have hx : cs = [.int k xs[i]] := hx
  subst hx
  exact ⟨b, o, e, hr⟩
theorem Sq.str_at {xs : List ByteArray} (h : Sq Dt.str B A n c xs) {i : Nat} (hi : i < xs.length) : ∃ b o, A = some ⟨b, o, none⟩ ∧ rdT B b (o + i * 1) 1 = some [.string xs[i]] := by
  obtain ⟨b, o, e, cs, hr, hx⟩ := h.at_ hi
  have hx : cs = [.string xs[i]] := hx
  subst hx
  exact ⟨b, o, e, hr⟩
/-- A row that grew, as a slice. -/
theorem Sq.of_row {b el : Nat} (hg : B.get b = some ⟨cs, el, t.size⟩) (h : Rows t B cs xs) : Sq t B (some ⟨b, 0, none⟩) xs.length xs.length xs := by
  refine ⟨rfl, Nat.le_refl _, .inr ⟨_, _, rfl⟩, fun _ => ⟨b, 0, cs, rfl, ?_, h⟩⟩
  unfold rdT
  rw [hg]
  simp only
  have hc : cut cs 0 (xs.length * t.size) = some cs := by
    unfold cut
    rw [takeK_eq, dropN_eq, List.drop_zero, if_pos (by rw [h.1]; exact Nat.le_refl _), ← h.1, List.take_length]
    rfl
  rw [hc]
  unfold rdK
  simp only
  rw [show Nat.blt 0 t.size = true from Nat.ble_eq_true_of_le t.pos]
  rfl
end
def Dt.slice {α : Type} (t : Dt α) : Dt (List α) := ⟨1, fun B cs xs => ∃ A n c, cs = [.slice A n c] ∧ Sq t B A n c xs, by decide, by rintro _ _ _ ⟨_, _, _, rfl, _⟩; rfl, by rintro _ _ _ _ hB ⟨_, _, _, rfl, h⟩; exact ⟨_, _, _, rfl, h.ge hB⟩, by rintro _ _ _ ⟨_, _, _, rfl, _⟩; rfl⟩
theorem i64_in {a : Int} (h : -9223372036854775808 ≤ a ∧ a ≤ 9223372036854775807) : IntKind.i64.wrap a = a := IntWalk.i64_in a h
section
variable {P : Program} {o : Oper} {L : Loc} {T U : TypeId} {x y : Operand} {a b : Int}
/-- Sums that fit. -/
theorem OPure.addi {r : Int} (ho : o.op = .binOp .add T x y U) (hx : opvL L x = some (.int .i64 a)) (hy : opvL L y = some (.int .i64 b)) (hr : a + b = r) (hi : -9223372036854775808 ≤ r ∧ r ≤ 9223372036854775807) : OPure P o L (.int .i64 r) := by
  have h := OPure.add (P := P) ho hx hy
  rwa [hr, i64_in hi] at h
theorem OPure.subi {r : Int} (ho : o.op = .binOp .sub T x y U) (hx : opvL L x = some (.int .i64 a)) (hy : opvL L y = some (.int .i64 b)) (hr : a - b = r) (hi : -9223372036854775808 ≤ r ∧ r ≤ 9223372036854775807) : OPure P o L (.int .i64 r) := by
  have h := OPure.sub (P := P) ho hx hy
  rwa [hr, i64_in hi] at h
end
/-- A call by its body, the parts named. -/
theorem EvP.go {P : Program} {f : FuncId} {fn : Func} {c : Code} {N : Nat} {rs : Array ResultVar} {args : List Value} {B : St} {R : Value → St → Prop} (hf : P.funcs[f]? = some fn) (hb : fn.body = some c) (hN : fn.ntmps = N) (hr : fn.results = rs) (hn : (Nat.ble args.length N && Nat.ble N 512) = true)
    (K0 : Hp) (hK : K0.all Option.isNone = true) (h : J P N B K0 (argsL 0 args) c (retJ P rs.toList R)) (hd : clFns.any (Nat.beq f) = false := by rfl) : EvP P f args B R := by
  subst hN hr
  have key : ∀ (args : List Value) (k : Nat) (p : Nat × Value), p ∈ argsL k args → k ≤ p.1 ∧ look (argsL k args) p.1 = some p.2 := by
    intro args
    induction args with
    | nil => intro k p hp; cases hp
    | cons x xs ih =>
      intro k p hp
      rcases List.mem_cons.1 hp with e | hp
      · subst e
        exact ⟨Nat.le_refl _, by unfold argsL look; simp⟩
      · obtain ⟨h1, h2⟩ := ih (k + 1) p hp
        refine ⟨by omega, ?_⟩
        unfold argsL look
        rw [show Nat.beq k p.1 = false from by
          cases hb : Nat.beq k p.1 with
          | true => have := Nat.eq_of_beq_eq_true hb; omega
          | false => rfl]
        exact h2
  refine EvP.enter hd hf hb hn (h.less (Subs.refl _ _ (fun _ _ h => h) fun p hp => (key args 0 p hp).2) fun p b X hp => ?_)
  · have := List.all_eq_true.1 hK _ (at_mem hp)
    cases this
end Go.Proofs.YthldmlfpebgojaaGreatDoor
