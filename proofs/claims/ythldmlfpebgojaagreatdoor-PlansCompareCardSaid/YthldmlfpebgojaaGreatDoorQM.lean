/-
  Contracts as data: expressions, rules, costs; how they are read in a closed memory and in its copies.
  No condition.
-/
import Derived.Test.YthldmlfpebgojaaGreatDoorQL
namespace Go.Proofs.YthldmlfpebgojaaGreatDoor
set_option linter.unusedSimpArgs false
set_option linter.unusedVariables false
open Go.RowKit Go

def tmRep : Nat → St → List Value → Tm → Prop
  | 0, _, _, _ => False
  | d + 1, B, cs, x => ∃ A n c, cs = [.int .i64 x.op, .int .i64 x.num, .string x.name, .slice A n c] ∧
      (n = x.args.length ∧ n ≤ c ∧ (A = none ∨ ∃ b o, A = some ⟨b, o, none⟩) ∧ (0 < n → ∃ b o cs, A = some ⟨b, o, none⟩ ∧ rdT B b o (n * 4) = some cs ∧ cs.length = x.args.length * 4 ∧ ∀ (i : Nat) y, x.args[i]? = some y → tmRep d B ((cs.drop (i * 4)).take 4) y))
theorem tmRep.ge : ∀ {d : Nat} {B B' : St} {cs : List Value} {x : Tm}, Ge B B' → tmRep d B cs x → tmRep d B' cs x
  | 0, _, _, _, _, _, h => h
  | d + 1, B, B', cs, x, hB, h => by
    obtain ⟨A, n, c, h1, h2, h3, h4, h5⟩ := h
    refine ⟨A, n, c, h1, h2, h3, h4, fun hn => ?_⟩
    obtain ⟨b, o, cs, g1, g2, g3, g4⟩ := h5 hn
    exact ⟨b, o, cs, g1, rdT_ge hB g2, g3, fun i y hy => (g4 i y hy).ge hB⟩
def Dt.tm (d : Nat) : Dt Tm := ⟨4, tmRep d, by decide, fun {B cs x} h => by
    cases d with
    | zero => exact h.elim
    | succ d => obtain ⟨_, _, _, rfl, _⟩ := h; rfl, fun hB h => h.ge hB, fun {B cs x} h => by
    cases d with
    | zero => exact h.elim
    | succ d => obtain ⟨_, _, _, rfl, _⟩ := h; rfl⟩
theorem tm_open {d : Nat} {B : St} {cs : List Value} {x : Tm} (h : (Dt.tm (d + 1)).rep B cs x) : ∃ s : Slc, cs = [.int .i64 x.op, .int .i64 x.num, .string x.name, s.v] ∧ SqS (Dt.tm d) B s x.args := by
  obtain ⟨A, n, c, h1, h2⟩ := h
  exact ⟨⟨A, n, c⟩, h1, h2⟩
def Dt.rule (d : Nat) : Dt RuleD := ⟨6, fun B cs x => ∃ es, cs = [.int .i64 x.scope, .string x.name] ++ es ∧ (Dt.tm d).rep B es x.expr, by decide, by
    rintro B cs x ⟨es, rfl, h⟩; rw [List.length_append, (Dt.tm d).len h]; rfl, by
    rintro B B' cs x hB ⟨es, rfl, h⟩; exact ⟨es, rfl, (Dt.tm d).ge hB h⟩, by
    rintro B cs x ⟨es, rfl, h⟩; rw [List.all_append, (Dt.tm d).fl h]; rfl⟩
def Dt.cost (d : Nat) : Dt CostD := ⟨5, fun B cs x => ∃ es, cs = [.int .i64 x.scope] ++ es ∧ (Dt.tm d).rep B es x.expr, by decide, by
    rintro B cs x ⟨es, rfl, h⟩; rw [List.length_append, (Dt.tm d).len h]; rfl, by
    rintro B B' cs x hB ⟨es, rfl, h⟩; exact ⟨es, rfl, (Dt.tm d).ge hB h⟩, by
    rintro B cs x ⟨es, rfl, h⟩; rw [List.all_append, (Dt.tm d).fl h]; rfl⟩

/- Reading in a closed memory. -/
def getR (R : List (Nat × Blk)) (b : Nat) : Option Blk := match R with
  | [] => none
  | p :: R => bif Nat.beq p.1 b then some p.2 else getR R b
def rowsChk {α : Type} (k : Nat) (f : List Value → α → Bool) : List Value → List α → Bool
  | _, [] => true
  | cs, x :: xs => f (cs.take k) x && rowsChk k f (cs.drop k) xs
def sqChk {α : Type} (k : Nat) (f : List Value → α → Bool) (R : List (Nat × Blk)) (v : Value) (xs : List α) : Bool := match v with
  | .slice none n c => Nat.beq n xs.length && Nat.ble n c && Nat.beq n 0
  | .slice (some ⟨b, o, none⟩) n c => Nat.beq n xs.length && Nat.ble n c && match getR R b with
    | some X => Nat.blt 0 X.sz && Nat.ble (o + n * k) X.cells.length && rowsChk k f (X.cells.drop o) xs
    | none => false
  | _ => false
theorem getR_mem {R : List (Nat × Blk)} {b : Nat} {X : Blk} (h : getR R b = some X) : (b, X) ∈ R := by
  induction R with
  | nil => cases h
  | cons p R ih =>
    unfold getR at h
    cases hb : Nat.beq p.1 b with
    | true =>
      rw [hb] at h
      have := Nat.eq_of_beq_eq_true hb
      obtain ⟨a, Y⟩ := p
      subst this
      obtain rfl := some_eq h
      exact .head _
    | false => rw [hb] at h; exact .tail _ (ih h)
theorem rowsChk_ok {α : Type} {k : Nat} {f : List Value → α → Bool} {rep : List Value → α → Prop} (hf : ∀ cs x, f cs x = true → rep cs x) : ∀ {xs : List α} {cs : List Value}, rowsChk k f cs xs = true → ∀ (i : Nat) x, xs[i]? = some x → rep ((cs.drop (i * k)).take k) x
  | [], _, _, i, x, hx => by simp at hx
  | y :: ys, cs, h, i, x, hx => by
    unfold rowsChk at h
    rw [Bool.and_eq_true] at h
    cases i with
    | zero =>
      simp only [List.getElem?_cons_zero, Option.some.injEq] at hx
      subst hx
      simpa using hf _ _ h.1
    | succ i =>
      simp only [List.getElem?_cons_succ] at hx
      have := rowsChk_ok hf h.2 i x hx
      rwa [List.drop_drop, show k + i * k = (i + 1) * k by rw [Nat.succ_mul, Nat.add_comm]] at this
/-- A list read in a closed memory stands in a copy. -/
theorem sqChk_ok {α : Type} {t : Dt α} {k : Nat} (hk : t.size = k) {f : List Value → α → Bool} {R : List (Nat × Blk)} {r : Nat → Nat} {B : St} (hC : Copy R r B) (hf : ∀ cs x, f cs x = true → t.rep B (cs.map (ren1 r)) x) {v : Value} {xs : List α} (h : sqChk k f R v xs = true) :
    ∃ s : Slc, ren1 r v = s.v ∧ SqS t B s xs := by
  subst hk
  unfold sqChk at h
  split at h
  · rename_i n c
    simp only [Bool.and_eq_true] at h
    have h1 := Nat.eq_of_beq_eq_true h.1.1
    have h3 := Nat.eq_of_beq_eq_true h.2
    exact ⟨⟨none, n, c⟩, rfl, h1, Nat.le_of_ble_eq_true h.1.2, .inl rfl, fun hn => by dsimp only at hn; omega⟩
  · rename_i b o n c
    rw [Bool.and_eq_true] at h
    obtain ⟨h0, h⟩ := h
    rw [Bool.and_eq_true] at h0
    have h1 := Nat.eq_of_beq_eq_true h0.1
    split at h
    case h_2 => cases h
    rename_i X hX
    simp only [Bool.and_eq_true] at h
    obtain ⟨⟨g1, g2⟩, g3⟩ := h
    have g1 := Nat.le_of_ble_eq_true g1
    have g2 := Nat.le_of_ble_eq_true g2
    obtain ⟨z, hz, hz2⟩ := hC _ (getR_mem hX)
    refine ⟨⟨some ⟨r b, o, none⟩, n, c⟩, rfl, h1, Nat.le_of_ble_eq_true h0.2, .inr ⟨_, _, rfl⟩, fun hn => ⟨r b, o, ((X.cells.map (ren1 r)).drop o).take (n * t.size), rfl, ?_, ?_, fun i x hx => ?_⟩⟩
    · unfold rdT
      rw [hz]
      simp only
      unfold cut
      rw [takeK_eq, dropN_eq, if_pos (by rw [List.length_drop, List.length_map]; omega)]
      unfold rdK
      simp only [id]
      rw [show Nat.blt 0 z = true from Nat.ble_eq_true_of_le (hz2 g1)]
      rfl
    · rw [List.length_take, List.length_drop, List.length_map, ← h1]
      omega
    · have hi : i < xs.length := (List.getElem?_eq_some_iff.1 hx).1
      have := hf _ _ (rowsChk_ok (rep := fun cs x => f cs x = true) (fun _ _ h => h) g3 i x hx)
      rw [List.map_take, List.map_drop, List.map_drop] at this
      have e : i * t.size + t.size ≤ n * t.size := by
        rw [← Nat.succ_mul]
        exact Nat.mul_le_mul_right _ (by omega)
      rw [List.drop_take, List.take_take, Nat.min_eq_left (by omega)]
      exact this
  · cases h
noncomputable def tmChk (R : List (Nat × Blk)) : Nat → List Value → Tm → Bool
  | 0, _, _ => false
  | d + 1, [.int .i64 op, .int .i64 num, .string name, v], x => iEq op x.op && iEq num x.num && bytesEq name.data.toList x.name.data.toList && sqChk 4 (tmChk R d) R v x.args
  | _, _, _ => false
theorem bytes_of {a b : ByteArray} (h : bytesEq a.data.toList b.data.toList = true) : a = b := by
  rw [bytesEq_eq] at h
  have := Array.toList_inj.1 (eq_of_beq h)
  cases a
  cases b
  simp only at this
  rw [this]
theorem iEq_of {a b : Int} (h : iEq a b = true) : a = b := by
  rw [iEq_eq] at h
  exact eq_of_beq h
theorem slc_ren {r : Nat → Nat} {v : Value} {s : Slc} (h : ren1 r v = s.v) : ∃ A n c, v = .slice A n c := by
  cases v with
  | slice A n c => exact ⟨_, _, _, rfl⟩
  | pointer A => cases A with
    | none => cases h
    | some A =>
      obtain ⟨b, o, p⟩ := A
      cases p <;> cases h
  | _ => cases h
theorem tmChk_ok {R : List (Nat × Blk)} {r : Nat → Nat} {B : St} (hC : Copy R r B) : ∀ (d : Nat) (cs : List Value) (x : Tm), tmChk R d cs x = true → (Dt.tm d).rep B (cs.map (ren1 r)) x
  | 0, _, _, h => by cases h
  | d + 1, cs, x, h => by
    unfold tmChk at h
    split at h
    · cases h
    · rename_i op num name v e
      cases e
      simp only [Bool.and_eq_true] at h
      obtain ⟨⟨⟨h1, h2⟩, h3⟩, h4⟩ := h
      obtain ⟨s, h5, h6⟩ := sqChk_ok (t := Dt.tm d) rfl hC (tmChk_ok hC d) h4
      have h1 := iEq_of h1
      have h2 := iEq_of h2
      have h3 := bytes_of h3
      subst h1 h2 h3
      refine ⟨s.a, s.n, s.c, ?_, h6⟩
      simp only [List.map_cons, List.map_nil, h5]
      rfl
    · cases h
noncomputable def ruleChk (R : List (Nat × Blk)) (d : Nat) : List Value → RuleD → Bool
  | .int .i64 sc :: .string name :: es, x => iEq sc x.scope && bytesEq name.data.toList x.name.data.toList && tmChk R d es x.expr
  | _, _ => false
noncomputable def costChk (R : List (Nat × Blk)) (d : Nat) : List Value → CostD → Bool
  | .int .i64 sc :: es, x => iEq sc x.scope && tmChk R d es x.expr
  | _, _ => false
theorem ruleChk_ok {R : List (Nat × Blk)} {r : Nat → Nat} {B : St} (hC : Copy R r B) (d : Nat) (cs : List Value) (x : RuleD) (h : ruleChk R d cs x = true) : (Dt.rule d).rep B (cs.map (ren1 r)) x := by
  unfold ruleChk at h
  split at h
  · rename_i sc name es
    simp only [Bool.and_eq_true] at h
    obtain ⟨⟨h1, h2⟩, h3⟩ := h
    have h1 := iEq_of h1
    have h2 := bytes_of h2
    subst h1 h2
    exact ⟨_, rfl, tmChk_ok hC d es x.expr h3⟩
  · cases h
theorem costChk_ok {R : List (Nat × Blk)} {r : Nat → Nat} {B : St} (hC : Copy R r B) (d : Nat) (cs : List Value) (x : CostD) (h : costChk R d cs x = true) : (Dt.cost d).rep B (cs.map (ren1 r)) x := by
  unfold costChk at h
  split at h
  · rename_i sc es
    simp only [Bool.and_eq_true] at h
    have h1 := iEq_of h.1
    subst h1
    exact ⟨_, rfl, tmChk_ok hC d es x.expr h.2⟩
  · cases h
end Go.Proofs.YthldmlfpebgojaaGreatDoor
