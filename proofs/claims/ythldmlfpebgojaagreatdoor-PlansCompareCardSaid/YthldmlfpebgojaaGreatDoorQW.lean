/-
  Runs of closed calls, carried over to any memory that holds a copy of what they read.
  No condition.
-/
import Derived.Test.YthldmlfpebgojaaGreatDoorQA
namespace Go.Proofs.YthldmlfpebgojaaGreatDoor
set_option linter.unusedSimpArgs false
set_option linter.unusedVariables false
open Go.RowKit Go

/-- Block numbers changed. -/
def ren1 (r : Nat → Nat) : Value → Value
  | .pointer (some ⟨b, o, none⟩) => .pointer (some ⟨r b, o, none⟩)
  | .slice (some ⟨b, o, none⟩) n c => .slice (some ⟨r b, o, none⟩) n c
  | v => v
def ren2 (r : Nat → Nat) : Value → Value
  | .agg cs => .agg (cs.toList.map (ren1 r)).toArray
  | v => ren1 r v
def ren3 (r : Nat → Nat) : Value → Value
  | .tuple vs => .tuple (vs.toList.map (ren2 r)).toArray
  | v => ren2 r v
/-- All blocks of a value have a number below n. -/
def low1 (n : Nat) : Value → Bool
  | .pointer (some ⟨b, _, none⟩) => Nat.blt b n
  | .slice (some ⟨b, _, none⟩) _ _ => Nat.blt b n
  | .tuple _ => false
  | _ => true
def low2 (n : Nat) : Value → Bool
  | .agg cs => cs.toList.all (low1 n)
  | v => low1 n v
def renB (r : Nat → Nat) (X : Blk) : Blk := ⟨X.cells.map (ren1 r), X.elem, X.sz⟩
section
variable {e e' : Env} {r : Nat → Nat} {v v' : Value} {l l' : List Value}
theorem ren1_plain (h : plain1 v = true) : ren1 r v = v := by
  cases v with
  | pointer A => cases A with
    | none => rfl
    | some A => simp [plain1] at h
  | slice A n c => cases A with
    | none => rfl
    | some A => simp [plain1] at h
  | _ => rfl
theorem ren2_one (h : V1 e v v') : ren2 r v = ren1 r v := by
  cases v with
  | agg cs => cases h with
    | plain h => cases h
  | _ => rfl
theorem ren3_two (h : V2 e v v') : ren3 r v = ren2 r v := by
  cases v with
  | tuple cs => cases h with
    | one h => cases h with
      | plain h => cases h
  | _ => rfl
theorem V1.ren (hr : ∀ b p, e.f b = some p → e'.f (r b) = some p) (h : V1 e v v') : V1 e' (ren1 r v) v' := by
  cases h with
  | plain h => rw [ren1_plain h]; exact .plain h
  | ptr h => exact .ptr (hr _ _ h)
  | slc h => exact .slc (hr _ _ h)
  | slc0 => exact .slc0
  | emp => exact .emp
theorem L1.ren1 (hr : ∀ b p, e.f b = some p → e'.f (r b) = some p) (h : L1 (V1 e) l l') : L1 (V1 e') (l.map (ren1 r)) l' := by
  induction h with
  | nil => exact .nil
  | cons h1 _ ih => exact .cons (h1.ren hr) ih
theorem V2.ren (hr : ∀ b p, e.f b = some p → e'.f (r b) = some p) (h : V2 e v v') : V2 e' (ren2 r v) v' := by
  cases h with
  | one h => rw [ren2_one h]; exact .one (h.ren hr)
  | agg h => exact .agg (h.ren1 hr)
theorem L1.ren2 (hr : ∀ b p, e.f b = some p → e'.f (r b) = some p) (h : L1 (V2 e) l l') : L1 (V2 e') (l.map (ren2 r)) l' := by
  induction h with
  | nil => exact .nil
  | cons h1 _ ih => exact .cons (h1.ren hr) ih
theorem V3.ren (hr : ∀ b p, e.f b = some p → e'.f (r b) = some p) (h : V3 e v v') : V3 e' (ren3 r v) v' := by
  cases h with
  | two h => rw [ren3_two h]; exact .two (h.ren hr)
  | tup h => exact .tup (h.ren2 hr)
/-- Back. -/
theorem V1.unren {n : Nat} (hr : ∀ b p, b < n → e.f (r b) = some p → e'.f b = some p) (hl : low1 n v = true) (h : V1 e (ren1 r v) v') : V1 e' v v' := by
  have hp : ∀ {u}, ren1 r u = u → plain1 u = true → V1 e (ren1 r u) v' → V1 e' u v' := fun {u} h1 h2 h3 => by
    rw [h1] at h3
    cases h3 with
    | plain h => exact .plain h
    | ptr _ => simp [plain1] at h2
    | slc _ => simp [plain1] at h2
    | slc0 => simp [plain1] at h2
    | emp => simp [plain1] at h2
  unfold ren1 at h
  split at h
  · rename_i b o
    cases h with
    | plain h => simp [plain1] at h
    | ptr h => exact .ptr (hr _ _ (Nat.le_of_ble_eq_true hl) h)
  · rename_i b o n c
    generalize hrb : r b = rb at h
    cases h with
    | plain h => simp [plain1] at h
    | slc h => exact .slc (hr _ _ (Nat.le_of_ble_eq_true hl) (by rw [hrb]; exact h))
    | slc0 => exact .slc0
  · rename_i h1 h2
    cases h with
    | plain h => exact .plain h
    | ptr _ => exact absurd rfl (h1 _ _)
    | slc _ => exact absurd rfl (h2 _ _ _ _)
    | slc0 => exact absurd rfl (h2 _ _ _ _)
    | emp => exact .emp
theorem L1.unren1 {n : Nat} (hr : ∀ b p, b < n → e.f (r b) = some p → e'.f b = some p) : ∀ {l l' : List Value}, l.all (low1 n) = true → L1 (V1 e) (l.map (Go.Proofs.YthldmlfpebgojaaGreatDoor.ren1 r)) l' → L1 (V1 e') l l'
  | [], l', _, h => by cases h; exact .nil
  | a :: l, l', hl, h => by
    simp only [List.all_cons, Bool.and_eq_true] at hl
    cases h with
    | cons h1 h2 => exact .cons (h1.unren hr hl.1) (unren1 hr hl.2 h2)
theorem ren1_agg {cs : Array Value} (h : ren1 r v = .agg cs) : v = .agg cs := by
  unfold ren1 at h
  split at h
  · cases h
  · cases h
  · exact h
theorem ren1_tup {cs : Array Value} (h : ren1 r v = .tuple cs) : v = .tuple cs := by
  unfold ren1 at h
  split at h
  · cases h
  · cases h
  · exact h
theorem V3.unren {n : Nat} (hr : ∀ b p, b < n → e.f (r b) = some p → e'.f b = some p) (hl : low2 n v = true) (h : V3 e (ren2 r v) v') : V3 e' v v' := by
  have key : (∀ cs, v ≠ .agg cs) → low1 n v = true → V3 e (ren1 r v) v' → V3 e' v v' := fun hn hl1 h => by
    generalize hu : ren1 r v = u at h
    cases h with
    | two h => cases h with
      | one h => rw [← hu] at h; exact .two (.one (h.unren hr hl1))
      | agg h => exact absurd (ren1_agg hu) (hn _)
    | tup h =>
      have := ren1_tup hu
      subst this
      cases hl1
  cases v with
  | agg cs =>
    obtain ⟨cs⟩ := cs
    change V3 e (.agg (cs.map (ren1 r)).toArray) v' at h
    generalize hu : (Value.agg (cs.map (ren1 r)).toArray) = u at h
    cases h with
    | two h => cases h with
      | one h =>
        subst hu
        cases h with
        | plain h => cases h
      | agg h =>
        injection hu with hu
        have hu := congrArg Array.toList hu
        simp only at hu
        subst hu
        exact .two (.agg (L1.unren1 hr hl h))
    | tup h => cases hu
  | _ => exact key (fun _ h => by cases h) hl h
theorem L1.unren3 {n : Nat} (hr : ∀ b p, b < n → e.f (r b) = some p → e'.f b = some p) : ∀ {l l' : List Value}, l.all (low2 n) = true → L1 (V3 e) (l.map (Go.Proofs.YthldmlfpebgojaaGreatDoor.ren2 r)) l' → L1 (V3 e') l l'
  | [], l', _, h => by cases h; exact .nil
  | a :: l, l', hl, h => by
    simp only [List.all_cons, Bool.and_eq_true] at hl
    cases h with
    | cons h1 h2 => exact .cons (h1.unren hr hl.1) (unren3 hr hl.2 h2)
end

/-- A run of a closed call: what it reads (C, numbers below cn), what it returns, the new blocks that are wanted of it (numbers below rn). -/
structure Cl where
  f : FuncId
  as : List Value
  C : List (Nat × Blk)
  cn : Nat
  v : Value
  R : List (Nat × Blk)
  rn : Nat
/-- A memory that is only read. -/
noncomputable def memOf (C : List (Nat × Blk)) (n : Nat) : Mem := ⟨C.foldr (fun p t => t.set p.1 (some ⟨p.2.cells, p.2.elem, 0⟩)) .e, n⟩
theorem memOf_get {n b : Nat} {X : Blk} : ∀ {C : List (Nat × Blk)}, (memOf C n).t.get b = some X → ∃ p ∈ C, p.1 = b ∧ X = ⟨p.2.cells, p.2.elem, 0⟩
  | [], h => by cases h
  | p :: C, h => by
    change ((memOf C n).t.set p.1 _).get b = some X at h
    by_cases e : p.1 = b
    · subst e
      rw [Tr.set_self] at h
      exact ⟨p, .head _, rfl, (some_eq h)⟩
    · rw [Tr.set_other _ _ e] at h
      obtain ⟨q, hq, h1⟩ := memOf_get h
      exact ⟨q, .tail _ hq, h1⟩
/-- New blocks, with other numbers. -/
noncomputable def addT (r : Nat → Nat) (R : List (Nat × Blk)) (t : Tr Blk) : Tr Blk := R.foldr (fun p t => t.set (r p.1) (some (renB r p.2))) t
section
variable {r : Nat → Nat} {t : Tr Blk}
theorem addT_some {b : Nat} {X : Blk} : ∀ {R : List (Nat × Blk)}, (addT r R t).get b = some X → (∃ p ∈ R, r p.1 = b ∧ X = renB r p.2) ∨ t.get b = some X
  | [], h => .inr h
  | p :: R, h => by
    change ((addT r R t).set (r p.1) _).get b = some X at h
    by_cases e : r p.1 = b
    · subst e
      rw [Tr.set_self] at h
      exact .inl ⟨p, .head _, rfl, (some_eq h)⟩
    · rw [Tr.set_other _ _ e] at h
      rcases addT_some h with ⟨q, hq, h1⟩ | h1
      · exact .inl ⟨q, .tail _ hq, h1⟩
      · exact .inr h1
theorem addT_other {b : Nat} : ∀ {R : List (Nat × Blk)}, (∀ p ∈ R, r p.1 ≠ b) → (addT r R t).get b = t.get b
  | [], h => rfl
  | p :: R, h => by
    change ((addT r R t).set (r p.1) _).get b = _
    rw [Tr.set_other _ _ (h p (.head _))]
    exact addT_other fun q hq => h q (.tail _ hq)
/-- Numbers that stand once. -/
def once : List Nat → Bool
  | [] => true
  | a :: l => l.all (fun b => !Nat.beq b a) && once l
theorem addT_self (hr : ∀ a b, r a = r b → a = b) : ∀ {R : List (Nat × Blk)}, once (R.map (·.1)) = true → ∀ p ∈ R, (addT r R t).get (r p.1) = some (renB r p.2)
  | [], _, p, hp => by cases hp
  | q :: R, h, p, hp => by
    rw [List.map_cons, once, Bool.and_eq_true] at h
    change ((addT r R t).set (r q.1) _).get (r p.1) = _
    cases hp with
    | head => rw [Tr.set_self]
    | tail _ hp =>
      rw [Tr.set_other _ _ fun e => ?_]
      · exact addT_self hr h.2 p hp
      · have h1 := List.all_eq_true.1 h.1 p.1 (List.mem_map_of_mem hp)
        rw [hr _ _ e, Nat.beq_refl] at h1
        cases h1
end
namespace Cl
/-- Where the numbers go: what was read lies s further on, what is new from n on. -/
def mv (c : Cl) (s n : Nat) (b : Nat) : Nat := bif Nat.blt b c.cn then b + s else b - c.cn + n
/-- A copy of what is read stands. -/
structure At (c : Cl) (s : Nat) (args : List Value) (M : Mem) : Prop where
  args : args = c.as.map (ren2 (· + s))
  mem : ∀ p ∈ c.C, ∃ k, M.t.get (p.1 + s) = some ⟨p.2.cells.map (ren1 (· + s)), p.2.elem, k⟩
  nx : c.cn + s ≤ M.nx
noncomputable def out (c : Cl) (s : Nat) (M : Mem) : Value × Mem := (ren3 (c.mv s M.nx) c.v, ⟨addT (c.mv s M.nx) c.R M.t, M.nx + (c.rn - c.cn)⟩)
structure Fine (c : Cl) : Prop where
  new : ∀ p ∈ c.R, c.cn ≤ p.1 ∧ p.1 < c.rn ∧ 0 < p.2.sz
  args : c.as.all (low2 c.cn) = true
  mem : ∀ p ∈ c.C, p.1 < c.cn ∧ p.2.cells.all (low1 c.cn) = true
  rn : c.cn ≤ c.rn
  uniq : once (c.R.map (·.1)) = true
structure Ok (P : Program) (c : Cl) : Prop extends c.Fine where
  run : ∃ n m M1, evalCall P n m c.f c.as (memOf c.C c.cn) = some (c.v, M1) ∧ M1.nx = c.rn ∧ ∀ p ∈ c.R, M1.t.get p.1 = some p.2
theorem mv_new {c : Cl} {s n b : Nat} (h : c.cn ≤ b) : c.mv s n b = b - c.cn + n := by
  unfold mv
  rw [show Nat.blt b c.cn = false from Bool.eq_false_iff.2 fun e => by have := Nat.le_of_ble_eq_true e; omega]
  rfl
theorem mv_old {c : Cl} {s n b : Nat} (h : b < c.cn) : c.mv s n b = b + s := by
  unfold mv
  rw [show Nat.blt b c.cn = true from Nat.ble_eq_true_of_le h]
  rfl
theorem mv_inj {c : Cl} {s n : Nat} (h : c.cn + s ≤ n) (a b : Nat) (e : c.mv s n a = c.mv s n b) : a = b := by
  by_cases ha : a < c.cn <;> by_cases hb : b < c.cn
  · rw [mv_old ha, mv_old hb] at e; omega
  · rw [mv_old ha, mv_new (by omega)] at e; omega
  · rw [mv_old hb, mv_new (by omega)] at e; omega
  · rw [mv_new (by omega), mv_new (by omega)] at e; omega
theorem ml_add {r : Nat → Nat} : ∀ {R : List (Nat × Blk)} {t t' : Tr Blk}, (∀ b X, t.get b = some X → t'.get b = some X) → ∀ b X, (addT r R t).get b = some X → (addT r R t').get b = some X
  | [], _, _, h => h
  | p :: R, t, t', h => fun b X hb => by
    change ((addT r R t).set (r p.1) _).get b = some X at hb
    change ((addT r R t').set (r p.1) _).get b = some X
    by_cases e : r p.1 = b
    · subst e; rw [Tr.set_self] at hb ⊢; exact hb
    · rw [Tr.set_other _ _ e] at hb ⊢; exact ml_add h b X hb
theorem out_le {c : Cl} (hc : c.Fine) {s : Nat} {M M' : Mem} (hM : ML M M') : (c.out s M').1 = (c.out s M).1 ∧ Beside M M' (c.out s M).2 (c.out s M').2 := by
  unfold out
  rw [hM.nx]
  have hk : ∀ p ∈ c.R, M.nx ≤ c.mv s M.nx p.1 := fun p hp => by rw [mv_new (hc.new p hp).1]; omega
  refine ⟨rfl, ⟨⟨rfl, ml_add hM.get⟩, fun b X hb h1 h2 => ?_, fun b hb h1 => ?_, Nat.le_add_right _ _, fun e => by rw [e], fun hw b X hb => ?_⟩⟩
  · simp only
    rw [addT_other fun p hp e => by have := hk p hp; omega]
    exact h2
  · simp only
    rw [addT_other fun p hp e => by have := hk p hp; omega]
    exact h1
  · simp only at hb ⊢
    rcases addT_some hb with ⟨p, hp, h1, -⟩ | h1
    · obtain ⟨g1, g2, _⟩ := hc.new p hp
      rw [mv_new g1] at h1
      omega
    · have := hw b X h1
      rw [hM.nx] at this
      omega
theorem At.le {c : Cl} {s : Nat} {args : List Value} {M M' : Mem} (h : c.At s args M) (hM : ML M M') : c.At s args M' :=
  ⟨h.args, fun p hp => (h.mem p hp).imp fun k hk => hM.get _ _ hk, by rw [hM.nx]; exact h.nx⟩
/-- What a carried run says is true of the program. -/
theorem ok {P : Program} (hm : P.follows .mixedOrders = true) {c : Cl} (hc : c.Ok P) {base s : Nat} {M : Mem} {e : Env} {w : World} {args args' : List Value} (hA : c.At s args M) (ha : L1 (V3 e) args args') (hM : MR base e M w) :
    Calls P c.f args'.toArray w (CallPost base e w (c.out s M).1 (c.out s M).2) := by
  obtain ⟨n, m, M1, hrun, hn1, hR⟩ := hc.run
  have hen := hM.len.1
  have hnx := hA.nx
  let e0 : Env := ⟨fun b => if b < c.cn then e.f (b + s) else none, c.cn⟩
  have h0 : ∀ b p, b < c.cn → e.f (b + s) = some p → e0.f b = some p := fun b p hb h => by simp only [e0, if_pos hb]; exact h
  have hM0 : MR w.heap.size e0 (memOf c.C c.cn) w := by
    refine ⟨Nat.le_refl _, ⟨rfl, fun b hb => if_neg (Nat.not_lt.2 hb)⟩, fun b b' d hb => ?_, fun b B hB hz => ?_, fun b B hB hz => ?_, fun b d _ _ _ _ B D hB _ hz => ?_⟩
    · simp only [e0] at hb
      split at hb
      · exact hM.low _ _ _ hb
      · cases hb
    · obtain ⟨p, _, _, rfl⟩ := memOf_get hB
      cases hz
    · obtain ⟨p, hp, rfl, rfl⟩ := memOf_get hB
      obtain ⟨hlt, hlow⟩ := hc.mem p hp
      obtain ⟨k, hk⟩ := hA.mem p hp
      rcases Nat.eq_zero_or_pos k with rfl | hpos
      · obtain ⟨b', d, h1, h2, h3⟩ := hM.ro _ _ hk rfl
        refine ⟨b', d, h0 _ _ hlt h1, Nat.lt_of_lt_of_le h2 hM.bs, fun i u hu ho => ?_⟩
        have hlu := List.all_eq_true.1 hlow u (List.mem_of_getElem? hu)
        obtain ⟨u', h4, h5⟩ := h3 i (ren1 (· + s) u) (by simpa using congrArg (Option.map (ren1 (· + s))) hu) (by
          unfold ren1
          split <;> first | rfl | exact ho)
        exact ⟨u', h4, h5.unren h0 hlu⟩
      · obtain ⟨b', d, cs, sp, h1, h2, h3, h4, h5, h6⟩ := hM.blk _ _ hk hpos
        refine ⟨b', d, h0 _ _ hlt h1, hM.low _ _ _ h1, fun i u hu ho => ?_⟩
        have h7 := L1.unren1 h0 hlow h2
        obtain ⟨u', h8, h9⟩ := h7.get hu
        refine ⟨u', ?_, h9⟩
        have hlt2 := (List.getElem?_eq_some_iff.1 h8).1
        unfold World.cell?
        simp only [h3]
        simp [List.getElem?_append_left hlt2, h8]
    · obtain ⟨p, _, _, rfl⟩ := memOf_get hB
      cases hz
  have hcall := evalCall_ok P hm w.heap.size n m c.f c.as (memOf c.C c.cn) c.v M1 hrun e0 w args' (by rw [hA.args] at ha; exact L1.unren3 h0 hc.args ha) hM0
  refine hcall.mono fun en w' he => ?_
  obtain ⟨v', e1, rfl, hx, hv, hM1, hB⟩ := he
  let e2 : Env := ⟨fun b => if b < M.nx then e.f b else e1.f (b - M.nx + c.cn), M.nx + (c.rn - c.cn)⟩
  have hcn := hc.rn
  have he1n : e1.n = c.rn := by rw [hM1.len.1, hn1]
  have h1 : ∀ b p, e1.f b = some p → e2.f (c.mv s M.nx b) = some p := fun b p h => by
    by_cases hb : b < c.cn
    · rw [mv_old hb]
      simp only [e2, if_pos (show b + s < M.nx by omega)]
      cases hz : e.f (b + s) with
      | none => rw [hx.old b hb (by simp only [e0, if_pos hb]; exact hz)] at h; cases h
      | some q => rw [hx.up b q (h0 b q hb hz)] at h; exact h
    · rw [mv_new (by omega)]
      simp only [e2, if_neg (show ¬ b - c.cn + M.nx < M.nx by omega)]
      rw [show b - c.cn + M.nx - M.nx + c.cn = b by omega]
      exact h
  have hE : Ext e e2 := by
    have hl : ∀ b p, e.f b = some p → b < M.nx := fun b p h => by
      by_cases hb : b < M.nx
      · exact hb
      · rw [hM.len.2 b (by omega)] at h; cases h
    exact ⟨fun b p h => by simp only [e2, if_pos (hl b p h)]; exact h, by simp only [e2, hen]; omega, fun b hb h => by simp only [e2, if_pos (show b < M.nx by omega)]; exact h⟩
  have hkeep : ∀ b, b < w.heap.size → w'.heap[b]? = w.heap[b]? := hB.block
  have hsize : w.heap.size ≤ w'.heap.size := hM1.bs
  refine ⟨v', e2, rfl, hE, hv.ren h1, ?_, hB.mono hM.bs⟩
  have old : ∀ {b X}, (addT (c.mv s M.nx) c.R M.t).get b = some X → b < M.nx → M.t.get b = some X := fun {b X} h hb => by
    rcases addT_some h with ⟨p, hp, h2, -⟩ | h2
    · rw [mv_new (hc.new p hp).1] at h2; omega
    · exact h2
  have new : ∀ {b X}, (addT (c.mv s M.nx) c.R M.t).get b = some X → ¬ b < M.nx → ∃ p ∈ c.R, c.mv s M.nx p.1 = b ∧ X = renB (c.mv s M.nx) p.2 := fun {b X} h hb => by
    rcases addT_some h with h2 | h2
    · exact h2
    · have h3 : e.f b = none := hM.len.2 b (by omega)
      by_cases hz : 0 < X.sz
      · obtain ⟨_, _, _, _, h4, _⟩ := hM.blk b X h2 hz
        rw [h3] at h4; cases h4
      · obtain ⟨_, _, h4, _⟩ := hM.ro b X h2 (by omega)
        rw [h3] at h4; cases h4
  have f2 : ∀ {b}, b < M.nx → e2.f b = e.f b := fun {b} hb => if_pos hb
  have f2n : ∀ {p : Nat × Blk}, p ∈ c.R → e2.f (c.mv s M.nx p.1) = e1.f p.1 := fun {p} hp => by
    have hp1 := (hc.new p hp).1
    rw [mv_new hp1]
    simp only [e2, if_neg (show ¬ p.1 - c.cn + M.nx < M.nx by omega)]
    rw [show p.1 - c.cn + M.nx - M.nx + c.cn = p.1 by omega]
  refine ⟨Nat.le_trans hM.bs hsize, ⟨rfl, fun b hb => ?_⟩, fun b b' d hb => ?_, fun b B hB hz => ?_, fun b B hB hz => ?_, fun b d b' d' f g B D hB hD hzB hzD hb hd hbd => ?_⟩
  · simp only [out] at hb
    simp only [e2, if_neg (show ¬ b < M.nx by omega)]
    exact hM1.len.2 _ (by rw [hn1]; omega)
  · simp only [e2] at hb
    split at hb
    · exact Nat.lt_of_lt_of_le (hM.low b b' d hb) hsize
    · exact hM1.low _ _ _ hb
  · by_cases hlt : b < M.nx
    · obtain ⟨b', d, cs, sp, g1, g2, g3, g4⟩ := hM.blk b B (old hB hlt) hz
      exact ⟨b', d, cs, sp, by rw [f2 hlt]; exact g1, g2.imp fun _ _ h => h.ext hE, by rw [hkeep b' (hM.low b b' d g1)]; exact g3, g4⟩
    · obtain ⟨p, hp, rfl, rfl⟩ := new hB hlt
      obtain ⟨b', d, cs, sp, g1, g2, g3, g4, g5, g6⟩ := hM1.blk p.1 p.2 (hR p hp) (hc.new p hp).2.2
      refine ⟨b', d, cs, sp, by rw [f2n hp]; exact g1, g2.ren1 h1, g3, g4, fun k hk => g5 k (by simpa [renB] using hk), Nat.le_trans hM.bs g6⟩
  · by_cases hlt : b < M.nx
    · exact hM.roKeep hE.up (fun k hk => hkeep k (Nat.lt_of_lt_of_le hk hM.bs)) (old hB hlt) hz
    · obtain ⟨p, hp, rfl, rfl⟩ := new hB hlt
      have := (hc.new p hp).2.2
      simp only [renB] at hz
      omega
  · have lowNew : ∀ {p : Nat × Blk} {b' d : Nat}, p ∈ c.R → e1.f p.1 = some (b', d) → w.heap.size ≤ b' := fun {p b' d} hp h => by
      obtain ⟨b2, d2, cs, sp, g1, g2, g3, g4, g5, g6⟩ := hM1.blk p.1 p.2 (hR p hp) (hc.new p hp).2.2
      rw [g1] at h
      injection h with h
      injection h with h h'
      omega
    by_cases hlb : b < M.nx <;> by_cases hld : d < M.nx
    · rw [f2 hlb] at hb
      rw [f2 hld] at hd
      exact hM.inj b d b' d' f g B D (old hB hlb) (old hD hld) hzB hzD hb hd hbd
    · obtain ⟨p, hp, rfl, rfl⟩ := new hD hld
      rw [f2 hlb] at hb
      rw [f2n hp] at hd
      have := lowNew hp hd
      have := hM.low _ _ _ hb
      omega
    · obtain ⟨p, hp, rfl, rfl⟩ := new hB hlb
      rw [f2 hld] at hd
      rw [f2n hp] at hb
      have := lowNew hp hb
      have := hM.low _ _ _ hd
      omega
    · obtain ⟨p, hp, rfl, rfl⟩ := new hB hlb
      obtain ⟨q, hq, rfl, rfl⟩ := new hD hld
      rw [f2n hp] at hb
      rw [f2n hq] at hd
      rw [hM1.inj p.1 q.1 b' d' f g p.2 q.2 (hR p hp) (hR q hq) (hc.new p hp).2.2 (hc.new q hq).2.2 hb hd hbd]
end Cl

/- Which run is meant, and where its copy lies. -/
def fb1 : Value → Option Nat
  | .pointer (some ⟨b, _, none⟩) => some b
  | .slice (some ⟨b, _, none⟩) _ _ => some b
  | _ => none
def fbL : List Value → Option Nat
  | [] => none
  | v :: l => match fb1 v with
    | some b => some b
    | none => fbL l
def fbV : Value → Option Nat
  | .agg cs => fbL cs.toList
  | v => fb1 v
def fbVs : List Value → Option Nat
  | [] => none
  | v :: l => match fbV v with
    | some b => some b
    | none => fbVs l
noncomputable def shapeOf (l : List Value) : List Value := l.map (ren2 fun _ => 0)
noncomputable def sameVs : List Value → List Value → Bool
  | [], [] => true
  | a :: l, b :: m => sameV a b && sameVs l m
  | _, _ => false
noncomputable def Cl.shift (c : Cl) (args : List Value) : Nat := match fbVs args, fbVs c.as with
  | some b, some a => b - a
  | _, _ => 0
noncomputable def clPick (l : List Cl) (f : FuncId) (args : List Value) : Option Cl := l.find? fun c => Nat.beq c.f f && sameVs (shapeOf args) (shapeOf c.as)
open Classical in
/-- Calls whose runs are carried over. -/
noncomputable def clCall (l : List Cl) : CallE := fun f args M => match clPick l f args with
  | some c => if c.At (c.shift args) args M then some (c.out (c.shift args) M) else none
  | none => none
theorem clCall_some {l : List Cl} {f : FuncId} {args : List Value} {M : Mem} {r : Value × Mem} (h : clCall l f args M = some r) : ∃ c ∈ l, c.f = f ∧ clPick l f args = some c ∧ c.At (c.shift args) args M ∧ r = c.out (c.shift args) M := by
  unfold clCall at h
  split at h
  · rename_i c hc
    split at h
    · rename_i hA
      have hc' := hc
      unfold clPick at hc'
      have h1 := List.find?_some hc'
      simp only [Bool.and_eq_true] at h1
      exact ⟨c, List.mem_of_find?_eq_some hc', Nat.eq_of_beq_eq_true h1.1, hc, hA, (some_eq h)⟩
    · cases h
  · cases h
theorem clCall_le {l : List Cl} (hl : ∀ c ∈ l, c.Fine) : CallLe (clCall l) (clCall l) := fun f args M M' v M1 hM h => by
  obtain ⟨c, hc, rfl, hp, hA, hr⟩ := clCall_some h
  obtain ⟨h1, h2⟩ := Cl.out_le (hl c hc) (s := c.shift args) hM
  refine ⟨(c.out (c.shift args) M').2, ?_, by rw [show M1 = (c.out (c.shift args) M).2 from congrArg Prod.snd hr]; exact h2⟩
  unfold clCall
  rw [hp]
  simp only
  rw [if_pos (hA.le hM), show v = (c.out (c.shift args) M).1 from congrArg Prod.fst hr, ← h1]
theorem clCall_ok {P : Program} (hm : P.follows .mixedOrders = true) {l : List Cl} (hl : ∀ c ∈ l, c.Ok P) (base : Nat) : CallOk P base (clCall l) := fun f args M v M' h e w args' ha hM => by
  obtain ⟨c, hc, rfl, hp, hA, hr⟩ := clCall_some h
  rw [show v = (c.out (c.shift args) M).1 from congrArg Prod.fst hr, show M' = (c.out (c.shift args) M).2 from congrArg Prod.snd hr]
  exact Cl.ok hm (hl c hc) hA ha hM
theorem ren2_na {r : Nat → Nat} {u : Value} (h : ∀ cs, u ≠ .agg cs) : ren2 r u = ren1 r u := by
  unfold ren2
  split
  · exact absurd rfl (h _)
  · rfl
theorem fbV_na {u : Value} (h : ∀ cs, u ≠ .agg cs) : fbV u = fb1 u := by
  unfold fbV
  split
  · exact absurd rfl (h _)
  · rfl
theorem agg_or (v : Value) : (∃ cs, v = .agg cs) ∨ ∀ cs, v ≠ .agg cs := by
  by_cases h : ∃ cs, v = .agg cs
  · exact .inl h
  · exact .inr fun cs e => h ⟨cs, e⟩
theorem ren_shape (r : Nat → Nat) (v : Value) : ren2 (fun _ => 0) (ren2 r v) = ren2 (fun _ => 0) v := by
  have h1 : ∀ v, ren1 (fun _ => 0) (ren1 r v) = ren1 (fun _ => 0) v := fun v => by
    conv => lhs; arg 2; unfold ren1
    split
    · rfl
    · rfl
    · rfl
  rcases agg_or v with ⟨cs, rfl⟩ | hv
  · simp only [ren2, List.map_map]
    congr 2
    exact List.map_congr_left fun v _ => h1 v
  · rw [ren2_na hv, ren2_na hv, ren2_na fun cs e => hv cs (ren1_agg e)]
    exact h1 v
theorem fb1_ren (s : Nat) (v : Value) : fb1 (ren1 (· + s) v) = (fb1 v).map (· + s) := by
  unfold ren1
  split
  · rfl
  · rfl
  · rename_i h1 h2
    unfold fb1
    split
    · exact absurd rfl (h1 _ _)
    · exact absurd rfl (h2 _ _ _ _)
    · rfl
theorem fbL_ren (s : Nat) : ∀ (l : List Value), fbL (l.map (ren1 (· + s))) = (fbL l).map (· + s)
  | [] => rfl
  | v :: l => by
    simp only [List.map_cons, fbL, fb1_ren]
    cases fb1 v with
    | none => exact fbL_ren s l
    | some b => rfl
theorem fbV_ren (s : Nat) (v : Value) : fbV (ren2 (· + s) v) = (fbV v).map (· + s) := by
  rcases agg_or v with ⟨cs, rfl⟩ | hv
  · exact fbL_ren s cs.toList
  · rw [ren2_na hv, fbV_na hv, fbV_na fun cs e => hv cs (ren1_agg e)]
    exact fb1_ren s v
theorem fbVs_ren (s : Nat) : ∀ (l : List Value), fbVs (l.map (ren2 (· + s))) = (fbVs l).map (· + s)
  | [] => rfl
  | v :: l => by
    simp only [List.map_cons, fbVs, fbV_ren]
    cases fbV v with
    | none => exact fbVs_ren s l
    | some b => rfl
/-- The call of a carried run. -/
theorem clCall_at {l : List Cl} {c : Cl} {s : Nat} {args : List Value} {M : Mem} (hp : clPick l c.f c.as = some c) (hA : c.At s args M) (hs : fbVs c.as = none → s = 0) : clCall l c.f args M = some (c.out s M) := by
  have e1 : shapeOf args = shapeOf c.as := by
    rw [hA.args]
    unfold shapeOf
    rw [List.map_map]
    exact List.map_congr_left fun v _ => ren_shape _ v
  have e2 : clPick l c.f args = some c := by
    unfold clPick at hp ⊢
    rw [e1]
    exact hp
  have e3 : c.shift args = s := by
    unfold Cl.shift
    rw [hA.args, fbVs_ren]
    cases h : fbVs c.as with
    | none => exact (hs h).symm
    | some b => simp
  unfold clCall
  rw [e2]
  simp only
  rw [e3, if_pos hA]

/- Deciding. -/
noncomputable def sameT : Value → Value → Bool
  | .tuple a, .tuple b => sameVs a.toList b.toList
  | a, b => sameV a b
theorem sameVs_eq : ∀ {l m : List Value}, sameVs l m = true → l = m
  | [], [], _ => rfl
  | a :: l, b :: m, h => by
    unfold sameVs at h
    rw [Bool.and_eq_true] at h
    rw [sameV_eq h.1, sameVs_eq h.2]
  | [], _ :: _, h => by cases h
  | _ :: _, [], h => by cases h
theorem sameT_eq {a b : Value} (h : sameT a b = true) : a = b := by
  unfold sameT at h
  split at h
  · rename_i a b
    rw [Array.toList_inj.1 (sameVs_eq h)]
  · exact sameV_eq h
namespace Cl
def fineB (c : Cl) : Bool := c.R.all (fun p => Nat.ble c.cn p.1 && Nat.blt p.1 c.rn && Nat.blt 0 p.2.sz) && c.as.all (low2 c.cn) && c.C.all (fun p => Nat.blt p.1 c.cn && p.2.cells.all (low1 c.cn)) && Nat.ble c.cn c.rn && once (c.R.map (·.1))
theorem fineB_ok {c : Cl} (h : c.fineB = true) : c.Fine := by
  unfold fineB at h
  simp only [Bool.and_eq_true] at h
  obtain ⟨⟨⟨⟨h1, h2⟩, h3⟩, h4⟩, h5⟩ := h
  refine ⟨fun p hp => ?_, h2, fun p hp => ?_, Nat.le_of_ble_eq_true h4, h5⟩
  · have := List.all_eq_true.1 h1 p hp
    simp only [Bool.and_eq_true] at this
    exact ⟨Nat.le_of_ble_eq_true this.1.1, Nat.le_of_ble_eq_true this.1.2, Nat.le_of_ble_eq_true this.2⟩
  · have := List.all_eq_true.1 h3 p hp
    simp only [Bool.and_eq_true] at this
    exact ⟨Nat.le_of_ble_eq_true this.1, this.2⟩
noncomputable def blkB (t : Tr Blk) (p : Nat × Blk) : Bool := match t.get p.1 with
  | some X => sameL X.cells p.2.cells && Nat.beq X.elem p.2.elem && Nat.beq X.sz p.2.sz
  | none => false
noncomputable def runB (P : Program) (c : Cl) (n m : Nat) : Bool := match evalCall P n m c.f c.as (memOf c.C c.cn) with
  | some (v, M1) => sameT v c.v && Nat.beq M1.nx c.rn && c.R.all (blkB M1.t)
  | none => false
theorem ok_of {P : Program} {c : Cl} (hf : c.Fine) (n m : Nat) (h : runB P c n m = true) : c.Ok P := by
  refine ⟨hf, ?_⟩
  unfold runB at h
  split at h
  · rename_i v M1 he
    simp only [Bool.and_eq_true] at h
    obtain ⟨⟨h1, h2⟩, h3⟩ := h
    refine ⟨n, m, M1, by rw [he, sameT_eq h1], Nat.eq_of_beq_eq_true h2, fun p hp => ?_⟩
    have h4 := List.all_eq_true.1 h3 p hp
    unfold blkB at h4
    split at h4
    · rename_i X hX
      simp only [Bool.and_eq_true] at h4
      obtain ⟨⟨g1, g2⟩, g3⟩ := h4
      rw [hX]
      obtain ⟨a, cs, T, sz⟩ := p
      obtain ⟨cs', T', sz'⟩ := X
      simp only at g1 g2 g3 ⊢
      rw [sameL_eq g1, Nat.eq_of_beq_eq_true g2, Nat.eq_of_beq_eq_true g3]
    · cases h4
  · cases h
end Cl
end Go.Proofs.YthldmlfpebgojaaGreatDoor
