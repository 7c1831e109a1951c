/-
  A region of the evaluator in the text's order is the program's.
  No condition.
-/
import Derived.Test.YthldmlfpebgojaaGreatDoorQ6
namespace Go.Proofs.YthldmlfpebgojaaGreatDoor
set_option linter.unusedSimpArgs false
set_option linter.unusedVariables false
open Go.RowKit Go

/-- The evaluator's frame and the program's. -/
structure FR (N : Nat) (F : Fr) (a : Act) (e : Env) : Prop where
  size : a.tmps.size = N
  le : N ≤ 512
  val : ∀ t v, frGet F t = some v → V3 e v (a.tmps.getD t undef)
  defers : a.defers = []
/-- What a call yields. -/
def CallPost (base : Nat) (e : Env) (w : World) (v : Value) (M' : Mem) (en : Ending) (w' : World) : Prop :=
  ∃ v' e', en = .returned v' ∧ Ext e e' ∧ V3 e' v v' ∧ MR base e' M' w' ∧ Below base w w'
def CallOk (P : Program) (base : Nat) (call : CallE) : Prop := ∀ f args M v M', call f args M = some (v, M') → ∀ e w args', L1 (V3 e) args args' → MR base e M w → Calls P f args'.toArray w (CallPost base e w v M')
/-- A slot written. -/
def PutRel (F : Fr) (d : Option Nat) (v : Value) (F' : Fr) (N : Nat) : Prop :=
  (d = none ∧ F' = F) ∨ ∃ t, d = some t ∧ t < N ∧ frGet F' t = some v ∧ ∀ s, s ≠ t → frGet F' s = frGet F s
section
variable {P : Program} {base N : Nat} {o : Oper} {a : Act} {e e' : Env} {w w' : World} {v v' : Value} {M M' : Mem} {F F' : Fr} {ops : Array Oper} {call : CallE}
theorem putFK_some {β : Type} {d : Option Nat} {k : Fr → Option β} {r : β} (hN : N ≤ 512) (h : putFK N F d v none k = some r) : ∃ F', PutRel F d v F' N ∧ k F' = some r := by
  unfold putFK at h
  cases d with
  | none => exact ⟨F, .inl ⟨rfl, rfl⟩, h⟩
  | some t =>
    change Bool.rec (motive := fun _ => Option β) none (frPut F t (some v) k) (Nat.blt t N) = some r at h
    obtain ⟨hlt, h⟩ := rec_none h
    have hlt := Nat.le_of_ble_eq_true hlt
    obtain ⟨F', h1, h2, h3⟩ := frPut_eq F (k := t) (by omega) (some v) k
    rw [h1] at h
    exact ⟨F', .inr ⟨t, rfl, hlt, h2, h3⟩, h⟩
theorem FR.put (h : FR N F a e) (hp : PutRel F o.dst v F' N) (hv : V3 e' v v') (hx : Ext e e') : FR N F' (a.put o.dst v') e' := by
  rcases hp with ⟨hd, rfl⟩ | ⟨t, hd, hlt, h1, h2⟩
  · rw [hd]
    exact ⟨h.size, h.le, fun t u hu => (h.val t u hu).ext hx, h.defers⟩
  · rw [hd]
    refine ⟨by simp [Act.put, h.size], h.le, fun s u hu => ?_, h.defers⟩
    by_cases hst : s = t
    · subst hst
      rw [h1] at hu
      obtain rfl := some_eq hu
      have hs : s < a.tmps.size := by rw [h.size]; exact hlt
      simpa [Act.put, hs] using hv
    · rw [h2 s hst] at hu
      have := (h.val s u hu).ext hx
      simpa [Act.put, Array.getElem?_setIfInBounds_ne (fun e2 => hst e2.symm : t ≠ s)] using this
theorem FR.opv (h : FR N F a e) {x : Operand} (hx : opv F x = some v) : V3 e v (a.eval x) := by
  cases x with
  | tmp t => exact h.val t v hx
  | const u =>
    change (bif plain u then some u else none) = some v at hx
    obtain ⟨hp, rfl⟩ := some_bif hx
    exact .two (plain_self e hp)
  | global g => cases hx
  | func f =>
    obtain rfl := some_eq hx
    exact .two (.one (.plain rfl))
theorem FR.good (h : FR N F a e) : Good o F e a := fun x _ v hv => h.opv hv
theorem wanted_of (h : ∀ g b t, o.guard = some (g, b) → (ops[g]?).bind (·.dst) = some t → ∀ v, frGet F t = some v → V3 e v (a.tmps.getD t undef)) {r : Bool} (hw : wantedE ops o F = some r) : Region.wanted o (yielded ops a.tmps) = r := by
  unfold wantedE at hw
  unfold Region.wanted
  split at hw
  · rename_i hg
    rw [hg]
    exact (some_eq hw).symm
  · rename_i g b hg
    rw [hg]
    simp only
    unfold guardE at hw
    split at hw
    · rename_i t ht
      have hval := h g b t hg ht
      unfold yielded
      rw [ht]
      simp only [Option.bind_some]
      split at hw
      · rename_i c hc
        have hb := (hval _ hc).bool
        have hw := some_eq hw
        rw [hw]
        cases hget : a.tmps[t]? with
        | none =>
          rw [Array.getD_eq_getD_getElem?, hget] at hb
          cases hb
        | some u =>
          rw [Array.getD_eq_getD_getElem?, hget] at hb
          simp only [Option.getD_some] at hb
          rw [hb]
          simp only
          cases c <;> cases b <;> rfl
      · rename_i vs hc
        obtain ⟨vs', h1, _⟩ := (hval _ hc).tuple
        have hw := some_eq hw
        rw [hw]
        cases hget : a.tmps[t]? with
        | none => rfl
        | some u =>
          rw [Array.getD_eq_getD_getElem?, hget] at h1
          simp only [Option.getD_some] at h1
          rw [h1]
          rfl
      · cases hw
    · cases hw
theorem Oper.wp_call {f : FuncId} {args' : List Value} {K : Act → World → Prop} {Q : Exit → Act → World → Prop} (hr : (execOp a.eval o).run P w = .ok (.enter f args'.toArray) w) {vv : Value} (hc : Calls P f args'.toArray w (CallPost base e w vv M'))
    (hK : ∀ v' e' w', Ext e e' → V3 e' vv v' → MR base e' M' w' → Below base w w' → K (a.put o.dst v') w') : o.wp P a w K Q := by
  unfold Oper.wp
  rw [hr]
  rw [Oper.upon_enter]
  refine hc.mono fun en w'' h => ?_
  obtain ⟨v', e', rfl, h1, h2, h3, h4⟩ := h
  exact hK v' e' w'' h1 h2 h3 h4
/-- The state of both. -/
structure ST (base N : Nat) (e0 : Env) (w0 : World) (F : Fr) (M : Mem) (a : Act) (w : World) : Prop where
  ex : ∃ e, FR N F a e ∧ MR base e M w ∧ Ext e0 e
  below : Below base w0 w
theorem evalOps_sound {e0 : Env} {w0 : World} {Q : Exit → Act → World → Prop} (hcall : CallOk P base call) (hN : N ≤ 512) : ∀ (l : List Oper) (i : Nat) {F1 : Fr} {M1 : Mem} {F : Fr} {M : Mem} {a : Act} {w : World},
    (∀ k, k < l.length → ops[i + k]? = l[k]?) → evalOps P call N ops l F M = some (F1, M1) → ST base N e0 w0 F M a w → (∀ a w, ST base N e0 w0 F1 M1 a w → Q .normal a w) →
    wpOps P ops Q (List.range' i l.length) a w
  | [], i, F1, M1, F, M, a, w, _, h, hS, hQ => by
    obtain ⟨rfl, rfl⟩ : F = F1 ∧ M = M1 := by
      have := some_eq h
      injection this with h1 h2
      exact ⟨h1.symm, h2.symm⟩
    exact hQ _ _ hS
  | o :: l, i, F1, M1, F, M, a, w, hl, h, hS, hQ => by
    have ho : ops[i]? = some o := by simpa using hl 0 (by simp)
    have hl' : ∀ k, k < l.length → ops[i + 1 + k]? = l[k]? := fun k hk => by
      have := hl (k + 1) (by simp; omega)
      rw [show i + 1 + k = i + (k + 1) by omega]
      simpa using this
    simp only [List.length_cons, List.range'_succ]
    rw [wpOps_cons]
    unfold wpOp
    simp only [ho]
    change opK P call N ops o F M (fun F M => evalOps P call N ops l F M) = _ at h
    obtain ⟨⟨e, hF, hM, hE⟩, hB⟩ := hS
    unfold opK at h
    split at h
    · rename_i hw
      rw [wanted_of (fun g b t _ _ v hv => hF.val t v hv) hw]
      simp only [if_true]
      left
      unfold outK at h
      split at h
      · rename_i v hv
        obtain ⟨F', hp, h⟩ := putFK_some hN h
        obtain ⟨v', w', e', hr, g1, g2, g3, g4⟩ : OpPost P base o a e w v M := evalOp_sound hv hF.good hM
        exact hr.wp (evalOps_sound hcall hN l (i + 1) hl' h ⟨⟨e', hF.put hp g2 g1, g3, hE.trans g1⟩, hB.trans g4⟩ hQ)
      · rename_i v m hv
        rw [fV_eq] at h
        obtain ⟨F', hp, h⟩ := putFK_some hN h
        rw [Eff.applyK_eq] at h
        obtain ⟨v', w', e', hr, g1, g2, g3, g4⟩ : OpPost P base o a e w v (m.apply M) := evalOp_sound hv hF.good hM
        exact hr.wp (evalOps_sound hcall hN l (i + 1) hl' h ⟨⟨e', hF.put hp g2 g1, g3, hE.trans g1⟩, hB.trans g4⟩ hQ)
      · rename_i f args hv
        unfold callK at h
        split at h
        · rename_i v M' hc
          obtain ⟨F', hp, h⟩ := putFK_some hN h
          have hcr : OutPost P base o a e w M (.call f args) := evalOp_sound hv hF.good hM
          obtain ⟨args', hr, g0⟩ := hcr
          exact Oper.wp_call hr (hcall f args M v M' hc e w args' g0 hM) fun v' e' w' g1 g2 g3 g4 =>
            evalOps_sound hcall hN l (i + 1) hl' h ⟨⟨e', hF.put hp g2 g1, g3, hE.trans g1⟩, hB.trans g4⟩ hQ
        · cases h
      · cases h
    · rename_i hw
      rw [wanted_of (fun g b t _ _ v hv => hF.val t v hv) hw]
      simp only [Bool.false_eq_true, if_false]
      obtain ⟨F', hp, h⟩ := putFK_some hN h
      exact evalOps_sound hcall hN l (i + 1) hl' h ⟨⟨e, hF.put hp (V3.undef e) (Ext.refl e), hM, hE⟩, hB⟩ hQ
    · cases h
theorem region_sound {e0 : Env} {w0 : World} {Q : Exit → Act → World → Prop} (hcall : CallOk P base call) (hN : N ≤ 512) {id : Nat} {F1 : Fr} {M1 : Mem} (h : evalOps P call N ops ops.toList F M = some (F1, M1)) (hS : ST base N e0 w0 F M a w) (hQ : ∀ a w, ST base N e0 w0 F1 M1 a w → Q .normal a w) :
    (Code.region id ops false).wp P Q a w := by
  refine wp_region ?_
  have := evalOps_sound (Q := Q) (ops := ops) hcall hN ops.toList 0 (fun k _ => by simp) h hS hQ
  rw [List.range_eq_range']
  simpa using this
end
end Go.Proofs.YthldmlfpebgojaaGreatDoor
