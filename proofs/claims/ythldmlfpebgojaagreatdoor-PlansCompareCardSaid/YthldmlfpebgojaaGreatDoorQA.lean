/-
  What the evaluator says of a call is true of the program, in every world.
  No condition.
-/
import Derived.Test.YthldmlfpebgojaaGreatDoorQV
import Derived.Scope
import Derived.Laws.Sem
namespace Go.Proofs.YthldmlfpebgojaaGreatDoor
set_option linter.unusedSimpArgs false
set_option linter.unusedVariables false
open Go.RowKit Go

/-- The exits. -/
def Ex.to : Ex → Exit
  | .normal => .normal
  | .exit id => .exit id
  | .ret => .ret
/-- A loop, from the begin of a round. -/
def LoopWp (P : Program) (c : Code) (Q : Exit → Act → World → Prop) (a : Act) (w : World) : Prop := ∀ (b : Frame) (k : List Item) (cs : List Frame),
  ∃ e a' w', Q e a' w' ∧ Arrives P (lone (b.at a (.code c :: .inLoop c :: k)) cs w) b k cs e a' w'
section
variable {P : Program} {base N : Nat} {call : CallE} {e0 : Env} {w0 : World}
theorem LoopWp.wp {c : Code} {Q : Exit → Act → World → Prop} {a : Act} {w : World} (h : LoopWp P c Q a w) : (Code.loop c).wp P Q a w := fun b k cs =>
  let ⟨e, a', w', q, r⟩ := h b k cs; ⟨e, a', w', q, .of_steps (.one step_loop) r⟩
theorem LoopWp.round {c : Code} {Q : Exit → Act → World → Prop} {a : Act} {w : World} (h : c.wp P (Exit.then (LoopWp P c Q) Q) a w) : LoopWp P c Q a w := by
  intro b k cs
  obtain ⟨e, a₁, w₁, hq, harr⟩ := h b (.inLoop c :: k) cs
  cases e with
  | normal =>
    obtain ⟨e₂, a₂, w₂, hq₂, harr₂⟩ := hq b k cs
    exact ⟨e₂, a₂, w₂, hq₂, .of_steps (Steps.trans harr (.one step_inLoop)) harr₂⟩
  | exit id => exact ⟨_, a₁, w₁, hq, .pass (x := .inLoop c) rfl (fun _ _ => .inl (by simp)) harr⟩
  | goto l => exact ⟨_, a₁, w₁, hq, .pass (x := .inLoop c) rfl (fun _ _ => .inl (by simp)) harr⟩
  | ret => exact ⟨_, a₁, w₁, hq, .pass (x := .inLoop c) rfl (fun _ _ => .inl (by simp)) harr⟩
  | panic ch => exact ⟨_, a₁, w₁, hq, .pass (x := .inLoop c) rfl (fun _ _ => .inl (by simp)) harr⟩
  | outgrown => exact ⟨_, a₁, w₁, hq, .pass (x := .inLoop c) rfl (fun _ _ => .inl (by simp)) harr⟩
theorem code_sound (hm : P.follows .mixedOrders = true) (hcall : CallOk P base call) (hcle : CallLe call call) (hN : N ≤ 512) : ∀ (fuel : Nat) {c : Code} {F : Fr} {M : Mem} {ex : Ex} {F1 : Fr} {M1 : Mem} {a : Act} {w : World} {Q : Exit → Act → World → Prop},
    evalCode P call N fuel c F M = some (ex, F1, M1) → ST base N e0 w0 F M a w → (∀ a w, ST base N e0 w0 F1 M1 a w → Q ex.to a w) → c.wp P Q a w ∧ ∀ b, c = .loop b → LoopWp P b Q a w
  | 0, c, F, M, ex, F1, M1, a, w, Q, h, _, _ => by cases h
  | fuel + 1, c, F, M, ex, F1, M1, a, w, Q, h, hS, hQ => by
    change codeStep P call N (evalCode P call N fuel) c F M = _ at h
    have triple : ∀ {x : Ex} {y : Fr} {z : Mem}, some (x, y, z) = some (ex, F1, M1) → x = ex ∧ y = F1 ∧ z = M1 := fun h => by
      have := some_eq h
      injection this with h1 h2
      injection h2 with h2 h3
      exact ⟨h1.symm, h2.symm, h3.symm⟩
    cases c with
    | skip =>
      obtain ⟨rfl, rfl, rfl⟩ := triple h
      exact ⟨wp_skip (hQ a w hS), fun b hb => by cases hb⟩
    | label l =>
      obtain ⟨rfl, rfl, rfl⟩ := triple h
      exact ⟨wp_label (hQ a w hS), fun b hb => by cases hb⟩
    | region id ops draw =>
      refine ⟨?_, fun b hb => by cases hb⟩
      cases draw with
      | false =>
        change regK (evalOps P call N ops ops.toList F M) = _ at h
        unfold regK at h
        split at h
        · rename_i F2 M2 hev
          obtain ⟨rfl, rfl, rfl⟩ := triple h
          exact region_sound hcall hN hev hS hQ
        · cases h
      | true =>
        change regK (evalDr P call N ops F M) = _ at h
        unfold regK at h
        split at h
        · rename_i F2 M2 hev
          obtain ⟨rfl, rfl, rfl⟩ := triple h
          exact dr_sound hm hcall hcle hN hev hS hQ
        · cases h
    | seq x y =>
      refine ⟨wp_seq ?_, fun b hb => by cases hb⟩
      change seqK (evalCode P call N fuel x F M) (evalCode P call N fuel y) = _ at h
      unfold seqK at h
      split at h
      · rename_i F2 M2 hev
        exact (code_sound hm hcall hcle hN fuel hev hS fun a' w' hS' => (code_sound hm hcall hcle hN fuel h hS' hQ).1).1
      · rename_i hnot
        refine (code_sound hm hcall hcle hN fuel h hS fun a' w' hS' => ?_).1
        cases ex with
        | normal => exact absurd h (hnot F1 M1)
        | exit id => exact hQ a' w' hS'
        | ret => exact hQ a' w' hS'
    | cond c x y =>
      refine ⟨?_, fun b hb => by cases hb⟩
      change condK (opv F c) (evalCode P call N fuel x F M) (evalCode P call N fuel y F M) = _ at h
      obtain ⟨e, hF, _, _⟩ := hS.ex
      unfold condK at h
      split at h
      · rename_i hc
        exact wp_cond_true (hF.opv hc).bool (code_sound hm hcall hcle hN fuel h hS hQ).1
      · rename_i hc
        exact wp_cond_false (hF.opv hc).bool (code_sound hm hcall hcle hN fuel h hS hQ).1
      · cases h
    | block id c =>
      refine ⟨wp_block ?_, fun b hb => by cases hb⟩
      change blockK id (evalCode P call N fuel c F M) = _ at h
      unfold blockK at h
      split at h
      · rename_i k F2 M2 hev
        cases hk : Nat.beq k id with
        | true =>
          rw [hk] at h
          obtain ⟨rfl, rfl, rfl⟩ := triple h
          obtain rfl := Nat.eq_of_beq_eq_true hk
          refine (code_sound hm hcall hcle hN fuel hev hS fun a' w' hS' => ?_).1
          have := hQ a' w' hS'
          simpa [Ex.to, Exit.inBlock] using this
        | false =>
          rw [hk] at h
          obtain ⟨rfl, rfl, rfl⟩ := triple h
          have hne : ¬ k = id := fun e2 => by subst e2; rw [Nat.beq_refl] at hk; cases hk
          refine (code_sound hm hcall hcle hN fuel hev hS fun a' w' hS' => ?_).1
          have := hQ a' w' hS'
          simpa [Ex.to, Exit.inBlock, hne] using this
      · rename_i hnot
        refine (code_sound hm hcall hcle hN fuel h hS fun a' w' hS' => ?_).1
        cases ex with
        | normal => exact hQ a' w' hS'
        | exit k => exact absurd h (hnot k F1 M1)
        | ret => exact hQ a' w' hS'
    | loop c =>
      change seqK (evalCode P call N fuel c F M) (evalCode P call N fuel (.loop c)) = _ at h
      have key : LoopWp P c Q a w := by
        refine LoopWp.round ?_
        unfold seqK at h
        split at h
        · rename_i F2 M2 hev
          exact (code_sound hm hcall hcle hN fuel hev hS fun a' w' hS' => (code_sound hm hcall hcle hN fuel h hS' hQ).2 c rfl).1
        · rename_i hnot
          refine (code_sound hm hcall hcle hN fuel h hS fun a' w' hS' => ?_).1
          cases ex with
          | normal => exact absurd h (hnot F1 M1)
          | exit id => exact hQ a' w' hS'
          | ret => exact hQ a' w' hS'
      exact ⟨key.wp, fun b hb => by injection hb with hb; subst hb; exact key⟩
    | exit id =>
      obtain ⟨rfl, rfl, rfl⟩ := triple h
      exact ⟨wp_exit (hQ a w hS), fun b hb => by cases hb⟩
    | scope c =>
      refine ⟨wp_scope_straight ?_, fun b hb => by cases hb⟩
      change evalCode P call N fuel c F M = _ at h
      refine (code_sound hm hcall hcle hN fuel h hS fun a' w' hS' => ?_).1
      have := hQ a' w' hS'
      cases ex <;> exact this
    | ret =>
      obtain ⟨rfl, rfl, rfl⟩ := triple h
      exact ⟨wp_ret (hQ a w hS), fun b hb => by cases hb⟩
    | rangeFunc f ps asg bd => cases h
    | goto l => cases h
    | refuse y => cases h

/- Results. -/
theorem result1_sound {F : Fr} {M : Mem} {r : ResultVar} {v : Value} {e : Env} {a : Act} {w : World} (h : result1 P F M r = some v) (hF : FR N F a e) (hM : MR base e M w) :
    ∃ v', ((match r with
      | .tmp t => pure (a.tmps.getD t undef)
      | .cell b t => do loadVar t (← asAddr (a.tmps.getD b undef)) : Sem Value)).run P w = .ok v' w ∧ V3 e v v' := by
  cases r with
  | tmp t => exact ⟨_, rfl, hF.val t v h⟩
  | cell t T =>
    unfold result1 at h
    simp only at h
    split at h
    · rename_i b off h1 h2
      obtain ⟨b', d, hb, he⟩ := (hF.val t _ h1).ptr
      split at h
      case h_2 => cases h
      rename_i n hn
      split at h
      case h_2 => cases h
      rename_i cs hcs
      obtain rfl := some_eq h
      obtain ⟨hl, cs', hlc, hcell⟩ := hM.read hcs hb
      have hr := run_loadCells_list (P := P) w ⟨b', off, none⟩ cs' hcell
      rw [← hlc.len, hl] at hr
      refine ⟨.agg cs'.toArray, ?_, .two (.agg hlc)⟩
      simp only [he]
      simp [asAddr, loadVar, Sem.run_bind, quick_run h2 w, quick_run hn w, hr]
    · rename_i b off h1 h2
      obtain ⟨b', d, hb, he⟩ := (hF.val t _ h1).ptr
      split at h
      case h_2 => cases h
      rename_i c hcs
      obtain rfl := some_eq h
      obtain ⟨hl, cs', hlc, hcell⟩ := hM.read hcs hb
      obtain ⟨c', rfl, hc'⟩ := hlc.one
      have h0 := hcell 0 c' rfl
      rw [addr_add, Nat.add_zero] at h0
      refine ⟨c', ?_, .two (.one hc')⟩
      simp only [he]
      simp [asAddr, loadVar, Sem.run_bind, quick_run h2 w, load, Sem.run, h0]
    · cases h
theorem resultsE_sound {F : Fr} {M : Mem} {e : Env} {a : Act} {w : World} (hF : FR N F a e) (hM : MR base e M w) : ∀ {rs : List ResultVar} {vs : List Value}, resultsE P F M rs = some vs →
    ∃ vs', (rs.mapM (fun r => (match r with
      | .tmp t => pure (a.tmps.getD t undef)
      | .cell b t => do loadVar t (← asAddr (a.tmps.getD b undef)) : Sem Value))).run P w = .ok vs' w ∧ L1 (V3 e) vs vs'
  | [], vs, h => by
    obtain rfl := some_eq h
    exact ⟨[], rfl, .nil⟩
  | r :: rs, vs, h => by
    unfold resultsE at h
    split at h
    case h_2 => cases h
    rename_i v hv
    split at h
    case h_2 => cases h
    rename_i us hus
    obtain rfl := some_eq h
    obtain ⟨v', h1, h2⟩ := result1_sound hv hF hM
    obtain ⟨us', h3, h4⟩ := resultsE_sound hF hM hus
    refine ⟨v' :: us', ?_, .cons h2 h4⟩
    rw [List.mapM_cons, Sem.run_bind, h1]
    simp only [Result.andThen_ok]
    rw [Sem.run_bind, h3]
    rfl
theorem flat_two {e : Env} {v v' : Value} (hf : flatV v = true) (h : V3 e v v') : V2 e v v' := by
  cases h with
  | two h => exact h
  | tup h => cases hf
theorem flats_two {e : Env} {l l' : List Value} (h : L1 (V3 e) l l') (hf : l.all flatV = true) : L1 (V2 e) l l' := by
  induction h with
  | nil => exact .nil
  | cons h1 _ ih =>
    simp only [List.all_cons, Bool.and_eq_true] at hf
    exact .cons (flat_two hf.1 h1) (ih hf.2)
theorem tuple_sound {e : Env} {vs vs' : List Value} (h : L1 (V3 e) vs vs') (hf : vs.all flatV = true) : V3 e (tupleE vs) (if h : vs'.toArray.size = 1 then vs'.toArray[0] else .tuple vs'.toArray) := by
  have h2 := flats_two h hf
  cases h with
  | nil => exact .tup .nil
  | cons h1 hr =>
    cases hr with
    | nil => exact h1
    | cons h3 h4 =>
      have : ∀ (a b : Value) (l : List Value), ¬ (a :: b :: l).toArray.size = 1 := by simp
      rw [dif_neg (this _ _ _)]
      exact .tup h2

/- The frame at the beginning. -/
theorem rep8_get {α : Type} (x : α) (d : D8) : (rep8 x).get d = x := by cases d <;> rfl
theorem fr0_get (t : Nat) : frGet fr0 t = none := by
  by_cases h : t < 512
  · rw [frGet_lt h]
    unfold fr0
    rw [rep8_get, rep8_get, rep8_get]
  · exact frGet_ge h
theorem frArgs_get : ∀ (args : List Value) (k : Nat) (F : Fr) (t : Nat) (v : Value), k + args.length ≤ 512 → frGet (frArgs k args F) t = some v → (k ≤ t ∧ args[t - k]? = some v) ∨ ((t < k ∨ k + args.length ≤ t) ∧ frGet F t = some v)
  | [], k, F, t, v, _, h => .inr ⟨by simp; omega, h⟩
  | x :: xs, k, F, t, v, hk, h => by
    rw [List.length_cons] at hk
    obtain ⟨F', h1, h2, h3⟩ := frPut_eq F (k := k) (by omega) (some x) (fun t => frArgs (Nat.succ k) xs t)
    change frGet (frPut F k (some x) fun t => frArgs (Nat.succ k) xs t) t = some v at h
    rw [h1] at h
    rcases frArgs_get xs (k + 1) F' t v (by omega) h with ⟨h4, h5⟩ | ⟨h4, h5⟩
    · left
      refine ⟨by omega, ?_⟩
      rw [show t - k = (t - (k + 1)) + 1 by omega]
      simpa using h5
    · by_cases htk : t = k
      · subst htk
        rw [h2] at h5
        left
        refine ⟨Nat.le_refl _, ?_⟩
        simpa using h5
      · rw [h3 t htk] at h5
        exact .inr ⟨by rw [List.length_cons]; omega, h5⟩
end
theorem callStep_ok (P : Program) (hm : P.follows .mixedOrders = true) (base fuel : Nat) {rec : CallE} (hrec : CallOk P base rec) (hle0 : CallLe rec rec) : CallOk P base (callStep P fuel rec) :=
  fun f args M v M' h e w args' ha hM => by
    unfold callStep at h
    split at h
    case h_2 => cases h
    rename_i fn hfn
    unfold bodyK at h
    split at h
    case h_2 => cases h
    rename_i c hb
    obtain ⟨hle, h⟩ := cond_run h
    simp only [Bool.and_eq_true] at hle
    have hle1 := Nat.le_of_ble_eq_true hle.1
    have hle2 := Nat.le_of_ble_eq_true hle.2
    have hal := ha.len
    refine calls_of_wp hfn hb ?_
    have hS : ST base fn.ntmps e w (frArgs 0 args fr0) M { tmps := args'.toArray ++ Array.replicate (fn.ntmps - args'.toArray.size) undef, defers := [] } w := by
      refine ⟨⟨e, ⟨by simp; omega, hle2, fun t v hv => ?_, rfl⟩, hM, Ext.refl e⟩, Below.refl _ _⟩
      rcases frArgs_get args 0 fr0 t v (by omega) hv with ⟨_, h1⟩ | ⟨_, h1⟩
      · obtain ⟨v', h2, h3⟩ := ha.get h1
        have hlt := (List.getElem?_eq_some_iff.1 h2).1
        have : (args'.toArray ++ Array.replicate (fn.ntmps - args'.toArray.size) undef).getD t undef = v' := by
          rw [Array.getD_eq_getD_getElem?, Array.getElem?_append_left (by simp; omega)]
          simpa using congrArg (·.getD undef) h2
        rw [this]
        exact h3
      · rw [fr0_get] at h1
        cases h1
    have fin : ∀ {F1 : Fr} {M1 : Mem} {vs : List Value}, resultsE P F1 M1 fn.results.toList = some vs → (bif vs.all flatV then some (tupleE vs, M1) else none) = some (v, M') → ∀ a w', ST base fn.ntmps e w F1 M1 a w' →
        a.defers = [] ∧ ∃ r, (results fn a.tmps).run P w' = .ok r w' ∧ CallPost base e w v M' (.returned r) w' := by
      intro F1 M1 vs hrs hend a w' hS'
      obtain ⟨hfl, heq⟩ := some_bif hend
      injection heq with h1 h2
      subst h1 h2
      obtain ⟨⟨e1, hF1, hM1, hE1⟩, hB1⟩ := hS'
      obtain ⟨vs', h3, h4⟩ := resultsE_sound hF1 hM1 hrs
      refine ⟨hF1.defers, _, ?_, ⟨_, e1, rfl, hE1, tuple_sound h4 hfl, hM1, hB1⟩⟩
      unfold results
      rw [Array.mapM_eq_mapM_toList, ← bind_pure_comp, Sem.run_bind, Sem.run_bind]
      exact congrArg (fun r => Result.andThen (Result.andThen r fun a w' => Sem.run P (pure a.toArray) w') fun a w' => Sem.run P (pure (if h : a.size = 1 then a[0] else Value.tuple a)) w') h3
    unfold endK at h
    split at h
    · cases h
    · rename_i ex F1 M1 hnot hev
      split at h
      case h_2 => cases h
      rename_i vs hrs
      refine (code_sound hm hrec hle0 hle2 fuel hev hS fun a' w' hS' => ?_).1
      have := fin hrs h a' w' hS'
      cases ex with
      | normal => exact this
      | exit id => exact absurd rfl (hnot id)
      | ret => exact this
    · cases h
theorem evalCall_ok (P : Program) (hm : P.follows .mixedOrders = true) (base fuel : Nat) : ∀ n, CallOk P base (evalCall P fuel n)
  | 0 => fun f args M v M' h => by cases h
  | n + 1 => callStep_ok P hm base fuel (evalCall_ok P hm base fuel n) (evalCall_le (Nat.le_refl fuel) (Nat.le_refl n))
end Go.Proofs.YthldmlfpebgojaaGreatDoor
