/-
  The evaluator's calls without a count of steps.
  No condition.
-/
import Derived.Test.YthldmlfpebgojaaGreatDoorQB
namespace Go.Proofs.YthldmlfpebgojaaGreatDoor
set_option linter.unusedSimpArgs false
set_option linter.unusedVariables false
open Go.RowKit Go

theorem N8.setK_id {α β : Type} (t : N8 α) (d : D8) (x : α) (k : N8 α → β) : t.setK d x k = k (t.setK d x id) := by cases t; cases d <;> rfl
theorem frPut_id {β : Type} (t : Fr) (k : Nat) (v : Option Value) (c : Fr → β) : frPut t k v c = c (frPut t k v id) := by
  unfold frPut
  rw [N8.setK_id]
  conv => rhs; rw [N8.setK_id]
  rw [N8.setK_id]
  conv => rhs; rw [N8.setK_id]
  rw [N8.setK_id]
/-- A slot written, if there is one. -/
noncomputable def putF (N : Nat) (F : Fr) (d : Option Nat) (v : Value) : Option Fr := match d with
  | some t => bif Nat.blt t N then some (frPut F t (some v) id) else none
  | none => some F
theorem putFK_eq {β : Type} (N : Nat) (F : Fr) (d : Option Nat) (v : Value) (k : Fr → Option β) : putFK N F d v none k = (putF N F d v).bind k := by
  unfold putFK putF
  cases d with
  | none => rfl
  | some t =>
    simp only
    rw [frPut_id]
    cases Nat.blt t N <;> rfl
def StepLe (M M' : Mem) (r r' : StepE) : Prop := ∀ F1 M1, r = some (F1, M1) → ∃ M1', r' = some (F1, M1') ∧ Beside M M' M1 M1'
def CodeLe (M M' : Mem) (r r' : CodeE) : Prop := ∀ ex F1 M1, r = some (ex, F1, M1) → ∃ M1', r' = some (ex, F1, M1') ∧ Beside M M' M1 M1'
section
variable {P : Program} {call call' : CallE} {N : Nat} {ops : Array Oper}
theorem bind_some {α β : Type} {x : Option α} {k : α → Option β} {r : β} (h : x.bind k = some r) : ∃ y, x = some y ∧ k y = some r := by
  cases x with
  | none => cases h
  | some y => exact ⟨y, rfl, h⟩
theorem evalOps_le (hc : CallLe call call') : ∀ (l : List Oper) (F : Fr) {M M' : Mem}, ML M M' → StepLe M M' (evalOps P call N ops l F M) (evalOps P call' N ops l F M')
  | [], F, M, M', hM => fun F1 M1 h => by
    have h := some_eq h
    injection h with h1 h2
    subst h1 h2
    exact ⟨M', rfl, .refl hM⟩
  | o :: l, F, M, M', hM => fun F1 M1 h => by
    change opK P call N ops o F M (fun F M => evalOps P call N ops l F M) = _ at h
    change ∃ M1', opK P call' N ops o F M' (fun F M => evalOps P call' N ops l F M) = _ ∧ _
    unfold opK at h ⊢
    split at h
    · cases hev : evalOp P o F M with
      | none => rw [hev] at h; cases h
      | some out =>
        rw [hev] at h
        obtain ⟨h1, h2⟩ := evalOp_mono hM hev
        rw [h1]
        unfold outK at h ⊢
        cases out with
        | w v =>
          simp only [putFK_eq] at h ⊢
          obtain ⟨F', hp, h⟩ := bind_some h
          rw [hp]
          exact evalOps_le hc l F' hM F1 M1 h
        | v v m =>
          simp only [fV_eq, putFK_eq, Eff.applyK_eq] at h ⊢
          obtain ⟨F', hp, h⟩ := bind_some h
          rw [hp]
          have hb := Beside.eff hM h2
          obtain ⟨M1', h3, h4⟩ := evalOps_le hc l F' hb.le F1 M1 h
          exact ⟨M1', h3, hb.trans h4⟩
        | call f args =>
          simp only at h ⊢
          unfold callK at h ⊢
          split at h
          · rename_i v M2 hcall
            obtain ⟨M2', h3, hb⟩ := hc f args M M' v M2 hM hcall
            rw [h3]
            simp only [putFK_eq] at h ⊢
            obtain ⟨F', hp, h⟩ := bind_some h
            rw [hp]
            obtain ⟨M1', h5, h6⟩ := evalOps_le hc l F' hb.le F1 M1 h
            exact ⟨M1', h5, hb.trans h6⟩
          · cases h
    · simp only [putFK_eq] at h ⊢
      obtain ⟨F', hp, h⟩ := bind_some h
      rw [hp]
      exact evalOps_le hc l F' hM F1 M1 h
    · cases h

/-- Lists of memories, one by one. -/
inductive MLs : List (Mem × Eff) → List (Mem × Eff) → Prop
  | nil : MLs [] []
  | cons {M M' : Mem} {m : Eff} {l l' : List (Mem × Eff)} : ML M M' → MLs l l' → MLs ((M, m) :: l) ((M', m) :: l')
inductive MLs1 : List Mem → List Mem → Prop
  | nil : MLs1 [] []
  | cons {M M' : Mem} {l l' : List Mem} : ML M M' → MLs1 l l' → MLs1 (M :: l) (M' :: l')
theorem MLs.len {l l' : List (Mem × Eff)} (h : MLs l l') : l.length = l'.length := by
  induction h with
  | nil => rfl
  | cons _ _ ih => simp [ih]
theorem MLs1.app {l l' m m' : List Mem} (h : MLs1 l l') (k : MLs1 m m') : MLs1 (l ++ m) (l' ++ m') := by
  induction h with
  | nil => exact k
  | cons h1 _ ih => exact .cons h1 ih
theorem MLs.fst {l l' : List (Mem × Eff)} (h : MLs l l') : MLs1 (l.map (·.1)) (l'.map (·.1)) := by
  induction h with
  | nil => exact .nil
  | cons h1 _ ih => exact .cons h1 ih
theorem MLs.app {l l' m m' : List (Mem × Eff)} (h : MLs l l') (k : MLs m m') : MLs (l ++ m) (l' ++ m') := by
  induction h with
  | nil => exact k
  | cons h1 _ ih => exact .cons h1 ih
theorem MLs.rev {l l' : List (Mem × Eff)} (h : MLs l l') : MLs l.reverse l'.reverse := by
  induction h with
  | nil => exact .nil
  | cons h1 _ ih =>
    rw [List.reverse_cons, List.reverse_cons]
    exact ih.app (.cons h1 .nil)
theorem MLs1.len {l l' : List Mem} (h : MLs1 l l') : l.length = l'.length := by
  induction h with
  | nil => rfl
  | cons _ _ ih => simp [ih]
theorem MLs1.get {l l' : List Mem} (h : MLs1 l l') {i : Nat} {M : Mem} (hi : l[i]? = some M) : ∃ M', l'[i]? = some M' ∧ ML M M' := by
  induction h generalizing i with
  | nil => cases hi
  | cons h1 _ ih =>
    cases i with
    | zero => obtain rfl := some_eq hi; exact ⟨_, rfl, h1⟩
    | succ i => exact ih hi
theorem statesD_le {l l' : List (Mem × Eff)} (h : MLs l l') {r : List Mem} (hr : statesD ops l = some r) : ∃ r', statesD ops l' = some r' ∧ MLs1 r r' := by
  unfold statesD at hr ⊢
  cases hl : loose ops (masks ops.toList []) with
  | false =>
    rw [hl] at hr
    simp only [cond_false] at hr ⊢
    obtain rfl := some_eq hr
    exact ⟨_, rfl, h.rev.fst⟩
  | true =>
    rw [hl] at hr
    simp only [cond_true] at hr ⊢
    split at hr
    · rename_i M2 b2 B2 M1 b1 B1 M0 m0 rest
      cases h with
      | cons h2 h =>
      cases h with
      | cons h1 h =>
      cases h with
      | cons h0 h =>
      cases hb : Nat.beq b1 b2 with
      | true => rw [hb] at hr; cases hr
      | false =>
        rw [hb] at hr
        simp only [cond_false, hb] at hr ⊢
        obtain rfl := some_eq hr
        refine ⟨_, rfl, MLs1.app (MLs.cons h2 (MLs.cons h1 (MLs.cons h0 h))).rev.fst (.cons ?_ .nil)⟩
        rw [Eff.applyK_eq, Eff.applyK_eq]
        refine ⟨h0.nx, fun b X hb => ?_⟩
        change (M0.t.set b2 (some B2)).get b = _ at hb
        change (Tr.set _ b2 (some B2)).get b = _
        by_cases e : b2 = b
        · subst e; rw [Tr.set_self] at hb ⊢; exact hb
        · rw [Tr.set_other _ _ e] at hb ⊢; exact h0.get b X hb
    · cases hr
theorem ldOk_le {l l' : List Mem} (h : MLs1 l l') {ld : Ld} {ms : List Nat} (hr : ldOk P ops ms l ld = true) : ldOk P ops ms l' ld = true := by
  unfold ldOk at hr ⊢
  rw [List.all_eq_true] at hr ⊢
  intro s hs
  rw [← h.len] at hs
  have h1 := hr s hs
  rw [Bool.or_eq_true] at h1 ⊢
  rcases h1 with h1 | h1
  · exact .inl h1
  · refine .inr ?_
    split at h1
    · rename_i M hM
      obtain ⟨M', hM', hle⟩ := h.get hM
      rw [hM']
      simp only
      cases hev : evalOp P ld.o ld.F M with
      | none => rw [hev] at h1; cases h1
      | some out =>
        rw [(evalOp_mono hle hev).1]
        rw [hev] at h1
        exact h1
    · cases h1
theorem evalDrawL_le (hc : CallLe call call') : ∀ (l : List Oper) (F : Fr) {M M' : Mem} (lds : List Ld) {mems mems' : List (Mem × Eff)} (j : Nat), ML M M' → MLs mems mems' → StepLe M M' (evalDrawL P call N ops l F M lds mems j) (evalDrawL P call' N ops l F M' lds mems' j)
  | [], F, M, M', lds, mems, mems', j, hM, hl => fun F1 M1 h => by
    change endD P ops F M lds mems j = _ at h
    change ∃ M1', endD P ops F M' lds mems' j = _ ∧ _
    unfold endD at h ⊢
    split at h
    · rename_i r hr
      obtain ⟨r', hr', hle⟩ := statesD_le hl hr
      rw [hr']
      obtain ⟨h1, h2⟩ := cond_run h
      have h2 := some_eq h2
      injection h2 with h3 h4
      subst h3 h4
      have : lds.all (ldOk P ops (masks ops.toList []) r') = true := by
        rw [List.all_eq_true] at h1 ⊢
        exact fun ld hld => ldOk_le hle (h1 ld hld)
      simp only [this, cond_true]
      exact ⟨M', rfl, .refl hM⟩
    · cases h
  | o :: l, F, M, M', lds, mems, mems', j, hM, hl => fun F1 M1 h => by
    change opD P call N ops o (evalDrawL P call N ops l) F M lds mems j = _ at h
    change ∃ M1', opD P call' N ops o (evalDrawL P call' N ops l) F M' lds mems' j = _ ∧ _
    have next : ∀ {v : Value} {F' : Fr} {m : Eff} {M2 M2' : Mem}, Beside M M' M2 M2' → nextD o F v F' m M2 lds mems j (evalDrawL P call N ops l) = some (F1, M1) → ∃ M1', nextD o F v F' m M2' lds mems' j (evalDrawL P call' N ops l) = some (F1, M1') ∧ Beside M M' M1 M1' := by
      intro v F' m M2 M2' hb h
      unfold nextD at h ⊢
      have fin : ∀ {lds2 : List Ld} {ml ml' : List (Mem × Eff)}, MLs ml ml' → evalDrawL P call N ops l F' M2 lds2 ml (Nat.succ j) = some (F1, M1) → ∃ M1', evalDrawL P call' N ops l F' M2' lds2 ml' (Nat.succ j) = some (F1, M1') ∧ Beside M M' M1 M1' := fun hml h => by
        obtain ⟨M1', h3, h4⟩ := evalDrawL_le hc l F' _ _ hb.le hml F1 M1 h
        exact ⟨M1', h3, hb.trans h4⟩
      cases hchg : isChg o with
      | true =>
        rw [hchg] at h
        simp only [cond_true] at h ⊢
        exact fin (.cons hb.le hl) h
      | false =>
        rw [hchg] at h
        simp only [cond_false] at h ⊢
        obtain ⟨hno, h⟩ := cond_run h
        rw [hno]
        simp only [cond_true]
        cases hrd : isRd o with
        | true =>
          rw [hrd] at h
          simp only [cond_true] at h ⊢
          rw [← hl.len]
          exact fin hl h
        | false =>
          rw [hrd] at h
          simp only [cond_false] at h ⊢
          exact fin hl h
    unfold opD at h ⊢
    split at h
    · cases hev : evalOp P o F M with
      | none => rw [hev] at h; cases h
      | some out =>
        rw [hev] at h
        obtain ⟨h1, h2⟩ := evalOp_mono hM hev
        rw [h1]
        unfold outD at h ⊢
        cases out with
        | w v =>
          simp only [putFK_eq] at h ⊢
          obtain ⟨F', hp, h⟩ := bind_some h
          rw [hp]
          exact next (.refl hM) h
        | v v m =>
          simp only [fV_eq, putFK_eq, Eff.applyK_eq] at h ⊢
          obtain ⟨F', hp, h⟩ := bind_some h
          rw [hp]
          exact next (Beside.eff hM h2) h
        | call f args =>
          simp only at h ⊢
          unfold callD at h ⊢
          split at h
          · rename_i v M2 hcall
            obtain ⟨M2', h3, hb⟩ := hc f args M M' v M2 hM hcall
            rw [h3]
            simp only [putFK_eq] at h ⊢
            obtain ⟨F', hp, h⟩ := bind_some h
            rw [hp]
            obtain ⟨hchg, h⟩ := cond_run h
            simp only [Option.bind_some, hchg, cond_true]
            obtain ⟨M1', h5, h6⟩ := evalDrawL_le hc l F' _ _ hb.le (.cons hb.le hl) F1 M1 h
            exact ⟨M1', h5, hb.trans h6⟩
          · cases h
    · simp only [putFK_eq] at h ⊢
      obtain ⟨F', hp, h⟩ := bind_some h
      rw [hp]
      simp only [Option.bind_some]
      cases hchg : isChg o with
      | true =>
        rw [hchg] at h
        exact evalDrawL_le hc l F' _ _ hM (.cons hM hl) F1 M1 h
      | false =>
        rw [hchg] at h
        exact evalDrawL_le hc l F' _ _ hM hl F1 M1 h
    · cases h
theorem evalDraw_le (hc : CallLe call call') (F : Fr) {M M' : Mem} (hM : ML M M') : StepLe M M' (evalDraw P call N ops F M) (evalDraw P call' N ops F M') := fun F1 M1 h => by
  unfold evalDraw at h ⊢
  obtain ⟨hok, h⟩ := cond_run h
  rw [hok]
  exact evalDrawL_le hc ops.toList F [] 0 hM (.cons hM .nil) F1 M1 h
theorem ldOkF_le {l l' : List Mem} (h : MLs1 l l') {ld : Ld} {ms : List Nat} (hr : ldOkF P ops ms l ld = true) : ldOkF P ops ms l' ld = true := by
  unfold ldOkF at hr ⊢
  rw [List.all_eq_true] at hr ⊢
  intro s hs
  rw [← h.len] at hs
  have h1 := hr s hs
  rw [Bool.or_eq_true] at h1 ⊢
  rcases h1 with h1 | h1
  · exact .inl h1
  · refine .inr ?_
    split at h1
    · rename_i M hM
      obtain ⟨M', hM', hle⟩ := h.get hM
      rw [hM']
      simp only
      cases hev : evalOp P ld.o ld.F M with
      | none => rw [hev] at h1; cases h1
      | some out =>
        rw [(evalOp_mono hle hev).1]
        rw [hev] at h1
        exact h1
    · cases h1
theorem MLs1.rev {l l' : List Mem} (h : MLs1 l l') : MLs1 l.reverse l'.reverse := by
  induction h with
  | nil => exact .nil
  | cons h1 _ ih =>
    rw [List.reverse_cons, List.reverse_cons]
    exact ih.app (.cons h1 .nil)
/-- A block with a number that nothing has. -/
theorem Beside.free {M M' : Mem} (h : ML M M') {k : Nat} (hk : k < M.nx) (h0 : M.t.get k = none → M'.t.get k = none) (X : Blk) : ML ⟨M.t.set k (some X), M.nx⟩ ⟨M'.t.set k (some X), M'.nx⟩ := by
  refine ⟨h.nx, fun b Y hb => ?_⟩
  by_cases e : k = b
  · subst e; simp only [Tr.set_self] at hb ⊢; exact hb
  · simp only [Tr.set_other _ _ e] at hb ⊢; exact h.get b Y hb
/-- As Beside, but for numbers from k on that were kept for free blocks. -/
structure BesideF (k0 : Nat) (M M' M1 M1' : Mem) : Prop where
  le : ML M1 M1'
  keep : ∀ b X, b < k0 → M.t.get b = none → M'.t.get b = some X → M1'.t.get b = some X
  dom : ∀ b, b < k0 → M.t.get b = none → M1.t.get b = none
  nx : M.nx ≤ M1.nx
  eq : M' = M → M1' = M1
  wf : WfM M' → WfM M1'
theorem BesideF.trans {k0 : Nat} {M M' M1 M1' M2 M2' : Mem} (h : BesideF k0 M M' M1 M1') (k : BesideF k0 M1 M1' M2 M2') : BesideF k0 M M' M2 M2' :=
  ⟨k.le, fun b X hb h1 h2 => k.keep b X hb (h.dom b hb h1) (h.keep b X hb h1 h2), fun b hb h1 => k.dom b hb (h.dom b hb h1), Nat.le_trans h.nx k.nx, fun e => k.eq (h.eq e), fun e => k.wf (h.wf e)⟩
theorem Beside.toF {k0 : Nat} {M M' M1 M1' : Mem} (h : Beside M M' M1 M1') (hk : k0 ≤ M.nx) : BesideF k0 M M' M1 M1' :=
  ⟨h.le, fun b X hb => h.keep b X (Nat.lt_of_lt_of_le hb hk), fun b hb => h.dom b (Nat.lt_of_lt_of_le hb hk), h.nx, h.eq, h.wf⟩
theorem evalFltL_le (hc : CallLe call call') {k0 : Nat} : ∀ (l : List Oper) (F : Fr) {M M' : Mem} (lds : List Ld) {mems mems' : List Mem} (j k : Nat), k0 ≤ k → k + (l.filter isFl).length ≤ M.nx → ML M M' → MLs1 mems mems' → ∀ F1 M1, evalFltL P call N ops l F M lds mems j k = some (F1, M1) →
    ∃ M1', evalFltL P call' N ops l F M' lds mems' j k = some (F1, M1') ∧ BesideF k0 M M' M1 M1'
  | [], F, M, M', lds, mems, mems', j, k, hk0, hk, hM, hl => fun F1 M1 h => by
    change endF P ops F M lds mems j k = _ at h
    change ∃ M1', endF P ops F M' lds mems' j k = _ ∧ _
    unfold endF at h ⊢
    obtain ⟨h1, h2⟩ := cond_run h
    have h2 := some_eq h2
    injection h2 with h3 h4
    subst h3 h4
    have : lds.all (ldOkF P ops (masks ops.toList []) mems'.reverse) = true := by
      rw [List.all_eq_true] at h1 ⊢
      exact fun ld hld => ldOkF_le hl.rev (h1 ld hld)
    simp only [this, cond_true]
    exact ⟨M', rfl, (Beside.refl hM).toF (by omega)⟩
  | o :: l, F, M, M', lds, mems, mems', j, k, hk0, hk, hM, hl => fun F1 M1 h => by
    change opF P call N ops o (evalFltL P call N ops l) F M lds mems j k = _ at h
    change ∃ M1', opF P call' N ops o (evalFltL P call' N ops l) F M' lds mems' j k = _ ∧ _
    have hflt : ((o :: l).filter isFl).length = (l.filter isFl).length + (bif isFl o then 1 else 0) := by
      cases hf : isFl o with
      | true => rw [List.filter_cons_of_pos hf]; rfl
      | false => rw [List.filter_cons_of_neg (by rw [hf]; simp)]; rfl
    rw [hflt] at hk
    unfold opF at h ⊢
    split at h
    · cases hf : isFl o with
      | true =>
        rw [hf] at h hk
        simp only [cond_true] at h hk ⊢
        have hM2 : ML ⟨M.t, k⟩ ⟨M'.t, k⟩ := ⟨rfl, hM.get⟩
        unfold freeF at h ⊢
        split at h
        case h_2 => cases h
        rename_i v cs T sz hev
        rw [(evalOp_mono hM2 hev).1]
        simp only [fV_eq, putFK_eq, fVs_eq, Tr.putK_set, fNat_eq] at h ⊢
        obtain ⟨F', hp, h⟩ := bind_some h
        rw [hp]
        simp only [Option.bind_some]
        have hle : ML (⟨M.t.set k (some ⟨cs, T, sz⟩), M.nx⟩ : Mem) ⟨M'.t.set k (some ⟨cs, T, sz⟩), M'.nx⟩ := by
          refine ⟨hM.nx, fun b Y hb => ?_⟩
          by_cases e : k = b
          · subst e; simp only [Tr.set_self] at hb ⊢; exact hb
          · simp only [Tr.set_other _ _ e] at hb ⊢; exact hM.get b Y hb
        have hk' : k + 1 + (l.filter isFl).length ≤ M.nx := by omega
        obtain ⟨M1', h3, h4⟩ := evalFltL_le hc (k0 := k0) l F' (M := ⟨M.t.set k (some ⟨cs, T, sz⟩), M.nx⟩) lds (j + 1) (k + 1) (by omega) hk' hle hl F1 M1 h
        refine ⟨M1', h3, BesideF.trans (M1 := ⟨M.t.set k (some ⟨cs, T, sz⟩), M.nx⟩) (M1' := ⟨M'.t.set k (some ⟨cs, T, sz⟩), M'.nx⟩) ⟨hle, fun b X hb h1 h2 => ?_, fun b hb h1 => ?_, Nat.le_refl _, fun e => by rw [e], fun hw b X hb => ?_⟩ h4⟩
        · simp only
          rw [Tr.set_other _ _ (by omega)]
          exact h2
        · simp only
          rw [Tr.set_other _ _ (by omega)]
          exact h1
        · simp only at hb ⊢
          by_cases e : k = b
          · subst e
            have := hM.nx
            omega
          · rw [Tr.set_other _ _ e] at hb
            exact hw b X hb
      | false =>
        rw [hf] at h hk
        simp only [cond_false] at h hk ⊢
        have next : ∀ {v : Value} {F' : Fr} {m : Eff} {M2 M2' : Mem}, Beside M M' M2 M2' → nextF o F v F' m M2 lds mems j k (evalFltL P call N ops l) = some (F1, M1) → ∃ M1', nextF o F v F' m M2' lds mems' j k (evalFltL P call' N ops l) = some (F1, M1') ∧ BesideF k0 M M' M1 M1' := by
          intro v F' m M2 M2' hb h
          unfold nextF at h ⊢
          have fin : ∀ {lds2 : List Ld} {ml ml' : List Mem}, MLs1 ml ml' → evalFltL P call N ops l F' M2 lds2 ml (Nat.succ j) k = some (F1, M1) → ∃ M1', evalFltL P call' N ops l F' M2' lds2 ml' (Nat.succ j) k = some (F1, M1') ∧ BesideF k0 M M' M1 M1' := fun hml h => by
            obtain ⟨M1', h3, h4⟩ := evalFltL_le hc l F' _ _ k hk0 (by have := hb.nx; omega) hb.le hml F1 M1 h
            exact ⟨M1', h3, (hb.toF (by omega)).trans h4⟩
          cases hchg : isChg o with
          | true =>
            rw [hchg] at h
            simp only [cond_true] at h ⊢
            exact fin (.cons hb.le hl) h
          | false =>
            rw [hchg] at h
            simp only [cond_false] at h ⊢
            obtain ⟨hno, h⟩ := cond_run h
            rw [hno]
            simp only [cond_true]
            cases hrd : isRd o with
            | true =>
              rw [hrd] at h
              simp only [cond_true] at h ⊢
              rw [← hl.len]
              exact fin hl h
            | false =>
              rw [hrd] at h
              simp only [cond_false] at h ⊢
              exact fin hl h
        cases hev : evalOp P o F M with
        | none => rw [hev] at h; cases h
        | some out =>
          rw [hev] at h
          obtain ⟨h1, h2⟩ := evalOp_mono hM hev
          rw [h1]
          unfold outF at h ⊢
          cases out with
          | w v =>
            simp only [putFK_eq] at h ⊢
            obtain ⟨F', hp, h⟩ := bind_some h
            rw [hp]
            exact next (.refl hM) h
          | v v m =>
            simp only [fV_eq, putFK_eq, Eff.applyK_eq] at h ⊢
            obtain ⟨F', hp, h⟩ := bind_some h
            rw [hp]
            exact next (Beside.eff hM h2) h
          | call f args =>
            simp only at h ⊢
            unfold callF at h ⊢
            split at h
            · rename_i v M2 hcall
              obtain ⟨M2', h3, hb⟩ := hc f args M M' v M2 hM hcall
              rw [h3]
              simp only [putFK_eq] at h ⊢
              obtain ⟨F', hp, h⟩ := bind_some h
              rw [hp]
              obtain ⟨hchg, h⟩ := cond_run h
              simp only [Option.bind_some, hchg, cond_true]
              obtain ⟨M1', h5, h6⟩ := evalFltL_le hc l F' _ _ k hk0 (by have := hb.nx; omega) hb.le (.cons hb.le hl) F1 M1 h
              exact ⟨M1', h5, (hb.toF (by omega)).trans h6⟩
            · cases h
    · simp only [putFK_eq] at h ⊢
      obtain ⟨F', hp, h⟩ := bind_some h
      rw [hp]
      simp only [Option.bind_some]
      cases hm : isMn o with
      | true =>
        rw [hm] at h
        have hf : isFl o = false := by
          unfold isMn at hm
          simp only [Bool.and_eq_true, Bool.not_eq_true'] at hm
          exact hm.2
        rw [hf] at hk
        exact evalFltL_le hc l F' _ _ k hk0 (by simpa using hk) hM (.cons hM hl) F1 M1 h
      | false =>
        rw [hm] at h
        simp only [cond_false] at h ⊢
        cases hf : isFl o with
        | true => rw [hf] at h hk; exact evalFltL_le hc (k0 := k0) l F' _ _ (k + 1) (by omega) (by simp only [cond_true] at hk; omega) hM hl F1 M1 h
        | false => rw [hf] at h hk; exact evalFltL_le hc l F' _ _ k hk0 (by simpa using hk) hM hl F1 M1 h
    · cases h
theorem evalFlt_le (hc : CallLe call call') (F : Fr) {M M' : Mem} (hM : ML M M') : StepLe M M' (evalFlt P call N ops F M) (evalFlt P call' N ops F M') := fun F1 M1 h => by
  unfold evalFlt at h ⊢
  obtain ⟨hok, h⟩ := cond_run h
  rw [hok]
  simp only [cond_true]
  rw [fNat_eq] at h ⊢
  have hM2 : ML (⟨M.t, M.nx + fcnt ops⟩ : Mem) ⟨M'.t, M'.nx + fcnt ops⟩ := ⟨by simp only [hM.nx], hM.get⟩
  rw [hM.nx] at hM2 ⊢
  obtain ⟨M1', h1, h2⟩ := evalFltL_le hc (k0 := M.nx) ops.toList F [] 0 M.nx (Nat.le_refl _) (Nat.le_refl _) hM2 (.cons hM2 .nil) F1 M1 h
  refine ⟨M1', h1, h2.le, fun b X hb => h2.keep b X hb, fun b hb => h2.dom b hb, Nat.le_trans (Nat.le_add_right _ _) h2.nx, fun e => h2.eq (by rw [e]), fun hw => h2.wf fun b X hb => ?_⟩
  have := hw b X hb
  rw [hM.nx] at this
  simp only
  omega
theorem evalDr_le (hc : CallLe call call') (F : Fr) {M M' : Mem} (hM : ML M M') : StepLe M M' (evalDr P call N ops F M) (evalDr P call' N ops F M') := by
  unfold evalDr
  cases drawOk ops (masks ops.toList []) with
  | true => exact evalDraw_le hc F hM
  | false => exact evalFlt_le hc F hM
theorem evalCode_le (hc : CallLe call call') : ∀ (fuel fuel' : Nat), fuel ≤ fuel' → ∀ (c : Code) (F : Fr) {M M' : Mem}, ML M M' → CodeLe M M' (evalCode P call N fuel c F M) (evalCode P call' N fuel' c F M')
  | 0, _, _, c, F, M, M', _ => fun ex F1 M1 h => by cases h
  | fuel + 1, 0, hf, c, F, M, M', _ => fun ex F1 M1 h => absurd hf (by omega)
  | fuel + 1, fuel' + 1, hf, c, F, M, M', hM => fun ex F1 M1 h => by
    have ih := fun (c : Code) (F : Fr) {M M' : Mem} (hM : ML M M') => evalCode_le hc fuel fuel' (by omega) c F hM
    change codeStep P call N (evalCode P call N fuel) c F M = _ at h
    change ∃ M1', codeStep P call' N (evalCode P call' N fuel') c F M' = _ ∧ _
    have done : ∀ {e : Ex}, some (e, F, M) = some (ex, F1, M1) → ∃ M1', some (e, F, M') = some (ex, F1, M1') ∧ Beside M M' M1 M1' := fun h => by
      have h := some_eq h
      injection h with h1 h2
      injection h2 with h2 h3
      subst h1 h2 h3
      exact ⟨M', rfl, .refl hM⟩
    have seq : ∀ {a b : Code}, seqK (evalCode P call N fuel a F M) (evalCode P call N fuel b) = some (ex, F1, M1) → ∃ M1', seqK (evalCode P call' N fuel' a F M') (evalCode P call' N fuel' b) = some (ex, F1, M1') ∧ Beside M M' M1 M1' := fun {a b} h => by
      cases hev : evalCode P call N fuel a F M with
      | none => rw [hev] at h; cases h
      | some r =>
        obtain ⟨e, F2, M2⟩ := r
        rw [hev] at h
        obtain ⟨M2', h2, hb⟩ := ih a F hM e F2 M2 hev
        rw [h2]
        cases e with
        | normal =>
          obtain ⟨M1', h3, h4⟩ := ih b F2 hb.le ex F1 M1 h
          exact ⟨M1', h3, hb.trans h4⟩
        | exit id =>
          have h := some_eq h
          injection h with h1 h2
          injection h2 with h2 h3
          subst h1 h2 h3
          exact ⟨M2', rfl, hb⟩
        | ret =>
          have h := some_eq h
          injection h with h1 h2
          injection h2 with h2 h3
          subst h1 h2 h3
          exact ⟨M2', rfl, hb⟩
    have reg : ∀ {r r' : StepE}, StepLe M M' r r' → regK r = some (ex, F1, M1) → ∃ M1', regK r' = some (ex, F1, M1') ∧ Beside M M' M1 M1' := fun hr h => by
      unfold regK at h ⊢
      split at h
      · rename_i F2 M2
        obtain ⟨M2', h2, hb⟩ := hr F2 M2 rfl
        have h := some_eq h
        injection h with h1 h3
        injection h3 with h3 h4
        subst h1 h3 h4
        rw [h2]
        exact ⟨M2', rfl, hb⟩
      · cases h
    cases c with
    | skip => exact done h
    | label l => exact done h
    | region id ops draw =>
      cases draw with
      | false => exact reg (evalOps_le hc ops.toList F hM) h
      | true => exact reg (evalDr_le hc F hM) h
    | seq x y => exact seq h
    | cond c x y =>
      change condK (opv F c) (evalCode P call N fuel x F M) (evalCode P call N fuel y F M) = _ at h
      change ∃ M1', condK (opv F c) (evalCode P call' N fuel' x F M') (evalCode P call' N fuel' y F M') = _ ∧ _
      unfold condK at h ⊢
      split at h
      · exact ih x F hM ex F1 M1 h
      · exact ih y F hM ex F1 M1 h
      · cases h
    | block id c =>
      change blockK id (evalCode P call N fuel c F M) = _ at h
      change ∃ M1', blockK id (evalCode P call' N fuel' c F M') = _ ∧ _
      cases hev : evalCode P call N fuel c F M with
      | none => rw [hev] at h; cases h
      | some r =>
        obtain ⟨e, F2, M2⟩ := r
        rw [hev] at h
        obtain ⟨M2', h2, hb⟩ := ih c F hM e F2 M2 hev
        rw [h2]
        have fin : ∀ {e : Ex}, some (e, F2, M2) = some (ex, F1, M1) → ∃ M1', some (e, F2, M2') = some (ex, F1, M1') ∧ Beside M M' M1 M1' := fun h => by
          have h := some_eq h
          injection h with h1 h2
          injection h2 with h2 h3
          subst h1 h2 h3
          exact ⟨M2', rfl, hb⟩
        cases e with
        | normal => exact fin h
        | ret => exact fin h
        | exit k =>
          unfold blockK at h ⊢
          simp only at h ⊢
          cases hk : Nat.beq k id with
          | true => rw [hk] at h; exact fin h
          | false => rw [hk] at h; exact fin h
    | loop c => exact seq h
    | exit id => exact done h
    | scope c => exact ih c F hM ex F1 M1 h
    | ret => exact done h
    | rangeFunc f ps asg bd => cases h
    | goto l => cases h
    | refuse y => cases h
theorem result1_le {F : Fr} {M M' : Mem} (hM : ML M M') {r : ResultVar} {v : Value} (h : result1 P F M r = some v) : result1 P F M' r = some v := by
  cases r with
  | tmp t => exact h
  | cell t T =>
    unfold result1 at h ⊢
    simp only at h ⊢
    split at h
    · split at h
      case h_2 => cases h
      split at h
      case h_2 => cases h
      rename_i hcs
      rw [rd_mono hM hcs]
      exact h
    · split at h
      case h_2 => cases h
      rename_i hcs
      rw [rd_mono hM hcs]
      exact h
    · cases h
theorem resultsE_le {F : Fr} {M M' : Mem} (hM : ML M M') : ∀ {rs : List ResultVar} {vs : List Value}, resultsE P F M rs = some vs → resultsE P F M' rs = some vs
  | [], vs, h => h
  | r :: rs, vs, h => by
    unfold resultsE at h ⊢
    split at h
    case h_2 => cases h
    rename_i v hv
    split at h
    case h_2 => cases h
    rename_i us hus
    rw [result1_le hM hv, resultsE_le hM hus]
    exact h
theorem callStep_le {fuel fuel' : Nat} (hf : fuel ≤ fuel') (hc : CallLe call call') : CallLe (callStep P fuel call) (callStep P fuel' call') := fun f args M M' v M1 hM h => by
  unfold callStep at h ⊢
  split at h
  case h_2 => cases h
  rename_i fn hfn
  try rw [hfn]
  try simp only
  unfold bodyK at h ⊢
  split at h
  case h_2 => cases h
  rename_i c hb
  try rw [hb]
  try simp only
  obtain ⟨hle, h⟩ := cond_run h
  rw [hle]
  simp only [cond_true]
  have he := evalCode_le (P := P) (N := fn.ntmps) hc fuel fuel' hf c (frArgs 0 args fr0) hM
  unfold endK at h ⊢
  split at h
  · cases h
  · rename_i e F2 M2 hne hev
    obtain ⟨M2', h2, hbs⟩ := he e F2 M2 hev
    rw [h2]
    split at h
    case h_2 => cases h
    rename_i vs hvs
    obtain ⟨hfl, h⟩ := cond_run h
    have h := some_eq h
    injection h with h3 h4
    subst h3 h4
    have hr := resultsE_le hbs.le hvs
    cases e with
    | exit id => exact absurd rfl (hne id)
    | normal => simp only [hr, hfl, cond_true]; exact ⟨M2', rfl, hbs⟩
    | ret => simp only [hr, hfl, cond_true]; exact ⟨M2', rfl, hbs⟩
  · cases h
theorem evalCall_le {fuel fuel' : Nat} (hf : fuel ≤ fuel') : ∀ {n n' : Nat}, n ≤ n' → CallLe (evalCall P fuel n) (evalCall P fuel' n')
  | 0, _, _ => fun f args M M' v M1 _ h => by cases h
  | n + 1, 0, h => absurd h (by omega)
  | n + 1, n' + 1, h => callStep_le hf (evalCall_le hf (by omega))
end
end Go.Proofs.YthldmlfpebgojaaGreatDoor
