/-
  The evaluator's calls, however many steps they take: one function.
  No condition.
-/
import Derived.Test.YthldmlfpebgojaaGreatDoorQX
namespace Go.Proofs.YthldmlfpebgojaaGreatDoor
set_option linter.unusedSimpArgs false
set_option linter.unusedVariables false
open Go.RowKit Go

/-- The evaluator, with the calls whose runs are carried over. -/
noncomputable def stepX (P : Program) (fuel : Nat) (rec : CallE) : CallE := fun f args M => bif clFns.any (Nat.beq f) then clCall cls f args M else callStep P fuel rec f args M
noncomputable def evalX (P : Program) (fuel : Nat) (n : Nat) : CallE := Nat.rec (motive := fun _ => CallE) (fun _ _ _ => none) (fun _ ih => stepX P fuel ih) n
theorem stepX_le {P : Program} {fuel fuel' : Nat} (hf : fuel ≤ fuel') {call call' : CallE} (hc : CallLe call call') : CallLe (stepX P fuel call) (stepX P fuel' call') := fun f args M M' v M1 hM h => by
  unfold stepX at h ⊢
  cases hd : clFns.any (Nat.beq f) with
  | true => rw [hd] at h; exact clCall_le cls_fine f args M M' v M1 hM h
  | false => rw [hd] at h; exact callStep_le hf hc f args M M' v M1 hM h
theorem evalX_le {P : Program} {fuel fuel' : Nat} (hf : fuel ≤ fuel') : ∀ {n n' : Nat}, n ≤ n' → CallLe (evalX P fuel n) (evalX P fuel' n')
  | 0, _, _ => fun f args M M' v M1 _ h => by cases h
  | n + 1, 0, h => absurd h (by omega)
  | n + 1, n' + 1, h => stepX_le hf (evalX_le hf (by omega))
theorem evalX_ok {P : Program} (hm : P.follows .mixedOrders = true) (hl : ∀ c ∈ cls, c.Ok P) (base fuel : Nat) : ∀ n, CallOk P base (evalX P fuel n)
  | 0 => fun f args M v M' h => by cases h
  | n + 1 => fun f args M v M' h => by
    change stepX P fuel (evalX P fuel n) f args M = _ at h
    unfold stepX at h
    cases hd : clFns.any (Nat.beq f) with
    | true => rw [hd] at h; exact clCall_ok hm hl base f args M v M' h
    | false => rw [hd] at h; exact callStep_ok P hm base fuel (evalX_ok hm hl base fuel n) (evalX_le (Nat.le_refl fuel) (Nat.le_refl n)) f args M v M' h
theorem evalX_up {P : Program} {n m : Nat} (h : n ≤ m) {f : FuncId} {args : List Value} {M : Mem} {r : Value × Mem} (hr : evalX P n n f args M = some r) : evalX P m m f args M = some r := by
  obtain ⟨v, M1⟩ := r
  obtain ⟨M1', h1, h2⟩ := evalX_le h h f args M M v M1 (ML.refl M) hr
  rw [h1, h2.eq rfl]
open Classical in
/-- What a call of f gives. -/
noncomputable def orc (P : Program) : CallE := fun f args M => if h : ∃ r, ∃ n, evalX P n n f args M = some r then some h.choose else none
section
variable {P : Program} {N : Nat} {ops : Array Oper}
theorem orc_some {f : FuncId} {args : List Value} {M : Mem} {r : Value × Mem} (h : orc P f args M = some r) : ∃ n, evalX P n n f args M = some r := by
  unfold orc at h
  split at h
  · rename_i hx
    obtain rfl := some_eq h
    exact hx.choose_spec
  · cases h
theorem orc_of {f : FuncId} {args : List Value} {M : Mem} {r : Value × Mem} {n m : Nat} (h : evalX P n m f args M = some r) : orc P f args M = some r := by
  have h1 : evalX P (max n m) (max n m) f args M = some r := by
    obtain ⟨v, M1⟩ := r
    obtain ⟨M1', h1, h2⟩ := evalX_le (Nat.le_max_left n m) (Nat.le_max_right n m) f args M M v M1 (ML.refl M) h
    rw [h1, h2.eq rfl]
  unfold orc
  have hx : ∃ r, ∃ n, evalX P n n f args M = some r := ⟨r, _, h1⟩
  rw [dif_pos hx]
  obtain ⟨k, hk⟩ := hx.choose_spec
  have e1 := evalX_up (Nat.le_max_left (max n m) k) h1
  have e2 := evalX_up (Nat.le_max_right (max n m) k) hk
  rw [e1] at e2
  exact e2.symm
theorem orc_le : CallLe (orc P) (orc P) := fun f args M M' v M1 hM h => by
  obtain ⟨n, hn⟩ := orc_some h
  obtain ⟨M1', h1, h2⟩ := evalX_le (Nat.le_refl n) (Nat.le_refl n) f args M M' v M1 hM hn
  exact ⟨M1', orc_of h1, h2⟩
theorem orc_ok (hm : P.follows .mixedOrders = true) (hl : ∀ c ∈ cls, c.Ok P) (base : Nat) : CallOk P base (orc P) := fun f args M v M' h => by
  obtain ⟨n, hn⟩ := orc_some h
  exact evalX_ok hm hl base n n f args M v M' hn
/-- From some count on. -/
def From (Q : Nat → Prop) : Prop := ∃ n, ∀ m, n ≤ m → Q m
theorem From.and {Q R : Nat → Prop} (h : From Q) (k : From R) : From fun n => Q n ∧ R n := by
  obtain ⟨n, h⟩ := h
  obtain ⟨m, k⟩ := k
  exact ⟨max n m, fun j hj => ⟨h j (by omega), k j (by omega)⟩⟩
theorem From.imp {Q R : Nat → Prop} (h : From Q) (k : ∀ n, Q n → R n) : From R := by
  obtain ⟨n, h⟩ := h
  exact ⟨n, fun j hj => k j (h j hj)⟩
theorem From.all {Q : Nat → Prop} (h : ∀ n, Q n) : From Q := ⟨0, fun m _ => h m⟩
theorem orc_from {f : FuncId} {args : List Value} {M : Mem} {r : Value × Mem} (h : orc P f args M = some r) : From fun n => evalX P n n f args M = some r := by
  obtain ⟨n, hn⟩ := orc_some h
  exact ⟨n, fun m hm => evalX_up hm hn⟩
theorem evalOps_from : ∀ (l : List Oper) (F : Fr) (M : Mem) {r : Fr × Mem}, evalOps P (orc P) N ops l F M = some r → From fun n => evalOps P (evalX P n n) N ops l F M = some r
  | [], F, M, r, h => .all fun _ => h
  | o :: l, F, M, r, h => by
    change opK P (orc P) N ops o F M (fun F M => evalOps P (orc P) N ops l F M) = _ at h
    change From fun n => opK P (evalX P n n) N ops o F M (fun F M => evalOps P (evalX P n n) N ops l F M) = _
    unfold opK at h ⊢
    split at h
    · try simp only
      cases hev : evalOp P o F M with
      | none => rw [hev] at h; cases h
      | some out =>
        rw [hev] at h
        unfold outK at h ⊢
        cases out with
        | w v =>
          simp only [putFK_eq] at h ⊢
          obtain ⟨F', hp, h⟩ := bind_some h
          simp only [hp, Option.bind_some]
          exact evalOps_from l F' M h
        | v v m =>
          simp only [fV_eq, putFK_eq, Eff.applyK_eq] at h ⊢
          obtain ⟨F', hp, h⟩ := bind_some h
          simp only [hp, Option.bind_some]
          exact evalOps_from l F' _ h
        | call f args =>
          simp only at h ⊢
          unfold callK at h ⊢
          split at h
          · rename_i v M2 hcall
            simp only [putFK_eq] at h
            obtain ⟨F', hp, h⟩ := bind_some h
            refine ((orc_from hcall).and (evalOps_from l F' M2 h)).imp fun n hn => ?_
            rw [hn.1]
            simp only [putFK_eq, hp, Option.bind_some]
            exact hn.2
          · cases h
    · simp only [putFK_eq] at h ⊢
      obtain ⟨F', hp, h⟩ := bind_some h
      simp only [hp, Option.bind_some]
      exact evalOps_from l F' M h
    · cases h
theorem evalDrawL_from : ∀ (l : List Oper) (F : Fr) (M : Mem) (lds : List Ld) (mems : List (Mem × Eff)) (j : Nat) {r : Fr × Mem}, evalDrawL P (orc P) N ops l F M lds mems j = some r → From fun n => evalDrawL P (evalX P n n) N ops l F M lds mems j = some r
  | [], F, M, lds, mems, j, r, h => .all fun _ => h
  | o :: l, F, M, lds, mems, j, r, h => by
    change opD P (orc P) N ops o (evalDrawL P (orc P) N ops l) F M lds mems j = _ at h
    change From fun n => opD P (evalX P n n) N ops o (evalDrawL P (evalX P n n) N ops l) F M lds mems j = _
    have next : ∀ {v : Value} {F' : Fr} {m : Eff} {M2 : Mem}, nextD o F v F' m M2 lds mems j (evalDrawL P (orc P) N ops l) = some r → From fun n => nextD o F v F' m M2 lds mems j (evalDrawL P (evalX P n n) N ops l) = some r := by
      intro v F' m M2 h
      unfold nextD at h ⊢
      cases hchg : isChg o with
      | true =>
        rw [hchg] at h
        exact evalDrawL_from l F' M2 _ _ _ h
      | false =>
        rw [hchg] at h
        simp only [cond_false] at h ⊢
        obtain ⟨hno, h⟩ := cond_run h
        rw [hno]
        simp only [cond_true]
        cases hrd : isRd o with
        | true => rw [hrd] at h; exact evalDrawL_from l F' M2 _ _ _ h
        | false => rw [hrd] at h; exact evalDrawL_from l F' M2 _ _ _ h
    unfold opD at h ⊢
    split at h
    · try simp only
      cases hev : evalOp P o F M with
      | none => rw [hev] at h; cases h
      | some out =>
        rw [hev] at h
        unfold outD at h ⊢
        cases out with
        | w v =>
          simp only [putFK_eq] at h ⊢
          obtain ⟨F', hp, h⟩ := bind_some h
          simp only [hp, Option.bind_some]
          exact next h
        | v v m =>
          simp only [fV_eq, putFK_eq, Eff.applyK_eq] at h ⊢
          obtain ⟨F', hp, h⟩ := bind_some h
          simp only [hp, Option.bind_some]
          exact next h
        | call f args =>
          simp only at h ⊢
          unfold callD at h ⊢
          split at h
          · rename_i v M2 hcall
            simp only [putFK_eq] at h
            obtain ⟨F', hp, h⟩ := bind_some h
            obtain ⟨hchg, h⟩ := cond_run h
            refine ((orc_from hcall).and (evalDrawL_from l F' M2 _ _ _ h)).imp fun n hn => ?_
            rw [hn.1]
            simp only [putFK_eq, hp, Option.bind_some, hchg, cond_true]
            exact hn.2
          · cases h
    · simp only [putFK_eq] at h ⊢
      obtain ⟨F', hp, h⟩ := bind_some h
      simp only [hp, Option.bind_some]
      cases hchg : isChg o with
      | true => rw [hchg] at h; exact evalDrawL_from l F' M _ _ _ h
      | false => rw [hchg] at h; exact evalDrawL_from l F' M _ _ _ h
    · cases h
theorem evalDraw_from (F : Fr) (M : Mem) {r : Fr × Mem} (h : evalDraw P (orc P) N ops F M = some r) : From fun n => evalDraw P (evalX P n n) N ops F M = some r := by
  unfold evalDraw at h ⊢
  obtain ⟨hok, h⟩ := cond_run h
  rw [hok]
  exact evalDrawL_from ops.toList F M _ _ _ h
theorem evalFltL_from : ∀ (l : List Oper) (F : Fr) (M : Mem) (lds : List Ld) (mems : List Mem) (j k : Nat) {r : Fr × Mem}, evalFltL P (orc P) N ops l F M lds mems j k = some r → From fun n => evalFltL P (evalX P n n) N ops l F M lds mems j k = some r
  | [], F, M, lds, mems, j, k, r, h => .all fun _ => h
  | o :: l, F, M, lds, mems, j, k, r, h => by
    change opF P (orc P) N ops o (evalFltL P (orc P) N ops l) F M lds mems j k = _ at h
    change From fun n => opF P (evalX P n n) N ops o (evalFltL P (evalX P n n) N ops l) F M lds mems j k = _
    have next : ∀ {v : Value} {F' : Fr} {m : Eff} {M2 : Mem}, nextF o F v F' m M2 lds mems j k (evalFltL P (orc P) N ops l) = some r → From fun n => nextF o F v F' m M2 lds mems j k (evalFltL P (evalX P n n) N ops l) = some r := by
      intro v F' m M2 h
      unfold nextF at h ⊢
      cases hchg : isChg o with
      | true =>
        rw [hchg] at h
        exact evalFltL_from l F' M2 _ _ _ _ h
      | false =>
        rw [hchg] at h
        simp only [cond_false] at h ⊢
        obtain ⟨hno, h⟩ := cond_run h
        rw [hno]
        simp only [cond_true]
        cases hrd : isRd o with
        | true => rw [hrd] at h; exact evalFltL_from l F' M2 _ _ _ _ h
        | false => rw [hrd] at h; exact evalFltL_from l F' M2 _ _ _ _ h
    unfold opF at h ⊢
    split at h
    · try simp only
      cases hf : isFl o with
      | true =>
        rw [hf] at h
        simp only [cond_true] at h ⊢
        unfold freeF at h ⊢
        split at h
        case h_2 => cases h
        rename_i hev
        try rw [hev]
        simp only [fV_eq, putFK_eq, fVs_eq, Tr.putK_set, fNat_eq] at h ⊢
        obtain ⟨F', hp, h⟩ := bind_some h
        simp only [hp, Option.bind_some]
        exact evalFltL_from l F' _ _ _ _ _ h
      | false =>
        rw [hf] at h
        simp only [cond_false] at h ⊢
        cases hev : evalOp P o F M with
        | none => rw [hev] at h; cases h
        | some out =>
          rw [hev] at h
          unfold outF at h ⊢
          cases out with
          | w v =>
            simp only [putFK_eq] at h ⊢
            obtain ⟨F', hp, h⟩ := bind_some h
            simp only [hp, Option.bind_some]
            exact next h
          | v v m =>
            simp only [fV_eq, putFK_eq, Eff.applyK_eq] at h ⊢
            obtain ⟨F', hp, h⟩ := bind_some h
            simp only [hp, Option.bind_some]
            exact next h
          | call f args =>
            simp only at h ⊢
            unfold callF at h ⊢
            split at h
            · rename_i v M2 hcall
              simp only [putFK_eq] at h
              obtain ⟨F', hp, h⟩ := bind_some h
              obtain ⟨hchg, h⟩ := cond_run h
              refine ((orc_from hcall).and (evalFltL_from l F' M2 _ _ _ _ h)).imp fun n hn => ?_
              rw [hn.1]
              simp only [putFK_eq, hp, Option.bind_some, hchg, cond_true]
              exact hn.2
            · cases h
    · simp only [putFK_eq] at h ⊢
      obtain ⟨F', hp, h⟩ := bind_some h
      simp only [hp, Option.bind_some]
      cases hchg : isMn o with
      | true => rw [hchg] at h; exact evalFltL_from l F' M _ _ _ _ h
      | false => rw [hchg] at h; exact evalFltL_from l F' M _ _ _ _ h
    · cases h
theorem evalDr_from (F : Fr) (M : Mem) {r : Fr × Mem} (h : evalDr P (orc P) N ops F M = some r) : From fun n => evalDr P (evalX P n n) N ops F M = some r := by
  unfold evalDr at h ⊢
  cases hok : drawOk ops (masks ops.toList []) with
  | true =>
    rw [hok] at h
    exact evalDraw_from F M h
  | false =>
    rw [hok] at h
    simp only [cond_false] at h ⊢
    unfold evalFlt at h ⊢
    obtain ⟨hok, h⟩ := cond_run h
    rw [hok]
    simp only [cond_true, fNat_eq] at h ⊢
    exact evalFltL_from ops.toList F _ _ _ _ _ h
theorem evalCode_from : ∀ (fuel : Nat) (c : Code) (F : Fr) (M : Mem) {r : Ex × Fr × Mem}, evalCode P (orc P) N fuel c F M = some r → From fun n => evalCode P (evalX P n n) N fuel c F M = some r
  | 0, c, F, M, r, h => by cases h
  | fuel + 1, c, F, M, r, h => by
    change codeStep P (orc P) N (evalCode P (orc P) N fuel) c F M = _ at h
    change From fun n => codeStep P (evalX P n n) N (evalCode P (evalX P n n) N fuel) c F M = _
    have seq : ∀ {a b : Code}, seqK (evalCode P (orc P) N fuel a F M) (evalCode P (orc P) N fuel b) = some r → From fun n => seqK (evalCode P (evalX P n n) N fuel a F M) (evalCode P (evalX P n n) N fuel b) = some r := fun {a b} h => by
      cases hev : evalCode P (orc P) N fuel a F M with
      | none => rw [hev] at h; cases h
      | some r2 =>
        obtain ⟨e, F2, M2⟩ := r2
        have h1 := evalCode_from fuel a F M hev
        rw [hev] at h
        cases e with
        | normal => exact (h1.and (evalCode_from fuel b F2 M2 h)).imp fun n hn => by rw [hn.1]; exact hn.2
        | exit id => exact h1.imp fun n hn => by rw [hn]; exact h
        | ret => exact h1.imp fun n hn => by rw [hn]; exact h
    cases c with
    | skip => exact .all fun _ => h
    | label l => exact .all fun _ => h
    | exit id => exact .all fun _ => h
    | ret => exact .all fun _ => h
    | region id ops draw =>
      cases draw with
      | false =>
        change regK (evalOps P (orc P) N ops ops.toList F M) = _ at h
        change From fun n => regK (evalOps P (evalX P n n) N ops ops.toList F M) = _
        cases hev : evalOps P (orc P) N ops ops.toList F M with
        | none => rw [hev] at h; cases h
        | some r2 => rw [hev] at h; exact (evalOps_from _ F M hev).imp fun n hn => by rw [hn]; exact h
      | true =>
        change regK (evalDr P (orc P) N ops F M) = _ at h
        change From fun n => regK (evalDr P (evalX P n n) N ops F M) = _
        cases hev : evalDr P (orc P) N ops F M with
        | none => rw [hev] at h; cases h
        | some r2 => rw [hev] at h; exact (evalDr_from F M hev).imp fun n hn => by rw [hn]; exact h
    | seq x y => exact seq h
    | loop c => exact seq h
    | cond c x y =>
      change condK (opv F c) (evalCode P (orc P) N fuel x F M) (evalCode P (orc P) N fuel y F M) = _ at h
      change From fun n => condK (opv F c) (evalCode P (evalX P n n) N fuel x F M) (evalCode P (evalX P n n) N fuel y F M) = _
      unfold condK at h ⊢
      split at h
      · exact evalCode_from fuel x F M h
      · exact evalCode_from fuel y F M h
      · cases h
    | block id c =>
      change blockK id (evalCode P (orc P) N fuel c F M) = _ at h
      change From fun n => blockK id (evalCode P (evalX P n n) N fuel c F M) = _
      cases hev : evalCode P (orc P) N fuel c F M with
      | none => rw [hev] at h; cases h
      | some r2 => rw [hev] at h; exact (evalCode_from fuel c F M hev).imp fun n hn => by rw [hn]; exact h
    | scope c => exact evalCode_from fuel c F M h
    | rangeFunc f ps asg bd => cases h
    | goto l => cases h
    | refuse y => cases h
/-- A body that ends gives the call's outcome. -/
theorem orc_body {fuel : Nat} {f : FuncId} {args : List Value} {M : Mem} {r : Value × Mem} (hd : clFns.any (Nat.beq f) = false) (h : callStep P fuel (orc P) f args M = some r) : orc P f args M = some r := by
  have key : From fun n => callStep P fuel (evalX P n n) f args M = some r := by
    unfold callStep at h ⊢
    cases hfn : P.funcs[f]? with
    | none => rw [hfn] at h; cases h
    | some fn =>
      rw [hfn] at h
      simp only at h ⊢
      unfold bodyK at h ⊢
      cases hb : fn.body with
      | none => rw [hb] at h; cases h
      | some c =>
        rw [hb] at h
        simp only at h ⊢
        obtain ⟨hle, h⟩ := cond_run h
        simp only [hle, cond_true]
        cases hev : evalCode P (orc P) fn.ntmps fuel c (frArgs 0 args fr0) M with
        | none => rw [hev] at h; cases h
        | some r2 =>
          rw [hev] at h
          exact (evalCode_from fuel c _ M hev).imp fun n hn => by rw [hn]; exact h
  obtain ⟨n, hn⟩ := key
  have h1 := hn (max n fuel) (Nat.le_max_left _ _)
  obtain ⟨v, M1⟩ := r
  obtain ⟨M1', h2, h3⟩ := callStep_le (P := P) (Nat.le_max_right n fuel) (evalX_le (P := P) (Nat.le_refl (max n fuel)) (Nat.le_refl (max n fuel))) f args M M v M1 (ML.refl M) h1
  have h4 : evalX P (max n fuel) (max n fuel + 1) f args M = some (v, M1') := by
    change stepX P (max n fuel) (evalX P (max n fuel) (max n fuel)) f args M = _
    unfold stepX
    rw [hd]
    exact h2
  rw [orc_of h4, h3.eq rfl]
theorem orc_cl {f : FuncId} {args : List Value} {M : Mem} {r : Value × Mem} (hd : clFns.any (Nat.beq f) = true) (h : clCall cls f args M = some r) : orc P f args M = some r := by
  refine orc_of (n := 1) (m := 1) ?_
  change stepX P 1 (evalX P 1 0) f args M = _
  unfold stepX
  rw [hd]
  exact h
end
end Go.Proofs.YthldmlfpebgojaaGreatDoor
