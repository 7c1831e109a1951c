/-
  Drawn regions of the evaluator are the program's.
  No condition.
-/
import Derived.Test.YthldmlfpebgojaaGreatDoorQU
namespace Go.Proofs.YthldmlfpebgojaaGreatDoor
set_option linter.unusedSimpArgs false
set_option linter.unusedVariables false
open Go.RowKit Go

section
variable {P : Program} {call : CallE} {N : Nat} {ops : Array Oper} {base : Nat}
theorem knum {lds : List Ld} {fr : Nat → Fr} {vs : Nat → Value} {mm : Nat → Mem} {kk : Nat → Nat} (h : ∀ (j : Nat) (o : Oper), ops[j]? = some o → FStep P call N ops lds fr vs mm kk j o) : ∀ j, j ≤ ops.size → kk j = kk 0 + ((ops.toList.take j).filter isFl).length
  | 0, _ => by simp
  | j + 1, hj => by
    have ho : ops[j]? = some ops[j] := Array.getElem?_eq_getElem (by omega)
    have h1 := knum h j (by omega)
    have h2 := (h j _ ho).num
    have hl : ops.toList[j]? = some ops[j] := by simp
    rw [List.take_add_one, hl]
    rw [h2, h1]
    cases hc : isFl ops[j] <;> simp [List.filter_append, hc] <;> omega
theorem flt_sound {e0 : Env} {w0 : World} {Q : Exit → Act → World → Prop} {F F1 : Fr} {M M1 : Mem} {a : Act} {w : World} (hm : P.follows .mixedOrders = true) (hcall : CallOk P base call) (hcle : CallLe call call) (hN : N ≤ 512) {id : Nat} (h : evalFlt P call N ops F M = some (F1, M1)) (hS : ST base N e0 w0 F M a w) (hQ : ∀ a w, ST base N e0 w0 F1 M1 a w → Q .normal a w) :
    (Code.region id ops true).wp P Q a w := by
  unfold evalFlt at h
  obtain ⟨hok, h⟩ := cond_run h
  rw [fNat_eq] at h
  have hd := fltFacts hok
  obtain ⟨⟨e, hF, hM, hE⟩, hB⟩ := hS
  obtain ⟨lds1, ext, fr, vs, mm, kk, e1, e2, e2', e3, e4, _, e6, e8, e9', e9⟩ := frun hN ops.toList 0 (fun k _ => by simp) h (by simp [mcnt])
  simp only [Nat.zero_add, Array.length_toList, Array.getElem?_toList] at e3 e4 e8 e9 e9'
  have hkn : kk ops.size = M.nx + fcnt ops := by
    rw [knum e9 ops.size (Nat.le_refl _), e2', List.take_of_length_le (by simp)]
    rfl
  have step : ∀ j, j ≤ ops.size → (∀ b, kk j ≤ b → b < kk ops.size → (mm j).t.get b = none) ∧ kk ops.size ≤ (mm j).nx := by
    intro j
    induction j with
    | zero =>
      intro _
      rw [e2, e2', hkn]
      refine ⟨fun b hb _ => ?_, Nat.le_refl _⟩
      simp only
      cases hg : M.t.get b with
      | none => rfl
      | some X =>
        exfalso
        have h0 := hM.len.2 b hb
        by_cases hz : 0 < X.sz
        · obtain ⟨b', d, cs, sp, g1, _⟩ := hM.blk b X hg hz
          rw [h0] at g1; cases g1
        · obtain ⟨b', d, g1, _⟩ := hM.ro b X hg (by omega)
          rw [h0] at g1; cases g1
    | succ j ih =>
      intro hj
      obtain ⟨i1, i2⟩ := ih (by omega)
      have ho : ops[j]? = some ops[j] := Array.getElem?_eq_getElem (by omega)
      have hst := e9 j _ ho
      have hnum := hst.num
      have hle : kk j ≤ kk (j + 1) := by rw [hnum]; cases isFl ops[j] <;> simp only [cond_true, cond_false] <;> omega
      have up : ∀ {M' : Mem} {M1' : Mem}, Beside (mm j) M' (mm (j + 1)) M1' → (∀ b, kk (j + 1) ≤ b → b < kk ops.size → (mm (j + 1)).t.get b = none) ∧ kk ops.size ≤ (mm (j + 1)).nx := fun hb =>
        ⟨fun b h1 h2 => hb.dom b (by omega) (i1 b (by omega) h2), Nat.le_trans i2 hb.nx⟩
      rcases hst.run with ⟨_, _, h4⟩ | ⟨_, hf, cs, T, sz, _, h5⟩ | ⟨_, hf, h4⟩
      · rw [h4]
        exact ⟨fun b h1 h2 => i1 b (by omega) h2, i2⟩
      · rw [hf] at hnum
        rw [h5]
        refine ⟨fun b h1 h2 => ?_, i2⟩
        simp only
        rw [hnum] at h1
        simp only [cond_true] at h1
        rw [Tr.set_other _ _ (by omega)]
        exact i1 b (by omega) h2
      · rcases h4 with ⟨out, m, hev, hout, h5, _⟩ | ⟨f, args, hev, _, hcl⟩
        · have hok := (evalOp_mono (ML.refl _) hev).2
          have : EffOk (mm j) m := by
            rcases hout with ⟨_, rfl⟩ | rfl
            · trivial
            · exact hok
          have hb := Beside.eff (ML.refl (mm j)) this
          rw [← h5] at hb
          exact up hb
        · obtain ⟨M1', _, hb⟩ := hcle f args _ _ _ _ (ML.refl _) hcl
          exact up hb
  have hrev : (ext ++ [(⟨M.t, M.nx + fcnt ops⟩ : Mem)]).reverse[0]? = some (mm 0) := by
    rw [e2]; simp
  have hr : FRun P call N ops lds1 (ext ++ [(⟨M.t, M.nx + fcnt ops⟩ : Mem)]).reverse F fr vs mm kk :=
    ⟨e1, e6, hrev, by simpa using e8, e9', e9, fun j hj => (step j hj).1, fun j hj => (step j hj).2⟩
  have hrep : ∀ i, (Array.replicate ops.size false).getD i false = false := fun i => by
    rw [Array.getD_eq_getD_getElem?, Array.getElem?_replicate]
    split <;> rfl
  subst e3 e4
  have hm0 := hM.drew.bump (fcnt ops)
  refine wp_region_any hm (flt_any hcall hcle hr hd hN (e0 := e0) (w0 := w0) (by rw [e2']; have := hE.n; rw [hM.len.1] at this; exact this) hQ ops.size _ a _ 0 ⟨e.f, e.n + fcnt ops⟩ ⟨M.t, M.nx + fcnt ops⟩ ⟨M.t, M.nx + fcnt ops⟩ ?_
    ⟨by simp, fun j i hj => ?_, fun i u hu hc => ?_, Nat.zero_le _, by rw [hrev, e2], hm0, ML.refl _, fun i u hu hf _ => ?_, fun i u hu hf hl => ?_, ⟨hE.up, Nat.le_trans hE.n (Nat.le_add_right _ _), hE.old⟩, fun i u d hu hl => ?_, fun t _ v hv => (hF.val t v hv).ext' fun _ _ h => h, hF.size, hF.defers, hB.trans ⟨rfl, rfl, rfl, Nat.le_refl _, fun _ _ => rfl⟩⟩)
  · unfold left
    rw [List.filter_eq_self.2 (fun i _ => by rw [hrep]; rfl)]
    simp
  · rw [hrep] at hj; cases hj
  · rw [hrep]; simp
  · have := hr.kmono (i := 0) (j := i) (Nat.zero_le _) (by have := (Array.getElem?_eq_some_iff.1 hu).1; omega)
    rw [e2'] at this
    exact hM.len.2 _ this
  · rw [hrep] at hl; cases hl
  · rw [hrep] at hl; cases hl
theorem dr_sound {e0 : Env} {w0 : World} {Q : Exit → Act → World → Prop} {F F1 : Fr} {M M1 : Mem} {a : Act} {w : World} (hm : P.follows .mixedOrders = true) (hcall : CallOk P base call) (hcle : CallLe call call) (hN : N ≤ 512) {id : Nat} (h : evalDr P call N ops F M = some (F1, M1)) (hS : ST base N e0 w0 F M a w) (hQ : ∀ a w, ST base N e0 w0 F1 M1 a w → Q .normal a w) :
    (Code.region id ops true).wp P Q a w := by
  unfold evalDr at h
  cases hok : drawOk ops (masks ops.toList []) with
  | true => rw [hok] at h; exact draw_sound hm hcall hN h hS hQ
  | false => rw [hok] at h; exact flt_sound hm hcall hcle hN h hS hQ
end
end Go.Proofs.YthldmlfpebgojaaGreatDoor
