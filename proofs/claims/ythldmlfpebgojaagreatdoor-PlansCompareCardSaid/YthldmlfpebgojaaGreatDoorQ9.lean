/-
  A region of the evaluator that draws its order: every order.
  No condition.
-/
import Derived.Test.YthldmlfpebgojaaGreatDoorQ8
import Derived.Test.YthldmlfpebgojaaGreatDoorRegion
namespace Go.Proofs.YthldmlfpebgojaaGreatDoor
set_option linter.unusedSimpArgs false
set_option linter.unusedVariables false
open Go.RowKit Go

section
variable {P : Program} {call : CallE} {N base : Nat} {ops : Array Oper}
theorem cnt_find {s : Nat} : ∀ {n : Nat}, s < cnt ops n → ∃ i u, i < n ∧ ops[i]? = some u ∧ isChg u = true ∧ cnt ops i = s
  | 0, h => by rw [cnt_zero] at h; omega
  | n + 1, h => by
    by_cases hs : s < cnt ops n
    · obtain ⟨i, u, h1, h2⟩ := cnt_find hs
      exact ⟨i, u, by omega, h2⟩
    · cases ho : ops[n]? with
      | none =>
        have hsz : ops.toList.length ≤ n := by
          rw [Array.length_toList]
          exact Array.getElem?_eq_none_iff.1 ho
        have : cnt ops (n + 1) = cnt ops n := by
          unfold cnt
          rw [List.take_of_length_le hsz, List.take_of_length_le (Nat.le_succ_of_le hsz)]
        omega
      | some o =>
        have := cnt_succ ho
        cases hc : isChg o with
        | false => rw [hc] at this; simp at this; omega
        | true =>
          rw [hc] at this
          simp at this
          exact ⟨n, o, by omega, ho, hc, by omega⟩
theorem pre_back (hd : DrawFacts ops) {j i : Nat} (h : Pre ops j i) : i < j := by
  induction h with
  | one ho he hb => exact hd.back _ _ ho _ he hb
  | more ho he hb _ ih => exact Nat.lt_trans ih (hd.back _ _ ho _ he hb)
theorem getE {α β : Type} {l : List (α × β)} {i : Nat} {a : α} {b : β} (h : l[i]? = some (a, b)) : (l.map (·.1))[i]? = some a := by
  rw [List.getElem?_map, h]; rfl
/-- The run in the text's order. -/
structure DRun (P : Program) (call : CallE) (N : Nat) (ops : Array Oper) (lds : List Ld) (mems : List Mem) (F0 : Fr) (fr : Nat → Fr) (vs : Nat → Value) (mm : Nat → Mem) (ef : Nat → Eff) : Prop where
  start : fr 0 = F0
  ok : lds.all (ldOk P ops (masks ops.toList []) mems) = true
  mem : ∀ k, k ≤ ops.size → mems[cnt ops k]? = some (mm k)
  last : (loose ops (masks ops.toList []) = false ∧ mems.length = cnt ops ops.size + 1) ∨
    (loose ops (masks ops.toList []) = true ∧ mems.length = cnt ops ops.size + 2 ∧ ∃ b1 B1 b2 B2, b1 ≠ b2 ∧ ef (pq ops).1 = .wr b1 B1 ∧ ef (pq ops).2 = .wr b2 B2 ∧ mems[cnt ops ops.size + 1]? = some ((Eff.wr b2 B2).apply (mm (pq ops).1)))
  at' : ∀ (k : Nat) (o : Oper), ops[k]? = some o → StepAt P call N ops lds fr vs mm ef k o
structure Loose (ops : Array Oper) : Prop where
  stp : ∃ o, ops[(pq ops).1]? = some o ∧ isSt o = true
  stq : ∃ o, ops[(pq ops).2]? = some o ∧ isSt o = true
  lt : (pq ops).1 < (pq ops).2
  cp : cnt ops (pq ops).1 + 2 = cnt ops ops.size
  cq : cnt ops (pq ops).2 + 1 = cnt ops ops.size
theorem loose_of (h : loose ops (masks ops.toList []) = true) : Loose ops := by
  unfold loose at h
  simp only [Bool.and_eq_true] at h
  obtain ⟨⟨⟨⟨⟨h1, h2⟩, _⟩, h4⟩, h5⟩, h6⟩ := h
  have st : ∀ {i}, stAt ops i = true → ∃ o, ops[i]? = some o ∧ isSt o = true := fun {i} h => by
    unfold stAt at h
    cases ho : ops[i]? with
    | none => rw [ho] at h; cases h
    | some o => rw [ho] at h; exact ⟨o, rfl, h⟩
  exact ⟨st h1, st h2, Nat.le_of_ble_eq_true h4, Nat.eq_of_beq_eq_true h5, Nat.eq_of_beq_eq_true h6⟩
theorem st_chg {o : Oper} (h : isSt o = true) : isChg o = true := by
  unfold isSt at h
  unfold isChg
  split at h
  · rename_i h1; rw [h1]
  · cases h
theorem drun_all (hN : N ≤ 512) {F F1 : Fr} {M M1 : Mem} (h : evalDraw P call N ops F M = some (F1, M1)) : DrawFacts ops ∧ ∃ lds mems fr vs mm ef, DRun P call N ops lds mems F fr vs mm ef ∧ mm 0 = M ∧ fr ops.size = F1 ∧ mm ops.size = M1 := by
  unfold evalDraw at h
  obtain ⟨hok, h⟩ := cond_run h
  refine ⟨drawFacts hok, ?_⟩
  obtain ⟨lds1, ext, fr, vs, mm, ef, sts, e1, e2, e3, e4, _, e6, e6', e7, e8, e9', e9⟩ := drun hN ops.toList 0 (fun k _ => by simp) h (by simp [cnt_zero]) ⟨_, _, rfl⟩
  generalize hme : ext ++ [(M, Eff.no)] = me at *
  simp only [Nat.zero_add, Array.length_toList, Array.getElem?_toList] at e3 e4 e7 e8 e9 e9'
  have hmem : ∀ k, k ≤ ops.size → (me.reverse.map (·.1))[cnt ops k]? = some (mm k) := fun k hk => by
    obtain ⟨m, hm⟩ := e7 k hk
    exact getE hm
  have hlen : (me.reverse.map (·.1)).length = cnt ops ops.size + 1 := by simpa using e8
  unfold statesD at e6
  cases hl : loose ops (masks ops.toList []) with
  | false =>
    rw [hl] at e6
    obtain rfl := some_eq e6
    exact ⟨lds1, _, fr, vs, mm, ef, ⟨e1, e6', hmem, .inl ⟨hl, hlen⟩, e9⟩, e2, e3, e4⟩
  | true =>
    rw [hl] at e6
    have hL := loose_of hl
    obtain ⟨op, hop, hsp⟩ := hL.stp
    obtain ⟨oq, hoq, hsq⟩ := hL.stq
    have efp := e9' _ _ hop (st_chg hsp)
    have efq := e9' _ _ hoq (st_chg hsq)
    simp only [cond_true] at e6
    split at e6
    case h_2 => cases e6
    rename_i Mq b2 B2 Mp b1 B1 M0 m0 rest
    cases hb : Nat.beq b1 b2 with
    | true => rw [hb] at e6; cases e6
    | false =>
      rw [hb] at e6
      simp only [cond_false] at e6
      obtain rfl := some_eq e6
      have hne : b1 ≠ b2 := fun e => by subst e; rw [Nat.beq_refl] at hb; cases hb
      have hrl : rest.length + 2 = cnt ops ops.size := by simp at e8; omega
      have r3 : ((Mq, Eff.wr b2 B2) :: (Mp, Eff.wr b1 B1) :: (M0, m0) :: rest).reverse = rest.reverse ++ [(M0, m0), (Mp, Eff.wr b1 B1), (Mq, Eff.wr b2 B2)] := by simp
      rw [r3] at efp efq
      have i1 : cnt ops (pq ops).1 + 1 = rest.reverse.length + 1 := by have := hL.cp; simp; omega
      have i2 : cnt ops (pq ops).2 + 1 = rest.reverse.length + 2 := by have := hL.cq; simp; omega
      have i0 : cnt ops (pq ops).1 = rest.reverse.length + 0 := by have := hL.cp; simp; omega
      rw [i1, List.getElem?_append_right (by omega)] at efp
      rw [i2, List.getElem?_append_right (by omega)] at efq
      have hm0 : M0 = mm (pq ops).1 := by
        obtain ⟨m, hm⟩ := e7 (pq ops).1 (by have := (Array.getElem?_eq_some_iff.1 hop).1; omega)
        rw [r3, i0, List.getElem?_append_right (by omega)] at hm
        simp at hm
        exact hm.1
      simp at efp efq
      subst hm0
      refine ⟨lds1, _, fr, vs, mm, ef, ⟨e1, e6', fun k hk => ?_, .inr ⟨hl, ?_, b1, B1, b2, B2, hne, efp.2.symm, efq.2.symm, ?_⟩, e9⟩, e2, e3, e4⟩
      · have hk2 := hmem k hk
        rw [List.getElem?_append_left (List.getElem?_eq_some_iff.1 hk2).1]
        exact hk2
      · rw [List.length_append, hlen]
        rfl
      · rw [List.getElem?_append_right (by rw [hlen]; exact Nat.le_refl _), hlen]
        simp only [Nat.sub_self, List.getElem?_cons_zero, Eff.applyK_eq, id]
/-- The memory counts, not its form. -/
theorem MR.same {e : Env} {M M' : Mem} {w : World} (h : MR base e M w) (hn : M'.nx = M.nx) (hg : ∀ b, M'.t.get b = M.t.get b) : MR base e M' w :=
  ⟨h.bs, by rw [hn]; exact h.len, h.low, fun b B hB => h.blk b B (by rw [← hg]; exact hB), fun b B hB => h.ro b B (by rw [← hg]; exact hB), fun b c b' c' d f B C hB hC => h.inj b c b' c' d f B C (by rw [← hg]; exact hB) (by rw [← hg]; exact hC)⟩
theorem wr_other {M : Mem} {b1 c : Nat} {B1 : Blk} (h : c ≠ b1) : ((Eff.wr b1 B1).apply M).t.get c = M.t.get c := Tr.set_other _ _ (fun e => h e.symm)
theorem wr_self {M : Mem} {b1 : Nat} {B1 : Blk} : ((Eff.wr b1 B1).apply M).t.get b1 = some B1 := Tr.set_self _ _ _
/-- A store looks at its own block alone. -/
theorem store_local {o : Oper} {F : Fr} {M M' : Mem} {v : Value} {b : Nat} {B : Blk} (hs : isSt o = true) (h : evalOp P o F M = some (.v v (.wr b B))) (hg : M'.t.get b = M.t.get b) : evalOp P o F M' = some (.v v (.wr b B)) := by
  obtain ⟨d, op, ty, pos, af, g⟩ := o
  cases op <;> first | (simp [isSt] at hs; done) | skip
  rename_i T x y
  change evStore P T x y F M = _ at h
  change evStore P T x y F M' = _
  unfold evStore at h ⊢
  split at h
  case h_2 => cases h
  rename_i b0 off h1
  split at h
  case h_2 => cases h
  rename_i u n h2 hn
  split at h
  case h_2 => cases h
  rename_i vs hvs
  obtain ⟨hlen, h⟩ := cond_run h
  simp only [hlen, cond_true]
  split at h
  case h_2 => cases h
  rename_i m hm
  have h3 := some_eq h
  injection h3 with h4 h5
  subst h4 h5
  have hb : b0 = b := by
    unfold wr at hm
    split at hm
    · obtain ⟨_, hm⟩ := cond_run hm
      rw [fVs_eq] at hm
      have := some_eq hm
      injection this with h6 _
      exact h6.symm
    · cases hm
  subst hb
  have : wr M' b0 off vs = some (.wr b0 B) := by
    unfold wr at hm ⊢
    rw [hg]
    exact hm
  rw [this]
section
variable {lds : List Ld} {mems : List Mem} {F0 : Fr} {fr : Nat → Fr} {vs : Nat → Value} {mm : Nat → Mem} {ef : Nat → Eff}
/-- A slot on the way. -/
theorem DRun.slot (h : DRun P call N ops lds mems F0 fr vs mm ef) (hd : DrawFacts ops) (t : Nat) : ∀ j, j ≤ ops.size → (∃ i u, i < j ∧ ops[i]? = some u ∧ u.dst = some t ∧ frGet (fr j) t = some (vs i)) ∨ ((∀ i u, i < j → ops[i]? = some u → u.dst ≠ some t) ∧ frGet (fr j) t = frGet F0 t)
  | 0, _ => .inr ⟨fun i u hi => by omega, by rw [h.start]⟩
  | j + 1, hj => by
    have hlt : j < ops.size := by omega
    have ho : ops[j]? = some ops[j] := Array.getElem?_eq_getElem hlt
    have hp := (h.at' j _ ho).put
    by_cases hdst : ops[j].dst = some t
    · left
      refine ⟨j, _, by omega, ho, hdst, ?_⟩
      rcases hp with ⟨h1, _⟩ | ⟨t', h1, _, h2, _⟩
      · rw [hdst] at h1; cases h1
      · rw [hdst] at h1
        injection h1 with h1
        subst h1
        exact h2
    · have hsame : frGet (fr (j + 1)) t = frGet (fr j) t := by
        rcases hp with ⟨_, h1⟩ | ⟨t', h1, _, _, h2⟩
        · rw [h1]
        · exact h2 t fun e => hdst (by rw [h1, e])
      rcases h.slot hd t j (by omega) with ⟨i, u, h1, h2, h3, h4⟩ | ⟨h1, h2⟩
      · exact .inl ⟨i, u, by omega, h2, h3, by rw [hsame]; exact h4⟩
      · refine .inr ⟨fun i u hi hu => ?_, by rw [hsame]; exact h2⟩
        by_cases hij : i = j
        · subst hij
          rw [ho] at hu
          injection hu with hu
          subst hu
          exact hdst
        · exact h1 i u (by omega) hu
/-- What holds on the way in any order. -/
structure DI (base N : Nat) (ops : Array Oper) (mems : List Mem) (F0 : Fr) (vs : Nat → Value) (e0 : Env) (w0 : World) (listed : Array Bool) (a : Act) (w : World) (s : Nat) (e : Env) (M : Mem) : Prop where
  lsize : listed.size = ops.size
  down : ∀ j i, listed.getD j false = true → Pre ops j i → listed.getD i false = true
  row : ∀ (i : Nat) (u : Oper), ops[i]? = some u → isChg u = true → (listed.getD i false = true ↔ doneAt ops s i = true)
  mem : mems[s]? = some M
  mr : MR base e M w
  ext : Ext e0 e
  inn : ∀ (i : Nat) (u : Oper) (d : Nat), ops[i]? = some u → listed.getD i false = true → u.dst = some d → V3 e (vs i) (a.tmps.getD d undef)
  out : ∀ (t : Nat), (∀ (i : Nat) (u : Oper), ops[i]? = some u → listed.getD i false = true → u.dst ≠ some t) → ∀ v, frGet F0 t = some v → V3 e v (a.tmps.getD t undef)
  size : a.tmps.size = N
  defers : a.defers = []
  below : Below base w0 w
variable {e0 : Env} {w0 : World} {listed : Array Bool} {a : Act} {w : World} {s : Nat} {e : Env} {M : Mem}
theorem getD_mark {listed : Array Bool} {i k : Nat} (hi : i < listed.size) : (listed.setIfInBounds i true).getD k false = (decide (k = i) || listed.getD k false) := by
  by_cases hk : k = i
  · subst hk
    simp [hi]
  · rw [getD_set_ne false (fun e => hk e.symm)]
    simp [hk]
/-- The operands of an operation that is ready. -/
theorem DI.slots (h : DI base N ops mems F0 vs e0 w0 listed a w s e M) (hr : DRun P call N ops lds mems F0 fr vs mm ef) (hd : DrawFacts ops) {j : Nat} {o : Oper} (ho : ops[j]? = some o) (hun : listed.getD j false = false) (hpre : ∀ i, Pre ops j i → listed.getD i false = true) {t : Nat} (ht : t ∈ tmpsOf ops o) {v : Value} (hv : frGet (fr j) t = some v) : V3 e v (a.tmps.getD t undef) := by
  have hj : j < ops.size := (Array.getElem?_eq_some_iff.1 ho).1
  rcases hr.slot hd t j (by omega) with ⟨i, u, h1, h2, h3, h4⟩ | ⟨h1, h2⟩
  · rw [h4] at hv
    obtain rfl := some_eq hv
    rcases hd.read i j u o t h2 ho h3 ht with hp | hp
    · exact h.inn i u t h2 (hpre i hp) h3
    · have := pre_back hd hp
      omega
  · rw [h2] at hv
    refine h.out t (fun i u hu hli hut => ?_) v hv
    rcases hd.read i j u o t hu ho hut ht with hp | hp
    · exact h1 i u (pre_back hd hp) hu hut
    · have := h.down i j hli hp
      rw [hun] at this
      cases this
theorem DI.good (h : DI base N ops mems F0 vs e0 w0 listed a w s e M) (hr : DRun P call N ops lds mems F0 fr vs mm ef) (hd : DrawFacts ops) {j : Nat} {o : Oper} (ho : ops[j]? = some o) (hun : listed.getD j false = false) (hpre : ∀ i, Pre ops j i → listed.getD i false = true) : Good o (fr j) e a := fun x hx v hv => by
  cases x with
  | tmp t =>
    refine h.slots hr hd ho hun hpre ?_ hv
    unfold tmpsOf
    exact List.mem_append_left _ (List.mem_filterMap.2 ⟨.tmp t, hx, rfl⟩)
  | const u =>
    change (bif plain u then some u else none) = some v at hv
    obtain ⟨hp, rfl⟩ := some_bif hv
    exact .two (plain_self e hp)
  | global g => cases hv
  | func f =>
    obtain rfl := some_eq hv
    exact .two (.one (.plain rfl))
theorem DI.wanted (h : DI base N ops mems F0 vs e0 w0 listed a w s e M) (hr : DRun P call N ops lds mems F0 fr vs mm ef) (hd : DrawFacts ops) {j : Nat} {o : Oper} (ho : ops[j]? = some o) (hun : listed.getD j false = false) (hpre : ∀ i, Pre ops j i → listed.getD i false = true) {r : Bool} (hw : wantedE ops o (fr j) = some r) : Region.wanted o (yielded ops a.tmps) = r :=
  wanted_of (fun g b t hg ht v hv => h.slots hr hd ho hun hpre (by
    unfold tmpsOf
    refine List.mem_append_right _ ?_
    rw [hg]
    simp [ht]) hv) hw
/-- A step. -/
theorem DI.step (h : DI base N ops mems F0 vs e0 w0 listed a w s e M) (hd : DrawFacts ops) {j : Nat} {o : Oper} (ho : ops[j]? = some o) (hun : listed.getD j false = false) (hpre : ∀ i, Pre ops j i → listed.getD i false = true)
    {F' : Fr} (hput : PutRel (fr j) o.dst (vs j) F' N) {v' : Value} {e' : Env} {w' : World} {M' : Mem} {s' : Nat} (hx : Ext e e') (hv : V3 e' (vs j) v') (hmr : MR base e' M' w') (hb : Below base w w') (hm : mems[s']? = some M')
    (hs : (isChg o = false ∧ s' = s) ∨ (isChg o = true ∧ ∀ (i : Nat) (u : Oper), ops[i]? = some u → isChg u = true → (doneAt ops s' i = true ↔ i = j ∨ doneAt ops s i = true))) : DI base N ops mems F0 vs e0 w0 (listed.setIfInBounds j true) (a.put o.dst v') w' s' e' M' := by
  have hj : j < listed.size := by rw [h.lsize]; exact (Array.getElem?_eq_some_iff.1 ho).1
  have hsz : (a.put o.dst v').tmps.size = N := by
    unfold Act.put
    split
    · simp [h.size]
    · exact h.size
  have hput' : ∀ t, (o.dst ≠ some t → (a.put o.dst v').tmps.getD t undef = a.tmps.getD t undef) ∧ (o.dst = some t → (a.put o.dst v').tmps.getD t undef = v') := fun t => by
    rcases hput with ⟨hn, _⟩ | ⟨d, hn, hlt, _, _⟩
    · rw [hn]
      exact ⟨fun _ => rfl, fun h => by cases h⟩
    · rw [hn]
      refine ⟨fun hne => ?_, fun he => ?_⟩
      · have : d ≠ t := fun e2 => hne (by rw [e2])
        simp [Act.put, Array.getElem?_setIfInBounds_ne this]
      · injection he with he
        subst he
        have : d < a.tmps.size := by rw [h.size]; exact hlt
        simp [Act.put, this]
  refine ⟨by simp [h.lsize], fun i k hi hp => ?_, fun i u hu hc => ?_, hm, hmr, h.ext.trans hx, fun i u d hu hi hdst => ?_, fun t ht v hv0 => ?_, hsz, ?_, h.below.trans hb⟩
  · rw [getD_mark hj] at hi ⊢
    simp only [Bool.or_eq_true, decide_eq_true_eq] at hi ⊢
    rcases hi with rfl | hi
    · exact .inr (hpre k hp)
    · exact .inr (h.down i k hi hp)
  · rw [getD_mark hj]
    simp only [Bool.or_eq_true, decide_eq_true_eq]
    have hrow := h.row i u hu hc
    rcases hs with ⟨hcj, rfl⟩ | ⟨hcj, hsj⟩
    · have : i ≠ j := fun e2 => by
        subst e2
        rw [ho] at hu
        injection hu with hu
        subst hu
        rw [hc] at hcj
        cases hcj
      simp only [this, false_or]
      exact hrow
    · rw [hsj i u hu hc, hrow]
  · rw [getD_mark hj] at hi
    simp only [Bool.or_eq_true, decide_eq_true_eq] at hi
    by_cases hij : i = j
    · subst hij
      rw [ho] at hu
      injection hu with hu
      subst hu
      rw [(hput' d).2 hdst]
      exact hv
    · have hl := hi.resolve_left hij
      rw [(hput' d).1 fun e2 => hij (hd.one i j u o d hu ho hdst e2)]
      exact (h.inn i u d hu hl hdst).ext hx
  · rw [(hput' t).1 (ht j o ho (by rw [getD_mark hj]; simp))]
    exact (h.out t (fun i u hu hl => ht i u hu (by rw [getD_mark hj, hl]; simp)) v hv0).ext hx
  · have : (a.put o.dst v').defers = a.defers := by
      unfold Act.put
      split <;> rfl
    rw [this]
    exact h.defers
theorem cnt_inj {i j : Nat} {u o : Oper} (hu : ops[i]? = some u) (ho : ops[j]? = some o) (hcu : isChg u = true) (hco : isChg o = true) (h : cnt ops i = cnt ops j) : i = j := by
  rcases Nat.lt_trichotomy i j with hlt | he | hlt
  · have h1 := cnt_succ hu
    rw [hcu] at h1
    simp at h1
    have h2 := cnt_mono (ops := ops) (i := i + 1) (j := j) (by omega)
    omega
  · exact he
  · have h1 := cnt_succ ho
    rw [hco] at h1
    simp at h1
    have h2 := cnt_mono (ops := ops) (i := j + 1) (j := i) (by omega)
    omega
theorem done_low {i : Nat} (hs : s ≤ cnt ops ops.size) : doneAt ops s i = true ↔ cnt ops i < s := by
  unfold doneAt
  rw [Nat.ble_eq_true_of_le hs, cond_true, blt_eq, decide_eq_true_iff]
theorem done_high {i : Nat} (hs : s = cnt ops ops.size + 1) : doneAt ops s i = true ↔ cnt ops i + 2 < cnt ops ops.size ∨ i = (pq ops).2 := by
  have : Nat.ble s (cnt ops ops.size) = false := by
    cases h : Nat.ble s (cnt ops ops.size) with
    | false => rfl
    | true => have := Nat.le_of_ble_eq_true h; omega
  unfold doneAt
  rw [this, cond_false, Bool.or_eq_true, blt_eq, decide_eq_true_iff, beqN_eq, decide_eq_true_iff]
theorem chg_lt {i : Nat} {u : Oper} (hu : ops[i]? = some u) (hc : isChg u = true) : cnt ops i < cnt ops ops.size := by
  have h1 := cnt_succ hu
  rw [hc] at h1
  simp at h1
  have h2 := cnt_mono (ops := ops) (i := i + 1) (j := ops.size) (by have := (Array.getElem?_eq_some_iff.1 hu).1; omega)
  omega
theorem DRun.states (hr : DRun P call N ops lds mems F0 fr vs mm ef) (hm : mems[s]? = some M) : s ≤ cnt ops ops.size ∨ (s = cnt ops ops.size + 1 ∧ loose ops (masks ops.toList []) = true ∧ ∃ b1 B1 b2 B2, b1 ≠ b2 ∧ ef (pq ops).1 = .wr b1 B1 ∧ ef (pq ops).2 = .wr b2 B2 ∧ M = (Eff.wr b2 B2).apply (mm (pq ops).1)) := by
  have hlt := (List.getElem?_eq_some_iff.1 hm).1
  rcases hr.last with ⟨_, hl⟩ | ⟨hlo, hl, b1, B1, b2, B2, h1, h2, h3, h4⟩
  · left; omega
  · rcases Nat.lt_or_ge (cnt ops ops.size) s with hgt | hle
    · right
      have hs : s = cnt ops ops.size + 1 := by omega
      refine ⟨hs, hlo, b1, B1, b2, B2, h1, h2, h3, ?_⟩
      rw [hs, h4] at hm
      exact some_eq hm
    · exact .inl hle
/-- All are done. -/
theorem DI.final (h : DI base N ops mems F0 vs e0 w0 listed a w s e M) (hr : DRun P call N ops lds mems F0 fr vs mm ef) (hd : DrawFacts ops) (hN : N ≤ 512) (hall : ∀ i, i < ops.size → listed.getD i false = true) : ST base N e0 w0 (fr ops.size) (mm ops.size) a w := by
  have hs : s = cnt ops ops.size := by
    rcases hr.states h.mem with hle | ⟨hs, hlo, _⟩
    · rcases Nat.lt_or_ge s (cnt ops ops.size) with hlt | hge
      · obtain ⟨i, u, hi, hu, hc, he⟩ := cnt_find hlt
        have := (done_low hle).1 ((h.row i u hu hc).1 (hall i hi))
        omega
      · omega
    · exfalso
      have hL := loose_of hlo
      obtain ⟨op, hop, hsp⟩ := hL.stp
      have h1 := (done_high hs).1 ((h.row _ op hop (st_chg hsp)).1 (hall _ (Array.getElem?_eq_some_iff.1 hop).1))
      have h2 := hL.cp
      have h3 := hL.lt
      omega
  have hM : M = mm ops.size := by
    have := h.mem
    rw [hs, hr.mem _ (Nat.le_refl _)] at this
    exact some_eq this
  subst hM
  refine ⟨⟨e, ⟨h.size, hN, fun t v hv => ?_, h.defers⟩, h.mr, h.ext⟩, h.below⟩
  rcases hr.slot hd t ops.size (Nat.le_refl _) with ⟨i, u, h1, h2, h3, h4⟩ | ⟨h1, h2⟩
  · rw [h4] at hv
    obtain rfl := some_eq hv
    exact h.inn i u t h2 (hall i h1) h3
  · rw [h2] at hv
    exact h.out t (fun i u hu _ => h1 i u (Array.getElem?_eq_some_iff.1 hu).1 hu) v hv
/-- How a change goes on: the usual way, or one of two loose stores in the other order. -/
theorem DI.turn (h : DI base N ops mems F0 vs e0 w0 listed a w s e M) (hr : DRun P call N ops lds mems F0 fr vs mm ef) (hd : DrawFacts ops) {j : Nat} {o : Oper} (ho : ops[j]? = some o) (hc : isChg o = true) (hun : listed.getD j false = false) (hpre : ∀ i, Pre ops j i → listed.getD i false = true) :
    ∃ s', (∀ (i : Nat) (u : Oper), ops[i]? = some u → isChg u = true → (doneAt ops s' i = true ↔ i = j ∨ doneAt ops s i = true)) ∧
      ((M = mm j ∧ mems[s']? = some (mm (j + 1))) ∨ ∃ b B Ma Mb, ef j = .wr b B ∧ evalOp P o (fr j) (mm j) = some (.v (vs j) (.wr b B)) ∧ isSt o = true ∧ wantedE ops o (fr j) = some true ∧ Ma = mm j ∧ Ma.t.get b = M.t.get b ∧
        mems[s']? = some Mb ∧ Mb.nx = ((Eff.wr b B).apply M).nx ∧ ∀ c, Mb.t.get c = ((Eff.wr b B).apply M).t.get c) := by
  have hjs : j < ops.size := (Array.getElem?_eq_some_iff.1 ho).1
  have hnd : ¬ doneAt ops s j = true := fun hdn => by
    have := (h.row j o ho hc).2 hdn
    rw [hun] at this
    cases this
  have hcj := chg_lt ho hc
  have hcj1 : cnt ops (j + 1) = cnt ops j + 1 := by
    have := cnt_succ ho
    rw [hc] at this
    simpa using this
  have stp : ∀ {i b B} {u : Oper}, ops[i]? = some u → ef i = .wr b B → evalOp P u (fr i) (mm i) = some (.v (vs i) (.wr b B)) ∧ wantedE ops u (fr i) = some true ∧ mm (i + 1) = (Eff.wr b B).apply (mm i) := fun {i b B u} hu he => by
    rcases (hr.at' i u hu).run with ⟨_, _, _, h4⟩ | ⟨hw, ⟨out, h1, h2, h3, _⟩ | ⟨_, _, _, _, h4, _⟩⟩
    · rw [he] at h4; cases h4
    · rw [he] at h2 h3
      rcases h2 with ⟨_, h2⟩ | h2
      · cases h2
      · rw [h2] at h1
        exact ⟨h1, hw, h3⟩
    · rw [he] at h4; cases h4
  rcases hr.states h.mem with hle | ⟨hs, hlo, b1, B1, b2, B2, hne, he1, he2, hM⟩
  · rw [done_low hle] at hnd
    rcases Nat.lt_or_ge s (cnt ops j) with hlt | hge
    · -- the last store ahead of the one before
      obtain ⟨i, u, hi, hu, hcu, hci⟩ := cnt_find hlt
      have hnl : listed.getD i false = false := by
        cases hl : listed.getD i false with
        | false => rfl
        | true =>
          have := (done_low hle).1 ((h.row i u hu hcu).1 hl)
          omega
      rcases hd.row i j u o hu ho hcu hc hi with hp | ⟨hlo, rfl, rfl⟩
      · have := hpre i hp
        rw [hnl] at this
        cases this
      · have hL := loose_of hlo
        have hcp := hL.cp
        have hcq := hL.cq
        rcases hr.last with ⟨h0, _⟩ | ⟨_, _, b1, B1, b2, B2, hne, he1, he2, hx⟩
        · rw [hlo] at h0; cases h0
        · obtain ⟨g1, _, g3⟩ := stp hu he1
          obtain ⟨k1, k2, k3⟩ := stp ho he2
          obtain ⟨oq, hoq, hsq⟩ := hL.stq
          rw [ho] at hoq
          obtain rfl := some_eq hoq
          have hMp : M = mm (pq ops).1 := by
            have := h.mem
            rw [← hci, hr.mem _ (by omega)] at this
            exact some_eq this
          have hmq : mm (pq ops).2 = mm ((pq ops).1 + 1) := by
            have h1 := hr.mem (pq ops).2 (by omega)
            have h2 := hr.mem ((pq ops).1 + 1) (by omega)
            have h3 : cnt ops ((pq ops).1 + 1) = cnt ops (pq ops).1 + 1 := by
              have := cnt_succ hu
              rw [hcu] at this
              simpa using this
            rw [h3, show cnt ops (pq ops).1 + 1 = cnt ops (pq ops).2 by omega, h1] at h2
            exact (some_eq h2).symm
          refine ⟨cnt ops ops.size + 1, fun i' u' hu' hcu' => ?_, .inr ⟨b2, B2, _, _, he2, k1, hsq, k2, rfl, ?_, hx, by rw [hMp], fun c => by rw [hMp]⟩⟩
          · rw [done_high rfl, done_low hle]
            constructor
            · rintro (h1 | h1)
              · right; omega
              · exact .inl h1
            · rintro (h1 | h1)
              · exact .inr h1
              · left; omega
          · rw [hmq, g3, hMp]
            exact wr_other fun e2 => hne e2.symm
    · have hsj : s = cnt ops j := by omega
      refine ⟨cnt ops j + 1, fun i u hu hcu => ?_, .inl ⟨?_, ?_⟩⟩
      · rw [done_low (by omega), done_low hle]
        constructor
        · intro h1
          by_cases he : cnt ops i = cnt ops j
          · exact .inl (cnt_inj hu ho hcu hc he)
          · right; omega
        · rintro (rfl | h1)
          · omega
          · omega
      · have := h.mem
        rw [hsj, hr.mem j (by omega)] at this
        exact some_eq this
      · rw [← hcj1]
        exact hr.mem (j + 1) (by omega)
  · -- the one before the last store, behind it
    have hL := loose_of hlo
    have hcp := hL.cp
    have hcq := hL.cq
    obtain ⟨op, hop, hsp⟩ := hL.stp
    obtain ⟨oq, hoq, hsq⟩ := hL.stq
    rw [done_high hs, not_or] at hnd
    have hjp : j = (pq ops).1 := by
      have h1 : cnt ops j ≠ cnt ops (pq ops).2 := fun e2 => hnd.2 (cnt_inj ho hoq hc (st_chg hsq) e2)
      exact cnt_inj ho hop hc (st_chg hsp) (by omega)
    subst hjp
    rw [ho] at hop
    obtain rfl := some_eq hop
    obtain ⟨g1, g2, g3⟩ := stp ho he1
    obtain ⟨k1, k2, k3⟩ := stp hoq he2
    have hmq : mm (pq ops).2 = mm ((pq ops).1 + 1) := by
      have h1 := hr.mem (pq ops).2 (by have := (Array.getElem?_eq_some_iff.1 hoq).1; omega)
      have h2 := hr.mem ((pq ops).1 + 1) (by omega)
      rw [hcj1, show cnt ops (pq ops).1 + 1 = cnt ops (pq ops).2 by omega, h1] at h2
      exact (some_eq h2).symm
    have hend : mm ops.size = mm ((pq ops).2 + 1) := by
      have h1 := hr.mem ops.size (Nat.le_refl _)
      have h2 := hr.mem ((pq ops).2 + 1) (by have := (Array.getElem?_eq_some_iff.1 hoq).1; omega)
      have h3 : cnt ops ((pq ops).2 + 1) = cnt ops (pq ops).2 + 1 := by
        have := cnt_succ hoq
        rw [st_chg hsq] at this
        simpa using this
      rw [h3, hcq, h1] at h2
      exact (some_eq h2).symm
    refine ⟨cnt ops ops.size, fun i u hu hcu => ?_, .inr ⟨b1, B1, _, _, he1, g1, hsp, g2, rfl, ?_, hr.mem ops.size (Nat.le_refl _), ?_, fun c => ?_⟩⟩
    · rw [done_low (Nat.le_refl _), done_high hs]
      have hci := chg_lt hu hcu
      constructor
      · intro _
        by_cases h1 : cnt ops i = cnt ops (pq ops).1
        · exact .inl (cnt_inj hu ho hcu hc h1)
        · by_cases h2 : cnt ops i = cnt ops (pq ops).2
          · exact .inr (.inr (cnt_inj hu hoq hcu (st_chg hsq) h2))
          · right; left; omega
      · intro _; exact hci
    · rw [hM]
      exact (wr_other hne).symm
    · rw [hend, k3, hmq, g3, hM]
      rfl
    · rw [hend, k3, hmq, g3, hM]
      by_cases hc2 : c = b2
      · subst hc2
        rw [wr_self, wr_other (fun e2 => hne e2.symm), wr_self]
      · rw [wr_other hc2]
        by_cases hc1 : c = b1
        · subst hc1
          rw [wr_self, wr_self]
        · rw [wr_other hc1, wr_other hc1, wr_other hc2]
theorem all_listed (hd : DrawFacts ops) (hls : listed.size = ops.size) (hrd : Region.ready .any ops listed = []) : ∀ i, i < ops.size → listed.getD i false = true := by
  intro i
  induction i using Nat.strongRecOn with
  | _ i ih =>
    intro hi
    have ho : ops[i]? = some ops[i] := Array.getElem?_eq_getElem hi
    cases hl : listed.getD i false with
    | true => rfl
    | false =>
      exfalso
      have : i ∈ Region.ready .any ops listed := mem_ready.2 ⟨by
        have : i < listed.size := by omega
        simpa [this] using hl, _, ho, fun e he hb => by
        have hlt := hd.back i _ ho e he hb
        exact ih e.on hlt (by omega)⟩
      rw [hrd] at this
      cases this
theorem draw_any {Q : Exit → Act → World → Prop} (hcall : CallOk P base call) (hr : DRun P call N ops lds mems F0 fr vs mm ef) (hd : DrawFacts ops) (hN : N ≤ 512) (hQ : ∀ a w, ST base N e0 w0 (fr ops.size) (mm ops.size) a w → Q .normal a w) :
    ∀ (fuel : Nat) (listed : Array Bool) (a : Act) (w : World) (s : Nat) (e : Env) (M : Mem), left ops.size listed = fuel → DI base N ops mems F0 vs e0 w0 listed a w s e M → wpAny P .any ops Q fuel listed a w
  | 0, listed, a, w, s, e, M, hf, h => by
    have hall := left_zero hf
    refine ⟨?_, hQ _ _ (h.final hr hd hN hall)⟩
    rw [List.eq_nil_iff_forall_not_mem]
    intro i hi
    obtain ⟨h1, o, ho, _⟩ := mem_ready.1 hi
    have hlt : i < ops.size := (Array.getElem?_eq_some_iff.1 ho).1
    have h2 := hall i hlt
    have : i < listed.size := by rw [h.lsize]; exact hlt
    simp [this] at h1 h2
    rw [h1] at h2
    cases h2
  | fuel + 1, listed, a, w, s, e, M, hf, h => by
    refine ⟨fun hrd => hQ _ _ (h.final hr hd hN (all_listed hd h.lsize hrd)), fun j hj => ?_⟩
    obtain ⟨h1, o, ho, hafter⟩ := mem_ready.1 hj
    have hlt : j < ops.size := (Array.getElem?_eq_some_iff.1 ho).1
    have hjl : j < listed.size := by rw [h.lsize]; exact hlt
    have hun : listed.getD j false = false := by simpa [hjl] using h1
    have hpre : ∀ i, Pre ops j i → listed.getD i false = true := fun i hp => by
      cases hp with
      | one ho' he hb =>
        rw [ho] at ho'
        injection ho' with ho'
        subst ho'
        exact hafter _ he hb
      | more ho' he hb hp2 =>
        rw [ho] at ho'
        injection ho' with ho'
        subst ho'
        exact h.down _ i (hafter _ he hb) hp2
    have hleft : left ops.size (listed.setIfInBounds j true) = fuel := by
      have := left_set hlt hjl hun
      omega
    have hstep := hr.at' j o ho
    have hgood := h.good hr hd ho hun hpre
    unfold wpOp
    simp only [ho]
    cases hc : isChg o with
    | true =>
      obtain ⟨s', hdone, hturn⟩ := h.turn hr hd ho hc hun hpre
      rcases hturn with ⟨rfl, hnext⟩ | ⟨b, B, Ma, Mb, hef, hev, hst, hw, rfl, hg, hMb, hnx, hget⟩
      · rcases hstep.run with ⟨hw, hvu, hmj, _⟩ | ⟨hw, hrun⟩
        · rw [h.wanted hr hd ho hun hpre hw]
          simp only [Bool.false_eq_true, if_false]
          exact draw_any hcall hr hd hN hQ fuel _ _ w s' e (mm j) hleft (h.step hd ho hun hpre hstep.put (Ext.refl e) (by rw [hvu]; exact V3.undef e) h.mr (Below.refl _ _) (by rw [hnext, hmj]) (.inr ⟨hc, hdone⟩))
        · rw [h.wanted hr hd ho hun hpre hw]
          simp only [if_true]
          left
          rcases hrun with ⟨out, hev, hout, hmj, _⟩ | ⟨f, args, hev, _, _, hcl⟩
          · have key : OpPost P base o a e w (vs j) ((ef j).apply (mm j)) := by
              rcases hout with ⟨rfl, he⟩ | rfl
              · rw [he]
                exact evalOp_sound hev hgood h.mr
              · exact evalOp_sound hev hgood h.mr
            obtain ⟨v', w', e', hrn, g1, g2, g3, g4⟩ := key
            exact hrn.wp (draw_any hcall hr hd hN hQ fuel _ _ w' s' e' _ hleft (h.step hd ho hun hpre hstep.put g1 g2 g3 g4 (by rw [hnext, hmj]) (.inr ⟨hc, hdone⟩)))
          · have hcr : OutPost P base o a e w (mm j) (.call f args) := evalOp_sound hev hgood h.mr
            obtain ⟨args', hrn, g0⟩ := hcr
            exact Oper.wp_call hrn (hcall f args _ _ _ hcl e w args' g0 h.mr) fun v' e' w' g1 g2 g3 g4 =>
              draw_any hcall hr hd hN hQ fuel _ _ w' s' e' _ hleft (h.step hd ho hun hpre hstep.put g1 g2 g3 g4 hnext (.inr ⟨hc, hdone⟩))
      · rw [h.wanted hr hd ho hun hpre hw]
        simp only [if_true]
        left
        have key : OpPost P base o a e w (vs j) ((Eff.wr b B).apply M) := evalOp_sound (store_local hst hev hg.symm) hgood h.mr
        obtain ⟨v', w', e', hrn, g1, g2, g3, g4⟩ := key
        exact hrn.wp (draw_any hcall hr hd hN hQ fuel _ _ w' s' e' Mb hleft (h.step hd ho hun hpre hstep.put g1 g2 (g3.same hnx hget) g4 hMb (.inr ⟨hc, hdone⟩)))
    | false =>
      rcases hstep.run with ⟨hw, hvu, hmj, _⟩ | ⟨hw, hrun⟩
      · rw [h.wanted hr hd ho hun hpre hw]
        simp only [Bool.false_eq_true, if_false]
        exact draw_any hcall hr hd hN hQ fuel _ _ w s e M hleft (h.step hd ho hun hpre hstep.put (Ext.refl e) (by rw [hvu]; exact V3.undef e) h.mr (Below.refl _ _) h.mem (.inl ⟨hc, rfl⟩))
      · rw [h.wanted hr hd ho hun hpre hw]
        simp only [if_true]
        left
        rcases hrun with ⟨out, hev, hout, hmj, hnc⟩ | ⟨f, args, hev, hc2, _⟩
        · obtain ⟨hno, hrd⟩ := hnc hc
          have hev2 : evalOp P o (fr j) M = some (.w (vs j)) ∨ evalOp P o (fr j) M = some (.v (vs j) .no) := by
            have hbase : evalOp P o (fr j) (mm j) = some (.w (vs j)) ∨ evalOp P o (fr j) (mm j) = some (.v (vs j) .no) := by
              rcases hout with ⟨rfl, _⟩ | rfl
              · exact .inl hev
              · rw [hno] at hev
                exact .inr hev
            cases hrr : isRd o with
            | false => rw [still_mem (M' := mm j) hc hrr]; exact hbase
            | true =>
              have hmem := hrd hrr
              have hok := List.all_eq_true.1 hr.ok _ hmem
              have hsl : s < mems.length := (List.getElem?_eq_some_iff.1 h.mem).1
              have hoks := List.all_eq_true.1 hok s (List.mem_range.2 hsl)
              simp only [Bool.or_eq_true, Bool.not_eq_true'] at hoks
              rcases hoks with (h5 | h5) | h5
              · have h6 := Nat.eq_of_beq_eq_true h5
                have h7 := h.mem
                rw [h6, hr.mem j (by omega)] at h7
                rw [some_eq h7]
                exact hbase
              · exfalso
                have hallow : allowed ops (masks ops.toList []) s j = true := by
                  unfold allowed allOps
                  rw [List.all_eq_true]
                  intro i hi
                  cases hu : ops[i]? with
                  | none => rfl
                  | some u =>
                    simp only
                    cases hcu : isChg u with
                    | false => rfl
                    | true =>
                      simp only [Bool.not_true, Bool.false_or, Bool.and_eq_true, Bool.or_eq_true, Bool.not_eq_true']
                      refine ⟨?_, ?_⟩
                      · cases hb : bit ((masks ops.toList []).getD j 0) i with
                        | false => exact .inl rfl
                        | true =>
                          right
                          exact (h.row i u hu hcu).1 (hpre i (masks_all ops j i hb))
                      · cases hb : bit ((masks ops.toList []).getD i 0) j with
                        | false => exact .inl rfl
                        | true =>
                          right
                          cases hdn : doneAt ops s i with
                          | false => rfl
                          | true =>
                            have := h.down i j ((h.row i u hu hcu).2 hdn) (masks_all ops i j hb)
                            rw [hun] at this
                            cases this
                rw [hallow] at h5
                cases h5
              · rw [h.mem] at h5
                exact sameOut_eq h5
          have key : OpPost P base o a e w (vs j) M := by
            rcases hev2 with hev2 | hev2
            · exact evalOp_sound hev2 hgood h.mr
            · exact evalOp_sound hev2 hgood h.mr
          obtain ⟨v', w', e', hrn, g1, g2, g3, g4⟩ := key
          exact hrn.wp (draw_any hcall hr hd hN hQ fuel _ _ w' s e' M hleft (h.step hd ho hun hpre hstep.put g1 g2 g3 g4 h.mem (.inl ⟨hc, rfl⟩)))
        · rw [hc] at hc2
          cases hc2
end
theorem draw_sound {e0 : Env} {w0 : World} {Q : Exit → Act → World → Prop} {F F1 : Fr} {M M1 : Mem} {a : Act} {w : World} (hm : P.follows .mixedOrders = true) (hcall : CallOk P base call) (hN : N ≤ 512) {id : Nat} (h : evalDraw P call N ops F M = some (F1, M1)) (hS : ST base N e0 w0 F M a w) (hQ : ∀ a w, ST base N e0 w0 F1 M1 a w → Q .normal a w) :
    (Code.region id ops true).wp P Q a w := by
  obtain ⟨hd, lds, mems, fr, vs, mm, ef, hr, h0, h1, h2⟩ := drun_all hN h
  subst h1 h2
  obtain ⟨⟨e, hF, hM, hE⟩, hB⟩ := hS
  have hm0 := hr.mem 0 (Nat.zero_le _)
  rw [cnt_zero, h0] at hm0
  have hrep : ∀ i, (Array.replicate ops.size false).getD i false = false := fun i => by
    rw [Array.getD_eq_getD_getElem?, Array.getElem?_replicate]
    split <;> rfl
  refine wp_region_any hm (draw_any hcall hr hd hN hQ ops.size _ a _ 0 e M ?_ ⟨by simp, fun j i hj => ?_, fun i u hu hc => ?_, hm0, hM.drew, hE, fun i u d hu hl => ?_, fun t _ v hv => hF.val t v hv, hF.size, hF.defers, hB.trans ⟨rfl, rfl, rfl, Nat.le_refl _, fun _ _ => rfl⟩⟩)
  · unfold left
    rw [List.filter_eq_self.2 (fun i _ => by rw [hrep]; rfl)]
    simp
  · rw [hrep] at hj; cases hj
  · rw [hrep, done_low (Nat.zero_le _)]; simp
  · rw [hrep] at hl; cases hl
end
end Go.Proofs.YthldmlfpebgojaaGreatDoor
