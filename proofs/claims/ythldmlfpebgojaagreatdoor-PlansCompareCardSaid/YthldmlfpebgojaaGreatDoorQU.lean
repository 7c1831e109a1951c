/-
  A drawn region with free blocks: any order gives what the text's order gives.
  No condition.
-/
import Derived.Test.YthldmlfpebgojaaGreatDoorQS
namespace Go.Proofs.YthldmlfpebgojaaGreatDoor
set_option linter.unusedSimpArgs false
set_option linter.unusedVariables false
open Go.RowKit Go

structure FltFacts (ops : Array Oper) : Prop where
  back : ∀ (j : Nat) (o : Oper), ops[j]? = some o → ∀ e ∈ o.after, Region.binds .any e = true → e.on < j
  one : ∀ (i j : Nat) (u o : Oper) (t : Nat), ops[i]? = some u → ops[j]? = some o → u.dst = some t → o.dst = some t → i = j
  read : ∀ (i j : Nat) (u o : Oper) (t : Nat), ops[i]? = some u → ops[j]? = some o → u.dst = some t → t ∈ tmpsOf ops o → Pre ops j i ∨ Pre ops i j
  main : ∀ (i j : Nat) (u o : Oper), ops[i]? = some u → ops[j]? = some o → isMn o = true → isChg u = true → i < j → Pre ops j i
theorem fltFacts {ops : Array Oper} (h : fltOk ops (masks ops.toList []) = true) : FltFacts ops := by
  unfold fltOk at h
  simp only [Bool.and_eq_true] at h
  obtain ⟨⟨h1, h2⟩, h3⟩ := h
  refine ⟨fun j o ho e he hb => ?_, fun i j u o t hi hj hu ho => ?_, fun i j u o t hi hj hu ht => ?_, fun i j u o hi hj ho hu hij => ?_⟩
  · have := List.all_eq_true.1 (allOps_iff h1 ho) e (by simpa using he)
    rw [hb] at this
    simp only [Bool.not_true, Bool.false_or] at this
    exact Nat.le_of_ble_eq_true this
  · have := allOps_iff (allOps_iff h2 hj) hi
    rw [hu] at this
    simp only [Bool.and_eq_true, Bool.or_eq_true] at this
    rcases this.1 with h | h
    · exact Nat.eq_of_beq_eq_true h
    · rw [ho] at h
      simp at h
  · have := allOps_iff (allOps_iff h2 hj) hi
    rw [hu] at this
    simp only [Bool.and_eq_true, Bool.or_eq_true] at this
    rcases this.2 with h | h
    · have : (tmpsOf ops o).contains t = true := List.contains_iff_mem.2 ht
      rw [this] at h
      cases h
    · rcases h with h | h
      · exact .inl (masks_all ops j i h)
      · exact .inr (masks_all ops i j h)
  · have := allOps_iff (allOps_iff h3 hj) hi
    simp only [Bool.or_eq_true] at this
    rcases this with (h | h) | h
    · rw [ho, hu] at h
      cases h
    · have := Nat.le_of_ble_eq_true h
      omega
    · exact masks_all ops j i h
structure FRun (P : Program) (call : CallE) (N : Nat) (ops : Array Oper) (lds : List Ld) (nn : List Mem) (F0 : Fr) (fr : Nat → Fr) (vs : Nat → Value) (mm : Nat → Mem) (kk : Nat → Nat) : Prop where
  start : fr 0 = F0
  ok : lds.all (ldOkF P ops (masks ops.toList []) nn) = true
  first : nn[0]? = some (mm 0)
  len : nn.length = mcnt ops ops.size + 1
  main : ∀ (j : Nat) (o : Oper), ops[j]? = some o → isMn o = true → nn[mcnt ops j + 1]? = some (mm (j + 1))
  at' : ∀ (j : Nat) (o : Oper), ops[j]? = some o → FStep P call N ops lds fr vs mm kk j o
  emp : ∀ j, j ≤ ops.size → ∀ b, kk j ≤ b → b < kk ops.size → (mm j).t.get b = none
  kn : ∀ j, j ≤ ops.size → kk ops.size ≤ (mm j).nx
section
variable {P : Program} {call : CallE} {N : Nat} {ops : Array Oper} {lds : List Ld} {nn : List Mem} {F0 : Fr} {fr : Nat → Fr} {vs : Nat → Value} {mm : Nat → Mem} {kk : Nat → Nat} {base : Nat}
theorem fpre_back (hd : FltFacts ops) {j i : Nat} (h : Pre ops j i) : i < j := by
  induction h with
  | one ho he hb => exact hd.back _ _ ho _ he hb
  | more ho he hb _ ih => exact Nat.lt_trans ih (hd.back _ _ ho _ he hb)
theorem mn_not_fl {o : Oper} (h : isMn o = true) : isFl o = false ∧ isChg o = true := by
  unfold isMn at h
  simp only [Bool.and_eq_true, Bool.not_eq_true'] at h
  exact ⟨h.2, h.1⟩
theorem fl_chg {o : Oper} (h : isFl o = true) : isChg o = true := by
  unfold isFl at h
  unfold isChg
  split at h
  · rename_i e; rw [e]
  · rename_i e; rw [e]
  · cases h
theorem FRun.kmono (hr : FRun P call N ops lds nn F0 fr vs mm kk) {i : Nat} : ∀ {j : Nat}, i ≤ j → j ≤ ops.size → kk i ≤ kk j
  | 0, h, _ => by rw [Nat.le_zero.1 h]; exact Nat.le_refl _
  | j + 1, h, hj => by
    by_cases e : i = j + 1
    · rw [e]; exact Nat.le_refl _
    · have h1 := hr.kmono (i := i) (j := j) (by omega) (by omega)
      have h2 := (hr.at' j _ (Array.getElem?_eq_getElem (by omega))).num
      rw [h2]
      cases isFl ops[j] <;> simp only [cond_true, cond_false] <;> omega
theorem FRun.klt (hr : FRun P call N ops lds nn F0 fr vs mm kk) {i j : Nat} {u : Oper} (hu : ops[i]? = some u) (hf : isFl u = true) (hij : i < j) (hj : j ≤ ops.size) : kk i < kk j := by
  have h1 := (hr.at' i u hu).num
  rw [hf] at h1
  have h2 := hr.kmono (i := i + 1) (j := j) hij hj
  rw [h1] at h2
  exact h2
theorem FRun.slot (h : FRun P call N ops lds nn F0 fr vs mm kk) (t : Nat) : ∀ j, j ≤ ops.size → (∃ i u, i < j ∧ ops[i]? = some u ∧ u.dst = some t ∧ frGet (fr j) t = some (vs i)) ∨ ((∀ i u, i < j → ops[i]? = some u → u.dst ≠ some t) ∧ frGet (fr j) t = frGet F0 t)
  | 0, _ => .inr ⟨fun i u hi => by omega, by rw [h.start]⟩
  | j + 1, hj => by
    have hlt : j < ops.size := by omega
    have ho : ops[j]? = some ops[j] := Array.getElem?_eq_getElem hlt
    have hp := (h.at' j _ ho).put
    by_cases hdst : ops[j].dst = some t
    · left
      refine ⟨j, _, by omega, ho, hdst, ?_⟩
      rcases hp with ⟨h1, _⟩ | ⟨t', h1, _, h2, _⟩
      · rw [hdst] at h1; cases h1
      · rw [hdst] at h1
        injection h1 with h1
        subst h1
        exact h2
    · have hsame : frGet (fr (j + 1)) t = frGet (fr j) t := by
        rcases hp with ⟨_, h1⟩ | ⟨t', h1, _, _, h2⟩
        · rw [h1]
        · exact h2 t fun e => hdst (by rw [h1, e])
      rcases h.slot t j (by omega) with ⟨i, u, h1, h2, h3, h4⟩ | ⟨h1, h2⟩
      · exact .inl ⟨i, u, by omega, h2, h3, by rw [hsame]; exact h4⟩
      · refine .inr ⟨fun i u hi hu => ?_, by rw [hsame]; exact h2⟩
        by_cases hij : i = j
        · subst hij
          rw [ho] at hu
          injection hu with hu
          subst hu
          exact hdst
        · exact h1 i u (by omega) hu
/-- What holds on the way in any order: A is the memory with the free blocks that are there. -/
structure DF (base N : Nat) (ops : Array Oper) (nn : List Mem) (F0 : Fr) (vs : Nat → Value) (mm : Nat → Mem) (kk : Nat → Nat) (e0 : Env) (w0 : World) (listed : Array Bool) (a : Act) (w : World) (s : Nat) (e : Env) (M A : Mem) : Prop where
  lsize : listed.size = ops.size
  down : ∀ j i, listed.getD j false = true → Pre ops j i → listed.getD i false = true
  row : ∀ (i : Nat) (u : Oper), ops[i]? = some u → isMn u = true → (listed.getD i false = true ↔ mcnt ops i < s)
  sle : s ≤ mcnt ops ops.size
  mem : nn[s]? = some M
  mr : MR base e A w
  sub : ML M A
  fre : ∀ (i : Nat) (u : Oper), ops[i]? = some u → isFl u = true → listed.getD i false = false → e.f (kk i) = none
  blk : ∀ (i : Nat) (u : Oper), ops[i]? = some u → isFl u = true → listed.getD i false = true → s ≤ mcnt ops i → ∀ X, (mm (i + 1)).t.get (kk i) = some X → A.t.get (kk i) = some X
  ext : Ext e0 e
  inn : ∀ (i : Nat) (u : Oper) (d : Nat), ops[i]? = some u → listed.getD i false = true → u.dst = some d → V3 e (vs i) (a.tmps.getD d undef)
  out : ∀ (t : Nat), (∀ (i : Nat) (u : Oper), ops[i]? = some u → listed.getD i false = true → u.dst ≠ some t) → ∀ v, frGet F0 t = some v → V3 e v (a.tmps.getD t undef)
  size : a.tmps.size = N
  defers : a.defers = []
  below : Below base w0 w
variable {e0 : Env} {w0 : World} {listed : Array Bool} {a : Act} {w : World} {s : Nat} {e : Env} {M A : Mem}
theorem DF.slots (h : DF base N ops nn F0 vs mm kk e0 w0 listed a w s e M A) (hr : FRun P call N ops lds nn F0 fr vs mm kk) (hd : FltFacts ops) {j : Nat} {o : Oper} (ho : ops[j]? = some o) (hun : listed.getD j false = false) (hpre : ∀ i, Pre ops j i → listed.getD i false = true) {t : Nat} (ht : t ∈ tmpsOf ops o) {v : Value} (hv : frGet (fr j) t = some v) : V3 e v (a.tmps.getD t undef) := by
  have hj : j < ops.size := (Array.getElem?_eq_some_iff.1 ho).1
  rcases hr.slot t j (by omega) with ⟨i, u, h1, h2, h3, h4⟩ | ⟨h1, h2⟩
  · rw [h4] at hv
    obtain rfl := some_eq hv
    rcases hd.read i j u o t h2 ho h3 ht with hp | hp
    · exact h.inn i u t h2 (hpre i hp) h3
    · have := fpre_back hd hp
      omega
  · rw [h2] at hv
    refine h.out t (fun i u hu hli hut => ?_) v hv
    rcases hd.read i j u o t hu ho hut ht with hp | hp
    · exact h1 i u (fpre_back hd hp) hu hut
    · have := h.down i j hli hp
      rw [hun] at this
      cases this
theorem DF.good (h : DF base N ops nn F0 vs mm kk e0 w0 listed a w s e M A) (hr : FRun P call N ops lds nn F0 fr vs mm kk) (hd : FltFacts ops) {j : Nat} {o : Oper} (ho : ops[j]? = some o) (hun : listed.getD j false = false) (hpre : ∀ i, Pre ops j i → listed.getD i false = true) : Good o (fr j) e a := fun x hx v hv => by
  cases x with
  | tmp t =>
    refine h.slots hr hd ho hun hpre ?_ hv
    unfold tmpsOf
    exact List.mem_append_left _ (List.mem_filterMap.2 ⟨.tmp t, hx, rfl⟩)
  | const u =>
    change (bif plain u then some u else none) = some v at hv
    obtain ⟨hp, rfl⟩ := some_bif hv
    exact .two (plain_self e hp)
  | global g => cases hv
  | func f =>
    obtain rfl := some_eq hv
    exact .two (.one (.plain rfl))
theorem DF.wanted (h : DF base N ops nn F0 vs mm kk e0 w0 listed a w s e M A) (hr : FRun P call N ops lds nn F0 fr vs mm kk) (hd : FltFacts ops) {j : Nat} {o : Oper} (ho : ops[j]? = some o) (hun : listed.getD j false = false) (hpre : ∀ i, Pre ops j i → listed.getD i false = true) {r : Bool} (hw : wantedE ops o (fr j) = some r) : Region.wanted o (yielded ops a.tmps) = r :=
  wanted_of (fun g b t hg ht v hv => h.slots hr hd ho hun hpre (by
    unfold tmpsOf
    refine List.mem_append_right _ ?_
    rw [hg]
    simp [ht]) hv) hw
/-- The last main change ahead of a place. -/
theorem mfind {s : Nat} : ∀ {n : Nat}, s < mcnt ops n → ∃ i u, i < n ∧ ops[i]? = some u ∧ isMn u = true ∧ mcnt ops i = s
  | 0, h => by simp [mcnt] at h
  | n + 1, h => by
    by_cases hlt : s < mcnt ops n
    · obtain ⟨i, u, h1, h2⟩ := mfind hlt
      exact ⟨i, u, by omega, h2⟩
    · cases ho : ops[n]? with
      | none =>
        have hsz : ops.toList.length ≤ n := by
          rw [Array.length_toList]
          exact Array.getElem?_eq_none_iff.1 ho
        exfalso
        apply hlt
        unfold mcnt at h ⊢
        rw [List.take_of_length_le hsz]
        rw [List.take_of_length_le (Nat.le_succ_of_le hsz)] at h
        exact h
      | some o =>
        have h1 := mcnt_succ ho
        cases hm : isMn o with
        | false => rw [hm] at h1; simp at h1; omega
        | true =>
          rw [hm] at h1
          simp at h1
          exact ⟨n, o, by omega, ho, hm, by omega⟩
/-- Where state s begins in the text's order. -/
theorem FRun.begin (hr : FRun P call N ops lds nn F0 fr vs mm kk) (hm : nn[s]? = some M) : ∃ c, c ≤ ops.size ∧ mcnt ops c = s ∧ mm c = M ∧ ∀ j, s ≤ mcnt ops j → c ≤ j := by
  cases s with
  | zero =>
    rw [hr.first] at hm
    exact ⟨0, Nat.zero_le _, rfl, some_eq hm.symm, fun _ _ => Nat.zero_le _⟩
  | succ s =>
    have hlt : s + 1 < nn.length := (List.getElem?_eq_some_iff.1 hm).1
    rw [hr.len] at hlt
    obtain ⟨i, u, h1, h2, h3, h4⟩ := mfind (ops := ops) (s := s) (n := ops.size) (by omega)
    have h5 := hr.main i u h2 h3
    rw [h4, hm] at h5
    refine ⟨i + 1, h1, ?_, (some_eq h5.symm).symm, fun j hj => ?_⟩
    · rw [mcnt_succ h2, h3, h4]
      rfl
    · by_cases hij : i < j
      · exact hij
      · have := mcnt_mono (ops := ops) (i := j) (j := i) (by omega)
        omega
/-- What the text's order has at a place of state s is there, as far as it is known. -/
theorem DF.agree (h : DF base N ops nn F0 vs mm kk e0 w0 listed a w s e M A) (hr : FRun P call N ops lds nn F0 fr vs mm kk) {c : Nat} (hc : mm c = M) : ∀ i, c ≤ i → i ≤ ops.size → mcnt ops c = s → mcnt ops i = s → (mm i).nx = M.nx ∧ ∀ b X, ((∀ (q : Nat) (u : Oper), q < i → ops[q]? = some u → isFl u = true → kk q = b → listed.getD q false = true) ∨ e.f b ≠ none) → (mm i).t.get b = some X → A.t.get b = some X
  | i, hci, hi, hcs, his => by
    by_cases he : c = i
    · subst he
      exact ⟨by rw [hc], fun b X _ hb => h.sub.get b X (by rw [← hc]; exact hb)⟩
    · cases i with
      | zero => omega
      | succ i =>
        have hlt : i < ops.size := by omega
        have ho : ops[i]? = some ops[i] := Array.getElem?_eq_getElem hlt
        have h1 := mcnt_succ ho
        have h2 := mcnt_mono (ops := ops) (i := c) (j := i) (by omega)
        have hmn : isMn ops[i] = false := by
          cases hm : isMn ops[i] with
          | false => rfl
          | true => rw [hm] at h1; simp at h1; omega
        obtain ⟨ih1, ih2⟩ := h.agree hr hc i (by omega) (by omega) hcs (by omega)
        have ih3 : ∀ b X, ((∀ (q : Nat) (u : Oper), q < i + 1 → ops[q]? = some u → isFl u = true → kk q = b → listed.getD q false = true) ∨ e.f b ≠ none) → (mm i).t.get b = some X → A.t.get b = some X := fun b X hb => ih2 b X (hb.imp (fun hb q u hq => hb q u (by omega)) id)
        rcases (hr.at' i _ ho).run with ⟨_, _, h4⟩ | ⟨_, hf, cs, T, sz, h4, h5⟩ | ⟨_, hf, h4⟩
        · rw [h4]
          exact ⟨ih1, ih3⟩
        · refine ⟨by rw [h5]; exact ih1, fun b X hb hX => ?_⟩
          by_cases hbk : kk i = b
          · have hl : listed.getD i false = true := by
              rcases hb with hb | hb
              · exact hb i _ (by omega) ho hf hbk
              · cases hl : listed.getD i false with
                | true => rfl
                | false => exact absurd (hbk ▸ h.fre i _ ho hf hl) hb
            subst hbk
            exact h.blk i _ ho hf hl (by omega) X hX
          · rw [h5] at hX
            simp only at hX
            rw [Tr.set_other _ _ hbk] at hX
            exact ih3 b X hb hX
        · have hch : isChg ops[i] = false := by
            have : isMn ops[i] = isChg ops[i] := by unfold isMn; rw [hf]; simp
            rw [← this]
            exact hmn
          rcases h4 with ⟨out, m, _, _, h5, h6⟩ | ⟨f, args, _, h6, _⟩
          · have := (h6 hch).1
            subst this
            rw [h5]
            exact ⟨ih1, ih3⟩
          · rw [hch] at h6
            cases h6
theorem DF.step (h : DF base N ops nn F0 vs mm kk e0 w0 listed a w s e M A) (hd : FltFacts ops) {j : Nat} {o : Oper} (ho : ops[j]? = some o) (hun : listed.getD j false = false) (hpre : ∀ i, Pre ops j i → listed.getD i false = true)
    {F F' : Fr} (hput : PutRel F o.dst (vs j) F' N) {v' : Value} {e' : Env} {w' : World} {M' A' : Mem} {s' : Nat} (hx : ∀ b p, e.f b = some p → e'.f b = some p) (hv : V3 e' (vs j) v') (hmr : MR base e' A' w') (hb : Below base w w') (hm : nn[s']? = some M') (hsub : ML M' A')
    (hs : (isMn o = false ∧ s' = s) ∨ (isMn o = true ∧ s' = s + 1 ∧ mcnt ops j = s ∧ s' ≤ mcnt ops ops.size)) (hfre : ∀ (i : Nat) (u : Oper), ops[i]? = some u → isFl u = true → i ≠ j → listed.getD i false = false → e'.f (kk i) = none)
    (hblk : ∀ (i : Nat) (u : Oper), ops[i]? = some u → isFl u = true → (i = j ∨ listed.getD i false = true) → s' ≤ mcnt ops i → ∀ X, (mm (i + 1)).t.get (kk i) = some X → A'.t.get (kk i) = some X) (hext : Ext e0 e') :
    DF base N ops nn F0 vs mm kk e0 w0 (listed.setIfInBounds j true) (a.put o.dst v') w' s' e' M' A' := by
  have hj : j < listed.size := by rw [h.lsize]; exact (Array.getElem?_eq_some_iff.1 ho).1
  have hsz : (a.put o.dst v').tmps.size = N := by
    unfold Act.put
    split
    · simp [h.size]
    · exact h.size
  have hput' : ∀ t, (o.dst ≠ some t → (a.put o.dst v').tmps.getD t undef = a.tmps.getD t undef) ∧ (o.dst = some t → (a.put o.dst v').tmps.getD t undef = v') := fun t => by
    rcases hput with ⟨hn, _⟩ | ⟨d, hn, hlt, _, _⟩
    · rw [hn]
      exact ⟨fun _ => rfl, fun h => by cases h⟩
    · rw [hn]
      refine ⟨fun hne => ?_, fun he => ?_⟩
      · have : d ≠ t := fun e2 => hne (by rw [e2])
        simp [Act.put, Array.getElem?_setIfInBounds_ne this]
      · injection he with he
        subst he
        have : d < a.tmps.size := by rw [h.size]; exact hlt
        simp [Act.put, this]
  refine ⟨by simp [h.lsize], fun i k hi hp => ?_, fun i u hu hc => ?_, ?_, hm, hmr, hsub, fun i u hu hf hl => ?_, fun i u hu hf hl hsi => ?_, hext, fun i u d hu hi hdst => ?_, fun t ht v hv0 => ?_, hsz, ?_, h.below.trans hb⟩
  · rw [getD_mark hj] at hi ⊢
    simp only [Bool.or_eq_true, decide_eq_true_eq] at hi ⊢
    rcases hi with rfl | hi
    · exact .inr (hpre k hp)
    · exact .inr (h.down i k hi hp)
  · rw [getD_mark hj]
    simp only [Bool.or_eq_true, decide_eq_true_eq]
    have hrow := h.row i u hu hc
    rcases hs with ⟨hcj, rfl⟩ | ⟨hcj, rfl, hsj, _⟩
    · have : i ≠ j := fun e2 => by
        subst e2
        rw [ho] at hu
        injection hu with hu
        subst hu
        rw [hc] at hcj
        cases hcj
      simp only [this, false_or]
      exact hrow
    · rw [hrow]
      constructor
      · rintro (rfl | hlt) <;> omega
      · intro hlt
        by_cases hij : i = j
        · exact .inl hij
        · right
          rcases Nat.lt_or_gt_of_ne hij with h1 | h1
          · have h2 := mcnt_succ hu
            rw [hc] at h2
            simp at h2
            have h3 := mcnt_mono (ops := ops) (i := i + 1) (j := j) h1
            omega
          · have h2 := mcnt_succ ho
            rw [hcj] at h2
            simp at h2
            have h3 := mcnt_mono (ops := ops) (i := j + 1) (j := i) h1
            omega
  · rcases hs with ⟨_, rfl⟩ | ⟨_, _, _, h4⟩
    · exact h.sle
    · exact h4
  · rw [getD_mark hj] at hl
    simp only [Bool.or_eq_false_iff, decide_eq_false_iff_not] at hl
    exact hfre i u hu hf hl.1 hl.2
  · rw [getD_mark hj] at hl
    simp only [Bool.or_eq_true, decide_eq_true_eq] at hl
    exact hblk i u hu hf hl hsi
  · rw [getD_mark hj] at hi
    simp only [Bool.or_eq_true, decide_eq_true_eq] at hi
    by_cases hij : i = j
    · subst hij
      rw [ho] at hu
      injection hu with hu
      subst hu
      rw [(hput' d).2 hdst]
      exact hv
    · have hl := hi.resolve_left hij
      rw [(hput' d).1 fun e2 => hij (hd.one i j u o d hu ho hdst e2)]
      exact (h.inn i u d hu hl hdst).ext' hx
  · rw [(hput' t).1 (ht j o ho (by rw [getD_mark hj]; simp))]
    exact (h.out t (fun i u hu hl => ht i u hu (by rw [getD_mark hj, hl]; simp)) v hv0).ext' hx
  · have : (a.put o.dst v').defers = a.defers := by
      unfold Act.put
      split <;> rfl
    rw [this]
    exact h.defers
/-- All are done. -/
theorem DF.final (h : DF base N ops nn F0 vs mm kk e0 w0 listed a w s e M A) (hr : FRun P call N ops lds nn F0 fr vs mm kk) (hN : N ≤ 512) (hall : ∀ i, i < ops.size → listed.getD i false = true) : ST base N e0 w0 (fr ops.size) (mm ops.size) a w := by
  have hs : s = mcnt ops ops.size := by
    rcases Nat.lt_or_ge s (mcnt ops ops.size) with hlt | hge
    · obtain ⟨i, u, hi, hu, hc, he⟩ := mfind hlt
      have := (h.row i u hu hc).1 (hall i hi)
      omega
    · have := h.sle
      omega
  obtain ⟨c, hc1, hc2, hc3, _⟩ := hr.begin h.mem
  obtain ⟨g1, g2⟩ := h.agree hr hc3 ops.size hc1 (Nat.le_refl _) hc2 hs.symm
  have hle : ML (mm ops.size) A := ⟨by rw [h.sub.nx, g1], fun b X hb => g2 b X (.inl fun q u hq _ _ _ => hall q hq) hb⟩
  refine ⟨⟨e, ⟨h.size, hN, fun t v hv => ?_, h.defers⟩, h.mr.sub hle, h.ext⟩, h.below⟩
  rcases hr.slot t ops.size (Nat.le_refl _) with ⟨i, u, h1, h2, h3, h4⟩ | ⟨h1, h2⟩
  · rw [h4] at hv
    obtain rfl := some_eq hv
    exact h.inn i u t h2 (hall i h1) h3
  · rw [h2] at hv
    exact h.out t (fun i u hu _ => h1 i u (Array.getElem?_eq_some_iff.1 hu).1 hu) v hv
theorem fall_listed (hd : FltFacts ops) (hls : listed.size = ops.size) (hrd : Region.ready .any ops listed = []) : ∀ i, i < ops.size → listed.getD i false = true := by
  intro i
  induction i using Nat.strongRecOn with
  | _ i ih =>
    intro hi
    have ho : ops[i]? = some ops[i] := Array.getElem?_eq_getElem hi
    cases hl : listed.getD i false with
    | true => rfl
    | false =>
      exfalso
      have : i ∈ Region.ready .any ops listed := mem_ready.2 ⟨by
        have : i < listed.size := by omega
        simpa [this] using hl, _, ho, fun e he hb => by
        have hlt := hd.back i _ ho e he hb
        exact ih e.on hlt (by omega)⟩
      rw [hrd] at this
      cases this
theorem flt_any {Q : Exit → Act → World → Prop} (hcall : CallOk P base call) (hcle : CallLe call call) (hr : FRun P call N ops lds nn F0 fr vs mm kk) (hd : FltFacts ops) (hN : N ≤ 512) (hk0 : e0.n ≤ kk 0) (hQ : ∀ a w, ST base N e0 w0 (fr ops.size) (mm ops.size) a w → Q .normal a w) :
    ∀ (fuel : Nat) (listed : Array Bool) (a : Act) (w : World) (s : Nat) (e : Env) (M A : Mem), left ops.size listed = fuel → DF base N ops nn F0 vs mm kk e0 w0 listed a w s e M A → wpAny P .any ops Q fuel listed a w
  | 0, listed, a, w, s, e, M, A, hf, h => by
    have hall := left_zero hf
    refine ⟨?_, hQ _ _ (h.final hr hN hall)⟩
    rw [List.eq_nil_iff_forall_not_mem]
    intro i hi
    obtain ⟨h1, o, ho, _⟩ := mem_ready.1 hi
    have hlt : i < ops.size := (Array.getElem?_eq_some_iff.1 ho).1
    have h2 := hall i hlt
    have : i < listed.size := by rw [h.lsize]; exact hlt
    simp [this] at h1 h2
    rw [h1] at h2
    cases h2
  | fuel + 1, listed, a, w, s, e, M, A, hf, h => by
    refine ⟨fun hrd => hQ _ _ (h.final hr hN (fall_listed hd h.lsize hrd)), fun j hj => ?_⟩
    obtain ⟨h1, o, ho, hafter⟩ := mem_ready.1 hj
    have hlt : j < ops.size := (Array.getElem?_eq_some_iff.1 ho).1
    have hjl : j < listed.size := by rw [h.lsize]; exact hlt
    have hun : listed.getD j false = false := by simpa [hjl] using h1
    have hpre : ∀ i, Pre ops j i → listed.getD i false = true := fun i hp => by
      cases hp with
      | one ho' he hb =>
        rw [ho] at ho'
        injection ho' with ho'
        subst ho'
        exact hafter _ he hb
      | more ho' he hb hp2 =>
        rw [ho] at ho'
        injection ho' with ho'
        subst ho'
        exact h.down _ i (hafter _ he hb) hp2
    have hleft : left ops.size (listed.setIfInBounds j true) = fuel := by
      have := left_set hlt hjl hun
      omega
    have hstep := hr.at' j o ho
    have hgood := h.good hr hd ho hun hpre
    obtain ⟨c, hc1, hc2, hc3, hc4⟩ := hr.begin h.mem
    have hknx : kk ops.size ≤ A.nx := by rw [h.sub.nx, ← hc3]; exact hr.kn c hc1
    have hen : e.n = A.nx := h.mr.len.1
    have hkl : ∀ (i : Nat) (u : Oper), ops[i]? = some u → isFl u = true → kk i < kk ops.size := fun i u hu hf => hr.klt hu hf (Array.getElem?_eq_some_iff.1 hu).1 (Nat.le_refl _)
    have hkne : ∀ (i : Nat) (u : Oper), ops[i]? = some u → isFl u = true → isFl o = true → i ≠ j → kk j ≠ kk i := fun i u hu hf hfo hij => by
      rcases Nat.lt_or_gt_of_ne hij with h1 | h1
      · have := hr.klt hu hf h1 (by omega); omega
      · have := hr.klt ho hfo h1 (by have := (Array.getElem?_eq_some_iff.1 hu).1; omega); omega
    -- no main change that is done is listed behind an operation that is not
    have hsj : isChg o = true → s ≤ mcnt ops j := fun hch => by
      rcases Nat.lt_or_ge (mcnt ops j) s with hlt2 | hge
      · exfalso
        have hsle := h.sle
        obtain ⟨i, u, hi, hu, hm, he⟩ := mfind (ops := ops) (s := mcnt ops j) (n := ops.size) (by omega)
        have hli := (h.row i u hu hm).2 (by omega)
        have hij : j < i := by
          rcases Nat.lt_trichotomy i j with h2 | h2 | h2
          · have h3 := mcnt_succ hu
            rw [hm] at h3
            simp at h3
            have := mcnt_mono (ops := ops) (i := i + 1) (j := j) h2
            omega
          · subst h2
            rw [hun] at hli
            cases hli
          · exact h2
        have := h.down i j hli (hd.main j i o u ho hu hm hch hij)
        rw [hun] at this
        cases this
      · exact hge
    unfold wpOp
    simp only [ho]
    have keep : ∀ {v' : Value} {w' : World} {A' : Mem} {e' : Env}, isMn o = false → (hA : A' = A) → (he : e' = e) → V3 e (vs j) v' → MR base e A w' → Below base w w' → (isFl o = true → (mm (j + 1)).t.get (kk j) = none) → DF base N ops nn F0 vs mm kk e0 w0 (listed.setIfInBounds j true) (a.put o.dst v') w' s e M A := fun {v' w' A' e'} hm hA he hv hmr hb hno =>
      h.step hd ho hun hpre hstep.put (fun _ _ h => h) hv hmr hb h.mem h.sub (.inl ⟨hm, rfl⟩) (fun i u hu hf _ hl => h.fre i u hu hf hl) (fun i u hu hf hl hsi X hX => by
        rcases hl with rfl | hl
        · rw [ho] at hu
          injection hu with hu
          subst hu
          rw [hno hf] at hX
          cases hX
        · exact h.blk i u hu hf hl hsi X hX) h.ext
    rcases hstep.run with ⟨hw, hvu, hmj⟩ | ⟨hw, hfl, cs, T, sz, hev, hmj⟩ | ⟨hw, hfl, hrun⟩
    · rw [h.wanted hr hd ho hun hpre hw]
      simp only [Bool.false_eq_true, if_false]
      have hemp : isFl o = true → (mm (j + 1)).t.get (kk j) = none := fun hf => by
        rw [hmj]
        exact hr.emp j (by omega) _ (Nat.le_refl _) (hkl j o ho hf)
      cases hm : isMn o with
      | false => exact flt_any hcall hcle hr hd hN hk0 hQ fuel _ _ w s e M A hleft (keep hm rfl rfl (by rw [hvu]; exact V3.undef e) h.mr (Below.refl _ _) hemp)
      | true =>
        obtain ⟨hnf, hch⟩ := mn_not_fl hm
        have hse : mcnt ops j = s := by
          have h2 := hsj hch
          have h3 : ¬ s < mcnt ops j := fun hlt2 => by
            obtain ⟨i, u, hi, hu, hmu, he⟩ := mfind hlt2
            have := (h.row i u hu hmu).1 (hpre i (hd.main i j u o hu ho hm (mn_not_fl hmu).2 hi))
            omega
          omega
        obtain ⟨g1, g2⟩ := h.agree hr hc3 j (hc4 j (by omega)) (by omega) hc2 hse
        have hle : ML (mm j) A := ⟨by rw [h.sub.nx, g1], fun b X hb => g2 b X (.inl fun q u hq hu hfu _ => hpre q (hd.main q j u o hu ho hm (fl_chg hfu) hq)) hb⟩
        have hmm := mcnt_succ ho
        rw [hm, hse] at hmm
        have hs1 : s + 1 ≤ mcnt ops ops.size := by
          have := mcnt_mono (ops := ops) (i := j + 1) (j := ops.size) hlt
          simp at hmm
          omega
        have hnx := hr.main j o ho hm
        rw [hse] at hnx
        exact flt_any hcall hcle hr hd hN hk0 hQ fuel _ _ w (s + 1) e (mm (j + 1)) A hleft (h.step hd ho hun hpre hstep.put (fun _ _ h => h) (by rw [hvu]; exact V3.undef e) h.mr (Below.refl _ _) hnx (by rw [hmj]; exact hle) (.inr ⟨hm, rfl, hse, hs1⟩)
          (fun i u hu hf _ hl => h.fre i u hu hf hl) (fun i u hu hf hl hsi X hX => by
            rcases hl with rfl | hl
            · rw [ho] at hu
              injection hu with hu
              subst hu
              rw [hnf] at hf
              cases hf
            · exact h.blk i u hu hf hl (by omega) X hX) h.ext)
    · rw [h.wanted hr hd ho hun hpre hw]
      simp only [if_true]
      left
      obtain ⟨v', cs', hrn, hok, hl1, hv3⟩ : FreePost P o a e w (kk j) (vs j) cs T sz := sound_free hfl hev hgood
      have hfree := h.fre j o ho hfl hun
      have hkj := hkl j o ho hfl
      have hmr := h.mr.allocAt (T := T) hfree hok hl1 (n := A.nx) (Nat.le_refl _) (by omega)
      have hm : isMn o = false := by unfold isMn; rw [hfl]; simp
      have hcj : c ≤ j := hc4 j (hsj (fl_chg hfl))
      refine hrn.wp (flt_any hcall hcle hr hd hN hk0 hQ fuel _ _ _ s (e.put (kk j) (w.heap.size, 0) A.nx) M ⟨A.t.set (kk j) (some ⟨cs, T, sz⟩), A.nx⟩ hleft (h.step hd ho hun hpre hstep.put (env_up hfree _ _) (hv3 _ (env_new _ _ _ _)) hmr ((Below.refl _ _).alloc h.mr.bs _) h.mem ⟨h.sub.nx, fun b X hb => ?_⟩ (.inl ⟨hm, rfl⟩) (fun i u hu hf hij hl => ?_) (fun i u hu hf hl hsi X hX => ?_) ⟨fun b p hb => env_up hfree _ _ b p (h.ext.up b p hb), ?_, fun b hb hb0 => ?_⟩))
      · have hbk : kk j ≠ b := fun hbk => by
          subst hbk
          rw [← hc3, hr.emp c hc1 _ (hr.kmono hcj (by omega)) hkj] at hb
          cases hb
        simp only
        rw [Tr.set_other _ _ hbk]
        exact h.sub.get b X hb
      · rw [env_old e _ _ (fun e2 => hkne i u hu hf hfl hij e2.symm)]
        exact h.fre i u hu hf hl
      · simp only
        by_cases hij : i = j
        · subst hij
          rw [hmj] at hX
          simp only [Tr.set_self] at hX ⊢
          exact hX
        · rw [Tr.set_other _ _ (hkne i u hu hf hfl hij)]
          exact h.blk i u hu hf (hl.resolve_left hij) hsi X hX
      · have := h.ext.n
        simp only [Env.put]
        omega
      · have h2 := hr.kmono (i := 0) (j := j) (Nat.zero_le _) (by omega)
        rw [env_old e _ _ (by omega)]
        exact h.ext.old b hb hb0
    · rw [h.wanted hr hd ho hun hpre hw]
      simp only [if_true]
      left
      cases hc : isChg o with
      | true =>
        have hm : isMn o = true := by unfold isMn; rw [hfl, hc]; rfl
        have hse : mcnt ops j = s := by
          have h2 := hsj hc
          have h3 : ¬ s < mcnt ops j := fun hlt2 => by
            obtain ⟨i, u, hi, hu, hmu, he⟩ := mfind hlt2
            have := (h.row i u hu hmu).1 (hpre i (hd.main i j u o hu ho hm (mn_not_fl hmu).2 hi))
            omega
          omega
        obtain ⟨g1, g2⟩ := h.agree hr hc3 j (hc4 j (by omega)) (by omega) hc2 hse
        have hle : ML (mm j) A := ⟨by rw [h.sub.nx, g1], fun b X hb => g2 b X (.inl fun q u hq hu hfu _ => hpre q (hd.main q j u o hu ho hm (fl_chg hfu) hq)) hb⟩
        have hmm := mcnt_succ ho
        rw [hm, hse] at hmm
        have hs1 : s + 1 ≤ mcnt ops ops.size := by
          have := mcnt_mono (ops := ops) (i := j + 1) (j := ops.size) hlt
          simp at hmm
          omega
        have hnx := hr.main j o ho hm
        rw [hse] at hnx
        have go : ∀ {v' : Value} {w' : World} {e' : Env} {A' : Mem}, Beside (mm j) A (mm (j + 1)) A' → Ext e e' → V3 e' (vs j) v' → MR base e' A' w' → Below base w w' → wpAny P .any ops Q fuel (listed.setIfInBounds j true) (a.put o.dst v') w' := fun {v' w' e' A'} hbs hx hv hmr hb =>
          flt_any hcall hcle hr hd hN hk0 hQ fuel _ _ w' (s + 1) e' (mm (j + 1)) A' hleft (h.step hd ho hun hpre hstep.put hx.up hv hmr hb hnx hbs.le (.inr ⟨hm, rfl, hse, hs1⟩)
            (fun i u hu hf _ hl => hx.old _ (by have := hkl i u hu hf; omega) (h.fre i u hu hf hl)) (fun i u hu hf hl hsi X hX => by
              rcases hl with rfl | hl
              · rw [ho] at hu
                injection hu with hu
                subst hu
                rw [hfl] at hf
                cases hf
              · have h2 := h.blk i u hu hf hl (by omega) X hX
                have h3 := hkl i u hu hf
                have hij : j ≤ i := by
                  rcases Nat.lt_or_ge i j with h4 | h4
                  · have := mcnt_mono (ops := ops) (i := i) (j := j) (by omega); omega
                  · exact h4
                have hi := (Array.getElem?_eq_some_iff.1 hu).1
                exact hbs.keep _ X (by have := hr.kn j (by omega); omega) (hr.emp j (by omega) _ (hr.kmono hij (by omega)) h3) h2) (h.ext.trans hx))
        rcases hrun with ⟨out, m, hev, hout, hmj, _⟩ | ⟨f, args, hev, _, hcl⟩
        · obtain ⟨hev2, hok⟩ := evalOp_mono hle hev
          have key : OpPost P base o a e w (vs j) (m.apply A) ∧ EffOk (mm j) m := by
            rcases hout with ⟨rfl, rfl⟩ | rfl
            · exact ⟨evalOp_sound hev2 hgood h.mr, trivial⟩
            · exact ⟨evalOp_sound hev2 hgood h.mr, hok⟩
          obtain ⟨⟨v', w', e', hrn, g1, g2, g3, g4⟩, hok⟩ := key
          refine hrn.wp (go ?_ g1 g2 g3 g4)
          rw [hmj]
          exact Beside.eff hle hok
        · obtain ⟨hev2, _⟩ := evalOp_mono hle hev
          obtain ⟨A', hcl2, hbs⟩ := hcle f args (mm j) A (vs j) (mm (j + 1)) hle hcl
          have hcr : OutPost P base o a e w A (.call f args) := evalOp_sound hev2 hgood h.mr
          obtain ⟨args', hrn, g0⟩ := hcr
          exact Oper.wp_call hrn (hcall f args _ _ _ hcl2 e w args' g0 h.mr) fun v' e' w' g1 g2 g3 g4 => go hbs g1 g2 g3 g4
      | false =>
        have hm : isMn o = false := by unfold isMn; rw [hc]; rfl
        rcases hrun with ⟨out, m, hev, hout, hmj, hnc⟩ | ⟨f, args, hev, hc2, _⟩
        · obtain ⟨hno, hrd⟩ := hnc hc
          subst hno
          have hbase : evalOp P o (fr j) (mm j) = some (.w (vs j)) ∨ evalOp P o (fr j) (mm j) = some (.v (vs j) .no) := by
            rcases hout with ⟨rfl, _⟩ | rfl
            · exact .inl hev
            · exact .inr hev
          have hev2 : evalOp P o (fr j) A = some (.w (vs j)) ∨ evalOp P o (fr j) A = some (.v (vs j) .no) := by
            cases hrr : isRd o with
            | false => rw [still_mem (M' := mm j) hc hrr]; exact hbase
            | true =>
              have hmem := hrd hrr
              have hok := List.all_eq_true.1 hr.ok _ hmem
              have hsl : s < nn.length := (List.getElem?_eq_some_iff.1 h.mem).1
              have hoks := List.all_eq_true.1 hok s (List.mem_range.2 hsl)
              simp only [Bool.or_eq_true, Bool.not_eq_true'] at hoks
              rcases hoks with (h5 | h5) | h5
              · have h6 := Nat.eq_of_beq_eq_true h5
                obtain ⟨g1, g2⟩ := h.agree hr hc3 j (hc4 j (by omega)) (by omega) hc2 h6.symm
                have loc : ∀ {out : Out}, evalOp P o (fr j) (mm j) = some out → evalOp P o (fr j) A = some out := fun {out} he => by
                  obtain ⟨x, b, f, X, hx, hxo, hX, hall⟩ := load_local hrr he
                  have hvx := hgood x hx _ hxo
                  obtain ⟨b', d, hb, _⟩ := hvx.ptr
                  exact hall A (g2 b X (.inr (by rw [hb]; simp)) hX)
                rcases hbase with hb | hb
                · exact .inl (loc hb)
                · exact .inr (loc hb)
              · exfalso
                have hallow : allowedF ops (masks ops.toList []) s j = true := by
                  unfold allowedF allOps
                  rw [List.all_eq_true]
                  intro i hi
                  cases hu : ops[i]? with
                  | none => rfl
                  | some u =>
                    simp only
                    cases hcu : isMn u with
                    | false => rfl
                    | true =>
                      simp only [Bool.not_true, Bool.false_or, Bool.and_eq_true, Bool.or_eq_true, Bool.not_eq_true']
                      refine ⟨?_, ?_⟩
                      · cases hb : bit ((masks ops.toList []).getD j 0) i with
                        | false => exact .inl rfl
                        | true => exact .inr (Nat.ble_eq_true_of_le ((h.row i u hu hcu).1 (hpre i (masks_all ops j i hb))))
                      · cases hb : bit ((masks ops.toList []).getD i 0) j with
                        | false => exact .inl rfl
                        | true =>
                          right
                          cases hdn : Nat.blt (mcnt ops i) s with
                          | false => rfl
                          | true =>
                            have := h.down i j ((h.row i u hu hcu).2 (Nat.le_of_ble_eq_true hdn)) (masks_all ops i j hb)
                            rw [hun] at this
                            cases this
                rw [hallow] at h5
                cases h5
              · rw [h.mem] at h5
                rcases sameOut_eq h5 with h6 | h6
                · exact .inl (evalOp_mono h.sub h6).1
                · exact .inr (evalOp_mono h.sub h6).1
          have key : OpPost P base o a e w (vs j) A := by
            rcases hev2 with hev2 | hev2
            · exact evalOp_sound hev2 hgood h.mr
            · exact evalOp_sound hev2 hgood h.mr
          obtain ⟨v', w', e', hrn, g1, g2, g3, g4⟩ := key
          exact hrn.wp (flt_any hcall hcle hr hd hN hk0 hQ fuel _ _ w' s e' M A hleft (h.step hd ho hun hpre hstep.put g1.up g2 g3 g4 h.mem h.sub (.inl ⟨hm, rfl⟩) (fun i u hu hf _ hl => g1.old _ (by have := hkl i u hu hf; omega) (h.fre i u hu hf hl)) (fun i u hu hf hl hsi X hX => by
            rcases hl with rfl | hl
            · rw [ho] at hu
              injection hu with hu
              subst hu
              rw [hfl] at hf
              cases hf
            · exact h.blk i u hu hf hl hsi X hX) (h.ext.trans g1)))
        · rw [hc] at hc2
          cases hc2
end
end Go.Proofs.YthldmlfpebgojaaGreatDoor
