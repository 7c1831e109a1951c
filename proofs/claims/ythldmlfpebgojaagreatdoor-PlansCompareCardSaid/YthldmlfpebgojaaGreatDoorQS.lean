/-
  A drawn region whose allocs and literal slices may run at any time is the program's.
  No condition.
-/
import Derived.Test.YthldmlfpebgojaaGreatDoorQC
namespace Go.Proofs.YthldmlfpebgojaaGreatDoor
set_option linter.unusedSimpArgs false
set_option linter.unusedVariables false
open Go.RowKit Go

theorem MR.sub {base : Nat} {e : Env} {M A : Mem} {w : World} (h : MR base e A w) (hM : ML M A) : MR base e M w :=
  ⟨h.bs, ⟨h.len.1.trans hM.nx, fun b hb => h.len.2 b (by rw [hM.nx]; exact hb)⟩, h.low, fun b B hB => h.blk b B (hM.get b B hB), fun b B hB => h.ro b B (hM.get b B hB), fun b c b' c' d f B C hB hC => h.inj b c b' c' d f B C (hM.get b B hB) (hM.get c C hC)⟩
/-- Numbers are kept for later. -/
theorem MR.bump {base : Nat} {e : Env} {M : Mem} {w : World} (h : MR base e M w) (k : Nat) : MR base ⟨e.f, e.n + k⟩ ⟨M.t, M.nx + k⟩ w :=
  ⟨h.bs, ⟨by simp only [h.len.1], fun b hb => h.len.2 b (by simp only at hb; omega)⟩, h.low, fun b B hB hz => by
    obtain ⟨b', d, cs, sp, h1, h2, h3⟩ := h.blk b B hB hz
    exact ⟨b', d, cs, sp, h1, h2.imp fun _ _ h => h.ext' fun _ _ h => h, h3⟩, fun b B hB hz => by
    obtain ⟨b', d, h1, h2, h3⟩ := h.ro b B hB hz
    refine ⟨b', d, h1, h2, fun i u hu ho => ?_⟩
    obtain ⟨u', h4, h5⟩ := h3 i u hu ho
    exact ⟨u', h4, h5.ext' fun _ _ h => h⟩, h.inj⟩
section
variable {P : Program} {base : Nat} {o : Oper} {a : Act} {e : Env} {w : World} {v : Value} {F : Fr} {t : Tr Blk} {k : Nat} {cs : List Value} {T sz : Nat}
/-- What a free operation does. -/
def FreePost (P : Program) (o : Oper) (a : Act) (e : Env) (w : World) (k : Nat) (v : Value) (cs : List Value) (T sz : Nat) : Prop :=
  ∃ v' cs', Runs P o a w v' (w.alloc (.cells cs'.toArray T)) ∧ newOk cs sz = true ∧ L1 (V1 e) cs cs' ∧ ∀ e' : Env, e'.f k = some (w.heap.size, 0) → V3 e' v v'
theorem free_alloc {U : TypeId} (ho : o.op = .alloc U) (h : evAlloc P U ⟨t, k⟩ = some (.v v (.new cs T sz))) : FreePost P o a e w k v cs T sz := by
  unfold evAlloc at h
  split at h
  case h_2 => cases h
  rename_i z hz
  split at h
  case h_2 => cases h
  rename_i c hcs
  obtain ⟨hok, h⟩ := some_bif h
  injection h with h1 h2
  injection h2 with h2 h3 h4
  subst h1 h2 h3 h4
  simp only [Bool.and_eq_true] at hok
  have hzc : z.cells = cs.toArray := by
    cases z <;> simp [cellsOf] at hcs <;> subst hcs <;> simp [Value.cells]
  have hr : (Instr.alloc T true (.tuple #[])).run P w = .ok (.pointer (some ⟨w.heap.size, 0, none⟩)) (w.alloc (.cells cs.toArray T)) := by
    simp [Instr.alloc, Sem.run_bind, quick_run hz w, newVar, newRow, hzc]
  exact ⟨_, cs, runs_of (by simp only [execOp, ho]) hr, hok.2, all_plain e hok.1, fun e' he => .two (.one (.ptr he))⟩
theorem free_build {U : TypeId} {len : Nat} {parts : Array (Nat × Operand)} (ho : o.op = .buildSlice U len parts) (h : evBuildSlice P U len parts F ⟨t, k⟩ = some (.v v (.new cs T sz))) (hF : Good o F e a) : FreePost P o a e w k v cs T sz := by
  unfold evBuildSlice at h
  split at h
  case h_2 => cases h
  rename_i vs hvs
  split at h
  case h_2 => cases h
  rename_i el hT
  split at h
  case h_2 => cases h
  rename_i sz' z hsz hz
  obtain ⟨hok, h⟩ := cond_run h
  simp only [Bool.and_eq_true] at hok
  obtain ⟨⟨⟨⟨hzp, hl0⟩, hs0⟩, hsm⟩, hcells⟩ := hok
  have hl0 := Nat.le_of_ble_eq_true hl0
  have hs0 := Nat.le_of_ble_eq_true hs0
  have hsm' := Nat.le_of_ble_eq_true hsm
  split at h
  case h_2 => cases h
  rename_i rs hcs
  obtain ⟨hcl, h⟩ := some_bif h
  injection h with g1 g2
  injection g2 with g2 g3 g4
  subst g1 g2 g3 g4
  have hcl := Nat.eq_of_beq_eq_true hcl
  have hv := opvs_good (a := a) (e := e) hvs (fun x hx v hv => hF x (by simpa [Op.operands, ho] using hx) v hv)
  obtain ⟨rs', h1, h2⟩ := fill_sound parts.toList hv hcells (all_plain e hzp) hcs
  have hne : ¬ len * sz = 0 := by
    have := Nat.mul_pos hl0 hs0
    omega
  have hnb : ¬ len * sz > 2 ^ 24 := by omega
  have hrun : (Instr.buildSlice U len (parts.map fun (i, x) => (i, a.eval x))).run P w = .ok (.slice (some ⟨w.heap.size, 0, none⟩) len len) (w.alloc (.cells rs'.toList.toArray T)) := by
    have h1' : Instr.fill (fun i => some (i * sz, sz)) ((Array.range (len * sz)).map (z.cells[· % z.cells.size]!)) (parts.map fun p => (p.1, a.eval p.2)).toList = some rs' := by
      rw [Array.toList_map]; exact h1
    simp only [Instr.buildSlice, Sem.run_bind, quick_run hT w]
    simp only [Result.andThen_ok, Sem.run_bind, quick_run hsz w, hnb, if_false, hne, quick_run hz w]
    simp [h1, newRow, Sem.run_bind, quick_run hz w]
  refine ⟨_, rs'.toList, runs_of (by simp only [execOp, ho]) hrun, ?_, h2, fun e' he => ?_⟩
  · unfold newOk
    rw [Bool.and_eq_true]
    exact ⟨Nat.ble_eq_true_of_le hs0, by rw [hcl]; exact Nat.ble_eq_true_of_le (Nat.le_trans (Nat.le_of_ble_eq_true hsm) (by decide))⟩
  · have := V1.slc (o := 0) (n := len) (c := len) he
    exact .two (.one (by simpa using this))
theorem free_build0 {U : TypeId} {parts : Array (Nat × Operand)} (ho : o.op = .buildSlice U 0 parts) (h : evBuild0 P U parts = some (.v v (.new cs T sz))) : FreePost P o a e w k v cs T sz := by
  unfold evBuild0 at h
  split at h
  case h_2 => cases h
  rename_i hp
  split at h
  case h_2 => cases h
  rename_i el hT
  split at h
  case h_2 => cases h
  rename_i sz' hsz
  obtain ⟨hs0, h⟩ := some_bif h
  injection h with g1 g2
  injection g2 with g2 g3 g4
  subst g1 g2 g3 g4
  have hp' : parts = #[] := Array.toList_inj.1 (by rw [hp])
  subst hp'
  have hrun : (Instr.buildSlice U 0 ((#[] : Array (Nat × Operand)).map fun (i, x) => (i, a.eval x))).run P w = .ok (.slice (some ⟨w.heap.size, 0, none⟩) 0 0) (w.alloc (.cells #[] T)) := by
    simp only [Instr.buildSlice, Sem.run_bind, quick_run hT w]
    simp only [Result.andThen_ok, Sem.run_bind, quick_run hsz w]
    simp [newRow, Sem.run_bind, Instr.fill]
    rw [show Array.range 0 = #[] from Array.toList_inj.1 (by simp), Array.map_empty]
  refine ⟨_, [], runs_of (by simp only [execOp, ho]) hrun, ?_, .nil, fun e' he => .two (.one .emp)⟩
  unfold newOk
  rw [Bool.and_eq_true]
  exact ⟨hs0, rfl⟩
theorem free_buildSl {U : TypeId} {len : Nat} {parts : Array (Nat × Operand)} (ho : o.op = .buildSlice U len parts) (h : evBuildSl P U len parts F ⟨t, k⟩ = some (.v v (.new cs T sz))) (hF : Good o F e a) : FreePost P o a e w k v cs T sz := by
  unfold evBuildSl at h
  cases hl : Nat.beq len 0 with
  | true =>
    rw [hl] at h
    obtain rfl := Nat.eq_of_beq_eq_true hl
    exact free_build0 ho h
  | false =>
    rw [hl] at h
    exact free_build ho h hF
theorem sound_free (hf : isFl o = true) (h : evalOp P o F ⟨t, k⟩ = some (.v v (.new cs T sz))) (hF : Good o F e a) : FreePost P o a e w k v cs T sz := by
  unfold isFl at hf
  unfold evalOp at h
  split at hf
  · rename_i U ho
    rw [ho] at h
    exact free_alloc ho h
  · rename_i U len parts ho
    rw [ho] at h
    exact free_buildSl ho h hF
  · cases hf
end
/-- A load looks at its block alone. -/
theorem load_local {P : Program} {o : Oper} {F : Fr} {M : Mem} {out : Out} (hr : isRd o = true) (h : evalOp P o F M = some out) : ∃ x b f X, x ∈ o.op.operands.toList ∧ opv F x = some (.pointer (some ⟨b, f, none⟩)) ∧ M.t.get b = some X ∧ ∀ M' : Mem, M'.t.get b = some X → evalOp P o F M' = some out := by
  unfold isRd at hr
  split at hr
  case h_2 => cases hr
  rename_i T x ho
  unfold evalOp at h ⊢
  rw [ho] at h ⊢
  simp only at h ⊢
  unfold evLoad at h ⊢
  split at h
  case h_2 => cases h
  rename_i b f hx
  have key : ∀ {n : Nat} {cs : List Value}, rd M b f n = some cs → ∃ X, M.t.get b = some X ∧ ∀ M' : Mem, M'.t.get b = some X → rd M' b f n = some cs := fun {n cs} hrd => by
    unfold rd at hrd
    cases hX : M.t.get b with
    | none => rw [hX] at hrd; cases hrd
    | some X =>
      rw [hX] at hrd
      refine ⟨X, rfl, fun M' hM' => ?_⟩
      unfold rd
      rw [hM']
      exact hrd
  split at h
  · rename_i ha
    split at h
    case h_2 => cases h
    rename_i n hn
    split at h
    case h_2 => cases h
    rename_i cs hcs
    obtain ⟨X, h1, h2⟩ := key hcs
    refine ⟨x, b, f, X, by simp [Op.operands], hx, h1, fun M' hM' => ?_⟩
    simp only [hx, h2 M' hM']
    exact h
  · rename_i ha
    split at h
    case h_2 => cases h
    rename_i c hcs
    obtain ⟨X, h1, h2⟩ := key hcs
    refine ⟨x, b, f, X, by simp [Op.operands], hx, h1, fun M' hM' => ?_⟩
    simp only [hx, h2 M' hM']
    exact h
  · cases h
theorem mcnt_succ {ops : Array Oper} {j : Nat} {o : Oper} (h : ops[j]? = some o) : mcnt ops (j + 1) = mcnt ops j + if isMn o then 1 else 0 := by
  unfold mcnt
  have hl : ops.toList[j]? = some o := by simpa using h
  rw [List.take_add_one, hl]
  cases hc : isMn o <;> simp [List.filter_append, hc]
theorem mcnt_mono {ops : Array Oper} {i : Nat} : ∀ {j : Nat}, i ≤ j → mcnt ops i ≤ mcnt ops j
  | 0, h => by rw [Nat.le_zero.1 h]; exact Nat.le_refl _
  | j + 1, h => by
    by_cases hij : i = j + 1
    · rw [hij]; exact Nat.le_refl _
    · refine Nat.le_trans (mcnt_mono (j := j) (by omega)) ?_
      cases ho : ops[j]? with
      | some o => rw [mcnt_succ ho]; omega
      | none =>
        have hsz : ops.toList.length ≤ j := by
          rw [Array.length_toList]
          exact Array.getElem?_eq_none_iff.1 ho
        unfold mcnt
        rw [List.take_of_length_le hsz, List.take_of_length_le (Nat.le_succ_of_le hsz)]
        exact Nat.le_refl _
section
variable {P : Program} {call : CallE} {N : Nat} {ops : Array Oper}
/-- What the run in the text's order shows of an operation. -/
structure FStep (P : Program) (call : CallE) (N : Nat) (ops : Array Oper) (lds : List Ld) (fr : Nat → Fr) (vs : Nat → Value) (mm : Nat → Mem) (kk : Nat → Nat) (j : Nat) (o : Oper) : Prop where
  put : PutRel (fr j) o.dst (vs j) (fr (j + 1)) N
  num : kk (j + 1) = bif isFl o then kk j + 1 else kk j
  run : (wantedE ops o (fr j) = some false ∧ vs j = undef ∧ mm (j + 1) = mm j) ∨
    (wantedE ops o (fr j) = some true ∧ isFl o = true ∧ ∃ cs T sz, evalOp P o (fr j) ⟨(mm j).t, kk j⟩ = some (.v (vs j) (.new cs T sz)) ∧ mm (j + 1) = ⟨(mm j).t.set (kk j) (some ⟨cs, T, sz⟩), (mm j).nx⟩) ∨
    (wantedE ops o (fr j) = some true ∧ isFl o = false ∧ ((∃ out m, evalOp P o (fr j) (mm j) = some out ∧ ((out = .w (vs j) ∧ m = .no) ∨ out = .v (vs j) m) ∧ mm (j + 1) = m.apply (mm j) ∧
        (isChg o = false → m = .no ∧ (isRd o = true → (⟨j, mcnt ops j, o, fr j, vs j⟩ : Ld) ∈ lds))) ∨
      (∃ f args, evalOp P o (fr j) (mm j) = some (.call f args) ∧ isChg o = true ∧ call f args (mm j) = some (vs j, mm (j + 1)))))
abbrev FEnd (P : Program) (call : CallE) (N : Nat) (ops : Array Oper) (l : List Oper) (j : Nat) (F : Fr) (M : Mem) (lds : List Ld) (mems : List Mem) (k : Nat) (F1 : Fr) (M1 : Mem) : Prop :=
    ∃ (lds1 : List Ld) (ext : List Mem) (fr : Nat → Fr) (vs : Nat → Value) (mm : Nat → Mem) (kk : Nat → Nat), fr j = F ∧ mm j = M ∧ kk j = k ∧ fr (j + l.length) = F1 ∧ mm (j + l.length) = M1 ∧ (∀ ld ∈ lds, ld ∈ lds1) ∧ lds1.all (ldOkF P ops (masks ops.toList []) (ext ++ mems).reverse) = true ∧
      (ext ++ mems).length = mcnt ops (j + l.length) + 1 ∧
      (∀ i o, l[i]? = some o → isMn o = true → (ext ++ mems).reverse[mcnt ops (j + i) + 1]? = some (mm (j + i + 1))) ∧
      ∀ i o, l[i]? = some o → FStep P call N ops lds1 fr vs mm kk (j + i) o
theorem frun (hN : N ≤ 512) : ∀ (l : List Oper) (j : Nat) {F : Fr} {M : Mem} {lds : List Ld} {mems : List Mem} {k : Nat} {F1 : Fr} {M1 : Mem}, (∀ i, i < l.length → ops[j + i]? = l[i]?) → evalFltL P call N ops l F M lds mems j k = some (F1, M1) → mems.length = mcnt ops j + 1 →
    FEnd P call N ops l j F M lds mems k F1 M1
  | [], j, F, M, lds, mems, k, F1, M1, _, h, hlen => by
    change endF P ops F M lds mems j k = _ at h
    unfold endF at h
    obtain ⟨hok, heq⟩ := some_bif h
    injection heq with h1 h2
    subst h1 h2
    exact ⟨lds, [], fun _ => F1, fun _ => undef, fun _ => M1, fun _ => k, rfl, rfl, rfl, rfl, rfl, fun _ h => h, hok, hlen, fun i o hi => by simp at hi, fun i o hi => by simp at hi⟩
  | o :: l, j, F, M, lds, mems, k, F1, M1, hl, h, hlen => by
    have ho : ops[j]? = some o := by simpa using hl 0 (by simp)
    have hl' : ∀ i, i < l.length → ops[j + 1 + i]? = l[i]? := fun i hi => by
      have := hl (i + 1) (by simp; omega)
      rw [show j + 1 + i = j + (i + 1) by omega]
      simpa using this
    have hcs := mcnt_succ ho
    have fin : ∀ {F' : Fr} {M' : Mem} {v : Value} {lds' : List Ld} {pre : List Mem} {k' : Nat}, evalFltL P call N ops l F' M' lds' (pre ++ mems) (j + 1) k' = some (F1, M1) → (pre ++ mems).length = mcnt ops (j + 1) + 1 → (isMn o = true → pre = [M']) →
        (∀ ld ∈ lds, ld ∈ lds') → PutRel F o.dst v F' N → (k' = bif isFl o then k + 1 else k) → (∀ lds1 : List Ld, (∀ ld ∈ lds', ld ∈ lds1) → ((wantedE ops o F = some false ∧ v = undef ∧ M' = M) ∨
    (wantedE ops o F = some true ∧ isFl o = true ∧ ∃ cs T sz, evalOp P o F ⟨M.t, k⟩ = some (.v v (.new cs T sz)) ∧ M' = ⟨M.t.set k (some ⟨cs, T, sz⟩), M.nx⟩) ∨
    (wantedE ops o F = some true ∧ isFl o = false ∧ ((∃ out m, evalOp P o F M = some out ∧ ((out = .w v ∧ m = .no) ∨ out = .v v m) ∧ M' = m.apply M ∧
        (isChg o = false → m = .no ∧ (isRd o = true → (⟨j, mcnt ops j, o, F, v⟩ : Ld) ∈ lds1))) ∨
      (∃ f args, evalOp P o F M = some (.call f args) ∧ isChg o = true ∧ call f args M = some (v, M')))))) →
        FEnd P call N ops (o :: l) j F M lds mems k F1 M1 := by
      intro F' M' v lds' pre k' hrest hlen' hchg hsub hput hk hrun
      obtain ⟨lds1, ext, fr, vs, mm, kk, e1, e2, e2', e3, e4, e5, e6, e8, e9', e9⟩ := frun hN l (j + 1) hl' hrest hlen'
      have hadd : ∀ k, j + 1 + k = j + (k + 1) := fun k => by omega
      have hj1 : ¬ (j + 1 = j) := by omega
      refine ⟨lds1, ext ++ pre, fun i => if i = j then F else fr i, fun i => if i = j then v else vs i, fun i => if i = j then M else mm i, fun i => if i = j then k else kk i, by simp, by simp, by simp, ?_, ?_, fun ld h => e5 ld (hsub ld h), by simpa using e6, ?_, fun i o' hk hc => ?_, fun i o' hk => ?_⟩
      · have : ¬ (j + (o :: l).length = j) := by simp
        simp only [this, if_false]
        rw [List.length_cons, ← hadd]
        exact e3
      · have : ¬ (j + (o :: l).length = j) := by simp
        simp only [this, if_false]
        rw [List.length_cons, ← hadd]
        exact e4
      · rw [List.length_cons, ← hadd, List.append_assoc]
        exact e8
      · cases i with
        | zero =>
          obtain rfl := some_eq hk
          simp only [Nat.add_zero, hj1, if_false]
          have hp := hchg hc
          subst hp
          rw [e2, List.append_assoc]
          rw [List.reverse_append, List.reverse_append, List.append_assoc]
          rw [List.getElem?_append_right (by simp [hlen])]
          simp [hlen]
        | succ i =>
          have n2 : ¬ (j + (i + 1) + 1 = j) := by omega
          simp only [n2, if_false]
          rw [← hadd, List.append_assoc]
          exact e9' i o' (by simpa using hk) hc
      · cases i with
        | zero =>
          obtain rfl := some_eq hk
          refine ⟨?_, ?_, ?_⟩
          · simp only [Nat.add_zero, if_true, hj1, if_false, e1]
            exact hput
          · simp only [Nat.add_zero, if_true, hj1, if_false, e2']
            assumption
          · simp only [Nat.add_zero, if_true, hj1, if_false, e2]
            exact hrun lds1 e5
        | succ i =>
          have h9 := e9 i o' (by simpa using hk)
          rw [hadd] at h9
          have n1 : ¬ (j + (i + 1) = j) := by omega
          have n2 : ¬ (j + (i + 1) + 1 = j) := by omega
          refine ⟨?_, ?_, ?_⟩
          · simp only [n1, n2, if_false]
            exact h9.put
          · simp only [n1, n2, if_false]
            exact h9.num
          · simp only [n1, n2, if_false]
            exact h9.run
    change opF P call N ops o (evalFltL P call N ops l) F M lds mems j k = _ at h
    have pr : ∀ {v : Value} {F' : Fr}, putF N F o.dst v = some F' → PutRel F o.dst v F' N := fun {v F'} hp => by
      unfold putF at hp
      cases hd : o.dst with
      | none =>
        rw [hd] at hp
        exact .inl ⟨rfl, (some_eq hp)⟩
      | some t =>
        rw [hd] at hp
        simp only at hp
        cases hb : Nat.blt t N with
        | false => rw [hb] at hp; cases hp
        | true =>
          rw [hb] at hp
          obtain rfl := some_eq hp
          have hlt : t < N := Nat.le_of_ble_eq_true hb
          obtain ⟨F2, h1, h2, h3⟩ := frPut_eq F (k := t) (Nat.lt_of_lt_of_le hlt hN) (some v) id
          refine .inr ⟨t, rfl, hlt, ?_⟩
          rw [h1]
          exact ⟨h2, h3⟩
    have mnf : isFl o = false → isMn o = isChg o := fun hf => by unfold isMn; rw [hf]; simp
    unfold opF at h
    split at h
    · rename_i hw
      cases hf : isFl o with
      | true =>
        rw [hf] at h
        simp only [cond_true] at h
        unfold freeF at h
        split at h
        case h_2 => cases h
        rename_i v cs T sz hev
        simp only [fV_eq, putFK_eq, fVs_eq, Tr.putK_set, fNat_eq] at h
        obtain ⟨F', hp, h⟩ := bind_some h
        have hm : isMn o = false := by unfold isMn; rw [hf]; simp
        rw [hm] at hcs
        exact fin (pre := []) h (by simpa [hcs] using hlen) (fun h => by rw [hm] at h; cases h) (fun _ h => h) (pr hp) (by rw [hf]; rfl) fun lds1 _ => .inr (.inl ⟨hw, hf, cs, T, sz, hev, rfl⟩)
      | false =>
        rw [hf] at h
        simp only [cond_false] at h
        have nd : ∀ {v : Value} {m : Eff} {F' : Fr}, PutRel F o.dst v F' N → (∃ out, evalOp P o F M = some out ∧ ((out = .w v ∧ m = .no) ∨ out = .v v m)) → nextF o F v F' m (m.apply M) lds mems j k (evalFltL P call N ops l) = some (F1, M1) → FEnd P call N ops (o :: l) j F M lds mems k F1 M1 := by
          intro v m F' hp hout h
          unfold nextF at h
          obtain ⟨out, hv, hout⟩ := hout
          cases hc : isChg o with
          | true =>
            rw [hc] at h
            rw [mnf hf, hc] at hcs
            exact fin (pre := [m.apply M]) h (by simp [hlen, hcs]) (fun _ => rfl) (fun _ h => h) hp (by rw [hf]; rfl) fun lds1 hs => .inr (.inr ⟨hw, hf, .inl ⟨_, m, hv, hout, rfl, fun h2 => by rw [hc] at h2; cases h2⟩⟩)
          | false =>
            rw [hc] at h
            rw [mnf hf, hc] at hcs
            simp only [cond_false] at h
            obtain ⟨hno, h⟩ := cond_run h
            have hno := isNo_eq hno
            subst hno
            have hmn : isMn o = true → ([] : List Mem) = [Eff.no.apply M] := fun h => by rw [mnf hf, hc] at h; cases h
            cases hr : isRd o with
            | true =>
              rw [hr] at h
              simp only [cond_true] at h
              have hk : mems.length - 1 = mcnt ops j := by omega
              rw [hk] at h
              exact fin (pre := []) h (by simpa [hcs] using hlen) hmn (fun _ h => List.mem_cons_of_mem _ h) hp (by rw [hf]; rfl) fun lds1 hs => .inr (.inr ⟨hw, hf, .inl ⟨_, .no, hv, hout, rfl, fun _ => ⟨rfl, fun _ => hs _ (.head _)⟩⟩⟩)
            | false =>
              rw [hr] at h
              simp only [cond_false] at h
              exact fin (pre := []) h (by simpa [hcs] using hlen) hmn (fun _ h => h) hp (by rw [hf]; rfl) fun lds1 hs => .inr (.inr ⟨hw, hf, .inl ⟨_, .no, hv, hout, rfl, fun _ => ⟨rfl, fun h => by rw [hr] at h; cases h⟩⟩⟩)
        cases hev : evalOp P o F M with
        | none => rw [hev] at h; cases h
        | some out =>
          rw [hev] at h
          unfold outF at h
          cases out with
          | w v =>
            simp only [putFK_eq] at h
            obtain ⟨F', hp, h⟩ := bind_some h
            exact nd (m := .no) (pr hp) ⟨_, hev, .inl ⟨rfl, rfl⟩⟩ h
          | v v m =>
            simp only [fV_eq, putFK_eq, Eff.applyK_eq] at h
            obtain ⟨F', hp, h⟩ := bind_some h
            exact nd (pr hp) ⟨_, hev, .inr rfl⟩ h
          | call f args =>
            simp only at h
            unfold callF at h
            split at h
            · rename_i v M2 hcall
              simp only [putFK_eq] at h
              obtain ⟨F', hp, h⟩ := bind_some h
              obtain ⟨hc, h⟩ := cond_run h
              rw [mnf hf, hc] at hcs
              exact fin (pre := [M2]) h (by simp [hlen, hcs]) (fun _ => rfl) (fun _ h => h) (pr hp) (by rw [hf]; rfl) fun lds1 hs => .inr (.inr ⟨hw, hf, .inr ⟨f, args, hev, hc, hcall⟩⟩)
            · cases h
    · rename_i hw
      simp only [putFK_eq] at h
      obtain ⟨F', hp, h⟩ := bind_some h
      cases hm : isMn o with
      | true =>
        rw [hm] at h hcs
        have hf : isFl o = false := by
          unfold isMn at hm
          simp only [Bool.and_eq_true, Bool.not_eq_true'] at hm
          exact hm.2
        exact fin (pre := [M]) h (by simp [hlen, hcs]) (fun _ => rfl) (fun _ h => h) (pr hp) (by rw [hf]; rfl) fun lds1 hs => .inl ⟨hw, rfl, rfl⟩
      | false =>
        rw [hm] at h hcs
        simp only [cond_false] at h
        exact fin (pre := []) h (by simpa [hcs] using hlen) (fun h => by rw [hm] at h; cases h) (fun _ h => h) (pr hp) rfl fun lds1 hs => .inl ⟨hw, rfl, rfl⟩
    · cases h
end
end Go.Proofs.YthldmlfpebgojaaGreatDoor
