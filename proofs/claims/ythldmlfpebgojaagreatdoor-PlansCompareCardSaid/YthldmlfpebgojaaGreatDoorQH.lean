/-
  The operations one by one, for open values: those that change the memory, calls, structs.
  No condition.
-/
import Derived.Test.YthldmlfpebgojaaGreatDoorQG
namespace Go.Proofs.YthldmlfpebgojaaGreatDoor
set_option linter.unusedSimpArgs false
set_option linter.unusedVariables false
open Go.RowKit Go

section
variable {P : Program} {N : Nat} {ops : Array Oper} {d : Md} {l : List Oper} {o : Oper} {B : St} {K : Hp} {L : Loc} {Q : PostX} {v : Value} {t : Nat} {M : Mem}
/-- A new block. -/
theorem SM.new (h : SM B K M) (cs : List Value) (T sz : Nat) : SM B (K ++ [some (M.nx, ⟨cs, T, sz⟩)]) (Go.Proofs.YthldmlfpebgojaaGreatDoor.new M cs T sz) := by
  have hb := (Beside.new (ML.refl M) cs T sz)
  have old : ∀ b X, M.t.get b = some X → (Go.Proofs.YthldmlfpebgojaaGreatDoor.new M cs T sz).t.get b = some X := fun b X hx => by
    have := h.wf b X hx
    simp only [Go.Proofs.YthldmlfpebgojaaGreatDoor.new]
    rw [Tr.set_other _ _ (by omega)]
    exact hx
  have nw : (Go.Proofs.YthldmlfpebgojaaGreatDoor.new M cs T sz).t.get M.nx = some ⟨cs, T, sz⟩ := by simp only [Go.Proofs.YthldmlfpebgojaaGreatDoor.new]; exact Tr.set_self _ _ _
  have lst : ∀ (p b : Nat) X, (K ++ [some (M.nx, (⟨cs, T, sz⟩ : Blk))])[p]? = some (some (b, X)) → K[p]? = some (some (b, X)) ∨ (p = K.length ∧ b = M.nx ∧ X = ⟨cs, T, sz⟩) := fun p b X hp => by
    rw [List.getElem?_append] at hp
    split at hp
    · exact .inl hp
    · right
      have hlt := (List.getElem?_eq_some_iff.1 hp).1
      simp only [List.length_cons, List.length_nil] at hlt
      have e : p - K.length = 0 := by omega
      rw [e] at hp
      have hp := some_eq hp
      have hp := some_eq hp
      injection hp with h1 h2
      exact ⟨by omega, h1.symm, h2.symm⟩
  refine ⟨hb.wf h.wf, fun b X hx => old b X (h.old b X hx), fun b X hx => ?_, fun b X hx => ?_, fun p q b X Y hp hq => ?_⟩
  · obtain ⟨p, hp⟩ := mem_at hx
    rcases lst p b X hp with h1 | ⟨_, rfl, rfl⟩
    · exact old b X (h.own b X (at_mem h1))
    · exact nw
  · obtain ⟨p, hp⟩ := mem_at hx
    rcases lst p b X hp with h1 | ⟨_, rfl, rfl⟩
    · exact h.sep b X (at_mem h1)
    · cases hg : B.get M.nx with
      | none => rfl
      | some Y => have := h.wf _ Y (h.old _ Y hg); omega
  · rcases lst p b X hp with h1 | ⟨h1, h2, _⟩ <;> rcases lst q b Y hq with h3 | ⟨h3, h4, _⟩
    · exact h.nd p q b X Y h1 h3
    · have := h.wf b X (h.own b X (at_mem h1)); omega
    · have := h.wf b Y (h.own b Y (at_mem h3)); omega
    · omega
/-- A block of one's own is written anew. -/
theorem SM.put (h : SM B K M) {p b : Nat} {Y Z : Blk} (hp : K[p]? = some (some (b, Y))) : SM B (K.set p (some (b, Z))) ⟨M.t.set b (some Z), M.nx⟩ := by
  have hm := at_mem hp
  have hb := Beside.set (ML.refl M) ⟨Y, h.own b Y hm⟩ (some Z)
  have hpl := (List.getElem?_eq_some_iff.1 hp).1
  have lst : ∀ (q c : Nat) X, (K.set p (some (b, Z)))[q]? = some (some (c, X)) → (q = p ∧ c = b ∧ X = Z) ∨ (q ≠ p ∧ K[q]? = some (some (c, X))) := fun q c X hq => by
    by_cases e : p = q
    · subst e
      rw [List.getElem?_set_self hpl] at hq
      have hq := some_eq (some_eq hq)
      injection hq with h1 h2
      exact .inl ⟨rfl, h1.symm, h2.symm⟩
    · rw [List.getElem?_set_ne e] at hq
      exact .inr ⟨fun e2 => e e2.symm, hq⟩
  refine ⟨hb.wf h.wf, fun c X hx => ?_, fun c X hx => ?_, fun c X hx => ?_, fun q r c X Y' hq hr => ?_⟩
  · have e : b ≠ c := fun e => by subst e; rw [h.sep b Y hm] at hx; cases hx
    simp only
    rw [Tr.set_other _ _ e]
    exact h.old c X hx
  · obtain ⟨q, hq⟩ := mem_at hx
    rcases lst q c X hq with ⟨_, rfl, rfl⟩ | ⟨h1, h2⟩
    · exact Tr.set_self _ _ _
    · have e : b ≠ c := fun e => by subst e; exact h1 (h.nd q p b X Y h2 hp)
      simp only
      rw [Tr.set_other _ _ e]
      exact h.own c X (at_mem h2)
  · obtain ⟨q, hq⟩ := mem_at hx
    rcases lst q c X hq with ⟨_, rfl, rfl⟩ | ⟨h1, h2⟩
    · exact h.sep _ Y hm
    · exact h.sep c X (at_mem h2)
  · rcases lst q c X hq with ⟨h1, h2, _⟩ | ⟨h1, h2⟩ <;> rcases lst r c Y' hr with ⟨h3, h4, _⟩ | ⟨h3, h4⟩
    · omega
    · subst h2; exact absurd (h.nd r p _ _ _ h4 hp) h3
    · subst h4; exact absurd (h.nd q p _ _ _ h2 hp) h1
    · exact h.nd q r c X Y' h2 h4
/-- A block of one's own is given up. -/
theorem SM.kill (h : SM B K M) {p b : Nat} {Y : Blk} (hp : K[p]? = some (some (b, Y))) : SM B (K.set p none) ⟨M.t.set b none, M.nx⟩ := by
  have hm := at_mem hp
  have hb := Beside.set (ML.refl M) ⟨Y, h.own b Y hm⟩ none
  have lst : ∀ (q c : Nat) X, (K.set p none)[q]? = some (some (c, X)) → q ≠ p ∧ K[q]? = some (some (c, X)) := fun q c X hq => by
    by_cases e : p = q
    · subst e
      rw [List.getElem?_set] at hq
      split at hq
      · split at hq <;> simp at hq
      · exact absurd rfl (by assumption)
    · rw [List.getElem?_set_ne e] at hq
      exact ⟨fun e2 => e e2.symm, hq⟩
  refine ⟨hb.wf h.wf, fun c X hx => ?_, fun c X hx => ?_, fun c X hx => ?_, fun q r c X Y' hq hr => h.nd q r c X Y' (lst q c X hq).2 (lst r c Y' hr).2⟩
  · have e : b ≠ c := fun e => by subst e; rw [h.sep b Y hm] at hx; cases hx
    simp only
    rw [Tr.set_other _ _ e]
    exact h.old c X hx
  · obtain ⟨q, hq⟩ := mem_at hx
    obtain ⟨h1, h2⟩ := lst q c X hq
    have e : b ≠ c := fun e => by subst e; exact h1 (h.nd q p b X Y h2 hp)
    simp only
    rw [Tr.set_other _ _ e]
    exact h.own c X (at_mem h2)
  · obtain ⟨q, hq⟩ := mem_at hx
    exact h.sep c X (at_mem (lst q c X hq).2)
/-- Blocks of one's own change their places. -/
theorem SM.move {x : Nat × Blk} (h : SM B (K ++ [some x]) M) {p : Nat} (hp : K[p]? = some none) : SM B (K.set p (some x)) M := by
  have hpl := (List.getElem?_eq_some_iff.1 hp).1
  have lst : ∀ (q c : Nat) X, (K.set p (some x))[q]? = some (some (c, X)) → ∃ r : Nat, (K ++ [some x])[r]? = some (some (c, X)) ∧ (q = p → r = K.length) ∧ (q ≠ p → r = q ∧ q < K.length) := fun q c X hq => by
    by_cases e : p = q
    · subst e
      rw [List.getElem?_set_self hpl] at hq
      exact ⟨K.length, by rw [List.getElem?_append_right (Nat.le_refl _), Nat.sub_self]; exact hq, fun _ => rfl, fun e => absurd rfl e⟩
    · rw [List.getElem?_set_ne e] at hq
      have hlt := (List.getElem?_eq_some_iff.1 hq).1
      exact ⟨q, by rw [List.getElem?_append_left hlt]; exact hq, fun e2 => absurd e2.symm e, fun _ => ⟨rfl, hlt⟩⟩
  refine ⟨h.wf, h.old, fun c X hx => ?_, fun c X hx => ?_, fun q r c X Y hq hr => ?_⟩
  · obtain ⟨q, hq⟩ := mem_at hx
    obtain ⟨r, hr, _⟩ := lst q c X hq
    exact h.own c X (at_mem hr)
  · obtain ⟨q, hq⟩ := mem_at hx
    obtain ⟨r, hr, _⟩ := lst q c X hq
    exact h.sep c X (at_mem hr)
  · obtain ⟨q', h1, h2, h3⟩ := lst q c X hq
    obtain ⟨r', h4, h5, h6⟩ := lst r c Y hr
    have := h.nd q' r' c X Y h1 h4
    by_cases e1 : q = p <;> by_cases e2 : r = p
    · omega
    · have := h2 e1; have := h6 e2; omega
    · have := h3 e1; have := h5 e2; omega
    · have := h3 e1; have := h6 e2; omega
/-- No free operation in a region of that kind. -/
def noFl (d : Md) (o : Oper) : Bool := match d with
  | .f _ _ => !isFl o
  | _ => true
theorem noFl.use (h : noFl d o = true) : (∃ d0 B0, d = .f d0 B0) → isFl o = false := by
  rintro ⟨d0, B0, rfl⟩
  unfold noFl at h
  simpa using h
theorem noFl.of (h : isFl o = false) : noFl d o = true := by
  cases d <;> unfold noFl <;> simp only [h] <;> rfl
/-- The stand after a free operation. -/
def dNew (d : Md) : Md := match d with
  | .o => .o
  | .d d B0 => .d d.chg B0
  | .f d B0 => .f d.inc B0
theorem X.add {R : Value → St → Hp → Prop} (hg : gOk ops o L true) (hd : o.dst = some t) (ht : Nat.blt t N = true) (hnf : noFl d o = true) (ho : OChg P o B K L fun v B1 K1 => ∃ J, K1 = K ++ J ∧ R v B1 J) (hn0 : ∀ d0 B0, d.at d0 B0 → d0.n0 ≤ K.length)
    (h : ∀ v B1 J, Ge B B1 → R v B1 J → X P N ops (dMap d .chg) l B1 (K ++ J) ((t, v) :: L) Q) : X P N ops d (o :: l) B K L Q :=
  fun hN => JX.add hN (noFl.use hnf) hg ho hn0 (dOk_some hd ht) fun v B1 J h1 h2 => by rw [hd]; exact h v B1 J h1 h2 hN
/-- How much of one's own stood ahead of the region. -/
def n0B (d : Md) (n : Nat) : Bool := match d with
  | .o => true
  | .d d _ => Nat.ble d.n0 n
  | .f d _ => Nat.ble d.n0 n
theorem n0B.use {n : Nat} (h : n0B d n = true) : ∀ d0 B0, d.at d0 B0 → d0.n0 ≤ n := fun d0 B0 e => by rcases e with rfl | rfl <;> exact Nat.le_of_ble_eq_true h
/-- A new block, in any kind of region. -/
theorem X.free {V : Nat → Value} {cs : List Value} {T sz : Nat} (ho : OFree P o L V cs T sz) (hg : gOk ops o L true) (hd : o.dst = some t) (ht : Nat.blt t N = true) (hn : n0B d K.length = true)
    (h : ∀ b, X P N ops (dNew d) l B (K ++ [some (b, ⟨cs, T, sz⟩)]) ((t, V b) :: L) Q) : X P N ops d (o :: l) B K L Q := by
  have hc : OChg P o B K L fun v B1 K1 => ∃ J, K1 = K ++ J ∧ B1 = B ∧ ∃ b, v = V b ∧ J = [some (b, (⟨cs, T, sz⟩ : Blk))] := ⟨fl_chg ho.1, fun F M hF hM => .inl ⟨_, _, B, _, ho.2 F M hF, hM.new cs T sz, Ge.refl B, _, rfl, rfl, M.nx, rfl, rfl⟩⟩
  cases d with
  | o =>
    refine X.add hg hd ht rfl hc (n0B.use hn) fun v B1 J _ hR => ?_
    obtain ⟨rfl, b, rfl, rfl⟩ := hR
    exact h b
  | d d B0 =>
    refine X.add hg hd ht rfl hc (n0B.use hn) fun v B1 J _ hR => ?_
    obtain ⟨rfl, b, rfl, rfl⟩ := hR
    exact h b
  | f d B0 => exact fun hN => JX.free hN hg ho (n0B.use hn d B0 (.inr rfl)) (dOk_some hd ht) fun b => by rw [hd]; exact h b hN
theorem X.box {T : TypeId} {x : Operand} {cs : List Value} (ho : o.op = .box T x) (hg : gOk ops o L true) (hd : o.dst = some t) (ht : Nat.blt t N = true) (hx : opvL L x = some v) (hc : cellsOf v = some cs) (hok : newOk cs 1 = true) (hn : n0B d K.length = true)
    (h : ∀ b, X P N ops (dMap d .chg) l B (K ++ [some (b, ⟨cs, T, 1⟩)]) ((t, .pointer (some ⟨b, 0, none⟩)) :: L) Q) : X P N ops d (o :: l) B K L Q := by
  refine X.add (R := fun v B1 J => B1 = B ∧ ∃ b, v = .pointer (some ⟨b, 0, none⟩) ∧ J = [some (b, ⟨cs, T, 1⟩)]) hg hd ht (noFl.of (by unfold isFl; rw [ho])) ⟨by unfold isChg; rw [ho], fun F M hF hM => .inl ⟨_, .new cs T 1, B, _, ?_, hM.new cs T 1, Ge.refl B, _, rfl, rfl, M.nx, rfl, rfl⟩⟩ (n0B.use hn) fun v B1 J _ hR => ?_
  · unfold evalOp evBox
    rw [ho]
    simp only [hF.opv hx, hc, hok, cond_true]
  · obtain ⟨rfl, b, rfl, rfl⟩ := hR
    exact h b
/-- A type's zero value's cells. -/
def zeroC (P : Program) (T : TypeId) : Option (List Value) := match quick P (zeroValue T) with
  | some z => cellsOf z
  | none => none
theorem X.alloc {T : TypeId} {cs : List Value} (ho : o.op = .alloc T) (hg : gOk ops o L true) (hd : o.dst = some t) (ht : Nat.blt t N = true) (hz : zeroC P T = some cs) (hok : (cs.all plain1 && newOk cs 1) = true) (hn : n0B d K.length = true)
    (h : ∀ b, X P N ops (dNew d) l B (K ++ [some (b, ⟨cs, T, 1⟩)]) ((t, .pointer (some ⟨b, 0, none⟩)) :: L) Q) : X P N ops d (o :: l) B K L Q := by
  refine X.free (V := fun b => .pointer (some ⟨b, 0, none⟩)) ⟨by unfold isFl; rw [ho], fun F M hF => ?_⟩ hg hd ht hn h
  unfold evalOp evAlloc
  rw [ho]
  unfold zeroC at hz
  split at hz
  · rename_i z hz'
    simp only [hz', hz, hok, cond_true]
  · cases hz
theorem X.mod {R : Value → St → Option (Nat × Blk) → Prop} (p : Nat) (hnf : noFl d o = true) (hg : gOk ops o L true) (hd : o.dst = some t) (ht : Nat.blt t N = true) (ho : OChg P o B K L fun v B1 K1 => ∃ x, K1 = K.set p x ∧ R v B1 x)
    (h : ∀ v B1 x, Ge B B1 → R v B1 x → X P N ops (dMap d (Dr.mod · p)) l B1 (K.set p x) ((t, v) :: L) Q) : X P N ops d (o :: l) B K L Q :=
  fun hN => JX.mod hN p (noFl.use hnf) hg ho (dOk_some hd ht) fun v B1 x h1 h2 => by rw [hd]; exact h v B1 x h1 h2 hN
theorem X.mod0 {R : Value → St → Option (Nat × Blk) → Prop} (p : Nat) (hnf : noFl d o = true) (hg : gOk ops o L true) (hd : o.dst = none) (ho : OChg P o B K L fun v B1 K1 => ∃ x, K1 = K.set p x ∧ R v B1 x)
    (h : ∀ v B1 x, Ge B B1 → R v B1 x → X P N ops (dMap d (Dr.mod · p)) l B1 (K.set p x) L Q) : X P N ops d (o :: l) B K L Q :=
  fun hN => JX.mod hN p (noFl.use hnf) hg ho (by rw [hd]; rfl) fun v B1 x h1 h2 => by rw [hd]; exact h v B1 x h1 h2 hN
theorem X.store {T b off n : Nat} {x y : Operand} {cells vs : List Value} {T' sz : Nat} (p : Nat) (ho : o.op = .store T x y) (hg : gOk ops o L true) (hd : o.dst = none) (hx : opvL L x = some (.pointer (some ⟨b, off, none⟩))) (hy : opvL L y = some v) (hp : K[p]? = some (some (b, ⟨cells, T', sz⟩)))
    (hn : quick P (sizeOf T) = some n) (hv : cellsOf v = some vs) (hl : (Nat.beq vs.length n && Nat.blt 0 sz && Nat.ble (off + vs.length) cells.length) = true)
    (h : X P N ops (dMap d (Dr.mod · p)) l B (K.set p (some (b, ⟨putCells cells off vs, T', sz⟩))) L Q) : X P N ops d (o :: l) B K L Q := by
  simp only [Bool.and_eq_true] at hl
  refine X.mod0 (R := fun v B1 x => B1 = B ∧ x = some (b, ⟨putCells cells off vs, T', sz⟩)) p (noFl.of (by unfold isFl; rw [ho])) hg hd ⟨by unfold isChg; rw [ho], fun F M hF hM => .inl ⟨undef, .wr b ⟨putCells cells off vs, T', sz⟩, B, _, ?_, hM.put hp, Ge.refl B, _, rfl, rfl, rfl⟩⟩ fun v B1 x _ hR => ?_
  · unfold evalOp evStore
    rw [ho]
    have hw : wr M b off vs = some (.wr b ⟨putCells cells off vs, T', sz⟩) := by
      unfold wr
      simp only [hM.own _ _ (at_mem hp), hl.1.2, hl.2, Bool.and_self, cond_true, fVs_eq]
    simp only [hF.opv hx, hF.opv hy, hn, hv, hl.1.1, cond_true, hw]
  · obtain ⟨rfl, rfl⟩ := hR
    exact h
/-- The places of a struct's fields. -/
def placesC (P : Program) (T : TypeId) : Option (List (Nat × Nat)) := match quick P (underlying T) with
  | some (.struct fs) => match quick P (fs.mapM fun f => do pure (f.offset, ← sizeOf f.type)) with
    | some ps => some ps.toList
    | none => none
  | _ => none
/-- Whether a type's zero value is a struct. -/
def isAggZ (P : Program) (T : TypeId) : Bool := match quick P (zeroValue T) with
  | some (.agg _) => true
  | _ => false
theorem OPure.build {T : TypeId} {parts : Array (Nat × Operand)} {vs z cs : List Value} {ps : List (Nat × Nat)} (ho : o.op = .build T parts) (hvs : opvsL L (parts.toList.map (·.2)) = some vs) (hz : zeroC P T = some z) (hzp : z.all plain1 = true) (hps : placesC P T = some ps) (hall : vs.all (fun v => (cellsOf v).isSome) = true)
    (hf : Instr.fill (ps.toArray[·]?) z.toArray ((parts.toList.map (·.1)).zip vs) = some cs.toArray) (hag : quick P (isAgg T) = some true) (hzv : isAggZ P T = true) : OPure P o L (.agg cs.toArray) := by
  refine ⟨by unfold isChg; rw [ho], by unfold isRd; rw [ho], fun F M hF => .inr ?_⟩
  unfold evalOp evBuild
  rw [ho]
  unfold zeroC at hz
  unfold placesC at hps
  unfold isAggZ at hzv
  split at hzv
  · rename_i za hza
    rw [hza] at hz
    have hz := some_eq hz
    subst hz
    split at hps
    · rename_i fs hfs
      split at hps
      · rename_i pl hpl
        obtain rfl := some_eq hps
        have hpz : plain (.agg za) = true := hzp
        simp only [hF.opvs hvs, hza, hfs, hpl, hpz, hall, Bool.and_self, cond_true]
        have hf' : Instr.fill (fun x => pl[x]?) (Value.agg za).cells ((parts.toList.map (·.1)).zip vs) = some cs.toArray := by
          simpa [Value.cells] using hf
        simp only [hf']
      · cases hps
    · cases hps
  · cases hzv
/-- A slice of values in a new block. -/
theorem X.buildSlice {T el sz len : Nat} {parts : Array (Nat × Operand)} {vs z cs : List Value} (ho : o.op = .buildSlice T len parts) (hg : gOk ops o L true) (hd : o.dst = some t) (ht : Nat.blt t N = true) (hel : elemC P T = some (el, sz)) (hz : zeroC P el = some z) (hzl : z.length = sz)
    (hvs : opvsL L (parts.toList.map (·.2)) = some vs) (hf : Instr.fill (fun i => some (i * sz, sz)) ((Array.range (len * sz)).map (z.toArray[· % z.toArray.size]!)) ((parts.toList.map (·.1)).zip vs) = some cs.toArray)
    (hok : (((Array.range (len * sz)).map (z.toArray[· % z.toArray.size]!)).toList.all plain1 && Nat.blt 0 len && Nat.blt 0 sz && Nat.ble (len * sz) 16777216 && vs.all (fun v => (cellsOf v).isSome)) = true) (hcl : Nat.beq cs.length (len * sz) = true) (hn : n0B d K.length = true)
    (h : ∀ b, X P N ops (dNew d) l B (K ++ [some (b, ⟨cs, el, sz⟩)]) ((t, .slice (some ⟨b, 0, none⟩) len len) :: L) Q) : X P N ops d (o :: l) B K L Q := by
  refine X.free (V := fun b => .slice (some ⟨b, 0, none⟩) len len) ⟨by unfold isFl; rw [ho], fun F M hF => ?_⟩ hg hd ht hn h
  obtain ⟨g1, g2⟩ := elemC_some hel
  have hl0 : Nat.beq len 0 = false := by
    simp only [Bool.and_eq_true] at hok
    have := Nat.le_of_ble_eq_true hok.1.1.1.2
    cases hb : Nat.beq len 0 with
    | false => rfl
    | true => have := Nat.eq_of_beq_eq_true hb; omega
  unfold evalOp evBuildSl
  rw [ho]
  simp only [hl0, cond_false]
  unfold evBuildSlice
  unfold zeroC at hz
  split at hz
  · rename_i zv hzv
    have hzc : zv.cells = z.toArray := by
      cases zv <;> simp [cellsOf] at hz <;> subst hz <;> simp [Value.cells]
    simp only [hF.opvs hvs, g1, g2, hzv]
    rw [hzc, hok]
    simp only [cond_true, hf, hcl]
  · cases hz
/-- An empty literal. -/
abbrev empV : Value := .slice (some ⟨0, 0, some 0⟩) 0 0
theorem X.bs0 {T el sz : Nat} {parts : Array (Nat × Operand)} (ho : o.op = .buildSlice T 0 parts) (hp : parts.toList = []) (hg : gOk ops o L true) (hd : o.dst = some t) (ht : Nat.blt t N = true) (hel : elemC P T = some (el, sz)) (hs : Nat.blt 0 sz = true) (hn : n0B d K.length = true)
    (h : ∀ b, X P N ops (dNew d) l B (K ++ [some (b, ⟨[], el, sz⟩)]) ((t, empV) :: L) Q) : X P N ops d (o :: l) B K L Q := by
  refine X.free (V := fun _ => empV) ⟨by unfold isFl; rw [ho], fun F M hF => ?_⟩ hg hd ht hn h
  obtain ⟨g1, g2⟩ := elemC_some hel
  unfold evalOp evBuildSl
  rw [ho]
  simp only [Nat.beq_refl, cond_true]
  unfold evBuild0
  simp only [hp, g1, g2, hs, cond_true]
/-- A slice of zeros. -/
theorem X.make {T el sz bytes n : Nat} {x y : Operand} {k k' : IntKind} {z : List Value} (ho : o.op = .makeSlice T x y) (hg : gOk ops o L true) (hd : o.dst = some t) (ht : Nat.blt t N = true) (he : Elem P T el sz bytes) (hz : zeroC P el = some z) (hzp : z.all plain1 = true) (hs : 0 < sz) (hx : opvL L x = some (.int k (n : Int))) (hy : opvL L y = some (.int k' (n : Int)))
    (hb : bytes * n ≤ 281474976710656) (hn1 : n * sz ≤ 1152921504606846976) (hn : n0B d K.length = true) (hzi : ∀ i zv, P.info? el = some i → i.zero = some zv → zv.cells = z.toArray)
    (h : ∀ b, X P N ops (dMap d .chg) l B (K ++ [some (b, ⟨(madeCells z.toArray (n * sz)).toList, el, sz⟩)]) ((t, .slice (some ⟨b, 0, none⟩) n n) :: L) Q) : X P N ops d (o :: l) B K L Q := by
  refine X.add (R := fun v B1 J => B1 = B ∧ ∃ b, v = .slice (some ⟨b, 0, none⟩) n n ∧ J = [some (b, ⟨(madeCells z.toArray (n * sz)).toList, el, sz⟩)]) hg hd ht (noFl.of (by unfold isFl; rw [ho])) ⟨by unfold isChg; rw [ho], fun F M hF hM => .inl ⟨_, .new (madeCells z.toArray (n * sz)).toList el sz, B, _, ?_, hM.new _ el sz, Ge.refl B, _, rfl, rfl, M.nx, rfl, rfl⟩⟩ (n0B.use hn) fun v B1 J _ hR => ?_
  · obtain ⟨i, zv, h1, h2, h3, h4, h5⟩ := he.parts
    have hzc := hzi i zv h1 h2
    have hzs : zv.cells.size = i.size := by rw [h5, h3]
    have e1 : iEq (n : Int) (n : Int) = true := by rw [iEq_eq]; simp
    have e2 : decide ((0 : Int) ≤ (n : Int)) = true := by simp
    have e3 : zv.cells.toList.all plain1 = true := by rw [hzc]; exact hzp
    have e4 : n ≤ 1152921504606846976 := Nat.le_trans (Nat.le_mul_of_pos_right n hs) hn1
    have e5 : Nat.beq zv.cells.size i.size = true := by rw [hzs]; exact Nat.beq_refl _
    unfold evalOp evMake
    rw [ho]
    simp only [hF.opv hx, hF.opv hy, he.1, h1, h2, Int.toNat_natCast, e1, e2, e3, e5]
    rw [h3, h4, Nat.ble_eq_true_of_le hb, Nat.ble_eq_true_of_le hn1, Nat.ble_eq_true_of_le e4, show Nat.blt 0 sz = true from Nat.ble_eq_true_of_le hs, hzc]
    rfl
  · obtain ⟨rfl, b, rfl, rfl⟩ := hR
    exact h b
/-- A row that grows: its value and its block. -/
def accV (ob : Option Nat) (n : Nat) : Value := match ob with
  | some b => .slice (some ⟨b, 0, none⟩) n n
  | none => .slice none 0 0
def accE (el sz : Nat) (ob : Option Nat) (cells : List Value) : Option (Nat × Blk) := match ob with
  | some b => some (b, ⟨cells, el, sz⟩)
  | none => none
def accOk (ob : Option Nat) (n : Nat) : Prop := match ob with
  | some _ => 0 < n
  | none => n = 0
theorem X.append {c : Call} {x y : Operand} {T el sz bytes n k c2 : Nat} {ob : Option Nat} {cells add : List Value} {A2 : Option Addr} (p : Nat) (ho : o.op = .call c) (hc : c.callee = .builtin .append) (ha : c.args.toList = [x, y]) (hT : c.argTypes.toList = [T, T]) (hg : gOk ops o L true) (hd : o.dst = some t) (ht : Nat.blt t N = true)
    (he : Elem P T el sz bytes) (hs : 0 < sz) (hx : opvL L x = some (accV ob n)) (hy : opvL L y = some (.slice A2 k c2)) (hp : K[p]? = some (accE el sz ob cells)) (hcl : cells.length = n * sz) (hob : accOk ob n)
    (hsrc : k = 0 ∧ add = [] ∧ (A2 = none ∨ ∃ b2 o2, A2 = some ⟨b2, o2, none⟩) ∨ 0 < k ∧ ∃ b2 o2, A2 = some ⟨b2, o2, none⟩ ∧ (∀ M, SM B K M → rd M b2 o2 (k * sz) = some add) ∧ ∀ M, SM B K M → ∀ a, ob = some a → a ≠ b2) (hb : (n + k) * bytes ≤ 140737488355328) (hm : n + k ≤ 1152921504606846976)
    (h : ∀ ob', accOk ob' (n + k) → X P N ops (dMap d (Dr.mod · p)) l B (K.set p (accE el sz ob' (cells ++ add))) ((t, accV ob' (n + k)) :: L) Q) : X P N ops d (o :: l) B K L Q := by
  obtain ⟨i, z, h1, h2, h3, h4, h5⟩ := he.parts
  refine X.mod (R := fun v B1 x => B1 = B ∧ ∃ ob', accOk ob' (n + k) ∧ v = accV ob' (n + k) ∧ x = accE el sz ob' (cells ++ add)) p (noFl.of (by unfold isFl; rw [ho])) hg hd ht ⟨by unfold isChg; rw [ho]; simp only [hc], fun F M hF hM => .inl ?_⟩ fun v B1 x _ hR => ?_
  · have hev : ∀ {out : Out}, evalAppend P T (accV ob n) (.slice A2 k c2) M = some out → evalOp P o F M = some out := fun hout => by
      unfold evalOp evCall evAppend
      rw [ho]
      simp only [hc, ha, hT, hF.opv hx, hF.opv hy, Nat.beq_refl, cond_true]
      exact hout
    have hsame : K.set p (accE el sz ob cells) = K := by
      apply List.ext_getElem?
      intro q
      by_cases e : p = q
      · subst e
        rw [List.getElem?_set_self (List.getElem?_eq_some_iff.1 hp).1, hp]
      · rw [List.getElem?_set_ne e]
    rcases hsrc with ⟨rfl, rfl, hA⟩ | ⟨hk, b2, o2, rfl, hrd, hne⟩
    · refine ⟨accV ob n, .no, B, K, hev ?_, hM, Ge.refl B, accE el sz ob cells, hsame.symm, rfl, ob, hob, rfl, by rw [List.append_nil]⟩
      · unfold evalAppend
        simp only [he.1, h1]
        have : appNone (accV ob n) = some (.v (accV ob n) .no) := by
          cases ob with
          | none => rfl
          | some b =>
            unfold accV appNone
            simp only [Nat.ble_eq_true_of_le (Nat.le_refl n), cond_true]
        rcases hA with rfl | ⟨b2, o2, rfl⟩
        · exact this
        · exact this
    · have hrd := hrd M hM
      obtain ⟨_, _, hadd, hal, _⟩ := rd_some hrd
      have hk1 : Nat.blt 0 k = true := Nat.ble_eq_true_of_le hk
      have hs1 : Nat.blt 0 sz = true := Nat.ble_eq_true_of_le hs
      have hzs : Nat.beq z.cells.size sz = true := by rw [h5]; exact Nat.beq_refl _
      have step : ∀ {out : Out}, appSome el sz bytes k b2 (accV ob n) add M = some out → evalAppend P T (accV ob n) (.slice (some ⟨b2, o2, none⟩) k c2) M = some out := fun hout => by
        unfold evalAppend
        simp only [he.1, h1]
        split
        · rename_i heq; cases heq
        · rename_i heq; injection heq with _ e2 _; omega
        · rename_i _ _ b3 o3 k3 c3 _ heq
          injection heq with e1 e2 e3
          injection e1 with e1
          injection e1 with e1 e4
          subst e1 e2 e4
          rw [h2]
          simp only
          rw [h3, h4, hrd]
          simp only [hk1, hs1, hzs, Bool.and_self, cond_true]
          exact hout
        · rename_i hno; exact absurd rfl (hno _ _ _ _)
      cases ob with
      | none =>
        have hn0 : n = 0 := hob
        subst hn0
        have hc0 : cells = [] := List.eq_nil_of_length_eq_zero (by rw [hcl]; exact Nat.zero_mul _)
        subst hc0
        have e1 : Nat.ble k 1152921504606846976 = true := Nat.ble_eq_true_of_le (by omega)
        have e2 : Nat.ble (k * bytes) 140737488355328 = true := Nat.ble_eq_true_of_le (by simpa using hb)
        refine ⟨.slice (some ⟨M.nx, 0, none⟩) k k, .new add el sz, B, K.set p (some (M.nx, ⟨add, el, sz⟩)), hev (step ?_), (hM.new add el sz).move hp, Ge.refl B, _, rfl, rfl, some M.nx, show 0 < 0 + k by omega, by rw [Nat.zero_add]; rfl, rfl⟩
        unfold accV appSome
        simp only [e1, e2, Bool.and_self, cond_true]
      | some a =>
        have hp' : K[p]? = some (some (a, ⟨cells, el, sz⟩)) := hp
        have hg := hM.own _ _ (at_mem hp')
        have hpl := (List.getElem?_eq_some_iff.1 hp').1
        have fin : SM B (K.set p (some (M.nx, (⟨cells ++ add, el, sz⟩ : Blk)))) ((Eff.app a (cells ++ add) el sz).apply M) := by
          have g1 := (hM.kill hp').new (cells ++ add) el sz
          have g2 := g1.move (p := p) (by rw [List.getElem?_set_self hpl])
          rw [List.set_set] at g2
          exact g2
        have hn : 0 < n := hob
        · refine ⟨.slice (some ⟨M.nx, 0, none⟩) (n + k) (n + k), .app a (cells ++ add) el sz, B, K.set p (some (M.nx, ⟨cells ++ add, el, sz⟩)), hev (step ?_), fin, Ge.refl B, _, rfl, rfl, some M.nx, show 0 < n + k by omega, rfl, rfl⟩
          have e1 : Nat.ble (n + k) 1152921504606846976 = true := Nat.ble_eq_true_of_le hm
          have e2 : Nat.ble ((n + k) * bytes) 140737488355328 = true := Nat.ble_eq_true_of_le hb
          have e3 : Nat.beq a b2 = false := by
            cases hbq : Nat.beq a b2 with
            | true => exact absurd (Nat.eq_of_beq_eq_true hbq) (hne M hM a rfl)
            | false => rfl
          have e4 : Nat.blt 0 n = true := Nat.ble_eq_true_of_le hn
          have e5 : Nat.beq cells.length (n * sz) = true := by rw [hcl]; exact Nat.beq_refl _
          unfold accV appSome
          split
          · rename_i heq; cases heq
          · rename_i a' n' c' _ heq
            injection heq with g1 g2 g3
            injection g1 with g1
            injection g1 with g1
            subst g1 g2 g3
            simp only [hg, e1, e2, e3, e4, e5, Nat.beq_refl, Bool.not_false, Bool.and_self, cond_true]
          · rename_i heq; cases heq
          · rename_i hno _; exact absurd rfl (hno _ _ _)
  · obtain ⟨rfl, ob', g1, rfl, rfl⟩ := hR
    exact h ob' g1
/-- A slice that stands comes to an empty literal. -/
theorem X.appendE {c : Call} {x y : Operand} {T el sz bytes k c2 b2 o2 : Nat} {add : List Value} (p : Nat) (ho : o.op = .call c) (hc : c.callee = .builtin .append) (ha : c.args.toList = [x, y]) (hT : c.argTypes.toList = [T, T]) (hg : gOk ops o L true) (hd : o.dst = some t) (ht : Nat.blt t N = true)
    (he : Elem P T el sz bytes) (hs : 0 < sz) (hx : opvL L x = some empV) (hy : opvL L y = some (.slice (some ⟨b2, o2, none⟩) k c2)) (hp : K[p]? = some none) (hk : 0 < k) (hrd : ∀ M, SM B K M → rd M b2 o2 (k * sz) = some add) (hb : k * bytes ≤ 140737488355328) (hm : k ≤ 1152921504606846976)
    (h : ∀ b, X P N ops (dMap d (Dr.mod · p)) l B (K.set p (some (b, ⟨add, el, sz⟩))) ((t, .slice (some ⟨b, 0, none⟩) k k) :: L) Q) : X P N ops d (o :: l) B K L Q := by
  obtain ⟨i, z, h1, h2, h3, h4, h5⟩ := he.parts
  refine X.mod (R := fun v B1 x => B1 = B ∧ ∃ b, v = .slice (some ⟨b, 0, none⟩) k k ∧ x = some (b, ⟨add, el, sz⟩)) p (noFl.of (by unfold isFl; rw [ho])) hg hd ht ⟨by unfold isChg; rw [ho]; simp only [hc], fun F M hF hM => .inl ?_⟩ fun v B1 x _ hR => ?_
  · have hev : ∀ {out : Out}, evalAppend P T empV (.slice (some ⟨b2, o2, none⟩) k c2) M = some out → evalOp P o F M = some out := fun hout => by
      unfold evalOp evCall evAppend
      rw [ho]
      simp only [hc, ha, hT, hF.opv hx, hF.opv hy, Nat.beq_refl, cond_true]
      exact hout
    have hrd := hrd M hM
    have hk1 : Nat.blt 0 k = true := Nat.ble_eq_true_of_le hk
    have hs1 : Nat.blt 0 sz = true := Nat.ble_eq_true_of_le hs
    have hzs : Nat.beq z.cells.size sz = true := by rw [h5]; exact Nat.beq_refl _
    have step : ∀ {out : Out}, appSome el sz bytes k b2 empV add M = some out → evalAppend P T empV (.slice (some ⟨b2, o2, none⟩) k c2) M = some out := fun hout => by
      unfold evalAppend
      simp only [he.1, h1]
      split
      · rename_i heq; cases heq
      · rename_i heq; injection heq with _ e2 _; omega
      · rename_i _ _ b3 o3 k3 c3 _ heq
        injection heq with e1 e2 e3
        injection e1 with e1
        injection e1 with e1 e4
        subst e1 e2 e4
        rw [h2]
        simp only
        rw [h3, h4, hrd]
        simp only [hk1, hs1, hzs, Bool.and_self, cond_true]
        exact hout
      · rename_i hno; exact absurd rfl (hno _ _ _ _)
    have e1 : Nat.ble k 1152921504606846976 = true := Nat.ble_eq_true_of_le hm
    have e2 : Nat.ble (k * bytes) 140737488355328 = true := Nat.ble_eq_true_of_le hb
    refine ⟨.slice (some ⟨M.nx, 0, none⟩) k k, .new add el sz, B, K.set p (some (M.nx, ⟨add, el, sz⟩)), hev (step ?_), (hM.new add el sz).move hp, Ge.refl B, _, rfl, rfl, M.nx, rfl, rfl⟩
    unfold appSome
    simp only [e1, e2, Bool.and_self, cond_true]
  · obtain ⟨rfl, b, rfl, rfl⟩ := hR
    exact h b
theorem JX.same (hN : N ≤ 512) {R : Value → St → Prop} (hnf : noFl d o = true) (hg : gOk ops o L true) (ho : OChg P o B K L fun v B1 K1 => K1 = K ∧ R v B1) (hd : dOk N o.dst = true)
    (h : ∀ v B1, Ge B B1 → R v B1 → JX P N ops (dMap d .chg) l B1 K (setL L o.dst v) Q) : JX P N ops d (o :: l) B K L Q := by
  refine JX.chgG hN (noFl.use hnf) hg ho hd (f := .chg) (fun d => ⟨rfl, rfl, rfl, fun _ h => h, fun _ h => h⟩) (fun v B1 K1 hR d0 B0 e => ?_) fun v B1 K1 hB hR => ?_
  · obtain ⟨rfl, _⟩ := hR
    exact ⟨fun _ _ _ _ h => h, fun _ _ _ _ _ h => h, fun j p h => .inr (.inl ⟨h, fun _ _ h => h⟩)⟩
  · obtain ⟨rfl, hR⟩ := hR
    exact h v B1 hB hR
theorem OChg.call {c : Call} {x : Operand} {f : FuncId} {vs : List Value} {Qc : Value → St → Prop} (ho : o.op = .call c) (hc : c.callee = .value x) (hx : opvL L x = some (.func (.func f) #[] #[])) (hvs : opvsL L c.args.toList = some vs) (hent : entered P f = true) (h : EvP P f vs B Qc) :
    OChg P o B K L fun v B1 K1 => K1 = K ∧ Qc v B1 := by
  refine ⟨by unfold isChg; rw [ho]; simp only [hc], fun F M hF hM => .inr ?_⟩
  obtain ⟨v, M1, B1, h1, h2, h3, h4⟩ := h.beside hM
  refine ⟨f, vs, v, M1, B1, K, ?_, h1, h2, h3, rfl, h4⟩
  have hfn : evFunc P f c.args.toList F = some (.call f vs) := by
    unfold evFunc
    simp only [hF.opvs hvs, hent, cond_true]
  unfold evalOp evCall
  rw [ho]
  cases x with
  | func g =>
    have e : g = f := by
      have := some_eq hx
      injection this with h1
      injection h1 with h1
      exact h1.symm
    subst e
    simp only [hc]
    exact hfn
  | tmp t =>
    simp only [hc]
    unfold evDyn
    simp only [hF.opv hx]
    exact hfn
  | const u =>
    simp only [hc]
    unfold evDyn
    simp only [hF.opv hx]
    exact hfn
  | global g => cases hx
theorem X.call {c : Call} {x : Operand} {f : FuncId} {vs : List Value} {Qc : Value → St → Prop} (ho : o.op = .call c) (hc : c.callee = .value x) (hg : gOk ops o L true) (hd : o.dst = some t) (ht : Nat.blt t N = true) (hx : opvL L x = some (.func (.func f) #[] #[])) (hvs : opvsL L c.args.toList = some vs) (hent : entered P f = true) (h : EvP P f vs B Qc)
    (k : ∀ v B1, Ge B B1 → Qc v B1 → X P N ops (dMap d .chg) l B1 K ((t, v) :: L) Q) : X P N ops d (o :: l) B K L Q :=
  fun hN => JX.same hN (noFl.of (by unfold isFl; rw [ho])) hg (OChg.call ho hc hx hvs hent h) (dOk_some hd ht) fun v B1 h1 h2 => by rw [hd]; exact k v B1 h1 h2 hN
/-- A call whose result reaches no memory. -/
theorem X.callq {c : Call} {x : Operand} {f : FuncId} {vs : List Value} {R : Value → Prop} (ho : o.op = .call c) (hc : c.callee = .value x) (hg : gOk ops o L true) (hd : o.dst = some t) (ht : Nat.blt t N = true) (hx : opvL L x = some (.func (.func f) #[] #[])) (hvs : opvsL L c.args.toList = some vs) (hent : entered P f = true) (h : EvP P f vs B fun v _ => R v)
    (k : ∀ v, R v → X P N ops (dMap d .chg) l B K ((t, v) :: L) Q) : X P N ops d (o :: l) B K L Q := by
  obtain ⟨h1, h2⟩ := OChg.call (K := K) ho hc hx hvs hent h
  refine fun hN => JX.same (R := fun v B1 => B1 = B ∧ R v) hN (noFl.of (by unfold isFl; rw [ho])) hg ⟨h1, fun F M hF hM => ?_⟩ (dOk_some hd ht) fun v B1 _ h4 => by rw [hd]; obtain ⟨rfl, h4⟩ := h4; exact k v h4 hN
  rcases h2 F M hF hM with ⟨v, m, B1, K1, e, hM1, hB1, rfl, hR⟩ | ⟨f', args, v, M1, B1, K1, e, e2, hM1, hB1, rfl, hR⟩
  · exact .inl ⟨v, m, B, K1, e, ⟨hM1.wf, fun b X hb => hM1.old b X (hB1 b X hb), hM1.own, hM.sep, hM1.nd⟩, Ge.refl B, rfl, rfl, hR⟩
  · exact .inr ⟨f', args, v, M1, B, K1, e, e2, ⟨hM1.wf, fun b X hb => hM1.old b X (hB1 b X hb), hM1.own, hM.sep, hM1.nd⟩, Ge.refl B, rfl, rfl, hR⟩
/-- A field of a struct that is a value. -/
def fieldVC (P : Program) (T f : Nat) : Option (Nat × Bool × Nat) := match quick P (underlying T) with
  | some (.struct fs) => match fs[f]? with
    | some fd => match quick P (isAgg fd.type) with
      | some true => match quick P (sizeOf fd.type) with
        | some n => some (fd.offset, true, n)
        | none => none
      | some false => match quick P (sizeOf fd.type) with
        | some n => some (fd.offset, false, n)
        | none => none
      | none => none
    | none => none
  | _ => none
theorem OPure.field {T f off n : Nat} {ag : Bool} {x : Operand} {vs : Array Value} (ho : o.op = .field T x f) (hx : opvL L x = some (.agg vs)) (ht : fieldVC P T f = some (off, ag, n)) (hv : (bif ag then some (.agg ((vs.toList.drop off).take n).toArray) else vs.toList[off]?) = some v) : OPure P o L v := by
  refine ⟨by unfold isChg; rw [ho], by unfold isRd; rw [ho], fun F M hF => .inr ?_⟩
  unfold evalOp evFieldV
  rw [ho]
  simp only [hF.opv hx]
  unfold fieldVC at ht
  split at ht
  · rename_i h1
    split at ht
    · rename_i fd h2
      simp only [h1, h2]
      split at ht
      · rename_i h3
        split at ht
        · rename_i n' h4
          have ht := some_eq ht
          simp only [Prod.mk.injEq] at ht
          obtain ⟨rfl, rfl, rfl⟩ := ht
          simp only [h3, h4]
          have hv := some_eq hv
          subst hv
          congr 3
          apply Array.toList_inj.1
          simp [Array.toList_extract, List.extract]
        · cases ht
      · rename_i h3
        split at ht
        · have ht := some_eq ht
          simp only [Prod.mk.injEq] at ht
          obtain ⟨rfl, rfl, rfl⟩ := ht
          simp only [h3]
          simp only [cond_false] at hv
          rw [← Array.getElem?_toList, hv]
        · cases ht
      · cases ht
    · cases ht
  · cases ht
end
end Go.Proofs.YthldmlfpebgojaaGreatDoor
