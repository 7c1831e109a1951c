/-
  The evaluator's operations are the program's.
  No condition.
-/
import Derived.Test.YthldmlfpebgojaaGreatDoorQ3
import Derived.Laws.Strings
import Derived.IntWalk
namespace Go.Proofs.YthldmlfpebgojaaGreatDoor
set_option linter.unusedSimpArgs false
set_option linter.unusedVariables false
open Go.RowKit Go

theorem quick_run {α : Type} {P : Program} : ∀ {S : Sem α} {v : α}, quick P S = some v → ∀ w, S.run P w = .ok v w
  | .pure a, v, h, w => by simp only [quick, Option.some.injEq] at h; subst h; rfl
  | .program k, v, h, w => by simp only [quick] at h; exact quick_run h w
  | .mark _ k, v, h, w => by simp only [quick] at h; exact quick_run h w
  | .load .., _, h, _ => by simp [quick] at h
  | .store .., _, h, _ => by simp [quick] at h
  | .new .., _, h, _ => by simp [quick] at h
  | .shape .., _, h, _ => by simp [quick] at h
  | .freeze .., _, h, _ => by simp [quick] at h
  | .frozen .., _, h, _ => by simp [quick] at h
  | .getObj .., _, h, _ => by simp [quick] at h
  | .setObj .., _, h, _ => by simp [quick] at h
  | .choose .., _, h, _ => by simp [quick] at h
  | .sys .., _, h, _ => by simp [quick] at h
  | .halt .., _, h, _ => by simp [quick] at h

/-- What an operation yields. -/
def Runs (P : Program) (o : Oper) (a : Act) (w : World) (v : Value) (w' : World) : Prop :=
  (execOp a.eval o).run P w = .ok (.value v) w' ∨ ((execOp a.eval o).run P w = .ok .skip w' ∧ v = undef)
theorem Runs.wp {P : Program} {o : Oper} {a : Act} {w w' : World} {v : Value} {K : Act → World → Prop} {Q : Exit → Act → World → Prop} (h : Runs P o a w v w') (hK : K (a.put o.dst v) w') : o.wp P a w K Q := by
  unfold Oper.wp
  rcases h with h | ⟨h, rfl⟩
  · rw [h]; exact hK
  · rw [h]; exact hK
theorem runs_of {P : Program} {o : Oper} {a : Act} {w w' : World} {v : Value} {s : Sem Value} (he : execOp a.eval o = s >>= fun x => pure (Next.value x)) (hs : s.run P w = .ok v w') : Runs P o a w v w' := by
  refine .inl ?_
  rw [he, Sem.run_bind, hs]
  rfl
theorem runs_unit {P : Program} {o : Oper} {a : Act} {w w' : World} {s : Sem Unit} (he : execOp a.eval o = s >>= fun _ => pure Next.skip) (hs : s.run P w = .ok () w') : Runs P o a w undef w' := by
  refine .inr ⟨?_, rfl⟩
  rw [he, Sem.run_bind, hs]
  rfl
/-- The operands' values. -/
def Good (o : Oper) (F : Fr) (e : Env) (a : Act) : Prop := ∀ x, x ∈ o.op.operands.toList → ∀ v, opv F x = some v → V3 e v (a.eval x)
def OpPost (P : Program) (base : Nat) (o : Oper) (a : Act) (e : Env) (w : World) (v : Value) (M' : Mem) : Prop :=
  ∃ v' w' e', Runs P o a w v' w' ∧ Ext e e' ∧ V3 e' v v' ∧ MR base e' M' w' ∧ Below base w w'
/-- What an outcome of the evaluator says of the operation. -/
def OutPost (P : Program) (base : Nat) (o : Oper) (a : Act) (e : Env) (w : World) (M : Mem) : Out → Prop
  | .w v => OpPost P base o a e w v M
  | .v v m => OpPost P base o a e w v (m.apply M)
  | .call f args => ∃ args', (execOp a.eval o).run P w = .ok (.enter f args'.toArray) w ∧ L1 (V3 e) args args'
section
variable {P : Program} {base : Nat} {o : Oper} {a : Act} {e : Env} {w : World} {v : Value} {M M' : Mem} {F : Fr} {out : Out}
theorem OpPost.same {v' : Value} (hr : Runs P o a w v' w) (hv : V3 e v v') (hM : MR base e M w) : OpPost P base o a e w v M :=
  ⟨v', w, e, hr, Ext.refl e, hv, hM, Below.refl _ _⟩
theorem opvs_good {xs : List Operand} {vs : List Value} (h : opvs F xs = some vs) (hF : ∀ x, x ∈ xs → ∀ v, opv F x = some v → V3 e v (a.eval x)) : L1 (V3 e) vs (xs.map a.eval) := by
  induction xs generalizing vs with
  | nil => simp only [opvs, Option.some.injEq] at h; subst h; exact .nil
  | cons x xs ih =>
    simp only [opvs] at h
    split at h
    · rename_i u hu
      split at h
      · rename_i us hus
        simp only [Option.some.injEq] at h
        subst h
        exact .cons (hF x (by simp) u hu) (ih hus fun y hy => hF y (by simp [hy]))
      · cases h
    · cases h
theorem valOf_sound {S : Sem Value} (h : valOf P S = some out) : ∃ v, out = .v v .no ∧ plain v = true ∧ ∀ w, S.run P w = .ok v w := by
  unfold valOf at h
  split at h
  · rename_i u hu
    obtain ⟨hp, rfl⟩ := some_bif h
    exact ⟨u, rfl, hp, quick_run hu⟩
  · cases h
theorem valOf_post {S : Sem Value} (h : valOf P S = some out) (he : execOp a.eval o = S >>= fun x => pure (Next.value x)) (hM : MR base e M w) : OutPost P base o a e w M out := by
  obtain ⟨v, rfl, hp, hr⟩ := valOf_sound h
  exact OpPost.same (runs_of he (hr w)) (.two (plain_self e hp)) hM
theorem cond_run {α : Type} {b : Bool} {x : Option α} {y : α} (h : (bif b then x else none) = some y) : b = true ∧ x = some y := by
  cases b with
  | false => cases h
  | true => exact ⟨rfl, h⟩
theorem some_eq {α : Type} {x y : α} (h : some x = some y) : y = x := by injection h with h; exact h.symm

theorem sound_move {x : Operand} (ho : o.op = .move x ∨ o.op = .assign x) (h : evMove x F = some out) (hF : Good o F e a) (hM : MR base e M w) : OutPost P base o a e w M out := by
  unfold evMove at h
  split at h
  case h_2 => cases h
  rename_i u hu
  obtain rfl := some_eq h
  refine OpPost.same (v' := a.eval x) (.inl ?_) (hF x ?_ u hu) hM
  · rcases ho with ho | ho <;> simp [execOp, ho]
  · rcases ho with ho | ho <;> simp [Op.operands, ho]
theorem sound_pick {c x y : Operand} (ho : o.op = .pick c x y) (h : evPick c x y F = some out) (hF : Good o F e a) (hM : MR base e M w) : OutPost P base o a e w M out := by
  unfold evPick at h
  split at h
  · rename_i b u u' h1 h2 h3
    obtain rfl := some_eq h
    have g1 := (hF c (by simp [Op.operands, ho]) _ h1).bool
    have g2 := hF x (by simp [Op.operands, ho]) _ h2
    have g3 := hF y (by simp [Op.operands, ho]) _ h3
    refine OpPost.same (v' := if b then a.eval x else a.eval y) (.inl ?_) ?_ hM
    · simp [execOp, ho, g1, asBool]
    · cases b
      · simpa using g3
      · simpa using g2
  · cases h
theorem sound_nilCheck {x : Operand} (ho : o.op = .nilCheck x) (h : evNil x F = some out) (hF : Good o F e a) (hM : MR base e M w) : OutPost P base o a e w M out := by
  unfold evNil at h
  split at h
  · rename_i b off h1
    obtain rfl := some_eq h
    have g1 := hF x (by simp [Op.operands, ho]) _ h1
    obtain ⟨b', d, hb, he⟩ := g1.ptr
    refine OpPost.same (v' := a.eval x) (.inl ?_) g1 hM
    simp [execOp, ho, he]
  · cases h
theorem sound_alloc {T : TypeId} (ho : o.op = .alloc T) (h : evAlloc P T M = some out) (hM : MR base e M w) : OutPost P base o a e w M out := by
  unfold evAlloc at h
  split at h
  case h_2 => cases h
  rename_i z hz
  split at h
  case h_2 => cases h
  rename_i cs hcs
  obtain ⟨hok, rfl⟩ := some_bif h
  simp only [Bool.and_eq_true] at hok
  obtain ⟨h1, h2⟩ := hM.alloc (T := T) hok.2 (all_plain e hok.1)
  have hzc : z.cells = cs.toArray := by
    cases z <;> simp [cellsOf] at hcs <;> subst hcs <;> simp [Value.cells]
  have hr : (Instr.alloc T true (.tuple #[])).run P w = .ok (.pointer (some ⟨w.heap.size, 0, none⟩)) (w.alloc (.cells cs.toArray T)) := by
    simp [Instr.alloc, Sem.run_bind, quick_run hz w, newVar, newRow, hzc]
  exact ⟨_, _, _, runs_of (by simp only [execOp, ho]) hr, Ext.put hM.free _, .two (.one (.ptr h2)), h1, (Below.refl _ _).alloc hM.bs _⟩
theorem sound_box {T : TypeId} {x : Operand} (ho : o.op = .box T x) (h : evBox T x F M = some out) (hF : Good o F e a) (hM : MR base e M w) : OutPost P base o a e w M out := by
  unfold evBox at h
  split at h
  case h_2 => cases h
  rename_i z hz
  split at h
  case h_2 => cases h
  rename_i cs hcs
  obtain ⟨hok, rfl⟩ := some_bif h
  have g := hF x (by simp [Op.operands, ho]) _ hz
  obtain ⟨_, cs', g1, g2⟩ := g.cells hcs
  obtain ⟨h1, h2⟩ := hM.alloc (T := T) hok g2
  have hr : (Instr.box T (a.eval x)).run P w = .ok (.pointer (some ⟨w.heap.size, 0, none⟩)) (w.alloc (.cells cs'.toArray T)) := by
    simp [Instr.box, Sem.run_bind, newVar, newRow, g1]
  exact ⟨_, _, _, runs_of (by simp only [execOp, ho]) hr, Ext.put hM.free _, .two (.one (.ptr h2)), h1, (Below.refl _ _).alloc hM.bs _⟩
theorem sound_load {T : TypeId} {x : Operand} (ho : o.op = .load T x) (h : evLoad P T x F M = some out) (hF : Good o F e a) (hM : MR base e M w) : OutPost P base o a e w M out := by
  unfold evLoad at h
  split at h
  case h_2 => cases h
  rename_i b off h1
  obtain ⟨b', d, hb, he⟩ := (hF x (by simp [Op.operands, ho]) _ h1).ptr
  split at h
  · rename_i h2
    split at h
    case h_2 => cases h
    rename_i n hn
    split at h
    case h_2 => cases h
    rename_i cs hcs
    obtain rfl := some_eq h
    obtain ⟨hl, cs', hlc, hcell⟩ := hM.read hcs hb
    have hr := run_loadCells_list (P := P) w ⟨b', off, none⟩ cs' hcell
    rw [← hlc.len, hl] at hr
    refine OpPost.same (v' := .agg cs'.toArray) (runs_of (s := Instr.loadAt T (a.eval x)) (by simp only [execOp, ho]) ?_) (.two (.agg hlc)) hM
    simp [Instr.loadAt, he, Instr.sureAddr, loadVar, Sem.run_bind, quick_run h2 w, quick_run hn w, hr]
  · rename_i h2
    split at h
    case h_2 => cases h
    rename_i c hcs
    obtain rfl := some_eq h
    obtain ⟨hl, cs', hlc, hcell⟩ := hM.read hcs hb
    obtain ⟨c', rfl, hc'⟩ := hlc.one
    have h0 := hcell 0 c' rfl
    rw [addr_add, Nat.add_zero] at h0
    refine OpPost.same (v' := c') (runs_of (s := Instr.loadAt T (a.eval x)) (by simp only [execOp, ho]) ?_) (.two (.one hc')) hM
    simp [Instr.loadAt, he, Instr.sureAddr, loadVar, Sem.run_bind, quick_run h2 w, load, Sem.run, h0]
  · cases h
theorem sound_store {T : TypeId} {x y : Operand} (ho : o.op = .store T x y) (h : evStore P T x y F M = some out) (hF : Good o F e a) (hM : MR base e M w) : OutPost P base o a e w M out := by
  unfold evStore at h
  split at h
  case h_2 => cases h
  rename_i b off h1
  split at h
  case h_2 => cases h
  rename_i u n h2 hn
  split at h
  case h_2 => cases h
  rename_i vs hvs
  obtain ⟨hlen, h⟩ := cond_run h
  have hlen := Nat.eq_of_beq_eq_true hlen
  split at h
  case h_2 => cases h
  rename_i m hm
  obtain rfl := some_eq h
  obtain ⟨b', d, hb, he⟩ := (hF x (by simp [Op.operands, ho]) _ h1).ptr
  obtain ⟨_, vs', g1, g2⟩ := (hF y (by simp [Op.operands, ho]) _ h2).cells hvs
  obtain ⟨w', hst, hm, hbel⟩ := hM.write hm hb g2 P
  have hvl : vs'.length = n := by rw [← g2.len]; exact hlen
  refine ⟨undef, w', e, runs_unit (s := Instr.storeAt T (a.eval x) (a.eval y)) (by simp only [execOp, ho]) ?_, Ext.refl e, V3.undef e, hm, hbel⟩
  simp [Instr.storeAt, he, Instr.sureAddr, storeVar, Sem.run_bind, quick_run hn w, g1, hvl, hst]
theorem sound_fieldAddr {T : TypeId} {x : Operand} {f : Nat} (ho : o.op = .fieldAddr T x f) (h : evField P T x f F = some out) (hF : Good o F e a) (hM : MR base e M w) : OutPost P base o a e w M out := by
  unfold evField at h
  split at h
  case h_2 => cases h
  rename_i b off h1
  split at h
  case h_2 => cases h
  rename_i fs h2
  split at h
  case h_2 => cases h
  rename_i fd hfd
  split at h
  case h_2 => cases h
  rename_i k hk
  obtain rfl := some_eq h
  obtain ⟨b', d, hb, he⟩ := (hF x (by simp [Op.operands, ho]) _ h1).ptr
  refine OpPost.same (v' := .pointer (some ⟨b', off + fd.offset, none⟩)) (runs_of (s := Instr.fieldAt T (a.eval x) f) (by simp only [execOp, ho]) ?_) (.two (.one (.ptr hb))) hM
  simp [Instr.fieldAt, he, Instr.sureAddr, Sem.run_bind, quick_run h2 w, hfd, fieldPlace, quick_run hk w, addr_add]
theorem sound_indexAddr {T : TypeId} {x i : Operand} (ho : o.op = .indexAddr T x i) (h : evIndexAddr P T x i F = some out) (hF : Good o F e a) (hM : MR base e M w) : OutPost P base o a e w M out := by
  unfold evIndexAddr at h
  split at h
  · rename_i b off n c k j el h1 h2 h3
    split at h
    case h_2 => cases h
    rename_i sz hsz
    obtain ⟨hj, rfl⟩ := some_bif h
    simp only [Bool.and_eq_true, decide_eq_true_eq] at hj
    obtain ⟨b', d, hb, he⟩ := (hF x (by simp [Op.operands, ho]) _ h1).slc (by omega)
    have hi := (hF i (by simp [Op.operands, ho]) _ h2).int
    refine OpPost.same (v' := .pointer (some ⟨b', off + j.toNat * sz, none⟩)) (runs_of (s := Instr.indexAt T (a.eval x) (a.eval i)) (by simp only [execOp, ho]) ?_) (.two (.one (.ptr hb))) hM
    simp [Instr.indexAt, he, hi, Sem.run_bind, quick_run h3 w, asIntOf, hj.1, hj.2, quick_run hsz w, addr_add]
  · rename_i b off k j n el h1 h2 h3
    split at h
    case h_2 => cases h
    rename_i sz hsz
    obtain ⟨hj, rfl⟩ := some_bif h
    simp only [Bool.and_eq_true, decide_eq_true_eq] at hj
    obtain ⟨b', d, hb, he⟩ := (hF x (by simp [Op.operands, ho]) _ h1).ptr
    have hi := (hF i (by simp [Op.operands, ho]) _ h2).int
    refine OpPost.same (v' := .pointer (some ⟨b', off + j.toNat * sz, none⟩)) (runs_of (s := Instr.indexAt T (a.eval x) (a.eval i)) (by simp only [execOp, ho]) ?_) (.two (.one (.ptr hb))) hM
    simp [Instr.indexAt, he, hi, Sem.run_bind, quick_run h3 w, asIntOf, hj.1, hj.2, quick_run hsz w, addr_add, Instr.sureAddr]
  · cases h
end
end Go.Proofs.YthldmlfpebgojaaGreatDoor
