/-
  The operations one by one, for open values: those that look at no memory, and loads.
  No condition.
-/
import Derived.Test.YthldmlfpebgojaaGreatDoorQF
namespace Go.Proofs.YthldmlfpebgojaaGreatDoor
set_option linter.unusedSimpArgs false
set_option linter.unusedVariables false
open Go.RowKit Go

/-- Operations; the frame's bound is known. -/
def X (P : Program) (N : Nat) (ops : Array Oper) (d : Md) (l : List Oper) (B : St) (K : Hp) (L : Loc) (Q : PostX) : Prop := N ≤ 512 → JX P N ops d l B K L Q
/-- A value of one cell. -/
def fl1 : Value → Bool
  | .bool _ | .int _ _ | .string _ | .pointer _ | .slice _ _ _ | .nilFunc | .nilIface => true
  | _ => false
theorem same1_self {v : Value} (h : fl1 v = true) : same1 v v = true := by
  cases v <;> first | (cases h; done) | skip
  case bool b => cases b <;> rfl
  case int k n =>
    show (k == k && iEq n n) = true
    rw [iEq_eq]
    simp
  case string s =>
    show bytesEq s.data.toList s.data.toList = true
    rw [bytesEq_eq]
    simp
  case pointer a => exact decide_eq_true rfl
  case slice a n c =>
    show (sameAddr1 a a && Nat.beq n n && Nat.beq c c) = true
    rw [Nat.beq_refl, Nat.beq_refl]
    exact (Bool.and_true _).trans ((Bool.and_true _).trans (decide_eq_true rfl))
  case nilFunc => rfl
  case nilIface => rfl
theorem sameL_self : ∀ {l : List Value}, l.all fl1 = true → sameL l l = true
  | [], _ => rfl
  | a :: l, h => by
    simp only [List.all_cons, Bool.and_eq_true] at h
    unfold sameL
    rw [same1_self h.1, sameL_self h.2]
    rfl
theorem sameV_self {v : Value} (h : fl1 v = true) : sameV v v = true := by
  have := same1_self h
  cases v <;> first | exact this | cases h
theorem sameV_agg {l : List Value} (h : l.all fl1 = true) : sameV (.agg l.toArray) (.agg l.toArray) = true := sameL_self h

/-- Reading of what stands. -/
noncomputable def rdT (t : St) (b o n : Nat) : Option (List Value) := match t.get b with
  | some B => rdK B (cut B.cells o n)
  | none => none
theorem rdT_ge {B B' : St} (h : Ge B B') {b o n : Nat} {cs : List Value} (hr : rdT B b o n = some cs) : rdT B' b o n = some cs := by
  unfold rdT at hr ⊢
  cases hb : B.get b with
  | none => rw [hb] at hr; cases hr
  | some X => rw [hb] at hr; rw [h b X hb]; exact hr

section
variable {P : Program} {N : Nat} {ops : Array Oper} {d : Md} {l : List Oper} {o : Oper} {B : St} {K : Hp} {L : Loc} {Q : PostX} {v : Value} {t : Nat}
theorem X.nil0 {R : Ex → St → Hp → Loc → Prop} (h : R .normal B K L) : X P N ops .o [] B K L fun _ B K L => R .normal B K L := fun _ => JX.nil (fun _ _ e => by rcases e with e | e <;> cases e) fun _ => h
theorem X.nil1 {d : Dr} {B0 : St} (h : Q d.need B K L) : X P N ops (.d d B0) [] B K L Q := fun _ => JX.nil (fun d0 B1 e => by rcases e with e | e <;> cases e; exact h) fun e => by cases e
theorem X.nilF {d : Dr} {B0 : St} (h : Q d.need B K L) : X P N ops (.f d B0) [] B K L Q := fun _ => JX.nil (fun d0 B1 e => by rcases e with e | e <;> cases e; exact h) fun e => by cases e
theorem X.nilD {f : Dr → Dr} {d : Md} {d1 : Dr} {B0 : St} (hd : dMap d f = .d d1 B0) (h : Q d1.need B K L) : X P N ops (dMap d f) [] B K L Q := by rw [hd]; exact X.nil1 h
theorem X.nilO {f : Dr → Dr} {R : Ex → St → Hp → Loc → Prop} (h : R .normal B K L) : X P N ops (dMap .o f) [] B K L fun _ B K L => R .normal B K L := X.nil0 h
theorem X.slot {u : Value} (h : X P N ops d l B K ((t, u) :: L) Q) (hu : look L t = some u) : X P N ops d l B K L Q := fun hN => by
  cases d with
  | o => exact fun M F hM hF => h hN M F hM (hF.cons hu)
  | d d B0 => exact fun M F lds mems hM hF hH => h hN M F lds mems hM (hF.cons hu) hH
  | f d B0 => exact fun M F lds mems k hM hF hH hfr => h hN M F lds mems k hM (hF.cons hu) hH hfr
theorem X.split {c : Bool} (hv : look L t = some (.bool c)) (ht : c = true → X P N ops d l B K ((t, .bool true) :: L) Q) (hf : c = false → X P N ops d l B K ((t, .bool false) :: L) Q) : X P N ops d l B K L Q :=
  fun hN => JX.split hv (fun h => ht h hN) (fun h => hf h hN)
theorem X.split_d {p : Prop} [Decidable p] (hv : look L t = some (.bool (decide p))) (ht : p → X P N ops d l B K ((t, .bool true) :: L) Q) (hf : ¬ p → X P N ops d l B K ((t, .bool false) :: L) Q) : X P N ops d l B K L Q :=
  X.split hv (fun h => ht (of_decide_eq_true h)) (fun h => hf (of_decide_eq_false h))
theorem X.split_nd {p : Prop} [Decidable p] (hv : look L t = some (.bool (!decide p))) (ht : ¬ p → X P N ops d l B K ((t, .bool true) :: L) Q) (hf : p → X P N ops d l B K ((t, .bool false) :: L) Q) : X P N ops d l B K L Q :=
  X.split hv (fun h => ht (of_decide_eq_false (by simpa using h))) (fun h => hf (of_decide_eq_true (by simpa using h)))
theorem dOk_some (hd : o.dst = some t) (ht : Nat.blt t N = true) : dOk N o.dst = true := by rw [hd]; exact ht
theorem X.pure (hg : gOk ops o L true) (hd : o.dst = some t) (ht : Nat.blt t N = true) (ho : OPure P o L v) (h : X P N ops (dMap d .inc) l B K ((t, v) :: L) Q) : X P N ops d (o :: l) B K L Q :=
  fun hN => JX.pure hN hg ho (dOk_some hd ht) (by rw [hd]; exact h hN)
/-- The stand when an operation is left out. -/
def dSkip (d : Md) (o : Oper) : Md := match d with
  | .o => .o
  | .d d B0 => .d (d.skip (isChg o)) B0
  | .f d B0 => .f (d.skip (isMn o)) B0
theorem X.skip (hg : gOk ops o L false) (hd : o.dst = some t) (ht : Nat.blt t N = true) (h : X P N ops (dSkip d o) l B K ((t, undef) :: L) Q) : X P N ops d (o :: l) B K L Q :=
  fun hN => by cases d <;> exact JX.skip hN hg (dOk_some hd ht) (by rw [hd]; exact h hN)
theorem X.skip0 (hg : gOk ops o L false) (hd : o.dst = none) (h : X P N ops (dSkip d o) l B K L Q) : X P N ops d (o :: l) B K L Q :=
  fun hN => by cases d <;> exact JX.skip hN hg (by rw [hd]; rfl) (by rw [hd]; exact h hN)
theorem X.load0 {C : St → Prop} {B0 : St} (hg : gOk ops o L true) (hd : o.dst = some t) (ht : Nat.blt t N = true) (ho : OLoad P o L C v) (hC : C B0) (hB : d = .o ∧ Ge B0 B ∨ ∃ d0, d.at d0 B0 ∧ Ge B0 B) (h : X P N ops (dMap d .inc) l B K ((t, v) :: L) Q) : X P N ops d (o :: l) B K L Q :=
  fun hN => JX.load0 hN hg ho hC hB (dOk_some hd ht) (by rw [hd]; exact h hN)
theorem X.loadB {C : St → Prop} (hg : gOk ops o L true) (hd : o.dst = some t) (ht : Nat.blt t N = true) (ho : OLoad P o L C v) (hC : C B) (h : X P N ops (dMap d .loadB) l B K ((t, v) :: L) Q) : X P N ops d (o :: l) B K L Q :=
  fun hN => JX.loadB hN hg ho hC (dOk_some hd ht) (by rw [hd]; exact h hN)
theorem X.loadK (p : Nat) {b : Nat} {Y : Blk} (hg : gOk ops o L true) (hd : o.dst = some t) (ht : Nat.blt t N = true) (hp : K[p]? = some (some (b, Y))) (ho : OLoad P o L (fun t => t.get b = some Y) v) (h : X P N ops (dMap d (Dr.loadK · p)) l B K ((t, v) :: L) Q) : X P N ops d (o :: l) B K L Q :=
  fun hN => JX.loadK hN p hg hp ho (dOk_some hd ht) (by rw [hd]; exact h hN)
theorem J.drawX {R : PostC} {id : Nat} (hN : N ≤ 512) (h : X P N ops (.d ⟨0, 0, K.length, [], [], []⟩ B) ops.toList B K L fun need B K L => drawChk ops need = true ∧ R .normal B K L) : J P N B K L (.region id ops true) R := J.draw (h hN)
theorem J.fltX {R : PostC} {id : Nat} (hN : N ≤ 512) (h : X P N ops (.f ⟨0, 0, K.length, [], [], []⟩ B) ops.toList B K L fun need B K L => fltChk ops need = true ∧ R .normal B K L) : J P N B K L (.region id ops true) R := J.flt (h hN)
theorem J.ordX {R : PostC} {id : Nat} (hN : N ≤ 512) (h : X P N ops .o ops.toList B K L fun _ B K L => R .normal B K L) : J P N B K L (.region id ops false) R := J.ord (h hN)

/- What the operations give. -/
theorem OPure.move {x : Operand} (ho : o.op = .move x) (hx : opvL L x = some v) : OPure P o L v := by
  refine ⟨by unfold isChg; rw [ho], by unfold isRd; rw [ho], fun F M hF => .inl ?_⟩
  unfold evalOp evMove
  rw [ho]
  simp only [hF.opv hx]
theorem OPure.assign {x : Operand} (ho : o.op = .assign x) (hx : opvL L x = some v) : OPure P o L v := by
  refine ⟨by unfold isChg; rw [ho], by unfold isRd; rw [ho], fun F M hF => .inl ?_⟩
  unfold evalOp evMove
  rw [ho]
  simp only [hF.opv hx]
theorem OPure.pick {c x y : Operand} {b : Bool} {u w : Value} (ho : o.op = .pick c x y) (hc : opvL L c = some (.bool b)) (hx : opvL L x = some u) (hy : opvL L y = some w) (hv : (bif b then u else w) = v) : OPure P o L v := by
  refine ⟨by unfold isChg; rw [ho], by unfold isRd; rw [ho], fun F M hF => .inl ?_⟩
  unfold evalOp evPick
  rw [ho]
  simp only [hF.opv hc, hF.opv hx, hF.opv hy, hv]
theorem OPure.nilCheck {x : Operand} {b f : Nat} (ho : o.op = .nilCheck x) (hx : opvL L x = some (.pointer (some ⟨b, f, none⟩))) : OPure P o L (.pointer (some ⟨b, f, none⟩)) := by
  refine ⟨by unfold isChg; rw [ho], by unfold isRd; rw [ho], fun F M hF => .inl ?_⟩
  unfold evalOp evNil
  rw [ho]
  simp only [hF.opv hx]
/-- A field's offset. -/
def fieldC (P : Program) (T f : Nat) : Option Nat := match quick P (underlying T) with
  | some (.struct fs) => match fs[f]? with
    | some fd => match quick P (sizeOf fd.type) with
      | some (_ + 1) => some fd.offset
      | _ => none
    | none => none
  | _ => none
theorem OPure.fld {T f b k off : Nat} {x : Operand} (ho : o.op = .fieldAddr T x f) (hx : opvL L x = some (.pointer (some ⟨b, off, none⟩))) (ht : fieldC P T f = some k) : OPure P o L (.pointer (some ⟨b, off + k, none⟩)) := by
  refine ⟨by unfold isChg; rw [ho], by unfold isRd; rw [ho], fun F M hF => .inr ?_⟩
  unfold evalOp evField
  rw [ho]
  simp only [hF.opv hx]
  unfold fieldC at ht
  split at ht
  · split at ht
    · split at ht
      · rename_i h1 _ _ h2 _ _ h3
        obtain rfl := some_eq ht
        simp only [h1, h2, h3]
      · cases ht
    · cases ht
  · cases ht
/-- The elements of a slice type: type, cells. -/
def elemC (P : Program) (T : Nat) : Option (Nat × Nat) := match quick P (underlying T) with
  | some (.slice el) => match quick P (sizeOf el) with
    | some sz => some (el, sz)
    | none => none
  | _ => none
theorem elemC_some {T el sz : Nat} (h : elemC P T = some (el, sz)) : quick P (underlying T) = some (.slice el) ∧ quick P (sizeOf el) = some sz := by
  unfold elemC at h
  split at h
  · rename_i e he
    split at h
    · rename_i s hs
      injection h with h
      injection h with h1 h2
      subst h1 h2
      exact ⟨he, hs⟩
    · cases h
  · cases h
theorem OPure.idx {T el sz b off n c j : Nat} {x i : Operand} {k : IntKind} {z : Int} (ho : o.op = .indexAddr T x i) (hx : opvL L x = some (.slice (some ⟨b, off, none⟩) n c)) (hi : opvL L i = some (.int k z)) (ht : elemC P T = some (el, sz)) (hz : z = (j : Int)) (hj : j < n) : OPure P o L (.pointer (some ⟨b, off + j * sz, none⟩)) := by
  subst hz
  obtain ⟨h1, h2⟩ := elemC_some ht
  refine ⟨by unfold isChg; rw [ho], by unfold isRd; rw [ho], fun F M hF => .inr ?_⟩
  unfold evalOp evIndexAddr
  rw [ho]
  have e : (decide ((0 : Int) ≤ (j : Int)) && decide ((j : Int) < (n : Int))) = true := by simp; omega
  simp only [hF.opv hx, hF.opv hi, h1, h2, e, cond_true, Int.toNat_natCast]
theorem OPure.extract {x : Operand} {k : Nat} {vs : Array Value} (ho : o.op = .extract x k) (hx : opvL L x = some (.tuple vs)) (hk : vs.toList[k]? = some v) : OPure P o L v := by
  refine ⟨by unfold isChg; rw [ho], by unfold isRd; rw [ho], fun F M hF => .inr ?_⟩
  unfold evalOp evExtract
  rw [ho]
  simp only [hF.opv hx]
  rw [← Array.getElem?_toList, hk]
theorem run_quick {S : Sem Value} {u w : Value} (h : quick P S = some u) (k : ∀ W, S.run P W = .ok w W) : w = u := by
  have h1 := quick_run h (default : World)
  rw [k default] at h1
  injection h1
theorem OPure.bin {op : BinOp} {T U : TypeId} {x y : Operand} {a b : Value} (ho : o.op = .binOp op T x y U) (hx : opvL L x = some a) (hy : opvL L y = some b) (ha : plain a = true) (hb : plain b = true) (hv : plain v = true) (hq : quick P (binRun op T x y a b) = some v) : OPure P o L v := by
  refine ⟨by unfold isChg; rw [ho], by unfold isRd; rw [ho], fun F M hF => ?_⟩
  unfold evalOp evBin
  rw [ho]
  have slow : evBinSlow P op T x y a b = some (.v v .no) := by
    unfold evBinSlow valOf
    rw [ha, hb]
    simp only [Bool.and_self, cond_true]
    change (match quick P (binRun op T x y a b) with
      | some v => bif plain v then some (Out.v v .no) else none
      | none => none) = _
    rw [hq]
    simp only [hv, cond_true]
  simp only [hF.opv hx, hF.opv hy]
  split
  · rename_i k i k' j e1 e2
    injection e1 with e1
    injection e2 with e2
    subst e1 e2
    unfold evBinInt
    cases hk : sameKind k k' with
    | false => exact .inr slow
    | true =>
      obtain rfl := sameKind_eq hk
      simp only [cond_true]
      split
      · rename_i r hr
        obtain ⟨u, rfl, _, h3⟩ := intOp_sound (P := P) (T := T) (x := x) (y := y) hr
        left
        rw [run_quick hq h3]
      · exact .inr slow
  · rename_i s s' e1 e2
    injection e1 with e1
    injection e2 with e2
    subst e1 e2
    unfold evBinStr
    split
    · rename_i r hr
      obtain ⟨u, rfl, _, h3⟩ := strOp_sound (P := P) (T := T) (x := x) (y := y) hr
      left
      rw [run_quick hq h3]
    · exact .inr slow
  · rename_i a' b' _ _ e1 e2
    injection e1 with e1
    injection e2 with e2
    subst e1 e2
    exact .inr slow
  · rename_i h1 h2 h3
    exact absurd rfl (h3 a b rfl)
section
variable {T U : TypeId} {x y : Operand} {k : IntKind} {a b : Int}
theorem OPure.add (ho : o.op = .binOp .add T x y U) (hx : opvL L x = some (.int k a)) (hy : opvL L y = some (.int k b)) : OPure P o L (.int k (k.wrap (a + b))) :=
  .bin ho hx hy rfl rfl rfl (by cases k <;> rfl)
theorem OPure.sub (ho : o.op = .binOp .sub T x y U) (hx : opvL L x = some (.int k a)) (hy : opvL L y = some (.int k b)) : OPure P o L (.int k (k.wrap (a - b))) :=
  .bin ho hx hy rfl rfl rfl (by cases k <;> rfl)
theorem OPure.mul (ho : o.op = .binOp .mul T x y U) (hx : opvL L x = some (.int k a)) (hy : opvL L y = some (.int k b)) : OPure P o L (.int k (k.wrap (a * b))) :=
  .bin ho hx hy rfl rfl rfl (by cases k <;> rfl)
theorem OPure.lss (ho : o.op = .binOp .lss T x y U) (hx : opvL L x = some (.int k a)) (hy : opvL L y = some (.int k b)) : OPure P o L (.bool (decide (a < b))) :=
  .bin ho hx hy rfl rfl rfl (by cases k <;> rfl)
theorem OPure.leq (ho : o.op = .binOp .leq T x y U) (hx : opvL L x = some (.int k a)) (hy : opvL L y = some (.int k b)) : OPure P o L (.bool (decide (a ≤ b))) :=
  .bin ho hx hy rfl rfl rfl (by cases k <;> rfl)
theorem OPure.gtr (ho : o.op = .binOp .gtr T x y U) (hx : opvL L x = some (.int k a)) (hy : opvL L y = some (.int k b)) : OPure P o L (.bool (decide (b < a))) :=
  .bin ho hx hy rfl rfl rfl (by cases k <;> rfl)
theorem OPure.geq (ho : o.op = .binOp .geq T x y U) (hx : opvL L x = some (.int k a)) (hy : opvL L y = some (.int k b)) : OPure P o L (.bool (decide (b ≤ a))) :=
  .bin ho hx hy rfl rfl rfl (by cases k <;> rfl)
theorem OPure.eql (ho : o.op = .binOp .eql T x y U) (hx : opvL L x = some (.int k a)) (hy : opvL L y = some (.int k b)) : OPure P o L (.bool (decide (a = b))) := by
  rw [show decide (a = b) = (a == b) from (Bool.beq_eq_decide_eq a b).symm]
  exact .bin ho hx hy rfl rfl rfl (by cases k <;> rfl)
theorem OPure.neq (ho : o.op = .binOp .neq T x y U) (hx : opvL L x = some (.int k a)) (hy : opvL L y = some (.int k b)) : OPure P o L (.bool (!decide (a = b))) := by
  rw [show decide (a = b) = (a == b) from (Bool.beq_eq_decide_eq a b).symm]
  exact .bin ho hx hy rfl rfl rfl (by cases k <;> rfl)
theorem OPure.quo (ho : o.op = .binOp .quo T x y U) (hx : opvL L x = some (.int k a)) (hy : opvL L y = some (.int k b)) (h0 : b ≠ 0) : OPure P o L (.int k (k.wrap (a.tdiv b))) := by
  refine .bin ho hx hy rfl rfl rfl ?_
  have : binRun .quo T x y (.int k a) (.int k b) = Op.intDiv .quo k a b := by cases k <;> rfl
  rw [this]
  unfold Op.intDiv
  rw [if_neg h0]
  rfl
theorem OPure.rem (ho : o.op = .binOp .rem T x y U) (hx : opvL L x = some (.int k a)) (hy : opvL L y = some (.int k b)) (h0 : b ≠ 0) : OPure P o L (.int k (a.tmod b)) := by
  refine .bin ho hx hy rfl rfl rfl ?_
  have : binRun .rem T x y (.int k a) (.int k b) = Op.intDiv .rem k a b := by cases k <;> rfl
  rw [this]
  unfold Op.intDiv
  rw [if_neg h0]
  rfl
theorem OPure.seql {s s' : ByteArray} (ho : o.op = .binOp .eql T x y U) (hx : opvL L x = some (.string s)) (hy : opvL L y = some (.string s')) : OPure P o L (.bool (decide (s = s'))) := by
  rw [← str_beq]
  exact .bin ho hx hy rfl rfl rfl rfl
theorem OPure.sneq {s s' : ByteArray} (ho : o.op = .binOp .neq T x y U) (hx : opvL L x = some (.string s)) (hy : opvL L y = some (.string s')) : OPure P o L (.bool (!decide (s = s'))) := by
  rw [← str_beq]
  exact .bin ho hx hy rfl rfl rfl rfl
theorem OPure.slss {s s' : ByteArray} (ho : o.op = .binOp .lss T x y U) (hx : opvL L x = some (.string s)) (hy : opvL L y = some (.string s')) : OPure P o L (.bool (Op.bytesLess s.toList s'.toList)) :=
  .bin ho hx hy rfl rfl rfl rfl
theorem OPure.beql {p q : Bool} (ho : o.op = .binOp .eql T x y U) (hx : opvL L x = some (.bool p)) (hy : opvL L y = some (.bool q)) (hq : quick P (binRun .eql T x y (.bool p) (.bool q)) = some (.bool (p == q))) : OPure P o L (.bool (p == q)) :=
  .bin ho hx hy rfl rfl rfl hq
theorem OPure.bneq {p q : Bool} (ho : o.op = .binOp .neq T x y U) (hx : opvL L x = some (.bool p)) (hy : opvL L y = some (.bool q)) (hq : quick P (binRun .neq T x y (.bool p) (.bool q)) = some (.bool (!(p == q)))) : OPure P o L (.bool (!(p == q))) :=
  .bin ho hx hy rfl rfl rfl hq
end
theorem OPure.un {op : UnOp} {T : TypeId} {x : Operand} {a : Value} (ho : o.op = .unOp op T x) (hx : opvL L x = some a) (ha : plain a = true) (hv : plain v = true) (hq : quick P (Op.unary op a) = some v) : OPure P o L v := by
  refine ⟨by unfold isChg; rw [ho], by unfold isRd; rw [ho], fun F M hF => .inr ?_⟩
  unfold evalOp evUn valOf
  rw [ho]
  simp only [hF.opv hx, ha, cond_true, hq, hv]
theorem OPure.not {T : TypeId} {x : Operand} {b : Bool} (ho : o.op = .unOp .not T x) (hx : opvL L x = some (.bool b)) : OPure P o L (.bool (!b)) := .un ho hx rfl rfl rfl
theorem OPure.neg {T : TypeId} {x : Operand} {k : IntKind} {a : Int} (ho : o.op = .unOp .neg T x) (hx : opvL L x = some (.int k a)) : OPure P o L (.int k (k.wrap (0 - a))) := .un ho hx rfl rfl rfl
theorem OPure.conv {A C : TypeId} {x : Operand} {a : Value} (ho : o.op = .convert A C x) (hx : opvL L x = some a) (ha : plain a = true) (hv : plain v = true) (hq : quick P (convert A C a) = some v) : OPure P o L v := by
  refine ⟨by unfold isChg; rw [ho], by unfold isRd; rw [ho], fun F M hF => .inr ?_⟩
  unfold evalOp evConvert valOf
  rw [ho]
  simp only [hF.opv hx, ha, cond_true, hq, hv]
theorem OPure.len {c : Call} {x : Operand} {T el n cp : Nat} {A : Option Addr} (ho : o.op = .call c) (hc : c.callee = .builtin .len) (ha : c.args.toList = [x]) (hT : c.argTypes[0]? = some T) (hx : opvL L x = some (.slice A n cp)) (ht : quick P (underlying T) = some (.slice el)) : OPure P o L (.int .i64 (n : Int)) := by
  refine ⟨by unfold isChg; rw [ho]; simp only [hc], by unfold isRd; rw [ho], fun F M hF => .inr ?_⟩
  unfold evalOp evCall evLen
  rw [ho]
  simp only [hc, ha, hT, hF.opv hx, ht]
theorem OPure.slen {c : Call} {x : Operand} {T : Nat} {s : ByteArray} (ho : o.op = .call c) (hc : c.callee = .builtin .len) (ha : c.args.toList = [x]) (hT : c.argTypes[0]? = some T) (hx : opvL L x = some (.string s)) (ht : quick P (underlying T) = some .string) : OPure P o L (.int .i64 (s.size : Int)) := by
  refine ⟨by unfold isChg; rw [ho]; simp only [hc], by unfold isRd; rw [ho], fun F M hF => .inr ?_⟩
  unfold evalOp evCall evLen
  rw [ho]
  simp only [hc, ha, hT, hF.opv hx, ht]
theorem OPure.max {c : Call} {k : IntKind} {a b : Int} (ho : o.op = .call c) (hc : c.callee = .builtin .max) (hx : opvsL L c.args.toList = some [.int k a, .int k b]) : OPure P o L (.int k (if a < b then b else a)) := by
  refine ⟨by unfold isChg; rw [ho]; simp only [hc], by unfold isRd; rw [ho], fun F M hF => .inr ?_⟩
  unfold evalOp evCall evMax valOf
  rw [ho]
  simp only [hc, hF.opvs hx]
  rfl
theorem OPure.min {c : Call} {k : IntKind} {a b : Int} (ho : o.op = .call c) (hc : c.callee = .builtin .min) (hx : opvsL L c.args.toList = some [.int k a, .int k b]) : OPure P o L (.int k (if b < a then b else a)) := by
  refine ⟨by unfold isChg; rw [ho]; simp only [hc], by unfold isRd; rw [ho], fun F M hF => .inr ?_⟩
  unfold evalOp evCall evMin valOf
  rw [ho]
  simp only [hc, hF.opvs hx]
  rfl
/-- A slice of a slice. -/
theorem OPure.slice {T el sz n c l' h' : Nat} {x : Operand} {lo hi : Option Operand} {A : Option Addr} (ho : o.op = .slice T x lo hi none) (hx : opvL L x = some (.slice A n c)) (ht : elemC P T = some (el, sz)) (hA : A = none ∨ ∃ b f, A = some ⟨b, f, none⟩)
    (hlo : lo = none ∧ l' = 0 ∨ ∃ q k, lo = some q ∧ opvL L q = some (.int k (l' : Int))) (hhi : hi = none ∧ h' = n ∨ ∃ q k, hi = some q ∧ opvL L q = some (.int k (h' : Int))) (h1 : l' ≤ h') (h2 : h' ≤ n) (h3 : n ≤ c)
    (hv : (match A with
      | some ⟨b, f, _⟩ => Value.slice (some ⟨b, f + l' * sz, none⟩) (h' - l') (c - l')
      | none => .slice none (h' - l') (c - l')) = v) : OPure P o L v := by
  subst hv
  obtain ⟨g1, g2⟩ := elemC_some ht
  refine ⟨by unfold isChg; rw [ho], by unfold isRd; rw [ho], fun F M hF => .inr ?_⟩
  unfold evalOp evSlice
  rw [ho]
  have e1 : boundE F 0 lo = some l' := by
    rcases hlo with ⟨rfl, rfl⟩ | ⟨q, k, rfl, hq⟩
    · rfl
    · unfold boundE
      simp only [hF.opv hq]
  have e2 : boundE F n hi = some h' := by
    rcases hhi with ⟨rfl, rfl⟩ | ⟨q, k, rfl, hq⟩
    · rfl
    · unfold boundE
      simp only [hF.opv hq]
  simp only [hF.opv hx, e1, e2]
  unfold evSliceG
  simp only [g1, g2, Nat.ble_eq_true_of_le h1, Nat.ble_eq_true_of_le h2, Nat.ble_eq_true_of_le h3, Bool.and_self, cond_true]
  rcases hA with rfl | ⟨b, f, rfl⟩ <;> rfl

/- Loads. -/
theorem OLoad.one {T b off : Nat} {x : Operand} (ho : o.op = .load T x) (hx : opvL L x = some (.pointer (some ⟨b, off, none⟩))) (ha : quick P (isAgg T) = some false) (hv : fl1 v = true) : OLoad P o L (fun t => rdT t b off 1 = some [v]) v := by
  refine ⟨by unfold isChg; rw [ho], by unfold isRd; rw [ho], sameV_self hv, fun F M hF hC => .inl ?_, fun B B' h hC => rdT_ge h hC⟩
  unfold evalOp evLoad
  rw [ho]
  have hC : rd M b off 1 = some [v] := hC
  simp only [hF.opv hx, ha, hC]
theorem OLoad.agg {T b off n : Nat} {x : Operand} {cs : List Value} (ho : o.op = .load T x) (hx : opvL L x = some (.pointer (some ⟨b, off, none⟩))) (ha : quick P (isAgg T) = some true) (hn : quick P (sizeOf T) = some n) (hv : cs.all fl1 = true) : OLoad P o L (fun t => rdT t b off n = some cs) (.agg cs.toArray) := by
  refine ⟨by unfold isChg; rw [ho], by unfold isRd; rw [ho], sameV_agg hv, fun F M hF hC => .inr ?_, fun B B' h hC => rdT_ge h hC⟩
  unfold evalOp evLoad
  rw [ho]
  have hC : rd M b off n = some cs := hC
  simp only [hF.opv hx, ha, hn, hC]
theorem OLoad.own {C : St → Prop} {b : Nat} {Y : Blk} (h : OLoad P o L C v) (hC : ∀ t : St, t.get b = some Y → C t) : OLoad P o L (fun t => t.get b = some Y) v :=
  ⟨h.1, h.2.1, h.2.2.1, fun F M hF hM => h.2.2.2.1 F M hF (hC M.t hM), fun B B' hg hB => hg b Y hB⟩
theorem rdT_own {b off n : Nat} {Y : Blk} {cs : List Value} (h : rdK Y (cut Y.cells off n) = some cs) (t : St) (ht : t.get b = some Y) : rdT t b off n = some cs := by
  unfold rdT
  rw [ht]
  exact h
end
end Go.Proofs.YthldmlfpebgojaaGreatDoor
