/-
  Many plain operations in one step: they are run on the list of slots.
  No condition.
-/
import Derived.Test.YthldmlfpebgojaaGreatDoorQI
namespace Go.Proofs.YthldmlfpebgojaaGreatDoor
set_option linter.unusedSimpArgs false
set_option linter.unusedVariables false
open Go.RowKit Go

def intV (op : BinOp) (a b : Int) : Option Value := match op with
  | .eql => some (.bool (decide (a = b)))
  | .neq => some (.bool (!decide (a = b)))
  | .lss => some (.bool (decide (a < b)))
  | .leq => some (.bool (decide (a ≤ b)))
  | .gtr => some (.bool (decide (b < a)))
  | .geq => some (.bool (decide (b ≤ a)))
  | _ => none
def strV (op : BinOp) (a b : ByteArray) : Option Value := match op with
  | .eql => some (.bool (decide (a = b)))
  | .neq => some (.bool (!decide (a = b)))
  | .lss => some (.bool (Op.bytesLess a.toList b.toList))
  | .gtr => some (.bool (!(Op.bytesLess a.toList b.toList || a.toList == b.toList)))
  | _ => none
def sameK (k k' : IntKind) : Bool := match k, k' with
  | .i64, .i64 => true
  | .u8, .u8 => true
  | .u32, .u32 => true
  | .u64, .u64 => true
  | _, _ => false
theorem sameK_eq {k k' : IntKind} (h : sameK k k' = true) : k = k' := by cases k <;> cases k' <;> first | rfl | cases h
/-- What a plain operation gives. -/
def stepV (o : Oper) (L : Loc) : Option Value := match o.op with
  | .move x => opvL L x
  | .assign x => opvL L x
  | .pick c x y => match opvL L c, opvL L x, opvL L y with
    | some (.bool true), some u, some _ => some u
    | some (.bool false), some _, some w => some w
    | _, _, _ => none
  | .nilCheck x => match opvL L x with
    | some (.pointer (some ⟨b, f, none⟩)) => some (.pointer (some ⟨b, f, none⟩))
    | _ => none
  | .fieldAddr T x f => match opvL L x, lk fldT (64 * T + f) with
    | some (.pointer (some ⟨b, g, none⟩)), some k => bif Nat.blt f 64 then some (.pointer (some ⟨b, g + k, none⟩)) else none
    | _, _ => none
  | .extract x k => match opvL L x with
    | some (.tuple vs) => vs.toList[k]?
    | _ => none
  | .binOp op _ x y _ => match opvL L x, opvL L y with
    | some (.int k a), some (.int k' b) => bif sameK k k' then intV op a b else none
    | some (.string a), some (.string b) => strV op a b
    | _, _ => none
  | .unOp .neg _ x => match opvL L x with
    | some (.int k a) => some (.int k (k.wrap (0 - a)))
    | _ => none
  | .unOp .not _ x => match opvL L x with
    | some (.bool b) => some (.bool (!b))
    | _ => none
  | .call c => match c.callee, c.args.toList, c.argTypes[0]? with
    | .builtin .len, [x], some T => match opvL L x with
      | some (.slice _ n _) => match lk elT T with
        | some _ => some (.int .i64 (n : Int))
        | none => none
      | some (.string s) => match lk strT T with
        | some _ => some (.int .i64 (s.size : Int))
        | none => none
      | _ => none
    | _, _, _ => none
  | _ => none
theorem intV_ok {o : Oper} {L : Loc} {v : Value} {op : BinOp} {T U : TypeId} {x y : Operand} {k : IntKind} {a b : Int} (ho : o.op = .binOp op T x y U) (h1 : opvL L x = some (.int k a)) (h2 : opvL L y = some (.int k b)) (h : intV op a b = some v) : OPure Tryz.prog o L v := by
  unfold intV at h
  split at h
  · obtain rfl := some_eq h; exact .eql ho h1 h2
  · obtain rfl := some_eq h; exact .neq ho h1 h2
  · obtain rfl := some_eq h; exact .lss ho h1 h2
  · obtain rfl := some_eq h; exact .leq ho h1 h2
  · obtain rfl := some_eq h; exact .gtr ho h1 h2
  · obtain rfl := some_eq h; exact .geq ho h1 h2
  · cases h
theorem stepV_ok {o : Oper} {L : Loc} {v : Value} (h : stepV o L = some v) : OPure Tryz.prog o L v := by
  unfold stepV at h
  split at h
  · rename_i ho; exact .move ho h
  · rename_i ho; exact .assign ho h
  · rename_i ho
    split at h
    · rename_i h1 h2 h3
      obtain rfl := some_eq h
      exact .pick ho h1 h2 h3 rfl
    · rename_i h1 h2 h3
      obtain rfl := some_eq h
      exact .pick ho h1 h2 h3 rfl
    · cases h
  · rename_i ho
    split at h
    · rename_i h1
      obtain rfl := some_eq h
      exact .nilCheck ho h1
    · cases h
  · rename_i ho
    split at h
    · rename_i h1 h2
      obtain ⟨h3, h⟩ := cond_run h
      obtain rfl := some_eq h
      exact .fld ho h1 (fd h2 h3)
    · cases h
  · rename_i ho
    split at h
    · rename_i h1
      exact .extract ho h1 h
    · cases h
  · rename_i ho
    split at h
    · rename_i h1 h2
      obtain ⟨hk, h4⟩ := cond_run h
      have hk := sameK_eq hk
      subst hk
      exact intV_ok ho h1 h2 h4
    · rename_i h1 h2
      unfold strV at h
      split at h
      · obtain rfl := some_eq h; exact .seql ho h1 h2
      · obtain rfl := some_eq h; exact .sneq ho h1 h2
      · obtain rfl := some_eq h; exact .slss ho h1 h2
      · obtain rfl := some_eq h; exact .bin ho h1 h2 rfl rfl rfl rfl
      · cases h
    · cases h
  · rename_i ho
    split at h
    · rename_i h1
      obtain rfl := some_eq h
      exact .neg ho h1
    · cases h
  · rename_i ho
    split at h
    · rename_i h1
      obtain rfl := some_eq h
      exact .not ho h1
    · cases h
  · rename_i c ho
    split at h
    · rename_i x T hc ha hT
      split at h
      · rename_i h1
        split at h
        · rename_i e he
          obtain rfl := some_eq h
          exact .len ho hc ha hT h1 (elU (e := e.1) (n := e.2) he)
        · cases h
      · rename_i h1
        split at h
        · rename_i e he
          obtain rfl := some_eq h
          exact .slen ho hc ha hT h1 (sr he)
        · cases h
      · cases h
    · cases h
  · cases h
/-- A guard: carried out or not; none: not known yet. -/
def gV (ops : Array Oper) (o : Oper) (L : Loc) : Option Bool := match o.guard with
  | none => some true
  | some (g, b) => match (ops[g]?).bind (·.dst) with
    | some t => match look L t with
      | some (.bool true) => some b
      | some (.bool false) => some (!b)
      | some (.tuple _) => some false
      | _ => none
    | none => none
theorem gV_ok {ops : Array Oper} {o : Oper} {L : Loc} {r : Bool} (h : gV ops o L = some r) : gOk ops o L r := by
  unfold gV at h
  split at h
  · rename_i hg
    obtain rfl := some_eq h
    exact .none hg
  · rename_i g b hg
    split at h
    · rename_i t ht
      split at h
      · rename_i hl
        obtain rfl := some_eq h
        exact .bool hg ht hl (by cases r <;> rfl)
      · rename_i hl
        obtain rfl := some_eq h
        exact .bool hg ht hl (by cases b <;> rfl)
      · rename_i hl
        obtain rfl := some_eq h
        exact .undef hg ht hl
      · cases h
    · cases h
/-- Whether an operation's guard may be looked at: it is the first, or the same guard as before. -/
def okG (k : Option (Nat × Bool)) (first : Bool) (o : Oper) : Bool := match o.guard with
  | none => true
  | some (g, b) => first || (match k with
    | some (g', b') => Nat.beq g g' && (b == b')
    | none => false)
def nextG (k : Option (Nat × Bool)) (o : Oper) : Option (Nat × Bool) := match o.guard with
  | none => k
  | some x => some x
def runG (N : Nat) (ops : Array Oper) (fl : Bool) : List Oper → Option (Nat × Bool) → Bool → Dr → Loc → Dr × List Oper × Loc
  | [], _, _, d, L => (d, [], L)
  | o :: l, k, first, d, L => bif okG k first o then match gV ops o L with
    | some true => match stepV o L, o.dst with
      | some v, some t => bif Nat.blt t N then runG N ops fl l (nextG k o) false d.inc ((t, v) :: L) else (d, o :: l, L)
      | _, _ => (d, o :: l, L)
    | some false => match o.dst with
      | some t => bif Nat.blt t N then runG N ops fl l (nextG k o) false (d.skip (bif fl then isMn o else isChg o)) ((t, undef) :: L) else (d, o :: l, L)
      | none => runG N ops fl l (nextG k o) false (d.skip (bif fl then isMn o else isChg o)) L
    | none => (d, o :: l, L) else (d, o :: l, L)
def runP (N : Nat) (ops : Array Oper) (fl : Bool) (l : List Oper) (d : Dr) (L : Loc) : Dr × List Oper × Loc := runG N ops fl l none true d L
section
variable {N : Nat} {ops : Array Oper} {B : St} {K : Hp} {Q : PostX}
theorem X.goD {B0 : St} : ∀ {l : List Oper} {k : Option (Nat × Bool)} {first : Bool} {d : Dr} {L : Loc} {d' : Dr} {l' : List Oper} {L' : Loc}, runG N ops false l k first d L = (d', l', L') → X Tryz.prog N ops (.d d' B0) l' B K L' Q → X Tryz.prog N ops (.d d B0) l B K L Q
  | [], k, first, d, L, d', l', L', hr, h => by
    injection hr with h1 h2
    injection h2 with h2 h3
    subst h1 h2 h3
    exact h
  | o :: l, k, first, d, L, d', l', L', hr, h => by
    have stop : (d, o :: l, L) = (d', l', L') → X Tryz.prog N ops (.d d B0) (o :: l) B K L Q := fun hr => by
      injection hr with h1 h2
      injection h2 with h2 h3
      subst h1 h2 h3
      exact h
    unfold runG at hr
    cases hok : okG k first o with
    | false => rw [hok] at hr; exact stop hr
    | true =>
    rw [hok] at hr
    simp only [cond_true] at hr
    split at hr
    · rename_i hg
      split at hr
      · rename_i v t hv ht
        cases hb : Nat.blt t N with
        | false => rw [hb] at hr; exact stop hr
        | true =>
          rw [hb] at hr
          exact X.pure (d := .d d B0) (gV_ok hg) ht hb (stepV_ok hv) (X.goD (B0 := B0) hr h)
      · exact stop hr
    · rename_i hg
      split at hr
      · rename_i t ht
        cases hb : Nat.blt t N with
        | false => rw [hb] at hr; exact stop hr
        | true =>
          rw [hb] at hr
          exact X.skip (d := .d d B0) (gV_ok hg) ht hb (X.goD (B0 := B0) hr h)
      · rename_i ht
        exact X.skip0 (d := .d d B0) (gV_ok hg) ht (X.goD (B0 := B0) hr h)
    · exact stop hr
theorem X.goF {B0 : St} : ∀ {l : List Oper} {k : Option (Nat × Bool)} {first : Bool} {d : Dr} {L : Loc} {d' : Dr} {l' : List Oper} {L' : Loc}, runG N ops true l k first d L = (d', l', L') → X Tryz.prog N ops (.f d' B0) l' B K L' Q → X Tryz.prog N ops (.f d B0) l B K L Q
  | [], k, first, d, L, d', l', L', hr, h => by
    injection hr with h1 h2
    injection h2 with h2 h3
    subst h1 h2 h3
    exact h
  | o :: l, k, first, d, L, d', l', L', hr, h => by
    have stop : (d, o :: l, L) = (d', l', L') → X Tryz.prog N ops (.f d B0) (o :: l) B K L Q := fun hr => by
      injection hr with h1 h2
      injection h2 with h2 h3
      subst h1 h2 h3
      exact h
    unfold runG at hr
    cases hok : okG k first o with
    | false => rw [hok] at hr; exact stop hr
    | true =>
    rw [hok] at hr
    simp only [cond_true] at hr
    split at hr
    · rename_i hg
      split at hr
      · rename_i v t hv ht
        cases hb : Nat.blt t N with
        | false => rw [hb] at hr; exact stop hr
        | true =>
          rw [hb] at hr
          exact X.pure (d := .f d B0) (gV_ok hg) ht hb (stepV_ok hv) (X.goF (B0 := B0) hr h)
      · exact stop hr
    · rename_i hg
      split at hr
      · rename_i t ht
        cases hb : Nat.blt t N with
        | false => rw [hb] at hr; exact stop hr
        | true =>
          rw [hb] at hr
          exact X.skip (d := .f d B0) (gV_ok hg) ht hb (X.goF (B0 := B0) hr h)
      · rename_i ht
        exact X.skip0 (d := .f d B0) (gV_ok hg) ht (X.goF (B0 := B0) hr h)
    · exact stop hr
theorem X.goO : ∀ {l : List Oper} {k : Option (Nat × Bool)} {first : Bool} {d : Dr} {L : Loc} {d' : Dr} {l' : List Oper} {L' : Loc}, runG N ops false l k first d L = (d', l', L') → X Tryz.prog N ops .o l' B K L' Q → X Tryz.prog N ops .o l B K L Q
  | [], k, first, d, L, d', l', L', hr, h => by
    injection hr with h1 h2
    injection h2 with h2 h3
    subst h1 h2 h3
    exact h
  | o :: l, k, first, d, L, d', l', L', hr, h => by
    have stop : (d, o :: l, L) = (d', l', L') → X Tryz.prog N ops .o (o :: l) B K L Q := fun hr => by
      injection hr with h1 h2
      injection h2 with h2 h3
      subst h1 h2 h3
      exact h
    unfold runG at hr
    cases hok : okG k first o with
    | false => rw [hok] at hr; exact stop hr
    | true =>
    rw [hok] at hr
    simp only [cond_true] at hr
    split at hr
    · rename_i hg
      split at hr
      · rename_i v t hv ht
        cases hb : Nat.blt t N with
        | false => rw [hb] at hr; exact stop hr
        | true =>
          rw [hb] at hr
          exact X.pure (d := .o) (gV_ok hg) ht hb (stepV_ok hv) (X.goO hr h)
      · exact stop hr
    · rename_i hg
      split at hr
      · rename_i t ht
        cases hb : Nat.blt t N with
        | false => rw [hb] at hr; exact stop hr
        | true =>
          rw [hb] at hr
          exact X.skip (d := .o) (gV_ok hg) ht hb (X.goO hr h)
      · rename_i ht
        exact X.skip0 (d := .o) (gV_ok hg) ht (X.goO hr h)
    · exact stop hr
theorem X.runD {B0 : St} {l : List Oper} {d : Dr} {L : Loc} {d' : Dr} {l' : List Oper} {L' : Loc} (hr : runP N ops false l d L = (d', l', L')) (h : X Tryz.prog N ops (.d d' B0) l' B K L' Q) : X Tryz.prog N ops (.d d B0) l B K L Q := X.goD hr h
theorem X.runF {B0 : St} {l : List Oper} {d : Dr} {L : Loc} {d' : Dr} {l' : List Oper} {L' : Loc} (hr : runP N ops true l d L = (d', l', L')) (h : X Tryz.prog N ops (.f d' B0) l' B K L' Q) : X Tryz.prog N ops (.f d B0) l B K L Q := X.goF hr h
theorem X.runO {l : List Oper} {d : Dr} {L : Loc} {d' : Dr} {l' : List Oper} {L' : Loc} (hr : runP N ops false l d L = (d', l', L')) (h : X Tryz.prog N ops .o l' B K L' Q) : X Tryz.prog N ops .o l B K L Q := X.goO hr h
def dr0 : Dr := ⟨0, 0, 0, [], [], []⟩
variable {L : Loc} {R : PostC} {id : Nat} {l' : List Oper} {L' : Loc} {d' : Dr}
/-- A region in the text's order: run as far as it is plain. -/
theorem J.ro (hN : Nat.ble N 512 = true) (hr : runP N ops false ops.toList dr0 L = (d', l', L')) (h : X Tryz.prog N ops .o l' B K L' fun _ B K L => R .normal B K L) : J Tryz.prog N B K L (.region id ops false) R :=
  J.ordX (Nat.le_of_ble_eq_true hN) (X.runO hr h)
theorem J.rd (hN : Nat.ble N 512 = true) (hr : runP N ops false ops.toList ⟨0, 0, K.length, [], [], []⟩ L = (d', l', L')) (h : X Tryz.prog N ops (.d d' B) l' B K L' fun need B K L => drawChk ops need = true ∧ R .normal B K L) : J Tryz.prog N B K L (.region id ops true) R :=
  J.drawX (Nat.le_of_ble_eq_true hN) (X.runD hr h)
theorem J.rf (hN : Nat.ble N 512 = true) (hr : runP N ops true ops.toList ⟨0, 0, K.length, [], [], []⟩ L = (d', l', L')) (h : X Tryz.prog N ops (.f d' B) l' B K L' fun need B K L => fltChk ops need = true ∧ R .normal B K L) : J Tryz.prog N B K L (.region id ops true) R :=
  J.fltX (Nat.le_of_ble_eq_true hN) (X.runF hr h)
end
end Go.Proofs.YthldmlfpebgojaaGreatDoor
