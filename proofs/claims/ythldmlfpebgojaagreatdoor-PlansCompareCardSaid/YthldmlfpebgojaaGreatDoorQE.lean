/-
  Rules for the evaluator where values are open: frames as lists, memory that stays (B) and blocks of one's own (K).
  No condition.
-/
import Derived.Test.YthldmlfpebgojaaGreatDoorQD
namespace Go.Proofs.YthldmlfpebgojaaGreatDoor
set_option linter.unusedSimpArgs false
set_option linter.unusedVariables false
open Go.RowKit Go

abbrev Loc := List (Nat × Value)
def look : Loc → Nat → Option Value
  | [], _ => none
  | (k, v) :: l, t => bif Nat.beq k t then some v else look l t
def opvL (L : Loc) : Operand → Option Value
  | .tmp t => look L t
  | .const v => bif plain v then some v else none
  | .func f => some (.func (.func f) #[] #[])
  | _ => none
def opvsL (L : Loc) : List Operand → Option (List Value)
  | [] => some []
  | x :: xs => match opvL L x with
    | some v => match opvsL L xs with
      | some vs => some (v :: vs)
      | none => none
    | none => none
def FL (L : Loc) (F : Fr) : Prop := ∀ t v, look L t = some v → frGet F t = some v
theorem FL.opv {L : Loc} {F : Fr} (h : FL L F) {x : Operand} {v : Value} (hx : opvL L x = some v) : opv F x = some v := by
  cases x with
  | tmp t => exact h t v hx
  | const u => exact hx
  | func f => exact hx
  | global g => cases hx
theorem FL.opvs {L : Loc} {F : Fr} (h : FL L F) : ∀ {xs : List Operand} {vs : List Value}, opvsL L xs = some vs → opvs F xs = some vs
  | [], vs, hx => hx
  | x :: xs, vs, hx => by
    unfold opvsL at hx
    unfold Go.Proofs.YthldmlfpebgojaaGreatDoor.opvs
    split at hx
    · rename_i v hv
      split at hx
      · rename_i us hus
        rw [h.opv hv, h.opvs hus]
        exact hx
      · cases hx
    · cases hx
/-- A slot written. -/
def setL (L : Loc) (d : Option Nat) (v : Value) : Loc := match d with
  | some t => (t, v) :: L
  | none => L
def dOk (N : Nat) : Option Nat → Bool
  | some t => Nat.blt t N
  | none => true
theorem frGet_put (F : Fr) {t : Nat} (ht : t < 512) (v : Value) : frGet (frPut F t (some v) id) t = some v ∧ ∀ s, s ≠ t → frGet (frPut F t (some v) id) s = frGet F s := by
  obtain ⟨F', h1, h2, h3⟩ := frPut_eq F ht (some v) id
  rw [h1]
  exact ⟨h2, h3⟩
theorem FL.put {N : Nat} (hN : N ≤ 512) {L : Loc} {F : Fr} (h : FL L F) {d : Option Nat} (hd : dOk N d = true) (v : Value) : ∃ F', putF N F d v = some F' ∧ FL (setL L d v) F' := by
  cases d with
  | none => exact ⟨F, rfl, h⟩
  | some t =>
    have hlt : t < N := Nat.le_of_ble_eq_true hd
    refine ⟨_, by unfold putF; simp only; rw [show Nat.blt t N = true from hd]; rfl, fun s u hs => ?_⟩
    obtain ⟨h1, h2⟩ := frGet_put F (t := t) (by omega) v
    unfold setL look at hs
    cases hk : Nat.beq t s with
    | true =>
      rw [hk] at hs
      obtain rfl := Nat.eq_of_beq_eq_true hk
      obtain rfl := some_eq hs
      exact h1
    | false =>
      rw [hk] at hs
      rw [h2 s fun e => by subst e; rw [Nat.beq_refl] at hk; cases hk]
      exact h s u hs
theorem FL.cons {L : Loc} {F : Fr} (h : FL L F) {t : Nat} {v : Value} (hv : look L t = some v) : FL ((t, v) :: L) F := fun s u hs => by
  unfold look at hs
  cases hk : Nat.beq t s with
  | true =>
    rw [hk] at hs
    obtain rfl := Nat.eq_of_beq_eq_true hk
    obtain rfl := some_eq hs
    exact h _ _ hv
  | false => rw [hk] at hs; exact h s u hs
/-- What L says of the slots of the second list. -/
def Subs (L : Loc) : Loc → Prop
  | [] => True
  | (t, v) :: l => look L t = some v ∧ Subs L l
theorem Subs.fl {L : Loc} {F : Fr} (hF : FL L F) : ∀ {L' : Loc}, Subs L L' → FL L' F
  | [], _ => fun t v ht => by cases ht
  | (k, u) :: l, h => fun t v ht => by
    unfold look at ht
    cases hk : Nat.beq k t with
    | true =>
      rw [hk] at ht
      obtain rfl := Nat.eq_of_beq_eq_true hk
      obtain rfl := some_eq ht
      exact hF _ _ h.1
    | false => rw [hk] at ht; exact Subs.fl hF h.2 t v ht
theorem Subs.refl : ∀ (L L' : Loc), (∀ t v, look L t = some v → look L' t = some v) → (∀ p ∈ L, look L p.1 = some p.2) → Subs L' L
  | [], _, _, _ => trivial
  | (k, u) :: l, L', h, hd => ⟨h k u (by unfold look; simp), by
    have : ∀ (m : Loc), (∀ p ∈ m, look L' p.1 = some p.2) → Subs L' m := fun m => by
      induction m with
      | nil => exact fun _ => trivial
      | cons p m ih => exact fun hm => ⟨hm p (by simp), ih fun q hq => hm q (by simp [hq])⟩
    exact this l fun p hp => h _ _ (hd p (by simp [hp]))⟩

abbrev St := Tr Blk
abbrev Hp := List (Option (Nat × Blk))
/-- What stood, stands. -/
def Ge (B B' : St) : Prop := ∀ b X, B.get b = some X → B'.get b = some X
theorem Ge.refl (B : St) : Ge B B := fun _ _ h => h
theorem Ge.trans {B B' B'' : St} (h : Ge B B') (k : Ge B' B'') : Ge B B'' := fun b X hb => k b X (h b X hb)
/-- The memory holds what stays and one's own. -/
structure SM (B : St) (K : Hp) (M : Mem) : Prop where
  wf : WfM M
  old : ∀ b X, B.get b = some X → M.t.get b = some X
  own : ∀ b X, some (b, X) ∈ K → M.t.get b = some X
  sep : ∀ b X, some (b, X) ∈ K → B.get b = none
  nd : ∀ (p q : Nat) b X Y, K[p]? = some (some (b, X)) → K[q]? = some (some (b, Y)) → p = q
theorem mem_at {K : Hp} {b : Nat} {X : Blk} (h : some (b, X) ∈ K) : ∃ p : Nat, K[p]? = some (some (b, X)) := List.getElem?_of_mem h
theorem at_mem {K : Hp} {p b : Nat} {X : Blk} (h : K[p]? = some (some (b, X))) : some (b, X) ∈ K := List.mem_of_getElem? h
/-- Less of one's own: K' is K's beginning, with less in it. -/
def Less (K' K : Hp) : Prop := ∀ (p b : Nat) X, K'[p]? = some (some (b, X)) → K[p]? = some (some (b, X))
theorem Less.refl (K : Hp) : Less K K := fun _ _ _ h => h
theorem Less.app (K J : Hp) : Less K (K ++ J) := fun p b X h => by
  rw [List.getElem?_append_left (List.getElem?_eq_some_iff.1 h).1]
  exact h
theorem SM.less {B : St} {K K' : Hp} {M : Mem} (h : SM B K M) (hk : Less K' K) : SM B K' M := by
  have key : ∀ b X, some (b, X) ∈ K' → some (b, X) ∈ K := fun b X hm => by
    obtain ⟨p, hp⟩ := mem_at hm
    exact at_mem (hk p b X hp)
  exact ⟨h.wf, h.old, fun b X hm => h.own b X (key b X hm), fun b X hm => h.sep b X (key b X hm), fun p q b X Y hp hq => h.nd p q b X Y (hk _ _ _ hp) (hk _ _ _ hq)⟩
theorem SM.start {B : St} {n : Nat} (h : ∀ b X, B.get b = some X → b < n) : SM B [] ⟨B, n⟩ := ⟨h, fun _ _ h => h, fun _ _ h => by simp at h, fun _ _ h => by simp at h, fun p q b X Y h => by simp at h⟩
/-- One's own comes to what stays. -/
theorem SM.give {B : St} {K : Hp} {M : Mem} (h : SM B K M) {p b : Nat} {X : Blk} (hp : K[p]? = some (some (b, X))) : SM (B.set b (some X)) (K.set p none) M ∧ Ge B (B.set b (some X)) := by
  have hm := at_mem hp
  have key : ∀ (q c : Nat) Y, (K.set p none)[q]? = some (some (c, Y)) → K[q]? = some (some (c, Y)) ∧ q ≠ p := fun q c Y hq => by
    by_cases e : p = q
    · subst e
      rw [List.getElem?_set] at hq
      split at hq
      · split at hq <;> simp at hq
      · exact absurd rfl (by assumption)
    · rw [List.getElem?_set_ne e] at hq
      exact ⟨hq, fun e2 => e e2.symm⟩
  refine ⟨⟨h.wf, fun c Y hc => ?_, fun c Y hc => ?_, fun c Y hc => ?_, fun q r c Y Z hq hr => h.nd q r c Y Z (key q c Y hq).1 (key r c Z hr).1⟩, fun c Y hc => ?_⟩
  · by_cases e : b = c
    · subst e; rw [Tr.set_self] at hc; obtain rfl := some_eq hc; exact h.own _ _ hm
    · rw [Tr.set_other _ _ e] at hc; exact h.old c Y hc
  · obtain ⟨q, hq⟩ := mem_at hc
    exact h.own c Y (at_mem (key q c Y hq).1)
  · obtain ⟨q, hq⟩ := mem_at hc
    obtain ⟨h1, h2⟩ := key q c Y hq
    have e : b ≠ c := fun e => by subst e; exact h2 (h.nd q p b Y X h1 hp)
    rw [Tr.set_other _ _ e]
    exact h.sep c Y (at_mem h1)
  · have e : b ≠ c := fun e => by subst e; rw [h.sep b X hm] at hc; cases hc
    rw [Tr.set_other _ _ e]
    exact hc

/-- A call that leaves what stands as it is: its result and what then stands. -/
def EvP (P : Program) (f : FuncId) (args : List Value) (B : St) (Q : Value → St → Prop) : Prop :=
  ∀ n, (∀ b X, B.get b = some X → b < n) → ∃ v M1, orc P f args ⟨B, n⟩ = some (v, M1) ∧ Ge B M1.t ∧ Q v M1.t
theorem EvP.mono {P : Program} {f : FuncId} {args : List Value} {B : St} {Q R : Value → St → Prop} (h : EvP P f args B Q) (k : ∀ v B1, Ge B B1 → Q v B1 → R v B1) : EvP P f args B R := fun n hn => by
  obtain ⟨v, M1, h1, h2, h3⟩ := h n hn
  exact ⟨v, M1, h1, h2, k v M1.t h2 h3⟩
/-- A call beside one's own blocks. -/
theorem EvP.beside {P : Program} {f : FuncId} {args : List Value} {B : St} {Q : Value → St → Prop} (h : EvP P f args B Q) {K : Hp} {M : Mem} (hM : SM B K M) :
    ∃ v M1 B1, orc P f args M = some (v, M1) ∧ SM B1 K M1 ∧ Ge B B1 ∧ Q v B1 := by
  obtain ⟨v, M1, h1, h2, h3⟩ := h M.nx fun b X hb => hM.wf b X (hM.old b X hb)
  have hle : ML ⟨B, M.nx⟩ M := ⟨rfl, hM.old⟩
  obtain ⟨M1', h4, h5⟩ := orc_le f args _ M v M1 hle h1
  refine ⟨v, M1', M1.t, h4, ⟨h5.wf hM.wf, h5.le.get, fun b X hb => ?_, fun b X hb => ?_, hM.nd⟩, h2, h3⟩
  · exact h5.keep b X (hM.wf b X (hM.own b X hb)) (hM.sep b X hb) (hM.own b X hb)
  · exact h5.dom b (hM.wf b X (hM.own b X hb)) (hM.sep b X hb)

abbrev PostC := Ex → St → Hp → Loc → Prop
/-- Code from a state: it ends, and the post holds. -/
def J (P : Program) (N : Nat) (B : St) (K : Hp) (L : Loc) (c : Code) (Q : PostC) : Prop :=
  ∀ M F, SM B K M → FL L F → ∃ fuel ex F1 M1 B1 K1 L1, evalCode P (orc P) N fuel c F M = some (ex, F1, M1) ∧ SM B1 K1 M1 ∧ FL L1 F1 ∧ Ge B B1 ∧ Q ex B1 K1 L1
abbrev PostO := St → Hp → Loc → Prop
/-- Operations in the text's order. -/
def JO (P : Program) (N : Nat) (ops : Array Oper) (l : List Oper) (B : St) (K : Hp) (L : Loc) (Q : PostO) : Prop :=
  ∀ M F, SM B K M → FL L F → ∃ F1 M1 B1 K1 L1, evalOps P (orc P) N ops l F M = some (F1, M1) ∧ SM B1 K1 M1 ∧ FL L1 F1 ∧ Ge B B1 ∧ Q B1 K1 L1
section
variable {P : Program} {N : Nat} {B : St} {K : Hp} {L : Loc} {Q : PostC} {c a b : Code}
theorem code_up {fuel fuel' : Nat} (h : fuel ≤ fuel') {F : Fr} {M : Mem} {r : Ex × Fr × Mem} (hr : evalCode P (orc P) N fuel c F M = some r) : evalCode P (orc P) N fuel' c F M = some r := by
  obtain ⟨ex, F1, M1⟩ := r
  obtain ⟨M1', h1, h2⟩ := evalCode_le orc_le fuel fuel' h c F (ML.refl M) ex F1 M1 hr
  rw [h1, h2.eq rfl]
theorem J.imp {R : PostC} (h : J P N B K L c Q) (k : ∀ ex B1 K1 L1, Ge B B1 → Q ex B1 K1 L1 → R ex B1 K1 L1) : J P N B K L c R := fun M F hM hF => by
  obtain ⟨fuel, ex, F1, M1, B1, K1, L1, h1, h2, h3, h4, h5⟩ := h M F hM hF
  exact ⟨fuel, ex, F1, M1, B1, K1, L1, h1, h2, h3, h4, k ex B1 K1 L1 h4 h5⟩
/-- Less may be known. -/
theorem J.less {L' : Loc} {K' : Hp} (h : J P N B K' L' c Q) (hL : Subs L L') (hK : Less K' K) : J P N B K L c Q := fun M F hM hF => h M F (hM.less hK) (Subs.fl hF hL)
theorem J.slot {t : Nat} {v : Value} (h : J P N B K ((t, v) :: L) c Q) (hv : look L t = some v) : J P N B K L c Q := fun M F hM hF => h M F hM (hF.cons hv)
/-- One's own comes to what stays. -/
theorem J.give {p b : Nat} {X : Blk} (hp : K[p]? = some (some (b, X))) (h : ∀ B1, Ge B B1 → B1.get b = some X → J P N B1 (K.set p none) L c Q) : J P N B K L c Q := fun M F hM hF => by
  obtain ⟨h1, h2⟩ := hM.give hp
  obtain ⟨fuel, ex, F1, M1, B1, K1, L1, g1, g2, g3, g4, g5⟩ := h _ h2 (Tr.set_self _ _ _) M F h1 hF
  exact ⟨fuel, ex, F1, M1, B1, K1, L1, g1, g2, g3, h2.trans g4, g5⟩
theorem J.skip (h : Q .normal B K L) : J P N B K L .skip Q := fun M F hM hF => ⟨1, .normal, F, M, B, K, L, rfl, hM, hF, Ge.refl B, h⟩
theorem J.label {l : Nat} (h : Q .normal B K L) : J P N B K L (.label l) Q := fun M F hM hF => ⟨1, .normal, F, M, B, K, L, rfl, hM, hF, Ge.refl B, h⟩
theorem J.exit {id : Nat} (h : Q (.exit id) B K L) : J P N B K L (.exit id) Q := fun M F hM hF => ⟨1, .exit id, F, M, B, K, L, rfl, hM, hF, Ge.refl B, h⟩
theorem J.ret (h : Q .ret B K L) : J P N B K L .ret Q := fun M F hM hF => ⟨1, .ret, F, M, B, K, L, rfl, hM, hF, Ge.refl B, h⟩
theorem J.scope (h : J P N B K L c Q) : J P N B K L (.scope c) Q := fun M F hM hF => by
  obtain ⟨fuel, ex, F1, M1, B1, K1, L1, h1, r⟩ := h M F hM hF
  exact ⟨fuel + 1, ex, F1, M1, B1, K1, L1, h1, r⟩
/-- What follows when the first part has ended. -/
def thenJ (P : Program) (N : Nat) (b : Code) (Q : PostC) : PostC
  | .normal, B, K, L => J P N B K L b Q
  | e, B, K, L => Q e B K L
theorem J.seq (h : J P N B K L a (thenJ P N b Q)) : J P N B K L (.seq a b) Q := fun M F hM hF => by
  obtain ⟨fuel, ex, F1, M1, B1, K1, L1, h1, h2, h3, h4, h5⟩ := h M F hM hF
  cases ex with
  | normal =>
    obtain ⟨fuel2, ex, F2, M2, B2, K2, L2, g1, g2, g3, g4, g5⟩ := h5 M1 F1 h2 h3
    refine ⟨max fuel fuel2 + 1, ex, F2, M2, B2, K2, L2, ?_, g2, g3, h4.trans g4, g5⟩
    change seqK (evalCode P (orc P) N (max fuel fuel2) a F M) (evalCode P (orc P) N (max fuel fuel2) b) = _
    rw [code_up (Nat.le_max_left _ _) h1]
    exact code_up (Nat.le_max_right _ _) g1
  | exit id =>
    refine ⟨fuel + 1, _, F1, M1, B1, K1, L1, ?_, h2, h3, h4, h5⟩
    change seqK (evalCode P (orc P) N fuel a F M) (evalCode P (orc P) N fuel b) = _
    rw [h1]
    rfl
  | ret =>
    refine ⟨fuel + 1, _, F1, M1, B1, K1, L1, ?_, h2, h3, h4, h5⟩
    change seqK (evalCode P (orc P) N fuel a F M) (evalCode P (orc P) N fuel b) = _
    rw [h1]
    rfl
theorem J.cond {x : Operand} {v : Bool} (hx : opvL L x = some (.bool v)) (ht : v = true → J P N B K L a Q) (hf : v = false → J P N B K L b Q) : J P N B K L (.cond x a b) Q := fun M F hM hF => by
  have hv := hF.opv hx
  cases v with
  | true =>
    obtain ⟨fuel, ex, F1, M1, B1, K1, L1, h1, r⟩ := ht rfl M F hM hF
    refine ⟨fuel + 1, ex, F1, M1, B1, K1, L1, ?_, r⟩
    change condK (opv F x) (evalCode P (orc P) N fuel a F M) (evalCode P (orc P) N fuel b F M) = _
    rw [hv]
    exact h1
  | false =>
    obtain ⟨fuel, ex, F1, M1, B1, K1, L1, h1, r⟩ := hf rfl M F hM hF
    refine ⟨fuel + 1, ex, F1, M1, B1, K1, L1, ?_, r⟩
    change condK (opv F x) (evalCode P (orc P) N fuel a F M) (evalCode P (orc P) N fuel b F M) = _
    rw [hv]
    exact h1
theorem J.cond_t {x : Operand} (hx : opvL L x = some (.bool true)) (h : J P N B K L a Q) : J P N B K L (.cond x a b) Q := J.cond hx (fun _ => h) (fun h => by cases h)
theorem J.cond_f {x : Operand} (hx : opvL L x = some (.bool false)) (h : J P N B K L b Q) : J P N B K L (.cond x a b) Q := J.cond hx (fun h => by cases h) (fun _ => h)
theorem J.cond_d {x : Operand} {p : Prop} [Decidable p] (hx : opvL L x = some (.bool (decide p))) (ht : p → J P N B K L a Q) (hf : ¬ p → J P N B K L b Q) : J P N B K L (.cond x a b) Q :=
  J.cond hx (fun h => ht (of_decide_eq_true h)) (fun h => hf (of_decide_eq_false h))
theorem J.cond_nd {x : Operand} {p : Prop} [Decidable p] (hx : opvL L x = some (.bool (!decide p))) (ht : ¬ p → J P N B K L a Q) (hf : p → J P N B K L b Q) : J P N B K L (.cond x a b) Q :=
  J.cond hx (fun h => ht (of_decide_eq_false (by simpa using h))) (fun h => hf (of_decide_eq_true (by simpa using h)))
def blockJ (id : Nat) (Q : PostC) : PostC
  | .exit k, B, K, L => bif Nat.beq k id then Q .normal B K L else Q (.exit k) B K L
  | e, B, K, L => Q e B K L
theorem J.block {id : Nat} (h : J P N B K L c (blockJ id Q)) : J P N B K L (.block id c) Q := fun M F hM hF => by
  obtain ⟨fuel, ex, F1, M1, B1, K1, L1, h1, h2, h3, h4, h5⟩ := h M F hM hF
  have key : ∀ {r : CodeE}, blockK id (some (ex, F1, M1)) = r → evalCode P (orc P) N (fuel + 1) (.block id c) F M = r := fun h => by
    change blockK id (evalCode P (orc P) N fuel c F M) = _
    rw [h1]
    exact h
  cases ex with
  | normal => exact ⟨fuel + 1, _, F1, M1, B1, K1, L1, key rfl, h2, h3, h4, h5⟩
  | ret => exact ⟨fuel + 1, _, F1, M1, B1, K1, L1, key rfl, h2, h3, h4, h5⟩
  | exit k =>
    unfold blockJ at h5
    simp only at h5
    cases hk : Nat.beq k id with
    | true =>
      rw [hk] at h5
      exact ⟨fuel + 1, .normal, F1, M1, B1, K1, L1, key (by unfold blockK; simp only; rw [hk]; rfl), h2, h3, h4, h5⟩
    | false =>
      rw [hk] at h5
      exact ⟨fuel + 1, .exit k, F1, M1, B1, K1, L1, key (by unfold blockK; simp only; rw [hk]; rfl), h2, h3, h4, h5⟩
def loopJ {σ : Type} (Lf : σ → Loc) (Kf : σ → Hp) (I : St → σ → Prop) (me : σ → Nat) (s : σ) (Q : PostC) : PostC
  | .normal, B, K, L => ∃ s', Subs L (Lf s') ∧ Less (Kf s') K ∧ I B s' ∧ me s' < me s
  | e, B, K, L => Q e B K L
/-- A loop: what holds at the head of each round. -/
theorem J.loop {σ : Type} (Lf : σ → Loc) (Kf : σ → Hp) (I : St → σ → Prop) (me : σ → Nat) (s0 : σ) (h0 : I B s0) (hL : Subs L (Lf s0)) (hK : Less (Kf s0) K)
    (step : ∀ s B1, Ge B B1 → I B1 s → J P N B1 (Kf s) (Lf s) c (loopJ Lf Kf I me s Q)) : J P N B K L (.loop c) Q := by
  have key : ∀ n s B1, me s < n → Ge B B1 → I B1 s → J P N B1 (Kf s) (Lf s) (.loop c) Q := by
    intro n
    induction n with
    | zero => exact fun s B1 h => absurd h (by omega)
    | succ n ih =>
      intro s B1 hm hB hI M F hM hF
      obtain ⟨fuel, ex, F1, M1, B2, K2, L2, h1, h2, h3, h4, h5⟩ := step s B1 hB hI M F hM hF
      cases ex with
      | normal =>
        obtain ⟨s', g1, g2, g3, g4⟩ := h5
        obtain ⟨fuel2, ex, F2, M2, B3, K3, L3, k1, k2, k3, k4, k5⟩ := ih s' B2 (by omega) (hB.trans h4) g3 M1 F1 (h2.less g2) (Subs.fl h3 g1)
        refine ⟨max fuel fuel2 + 1, ex, F2, M2, B3, K3, L3, ?_, k2, k3, h4.trans k4, k5⟩
        change seqK (evalCode P (orc P) N (max fuel fuel2) c F M) (evalCode P (orc P) N (max fuel fuel2) (.loop c)) = _
        rw [code_up (Nat.le_max_left _ _) h1]
        exact code_up (Nat.le_max_right _ _) k1
      | exit id =>
        refine ⟨fuel + 1, _, F1, M1, B2, K2, L2, ?_, h2, h3, h4, h5⟩
        change seqK (evalCode P (orc P) N fuel c F M) (evalCode P (orc P) N fuel (.loop c)) = _
        rw [h1]
        rfl
      | ret =>
        refine ⟨fuel + 1, _, F1, M1, B2, K2, L2, ?_, h2, h3, h4, h5⟩
        change seqK (evalCode P (orc P) N fuel c F M) (evalCode P (orc P) N fuel (.loop c)) = _
        rw [h1]
        rfl
  exact (key _ s0 B (Nat.lt_succ_self _) (Ge.refl B) h0).less hL hK
theorem J.region {id : Nat} {ops : Array Oper} (h : JO P N ops ops.toList B K L (Q .normal)) : J P N B K L (.region id ops false) Q := fun M F hM hF => by
  obtain ⟨F1, M1, B1, K1, L1, h1, h2, h3, h4, h5⟩ := h M F hM hF
  refine ⟨1, .normal, F1, M1, B1, K1, L1, ?_, h2, h3, h4, h5⟩
  change regK (evalOps P (orc P) N ops ops.toList F M) = _
  rw [h1]
  rfl

/- The end of a call. -/
/-- A result's value. -/
inductive Res (P : Program) (B : St) (K : Hp) (L : Loc) : ResultVar → Value → Prop
  | tmp {t : Nat} {v : Value} (h : look L t = some v) : Res P B K L (.tmp t) v
  | cellA {t T b o n p : Nat} {X : Blk} {cs : List Value} (h : look L t = some (.pointer (some ⟨b, o, none⟩))) (ha : quick P (isAgg T) = some true) (hn : quick P (sizeOf T) = some n) (hp : K[p]? = some (some (b, X))) (hc : rdK X (cut X.cells o n) = some cs) : Res P B K L (.cell t T) (.agg cs.toArray)
  | cell1 {t T b o p : Nat} {X : Blk} {v : Value} (h : look L t = some (.pointer (some ⟨b, o, none⟩))) (ha : quick P (isAgg T) = some false) (hp : K[p]? = some (some (b, X))) (hc : rdK X (cut X.cells o 1) = some [v]) : Res P B K L (.cell t T) v
inductive Ress (P : Program) (B : St) (K : Hp) (L : Loc) : List ResultVar → List Value → Prop
  | nil : Ress P B K L [] []
  | cons {r : ResultVar} {v : Value} {rs : List ResultVar} {vs : List Value} : Res P B K L r v → Ress P B K L rs vs → Ress P B K L (r :: rs) (v :: vs)
theorem Res.ev {r : ResultVar} {v : Value} (h : Res P B K L r v) {M : Mem} {F : Fr} (hM : SM B K M) (hF : FL L F) : result1 P F M r = some v := by
  cases h with
  | tmp h => exact hF _ _ h
  | cellA h ha hn hp hc =>
    have hg := hM.own _ _ (at_mem hp)
    unfold result1
    simp only [hF _ _ h, ha, hn, rd, hg, hc]
  | cell1 h ha hp hc =>
    have hg := hM.own _ _ (at_mem hp)
    unfold result1
    simp only [hF _ _ h, ha, rd, hg, hc]
theorem Ress.ev {rs : List ResultVar} {vs : List Value} (h : Ress P B K L rs vs) {M : Mem} {F : Fr} (hM : SM B K M) (hF : FL L F) : resultsE P F M rs = some vs := by
  induction h with
  | nil => rfl
  | cons h1 _ ih =>
    unfold resultsE
    rw [h1.ev hM hF, ih]
/-- The post of a body: the results, and what is asked of them in all that stands then. -/
def retJ (P : Program) (rs : List ResultVar) (Q : Value → St → Prop) : PostC
  | .exit _, _, _, _ => False
  | _, B, K, L => ∃ vs, Ress P B K L rs vs ∧ vs.all flatV = true ∧ ∀ B', Ge B B' → (∀ b X, some (b, X) ∈ K → B'.get b = some X) → Q (tupleE vs) B'
def argsL : Nat → List Value → Loc
  | _, [] => []
  | k, x :: xs => (k, x) :: argsL (k + 1) xs
theorem argsL_look : ∀ (args : List Value) (k t : Nat) (v : Value), look (argsL k args) t = some v → k ≤ t ∧ args[t - k]? = some v
  | [], k, t, v, h => by cases h
  | x :: xs, k, t, v, h => by
    unfold argsL look at h
    cases hk : Nat.beq k t with
    | true =>
      rw [hk] at h
      obtain rfl := Nat.eq_of_beq_eq_true hk
      obtain rfl := some_eq h
      exact ⟨Nat.le_refl _, by simp⟩
    | false =>
      rw [hk] at h
      obtain ⟨h1, h2⟩ := argsL_look xs (k + 1) t v h
      refine ⟨by omega, ?_⟩
      rw [show t - k = (t - (k + 1)) + 1 by omega]
      exact h2
theorem frArgs_put : ∀ (args : List Value) (k : Nat) (F : Fr) (t : Nat) (v : Value), k + args.length ≤ 512 → k ≤ t → args[t - k]? = some v → frGet (frArgs k args F) t = some v
  | [], k, F, t, v, _, _, h => by simp at h
  | x :: xs, k, F, t, v, hk, hkt, h => by
    rw [List.length_cons] at hk
    obtain ⟨F', h1, h2, h3⟩ := frPut_eq F (k := k) (by omega) (some x) (fun t => frArgs (Nat.succ k) xs t)
    change frGet (frPut F k (some x) fun t => frArgs (Nat.succ k) xs t) t = some v
    rw [h1]
    by_cases e : t = k
    · subst e
      have hv : x = v := by simpa using h
      subst hv
      have keep : ∀ (args : List Value) (j : Nat) (F : Fr), t < j → j + args.length ≤ 512 → frGet (frArgs j args F) t = frGet F t := by
        intro args
        induction args with
        | nil => exact fun j F _ _ => rfl
        | cons y ys ih =>
          intro j F hj hl
          rw [List.length_cons] at hl
          obtain ⟨F2, g1, g2, g3⟩ := frPut_eq F (k := j) (by omega) (some y) (fun t => frArgs (Nat.succ j) ys t)
          change frGet (frPut F j (some y) fun t => frArgs (Nat.succ j) ys t) t = _
          rw [g1, ih (j + 1) F2 (by omega) (by omega), g3 t (by omega)]
      rw [keep xs (t + 1) F' (by omega) (by omega), h2]
    · exact frArgs_put xs (k + 1) F' t v (by omega) (by omega) (by
        rw [show t - k = (t - (k + 1)) + 1 by omega] at h
        exact h)
/-- A call by its body. -/
theorem EvP.enter {f : FuncId} {fn : Func} {args : List Value} {R : Value → St → Prop} (hd : clFns.any (Nat.beq f) = false) (hf : P.funcs[f]? = some fn) (hb : fn.body = some c) (hn : (Nat.ble args.length fn.ntmps && Nat.ble fn.ntmps 512) = true)
    (h : J P fn.ntmps B [] (argsL 0 args) c (retJ P fn.results.toList R)) : EvP P f args B R := fun n hB => by
  simp only [Bool.and_eq_true] at hn
  have hn1 := Nat.le_of_ble_eq_true hn.1
  have hn2 := Nat.le_of_ble_eq_true hn.2
  obtain ⟨fuel, ex, F1, M1, B1, K1, L1, h1, h2, h3, h4, h5⟩ := h ⟨B, n⟩ (frArgs 0 args fr0) (SM.start hB) fun t v ht => by
    obtain ⟨g1, g2⟩ := argsL_look args 0 t v ht
    exact frArgs_put args 0 fr0 t v (by omega) g1 g2
  have fin : ∀ {e : Ex}, ex = e → (∀ id, e ≠ .exit id) → (∃ vs, Ress P B1 K1 L1 fn.results.toList vs ∧ vs.all flatV = true ∧ ∀ B', Ge B1 B' → (∀ b X, some (b, X) ∈ K1 → B'.get b = some X) → R (tupleE vs) B') →
      ∃ v M1, orc P f args ⟨B, n⟩ = some (v, M1) ∧ Ge B M1.t ∧ R v M1.t := by
    rintro e rfl hne ⟨vs, g1, g2, g3⟩
    refine ⟨tupleE vs, M1, orc_body (fuel := fuel) hd ?_, h4.trans h2.old, g3 M1.t h2.old h2.own⟩
    unfold callStep
    rw [hf]
    simp only
    unfold bodyK
    rw [hb]
    simp only
    rw [Nat.ble_eq_true_of_le hn1, Nat.ble_eq_true_of_le hn2, h1]
    simp only [Bool.and_self, cond_true]
    unfold endK
    have hr := g1.ev h2 h3
    cases ex with
    | exit id => exact absurd rfl (hne id)
    | normal => simp only [hr, g2, cond_true]
    | ret => simp only [hr, g2, cond_true]
  cases ex with
  | exit id => exact h5.elim
  | normal => exact fin rfl (fun id e => by cases e) h5
  | ret => exact fin rfl (fun id e => by cases e) h5
end
end Go.Proofs.YthldmlfpebgojaaGreatDoor
