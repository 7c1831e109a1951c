/-
  Rules for operations, in the text's order or in an order that is drawn.
  No condition.
-/
import Derived.Test.YthldmlfpebgojaaGreatDoorQE
namespace Go.Proofs.YthldmlfpebgojaaGreatDoor
set_option linter.unusedSimpArgs false
set_option linter.unusedVariables false
open Go.RowKit Go

/-- An operation that looks at no memory. -/
def OPure (P : Program) (o : Oper) (L : Loc) (v : Value) : Prop := isChg o = false ∧ isRd o = false ∧ ∀ F M, FL L F → evalOp P o F M = some (.w v) ∨ evalOp P o F M = some (.v v .no)
/-- An operation that reads where C holds. -/
def OLoad (P : Program) (o : Oper) (L : Loc) (C : St → Prop) (v : Value) : Prop := isChg o = false ∧ isRd o = true ∧ sameV v v = true ∧ (∀ F M, FL L F → C M.t → evalOp P o F M = some (.w v) ∨ evalOp P o F M = some (.v v .no)) ∧ ∀ B B', Ge B B' → C B → C B'
/-- An operation that may change the memory. -/
def OChg (P : Program) (o : Oper) (B : St) (K : Hp) (L : Loc) (R : Value → St → Hp → Prop) : Prop := isChg o = true ∧ ∀ F M, FL L F → SM B K M →
  (∃ v m B1 K1, evalOp P o F M = some (.v v m) ∧ SM B1 K1 (m.apply M) ∧ Ge B B1 ∧ R v B1 K1) ∨
  (∃ f args v M1 B1 K1, evalOp P o F M = some (.call f args) ∧ orc P f args M = some (v, M1) ∧ SM B1 K1 M1 ∧ Ge B B1 ∧ R v B1 K1)
/-- Whether an operation is carried out. -/
def gOk (ops : Array Oper) (o : Oper) (L : Loc) (r : Bool) : Prop := ∀ F, FL L F → wantedE ops o F = some r
section
variable {ops : Array Oper} {o : Oper} {L : Loc}
theorem gOk.none (h : o.guard = none) : gOk ops o L true := fun F hF => by unfold wantedE; rw [h]
theorem gOk.bool {g t : Nat} {b c r : Bool} (h : o.guard = some (g, b)) (ht : (ops[g]?).bind (·.dst) = some t) (hv : look L t = some (.bool c)) (hc : (c == b) = r) : gOk ops o L r := fun F hF => by
  unfold wantedE
  rw [h]
  simp only
  unfold guardE
  rw [ht]
  simp only [hF _ _ hv]
  rw [hc]
theorem gOk.undef {g t : Nat} {b : Bool} {vs : Array Value} (h : o.guard = some (g, b)) (ht : (ops[g]?).bind (·.dst) = some t) (hv : look L t = some (.tuple vs)) : gOk ops o L false := fun F hF => by
  unfold wantedE
  rw [h]
  simp only
  unfold guardE
  rw [ht]
  simp only [hF _ _ hv]
end
/-- What is asked of a region's static order: in these states the load may not run. -/
abbrev Need := Nat × Nat × Option Nat
/-- The stand of a region that draws its order: operations and changes so far; what stood ahead, how much of one's own stood ahead; loads of one's own blocks; blocks that were changed; what is asked. -/
structure Dr where
  mk ::
  j : Nat
  m : Nat
  n0 : Nat
  RK : List (Nat × Nat)
  D : List Nat
  need : List Need
def Dr.inc (d : Dr) : Dr := ⟨Nat.succ d.j, d.m, d.n0, d.RK, d.D, d.need⟩
def Dr.chg (d : Dr) : Dr := ⟨Nat.succ d.j, Nat.succ d.m, d.n0, d.RK, d.D, d.need⟩
def Dr.skip (d : Dr) (c : Bool) : Dr := ⟨Nat.succ d.j, bif c then Nat.succ d.m else d.m, d.n0, d.RK, d.D, d.need⟩
def Dr.loadB (d : Dr) : Dr := ⟨Nat.succ d.j, d.m, d.n0, d.RK, d.D, (d.j, 0, some d.m) :: d.need⟩
def Dr.loadK (d : Dr) (p : Nat) : Dr := ⟨Nat.succ d.j, d.m, d.n0, (d.j, p) :: d.RK, d.D, bif Nat.blt p d.n0 && !d.D.contains p then d.need else (d.j, 0, some d.m) :: d.need⟩
def modNeed (m p : Nat) : List (Nat × Nat) → List Need → List Need
  | [], n => n
  | (j, q) :: l, n => bif Nat.beq q p then (j, Nat.succ m, none) :: modNeed m p l n else modNeed m p l n
def Dr.mod (d : Dr) (p : Nat) : Dr := ⟨Nat.succ d.j, Nat.succ d.m, d.n0, d.RK.filter fun x => !Nat.beq x.2 p, p :: d.D, modNeed d.m p d.RK d.need⟩
theorem modNeed_sub {m p : Nat} : ∀ {l : List (Nat × Nat)} {n : List Need}, (∀ x ∈ n, x ∈ modNeed m p l n) ∧ ∀ j, (j, p) ∈ l → (j, m + 1, (none : Option Nat)) ∈ modNeed m p l n
  | [], n => ⟨fun _ h => h, fun _ h => by simp at h⟩
  | (j, q) :: l, n => by
    obtain ⟨h1, h2⟩ := modNeed_sub (m := m) (p := p) (l := l) (n := n)
    unfold modNeed
    cases hq : Nat.beq q p with
    | true =>
      obtain rfl := Nat.eq_of_beq_eq_true hq
      refine ⟨fun x hx => List.mem_cons_of_mem _ (h1 x hx), fun i hi => ?_⟩
      rcases List.mem_cons.1 hi with e | hi
      · injection e with e1 e2
        subst e1
        exact .head _
      · exact List.mem_cons_of_mem _ (h2 i hi)
    | false =>
      refine ⟨h1, fun i hi => ?_⟩
      rcases List.mem_cons.1 hi with e | hi
      · injection e with e1 e2
        subst e2
        rw [Nat.beq_refl] at hq
        cases hq
      · exact h2 i hi
def inNeed (x : Need) (j s : Nat) : Prop := x.1 = j ∧ x.2.1 ≤ s ∧ ∀ h, x.2.2 = some h → s < h
/-- The load says the same in this memory. -/
def again (P : Program) (ld : Ld) (M : Mem) : Prop := sameOut (evalOp P ld.o ld.F M) ld.v = true
/-- What is known of the memories so far and of the loads. -/
structure HOk (P : Program) (d : Dr) (B0 B : St) (K : Hp) (lds : List Ld) (ml : List Mem) : Prop where
  len : ml.length = d.m + 1
  ge : Ge B0 B
  all : ∀ Ms ∈ ml, ∀ b X, B0.get b = some X → Ms.t.get b = some X
  own : ∀ p, p < d.n0 → p ∉ d.D → ∀ b X, K[p]? = some (some (b, X)) → ∀ Ms ∈ ml, Ms.t.get b = some X
  lds : ∀ ld ∈ lds, (∀ (s : Nat) Ms, ml.reverse[s]? = some Ms → s = ld.k ∨ (∃ x ∈ d.need, inNeed x ld.j s) ∨ again P ld Ms) ∧
    ((∀ M' : Mem, (∀ b X, B.get b = some X → M'.t.get b = some X) → again P ld M') ∨ (∃ p b X, (ld.j, p) ∈ d.RK ∧ K[p]? = some (some (b, X)) ∧ ∀ M' : Mem, M'.t.get b = some X → again P ld M') ∨
      ∃ x ∈ d.need, x.1 = ld.j ∧ x.2.1 ≤ d.m + 1 ∧ x.2.2 = none)
abbrev PostX := List Need → St → Hp → Loc → Prop
def NeedOk (ops : Array Oper) (need : List Need) : Prop := ∀ x ∈ need, ∀ s, s ≤ cnt ops ops.size → inNeed x x.1 s → allowed ops (masks ops.toList []) s x.1 = false
def NeedOkF (ops : Array Oper) (need : List Need) : Prop := ∀ x ∈ need, ∀ s, s ≤ mcnt ops ops.size → inNeed x x.1 s → allowedF ops (masks ops.toList []) s x.1 = false
/-- How a region's operations run: in the text's order; drawn; drawn, with free blocks. -/
inductive Md where
  | o
  | d (d : Dr) (B0 : St)
  | f (d : Dr) (B0 : St)
/-- Operations from a state. -/
def JX (P : Program) (N : Nat) (ops : Array Oper) (d : Md) (l : List Oper) (B : St) (K : Hp) (L : Loc) (Q : PostX) : Prop := match d with
  | .o => JO P N ops l B K L (Q [])
  | .d d B0 => ∀ M F lds mems, SM B K M → FL L F → HOk P d B0 B K lds (mems.map (·.1)) → ∃ need F1 M1 B1 K1 L1, (∀ x ∈ d.need, x ∈ need) ∧
      (NeedOk ops need → (∀ s, s ∈ List.range (d.m + 1 + ((l.filter isChg).length)) → s ≤ cnt ops ops.size) → loose ops (masks ops.toList []) = false → evalDrawL P (orc P) N ops l F M lds mems d.j = some (F1, M1)) ∧ SM B1 K1 M1 ∧ FL L1 F1 ∧ Ge B B1 ∧ Q need B1 K1 L1
  | .f d B0 => ∀ M F lds mems k, SM B K M → FL L F → HOk P d B0 B K lds mems → (∀ b, k ≤ b → b < k + (l.filter isFl).length → M.t.get b = none ∧ b < M.nx) → ∃ need F1 M1 B1 K1 L1, (∀ x ∈ d.need, x ∈ need) ∧
      (NeedOkF ops need → (∀ s, s ∈ List.range (d.m + 1 + ((l.filter isMn).length)) → s ≤ mcnt ops ops.size) → evalFltL P (orc P) N ops l F M lds mems d.j k = some (F1, M1)) ∧ SM B1 K1 M1 ∧ FL L1 F1 ∧ Ge B B1 ∧ Q need B1 K1 L1
def dMap (d : Md) (f : Dr → Dr) : Md := match d with
  | .o => .o
  | .d d B0 => .d (f d) B0
  | .f d B0 => .f (f d) B0
/-- The stand of a drawn region. -/
def Md.at (d : Md) (d0 : Dr) (B0 : St) : Prop := d = .d d0 B0 ∨ d = .f d0 B0
theorem flt_len (o : Oper) (l : List Oper) : ((o :: l).filter isFl).length = (l.filter isFl).length + (bif isFl o then 1 else 0) := by
  cases hf : isFl o with
  | true => rw [List.filter_cons_of_pos hf]; rfl
  | false => rw [List.filter_cons_of_neg (by rw [hf]; simp)]; rfl
theorem mn_len (o : Oper) (l : List Oper) : ((o :: l).filter isMn).length = (l.filter isMn).length + (bif isMn o then 1 else 0) := by
  cases hf : isMn o with
  | true => rw [List.filter_cons_of_pos hf]; rfl
  | false => rw [List.filter_cons_of_neg (by rw [hf]; simp)]; rfl
theorem not_chg {o : Oper} (h : isChg o = false) : isFl o = false ∧ isMn o = false := by
  refine ⟨?_, by unfold isMn; rw [h]; rfl⟩
  cases hf : isFl o with
  | false => rfl
  | true => rw [fl_chg hf] at h; cases h
section
variable {P : Program} {N : Nat} {ops : Array Oper} {d : Md} {l : List Oper} {o : Oper} {B : St} {K : Hp} {L : Loc} {Q : PostX} {v : Value}
theorem same_again {ld : Ld} {M' : Mem} (h : evalOp P ld.o ld.F M' = some (.w ld.v) ∨ evalOp P ld.o ld.F M' = some (.v ld.v .no)) (hs : sameV ld.v ld.v = true) : again P ld M' := by
  unfold again
  rcases h with h | h <;> rw [h] <;> exact hs
theorem HOk.done {d : Dr} {B0 : St} {lds : List Ld} {ml : List Mem} {al : Nat → Nat → Bool} (hH : HOk P d B0 B K lds ml) {n : Nat} (hs : d.m ≤ n) (hn : ∀ x ∈ d.need, ∀ s, s ≤ n → inNeed x x.1 s → al s x.1 = false) :
    (∀ ld ∈ lds, ∀ (s : Nat), s < ml.length → (Nat.beq s ld.k || !al s ld.j || match ml.reverse[s]? with
      | some M => sameOut (evalOp P ld.o ld.F M) ld.v
      | none => false) = true) := by
  intro ld hld s hlt
  obtain ⟨Ms, hMs⟩ : ∃ Ms, ml.reverse[s]? = some Ms := ⟨_, List.getElem?_eq_getElem (by simpa using hlt)⟩
  rw [hMs]
  rw [hH.len] at hlt
  simp only [Bool.or_eq_true, Bool.not_eq_true']
  rcases (hH.lds ld hld).1 s Ms hMs with h1 | ⟨x, hx, h2⟩ | h3
  · exact .inl (.inl (by rw [h1]; exact Nat.beq_refl _))
  · refine .inl (.inr ?_)
    have h4 := hn x hx s (by omega) ⟨rfl, h2.2⟩
    rw [h2.1] at h4
    exact h4
  · exact .inr h3
theorem JX.nil (h : ∀ d0 B0, d.at d0 B0 → Q d0.need B K L) (h2 : d = .o → Q [] B K L) : JX P N ops d [] B K L Q := by
  cases d with
  | o => exact fun M F hM hF => ⟨F, M, B, K, L, rfl, hM, hF, Ge.refl B, h2 rfl⟩
  | d d B0 =>
    intro M F lds mems hM hF hH
    refine ⟨d.need, F, M, B, K, L, fun _ h => h, fun hn hs hl => ?_, hM, hF, Ge.refl B, h d B0 (.inl rfl)⟩
    change endD P ops F M lds mems d.j = _
    unfold endD statesD
    rw [hl]
    simp only [cond_false]
    have : lds.all (ldOk P ops (masks ops.toList []) (mems.reverse.map (·.1))) = true := by
      rw [List.all_eq_true]
      intro ld hld
      unfold ldOk
      rw [List.all_eq_true]
      intro s hsr
      have hlt : s < (mems.map (·.1)).length := by simpa using hsr
      have := hH.done (al := allowed ops (masks ops.toList [])) (hs d.m (by rw [List.mem_range]; omega)) hn ld hld s hlt
      rw [← List.map_reverse] at this
      exact this
    simp only [this, cond_true]
  | f d B0 =>
    intro M F lds mems k hM hF hH _
    refine ⟨d.need, F, M, B, K, L, fun _ h => h, fun hn hs => ?_, hM, hF, Ge.refl B, h d B0 (.inr rfl)⟩
    change endF P ops F M lds mems d.j k = _
    unfold endF
    have : lds.all (ldOkF P ops (masks ops.toList []) mems.reverse) = true := by
      rw [List.all_eq_true]
      intro ld hld
      unfold ldOkF
      rw [List.all_eq_true]
      intro s hsr
      have hlt : s < mems.length := by simpa using hsr
      exact hH.done (al := allowedF ops (masks ops.toList [])) (hs d.m (by rw [List.mem_range]; omega)) hn ld hld s hlt
    simp only [this, cond_true]
theorem fresh_eff {M : Mem} {F : Fr} {m : Eff} {k n : Nat} (e : evalOp P o F M = some (.v v m)) (h : ∀ b, k ≤ b → b < k + n → M.t.get b = none ∧ b < M.nx) (b : Nat) (h1 : k ≤ b) (h2 : b < k + n) : (m.apply M).t.get b = none ∧ b < (m.apply M).nx := by
  have hb := Beside.eff (ML.refl M) (m := m) (evalOp_mono (ML.refl M) e).2
  obtain ⟨g1, g2⟩ := h b h1 h2
  exact ⟨hb.dom b g2 g1, Nat.lt_of_lt_of_le g2 hb.nx⟩
theorem fresh_call {M M1 : Mem} {f : FuncId} {args : List Value} {k n : Nat} (e : orc P f args M = some (v, M1)) (h : ∀ b, k ≤ b → b < k + n → M.t.get b = none ∧ b < M.nx) (b : Nat) (h1 : k ≤ b) (h2 : b < k + n) : M1.t.get b = none ∧ b < M1.nx := by
  obtain ⟨_, _, hb⟩ := orc_le f args M M v M1 (ML.refl M) e
  obtain ⟨g1, g2⟩ := h b h1 h2
  exact ⟨hb.dom b g2 g1, Nat.lt_of_lt_of_le g2 hb.nx⟩
theorem HOk.next {d d' : Dr} {B0 B1 : St} {K1 : Hp} {M1 : Mem} {lds : List Ld} {mems : List Mem} (h : HOk P d B0 B K lds mems) (hM1 : SM B1 K1 M1) (hB : Ge B B1) (hm : d'.m = d.m + 1) (hn0 : d'.n0 = d.n0) (hneed : ∀ x ∈ d.need, x ∈ d'.need)
    (hD : ∀ p, p ∉ d'.D → p ∉ d.D) (hK : ∀ (p b : Nat) X, p ∉ d'.D → K[p]? = some (some (b, X)) → K1[p]? = some (some (b, X))) (hK' : ∀ (p b : Nat) X, p < d.n0 → p ∉ d'.D → K1[p]? = some (some (b, X)) → K[p]? = some (some (b, X)))
    (hRK : ∀ j p, (j, p) ∈ d.RK → ((j, p) ∈ d'.RK ∧ p ∉ d'.D) ∨ ((j, p) ∈ d'.RK ∧ ∀ b X, K[p]? = some (some (b, X)) → K1[p]? = some (some (b, X))) ∨ ∃ x ∈ d'.need, x.1 = j ∧ x.2.1 ≤ d.m + 1 ∧ x.2.2 = none) : HOk P d' B0 B1 K1 lds (M1 :: mems) := by
  have hlen : mems.reverse.length = d.m + 1 := by simp [h.len]
  refine ⟨by rw [List.length_cons, h.len, hm], h.ge.trans hB, fun Ms hMs => ?_, fun p hp hpD b X hk Ms hMs => ?_, fun ld hld => ⟨fun s Ms hMs => ?_, ?_⟩⟩
  · rcases List.mem_cons.1 hMs with e | hMs
    · subst e
      exact fun b X hb => hM1.old b X (hB b X (h.ge b X hb))
    · exact h.all Ms hMs
  · rcases List.mem_cons.1 hMs with e | hMs
    · subst e
      exact hM1.own b X (at_mem hk)
    · rw [hn0] at hp
      exact h.own p hp (hD p hpD) b X (hK' p b X hp hpD hk) Ms hMs
  · rw [List.reverse_cons] at hMs
    obtain ⟨h1, h2⟩ := h.lds ld hld
    by_cases hs : s < d.m + 1
    · rw [List.getElem?_append_left (by rw [hlen]; exact hs)] at hMs
      rcases h1 s Ms hMs with h3 | ⟨x, hx, h3⟩ | h3
      · exact .inl h3
      · exact .inr (.inl ⟨x, hneed x hx, h3⟩)
      · exact .inr (.inr h3)
    · rw [List.getElem?_append_right (by rw [hlen]; omega), hlen] at hMs
      have hs2 := (List.getElem?_eq_some_iff.1 hMs).1
      simp only [List.length_cons, List.length_nil] at hs2
      obtain rfl : s = d.m + 1 := by omega
      have e : M1 = Ms := by simpa using hMs
      subst e
      rcases h2 with h2 | ⟨p, b, X, h3, h4, h5⟩ | ⟨x, hx, h3, h4, h5⟩
      · exact .inr (.inr (h2 M1 fun b X hb => hM1.old b X (hB b X hb)))
      · rcases hRK _ _ h3 with ⟨_, h6⟩ | ⟨_, h6⟩ | ⟨x, hx, h7, h8, h9⟩
        · exact .inr (.inr (h5 M1 (hM1.own b X (at_mem (hK p b X h6 h4)))))
        · exact .inr (.inr (h5 M1 (hM1.own b X (at_mem (h6 b X h4)))))
        · exact .inr (.inl ⟨x, hx, h7, h8, fun h e => by rw [h9] at e; cases e⟩)
      · exact .inr (.inl ⟨x, hneed x hx, h3, h4, fun h e => by rw [h5] at e; cases e⟩)
  · obtain ⟨_, h2⟩ := h.lds ld hld
    rcases h2 with h2 | ⟨p, b, X, h3, h4, h5⟩ | ⟨x, hx, h3, h4, h5⟩
    · exact .inl fun M' hM' => h2 M' fun b X hb => hM' b X (hB b X hb)
    · rcases hRK _ _ h3 with ⟨h6, h7⟩ | ⟨h6, h7⟩ | ⟨x, hx, h7, h8, h9⟩
      · exact .inr (.inl ⟨p, b, X, h6, hK p b X h7 h4, h5⟩)
      · exact .inr (.inl ⟨p, b, X, h6, h7 b X h4, h5⟩)
      · exact .inr (.inr ⟨x, hx, h7, by omega, h9⟩)
    · exact .inr (.inr ⟨x, hneed x hx, h3, by omega, h5⟩)
theorem HOk.keep {d d' : Dr} {B0 : St} {K1 : Hp} {lds : List Ld} {mems : List Mem} (h : HOk P d B0 B K lds mems) (hm : d'.m = d.m) (hn0 : d'.n0 = d.n0) (hneed : ∀ x ∈ d.need, x ∈ d'.need) (hD : d'.D = d.D) (hRK : ∀ x ∈ d.RK, x ∈ d'.RK)
    (hK : ∀ (p b : Nat) X, K[p]? = some (some (b, X)) → K1[p]? = some (some (b, X))) (hK' : ∀ (p b : Nat) X, p < d.n0 → K1[p]? = some (some (b, X)) → K[p]? = some (some (b, X))) : HOk P d' B0 B K1 lds mems := by
  refine ⟨by rw [hm]; exact h.len, h.ge, h.all, fun p hp hpD b X hk => h.own p (by rw [← hn0]; exact hp) (by rw [← hD]; exact hpD) b X (hK' p b X (by rw [← hn0]; exact hp) hk), fun ld hld => ⟨fun s Ms hMs => ?_, ?_⟩⟩
  · rcases (h.lds ld hld).1 s Ms hMs with h3 | ⟨x, hx, h3⟩ | h3
    · exact .inl h3
    · exact .inr (.inl ⟨x, hneed x hx, h3⟩)
    · exact .inr (.inr h3)
  · rcases (h.lds ld hld).2 with h2 | ⟨p, b, X, h3, h4, h5⟩ | ⟨x, hx, h3, h4, h5⟩
    · exact .inl h2
    · exact .inr (.inl ⟨p, b, X, hRK _ h3, hK p b X h4, h5⟩)
    · exact .inr (.inr ⟨x, hneed x hx, h3, by rw [hm]; exact h4, h5⟩)
theorem JX.pure (hN : N ≤ 512) (hg : gOk ops o L true) (ho : OPure P o L v) (hd : dOk N o.dst = true) (h : JX P N ops (dMap d .inc) l B K (setL L o.dst v) Q) : JX P N ops d (o :: l) B K L Q := by
  obtain ⟨hc, hr, ho⟩ := ho
  cases d with
  | o =>
    intro M F hM hF
    obtain ⟨F', hp, hF'⟩ := hF.put hN hd v
    obtain ⟨F1, M1, B1, K1, L1, h1, r⟩ := h M F' hM hF'
    refine ⟨F1, M1, B1, K1, L1, ?_, r⟩
    change opK P (orc P) N ops o F M (fun F M => evalOps P (orc P) N ops l F M) = _
    unfold opK
    rw [hg F hF]
    simp only
    unfold outK
    rcases ho F M hF with e | e <;> rw [e] <;> simp only [fV_eq, putFK_eq, hp, Option.bind_some] <;> exact h1
  | f d B0 =>
    obtain ⟨hnf, hnm⟩ := not_chg hc
    intro M F lds mems k hM hF hH hfr
    obtain ⟨F', hp, hF'⟩ := hF.put hN hd v
    rw [flt_len, hnf] at hfr
    obtain ⟨need, F1, M1, B1, K1, L1, h0, h1, r⟩ := h M F' lds mems k hM hF' (hH.keep rfl rfl (fun _ h => h) rfl (fun _ h => h) (fun _ _ _ h => h) (fun _ _ _ _ h => h)) hfr
    refine ⟨need, F1, M1, B1, K1, L1, h0, fun hn hs => ?_, r⟩
    have h1 := h1 hn (fun s hs2 => hs s (by rw [mn_len, hnm]; exact hs2))
    change opF P (orc P) N ops o (evalFltL P (orc P) N ops l) F M lds mems d.j k = _
    unfold opF
    rw [hg F hF, hnf]
    simp only [cond_false]
    unfold outF
    have key : nextF o F v F' .no M lds mems d.j k (evalFltL P (orc P) N ops l) = some (F1, M1) := by
      unfold nextF
      simp only [hc, hr, cond_false, Eff.isNo, cond_true]
      exact h1
    rcases ho F M hF with e | e <;> rw [e] <;> simp only [fV_eq, putFK_eq, hp, Option.bind_some, Eff.applyK_eq] <;> exact key
  | d d B0 =>
    intro M F lds mems hM hF hH
    obtain ⟨F', hp, hF'⟩ := hF.put hN hd v
    obtain ⟨need, F1, M1, B1, K1, L1, h0, h1, r⟩ := h M F' lds mems hM hF' (hH.keep rfl rfl (fun _ h => h) rfl (fun _ h => h) (fun _ _ _ h => h) (fun _ _ _ _ h => h))
    refine ⟨need, F1, M1, B1, K1, L1, h0, fun hn hs hl => ?_, r⟩
    have h1 := h1 hn (fun s hs2 => hs s (by rw [List.filter_cons_of_neg (by rw [hc]; simp)]; exact hs2)) hl
    change opD P (orc P) N ops o (evalDrawL P (orc P) N ops l) F M lds mems d.j = _
    unfold opD
    rw [hg F hF]
    simp only
    unfold outD
    have key : nextD o F v F' .no M lds mems d.j (evalDrawL P (orc P) N ops l) = some (F1, M1) := by
      unfold nextD
      simp only [hc, hr, cond_false, Eff.isNo, cond_true]
      exact h1
    rcases ho F M hF with e | e <;> rw [e] <;> simp only [fV_eq, putFK_eq, hp, Option.bind_some, Eff.applyK_eq] <;> exact key
/-- An operation whose guard says no. -/
theorem JX.skip (hN : N ≤ 512) (hg : gOk ops o L false) (hd : dOk N o.dst = true) (h : JX P N ops (dMap d fun e => e.skip (match d with | .f _ _ => isMn o | _ => isChg o)) l B K (setL L o.dst undef) Q) : JX P N ops d (o :: l) B K L Q := by
  cases d with
  | f d B0 =>
    intro M F lds mems k hM hF hH hfr
    obtain ⟨F', hp, hF'⟩ := hF.put hN hd undef
    simp only at h
    rw [flt_len] at hfr
    cases hm : isMn o with
    | false =>
      rw [hm] at h
      obtain ⟨need, F1, M1, B1, K1, L1, h0, h1, r⟩ := h M F' lds mems (bif isFl o then k + 1 else k) hM hF' (hH.keep rfl rfl (fun _ h => h) rfl (fun _ h => h) (fun _ _ _ h => h) (fun _ _ _ _ h => h)) (fun b h1 h2 => hfr b (by revert h1; cases isFl o <;> simp <;> omega) (by revert h2; cases isFl o <;> simp <;> omega))
      refine ⟨need, F1, M1, B1, K1, L1, h0, fun hn hs => ?_, r⟩
      have h1 := h1 hn (fun s hs2 => hs s (by rw [mn_len, hm]; exact hs2))
      change opF P (orc P) N ops o (evalFltL P (orc P) N ops l) F M lds mems d.j k = _
      unfold opF
      rw [hg F hF]
      simp only [putFK_eq, hp, Option.bind_some, hm, cond_false]
      exact h1
    | true =>
      rw [hm] at h
      obtain ⟨hnf, hch⟩ := mn_not_fl hm
      rw [hnf] at hfr
      obtain ⟨need, F1, M1, B1, K1, L1, h0, h1, r⟩ := h M F' lds (M :: mems) k hM hF' (hH.next hM (Ge.refl B) rfl rfl (fun _ h => h) (fun _ h => h) (fun _ _ _ _ h => h) (fun _ _ _ _ _ h => h) fun j p h => .inr (.inl ⟨h, fun _ _ h => h⟩)) hfr
      refine ⟨need, F1, M1, B1, K1, L1, h0, fun hn hs => ?_, r⟩
      have h1 := h1 hn (fun s hs2 => hs s (by
        rw [mn_len, hm]
        have : (d.skip true).m = d.m + 1 := rfl
        rw [this] at hs2
        simp only [cond_true]
        rw [show d.m + 1 + ((l.filter isMn).length + 1) = d.m + 1 + 1 + (l.filter isMn).length by omega]
        exact hs2))
      change opF P (orc P) N ops o (evalFltL P (orc P) N ops l) F M lds mems d.j k = _
      unfold opF
      rw [hg F hF]
      simp only [putFK_eq, hp, Option.bind_some, hm, cond_true]
      exact h1
  | o =>
    intro M F hM hF
    obtain ⟨F', hp, hF'⟩ := hF.put hN hd undef
    obtain ⟨F1, M1, B1, K1, L1, h1, r⟩ := h M F' hM hF'
    refine ⟨F1, M1, B1, K1, L1, ?_, r⟩
    change opK P (orc P) N ops o F M (fun F M => evalOps P (orc P) N ops l F M) = _
    unfold opK
    rw [hg F hF]
    simp only [putFK_eq, hp, Option.bind_some]
    exact h1
  | d d B0 =>
    intro M F lds mems hM hF hH
    obtain ⟨F', hp, hF'⟩ := hF.put hN hd undef
    simp only at h
    cases hc : isChg o with
    | false =>
      rw [hc] at h
      obtain ⟨need, F1, M1, B1, K1, L1, h0, h1, r⟩ := h M F' lds mems hM hF' (hH.keep rfl rfl (fun _ h => h) rfl (fun _ h => h) (fun _ _ _ h => h) (fun _ _ _ _ h => h))
      refine ⟨need, F1, M1, B1, K1, L1, h0, fun hn hs hl => ?_, r⟩
      have h1 := h1 hn (fun s hs2 => hs s (by rw [List.filter_cons_of_neg (by rw [hc]; simp)]; exact hs2)) hl
      change opD P (orc P) N ops o (evalDrawL P (orc P) N ops l) F M lds mems d.j = _
      unfold opD
      rw [hg F hF]
      simp only [putFK_eq, hp, Option.bind_some, hc, cond_false]
      exact h1
    | true =>
      rw [hc] at h
      obtain ⟨need, F1, M1, B1, K1, L1, h0, h1, r⟩ := h M F' lds ((M, .no) :: mems) hM hF' (hH.next hM (Ge.refl B) rfl rfl (fun _ h => h) (fun _ h => h) (fun _ _ _ _ h => h) (fun _ _ _ _ _ h => h) fun j p h => .inr (.inl ⟨h, fun _ _ h => h⟩))
      refine ⟨need, F1, M1, B1, K1, L1, h0, fun hn hs hl => ?_, r⟩
      have h1 := h1 hn (fun s hs2 => hs s (by
        rw [List.filter_cons_of_pos hc, List.length_cons]
        have : (d.skip true).m = d.m + 1 := rfl
        rw [this] at hs2
        rw [show d.m + 1 + ((l.filter isChg).length + 1) = d.m + 1 + 1 + (l.filter isChg).length by omega]
        exact hs2)) hl
      change opD P (orc P) N ops o (evalDrawL P (orc P) N ops l) F M lds mems d.j = _
      unfold opD
      rw [hg F hF]
      simp only [putFK_eq, hp, Option.bind_some, hc, cond_true]
      exact h1
/-- A load, in general. -/
theorem JX.loadG (hN : N ≤ 512) {f : Dr → Dr} {C : St → Prop} (hg : gOk ops o L true) (ho : OLoad P o L C v) (hC : ∀ M, SM B K M → C M.t) (hd : dOk N o.dst = true)
    (hf : ∀ d, (f d).j = d.j + 1 ∧ (f d).m = d.m ∧ (f d).n0 = d.n0 ∧ (f d).D = d.D ∧ (∀ x ∈ d.need, x ∈ (f d).need) ∧ ∀ x ∈ d.RK, x ∈ (f d).RK)
    (hpast : ∀ d0 B0, d.at d0 B0 → (d0.j, 0, some d0.m) ∈ (f d0).need ∨ C B0 ∨ ∃ p, p < d0.n0 ∧ p ∉ d0.D ∧ ∃ b X, K[p]? = some (some (b, X)) ∧ ∀ M' : Mem, M'.t.get b = some X → C M'.t)
    (hfut : ∀ d0 B0, d.at d0 B0 → C B ∨ ∃ p b X, (d0.j, p) ∈ (f d0).RK ∧ K[p]? = some (some (b, X)) ∧ ∀ M' : Mem, M'.t.get b = some X → C M'.t)
    (h : JX P N ops (dMap d f) l B K (setL L o.dst v) Q) : JX P N ops d (o :: l) B K L Q := by
  obtain ⟨hc, hr, hsv, ho, hmono⟩ := ho
  have hHn : ∀ (d0 : Dr) (B0 : St) (F : Fr) (lds : List Ld) (ml : List Mem), d.at d0 B0 → FL L F → HOk P d0 B0 B K lds ml → HOk P (f d0) B0 B K (⟨d0.j, ml.length - 1, o, F, v⟩ :: lds) ml := fun d B0 F lds ml hat hF hH => by
    obtain ⟨f1, f2, f3, f4, f5, f6⟩ := hf d
    have hlen : ml.reverse.length = d.m + 1 := by simp [hH.len]
    have hag : ∀ M' : Mem, C M'.t → again P ⟨d.j, ml.length - 1, o, F, v⟩ M' := fun M' hM' => same_again (ho F M' hF hM') hsv
    have hkeep := hH.keep (d' := f d) f2 f3 f5 f4 f6 (fun _ _ _ h => h) (fun _ _ _ _ h => h)
    refine ⟨hkeep.len, hkeep.ge, hkeep.all, hkeep.own, fun ld hld => ?_⟩
    rcases List.mem_cons.1 hld with e | hld
    · subst e
      refine ⟨fun s Ms hMs => ?_, ?_⟩
      · have hslt : s < d.m + 1 := by
          have := (List.getElem?_eq_some_iff.1 hMs).1
          rw [hlen] at this
          exact this
        have hmem : Ms ∈ ml := by
          have := List.mem_of_getElem? hMs
          simpa using this
        by_cases hsk : s = d.m
        · left
          simp only [hH.len]
          omega
        · right
          rcases hpast d B0 hat with h1 | h1 | ⟨p, p1, p2, b, X, p3, p4⟩
          · exact .inl ⟨_, h1, rfl, Nat.zero_le _, fun h e => by injection e with e; subst e; omega⟩
          · exact .inr (hag Ms (hmono B0 Ms.t (fun b X hb => hH.all Ms hmem b X hb) h1))
          · exact .inr (hag Ms (p4 Ms (hH.own p p1 p2 b X p3 Ms hmem)))
      · rcases hfut d B0 hat with h1 | ⟨p, b, X, p1, p2, p3⟩
        · exact .inl fun M' hM' => hag M' (hmono B M'.t hM' h1)
        · exact .inr (.inl ⟨p, b, X, p1, p2, fun M' hM' => hag M' (p3 M' hM')⟩)
    · exact hkeep.lds ld hld
  cases d with
  | o =>
    intro M F hM hF
    obtain ⟨F', hp, hF'⟩ := hF.put hN hd v
    obtain ⟨F1, M1, B1, K1, L1, h1, r⟩ := h M F' hM hF'
    refine ⟨F1, M1, B1, K1, L1, ?_, r⟩
    change opK P (orc P) N ops o F M (fun F M => evalOps P (orc P) N ops l F M) = _
    unfold opK
    rw [hg F hF]
    simp only
    unfold outK
    rcases ho F M hF (hC M hM) with e | e <;> rw [e] <;> simp only [fV_eq, putFK_eq, hp, Option.bind_some] <;> exact h1
  | d d B0 =>
    intro M F lds mems hM hF hH
    obtain ⟨f1, f2, f3, f4, f5, f6⟩ := hf d
    obtain ⟨F', hp, hF'⟩ := hF.put hN hd v
    have hH' := hHn d B0 F lds _ (.inl rfl) hF hH
    rw [List.length_map] at hH'
    obtain ⟨need, F1, M1, B1, K1, L1, h0, h1, r⟩ := h M F' _ mems hM hF' hH'
    refine ⟨need, F1, M1, B1, K1, L1, fun x hx => h0 x (f5 x hx), fun hn hs hl => ?_, r⟩
    have h1 := h1 hn (fun s hs2 => hs s (by rw [List.filter_cons_of_neg (by rw [hc]; simp)]; rw [f2] at hs2; exact hs2)) hl
    rw [f1] at h1
    change opD P (orc P) N ops o (evalDrawL P (orc P) N ops l) F M lds mems d.j = _
    unfold opD
    rw [hg F hF]
    simp only
    unfold outD
    have key : nextD o F v F' .no M lds mems d.j (evalDrawL P (orc P) N ops l) = some (F1, M1) := by
      unfold nextD
      simp only [hc, hr, cond_false, Eff.isNo, cond_true]
      exact h1
    rcases ho F M hF (hC M hM) with e | e <;> rw [e] <;> simp only [fV_eq, putFK_eq, hp, Option.bind_some, Eff.applyK_eq] <;> exact key
  | f d B0 =>
    obtain ⟨hnf, hnm⟩ := not_chg hc
    intro M F lds mems k hM hF hH hfr
    obtain ⟨f1, f2, f3, f4, f5, f6⟩ := hf d
    obtain ⟨F', hp, hF'⟩ := hF.put hN hd v
    rw [flt_len, hnf] at hfr
    obtain ⟨need, F1, M1, B1, K1, L1, h0, h1, r⟩ := h M F' _ mems k hM hF' (hHn d B0 F lds _ (.inr rfl) hF hH) hfr
    refine ⟨need, F1, M1, B1, K1, L1, fun x hx => h0 x (f5 x hx), fun hn hs => ?_, r⟩
    have h1 := h1 hn (fun s hs2 => hs s (by rw [mn_len, hnm]; rw [f2] at hs2; exact hs2))
    rw [f1] at h1
    change opF P (orc P) N ops o (evalFltL P (orc P) N ops l) F M lds mems d.j k = _
    unfold opF
    rw [hg F hF, hnf]
    simp only [cond_false]
    unfold outF
    have key : nextF o F v F' .no M lds mems d.j k (evalFltL P (orc P) N ops l) = some (F1, M1) := by
      unfold nextF
      simp only [hc, hr, cond_false, Eff.isNo, cond_true]
      exact h1
    rcases ho F M hF (hC M hM) with e | e <;> rw [e] <;> simp only [fV_eq, putFK_eq, hp, Option.bind_some, Eff.applyK_eq] <;> exact key
/-- A load of what stood ahead of the region (or in the text's order). -/
theorem JX.load0 (hN : N ≤ 512) {C : St → Prop} (hg : gOk ops o L true) (ho : OLoad P o L C v) {B0 : St} (hC : C B0) (hB : d = .o ∧ Ge B0 B ∨ ∃ d0, d.at d0 B0 ∧ Ge B0 B) (hd : dOk N o.dst = true) (h : JX P N ops (dMap d .inc) l B K (setL L o.dst v) Q) : JX P N ops d (o :: l) B K L Q := by
  have hge : Ge B0 B := by rcases hB with h | ⟨_, h⟩; exact h.2; exact h.2
  have hmono := ho.2.2.2.2
  refine JX.loadG hN hg ho (fun M hM => hmono B M.t hM.old (hmono B0 B hge hC)) hd (f := .inc) (fun d => ⟨rfl, rfl, rfl, rfl, fun _ h => h, fun _ h => h⟩) (fun d0 B1 e => ?_) (fun d0 B1 e => .inl (hmono B0 B hge hC)) h
  rcases hB with ⟨rfl, _⟩ | ⟨d2, h, _⟩
  · rcases e with e | e <;> cases e
  · have : B1 = B0 := by
      rcases e with rfl | rfl <;> rcases h with h | h <;> first | (cases h; rfl) | (cases h; done)
    subst this
    exact .inr (.inl hC)
/-- A load of what stands. -/
theorem JX.loadB (hN : N ≤ 512) {C : St → Prop} (hg : gOk ops o L true) (ho : OLoad P o L C v) (hC : C B) (hd : dOk N o.dst = true) (h : JX P N ops (dMap d .loadB) l B K (setL L o.dst v) Q) : JX P N ops d (o :: l) B K L Q :=
  JX.loadG hN hg ho (fun M hM => ho.2.2.2.2 B M.t hM.old hC) hd (f := .loadB) (fun d => ⟨rfl, rfl, rfl, rfl, fun x hx => List.mem_cons_of_mem _ hx, fun _ h => h⟩) (fun d0 B1 e => .inl (.head _)) (fun d0 B1 e => .inl hC) h
/-- A load of one's own. -/
theorem JX.loadK (hN : N ≤ 512) (p : Nat) {b : Nat} {X : Blk} (hg : gOk ops o L true) (hp : K[p]? = some (some (b, X))) (ho : OLoad P o L (fun t => t.get b = some X) v) (hd : dOk N o.dst = true) (h : JX P N ops (dMap d (Dr.loadK · p)) l B K (setL L o.dst v) Q) : JX P N ops d (o :: l) B K L Q := by
  refine JX.loadG hN hg ho (fun M hM => hM.own b X (at_mem hp)) hd (f := (Dr.loadK · p)) (fun d => ⟨rfl, rfl, rfl, rfl, fun x hx => ?_, fun x hx => List.mem_cons_of_mem _ hx⟩) (fun d0 B1 e => ?_) (fun d0 B1 e => .inr ⟨p, b, X, .head _, hp, fun M' h => h⟩) h
  · unfold Dr.loadK
    cases (Nat.blt p d.n0 && !d.D.contains p)
    · exact List.mem_cons_of_mem _ hx
    · exact hx
  · cases hb : (Nat.blt p d0.n0 && !d0.D.contains p) with
    | true =>
      simp only [Bool.and_eq_true, Bool.not_eq_true'] at hb
      exact .inr (.inr ⟨p, Nat.le_of_ble_eq_true hb.1, fun h => by rw [List.contains_iff_mem.2 h] at hb; exact absurd hb.2 (by simp), b, X, hp, fun M' h => h⟩)
    | false =>
      left
      unfold Dr.loadK
      simp only [hb, cond_false]
      exact .head _
/-- A change, in general. -/
theorem JX.chgG (hN : N ≤ 512) {f : Dr → Dr} {R : Value → St → Hp → Prop} (hnf : (∃ d0 B0, d = .f d0 B0) → isFl o = false) (hg : gOk ops o L true) (ho : OChg P o B K L R) (hd : dOk N o.dst = true)
    (hf : ∀ d, (f d).j = d.j + 1 ∧ (f d).m = d.m + 1 ∧ (f d).n0 = d.n0 ∧ (∀ x ∈ d.need, x ∈ (f d).need) ∧ ∀ p, p ∉ (f d).D → p ∉ d.D)
    (hK : ∀ v B1 K1, R v B1 K1 → ∀ d0 B0, d.at d0 B0 → (∀ (p b : Nat) X, p ∉ (f d0).D → K[p]? = some (some (b, X)) → K1[p]? = some (some (b, X))) ∧ (∀ (p b : Nat) X, p < d0.n0 → p ∉ (f d0).D → K1[p]? = some (some (b, X)) → K[p]? = some (some (b, X))) ∧
      ∀ j p, (j, p) ∈ d0.RK → ((j, p) ∈ (f d0).RK ∧ p ∉ (f d0).D) ∨ ((j, p) ∈ (f d0).RK ∧ ∀ b X, K[p]? = some (some (b, X)) → K1[p]? = some (some (b, X))) ∨ ∃ x ∈ (f d0).need, x.1 = j ∧ x.2.1 ≤ d0.m + 1 ∧ x.2.2 = none)
    (h : ∀ v B1 K1, Ge B B1 → R v B1 K1 → JX P N ops (dMap d f) l B1 K1 (setL L o.dst v) Q) : JX P N ops d (o :: l) B K L Q := by
  obtain ⟨hc, ho⟩ := ho
  cases d with
  | o =>
    intro M F hM hF
    rcases ho F M hF hM with ⟨v, m, B1, K1, e, hM1, hB1, hR⟩ | ⟨fn, args, v, M2, B1, K1, e, e2, hM1, hB1, hR⟩
    · obtain ⟨F', hp, hF'⟩ := hF.put hN hd v
      obtain ⟨F1, M1, B2, K2, L1, h1, h2, h3, h4, h5⟩ := h v B1 K1 hB1 hR _ F' hM1 hF'
      refine ⟨F1, M1, B2, K2, L1, ?_, h2, h3, hB1.trans h4, h5⟩
      change opK P (orc P) N ops o F M (fun F M => evalOps P (orc P) N ops l F M) = _
      unfold opK
      rw [hg F hF]
      simp only
      unfold outK
      rw [e]
      simp only [fV_eq, putFK_eq, hp, Option.bind_some, Eff.applyK_eq]
      exact h1
    · obtain ⟨F', hp, hF'⟩ := hF.put hN hd v
      obtain ⟨F1, M1, B2, K2, L1, h1, h2, h3, h4, h5⟩ := h v B1 K1 hB1 hR _ F' hM1 hF'
      refine ⟨F1, M1, B2, K2, L1, ?_, h2, h3, hB1.trans h4, h5⟩
      change opK P (orc P) N ops o F M (fun F M => evalOps P (orc P) N ops l F M) = _
      unfold opK
      rw [hg F hF]
      simp only
      unfold outK
      rw [e]
      simp only
      unfold callK
      rw [e2]
      simp only [putFK_eq, hp, Option.bind_some]
      exact h1
  | d d B0 =>
    intro M F lds mems hM hF hH
    obtain ⟨f1, f2, f3, f4, f5⟩ := hf d
    have cl : ∀ s, s ∈ List.range ((f d).m + 1 + (l.filter isChg).length) → s ∈ List.range (d.m + 1 + ((o :: l).filter isChg).length) := fun s hs => by
      rw [List.filter_cons_of_pos hc, List.length_cons]
      rw [f2] at hs
      rw [show d.m + 1 + ((l.filter isChg).length + 1) = d.m + 1 + 1 + (l.filter isChg).length by omega]
      exact hs
    rcases ho F M hF hM with ⟨v, m, B1, K1, e, hM1, hB1, hR⟩ | ⟨fn, args, v, M2, B1, K1, e, e2, hM1, hB1, hR⟩
    · obtain ⟨F', hp, hF'⟩ := hF.put hN hd v
      obtain ⟨k1, k2, k3⟩ := hK v B1 K1 hR d B0 (.inl rfl)
      obtain ⟨need, F1, M1, B2, K2, L1, h0, h1, h2, h3, h4, h5⟩ := h v B1 K1 hB1 hR _ F' lds ((m.apply M, m) :: mems) hM1 hF' (hH.next hM1 hB1 f2 f3 f4 f5 k1 k2 k3)
      refine ⟨need, F1, M1, B2, K2, L1, fun x hx => h0 x (f4 x hx), fun hn hs hl => ?_, h2, h3, hB1.trans h4, h5⟩
      have h1 := h1 hn (fun s hs2 => hs s (cl s hs2)) hl
      rw [f1] at h1
      change opD P (orc P) N ops o (evalDrawL P (orc P) N ops l) F M lds mems d.j = _
      unfold opD
      rw [hg F hF]
      simp only
      unfold outD
      rw [e]
      simp only [fV_eq, putFK_eq, hp, Option.bind_some, Eff.applyK_eq]
      unfold nextD
      rw [hc]
      exact h1
    · obtain ⟨F', hp, hF'⟩ := hF.put hN hd v
      obtain ⟨k1, k2, k3⟩ := hK v B1 K1 hR d B0 (.inl rfl)
      obtain ⟨need, F1, M1, B2, K2, L1, h0, h1, h2, h3, h4, h5⟩ := h v B1 K1 hB1 hR _ F' lds ((M2, .no) :: mems) hM1 hF' (hH.next hM1 hB1 f2 f3 f4 f5 k1 k2 k3)
      refine ⟨need, F1, M1, B2, K2, L1, fun x hx => h0 x (f4 x hx), fun hn hs hl => ?_, h2, h3, hB1.trans h4, h5⟩
      have h1 := h1 hn (fun s hs2 => hs s (cl s hs2)) hl
      rw [f1] at h1
      change opD P (orc P) N ops o (evalDrawL P (orc P) N ops l) F M lds mems d.j = _
      unfold opD
      rw [hg F hF]
      simp only
      unfold outD
      rw [e]
      simp only
      unfold callD
      rw [e2]
      simp only [putFK_eq, hp, Option.bind_some]
      rw [hc]
      exact h1
  | f d B0 =>
    have hnf := hnf ⟨d, B0, rfl⟩
    have hmn : isMn o = true := by unfold isMn; rw [hc, hnf]; rfl
    intro M F lds mems k hM hF hH hfr
    rw [flt_len, hnf] at hfr
    obtain ⟨f1, f2, f3, f4, f5⟩ := hf d
    have cl : ∀ s, s ∈ List.range ((f d).m + 1 + (l.filter isMn).length) → s ∈ List.range (d.m + 1 + ((o :: l).filter isMn).length) := fun s hs => by
      rw [mn_len, hmn]
      rw [f2] at hs
      simp only [cond_true]
      rw [show d.m + 1 + ((l.filter isMn).length + 1) = d.m + 1 + 1 + (l.filter isMn).length by omega]
      exact hs
    rcases ho F M hF hM with ⟨v, m, B1, K1, e, hM1, hB1, hR⟩ | ⟨fn, args, v, M2, B1, K1, e, e2, hM1, hB1, hR⟩
    · obtain ⟨F', hp, hF'⟩ := hF.put hN hd v
      obtain ⟨k1, k2, k3⟩ := hK v B1 K1 hR d B0 (.inr rfl)
      obtain ⟨need, F1, M1, B2, K2, L1, h0, h1, h2, h3, h4, h5⟩ := h v B1 K1 hB1 hR _ F' lds (m.apply M :: mems) k hM1 hF' (hH.next hM1 hB1 f2 f3 f4 f5 k1 k2 k3) (fresh_eff e hfr)
      refine ⟨need, F1, M1, B2, K2, L1, fun x hx => h0 x (f4 x hx), fun hn hs => ?_, h2, h3, hB1.trans h4, h5⟩
      have h1 := h1 hn (fun s hs2 => hs s (cl s hs2))
      rw [f1] at h1
      change opF P (orc P) N ops o (evalFltL P (orc P) N ops l) F M lds mems d.j k = _
      unfold opF
      rw [hg F hF, hnf]
      simp only [cond_false]
      unfold outF
      rw [e]
      simp only [fV_eq, putFK_eq, hp, Option.bind_some, Eff.applyK_eq]
      unfold nextF
      rw [hc]
      exact h1
    · obtain ⟨F', hp, hF'⟩ := hF.put hN hd v
      obtain ⟨k1, k2, k3⟩ := hK v B1 K1 hR d B0 (.inr rfl)
      obtain ⟨need, F1, M1, B2, K2, L1, h0, h1, h2, h3, h4, h5⟩ := h v B1 K1 hB1 hR _ F' lds (M2 :: mems) k hM1 hF' (hH.next hM1 hB1 f2 f3 f4 f5 k1 k2 k3) (fresh_call e2 hfr)
      refine ⟨need, F1, M1, B2, K2, L1, fun x hx => h0 x (f4 x hx), fun hn hs => ?_, h2, h3, hB1.trans h4, h5⟩
      have h1 := h1 hn (fun s hs2 => hs s (cl s hs2))
      rw [f1] at h1
      change opF P (orc P) N ops o (evalFltL P (orc P) N ops l) F M lds mems d.j k = _
      unfold opF
      rw [hg F hF, hnf]
      simp only [cond_false]
      unfold outF
      rw [e]
      simp only
      unfold callF
      rw [e2]
      simp only [putFK_eq, hp, Option.bind_some]
      rw [hc]
      exact h1
/-- A change that leaves one's own blocks as they are, or adds one. -/
theorem JX.add (hN : N ≤ 512) {R : Value → St → Hp → Prop} (hnf : (∃ d0 B0, d = .f d0 B0) → isFl o = false) (hg : gOk ops o L true) (ho : OChg P o B K L fun v B1 K1 => ∃ J, K1 = K ++ J ∧ R v B1 J) (hn0 : ∀ d0 B0, d.at d0 B0 → d0.n0 ≤ K.length) (hd : dOk N o.dst = true)
    (h : ∀ v B1 J, Ge B B1 → R v B1 J → JX P N ops (dMap d .chg) l B1 (K ++ J) (setL L o.dst v) Q) : JX P N ops d (o :: l) B K L Q := by
  refine JX.chgG hN hnf hg ho hd (f := .chg) (fun d => ⟨rfl, rfl, rfl, fun _ h => h, fun _ h => h⟩) (fun v B1 K1 hR d0 B0 e => ?_) fun v B1 K1 hB hR => ?_
  · obtain ⟨J, rfl, _⟩ := hR
    have k1 : ∀ (p b : Nat) X, K[p]? = some (some (b, X)) → (K ++ J)[p]? = some (some (b, X)) := fun p b X h => Less.app K J p b X h
    refine ⟨fun p b X _ h => k1 p b X h, fun p b X hp _ h => ?_, fun j p h => .inr (.inl ⟨h, fun b X h => k1 p b X h⟩)⟩
    rw [List.getElem?_append_left (by have := hn0 d0 B0 e; omega)] at h
    exact h
  · obtain ⟨J, rfl, hR⟩ := hR
    exact h v B1 J hB hR
/-- A change of one block of one's own. -/
theorem JX.mod (hN : N ≤ 512) (p : Nat) {R : Value → St → Option (Nat × Blk) → Prop} (hnf : (∃ d0 B0, d = .f d0 B0) → isFl o = false) (hg : gOk ops o L true) (ho : OChg P o B K L fun v B1 K1 => ∃ x, K1 = K.set p x ∧ R v B1 x) (hd : dOk N o.dst = true)
    (h : ∀ v B1 x, Ge B B1 → R v B1 x → JX P N ops (dMap d (Dr.mod · p)) l B1 (K.set p x) (setL L o.dst v) Q) : JX P N ops d (o :: l) B K L Q := by
  refine JX.chgG hN hnf hg ho hd (f := (Dr.mod · p)) (fun d => ⟨rfl, rfl, rfl, fun x hx => modNeed_sub.1 x hx, fun q hq h => hq (List.mem_cons_of_mem _ h)⟩) (fun v B1 K1 hR d0 B0 e => ?_) fun v B1 K1 hB hR => ?_
  · obtain ⟨x, rfl, _⟩ := hR
    have ne : ∀ q, q ∉ (d0.mod p).D → p ≠ q := fun q hq e => hq (by rw [← e]; exact .head _)
    refine ⟨fun q b X hq h => by rw [List.getElem?_set_ne (ne q hq)]; exact h, fun q b X _ hq h => by rw [List.getElem?_set_ne (ne q hq)] at h; exact h, fun j q hj => ?_⟩
    by_cases e : q = p
    · subst e
      exact .inr (.inr ⟨_, modNeed_sub.2 j hj, rfl, Nat.le_refl _, rfl⟩)
    · refine .inr (.inl ⟨List.mem_filter.2 ⟨hj, ?_⟩, fun b X h => by rw [List.getElem?_set_ne (fun e2 => e e2.symm)]; exact h⟩)
      cases hb : Nat.beq q p with
      | true => exact absurd (Nat.eq_of_beq_eq_true hb) e
      | false => rfl
  · obtain ⟨x, rfl, hR⟩ := hR
    exact h v B1 x hB hR
/-- A guard's value is looked at. -/
theorem JX.split {t : Nat} {c : Bool} (hv : look L t = some (.bool c)) (ht : c = true → JX P N ops d l B K ((t, .bool true) :: L) Q) (hf : c = false → JX P N ops d l B K ((t, .bool false) :: L) Q) : JX P N ops d l B K L Q := by
  have key : ∀ u, look L t = some u → JX P N ops d l B K ((t, u) :: L) Q → JX P N ops d l B K L Q := fun u hu h => by
    cases d with
    | o => exact fun M F hM hF => h M F hM (hF.cons hu)
    | d d B0 => exact fun M F lds mems hM hF hH => h M F lds mems hM (hF.cons hu) hH
    | f d B0 => exact fun M F lds mems k hM hF hH hfr => h M F lds mems k hM (hF.cons hu) hH hfr
  cases c with
  | true => exact key _ hv (ht rfl)
  | false => exact key _ hv (hf rfl)
def drawChk (ops : Array Oper) (need : List Need) : Bool := drawOk ops (masks ops.toList []) && !loose ops (masks ops.toList []) && Nat.beq (ops.toList.filter isChg).length (cnt ops ops.size) &&
  need.all fun x => (List.range (Nat.succ (cnt ops ops.size))).all fun s => Nat.blt s x.2.1 || (match x.2.2 with
    | some h => Nat.ble h s
    | none => false) || !allowed ops (masks ops.toList []) s x.1
theorem drawChk_need {need : List Need} (h : drawChk ops need = true) : NeedOk ops need := fun x hx s hs hin => by
  unfold drawChk at h
  rw [Bool.and_eq_true, List.all_eq_true] at h
  have h1 := h.2 x hx
  rw [List.all_eq_true] at h1
  have h2 := h1 s (List.mem_range.2 (by omega))
  simp only [Bool.or_eq_true, Bool.not_eq_true'] at h2
  rcases h2 with (h2 | h2) | h2
  · have := Nat.le_of_ble_eq_true h2
    have := hin.2.1
    omega
  · split at h2
    · rename_i k hk
      have h3 := hin.2.2 k hk
      have := Nat.le_of_ble_eq_true h2
      omega
    · cases h2
  · exact h2
def fltChk (ops : Array Oper) (need : List Need) : Bool := fltOk ops (masks ops.toList []) && !drawOk ops (masks ops.toList []) && Nat.beq (ops.toList.filter isMn).length (mcnt ops ops.size) &&
  need.all fun x => (List.range (Nat.succ (mcnt ops ops.size))).all fun s => Nat.blt s x.2.1 || (match x.2.2 with
    | some h => Nat.ble h s
    | none => false) || !allowedF ops (masks ops.toList []) s x.1
theorem fltChk_need {need : List Need} (h : fltChk ops need = true) : NeedOkF ops need := fun x hx s hs hin => by
  unfold fltChk at h
  rw [Bool.and_eq_true, List.all_eq_true] at h
  have h1 := h.2 x hx
  rw [List.all_eq_true] at h1
  have h2 := h1 s (List.mem_range.2 (by omega))
  simp only [Bool.or_eq_true, Bool.not_eq_true'] at h2
  rcases h2 with (h2 | h2) | h2
  · have := Nat.le_of_ble_eq_true h2
    have := hin.2.1
    omega
  · split at h2
    · rename_i k hk
      have h3 := hin.2.2 k hk
      have := Nat.le_of_ble_eq_true h2
      omega
    · cases h2
  · exact h2
theorem J.draw {R : PostC} {id : Nat} (h : JX P N ops (.d ⟨0, 0, K.length, [], [], []⟩ B) ops.toList B K L fun need B K L => drawChk ops need = true ∧ R .normal B K L) : J P N B K L (.region id ops true) R := fun M F hM hF => by
  obtain ⟨need, F1, M1, B1, K1, L1, h0, h1, h2, h3, h4, h5, h6⟩ := h M F [] [(M, .no)] hM hF ⟨rfl, Ge.refl B, fun Ms hMs b X hb => by
    obtain rfl : Ms = M := by simpa using hMs
    exact hM.old b X hb, fun p hp _ b X hk Ms hMs => by
    obtain rfl : Ms = M := by simpa using hMs
    exact hM.own b X (at_mem hk), fun ld hld => by simp at hld⟩
  have hc := h5
  unfold drawChk at hc
  simp only [Bool.and_eq_true, Bool.not_eq_true'] at hc
  refine ⟨1, .normal, F1, M1, B1, K1, L1, ?_, h2, h3, h4, h6⟩
  change regK (evalDr P (orc P) N ops F M) = _
  unfold evalDr evalDraw
  rw [hc.1.1.1]
  simp only [cond_true]
  rw [h1 (drawChk_need h5) (fun s hs => by
    rw [List.mem_range] at hs
    have := Nat.eq_of_beq_eq_true hc.1.2
    simp only at hs
    omega) hc.1.1.2]
  rfl
theorem SM.wide {M : Mem} (h : SM B K M) {n : Nat} (hn : M.nx ≤ n) : SM B K ⟨M.t, n⟩ := ⟨fun b X hb => Nat.lt_of_lt_of_le (h.wf b X hb) hn, h.old, h.own, h.sep, h.nd⟩
/-- A region that is drawn, with free blocks. -/
theorem J.flt {R : PostC} {id : Nat} (h : JX P N ops (.f ⟨0, 0, K.length, [], [], []⟩ B) ops.toList B K L fun need B K L => fltChk ops need = true ∧ R .normal B K L) : J P N B K L (.region id ops true) R := fun M F hM hF => by
  have hM' := hM.wide (n := M.nx + fcnt ops) (Nat.le_add_right _ _)
  obtain ⟨need, F1, M1, B1, K1, L1, h0, h1, h2, h3, h4, h5, h6⟩ := h _ F [] [⟨M.t, M.nx + fcnt ops⟩] M.nx hM' hF ⟨rfl, Ge.refl B, fun Ms hMs b X hb => by
    obtain rfl : Ms = ⟨M.t, M.nx + fcnt ops⟩ := by simpa using hMs
    exact hM'.old b X hb, fun p hp _ b X hk Ms hMs => by
    obtain rfl : Ms = ⟨M.t, M.nx + fcnt ops⟩ := by simpa using hMs
    exact hM'.own b X (at_mem hk), fun ld hld => by simp at hld⟩ (fun b g1 g2 => ⟨by
      cases hg : M.t.get b with
      | none => rfl
      | some X => have := hM.wf b X hg; omega, g2⟩)
  have hc := h5
  unfold fltChk at hc
  simp only [Bool.and_eq_true, Bool.not_eq_true'] at hc
  refine ⟨1, .normal, F1, M1, B1, K1, L1, ?_, h2, h3, h4, h6⟩
  change regK (evalDr P (orc P) N ops F M) = _
  unfold evalDr evalFlt
  rw [hc.1.1.2, hc.1.1.1]
  simp only [cond_true, cond_false, fNat_eq]
  rw [h1 (fltChk_need h5) (fun s hs => by
    rw [List.mem_range] at hs
    have := Nat.eq_of_beq_eq_true hc.1.2
    simp only at hs
    omega)]
  rfl
theorem J.ord {R : PostC} {id : Nat} (h : JX P N ops .o ops.toList B K L fun _ B K L => R .normal B K L) : J P N B K L (.region id ops false) R := J.region h
/-- A new block with a number that is free. -/
theorem SM.newAt {M : Mem} (h : SM B K M) {k : Nat} (h0 : M.t.get k = none) (hk : k < M.nx) (Z : Blk) : SM B (K ++ [some (k, Z)]) ⟨M.t.set k (some Z), M.nx⟩ := by
  have old : ∀ b X, M.t.get b = some X → (M.t.set k (some Z)).get b = some X := fun b X hx => by
    have e : k ≠ b := fun e => by subst e; rw [h0] at hx; cases hx
    rw [Tr.set_other _ _ e]
    exact hx
  have lst : ∀ (p b : Nat) X, (K ++ [some (k, Z)])[p]? = some (some (b, X)) → K[p]? = some (some (b, X)) ∨ (p = K.length ∧ b = k ∧ X = Z) := fun p b X hp => by
    rw [List.getElem?_append] at hp
    split at hp
    · exact .inl hp
    · right
      have hlt := (List.getElem?_eq_some_iff.1 hp).1
      simp only [List.length_cons, List.length_nil] at hlt
      have e : p - K.length = 0 := by omega
      rw [e] at hp
      have hp := some_eq hp
      have hp := some_eq hp
      injection hp with h1 h2
      exact ⟨by omega, h1.symm, h2.symm⟩
  refine ⟨fun b X hb => ?_, fun b X hx => old b X (h.old b X hx), fun b X hx => ?_, fun b X hx => ?_, fun p q b X Y hp hq => ?_⟩
  · by_cases e : k = b
    · subst e; exact hk
    · simp only at hb; rw [Tr.set_other _ _ e] at hb; exact h.wf b X hb
  · obtain ⟨p, hp⟩ := mem_at hx
    rcases lst p b X hp with h1 | ⟨_, rfl, rfl⟩
    · exact old b X (h.own b X (at_mem h1))
    · exact Tr.set_self _ _ _
  · obtain ⟨p, hp⟩ := mem_at hx
    rcases lst p b X hp with h1 | ⟨_, rfl, rfl⟩
    · exact h.sep b X (at_mem h1)
    · cases hg : B.get b with
      | none => rfl
      | some Y => have := h.old _ Y hg; rw [h0] at this; cases this
  · have ne : ∀ c X, M.t.get c = some X → c ≠ k := fun c X hc e => by subst e; rw [h0] at hc; cases hc
    rcases lst p b X hp with h1 | ⟨h1, h2, _⟩ <;> rcases lst q b Y hq with h3 | ⟨h3, h4, _⟩
    · exact h.nd p q b X Y h1 h3
    · exact absurd h4 (ne b X (h.own b X (at_mem h1)))
    · exact absurd h2 (ne b Y (h.own b Y (at_mem h3)))
    · omega
/-- An operation that may run at any time: a new block, no memory read. -/
def OFree (P : Program) (o : Oper) (L : Loc) (V : Nat → Value) (cs : List Value) (T sz : Nat) : Prop := isFl o = true ∧ ∀ F M, FL L F → evalOp P o F M = some (.v (V M.nx) (.new cs T sz))
theorem JX.free (hN : N ≤ 512) {V : Nat → Value} {cs : List Value} {T sz : Nat} {d : Dr} {B0 : St} (hg : gOk ops o L true) (ho : OFree P o L V cs T sz) (hn0 : d.n0 ≤ K.length) (hd : dOk N o.dst = true)
    (h : ∀ b, JX P N ops (.f d.inc B0) l B (K ++ [some (b, ⟨cs, T, sz⟩)]) (setL L o.dst (V b)) Q) : JX P N ops (.f d B0) (o :: l) B K L Q := by
  obtain ⟨hfl, ho⟩ := ho
  have hmn : isMn o = false := by unfold isMn; rw [hfl]; simp
  intro M F lds mems k hM hF hH hfr
  rw [flt_len, hfl] at hfr
  simp only [cond_true] at hfr
  obtain ⟨g1, g2⟩ := hfr k (Nat.le_refl _) (by omega)
  obtain ⟨F', hp, hF'⟩ := hF.put hN hd (V k)
  obtain ⟨need, F1, M1, B1, K1, L1, h0, h1, r⟩ := h k _ F' lds mems (k + 1) (hM.newAt g1 g2 ⟨cs, T, sz⟩) hF' (hH.keep rfl rfl (fun _ h => h) rfl (fun _ h => h) (fun p b X h => Less.app K _ p b X h) (fun p b X hp h => by
    rw [List.getElem?_append_left (by omega)] at h
    exact h)) (fun b j1 j2 => by
      obtain ⟨i1, i2⟩ := hfr b (by omega) (by omega)
      exact ⟨by simp only; rw [Tr.set_other _ _ (by omega)]; exact i1, i2⟩)
  refine ⟨need, F1, M1, B1, K1, L1, h0, fun hn hs => ?_, r⟩
  have h1 := h1 hn (fun s hs2 => hs s (by rw [mn_len, hmn]; exact hs2))
  change opF P (orc P) N ops o (evalFltL P (orc P) N ops l) F M lds mems d.j k = _
  unfold opF
  rw [hg F hF, hfl]
  simp only [cond_true]
  unfold freeF
  rw [ho F ⟨M.t, k⟩ hF]
  simp only [fV_eq, putFK_eq, hp, Option.bind_some, fVs_eq, Tr.putK_eq, fNat_eq]
  rw [Tr.set_eq] at h1
  exact h1
end
end Go.Proofs.YthldmlfpebgojaaGreatDoor
