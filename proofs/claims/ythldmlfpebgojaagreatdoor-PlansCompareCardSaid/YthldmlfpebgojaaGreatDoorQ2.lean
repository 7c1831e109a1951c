/-
  How the evaluator's values and memory stand to those of a world.
  No condition.
-/
import Derived.Test.YthldmlfpebgojaaGreatDoorQ1
namespace Go.Proofs.YthldmlfpebgojaaGreatDoor
set_option linter.unusedSimpArgs false
set_option linter.unusedVariables false
open Go.RowKit Go

theorem Tr.get_e {α : Type} (k : Nat) : (Tr.e : Tr α).get k = none := rfl
theorem Tr.get_zero {α : Type} (v : Option α) (l r : Tr α) : (Tr.n v l r).get 0 = v := rfl
theorem Tr.get_succ {α : Type} (v : Option α) (l r : Tr α) (k : Nat) : (Tr.n v l r).get (k + 1) = bif Nat.beq (k % 2) 0 then l.get (k / 2) else r.get (k / 2) := by
  change Bool.rec (motive := fun _ => Option α) (r.get (k / 2)) (l.get (k / 2)) (Nat.beq (k % 2) 0) = _
  cases Nat.beq (k % 2) 0 <;> rfl
/-- Writing, by parts. -/
def Tr.put {α : Type} : Nat → Tr α → Nat → Option α → Tr α
  | 0, t, _, _ => t
  | _ + 1, .e, 0, v => .n v .e .e
  | d + 1, .e, k + 1, v => bif Nat.beq (k % 2) 0 then .n none (Tr.put d .e (k / 2) v) .e else .n none .e (Tr.put d .e (k / 2) v)
  | _ + 1, .n _ l r, 0, v => .n v l r
  | d + 1, .n u l r, k + 1, v => bif Nat.beq (k % 2) 0 then .n u (Tr.put d l (k / 2) v) r else .n u l (Tr.put d r (k / 2) v)
theorem Tr.putK_eq {α β : Type} : ∀ (d : Nat) (t : Tr α) (k : Nat) (v : Option α) (c : Tr α → β), Tr.putK d t k v c = c (Tr.put d t k v)
  | 0, t, k, v, c => by simp only [Tr.put]; rfl
  | d + 1, .e, 0, v, c => rfl
  | d + 1, .n _ l r, 0, v, c => rfl
  | d + 1, .e, k + 1, v, c => by
    change Bool.rec (motive := fun _ => β) (Tr.putK d .e (k / 2) v fun r => c (.n none .e r)) (Tr.putK d .e (k / 2) v fun l => c (.n none l .e)) (Nat.beq (k % 2) 0) = _
    simp only [Tr.putK_eq d]
    rw [Tr.put]
    cases Nat.beq (k % 2) 0 <;> rfl
  | d + 1, .n u l r, k + 1, v, c => by
    change Bool.rec (motive := fun _ => β) (Tr.putK d r (k / 2) v fun r => c (.n u l r)) (Tr.putK d l (k / 2) v fun l => c (.n u l r)) (Nat.beq (k % 2) 0) = _
    simp only [Tr.putK_eq d]
    rw [Tr.put]
    cases Nat.beq (k % 2) 0 <;> rfl
theorem Tr.set_eq {α : Type} (t : Tr α) (k : Nat) (v : Option α) : t.set k v = Tr.put (k + 1) t k v := Tr.putK_eq _ _ _ _ _
theorem Tr.putK_set {α β : Type} (t : Tr α) (k : Nat) (v : Option α) (c : Tr α → β) : Tr.putK (Nat.succ k) t k v c = c (t.set k v) := by
  rw [Tr.putK_eq, Tr.set_eq]
theorem Tr.put_self {α : Type} : ∀ (d k : Nat) (t : Tr α) (v : Option α), k < d → (Tr.put d t k v).get k = v
  | d + 1, 0, .e, v, _ => rfl
  | d + 1, 0, .n _ _ _, v, _ => rfl
  | d + 1, k + 1, .e, v, h => by
    have ih := Tr.put_self d (k / 2) (.e : Tr α) v (by omega)
    unfold Tr.put
    cases hb : Nat.beq (k % 2) 0 <;> simp only [hb, cond_true, cond_false, Tr.get_succ, ih]
  | d + 1, k + 1, .n u l r, v, h => by
    have ih1 := Tr.put_self d (k / 2) l v (by omega)
    have ih2 := Tr.put_self d (k / 2) r v (by omega)
    unfold Tr.put
    cases hb : Nat.beq (k % 2) 0 <;> simp only [hb, cond_true, cond_false, Tr.get_succ, ih1, ih2]
theorem Tr.e_get {α : Type} (k : Nat) : (Tr.e : Tr α).get k = none := rfl
theorem Tr.put_other {α : Type} : ∀ (d k j : Nat) (t : Tr α) (v : Option α), k ≠ j → (Tr.put d t k v).get j = t.get j
  | 0, k, j, t, v, _ => by simp only [Tr.put]
  | d + 1, 0, 0, t, v, h => absurd rfl h
  | d + 1, 0, j + 1, .e, v, _ => by
    simp only [Tr.put, Tr.get_succ, Tr.e_get]
    cases Nat.beq (j % 2) 0 <;> rfl
  | d + 1, 0, j + 1, .n _ _ _, v, _ => by simp only [Tr.put, Tr.get_succ]
  | d + 1, k + 1, 0, .e, v, _ => by
    unfold Tr.put
    cases hb : Nat.beq (k % 2) 0 <;> simp only [cond_true, cond_false, Tr.get_zero, Tr.e_get]
  | d + 1, k + 1, 0, .n _ _ _, v, _ => by
    unfold Tr.put
    cases hb : Nat.beq (k % 2) 0 <;> simp only [cond_true, cond_false, Tr.get_zero, Tr.e_get]
  | d + 1, k + 1, j + 1, .e, v, h => by
    unfold Tr.put
    cases hb : Nat.beq (k % 2) 0 <;> cases hc : Nat.beq (j % 2) 0 <;> simp only [cond_true, cond_false, Tr.get_succ, hc, Tr.e_get]
    · rw [Tr.put_other d (k / 2) (j / 2) .e v (by
        have h1 : k % 2 ≠ 0 := fun e => by rw [e] at hb; cases hb
        have h2 : j % 2 ≠ 0 := fun e => by rw [e] at hc; cases hc
        omega), Tr.e_get]
    · rw [Tr.put_other d (k / 2) (j / 2) .e v (by
        have h1 := Nat.eq_of_beq_eq_true hb
        have h2 := Nat.eq_of_beq_eq_true hc
        omega), Tr.e_get]
  | d + 1, k + 1, j + 1, .n u l r, v, h => by
    unfold Tr.put
    cases hb : Nat.beq (k % 2) 0 <;> cases hc : Nat.beq (j % 2) 0 <;> simp only [cond_true, cond_false, Tr.get_succ, hc]
    · exact Tr.put_other d (k / 2) (j / 2) r v (by
        have h1 : k % 2 ≠ 0 := fun e => by rw [e] at hb; cases hb
        have h2 : j % 2 ≠ 0 := fun e => by rw [e] at hc; cases hc
        omega)
    · exact Tr.put_other d (k / 2) (j / 2) l v (by
        have h1 := Nat.eq_of_beq_eq_true hb
        have h2 := Nat.eq_of_beq_eq_true hc
        omega)
theorem Tr.set_self {α : Type} (t : Tr α) (k : Nat) (v : Option α) : (t.set k v).get k = v := by rw [Tr.set_eq]; exact Tr.put_self _ _ _ _ (by omega)
theorem Tr.set_other {α : Type} (t : Tr α) {k j : Nat} (v : Option α) (h : k ≠ j) : (t.set k v).get j = t.get j := by rw [Tr.set_eq]; exact Tr.put_other _ _ _ _ _ h


/- Forcing changes nothing. -/
theorem fNat_eq {β : Type} (n : Nat) (k : Nat → β) : fNat n k = k n := by cases n <;> rfl
theorem fInt_eq {β : Type} (n : Int) (k : Int → β) : fInt n k = k n := by
  cases n with
  | ofNat n => exact fNat_eq n (fun n => k (.ofNat n))
  | negSucc n => exact fNat_eq n (fun n => k (.negSucc n))
theorem fL_eq {α β : Type} (l : List α) (k : List α → β) : fL l k = k l := by
  induction l generalizing k with
  | nil => rfl
  | cons a l ih => exact ih _
theorem fBytes_eq {β : Type} (l : List UInt8) (k : List UInt8 → β) : fBytes l k = k l := by
  induction l generalizing k with
  | nil => rfl
  | cons a l ih =>
    change fNat a.toNat (fun n => fBytes l fun t => k (UInt8.ofNat n :: t)) = _
    rw [fNat_eq, ih, UInt8.ofNat_toNat]
theorem fStr_eq {β : Type} (s : ByteArray) (k : ByteArray → β) : fStr s k = k s := by
  unfold fStr
  rw [fBytes_eq]
theorem fV_eq {β : Type} (v : Value) (k : Value → β) : fV v k = k v := by
  unfold fV
  split <;> simp only [fInt_eq, fStr_eq, fNat_eq]
theorem fVs_eq {β : Type} (l : List Value) (k : List Value → β) : fVs l k = k l := by
  induction l generalizing k with
  | nil => rfl
  | cons a l ih =>
    change fV a (fun a => fVs l fun t => k (a :: t)) = _
    rw [fV_eq, ih]
theorem dropN_eq {α : Type} (l : List α) (i : Nat) : dropN l i = l.drop i := by
  induction i with
  | zero => rfl
  | succ i ih =>
    change List.rec (motive := fun _ => List α) [] (fun _ t _ => t) (dropN l i) = _
    rw [ih, ← List.tail_drop]
    cases l.drop i <;> rfl
theorem takeK_eq {α β : Type} (n : Nat) (l : List α) (k : Option (List α) → β) : takeK n l k = k (if n ≤ l.length then some (l.take n) else none) := by
  induction n generalizing l k with
  | zero => simp; rfl
  | succ n ih =>
    cases l with
    | nil => simp; rfl
    | cons a t =>
      change takeK n t (fun r => match r with
        | some r => k (some (a :: r))
        | none => k none) = _
      rw [ih]
      by_cases h : n ≤ t.length
      · simp [h]
      · simp [h]
theorem cut_some {cs : List Value} {o n : Nat} {r : List Value} (h : cut cs o n = some r) : r = (cs.drop o).take n ∧ r.length = n := by
  unfold cut at h
  rw [takeK_eq, dropN_eq, id] at h
  split at h
  · rename_i hle
    injection h with h
    subst h
    exact ⟨rfl, by rw [List.length_take]; omega⟩
  · cases h

/- Frames. -/
theorem N8.set_self {α β : Type} (t : N8 α) (d : D8) (x : α) (k : N8 α → β) : ∃ t', t.setK d x k = k t' ∧ t'.get d = x ∧ ∀ c, c ≠ d → t'.get c = t.get c := by
  cases t
  cases d <;> refine ⟨_, rfl, rfl, fun c hc => ?_⟩ <;> cases c <;> first | rfl | exact absurd rfl hc
theorem dig_inj {i j : Nat} (hi : i < 8) (hj : j < 8) (h : dig i = dig j) : i = j := by
  have hi' : i = 0 ∨ i = 1 ∨ i = 2 ∨ i = 3 ∨ i = 4 ∨ i = 5 ∨ i = 6 ∨ i = 7 := by omega
  have hj' : j = 0 ∨ j = 1 ∨ j = 2 ∨ j = 3 ∨ j = 4 ∨ j = 5 ∨ j = 6 ∨ j = 7 := by omega
  rcases hi' with rfl | rfl | rfl | rfl | rfl | rfl | rfl | rfl <;> rcases hj' with rfl | rfl | rfl | rfl | rfl | rfl | rfl | rfl <;> first | rfl | (revert h; simp [dig])
/-- The slot's three digits. -/
theorem frGet_lt {t : Fr} {k : Nat} (h : k < 512) : frGet t k = ((t.get (dig (k / 64))).get (dig (k / 8 % 8))).get (dig (k % 8)) := by
  unfold frGet
  rw [show Nat.blt k 512 = true from Nat.ble_eq_true_of_le h]
  rfl
theorem frGet_ge {t : Fr} {k : Nat} (h : ¬ k < 512) : frGet t k = none := by
  unfold frGet
  rw [show Nat.blt k 512 = false from Bool.eq_false_iff.2 fun e => h (Nat.le_of_ble_eq_true e)]
theorem frPut_eq {β : Type} (t : Fr) {k : Nat} (hk : k < 512) (v : Option Value) (c : Fr → β) : ∃ t', frPut t k v c = c t' ∧ frGet t' k = v ∧ ∀ j, j ≠ k → frGet t' j = frGet t j := by
  unfold frPut
  obtain ⟨t2, e2, s2, o2⟩ := N8.set_self ((t.get (dig (Nat.div k 64))).get (dig (Nat.mod (Nat.div k 8) 8))) (dig (Nat.mod k 8)) v (fun t2 => (t.get (dig (Nat.div k 64))).setK (dig (Nat.mod (Nat.div k 8) 8)) t2 fun t1 => t.setK (dig (Nat.div k 64)) t1 c)
  rw [e2]
  obtain ⟨t1, e1, s1, o1⟩ := N8.set_self (t.get (dig (Nat.div k 64))) (dig (Nat.mod (Nat.div k 8) 8)) t2 (fun t1 => t.setK (dig (Nat.div k 64)) t1 c)
  rw [e1]
  obtain ⟨t0, e0, s0, o0⟩ := N8.set_self t (dig (Nat.div k 64)) t1 c
  rw [e0]
  refine ⟨t0, rfl, ?_, fun j hj => ?_⟩
  · rw [frGet_lt hk]
    change ((t0.get (dig (Nat.div k 64))).get (dig (Nat.mod (Nat.div k 8) 8))).get (dig (Nat.mod k 8)) = v
    rw [s0, s1, s2]
  · by_cases hj5 : j < 512
    · rw [frGet_lt hj5, frGet_lt hj5]
      by_cases h1 : dig (j / 64) = dig (k / 64)
      · have h1' := dig_inj (by omega) (by omega) h1
        by_cases h2 : dig (j / 8 % 8) = dig (k / 8 % 8)
        · have h2' := dig_inj (by omega) (by omega) h2
          have h3 : dig (j % 8) ≠ dig (k % 8) := fun h3 => hj (by
            have h3' := dig_inj (by omega) (by omega) h3
            omega)
          rw [h1, h2]
          change ((t0.get (dig (Nat.div k 64))).get (dig (Nat.mod (Nat.div k 8) 8))).get (dig (j % 8)) = _
          rw [s0, s1, o2 _ h3]
          rfl
        · rw [h1]
          change ((t0.get (dig (Nat.div k 64))).get (dig (j / 8 % 8))).get (dig (j % 8)) = _
          rw [s0, o1 _ h2]
          rfl
      · rw [o0 _ h1]
    · rw [frGet_ge hj5, frGet_ge hj5]

/- What an operation does to the memory. -/
noncomputable def new (M : Mem) (cs : List Value) (T : TypeId) (sz : Nat) : Mem := ⟨M.t.set M.nx (some ⟨cs, T, sz⟩), M.nx + 1⟩
theorem newK_eq {β : Type} (M : Mem) (cs : List Value) (T sz : Nat) (k : Mem → β) : newK M cs T sz k = k (new M cs T sz) := by
  unfold newK new
  rw [fVs_eq, Tr.putK_set, fNat_eq]
noncomputable def Eff.apply (m : Eff) (M : Mem) : Mem := match m with
  | .no => M
  | .new cs T sz => Go.Proofs.YthldmlfpebgojaaGreatDoor.new M cs T sz
  | .wr b B => ⟨M.t.set b (some B), M.nx⟩
  | .app a cs T sz => Go.Proofs.YthldmlfpebgojaaGreatDoor.new ⟨M.t.set a none, M.nx⟩ cs T sz
theorem Eff.applyK_eq {β : Type} (m : Eff) (M : Mem) (k : Mem → β) : m.applyK M k = k (m.apply M) := by
  cases m with
  | no => rfl
  | new cs T sz => exact newK_eq M cs T sz k
  | wr b B =>
    obtain ⟨cs, T, sz⟩ := B
    change fL cs _ = _
    rw [fL_eq, Tr.putK_set]
    rfl
  | app a cs T sz =>
    change Tr.putK (Nat.succ a) M.t a none (fun t => newK ⟨t, M.nx⟩ cs T sz k) = _
    rw [Tr.putK_set, newK_eq]
    rfl

/-- Block b of the evaluator: the world's block, and how much greater its slices' capacity is; numbers from n on are free. -/
structure Env where
  mk ::
  f : Nat → Option (Nat × Nat)
  n : Nat
/-- What was known is known; what was not known of the numbers given is not known. -/
structure Ext (e e' : Env) : Prop where
  up : ∀ (b : Nat) (p : Nat × Nat), e.f b = some p → e'.f b = some p
  n : e.n ≤ e'.n
  old : ∀ b, b < e.n → e.f b = none → e'.f b = none
theorem Ext.refl (e : Env) : Ext e e := ⟨fun _ _ h => h, Nat.le_refl _, fun _ _ h => h⟩
theorem Ext.trans {a b c : Env} (h : Ext a b) (k : Ext b c) : Ext a c := ⟨fun i p hp => k.up i p (h.up i p hp), Nat.le_trans h.n k.n, fun i hi hn => k.old i (Nat.lt_of_lt_of_le hi h.n) (h.old i hi hn)⟩
def Env.put (e : Env) (b : Nat) (p : Nat × Nat) (n : Nat) : Env := ⟨fun c => if c = b then some p else e.f c, n⟩
theorem env_new (e : Env) (b : Nat) (p : Nat × Nat) (n : Nat) : (e.put b p n).f b = some p := if_pos rfl
theorem env_old (e : Env) {b c : Nat} (p : Nat × Nat) (n : Nat) (h : c ≠ b) : (e.put b p n).f c = e.f c := if_neg h
theorem env_up {e : Env} {b : Nat} (h : e.f b = none) (p : Nat × Nat) (n : Nat) : ∀ c q, e.f c = some q → (e.put b p n).f c = some q := fun c q hq => by
  rw [env_old e p n (fun hc => by subst hc; rw [h] at hq; cases hq)]
  exact hq
theorem Ext.put {e : Env} (h : e.f e.n = none) (p : Nat × Nat) : Ext e (e.put e.n p (e.n + 1)) := ⟨env_up h p _, Nat.le_succ _, fun b hb hn => by rw [env_old e p _ (by omega)]; exact hn⟩

inductive L1 (R : Value → Value → Prop) : List Value → List Value → Prop
  | nil : L1 R [] []
  | cons {a b : Value} {l m : List Value} : R a b → L1 R l m → L1 R (a :: l) (b :: m)
section
variable {R R' : Value → Value → Prop} {l m l2 m2 : List Value}
theorem L1.imp (h : L1 R l m) (k : ∀ a b, R a b → R' a b) : L1 R' l m := by
  induction h with
  | nil => exact .nil
  | cons h1 _ ih => exact .cons (k _ _ h1) ih
theorem L1.len (h : L1 R l m) : l.length = m.length := by
  induction h with
  | nil => rfl
  | cons _ _ ih => simp [ih]
theorem L1.app (h : L1 R l m) (k : L1 R l2 m2) : L1 R (l ++ l2) (m ++ m2) := by
  induction h with
  | nil => exact k
  | cons h1 _ ih => exact .cons h1 ih
theorem L1.take (h : L1 R l m) (n : Nat) : L1 R (l.take n) (m.take n) := by
  induction h generalizing n with
  | nil => simp; exact .nil
  | cons h1 _ ih =>
    cases n with
    | zero => exact .nil
    | succ n => exact .cons h1 (ih n)
theorem L1.drop (h : L1 R l m) (n : Nat) : L1 R (l.drop n) (m.drop n) := by
  induction h generalizing n with
  | nil => simp; exact .nil
  | cons h1 h2 ih =>
    cases n with
    | zero => exact .cons h1 h2
    | succ n => exact ih n
theorem L1.get (h : L1 R l m) {i : Nat} {v : Value} (hi : l[i]? = some v) : ∃ v', m[i]? = some v' ∧ R v v' := by
  induction h generalizing i with
  | nil => simp at hi
  | cons h1 _ ih =>
    cases i with
    | zero => simp at hi; subst hi; exact ⟨_, rfl, h1⟩
    | succ i => exact ih hi
theorem L1.get' (h : L1 R l m) {i : Nat} {v : Value} (hi : m[i]? = some v) : ∃ v', l[i]? = some v' ∧ R v' v := by
  induction h generalizing i with
  | nil => simp at hi
  | cons h1 _ ih =>
    cases i with
    | zero => simp at hi; subst hi; exact ⟨_, rfl, h1⟩
    | succ i => exact ih hi
theorem L1.self (h : ∀ v ∈ l, R v v) : L1 R l l := by
  induction l with
  | nil => exact .nil
  | cons a l ih => exact .cons (h a (by simp)) (ih fun v hv => h v (by simp [hv]))
theorem L1.mem (h : L1 R l m) {v : Value} (hv : v ∈ m) : ∃ u, u ∈ l ∧ R u v := by
  obtain ⟨i, hi⟩ := List.getElem?_of_mem hv
  obtain ⟨u, hu, hr⟩ := h.get' hi
  exact ⟨u, List.mem_of_getElem? hu, hr⟩
theorem L1.mem' (h : L1 R l m) {v : Value} (hv : v ∈ l) : ∃ u, u ∈ m ∧ R v u := by
  obtain ⟨i, hi⟩ := List.getElem?_of_mem hv
  obtain ⟨u, hu, hr⟩ := h.get hi
  exact ⟨u, List.mem_of_getElem? hu, hr⟩
theorem L1.one {a : Value} (h : L1 R [a] m) : ∃ b, m = [b] ∧ R a b := by
  cases h with
  | cons h1 h2 =>
    cases h2
    exact ⟨_, rfl, h1⟩
end

/-- A value of one cell. -/
inductive V1 (e : Env) : Value → Value → Prop
  | plain {v : Value} (h : plain1 v = true) : V1 e v v
  | ptr {b o b' d : Nat} (h : e.f b = some (b', d)) : V1 e (.pointer (some ⟨b, o, none⟩)) (.pointer (some ⟨b', o, none⟩))
  | slc {b o n c b' d : Nat} (h : e.f b = some (b', d)) : V1 e (.slice (some ⟨b, o, none⟩) n c) (.slice (some ⟨b', o, none⟩) n (c + d))
  | slc0 {b o c c' : Nat} {A : Addr} : V1 e (.slice (some ⟨b, o, none⟩) 0 c) (.slice (some A) 0 c')
  | emp {A : Addr} : V1 e (.slice (some ⟨0, 0, some 0⟩) 0 0) (.slice (some A) 0 0)
/-- Also a struct. -/
inductive V2 (e : Env) : Value → Value → Prop
  | one {v v' : Value} (h : V1 e v v') : V2 e v v'
  | agg {l l' : List Value} (h : L1 (V1 e) l l') : V2 e (.agg l.toArray) (.agg l'.toArray)
/-- Also several results. -/
inductive V3 (e : Env) : Value → Value → Prop
  | two {v v' : Value} (h : V2 e v v') : V3 e v v'
  | tup {l l' : List Value} (h : L1 (V2 e) l l') : V3 e (.tuple l.toArray) (.tuple l'.toArray)
section
variable {e e' : Env} {v v' : Value} {l l' : List Value}
theorem V1.ext' (h : V1 e v v') (k : ∀ b p, e.f b = some p → e'.f b = some p) : V1 e' v v' := by
  cases h with
  | plain h => exact .plain h
  | ptr h => exact .ptr (k _ _ h)
  | slc h => exact .slc (k _ _ h)
  | slc0 => exact .slc0
  | emp => exact .emp
theorem V1.ext (h : V1 e v v') (k : Ext e e') : V1 e' v v' := h.ext' k.up
theorem V2.ext' (h : V2 e v v') (k : ∀ b p, e.f b = some p → e'.f b = some p) : V2 e' v v' := by
  cases h with
  | one h => exact .one (h.ext' k)
  | agg h => exact .agg (h.imp fun _ _ h => h.ext' k)
theorem V2.ext (h : V2 e v v') (k : Ext e e') : V2 e' v v' := h.ext' k.up
theorem V3.ext' (h : V3 e v v') (k : ∀ b p, e.f b = some p → e'.f b = some p) : V3 e' v v' := by
  cases h with
  | two h => exact .two (h.ext' k)
  | tup h => exact .tup (h.imp fun _ _ h => h.ext' k)
theorem V3.ext (h : V3 e v v') (k : Ext e e') : V3 e' v v' := h.ext' k.up
theorem V3.undef (e : Env) : V3 e Go.undef Go.undef := .tup (l := []) (l' := []) .nil
theorem plain_self (e : Env) (h : plain v = true) : V2 e v v := by
  cases v with
  | agg cs =>
    obtain ⟨l⟩ := cs
    refine .agg (L1.self fun u hu => .plain ?_)
    simp only [plain, List.all_eq_true] at h
    exact h u (by simpa using hu)
  | _ => exact .one (.plain h)
theorem plain_eq (h : plain v = true) (hv : V3 e v v') : v' = v := by
  cases hv with
  | tup _ => simp [plain, plain1] at h
  | two h2 => cases h2 with
    | one h1 => cases h1 with
      | plain _ => rfl
      | ptr _ => simp [plain, plain1] at h
      | slc _ => simp [plain, plain1] at h
      | slc0 => simp [plain, plain1] at h
      | emp => simp [plain, plain1] at h
    | agg hl =>
      rename_i l m
      simp only [plain, List.all_eq_true] at h
      have : m = l := by
        induction hl with
        | nil => rfl
        | @cons x0 y0 l0 m0 h1 _ ih =>
          have ha := h x0 (by simp)
          rw [ih fun x hx => h x (by simp at hx ⊢; exact .inr hx)]
          cases h1 with
          | plain _ => rfl
          | ptr _ => simp [plain1] at ha
          | slc _ => simp [plain1] at ha
          | slc0 => simp [plain1] at ha
          | emp => simp [plain1] at ha
      rw [this]
theorem V3.bool {b : Bool} (h : V3 e (.bool b) v') : v' = .bool b := plain_eq rfl h
theorem V3.int {k : IntKind} {n : Int} (h : V3 e (.int k n) v') : v' = .int k n := plain_eq rfl h
theorem V3.str {s : ByteArray} (h : V3 e (.string s) v') : v' = .string s := plain_eq rfl h
theorem V3.nilp (h : V3 e (.pointer none) v') : v' = .pointer none := plain_eq rfl h
theorem V3.nils {n c : Nat} (h : V3 e (.slice none n c) v') : v' = .slice none n c := plain_eq rfl h
theorem V3.ptr {b o : Nat} (h : V3 e (.pointer (some ⟨b, o, none⟩)) v') : ∃ b' d, e.f b = some (b', d) ∧ v' = .pointer (some ⟨b', o, none⟩) := by
  cases h with
  | two h => cases h with
    | one h => cases h with
      | plain h => simp [plain1] at h
      | ptr h => exact ⟨_, _, h, rfl⟩
theorem V3.slc {b o n c : Nat} (h : V3 e (.slice (some ⟨b, o, none⟩) n c) v') (hn : 0 < n) : ∃ b' d, e.f b = some (b', d) ∧ v' = .slice (some ⟨b', o, none⟩) n (c + d) := by
  cases h with
  | two h => cases h with
    | one h => cases h with
      | plain h => simp [plain1] at h
      | slc h => exact ⟨_, _, h, rfl⟩
      | slc0 => omega
theorem V3.slcA {b o n c : Nat} (h : V3 e (.slice (some ⟨b, o, none⟩) n c) v') : ∃ A' c', v' = .slice (some A') n c' ∧ (n ≤ c → n ≤ c') := by
  cases h with
  | two h => cases h with
    | one h => cases h with
      | plain h => simp [plain1] at h
      | slc h => exact ⟨_, _, rfl, fun h => by omega⟩
      | slc0 => exact ⟨_, _, rfl, fun h => by omega⟩
theorem V3.emp (h : V3 e (.slice (some ⟨0, 0, some 0⟩) 0 0) v') : ∃ A, v' = .slice (some A) 0 0 := by
  cases h with
  | two h => cases h with
    | one h => cases h with
      | plain h => simp [plain1] at h
      | emp => exact ⟨_, rfl⟩
theorem V3.tuple {vs : Array Value} (h : V3 e (.tuple vs) v') : ∃ vs', v' = .tuple vs' ∧ L1 (V2 e) vs.toList vs'.toList := by
  cases h with
  | two h => cases h with
    | one h => cases h with
      | plain h => simp [plain1] at h
  | tup h => exact ⟨_, rfl, by simpa using h⟩
theorem V1.cell1 (h : V1 e v v') : v'.oneCell' = true ∧ cellsOf v' = some [v'] ∧ v'.cells = #[v'] := by
  cases h with
  | plain h =>
    cases v <;> first | exact ⟨rfl, rfl, rfl⟩ | (simp [plain1] at h)
  | ptr _ => exact ⟨rfl, rfl, rfl⟩
  | slc _ => exact ⟨rfl, rfl, rfl⟩
  | slc0 => exact ⟨rfl, rfl, rfl⟩
  | emp => exact ⟨rfl, rfl, rfl⟩
theorem V1.cell0 (h : V1 e v v') : cellsOf v = some [v] ∧ v.cells = #[v] := by
  cases h with
  | plain h =>
    cases v <;> first | exact ⟨rfl, rfl⟩ | (simp [plain1] at h)
  | ptr _ => exact ⟨rfl, rfl⟩
  | slc _ => exact ⟨rfl, rfl⟩
  | slc0 => exact ⟨rfl, rfl⟩
  | emp => exact ⟨rfl, rfl⟩
/-- The cells of a value. -/
theorem V3.cells {cs : List Value} (h : V3 e v v') (hc : cellsOf v = some cs) : v.cells = cs.toArray ∧ ∃ cs', v'.cells = cs'.toArray ∧ L1 (V1 e) cs cs' := by
  cases h with
  | tup h => simp [cellsOf] at hc
  | two h => cases h with
    | one h =>
      obtain ⟨h1, h2⟩ := h.cell0
      rw [h1] at hc
      injection hc with hc
      subst hc
      exact ⟨h2, [v'], h.cell1.2.2, .cons h .nil⟩
    | agg h =>
      simp only [cellsOf, Option.some.injEq] at hc
      subst hc
      exact ⟨by simp [Value.cells], _, rfl, by simpa using h⟩
theorem L1.ones (h : L1 (V1 e) l l') : ∀ u ∈ l', u.oneCell' = true := fun u hu => by
  obtain ⟨x, _, hx⟩ := h.mem hu
  exact hx.cell1.1
theorem all_plain (e : Env) (h : l.all plain1 = true) : L1 (V1 e) l l := L1.self fun u hu => .plain (List.all_eq_true.1 h u hu)
end

/-- The evaluator's memory lies in the world, in blocks from base on; what is only read lies ahead of base. -/
structure MR (base : Nat) (e : Env) (M : Mem) (w : World) : Prop where
  bs : base ≤ w.heap.size
  len : e.n = M.nx ∧ ∀ b, M.nx ≤ b → e.f b = none
  low : ∀ (b b' d : Nat), e.f b = some (b', d) → b' < w.heap.size
  blk : ∀ (b : Nat) (B : Blk), M.t.get b = some B → 0 < B.sz → ∃ b' d cs sp, e.f b = some (b', d) ∧ L1 (V1 e) B.cells cs ∧ w.heap[b']? = some (.cells (cs ++ sp).toArray B.elem (0, 0)) ∧
    sp.length = d * B.sz ∧ (∀ k, k * B.sz = B.cells.length → k + d ≤ maxLen) ∧ base ≤ b'
  ro : ∀ (b : Nat) (B : Blk), M.t.get b = some B → B.sz = 0 → ∃ b' d, e.f b = some (b', d) ∧ b' < base ∧ ∀ i u, B.cells[i]? = some u → ok1 u = true → ∃ u', w.cell? ⟨b', i, none⟩ = some u' ∧ V1 e u u'
  inj : ∀ (b c b' c' d f : Nat) (B C : Blk), M.t.get b = some B → M.t.get c = some C → 0 < B.sz → 0 < C.sz → e.f b = some (b', d) → e.f c = some (c', f) → b' = c' → b = c
def env0 : Env := ⟨fun _ => none, 0⟩
theorem MR.start (w : World) : MR w.heap.size env0 mem0 w :=
  ⟨Nat.le_refl _, ⟨rfl, fun _ _ => rfl⟩, (fun b _ _ h => by cases h), fun b B h => by simp [mem0, Tr.e_get] at h, fun b B h => by simp [mem0, Tr.e_get] at h, fun b c _ _ _ _ B C h => by simp [mem0, Tr.e_get] at h⟩
section
variable {base : Nat} {e : Env} {M : Mem} {w w' : World}
/-- The world may draw. -/
theorem MR.keep (h : MR base e M w) (hs : w.heap.size ≤ w'.heap.size) (hk : ∀ b, b < w.heap.size → w'.heap[b]? = w.heap[b]?) : MR base e M w' := by
  refine ⟨Nat.le_trans h.bs hs, h.len, fun b b' d hb => Nat.lt_of_lt_of_le (h.low b b' d hb) hs, fun b B hB hz => ?_, fun b B hB hz => ?_, h.inj⟩
  · obtain ⟨b', d, cs, sp, h1, h2, h3, h4⟩ := h.blk b B hB hz
    exact ⟨b', d, cs, sp, h1, h2, (hk b' (h.low b b' d h1)).trans h3, h4⟩
  · obtain ⟨b', d, h1, h2, h3⟩ := h.ro b B hB hz
    refine ⟨b', d, h1, h2, fun i u hu ho => ?_⟩
    obtain ⟨u', h4, h5⟩ := h3 i u hu ho
    exact ⟨u', (cell_of_same (a := ⟨b', i, none⟩) (hk b' (h.low b b' d h1))).trans h4, h5⟩
theorem MR.drew (h : MR base e M w) : MR base e M { w with drawn := w.drawn + 1 } := h.keep (Nat.le_refl _) fun _ _ => rfl
/-- What is only read stays. -/
theorem MR.roKeep (h : MR base e M w) {e' : Env} (hE : ∀ b p, e.f b = some p → e'.f b = some p) {w' : World} (hk : ∀ b, b < base → w'.heap[b]? = w.heap[b]?) {b : Nat} {B : Blk} (hB : M.t.get b = some B) (hz : B.sz = 0) :
    ∃ b' d, e'.f b = some (b', d) ∧ b' < base ∧ ∀ i u, B.cells[i]? = some u → ok1 u = true → ∃ u', w'.cell? ⟨b', i, none⟩ = some u' ∧ V1 e' u u' := by
  obtain ⟨b', d, h1, h2, h3⟩ := h.ro b B hB hz
  refine ⟨b', d, hE _ _ h1, h2, fun i u hu ho => ?_⟩
  obtain ⟨u', h4, h5⟩ := h3 i u hu ho
  exact ⟨u', (cell_of_same (a := ⟨b', i, none⟩) (hk b' h2)).trans h4, h5.ext' hE⟩
/-- A new block with a number that is free. -/
theorem MR.allocAt (h : MR base e M w) {id : Nat} (hid : e.f id = none) {cs cs' : List Value} {T sz : Nat} (hok : newOk cs sz = true) (hl : L1 (V1 e) cs cs') {n : Nat} (hn1 : M.nx ≤ n) (hn2 : id < n) :
    MR base (e.put id (w.heap.size, 0) n) ⟨M.t.set id (some ⟨cs, T, sz⟩), n⟩ (w.alloc (.cells cs'.toArray T)) := by
  have hnx := env_new e id (w.heap.size, 0) n
  have hext := env_up hid (w.heap.size, 0) n
  have hold : ∀ b p, b ≠ id → (e.put id (w.heap.size, 0) n).f b = some p → e.f b = some p := fun b p hb hp => by
    rwa [env_old e _ _ hb] at hp
  have hsz : (w.alloc (.cells cs'.toArray T)).heap.size = w.heap.size + 1 := by simp
  unfold newOk at hok
  simp only [Bool.and_eq_true] at hok
  have hsz0 := Nat.le_of_ble_eq_true hok.1
  have hcl := Nat.le_of_ble_eq_true hok.2
  refine ⟨?_, ⟨rfl, fun b hb => ?_⟩, fun b b' d hb => ?_, fun b B hB hz => ?_, fun b B hB hz => ?_, fun b c b' c' d f B C hB hC hzB hzC hb hc hbc => ?_⟩
  · rw [hsz]; exact Nat.le_succ_of_le h.bs
  · simp only at hb
    rw [env_old e _ _ (by omega)]
    exact h.len.2 b (by omega)
  · rw [hsz]
    by_cases hbn : b = id
    · subst hbn
      rw [hnx] at hb
      injection hb with hb
      injection hb with hb1 hb2
      subst hb1
      omega
    · have h2 := h.low b b' d (hold b _ hbn hb)
      omega
  · by_cases hbn : b = id
    · subst hbn
      simp only [Tr.set_self, Option.some.injEq] at hB
      subst hB
      refine ⟨_, _, cs', [], hnx, hl.imp fun _ _ h => h.ext' hext, ?_, by simp, fun k hk => ?_, h.bs⟩
      · rw [List.append_nil]
        exact heap_alloc_new w _
      · have : k ≤ k * sz := Nat.le_mul_of_pos_right k hsz0
        unfold maxLen
        simp only at hk
        omega
    · have hB' : M.t.get b = some B := by
        simp only at hB
        rwa [Tr.set_other _ _ (fun e => hbn e.symm)] at hB
      obtain ⟨b', d, c2, sp, h1, h2, h3, h4, h5⟩ := h.blk b B hB' hz
      refine ⟨b', d, c2, sp, hext _ _ h1, h2.imp fun _ _ h => h.ext' hext, ?_, h4, h5⟩
      rw [heap_alloc_old (h := h.low b b' d h1)]
      exact h3
  · by_cases hbn : b = id
    · subst hbn
      simp only [Tr.set_self, Option.some.injEq] at hB
      subst hB
      simp only at hz
      omega
    · have hB' : M.t.get b = some B := by
        simp only at hB
        rwa [Tr.set_other _ _ (fun e => hbn e.symm)] at hB
      exact h.roKeep hext (fun k hk => heap_alloc_old w _ (Nat.lt_of_lt_of_le hk h.bs)) hB' hz
  · by_cases hbn : b = id <;> by_cases hcn : c = id
    · rw [hbn, hcn]
    · subst hbn
      rw [hnx] at hb
      injection hb with hb
      injection hb with hb1 hb2
      have := h.low c c' f (hold c _ hcn hc)
      omega
    · subst hcn
      rw [hnx] at hc
      injection hc with hc
      injection hc with hc1 hc2
      have := h.low b b' d (hold b _ hbn hb)
      omega
    · simp only at hB hC
      rw [Tr.set_other _ _ (fun e => hbn e.symm)] at hB
      rw [Tr.set_other _ _ (fun e => hcn e.symm)] at hC
      exact h.inj b c b' c' d f B C hB hC hzB hzC (hold b _ hbn hb) (hold c _ hcn hc) hbc
theorem MR.free (h : MR base e M w) : e.f e.n = none := h.len.2 _ (Nat.le_of_eq h.len.1.symm)
theorem MR.alloc (h : MR base e M w) {cs cs' : List Value} {T sz : Nat} (hok : newOk cs sz = true) (hl : L1 (V1 e) cs cs') :
    MR base (e.put e.n (w.heap.size, 0) (e.n + 1)) (new M cs T sz) (w.alloc (.cells cs'.toArray T)) ∧ (e.put e.n (w.heap.size, 0) (e.n + 1)).f M.nx = some (w.heap.size, 0) := by
  have h1 := h.allocAt (T := T) h.free hok hl (n := e.n + 1) (by rw [h.len.1]; exact Nat.le_succ _) (Nat.lt_succ_self _)
  rw [h.len.1] at h1
  rw [h.len.1]
  exact ⟨h1, env_new e _ _ _⟩
/-- Reading. -/
theorem rd_some {b o n : Nat} {cs : List Value} (hr : rd M b o n = some cs) : ∃ B, M.t.get b = some B ∧ cs = (B.cells.drop o).take n ∧ cs.length = n ∧ (0 < B.sz ∨ ∀ u ∈ cs, ok1 u = true) := by
  unfold rd at hr
  split at hr
  · rename_i B hB
    unfold rdK at hr
    split at hr
    · rename_i cs' hc
      obtain ⟨h1, hl⟩ := cut_some hc
      cases hok : (Nat.blt 0 B.sz || cs'.all ok1) with
      | false => rw [hok] at hr; cases hr
      | true =>
        rw [hok] at hr
        obtain rfl : cs' = cs := by simpa using hr
        refine ⟨B, hB, h1, hl, ?_⟩
        rcases Bool.or_eq_true_iff.1 hok with h | h
        · exact .inl (Nat.le_of_ble_eq_true h)
        · exact .inr (List.all_eq_true.1 h)
    · cases hr
  · cases hr
theorem MR.read (h : MR base e M w) {b o n b' d : Nat} {cs : List Value} (hr : rd M b o n = some cs) (hb : e.f b = some (b', d)) :
    cs.length = n ∧ ∃ cs', L1 (V1 e) cs cs' ∧ ∀ j u, cs'[j]? = some u → w.cell? ((⟨b', o, none⟩ : Addr).add j) = some u := by
  obtain ⟨B, hB, rfl, hl, hz⟩ := rd_some hr
  refine ⟨hl, ?_⟩
  by_cases hs : 0 < B.sz
  · obtain ⟨b2, d2, c2, sp, h1, h2, h3, h4⟩ := h.blk b B hB hs
    rw [hb] at h1
    injection h1 with h1
    injection h1 with h1 h1'
    subst h1 h1'
    refine ⟨_, (h2.drop o).take n, fun j u hu => ?_⟩
    rw [addr_add]
    rw [List.getElem?_take] at hu
    split at hu
    · rw [List.getElem?_drop] at hu
      have hlt := (List.getElem?_eq_some_iff.1 hu).1
      unfold World.cell?
      simp only [h3]
      simp [List.getElem?_append_left hlt, hu]
    · cases hu
  · have hz := hz.resolve_left hs
    obtain ⟨b2, d2, h1, h2, h3⟩ := h.ro b B hB (by omega)
    rw [hb] at h1
    injection h1 with h1
    injection h1 with h1 h1'
    subst h1 h1'
    have key : ∀ i u, ((B.cells.drop o).take n)[i]? = some u → ∃ u', w.cell? ⟨b', o + i, none⟩ = some u' ∧ V1 e u u' := fun i u hu => by
      have hm := hz u (List.mem_of_getElem? hu)
      rw [List.getElem?_take] at hu
      split at hu
      · rw [List.getElem?_drop] at hu
        exact h3 (o + i) u hu hm
      · cases hu
    generalize (B.cells.drop o).take n = l at key
    have : ∀ (l : List Value) (o : Nat), (∀ i u, l[i]? = some u → ∃ u', w.cell? ⟨b', o + i, none⟩ = some u' ∧ V1 e u u') → ∃ m, L1 (V1 e) l m ∧ ∀ j u, m[j]? = some u → w.cell? ⟨b', o + j, none⟩ = some u := by
      intro l
      induction l with
      | nil => exact fun o _ => ⟨[], .nil, fun j u hu => by simp at hu⟩
      | cons a l ih =>
        intro o hk
        obtain ⟨u', g1, g2⟩ := hk 0 a rfl
        obtain ⟨m, g3, g4⟩ := ih (o + 1) fun i u hu => by
          have := hk (i + 1) u hu
          rwa [show o + (i + 1) = o + 1 + i by omega] at this
        refine ⟨u' :: m, .cons g2 g3, fun j u hu => ?_⟩
        rcases j with _ | j
        · obtain rfl : u' = u := by simpa using hu
          exact g1
        · have := g4 j u hu
          rwa [show o + 1 + j = o + (j + 1) by omega] at this
    obtain ⟨m, g1, g2⟩ := this l o key
    exact ⟨m, g1, fun j u hu => by rw [addr_add]; exact g2 j u hu⟩
/-- Writing. -/
theorem MR.write (h : MR base e M w) {b o b' d : Nat} {vs vs' : List Value} {m : Eff} (hw : wr M b o vs = some m) (hb : e.f b = some (b', d)) (hv : L1 (V1 e) vs vs') (P : Program) :
    ∃ w', (storeCells ⟨b', o, none⟩ vs').run P w = .ok () w' ∧ MR base e (m.apply M) w' ∧ Below base w w' := by
  unfold wr at hw
  split at hw
  · rename_i cB TB szB hB
    have hB : M.t.get b = some (Blk.mk cB TB szB) := hB
    generalize hBB : Blk.mk cB TB szB = B at hB
    obtain ⟨rfl, rfl, rfl⟩ : cB = B.cells ∧ TB = B.elem ∧ szB = B.sz := by subst hBB; exact ⟨rfl, rfl, rfl⟩
    cases hle : (Nat.blt 0 B.sz && Nat.ble (o + vs.length) B.cells.length) with
    | false => rw [hle] at hw; cases hw
    | true =>
      rw [hle] at hw
      simp only [cond_true, fVs_eq, Option.some.injEq] at hw
      subst hw
      simp only [Bool.and_eq_true] at hle
      have hz := Nat.le_of_ble_eq_true hle.1
      have hl := Nat.le_of_ble_eq_true hle.2
      obtain ⟨b2, d2, cs, sp, h1, h2, h3, h4, h5, hlo⟩ := h.blk b B hB hz
      rw [hb] at h1
      injection h1 with h1
      injection h1 with h1 h1'
      subst h1 h1'
      have hvl := hv.len
      have hcl := h2.len
      have hst := run_storeCells_at P b' o B.elem vs' 0 (cs ++ sp).toArray w h3 (by simp; omega) hv.ones
      change ∃ w', _ ∧ MR base e ⟨M.t.set b (some ⟨putCells B.cells o vs, B.elem, B.sz⟩), M.nx⟩ w' ∧ _
      have hhi := h.low b b' d hb
      refine ⟨_, hst, ⟨?_, h.len, fun c c' f hc => ?_, fun c C hC hzC => ?_, fun c C hC hzC => ?_, fun c1 c2 d1 d2 f1 f2 C1 C2 hC1 hC2 hz1 hz2 hc1 hc2 hcc => ?_⟩, ?_⟩
      · simpa using h.bs
      · have h7 := h.low c c' f hc
        simpa using h7
      · by_cases hcb : c = b
        · subst hcb
          simp only [Tr.set_self, Option.some.injEq] at hC
          subst hC
          refine ⟨b', d, putCells cs o vs', sp, hb, ?_, ?_, h4, ?_, hlo⟩
          · unfold putCells
            rw [hvl]
            exact (h2.take o).app (hv.app (h2.drop _))
          · rw [setRow_heap w b' _ _ B.elem (0, 0) h3]
            unfold putCells
            congr 2
            have e1 : o ≤ cs.length := by omega
            have e2 : o + vs'.length ≤ cs.length := by omega
            simp [List.take_append_of_le_length e1, List.drop_append_of_le_length e2]
          · simp only [putCells, List.length_append, List.length_take, List.length_drop]
            intro k hk
            exact h5 k (by omega)
        · simp only at hC
          rw [Tr.set_other _ _ (fun e => hcb e.symm)] at hC
          obtain ⟨c', f, cs2, sp2, g1, g2, g3, g4, g5⟩ := h.blk c C hC hzC
          refine ⟨c', f, cs2, sp2, g1, g2, ?_, g4, g5⟩
          rw [setRow_other w b' c' _ (fun e => hcb (h.inj c b c' b' f d C B hC hB hzC hz g1 hb e))]
          exact g3
      · by_cases hcb : c = b
        · subst hcb
          simp only [Tr.set_self, Option.some.injEq] at hC
          subst hC
          simp only at hzC
          omega
        · simp only at hC
          rw [Tr.set_other _ _ (fun e => hcb e.symm)] at hC
          exact h.roKeep (fun _ _ h => h) (fun k hk => setRow_other w b' k _ (by omega)) hC hzC
      · have key : ∀ c C, (M.t.set b (some ⟨putCells B.cells o vs, B.elem, B.sz⟩)).get c = some C → 0 < C.sz → ∃ C', M.t.get c = some C' ∧ 0 < C'.sz := fun c C hC hzC => by
          by_cases hcb : c = b
          · subst hcb; exact ⟨B, hB, hz⟩
          · rw [Tr.set_other _ _ (fun e => hcb e.symm)] at hC
            exact ⟨C, hC, hzC⟩
        obtain ⟨C1', k1, k1'⟩ := key c1 C1 hC1 hz1
        obtain ⟨C2', k2, k2'⟩ := key c2 C2 hC2 hz2
        exact h.inj c1 c2 d1 d2 f1 f2 C1' C2' k1 k2 k1' k2' hc1 hc2 hcc
      · exact ⟨rfl, rfl, rfl, by simp, fun k hk => setRow_other w b' k _ (by omega)⟩
  · cases hw
end
end Go.Proofs.YthldmlfpebgojaaGreatDoor
