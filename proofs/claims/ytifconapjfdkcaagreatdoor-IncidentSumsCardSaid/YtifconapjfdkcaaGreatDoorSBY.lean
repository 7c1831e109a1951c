/-
  Joined texts: EvalDraw; EvalDraw2; EvalCode; ConLib; Con0; Con1; Con2; Con3; Con4; Con5; TTRead; Copy; Elems; Clone; Clone2; OwnZ; CopyPlaces. What each proves stands ahead of it, with its conditions.
-/
import Derived.Test.YtifconapjfdkcaaGreatDoorSBX
import Derived.Test.YtifconapjfdkcaaGreatDoorSBP
import Derived.Scope
import Derived.Laws.Sem
import Derived.Test.YtifconapjfdkcaaGreatDoorProg
import Derived.Test.YtifconapjfdkcaaGreatDoorSBC
import Derived.Test.YtifconapjfdkcaaGreatDoorSAI
import Derived.Test.YtifconapjfdkcaaGreatDoorSAM
import Derived.Test.YtifconapjfdkcaaGreatDoorSAE
import Derived.Test.YtifconapjfdkcaaGreatDoorSAF
import Derived.Test.YtifconapjfdkcaaGreatDoorSAA
import Derived.Deep.AppendLies
import Derived.Deep.RegionLaw
import Derived.Test.YtifconapjfdkcaaGreatDoorSAJ
import Derived.Test.YtifconapjfdkcaaGreatDoorSBV
import Derived.Test.YtifconapjfdkcaaGreatDoorSAG
import Derived.Deep.DeepCutAuto
/-
  A region of the evaluator that draws its order is the program's, in every order.
  No condition.
-/
namespace Go.Proofs.YtifconapjfdkcaaGreatDoor
set_option linter.unusedSimpArgs false
set_option linter.unusedVariables false
open Go.RowKit Go

/- Equal values. -/
theorem iEq_true {a b : Int} (h : iEq a b = true) : a = b := by rw [iEq_eq] at h; exact eq_of_beq h
theorem sameAddr1_eq : ∀ {a b : Option Addr}, sameAddr1 a b = true → a = b
  | none, none, _ => rfl
  | some ⟨b, o, none⟩, some ⟨b', o', none⟩, h => by
    simp only [sameAddr1, Bool.and_eq_true] at h
    rw [Nat.eq_of_beq_eq_true h.1, Nat.eq_of_beq_eq_true h.2]
  | none, some _, h => by simp [sameAddr1] at h
  | some ⟨_, _, none⟩, none, h => by simp [sameAddr1] at h
  | some ⟨_, _, some _⟩, none, h => by simp [sameAddr1] at h
  | some ⟨_, _, none⟩, some ⟨_, _, some _⟩, h => by simp [sameAddr1] at h
  | some ⟨_, _, some _⟩, some ⟨_, _, none⟩, h => by simp [sameAddr1] at h
  | some ⟨_, _, some _⟩, some ⟨_, _, some _⟩, h => by simp [sameAddr1] at h
theorem str_eq {a b : ByteArray} (h : bytesEq a.data.toList b.data.toList = true) : a = b := by
  rw [bytesEq_eq] at h
  have := eq_of_beq h
  obtain ⟨⟨l⟩⟩ := a
  obtain ⟨⟨m⟩⟩ := b
  simpa using this
theorem same1_eq {a b : Value} (h : same1 a b = true) : a = b := by
  unfold same1 at h
  split at h
  · rw [eq_of_beq h]
  · rw [iEq_true h]
  · rw [iEq_true h]
  · rw [str_eq h]
  · rw [sameAddr1_eq h]
  · simp only [Bool.and_eq_true] at h
    rw [sameAddr1_eq h.1.1, Nat.eq_of_beq_eq_true h.1.2, Nat.eq_of_beq_eq_true h.2]
  · rfl
  · rfl
  · cases h
theorem sameL_eq : ∀ {l m : List Value}, sameL l m = true → l = m
  | [], [], _ => rfl
  | a :: l, b :: m, h => by
    simp only [sameL, Bool.and_eq_true] at h
    rw [same1_eq h.1, sameL_eq h.2]
  | [], _ :: _, h => by simp [sameL] at h
  | _ :: _, [], h => by simp [sameL] at h
theorem sameV_eq {a b : Value} (h : sameV a b = true) : a = b := by
  unfold sameV at h
  split at h
  · have := sameL_eq h
    congr 1
    exact Array.ext' this
  · exact same1_eq h
theorem sameOut_eq {r : Option Out} {v : Value} (h : sameOut r v = true) : r = some (.w v) ∨ r = some (.v v .no) := by
  unfold sameOut at h
  split at h
  · rw [sameV_eq h]; exact .inl rfl
  · rw [sameV_eq h]; exact .inr rfl
  · cases h

/- What an operation that changes nothing yields does not look at the memory, but for loads. -/
theorem still_mem {P : Program} {o : Oper} {F : Fr} {M M' : Mem} (hc : isChg o = false) (hr : isRd o = false) : evalOp P o F M = evalOp P o F M' := by
  obtain ⟨d, op, ty, pos, af, g⟩ := o
  cases op <;> first | rfl | (simp [isChg] at hc; done) | (simp [isRd] at hr; done) | skip
  rename_i c
  obtain ⟨ce, ar, at'⟩ := c
  cases ce with
  | value f => simp [isChg] at hc
  | invoke r m => rfl
  | builtin b => cases b <;> first | rfl | (simp [isChg] at hc; done)

theorem bit_two (i j : Nat) : bit (2 ^ i) j = true ↔ i = j := by
  unfold bit
  rw [beqN_eq, decide_eq_true_iff]
  change (2 ^ i / 2 ^ j) % 2 = 1 ↔ _
  have := @Nat.testBit_two_pow i j
  rw [Nat.testBit_eq_decide_div_mod_eq] at this
  constructor
  · intro h
    rw [decide_eq_true h] at this
    exact of_decide_eq_true this.symm
  · intro h
    rw [decide_eq_true h] at this
    exact of_decide_eq_true this
theorem bit_test (m i : Nat) : bit m i = m.testBit i := by
  unfold bit
  rw [beqN_eq, Nat.testBit_eq_decide_div_mod_eq]
  rfl
theorem bit_lor (m n i : Nat) : bit (Nat.lor m n) i = (bit m i || bit n i) := by
  rw [bit_test, bit_test, bit_test]
  exact Nat.testBit_or m n i
theorem bit_zero (i : Nat) : bit 0 i = false := by rw [bit_test]; exact Nat.zero_testBit i

/-- Goes before, through the edges that bind. -/
inductive Pre (ops : Array Oper) : Nat → Nat → Prop
  | one {j : Nat} {o : Oper} {e : Edge} : ops[j]? = some o → e ∈ o.after → Region.binds .any e = true → Pre ops j e.on
  | more {j i : Nat} {o : Oper} {e : Edge} : ops[j]? = some o → e ∈ o.after → Region.binds .any e = true → Pre ops e.on i → Pre ops j i
theorem maskOf_pre {ops : Array Oper} {ms : List Nat} {j : Nat} {o : Oper} (ho : ops[j]? = some o) (hms : ∀ k i, bit (ms.getD k 0) i = true → Pre ops k i) : ∀ {l : List Edge}, (∀ e ∈ l, e ∈ o.after) → ∀ {i : Nat}, bit (maskOf ms l) i = true → Pre ops j i
  | [], _, i, h => by rw [maskOf, bit_zero] at h; cases h
  | e :: l, hl, i, h => by
    rw [maskOf] at h
    cases hb : Region.binds .any e with
    | false =>
      rw [hb] at h
      exact maskOf_pre ho hms (fun e' he' => hl e' (by simp [he'])) h
    | true =>
      rw [hb] at h
      simp only [cond_true, bit_lor, Bool.or_eq_true] at h
      rcases h with h | h | h
      · obtain rfl := (bit_two _ _).1 h
        exact .one ho (hl e (by simp)) hb
      · exact .more ho (hl e (by simp)) hb (hms _ _ h)
      · exact maskOf_pre ho hms (fun e' he' => hl e' (by simp [he'])) h
theorem masks_pre {ops : Array Oper} : ∀ (l : List Oper) (ms : List Nat), (∀ k, k < l.length → ops[ms.length + k]? = l[k]?) → (∀ k i, bit (ms.getD k 0) i = true → Pre ops k i) → ∀ k i, bit ((masks l ms).getD k 0) i = true → Pre ops k i
  | [], ms, _, h => h
  | o :: l, ms, hl, h => by
    rw [masks]
    have ho : ops[ms.length]? = some o := by simpa using hl 0 (by simp)
    refine masks_pre l _ (fun k hk => ?_) (fun k i hb => ?_)
    · have := hl (k + 1) (by simp; omega)
      simp only [List.length_append, List.length_cons, List.length_nil]
      rw [show ms.length + (0 + 1) + k = ms.length + (k + 1) by omega]
      simpa using this
    · by_cases hk : k < ms.length
      · rw [List.getD_eq_getElem?_getD, List.getElem?_append_left hk, ← List.getD_eq_getElem?_getD] at hb
        exact h k i hb
      · by_cases hk2 : k = ms.length
        · subst hk2
          simp only [List.getD_eq_getElem?_getD, List.getElem?_concat_length, Option.getD_some] at hb
          exact maskOf_pre ho h (fun e he => by simpa using he) hb
        · have : (ms ++ [maskOf ms o.after.toList])[k]? = none := List.getElem?_eq_none (by simp; omega)
          rw [List.getD_eq_getElem?_getD, this] at hb
          simp only [Option.getD_none, bit_zero] at hb
          cases hb
theorem allOps_iff {ops : Array Oper} {f : Nat → Oper → Bool} (h : allOps ops f = true) {i : Nat} {o : Oper} (ho : ops[i]? = some o) : f i o = true := by
  unfold allOps at h
  have := List.all_eq_true.1 h i (List.mem_range.2 (Array.getElem?_eq_some_iff.1 ho).1)
  rw [ho] at this
  exact this
structure DrawFacts (ops : Array Oper) : Prop where
  back : ∀ (j : Nat) (o : Oper), ops[j]? = some o → ∀ e ∈ o.after, Region.binds .any e = true → e.on < j
  one : ∀ (i j : Nat) (u o : Oper) (t : Nat), ops[i]? = some u → ops[j]? = some o → u.dst = some t → o.dst = some t → i = j
  read : ∀ (i j : Nat) (u o : Oper) (t : Nat), ops[i]? = some u → ops[j]? = some o → u.dst = some t → t ∈ tmpsOf ops o → Pre ops j i ∨ Pre ops i j
  row : ∀ (i j : Nat) (u o : Oper), ops[i]? = some u → ops[j]? = some o → isChg u = true → isChg o = true → i < j → Pre ops j i ∨ (loose ops (masks ops.toList []) = true ∧ i = (pq ops).1 ∧ j = (pq ops).2)
theorem masks_all (ops : Array Oper) (k i : Nat) (h : bit ((masks ops.toList []).getD k 0) i = true) : Pre ops k i :=
  masks_pre ops.toList [] (fun k _ => by simp) (fun k i h => by simp [bit_zero] at h) k i h
theorem drawFacts {ops : Array Oper} (h : drawOk ops (masks ops.toList []) = true) : DrawFacts ops := by
  unfold drawOk at h
  simp only [Bool.and_eq_true] at h
  obtain ⟨⟨h1, h2⟩, h3⟩ := h
  refine ⟨fun j o ho e he hb => ?_, fun i j u o t hi hj hu ho => ?_, fun i j u o t hi hj hu ht => ?_, fun i j u o hi hj hu ho hij => ?_⟩
  · have := List.all_eq_true.1 (allOps_iff h1 ho) e (by simpa using he)
    rw [hb] at this
    simp only [Bool.not_true, Bool.false_or] at this
    exact Nat.le_of_ble_eq_true this
  · have := allOps_iff (allOps_iff h2 hj) hi
    rw [hu] at this
    simp only [Bool.and_eq_true, Bool.or_eq_true] at this
    rcases this.1 with h | h
    · exact Nat.eq_of_beq_eq_true h
    · rw [ho] at h
      simp at h
  · have := allOps_iff (allOps_iff h2 hj) hi
    rw [hu] at this
    simp only [Bool.and_eq_true, Bool.or_eq_true] at this
    rcases this.2 with h | h
    · have : (tmpsOf ops o).contains t = true := List.contains_iff_mem.2 ht
      rw [this] at h
      cases h
    · rcases h with h | h
      · exact .inl (masks_all ops j i h)
      · exact .inr (masks_all ops i j h)
  · have := allOps_iff (allOps_iff h3 hj) hi
    rw [hu, ho] at this
    simp only [Bool.and_true, Bool.not_true, Bool.false_or, Bool.or_eq_true, Bool.and_eq_true] at this
    rcases this with (h | h) | h
    · have := Nat.le_of_ble_eq_true h
      omega
    · exact .inl (masks_all ops j i h)
    · exact .inr ⟨h.1.1, Nat.eq_of_beq_eq_true h.1.2, Nat.eq_of_beq_eq_true h.2⟩

/-- What the run in the text's order shows of an operation. -/
structure StepAt (P : Program) (call : CallE) (N : Nat) (ops : Array Oper) (lds : List Ld) (fr : Nat → Fr) (vs : Nat → Value) (mm : Nat → Mem) (ef : Nat → Eff) (j : Nat) (o : Oper) : Prop where
  put : PutRel (fr j) o.dst (vs j) (fr (j + 1)) N
  run : (wantedE ops o (fr j) = some false ∧ vs j = undef ∧ mm (j + 1) = mm j ∧ ef j = .no) ∨
    (wantedE ops o (fr j) = some true ∧ ((∃ out, evalOp P o (fr j) (mm j) = some out ∧ ((out = .w (vs j) ∧ ef j = .no) ∨ out = .v (vs j) (ef j)) ∧ mm (j + 1) = (ef j).apply (mm j) ∧
        (isChg o = false → ef j = .no ∧ (isRd o = true → (⟨j, cnt ops j, o, fr j, vs j⟩ : Ld) ∈ lds))) ∨
      (∃ f args, evalOp P o (fr j) (mm j) = some (.call f args) ∧ isChg o = true ∧ ef j = .no ∧ call f args (mm j) = some (vs j, mm (j + 1)))))
theorem cnt_zero (ops : Array Oper) : cnt ops 0 = 0 := rfl
theorem cnt_succ {ops : Array Oper} {j : Nat} {o : Oper} (h : ops[j]? = some o) : cnt ops (j + 1) = cnt ops j + if isChg o then 1 else 0 := by
  unfold cnt
  have hl : ops.toList[j]? = some o := by simpa using h
  rw [List.take_add_one, hl]
  cases hc : isChg o <;> simp [List.filter_append, hc]
theorem cnt_mono {ops : Array Oper} {i : Nat} : ∀ {j : Nat}, i ≤ j → cnt ops i ≤ cnt ops j
  | 0, h => by rw [Nat.le_zero.1 h]; exact Nat.le_refl _
  | j + 1, h => by
    by_cases hij : i = j + 1
    · rw [hij]; exact Nat.le_refl _
    · refine Nat.le_trans (cnt_mono (j := j) (by omega)) ?_
      cases ho : ops[j]? with
      | some o => rw [cnt_succ ho]; omega
      | none =>
        have hsz : ops.toList.length ≤ j := by
          rw [Array.length_toList]
          exact Array.getElem?_eq_none_iff.1 ho
        unfold cnt
        rw [List.take_of_length_le hsz, List.take_of_length_le (Nat.le_succ_of_le hsz)]
        exact Nat.le_refl _
section
variable {P : Program} {call : CallE} {N : Nat} {ops : Array Oper}
/-- What the rest of a run shows. -/
abbrev DEnd (P : Program) (call : CallE) (N : Nat) (ops : Array Oper) (l : List Oper) (j : Nat) (F : Fr) (M : Mem) (lds : List Ld) (mems : List (Mem × Eff)) (F1 : Fr) (M1 : Mem) : Prop :=
    ∃ (lds1 : List Ld) (ext : List (Mem × Eff)) (fr : Nat → Fr) (vs : Nat → Value) (mm : Nat → Mem) (ef : Nat → Eff) (sts : List Mem), fr j = F ∧ mm j = M ∧ fr (j + l.length) = F1 ∧ mm (j + l.length) = M1 ∧ (∀ ld ∈ lds, ld ∈ lds1) ∧ statesD ops (ext ++ mems) = some sts ∧ lds1.all (ldOk P ops (masks ops.toList []) sts) = true ∧
      (∀ k, k ≤ l.length → ∃ m, (ext ++ mems).reverse[cnt ops (j + k)]? = some (mm (j + k), m)) ∧ (ext ++ mems).length = cnt ops (j + l.length) + 1 ∧
      (∀ k o, l[k]? = some o → isChg o = true → (ext ++ mems).reverse[cnt ops (j + k) + 1]? = some (mm (j + k + 1), ef (j + k))) ∧
      ∀ k o, l[k]? = some o → StepAt P call N ops lds1 fr vs mm ef (j + k) o
theorem isNo_eq {m : Eff} (h : m.isNo = true) : m = .no := by
  cases m <;> first | rfl | cases h
theorem drun (hN : N ≤ 512) : ∀ (l : List Oper) (j : Nat) {F : Fr} {M : Mem} {lds : List Ld} {mems : List (Mem × Eff)} {F1 : Fr} {M1 : Mem}, (∀ k, k < l.length → ops[j + k]? = l[k]?) → evalDrawL P call N ops l F M lds mems j = some (F1, M1) → mems.length = cnt ops j + 1 → (∃ m ms, mems = (M, m) :: ms) →
    DEnd P call N ops l j F M lds mems F1 M1
  | [], j, F, M, lds, mems, F1, M1, _, h, hlen, hhd => by
    change (match statesD ops mems with
      | some l => bif lds.all (ldOk P ops (masks ops.toList []) l) then some (F, M) else none
      | none => none) = some (F1, M1) at h
    split at h
    case h_2 => cases h
    rename_i sts hst
    obtain ⟨hok, heq⟩ := some_bif h
    injection heq with h1 h2
    subst h1 h2
    refine ⟨lds, [], fun _ => F1, fun _ => undef, fun _ => M1, fun _ => .no, sts, rfl, rfl, rfl, rfl, fun _ h => h, hst, hok, fun k hk => ?_, hlen, fun k o hk => by simp at hk, fun k o hk => by simp at hk⟩
    have hk0 : k = 0 := by simpa using hk
    subst hk0
    obtain ⟨m, ms, rfl⟩ := hhd
    refine ⟨m, ?_⟩
    simp only [List.nil_append, List.reverse_cons, Nat.add_zero]
    rw [List.getElem?_append_right (by simp at hlen ⊢; omega)]
    simp at hlen ⊢
    rw [show cnt ops j - ms.length = 0 by omega]
    rfl
  | o :: l, j, F, M, lds, mems, F1, M1, hl, h, hlen, hhd => by
    have ho : ops[j]? = some o := by simpa using hl 0 (by simp)
    have hl' : ∀ k, k < l.length → ops[j + 1 + k]? = l[k]? := fun k hk => by
      have := hl (k + 1) (by simp; omega)
      rw [show j + 1 + k = j + (k + 1) by omega]
      simpa using this
    have hcs := cnt_succ ho
    have hrev : ∀ (ext : List (Mem × Eff)), ∃ m, (ext ++ mems).reverse[cnt ops j]? = some (M, m) := fun ext => by
      obtain ⟨m, ms, rfl⟩ := hhd
      refine ⟨m, ?_⟩
      simp only [List.length_cons] at hlen
      rw [List.reverse_append, List.reverse_cons, List.append_assoc]
      rw [List.getElem?_append_right (by simp; omega)]
      simp
      rw [show cnt ops j - ms.length = 0 by omega]
      rfl
    -- the end of each case: one step, then the rest
    have fin : ∀ {F' : Fr} {M' : Mem} {v : Value} {lds' : List Ld} {mems' pre : List (Mem × Eff)} {m : Eff}, evalDrawL P call N ops l F' M' lds' mems' (j + 1) = some (F1, M1) → mems' = pre ++ mems → mems'.length = cnt ops (j + 1) + 1 → (∃ m ms, mems' = (M', m) :: ms) → (isChg o = true → pre = [(M', m)]) →
        (∀ ld ∈ lds, ld ∈ lds') → PutRel F o.dst v F' N → (∀ lds1 : List Ld, (∀ ld ∈ lds', ld ∈ lds1) → ((wantedE ops o F = some false ∧ v = undef ∧ M' = M ∧ m = .no) ∨
    (wantedE ops o F = some true ∧ ((∃ out, evalOp P o F M = some out ∧ ((out = .w v ∧ m = .no) ∨ out = .v v m) ∧ M' = m.apply M ∧
        (isChg o = false → m = .no ∧ (isRd o = true → (⟨j, cnt ops j, o, F, v⟩ : Ld) ∈ lds1))) ∨
      (∃ f args, evalOp P o F M = some (.call f args) ∧ isChg o = true ∧ m = .no ∧ call f args M = some (v, M')))))) →
        DEnd P call N ops (o :: l) j F M lds mems F1 M1 := by
      intro F' M' v lds' mems' pre m hrest hpre hlen' hhd' hchg hsub hput hrun
      obtain ⟨lds1, ext, fr, vs, mm, ef, sts, e1, e2, e3, e4, e5, e6, e6', e7, e8, e9', e9⟩ := drun hN l (j + 1) hl' hrest hlen' hhd'
      subst hpre
      have hadd : ∀ k, j + 1 + k = j + (k + 1) := fun k => by omega
      have hj1 : ¬ (j + 1 = j) := by omega
      refine ⟨lds1, ext ++ pre, fun i => if i = j then F else fr i, fun i => if i = j then v else vs i, fun i => if i = j then M else mm i, fun i => if i = j then m else ef i, sts, by simp, by simp, ?_, ?_, fun ld h => e5 ld (hsub ld h), by simpa using e6, e6', fun k hk => ?_, ?_, fun k o' hk hc => ?_, fun k o' hk => ?_⟩
      · have : ¬ (j + (o :: l).length = j) := by simp
        simp only [this, if_false]
        rw [List.length_cons, ← hadd]
        exact e3
      · have : ¬ (j + (o :: l).length = j) := by simp
        simp only [this, if_false]
        rw [List.length_cons, ← hadd]
        exact e4
      · cases k with
        | zero =>
          simp only [Nat.add_zero, if_true]
          exact hrev _
        | succ k =>
          have : ¬ (j + (k + 1) = j) := by omega
          simp only [this, if_false]
          rw [← hadd, List.append_assoc]
          exact e7 k (by simp at hk; omega)
      · rw [List.length_cons, ← hadd, List.append_assoc]
        exact e8
      · cases k with
        | zero =>
          obtain rfl := some_eq hk
          simp only [Nat.add_zero, if_true, hj1, if_false]
          have hp := hchg hc
          subst hp
          rw [e2, List.append_assoc]
          rw [hc] at hcs
          have hml : mems.length = cnt ops j + 1 := hlen
          rw [List.reverse_append, List.reverse_append, List.append_assoc]
          rw [List.getElem?_append_right (by simp [hml])]
          simp [hml]
        | succ k =>
          have n1 : ¬ (j + (k + 1) = j) := by omega
          have n2 : ¬ (j + (k + 1) + 1 = j) := by omega
          simp only [n1, n2, if_false]
          rw [← hadd, List.append_assoc]
          exact e9' k o' (by simpa using hk) hc
      · cases k with
        | zero =>
          obtain rfl := some_eq hk
          refine ⟨?_, ?_⟩
          · simp only [Nat.add_zero, if_true, hj1, if_false, e1]
            exact hput
          · simp only [Nat.add_zero, if_true, hj1, if_false, e2]
            exact hrun lds1 e5
        | succ k =>
          have h9 := e9 k o' (by simpa using hk)
          rw [hadd] at h9
          have n1 : ¬ (j + (k + 1) = j) := by omega
          have n2 : ¬ (j + (k + 1) + 1 = j) := by omega
          refine ⟨?_, ?_⟩
          · simp only [n1, n2, if_false]
            exact h9.put
          · simp only [n1, n2, if_false]
            exact h9.run
    change opD P call N ops o (evalDrawL P call N ops l) F M lds mems j = _ at h
    have nd : ∀ {v : Value} {m : Eff} {F' : Fr}, wantedE ops o F = some true → PutRel F o.dst v F' N → (∃ out, evalOp P o F M = some out ∧ ((out = .w v ∧ m = .no) ∨ out = .v v m)) → nextD o F v F' m (m.apply M) lds mems j (evalDrawL P call N ops l) = some (F1, M1) → DEnd P call N ops (o :: l) j F M lds mems F1 M1 := by
      intro v m F' hw hp hout h
      unfold nextD at h
      obtain ⟨out, hv, hout⟩ := hout
      cases hc : isChg o with
      | true =>
        rw [hc] at h hcs
        exact fin h (pre := [(m.apply M, m)]) rfl (by simp [hlen, hcs]) ⟨_, _, rfl⟩ (fun _ => rfl) (fun _ h => h) hp fun lds1 hs => .inr ⟨hw, .inl ⟨_, hv, hout, rfl, fun h2 => by rw [hc] at h2; cases h2⟩⟩
      | false =>
        rw [hc] at h hcs
        simp only [cond_false] at h
        cases hm : m.isNo with
        | false => rw [hm] at h; cases h
        | true =>
          obtain rfl := isNo_eq hm
          simp only [hm, cond_true] at h
          cases hr : isRd o with
          | true =>
            rw [hr] at h
            exact fin (m := .no) h (pre := []) rfl (by simp [hlen, hcs]) hhd (fun h2 => by rw [hc] at h2; cases h2) (fun _ h => by simp [h]) hp fun lds1 hs => .inr ⟨hw, .inl ⟨_, hv, hout, rfl, fun _ => ⟨rfl, fun _ => hs _ (by simp [hlen])⟩⟩⟩
          | false =>
            rw [hr] at h
            exact fin (m := .no) h (pre := []) rfl (by simp [hlen, hcs]) hhd (fun h2 => by rw [hc] at h2; cases h2) (fun _ h => h) hp fun lds1 hs => .inr ⟨hw, .inl ⟨_, hv, hout, rfl, fun _ => ⟨rfl, fun h2 => by rw [hr] at h2; cases h2⟩⟩⟩
    unfold opD at h
    split at h
    · rename_i hw
      unfold outD at h
      split at h
      · rename_i v hv
        obtain ⟨F', hp, h⟩ := putFK_some hN h
        exact nd (m := .no) hw hp ⟨_, hv, .inl ⟨rfl, rfl⟩⟩ h
      · rename_i v m hv
        rw [fV_eq] at h
        obtain ⟨F', hp, h⟩ := putFK_some hN h
        rw [Eff.applyK_eq] at h
        exact nd hw hp ⟨_, hv, .inr rfl⟩ h
      · rename_i f args hv
        unfold callD at h
        split at h
        · rename_i v M' hcl
          obtain ⟨F', hp, h⟩ := putFK_some hN h
          cases hc : isChg o with
          | true =>
            rw [hc] at h hcs
            exact fin h (pre := [(M', .no)]) rfl (by simp [hlen, hcs]) ⟨_, _, rfl⟩ (fun _ => rfl) (fun _ h => h) hp fun lds1 hs => .inr ⟨hw, .inr ⟨f, args, hv, hc, rfl, hcl⟩⟩
          | false =>
            rw [hc] at h
            cases h
        · cases h
      · cases h
    · rename_i hw
      obtain ⟨F', hp, h⟩ := putFK_some hN h
      cases hc : isChg o with
      | true =>
        rw [hc] at h hcs
        exact fin h (pre := [(M, .no)]) rfl (by simp [hlen, hcs]) ⟨_, _, rfl⟩ (fun _ => rfl) (fun _ h => h) hp fun lds1 hs => .inl ⟨hw, rfl, rfl, rfl⟩
      | false =>
        rw [hc] at h hcs
        exact fin (m := .no) h (pre := []) rfl (by simp [hlen, hcs]) hhd (fun h2 => by rw [hc] at h2; cases h2) (fun _ h => h) hp fun lds1 hs => .inl ⟨hw, rfl, rfl, rfl⟩
    · cases h
end
end Go.Proofs.YtifconapjfdkcaaGreatDoor
/-
  A region of the evaluator that draws its order: every order.
  No condition.
-/
namespace Go.Proofs.YtifconapjfdkcaaGreatDoor
set_option linter.unusedSimpArgs false
set_option linter.unusedVariables false
open Go.RowKit Go

section
variable {P : Program} {call : CallE} {N base : Nat} {ops : Array Oper}
theorem cnt_find {s : Nat} : ∀ {n : Nat}, s < cnt ops n → ∃ i u, i < n ∧ ops[i]? = some u ∧ isChg u = true ∧ cnt ops i = s
  | 0, h => by rw [cnt_zero] at h; omega
  | n + 1, h => by
    by_cases hs : s < cnt ops n
    · obtain ⟨i, u, h1, h2⟩ := cnt_find hs
      exact ⟨i, u, by omega, h2⟩
    · cases ho : ops[n]? with
      | none =>
        have hsz : ops.toList.length ≤ n := by
          rw [Array.length_toList]
          exact Array.getElem?_eq_none_iff.1 ho
        have : cnt ops (n + 1) = cnt ops n := by
          unfold cnt
          rw [List.take_of_length_le hsz, List.take_of_length_le (Nat.le_succ_of_le hsz)]
        omega
      | some o =>
        have := cnt_succ ho
        cases hc : isChg o with
        | false => rw [hc] at this; simp at this; omega
        | true =>
          rw [hc] at this
          simp at this
          exact ⟨n, o, by omega, ho, hc, by omega⟩
theorem pre_back (hd : DrawFacts ops) {j i : Nat} (h : Pre ops j i) : i < j := by
  induction h with
  | one ho he hb => exact hd.back _ _ ho _ he hb
  | more ho he hb _ ih => exact Nat.lt_trans ih (hd.back _ _ ho _ he hb)
theorem getE {α β : Type} {l : List (α × β)} {i : Nat} {a : α} {b : β} (h : l[i]? = some (a, b)) : (l.map (·.1))[i]? = some a := by
  rw [List.getElem?_map, h]; rfl
/-- The run in the text's order. -/
structure DRun (P : Program) (call : CallE) (N : Nat) (ops : Array Oper) (lds : List Ld) (mems : List Mem) (F0 : Fr) (fr : Nat → Fr) (vs : Nat → Value) (mm : Nat → Mem) (ef : Nat → Eff) : Prop where
  start : fr 0 = F0
  ok : lds.all (ldOk P ops (masks ops.toList []) mems) = true
  mem : ∀ k, k ≤ ops.size → mems[cnt ops k]? = some (mm k)
  last : (loose ops (masks ops.toList []) = false ∧ mems.length = cnt ops ops.size + 1) ∨
    (loose ops (masks ops.toList []) = true ∧ mems.length = cnt ops ops.size + 2 ∧ ∃ b1 B1 b2 B2, b1 ≠ b2 ∧ ef (pq ops).1 = .wr b1 B1 ∧ ef (pq ops).2 = .wr b2 B2 ∧ mems[cnt ops ops.size + 1]? = some ((Eff.wr b2 B2).apply (mm (pq ops).1)))
  at' : ∀ (k : Nat) (o : Oper), ops[k]? = some o → StepAt P call N ops lds fr vs mm ef k o
structure Loose (ops : Array Oper) : Prop where
  stp : ∃ o, ops[(pq ops).1]? = some o ∧ isSt o = true
  stq : ∃ o, ops[(pq ops).2]? = some o ∧ isSt o = true
  lt : (pq ops).1 < (pq ops).2
  cp : cnt ops (pq ops).1 + 2 = cnt ops ops.size
  cq : cnt ops (pq ops).2 + 1 = cnt ops ops.size
theorem loose_of (h : loose ops (masks ops.toList []) = true) : Loose ops := by
  unfold loose at h
  simp only [Bool.and_eq_true] at h
  obtain ⟨⟨⟨⟨⟨h1, h2⟩, _⟩, h4⟩, h5⟩, h6⟩ := h
  have st : ∀ {i}, stAt ops i = true → ∃ o, ops[i]? = some o ∧ isSt o = true := fun {i} h => by
    unfold stAt at h
    cases ho : ops[i]? with
    | none => rw [ho] at h; cases h
    | some o => rw [ho] at h; exact ⟨o, rfl, h⟩
  exact ⟨st h1, st h2, Nat.le_of_ble_eq_true h4, Nat.eq_of_beq_eq_true h5, Nat.eq_of_beq_eq_true h6⟩
theorem st_chg {o : Oper} (h : isSt o = true) : isChg o = true := by
  unfold isSt at h
  unfold isChg
  split at h
  · rename_i h1; rw [h1]
  · cases h
theorem drun_all (hN : N ≤ 512) {F F1 : Fr} {M M1 : Mem} (h : evalDraw P call N ops F M = some (F1, M1)) : DrawFacts ops ∧ ∃ lds mems fr vs mm ef, DRun P call N ops lds mems F fr vs mm ef ∧ mm 0 = M ∧ fr ops.size = F1 ∧ mm ops.size = M1 := by
  unfold evalDraw at h
  obtain ⟨hok, h⟩ := cond_run h
  refine ⟨drawFacts hok, ?_⟩
  obtain ⟨lds1, ext, fr, vs, mm, ef, sts, e1, e2, e3, e4, _, e6, e6', e7, e8, e9', e9⟩ := drun hN ops.toList 0 (fun k _ => by simp) h (by simp [cnt_zero]) ⟨_, _, rfl⟩
  generalize hme : ext ++ [(M, Eff.no)] = me at *
  simp only [Nat.zero_add, Array.length_toList, Array.getElem?_toList] at e3 e4 e7 e8 e9 e9'
  have hmem : ∀ k, k ≤ ops.size → (me.reverse.map (·.1))[cnt ops k]? = some (mm k) := fun k hk => by
    obtain ⟨m, hm⟩ := e7 k hk
    exact getE hm
  have hlen : (me.reverse.map (·.1)).length = cnt ops ops.size + 1 := by simpa using e8
  unfold statesD at e6
  cases hl : loose ops (masks ops.toList []) with
  | false =>
    rw [hl] at e6
    obtain rfl := some_eq e6
    exact ⟨lds1, _, fr, vs, mm, ef, ⟨e1, e6', hmem, .inl ⟨hl, hlen⟩, e9⟩, e2, e3, e4⟩
  | true =>
    rw [hl] at e6
    have hL := loose_of hl
    obtain ⟨op, hop, hsp⟩ := hL.stp
    obtain ⟨oq, hoq, hsq⟩ := hL.stq
    have efp := e9' _ _ hop (st_chg hsp)
    have efq := e9' _ _ hoq (st_chg hsq)
    simp only [cond_true] at e6
    split at e6
    case h_2 => cases e6
    rename_i Mq b2 B2 Mp b1 B1 M0 m0 rest
    cases hb : Nat.beq b1 b2 with
    | true => rw [hb] at e6; cases e6
    | false =>
      rw [hb] at e6
      simp only [cond_false] at e6
      obtain rfl := some_eq e6
      have hne : b1 ≠ b2 := fun e => by subst e; rw [Nat.beq_refl] at hb; cases hb
      have hrl : rest.length + 2 = cnt ops ops.size := by simp at e8; omega
      have r3 : ((Mq, Eff.wr b2 B2) :: (Mp, Eff.wr b1 B1) :: (M0, m0) :: rest).reverse = rest.reverse ++ [(M0, m0), (Mp, Eff.wr b1 B1), (Mq, Eff.wr b2 B2)] := by simp
      rw [r3] at efp efq
      have i1 : cnt ops (pq ops).1 + 1 = rest.reverse.length + 1 := by have := hL.cp; simp; omega
      have i2 : cnt ops (pq ops).2 + 1 = rest.reverse.length + 2 := by have := hL.cq; simp; omega
      have i0 : cnt ops (pq ops).1 = rest.reverse.length + 0 := by have := hL.cp; simp; omega
      rw [i1, List.getElem?_append_right (by omega)] at efp
      rw [i2, List.getElem?_append_right (by omega)] at efq
      have hm0 : M0 = mm (pq ops).1 := by
        obtain ⟨m, hm⟩ := e7 (pq ops).1 (by have := (Array.getElem?_eq_some_iff.1 hop).1; omega)
        rw [r3, i0, List.getElem?_append_right (by omega)] at hm
        simp at hm
        exact hm.1
      simp at efp efq
      subst hm0
      refine ⟨lds1, _, fr, vs, mm, ef, ⟨e1, e6', fun k hk => ?_, .inr ⟨hl, ?_, b1, B1, b2, B2, hne, efp.2.symm, efq.2.symm, ?_⟩, e9⟩, e2, e3, e4⟩
      · have hk2 := hmem k hk
        rw [List.getElem?_append_left (List.getElem?_eq_some_iff.1 hk2).1]
        exact hk2
      · rw [List.length_append, hlen]
        rfl
      · rw [List.getElem?_append_right (by rw [hlen]; exact Nat.le_refl _), hlen]
        simp only [Nat.sub_self, List.getElem?_cons_zero, Eff.applyK_eq, id]
/-- The memory counts, not its form. -/
theorem MR.same {e : Env} {M M' : Mem} {w : World} (h : MR base e M w) (hn : M'.nx = M.nx) (hg : ∀ b, M'.t.get b = M.t.get b) : MR base e M' w :=
  ⟨h.bs, by rw [hn]; exact h.len, h.low, fun b B hB => h.blk b B (by rw [← hg]; exact hB), fun b c b' c' d f B C hB hC => h.inj b c b' c' d f B C (by rw [← hg]; exact hB) (by rw [← hg]; exact hC)⟩
theorem wr_other {M : Mem} {b1 c : Nat} {B1 : Blk} (h : c ≠ b1) : ((Eff.wr b1 B1).apply M).t.get c = M.t.get c := Tr.set_other _ _ (fun e => h e.symm)
theorem wr_self {M : Mem} {b1 : Nat} {B1 : Blk} : ((Eff.wr b1 B1).apply M).t.get b1 = some B1 := Tr.set_self _ _ _
/-- A store looks at its own block alone. -/
theorem store_local {o : Oper} {F : Fr} {M M' : Mem} {v : Value} {b : Nat} {B : Blk} (hs : isSt o = true) (h : evalOp P o F M = some (.v v (.wr b B))) (hg : M'.t.get b = M.t.get b) : evalOp P o F M' = some (.v v (.wr b B)) := by
  obtain ⟨d, op, ty, pos, af, g⟩ := o
  cases op <;> first | (simp [isSt] at hs; done) | skip
  rename_i T x y
  change evStore P T x y F M = _ at h
  change evStore P T x y F M' = _
  unfold evStore at h ⊢
  split at h
  case h_2 => cases h
  rename_i b0 off h1
  split at h
  case h_2 => cases h
  rename_i u n h2 hn
  split at h
  case h_2 => cases h
  rename_i vs hvs
  obtain ⟨hlen, h⟩ := cond_run h
  simp only [hlen, cond_true]
  split at h
  case h_2 => cases h
  rename_i m hm
  have h3 := some_eq h
  injection h3 with h4 h5
  subst h4 h5
  have hb : b0 = b := by
    unfold wr at hm
    split at hm
    · obtain ⟨_, hm⟩ := cond_run hm
      rw [fVs_eq] at hm
      have := some_eq hm
      injection this with h6 _
      exact h6.symm
    · cases hm
  subst hb
  have : wr M' b0 off vs = some (.wr b0 B) := by
    unfold wr at hm ⊢
    rw [hg]
    exact hm
  rw [this]
section
variable {lds : List Ld} {mems : List Mem} {F0 : Fr} {fr : Nat → Fr} {vs : Nat → Value} {mm : Nat → Mem} {ef : Nat → Eff}
/-- A slot on the way. -/
theorem DRun.slot (h : DRun P call N ops lds mems F0 fr vs mm ef) (hd : DrawFacts ops) (t : Nat) : ∀ j, j ≤ ops.size → (∃ i u, i < j ∧ ops[i]? = some u ∧ u.dst = some t ∧ frGet (fr j) t = some (vs i)) ∨ ((∀ i u, i < j → ops[i]? = some u → u.dst ≠ some t) ∧ frGet (fr j) t = frGet F0 t)
  | 0, _ => .inr ⟨fun i u hi => by omega, by rw [h.start]⟩
  | j + 1, hj => by
    have hlt : j < ops.size := by omega
    have ho : ops[j]? = some ops[j] := Array.getElem?_eq_getElem hlt
    have hp := (h.at' j _ ho).put
    by_cases hdst : ops[j].dst = some t
    · left
      refine ⟨j, _, by omega, ho, hdst, ?_⟩
      rcases hp with ⟨h1, _⟩ | ⟨t', h1, _, h2, _⟩
      · rw [hdst] at h1; cases h1
      · rw [hdst] at h1
        injection h1 with h1
        subst h1
        exact h2
    · have hsame : frGet (fr (j + 1)) t = frGet (fr j) t := by
        rcases hp with ⟨_, h1⟩ | ⟨t', h1, _, _, h2⟩
        · rw [h1]
        · exact h2 t fun e => hdst (by rw [h1, e])
      rcases h.slot hd t j (by omega) with ⟨i, u, h1, h2, h3, h4⟩ | ⟨h1, h2⟩
      · exact .inl ⟨i, u, by omega, h2, h3, by rw [hsame]; exact h4⟩
      · refine .inr ⟨fun i u hi hu => ?_, by rw [hsame]; exact h2⟩
        by_cases hij : i = j
        · subst hij
          rw [ho] at hu
          injection hu with hu
          subst hu
          exact hdst
        · exact h1 i u (by omega) hu
/-- What holds on the way in any order. -/
structure DI (base N : Nat) (ops : Array Oper) (mems : List Mem) (F0 : Fr) (vs : Nat → Value) (e0 : Env) (w0 : World) (listed : Array Bool) (a : Act) (w : World) (s : Nat) (e : Env) (M : Mem) : Prop where
  lsize : listed.size = ops.size
  down : ∀ j i, listed.getD j false = true → Pre ops j i → listed.getD i false = true
  row : ∀ (i : Nat) (u : Oper), ops[i]? = some u → isChg u = true → (listed.getD i false = true ↔ doneAt ops s i = true)
  mem : mems[s]? = some M
  mr : MR base e M w
  ext : Ext e0 e
  inn : ∀ (i : Nat) (u : Oper) (d : Nat), ops[i]? = some u → listed.getD i false = true → u.dst = some d → V3 e (vs i) (a.tmps.getD d undef)
  out : ∀ (t : Nat), (∀ (i : Nat) (u : Oper), ops[i]? = some u → listed.getD i false = true → u.dst ≠ some t) → ∀ v, frGet F0 t = some v → V3 e v (a.tmps.getD t undef)
  size : a.tmps.size = N
  defers : a.defers = []
  below : Below base w0 w
variable {e0 : Env} {w0 : World} {listed : Array Bool} {a : Act} {w : World} {s : Nat} {e : Env} {M : Mem}
theorem getD_mark {listed : Array Bool} {i k : Nat} (hi : i < listed.size) : (listed.setIfInBounds i true).getD k false = (decide (k = i) || listed.getD k false) := by
  by_cases hk : k = i
  · subst hk
    simp [hi]
  · rw [getD_set_ne false (fun e => hk e.symm)]
    simp [hk]
/-- The operands of an operation that is ready. -/
theorem DI.slots (h : DI base N ops mems F0 vs e0 w0 listed a w s e M) (hr : DRun P call N ops lds mems F0 fr vs mm ef) (hd : DrawFacts ops) {j : Nat} {o : Oper} (ho : ops[j]? = some o) (hun : listed.getD j false = false) (hpre : ∀ i, Pre ops j i → listed.getD i false = true) {t : Nat} (ht : t ∈ tmpsOf ops o) {v : Value} (hv : frGet (fr j) t = some v) : V3 e v (a.tmps.getD t undef) := by
  have hj : j < ops.size := (Array.getElem?_eq_some_iff.1 ho).1
  rcases hr.slot hd t j (by omega) with ⟨i, u, h1, h2, h3, h4⟩ | ⟨h1, h2⟩
  · rw [h4] at hv
    obtain rfl := some_eq hv
    rcases hd.read i j u o t h2 ho h3 ht with hp | hp
    · exact h.inn i u t h2 (hpre i hp) h3
    · have := pre_back hd hp
      omega
  · rw [h2] at hv
    refine h.out t (fun i u hu hli hut => ?_) v hv
    rcases hd.read i j u o t hu ho hut ht with hp | hp
    · exact h1 i u (pre_back hd hp) hu hut
    · have := h.down i j hli hp
      rw [hun] at this
      cases this
theorem DI.good (h : DI base N ops mems F0 vs e0 w0 listed a w s e M) (hr : DRun P call N ops lds mems F0 fr vs mm ef) (hd : DrawFacts ops) {j : Nat} {o : Oper} (ho : ops[j]? = some o) (hun : listed.getD j false = false) (hpre : ∀ i, Pre ops j i → listed.getD i false = true) : Good o (fr j) e a := fun x hx v hv => by
  cases x with
  | tmp t =>
    refine h.slots hr hd ho hun hpre ?_ hv
    unfold tmpsOf
    exact List.mem_append_left _ (List.mem_filterMap.2 ⟨.tmp t, hx, rfl⟩)
  | const u =>
    change (bif plain u then some u else none) = some v at hv
    obtain ⟨hp, rfl⟩ := some_bif hv
    exact .two (plain_self e hp)
  | global g => cases hv
  | func f => cases hv
theorem DI.wanted (h : DI base N ops mems F0 vs e0 w0 listed a w s e M) (hr : DRun P call N ops lds mems F0 fr vs mm ef) (hd : DrawFacts ops) {j : Nat} {o : Oper} (ho : ops[j]? = some o) (hun : listed.getD j false = false) (hpre : ∀ i, Pre ops j i → listed.getD i false = true) {r : Bool} (hw : wantedE ops o (fr j) = some r) : Region.wanted o (yielded ops a.tmps) = r :=
  wanted_of (fun g b t hg ht v hv => h.slots hr hd ho hun hpre (by
    unfold tmpsOf
    refine List.mem_append_right _ ?_
    rw [hg]
    simp [ht]) hv) hw
/-- A step. -/
theorem DI.step (h : DI base N ops mems F0 vs e0 w0 listed a w s e M) (hd : DrawFacts ops) {j : Nat} {o : Oper} (ho : ops[j]? = some o) (hun : listed.getD j false = false) (hpre : ∀ i, Pre ops j i → listed.getD i false = true)
    {F' : Fr} (hput : PutRel (fr j) o.dst (vs j) F' N) {v' : Value} {e' : Env} {w' : World} {M' : Mem} {s' : Nat} (hx : Ext e e') (hv : V3 e' (vs j) v') (hmr : MR base e' M' w') (hb : Below base w w') (hm : mems[s']? = some M')
    (hs : (isChg o = false ∧ s' = s) ∨ (isChg o = true ∧ ∀ (i : Nat) (u : Oper), ops[i]? = some u → isChg u = true → (doneAt ops s' i = true ↔ i = j ∨ doneAt ops s i = true))) : DI base N ops mems F0 vs e0 w0 (listed.setIfInBounds j true) (a.put o.dst v') w' s' e' M' := by
  have hj : j < listed.size := by rw [h.lsize]; exact (Array.getElem?_eq_some_iff.1 ho).1
  have hsz : (a.put o.dst v').tmps.size = N := by
    unfold Act.put
    split
    · simp [h.size]
    · exact h.size
  have hput' : ∀ t, (o.dst ≠ some t → (a.put o.dst v').tmps.getD t undef = a.tmps.getD t undef) ∧ (o.dst = some t → (a.put o.dst v').tmps.getD t undef = v') := fun t => by
    rcases hput with ⟨hn, _⟩ | ⟨d, hn, hlt, _, _⟩
    · rw [hn]
      exact ⟨fun _ => rfl, fun h => by cases h⟩
    · rw [hn]
      refine ⟨fun hne => ?_, fun he => ?_⟩
      · have : d ≠ t := fun e2 => hne (by rw [e2])
        simp [Act.put, Array.getElem?_setIfInBounds_ne this]
      · injection he with he
        subst he
        have : d < a.tmps.size := by rw [h.size]; exact hlt
        simp [Act.put, this]
  refine ⟨by simp [h.lsize], fun i k hi hp => ?_, fun i u hu hc => ?_, hm, hmr, h.ext.trans hx, fun i u d hu hi hdst => ?_, fun t ht v hv0 => ?_, hsz, ?_, h.below.trans hb⟩
  · rw [getD_mark hj] at hi ⊢
    simp only [Bool.or_eq_true, decide_eq_true_eq] at hi ⊢
    rcases hi with rfl | hi
    · exact .inr (hpre k hp)
    · exact .inr (h.down i k hi hp)
  · rw [getD_mark hj]
    simp only [Bool.or_eq_true, decide_eq_true_eq]
    have hrow := h.row i u hu hc
    rcases hs with ⟨hcj, rfl⟩ | ⟨hcj, hsj⟩
    · have : i ≠ j := fun e2 => by
        subst e2
        rw [ho] at hu
        injection hu with hu
        subst hu
        rw [hc] at hcj
        cases hcj
      simp only [this, false_or]
      exact hrow
    · rw [hsj i u hu hc, hrow]
  · rw [getD_mark hj] at hi
    simp only [Bool.or_eq_true, decide_eq_true_eq] at hi
    by_cases hij : i = j
    · subst hij
      rw [ho] at hu
      injection hu with hu
      subst hu
      rw [(hput' d).2 hdst]
      exact hv
    · have hl := hi.resolve_left hij
      rw [(hput' d).1 fun e2 => hij (hd.one i j u o d hu ho hdst e2)]
      exact (h.inn i u d hu hl hdst).ext hx
  · rw [(hput' t).1 (ht j o ho (by rw [getD_mark hj]; simp))]
    exact (h.out t (fun i u hu hl => ht i u hu (by rw [getD_mark hj, hl]; simp)) v hv0).ext hx
  · have : (a.put o.dst v').defers = a.defers := by
      unfold Act.put
      split <;> rfl
    rw [this]
    exact h.defers
theorem cnt_inj {i j : Nat} {u o : Oper} (hu : ops[i]? = some u) (ho : ops[j]? = some o) (hcu : isChg u = true) (hco : isChg o = true) (h : cnt ops i = cnt ops j) : i = j := by
  rcases Nat.lt_trichotomy i j with hlt | he | hlt
  · have h1 := cnt_succ hu
    rw [hcu] at h1
    simp at h1
    have h2 := cnt_mono (ops := ops) (i := i + 1) (j := j) (by omega)
    omega
  · exact he
  · have h1 := cnt_succ ho
    rw [hco] at h1
    simp at h1
    have h2 := cnt_mono (ops := ops) (i := j + 1) (j := i) (by omega)
    omega
theorem done_low {i : Nat} (hs : s ≤ cnt ops ops.size) : doneAt ops s i = true ↔ cnt ops i < s := by
  unfold doneAt
  rw [Nat.ble_eq_true_of_le hs, cond_true, blt_eq, decide_eq_true_iff]
theorem done_high {i : Nat} (hs : s = cnt ops ops.size + 1) : doneAt ops s i = true ↔ cnt ops i + 2 < cnt ops ops.size ∨ i = (pq ops).2 := by
  have : Nat.ble s (cnt ops ops.size) = false := by
    cases h : Nat.ble s (cnt ops ops.size) with
    | false => rfl
    | true => have := Nat.le_of_ble_eq_true h; omega
  unfold doneAt
  rw [this, cond_false, Bool.or_eq_true, blt_eq, decide_eq_true_iff, beqN_eq, decide_eq_true_iff]
theorem chg_lt {i : Nat} {u : Oper} (hu : ops[i]? = some u) (hc : isChg u = true) : cnt ops i < cnt ops ops.size := by
  have h1 := cnt_succ hu
  rw [hc] at h1
  simp at h1
  have h2 := cnt_mono (ops := ops) (i := i + 1) (j := ops.size) (by have := (Array.getElem?_eq_some_iff.1 hu).1; omega)
  omega
theorem DRun.states (hr : DRun P call N ops lds mems F0 fr vs mm ef) (hm : mems[s]? = some M) : s ≤ cnt ops ops.size ∨ (s = cnt ops ops.size + 1 ∧ loose ops (masks ops.toList []) = true ∧ ∃ b1 B1 b2 B2, b1 ≠ b2 ∧ ef (pq ops).1 = .wr b1 B1 ∧ ef (pq ops).2 = .wr b2 B2 ∧ M = (Eff.wr b2 B2).apply (mm (pq ops).1)) := by
  have hlt := (List.getElem?_eq_some_iff.1 hm).1
  rcases hr.last with ⟨_, hl⟩ | ⟨hlo, hl, b1, B1, b2, B2, h1, h2, h3, h4⟩
  · left; omega
  · rcases Nat.lt_or_ge (cnt ops ops.size) s with hgt | hle
    · right
      have hs : s = cnt ops ops.size + 1 := by omega
      refine ⟨hs, hlo, b1, B1, b2, B2, h1, h2, h3, ?_⟩
      rw [hs, h4] at hm
      exact some_eq hm
    · exact .inl hle
/-- All are done. -/
theorem DI.final (h : DI base N ops mems F0 vs e0 w0 listed a w s e M) (hr : DRun P call N ops lds mems F0 fr vs mm ef) (hd : DrawFacts ops) (hN : N ≤ 512) (hall : ∀ i, i < ops.size → listed.getD i false = true) : ST base N e0 w0 (fr ops.size) (mm ops.size) a w := by
  have hs : s = cnt ops ops.size := by
    rcases hr.states h.mem with hle | ⟨hs, hlo, _⟩
    · rcases Nat.lt_or_ge s (cnt ops ops.size) with hlt | hge
      · obtain ⟨i, u, hi, hu, hc, he⟩ := cnt_find hlt
        have := (done_low hle).1 ((h.row i u hu hc).1 (hall i hi))
        omega
      · omega
    · exfalso
      have hL := loose_of hlo
      obtain ⟨op, hop, hsp⟩ := hL.stp
      have h1 := (done_high hs).1 ((h.row _ op hop (st_chg hsp)).1 (hall _ (Array.getElem?_eq_some_iff.1 hop).1))
      have h2 := hL.cp
      have h3 := hL.lt
      omega
  have hM : M = mm ops.size := by
    have := h.mem
    rw [hs, hr.mem _ (Nat.le_refl _)] at this
    exact some_eq this
  subst hM
  refine ⟨⟨e, ⟨h.size, hN, fun t v hv => ?_, h.defers⟩, h.mr, h.ext⟩, h.below⟩
  rcases hr.slot hd t ops.size (Nat.le_refl _) with ⟨i, u, h1, h2, h3, h4⟩ | ⟨h1, h2⟩
  · rw [h4] at hv
    obtain rfl := some_eq hv
    exact h.inn i u t h2 (hall i h1) h3
  · rw [h2] at hv
    exact h.out t (fun i u hu _ => h1 i u (Array.getElem?_eq_some_iff.1 hu).1 hu) v hv
/-- How a change goes on: the usual way, or one of two loose stores in the other order. -/
theorem DI.turn (h : DI base N ops mems F0 vs e0 w0 listed a w s e M) (hr : DRun P call N ops lds mems F0 fr vs mm ef) (hd : DrawFacts ops) {j : Nat} {o : Oper} (ho : ops[j]? = some o) (hc : isChg o = true) (hun : listed.getD j false = false) (hpre : ∀ i, Pre ops j i → listed.getD i false = true) :
    ∃ s', (∀ (i : Nat) (u : Oper), ops[i]? = some u → isChg u = true → (doneAt ops s' i = true ↔ i = j ∨ doneAt ops s i = true)) ∧
      ((M = mm j ∧ mems[s']? = some (mm (j + 1))) ∨ ∃ b B Ma Mb, ef j = .wr b B ∧ evalOp P o (fr j) (mm j) = some (.v (vs j) (.wr b B)) ∧ isSt o = true ∧ wantedE ops o (fr j) = some true ∧ Ma = mm j ∧ Ma.t.get b = M.t.get b ∧
        mems[s']? = some Mb ∧ Mb.nx = ((Eff.wr b B).apply M).nx ∧ ∀ c, Mb.t.get c = ((Eff.wr b B).apply M).t.get c) := by
  have hjs : j < ops.size := (Array.getElem?_eq_some_iff.1 ho).1
  have hnd : ¬ doneAt ops s j = true := fun hdn => by
    have := (h.row j o ho hc).2 hdn
    rw [hun] at this
    cases this
  have hcj := chg_lt ho hc
  have hcj1 : cnt ops (j + 1) = cnt ops j + 1 := by
    have := cnt_succ ho
    rw [hc] at this
    simpa using this
  have stp : ∀ {i b B} {u : Oper}, ops[i]? = some u → ef i = .wr b B → evalOp P u (fr i) (mm i) = some (.v (vs i) (.wr b B)) ∧ wantedE ops u (fr i) = some true ∧ mm (i + 1) = (Eff.wr b B).apply (mm i) := fun {i b B u} hu he => by
    rcases (hr.at' i u hu).run with ⟨_, _, _, h4⟩ | ⟨hw, ⟨out, h1, h2, h3, _⟩ | ⟨_, _, _, _, h4, _⟩⟩
    · rw [he] at h4; cases h4
    · rw [he] at h2 h3
      rcases h2 with ⟨_, h2⟩ | h2
      · cases h2
      · rw [h2] at h1
        exact ⟨h1, hw, h3⟩
    · rw [he] at h4; cases h4
  rcases hr.states h.mem with hle | ⟨hs, hlo, b1, B1, b2, B2, hne, he1, he2, hM⟩
  · rw [done_low hle] at hnd
    rcases Nat.lt_or_ge s (cnt ops j) with hlt | hge
    · -- the last store ahead of the one before
      obtain ⟨i, u, hi, hu, hcu, hci⟩ := cnt_find hlt
      have hnl : listed.getD i false = false := by
        cases hl : listed.getD i false with
        | false => rfl
        | true =>
          have := (done_low hle).1 ((h.row i u hu hcu).1 hl)
          omega
      rcases hd.row i j u o hu ho hcu hc hi with hp | ⟨hlo, rfl, rfl⟩
      · have := hpre i hp
        rw [hnl] at this
        cases this
      · have hL := loose_of hlo
        have hcp := hL.cp
        have hcq := hL.cq
        rcases hr.last with ⟨h0, _⟩ | ⟨_, _, b1, B1, b2, B2, hne, he1, he2, hx⟩
        · rw [hlo] at h0; cases h0
        · obtain ⟨g1, _, g3⟩ := stp hu he1
          obtain ⟨k1, k2, k3⟩ := stp ho he2
          obtain ⟨oq, hoq, hsq⟩ := hL.stq
          rw [ho] at hoq
          obtain rfl := some_eq hoq
          have hMp : M = mm (pq ops).1 := by
            have := h.mem
            rw [← hci, hr.mem _ (by omega)] at this
            exact some_eq this
          have hmq : mm (pq ops).2 = mm ((pq ops).1 + 1) := by
            have h1 := hr.mem (pq ops).2 (by omega)
            have h2 := hr.mem ((pq ops).1 + 1) (by omega)
            have h3 : cnt ops ((pq ops).1 + 1) = cnt ops (pq ops).1 + 1 := by
              have := cnt_succ hu
              rw [hcu] at this
              simpa using this
            rw [h3, show cnt ops (pq ops).1 + 1 = cnt ops (pq ops).2 by omega, h1] at h2
            exact (some_eq h2).symm
          refine ⟨cnt ops ops.size + 1, fun i' u' hu' hcu' => ?_, .inr ⟨b2, B2, _, _, he2, k1, hsq, k2, rfl, ?_, hx, by rw [hMp], fun c => by rw [hMp]⟩⟩
          · rw [done_high rfl, done_low hle]
            constructor
            · rintro (h1 | h1)
              · right; omega
              · exact .inl h1
            · rintro (h1 | h1)
              · exact .inr h1
              · left; omega
          · rw [hmq, g3, hMp]
            exact wr_other fun e2 => hne e2.symm
    · have hsj : s = cnt ops j := by omega
      refine ⟨cnt ops j + 1, fun i u hu hcu => ?_, .inl ⟨?_, ?_⟩⟩
      · rw [done_low (by omega), done_low hle]
        constructor
        · intro h1
          by_cases he : cnt ops i = cnt ops j
          · exact .inl (cnt_inj hu ho hcu hc he)
          · right; omega
        · rintro (rfl | h1)
          · omega
          · omega
      · have := h.mem
        rw [hsj, hr.mem j (by omega)] at this
        exact some_eq this
      · rw [← hcj1]
        exact hr.mem (j + 1) (by omega)
  · -- the one before the last store, behind it
    have hL := loose_of hlo
    have hcp := hL.cp
    have hcq := hL.cq
    obtain ⟨op, hop, hsp⟩ := hL.stp
    obtain ⟨oq, hoq, hsq⟩ := hL.stq
    rw [done_high hs, not_or] at hnd
    have hjp : j = (pq ops).1 := by
      have h1 : cnt ops j ≠ cnt ops (pq ops).2 := fun e2 => hnd.2 (cnt_inj ho hoq hc (st_chg hsq) e2)
      exact cnt_inj ho hop hc (st_chg hsp) (by omega)
    subst hjp
    rw [ho] at hop
    obtain rfl := some_eq hop
    obtain ⟨g1, g2, g3⟩ := stp ho he1
    obtain ⟨k1, k2, k3⟩ := stp hoq he2
    have hmq : mm (pq ops).2 = mm ((pq ops).1 + 1) := by
      have h1 := hr.mem (pq ops).2 (by have := (Array.getElem?_eq_some_iff.1 hoq).1; omega)
      have h2 := hr.mem ((pq ops).1 + 1) (by omega)
      rw [hcj1, show cnt ops (pq ops).1 + 1 = cnt ops (pq ops).2 by omega, h1] at h2
      exact (some_eq h2).symm
    have hend : mm ops.size = mm ((pq ops).2 + 1) := by
      have h1 := hr.mem ops.size (Nat.le_refl _)
      have h2 := hr.mem ((pq ops).2 + 1) (by have := (Array.getElem?_eq_some_iff.1 hoq).1; omega)
      have h3 : cnt ops ((pq ops).2 + 1) = cnt ops (pq ops).2 + 1 := by
        have := cnt_succ hoq
        rw [st_chg hsq] at this
        simpa using this
      rw [h3, hcq, h1] at h2
      exact (some_eq h2).symm
    refine ⟨cnt ops ops.size, fun i u hu hcu => ?_, .inr ⟨b1, B1, _, _, he1, g1, hsp, g2, rfl, ?_, hr.mem ops.size (Nat.le_refl _), ?_, fun c => ?_⟩⟩
    · rw [done_low (Nat.le_refl _), done_high hs]
      have hci := chg_lt hu hcu
      constructor
      · intro _
        by_cases h1 : cnt ops i = cnt ops (pq ops).1
        · exact .inl (cnt_inj hu ho hcu hc h1)
        · by_cases h2 : cnt ops i = cnt ops (pq ops).2
          · exact .inr (.inr (cnt_inj hu hoq hcu (st_chg hsq) h2))
          · right; left; omega
      · intro _; exact hci
    · rw [hM]
      exact (wr_other hne).symm
    · rw [hend, k3, hmq, g3, hM]
      rfl
    · rw [hend, k3, hmq, g3, hM]
      by_cases hc2 : c = b2
      · subst hc2
        rw [wr_self, wr_other (fun e2 => hne e2.symm), wr_self]
      · rw [wr_other hc2]
        by_cases hc1 : c = b1
        · subst hc1
          rw [wr_self, wr_self]
        · rw [wr_other hc1, wr_other hc1, wr_other hc2]
theorem all_listed (hd : DrawFacts ops) (hls : listed.size = ops.size) (hrd : Region.ready .any ops listed = []) : ∀ i, i < ops.size → listed.getD i false = true := by
  intro i
  induction i using Nat.strongRecOn with
  | _ i ih =>
    intro hi
    have ho : ops[i]? = some ops[i] := Array.getElem?_eq_getElem hi
    cases hl : listed.getD i false with
    | true => rfl
    | false =>
      exfalso
      have : i ∈ Region.ready .any ops listed := mem_ready.2 ⟨by
        have : i < listed.size := by omega
        simpa [this] using hl, _, ho, fun e he hb => by
        have hlt := hd.back i _ ho e he hb
        exact ih e.on hlt (by omega)⟩
      rw [hrd] at this
      cases this
theorem draw_any {Q : Exit → Act → World → Prop} (hcall : CallOk P base call) (hr : DRun P call N ops lds mems F0 fr vs mm ef) (hd : DrawFacts ops) (hN : N ≤ 512) (hQ : ∀ a w, ST base N e0 w0 (fr ops.size) (mm ops.size) a w → Q .normal a w) :
    ∀ (fuel : Nat) (listed : Array Bool) (a : Act) (w : World) (s : Nat) (e : Env) (M : Mem), left ops.size listed = fuel → DI base N ops mems F0 vs e0 w0 listed a w s e M → wpAny P .any ops Q fuel listed a w
  | 0, listed, a, w, s, e, M, hf, h => by
    have hall := left_zero hf
    refine ⟨?_, hQ _ _ (h.final hr hd hN hall)⟩
    rw [List.eq_nil_iff_forall_not_mem]
    intro i hi
    obtain ⟨h1, o, ho, _⟩ := mem_ready.1 hi
    have hlt : i < ops.size := (Array.getElem?_eq_some_iff.1 ho).1
    have h2 := hall i hlt
    have : i < listed.size := by rw [h.lsize]; exact hlt
    simp [this] at h1 h2
    rw [h1] at h2
    cases h2
  | fuel + 1, listed, a, w, s, e, M, hf, h => by
    refine ⟨fun hrd => hQ _ _ (h.final hr hd hN (all_listed hd h.lsize hrd)), fun j hj => ?_⟩
    obtain ⟨h1, o, ho, hafter⟩ := mem_ready.1 hj
    have hlt : j < ops.size := (Array.getElem?_eq_some_iff.1 ho).1
    have hjl : j < listed.size := by rw [h.lsize]; exact hlt
    have hun : listed.getD j false = false := by simpa [hjl] using h1
    have hpre : ∀ i, Pre ops j i → listed.getD i false = true := fun i hp => by
      cases hp with
      | one ho' he hb =>
        rw [ho] at ho'
        injection ho' with ho'
        subst ho'
        exact hafter _ he hb
      | more ho' he hb hp2 =>
        rw [ho] at ho'
        injection ho' with ho'
        subst ho'
        exact h.down _ i (hafter _ he hb) hp2
    have hleft : left ops.size (listed.setIfInBounds j true) = fuel := by
      have := left_set hlt hjl hun
      omega
    have hstep := hr.at' j o ho
    have hgood := h.good hr hd ho hun hpre
    unfold wpOp
    simp only [ho]
    cases hc : isChg o with
    | true =>
      obtain ⟨s', hdone, hturn⟩ := h.turn hr hd ho hc hun hpre
      rcases hturn with ⟨rfl, hnext⟩ | ⟨b, B, Ma, Mb, hef, hev, hst, hw, rfl, hg, hMb, hnx, hget⟩
      · rcases hstep.run with ⟨hw, hvu, hmj, _⟩ | ⟨hw, hrun⟩
        · rw [h.wanted hr hd ho hun hpre hw]
          simp only [Bool.false_eq_true, if_false]
          exact draw_any hcall hr hd hN hQ fuel _ _ w s' e (mm j) hleft (h.step hd ho hun hpre hstep.put (Ext.refl e) (by rw [hvu]; exact V3.undef e) h.mr (Below.refl _ _) (by rw [hnext, hmj]) (.inr ⟨hc, hdone⟩))
        · rw [h.wanted hr hd ho hun hpre hw]
          simp only [if_true]
          left
          rcases hrun with ⟨out, hev, hout, hmj, _⟩ | ⟨f, args, hev, _, _, hcl⟩
          · have key : OpPost P base o a e w (vs j) ((ef j).apply (mm j)) := by
              rcases hout with ⟨rfl, he⟩ | rfl
              · rw [he]
                exact evalOp_sound hev hgood h.mr
              · exact evalOp_sound hev hgood h.mr
            obtain ⟨v', w', e', hrn, g1, g2, g3, g4⟩ := key
            exact hrn.wp (draw_any hcall hr hd hN hQ fuel _ _ w' s' e' _ hleft (h.step hd ho hun hpre hstep.put g1 g2 g3 g4 (by rw [hnext, hmj]) (.inr ⟨hc, hdone⟩)))
          · have hcr : OutPost P base o a e w (mm j) (.call f args) := evalOp_sound hev hgood h.mr
            obtain ⟨args', hrn, g0⟩ := hcr
            exact Oper.wp_call hrn (hcall f args _ _ _ hcl e w args' g0 h.mr) fun v' e' w' g1 g2 g3 g4 =>
              draw_any hcall hr hd hN hQ fuel _ _ w' s' e' _ hleft (h.step hd ho hun hpre hstep.put g1 g2 g3 g4 hnext (.inr ⟨hc, hdone⟩))
      · rw [h.wanted hr hd ho hun hpre hw]
        simp only [if_true]
        left
        have key : OpPost P base o a e w (vs j) ((Eff.wr b B).apply M) := evalOp_sound (store_local hst hev hg.symm) hgood h.mr
        obtain ⟨v', w', e', hrn, g1, g2, g3, g4⟩ := key
        exact hrn.wp (draw_any hcall hr hd hN hQ fuel _ _ w' s' e' Mb hleft (h.step hd ho hun hpre hstep.put g1 g2 (g3.same hnx hget) g4 hMb (.inr ⟨hc, hdone⟩)))
    | false =>
      rcases hstep.run with ⟨hw, hvu, hmj, _⟩ | ⟨hw, hrun⟩
      · rw [h.wanted hr hd ho hun hpre hw]
        simp only [Bool.false_eq_true, if_false]
        exact draw_any hcall hr hd hN hQ fuel _ _ w s e M hleft (h.step hd ho hun hpre hstep.put (Ext.refl e) (by rw [hvu]; exact V3.undef e) h.mr (Below.refl _ _) h.mem (.inl ⟨hc, rfl⟩))
      · rw [h.wanted hr hd ho hun hpre hw]
        simp only [if_true]
        left
        rcases hrun with ⟨out, hev, hout, hmj, hnc⟩ | ⟨f, args, hev, hc2, _⟩
        · obtain ⟨hno, hrd⟩ := hnc hc
          have hev2 : evalOp P o (fr j) M = some (.w (vs j)) ∨ evalOp P o (fr j) M = some (.v (vs j) .no) := by
            have hbase : evalOp P o (fr j) (mm j) = some (.w (vs j)) ∨ evalOp P o (fr j) (mm j) = some (.v (vs j) .no) := by
              rcases hout with ⟨rfl, _⟩ | rfl
              · exact .inl hev
              · rw [hno] at hev
                exact .inr hev
            cases hrr : isRd o with
            | false => rw [still_mem (M' := mm j) hc hrr]; exact hbase
            | true =>
              have hmem := hrd hrr
              have hok := List.all_eq_true.1 hr.ok _ hmem
              have hsl : s < mems.length := (List.getElem?_eq_some_iff.1 h.mem).1
              have hoks := List.all_eq_true.1 hok s (List.mem_range.2 hsl)
              simp only [Bool.or_eq_true, Bool.not_eq_true'] at hoks
              rcases hoks with (h5 | h5) | h5
              · have h6 := Nat.eq_of_beq_eq_true h5
                have h7 := h.mem
                rw [h6, hr.mem j (by omega)] at h7
                rw [some_eq h7]
                exact hbase
              · exfalso
                have hallow : allowed ops (masks ops.toList []) s j = true := by
                  unfold allowed allOps
                  rw [List.all_eq_true]
                  intro i hi
                  cases hu : ops[i]? with
                  | none => rfl
                  | some u =>
                    simp only
                    cases hcu : isChg u with
                    | false => rfl
                    | true =>
                      simp only [Bool.not_true, Bool.false_or, Bool.and_eq_true, Bool.or_eq_true, Bool.not_eq_true']
                      refine ⟨?_, ?_⟩
                      · cases hb : bit ((masks ops.toList []).getD j 0) i with
                        | false => exact .inl rfl
                        | true =>
                          right
                          exact (h.row i u hu hcu).1 (hpre i (masks_all ops j i hb))
                      · cases hb : bit ((masks ops.toList []).getD i 0) j with
                        | false => exact .inl rfl
                        | true =>
                          right
                          cases hdn : doneAt ops s i with
                          | false => rfl
                          | true =>
                            have := h.down i j ((h.row i u hu hcu).2 hdn) (masks_all ops i j hb)
                            rw [hun] at this
                            cases this
                rw [hallow] at h5
                cases h5
              · rw [h.mem] at h5
                exact sameOut_eq h5
          have key : OpPost P base o a e w (vs j) M := by
            rcases hev2 with hev2 | hev2
            · exact evalOp_sound hev2 hgood h.mr
            · exact evalOp_sound hev2 hgood h.mr
          obtain ⟨v', w', e', hrn, g1, g2, g3, g4⟩ := key
          exact hrn.wp (draw_any hcall hr hd hN hQ fuel _ _ w' s e' M hleft (h.step hd ho hun hpre hstep.put g1 g2 g3 g4 h.mem (.inl ⟨hc, rfl⟩)))
        · rw [hc] at hc2
          cases hc2
end
theorem draw_sound {e0 : Env} {w0 : World} {Q : Exit → Act → World → Prop} {F F1 : Fr} {M M1 : Mem} {a : Act} {w : World} (hm : P.follows .mixedOrders = true) (hcall : CallOk P base call) (hN : N ≤ 512) {id : Nat} (h : evalDraw P call N ops F M = some (F1, M1)) (hS : ST base N e0 w0 F M a w) (hQ : ∀ a w, ST base N e0 w0 F1 M1 a w → Q .normal a w) :
    (Code.region id ops true).wp P Q a w := by
  obtain ⟨hd, lds, mems, fr, vs, mm, ef, hr, h0, h1, h2⟩ := drun_all hN h
  subst h1 h2
  obtain ⟨⟨e, hF, hM, hE⟩, hB⟩ := hS
  have hm0 := hr.mem 0 (Nat.zero_le _)
  rw [cnt_zero, h0] at hm0
  have hrep : ∀ i, (Array.replicate ops.size false).getD i false = false := fun i => by
    rw [Array.getD_eq_getD_getElem?, Array.getElem?_replicate]
    split <;> rfl
  refine wp_region_any hm (draw_any hcall hr hd hN hQ ops.size _ a _ 0 e M ?_ ⟨by simp, fun j i hj => ?_, fun i u hu hc => ?_, hm0, hM.drew, hE, fun i u d hu hl => ?_, fun t _ v hv => hF.val t v hv, hF.size, hF.defers, hB.trans ⟨rfl, rfl, rfl, Nat.le_refl _, fun _ _ => rfl⟩⟩)
  · unfold left
    rw [List.filter_eq_self.2 (fun i _ => by rw [hrep]; rfl)]
    simp
  · rw [hrep] at hj; cases hj
  · rw [hrep, done_low (Nat.zero_le _)]; simp
  · rw [hrep] at hl; cases hl
end
end Go.Proofs.YtifconapjfdkcaaGreatDoor
/-
  What the evaluator says of a call is true of the program, in every world.
  No condition.
-/
namespace Go.Proofs.YtifconapjfdkcaaGreatDoor
set_option linter.unusedSimpArgs false
set_option linter.unusedVariables false
open Go.RowKit Go

/-- The exits. -/
def Ex.to : Ex → Exit
  | .normal => .normal
  | .exit id => .exit id
  | .ret => .ret
/-- A loop, from the begin of a round. -/
def LoopWp (P : Program) (c : Code) (Q : Exit → Act → World → Prop) (a : Act) (w : World) : Prop := ∀ (b : Frame) (k : List Item) (cs : List Frame),
  ∃ e a' w', Q e a' w' ∧ Arrives P (lone (b.at a (.code c :: .inLoop c :: k)) cs w) b k cs e a' w'
section
variable {P : Program} {base N : Nat} {call : CallE} {e0 : Env} {w0 : World}
theorem LoopWp.wp {c : Code} {Q : Exit → Act → World → Prop} {a : Act} {w : World} (h : LoopWp P c Q a w) : (Code.loop c).wp P Q a w := fun b k cs =>
  let ⟨e, a', w', q, r⟩ := h b k cs; ⟨e, a', w', q, .of_steps (.one step_loop) r⟩
theorem LoopWp.round {c : Code} {Q : Exit → Act → World → Prop} {a : Act} {w : World} (h : c.wp P (Exit.then (LoopWp P c Q) Q) a w) : LoopWp P c Q a w := by
  intro b k cs
  obtain ⟨e, a₁, w₁, hq, harr⟩ := h b (.inLoop c :: k) cs
  cases e with
  | normal =>
    obtain ⟨e₂, a₂, w₂, hq₂, harr₂⟩ := hq b k cs
    exact ⟨e₂, a₂, w₂, hq₂, .of_steps (Steps.trans harr (.one step_inLoop)) harr₂⟩
  | exit id => exact ⟨_, a₁, w₁, hq, .pass (x := .inLoop c) rfl (fun _ _ => .inl (by simp)) harr⟩
  | goto l => exact ⟨_, a₁, w₁, hq, .pass (x := .inLoop c) rfl (fun _ _ => .inl (by simp)) harr⟩
  | ret => exact ⟨_, a₁, w₁, hq, .pass (x := .inLoop c) rfl (fun _ _ => .inl (by simp)) harr⟩
  | panic ch => exact ⟨_, a₁, w₁, hq, .pass (x := .inLoop c) rfl (fun _ _ => .inl (by simp)) harr⟩
  | outgrown => exact ⟨_, a₁, w₁, hq, .pass (x := .inLoop c) rfl (fun _ _ => .inl (by simp)) harr⟩
theorem code_sound (hm : P.follows .mixedOrders = true) (hcall : CallOk P base call) (hN : N ≤ 512) : ∀ (fuel : Nat) {c : Code} {F : Fr} {M : Mem} {ex : Ex} {F1 : Fr} {M1 : Mem} {a : Act} {w : World} {Q : Exit → Act → World → Prop},
    evalCode P call N fuel c F M = some (ex, F1, M1) → ST base N e0 w0 F M a w → (∀ a w, ST base N e0 w0 F1 M1 a w → Q ex.to a w) → c.wp P Q a w ∧ ∀ b, c = .loop b → LoopWp P b Q a w
  | 0, c, F, M, ex, F1, M1, a, w, Q, h, _, _ => by cases h
  | fuel + 1, c, F, M, ex, F1, M1, a, w, Q, h, hS, hQ => by
    change codeStep P call N (evalCode P call N fuel) c F M = _ at h
    have triple : ∀ {x : Ex} {y : Fr} {z : Mem}, some (x, y, z) = some (ex, F1, M1) → x = ex ∧ y = F1 ∧ z = M1 := fun h => by
      have := some_eq h
      injection this with h1 h2
      injection h2 with h2 h3
      exact ⟨h1.symm, h2.symm, h3.symm⟩
    cases c with
    | skip =>
      obtain ⟨rfl, rfl, rfl⟩ := triple h
      exact ⟨wp_skip (hQ a w hS), fun b hb => by cases hb⟩
    | label l =>
      obtain ⟨rfl, rfl, rfl⟩ := triple h
      exact ⟨wp_label (hQ a w hS), fun b hb => by cases hb⟩
    | region id ops draw =>
      refine ⟨?_, fun b hb => by cases hb⟩
      cases draw with
      | false =>
        change regK (evalOps P call N ops ops.toList F M) = _ at h
        unfold regK at h
        split at h
        · rename_i F2 M2 hev
          obtain ⟨rfl, rfl, rfl⟩ := triple h
          exact region_sound hcall hN hev hS hQ
        · cases h
      | true =>
        change regK (evalDraw P call N ops F M) = _ at h
        unfold regK at h
        split at h
        · rename_i F2 M2 hev
          obtain ⟨rfl, rfl, rfl⟩ := triple h
          exact draw_sound hm hcall hN hev hS hQ
        · cases h
    | seq x y =>
      refine ⟨wp_seq ?_, fun b hb => by cases hb⟩
      change seqK (evalCode P call N fuel x F M) (evalCode P call N fuel y) = _ at h
      unfold seqK at h
      split at h
      · rename_i F2 M2 hev
        exact (code_sound hm hcall hN fuel hev hS fun a' w' hS' => (code_sound hm hcall hN fuel h hS' hQ).1).1
      · rename_i hnot
        refine (code_sound hm hcall hN fuel h hS fun a' w' hS' => ?_).1
        cases ex with
        | normal => exact absurd h (hnot F1 M1)
        | exit id => exact hQ a' w' hS'
        | ret => exact hQ a' w' hS'
    | cond c x y =>
      refine ⟨?_, fun b hb => by cases hb⟩
      change condK (opv F c) (evalCode P call N fuel x F M) (evalCode P call N fuel y F M) = _ at h
      obtain ⟨e, hF, _, _⟩ := hS.ex
      unfold condK at h
      split at h
      · rename_i hc
        exact wp_cond_true (hF.opv hc).bool (code_sound hm hcall hN fuel h hS hQ).1
      · rename_i hc
        exact wp_cond_false (hF.opv hc).bool (code_sound hm hcall hN fuel h hS hQ).1
      · cases h
    | block id c =>
      refine ⟨wp_block ?_, fun b hb => by cases hb⟩
      change blockK id (evalCode P call N fuel c F M) = _ at h
      unfold blockK at h
      split at h
      · rename_i k F2 M2 hev
        cases hk : Nat.beq k id with
        | true =>
          rw [hk] at h
          obtain ⟨rfl, rfl, rfl⟩ := triple h
          obtain rfl := Nat.eq_of_beq_eq_true hk
          refine (code_sound hm hcall hN fuel hev hS fun a' w' hS' => ?_).1
          have := hQ a' w' hS'
          simpa [Ex.to, Exit.inBlock] using this
        | false =>
          rw [hk] at h
          obtain ⟨rfl, rfl, rfl⟩ := triple h
          have hne : ¬ k = id := fun e2 => by subst e2; rw [Nat.beq_refl] at hk; cases hk
          refine (code_sound hm hcall hN fuel hev hS fun a' w' hS' => ?_).1
          have := hQ a' w' hS'
          simpa [Ex.to, Exit.inBlock, hne] using this
      · rename_i hnot
        refine (code_sound hm hcall hN fuel h hS fun a' w' hS' => ?_).1
        cases ex with
        | normal => exact hQ a' w' hS'
        | exit k => exact absurd h (hnot k F1 M1)
        | ret => exact hQ a' w' hS'
    | loop c =>
      change seqK (evalCode P call N fuel c F M) (evalCode P call N fuel (.loop c)) = _ at h
      have key : LoopWp P c Q a w := by
        refine LoopWp.round ?_
        unfold seqK at h
        split at h
        · rename_i F2 M2 hev
          exact (code_sound hm hcall hN fuel hev hS fun a' w' hS' => (code_sound hm hcall hN fuel h hS' hQ).2 c rfl).1
        · rename_i hnot
          refine (code_sound hm hcall hN fuel h hS fun a' w' hS' => ?_).1
          cases ex with
          | normal => exact absurd h (hnot F1 M1)
          | exit id => exact hQ a' w' hS'
          | ret => exact hQ a' w' hS'
      exact ⟨key.wp, fun b hb => by injection hb with hb; subst hb; exact key⟩
    | exit id =>
      obtain ⟨rfl, rfl, rfl⟩ := triple h
      exact ⟨wp_exit (hQ a w hS), fun b hb => by cases hb⟩
    | scope c =>
      refine ⟨wp_scope_straight ?_, fun b hb => by cases hb⟩
      change evalCode P call N fuel c F M = _ at h
      refine (code_sound hm hcall hN fuel h hS fun a' w' hS' => ?_).1
      have := hQ a' w' hS'
      cases ex <;> exact this
    | ret =>
      obtain ⟨rfl, rfl, rfl⟩ := triple h
      exact ⟨wp_ret (hQ a w hS), fun b hb => by cases hb⟩
    | rangeFunc f ps asg bd => cases h
    | goto l => cases h
    | refuse y => cases h

/- Results. -/
theorem result1_sound {F : Fr} {M : Mem} {r : ResultVar} {v : Value} {e : Env} {a : Act} {w : World} (h : result1 P F M r = some v) (hF : FR N F a e) (hM : MR base e M w) :
    ∃ v', ((match r with
      | .tmp t => pure (a.tmps.getD t undef)
      | .cell b t => do loadVar t (← asAddr (a.tmps.getD b undef)) : Sem Value)).run P w = .ok v' w ∧ V3 e v v' := by
  cases r with
  | tmp t => exact ⟨_, rfl, hF.val t v h⟩
  | cell t T =>
    unfold result1 at h
    simp only at h
    split at h
    · rename_i b off h1 h2
      obtain ⟨b', d, hb, he⟩ := (hF.val t _ h1).ptr
      split at h
      case h_2 => cases h
      rename_i n hn
      split at h
      case h_2 => cases h
      rename_i cs hcs
      obtain rfl := some_eq h
      obtain ⟨hl, cs', hlc, hcell⟩ := hM.read hcs hb
      have hr := run_loadCells_list (P := P) w ⟨b', off, none⟩ cs' hcell
      rw [← hlc.len, hl] at hr
      refine ⟨.agg cs'.toArray, ?_, .two (.agg hlc)⟩
      simp only [he]
      simp [asAddr, loadVar, Sem.run_bind, quick_run h2 w, quick_run hn w, hr]
    · rename_i b off h1 h2
      obtain ⟨b', d, hb, he⟩ := (hF.val t _ h1).ptr
      split at h
      case h_2 => cases h
      rename_i c hcs
      obtain rfl := some_eq h
      obtain ⟨hl, cs', hlc, hcell⟩ := hM.read hcs hb
      obtain ⟨c', rfl, hc'⟩ := hlc.one
      have h0 := hcell 0 c' rfl
      rw [addr_add, Nat.add_zero] at h0
      refine ⟨c', ?_, .two (.one hc')⟩
      simp only [he]
      simp [asAddr, loadVar, Sem.run_bind, quick_run h2 w, load, Sem.run, h0]
    · cases h
theorem resultsE_sound {F : Fr} {M : Mem} {e : Env} {a : Act} {w : World} (hF : FR N F a e) (hM : MR base e M w) : ∀ {rs : List ResultVar} {vs : List Value}, resultsE P F M rs = some vs →
    ∃ vs', (rs.mapM (fun r => (match r with
      | .tmp t => pure (a.tmps.getD t undef)
      | .cell b t => do loadVar t (← asAddr (a.tmps.getD b undef)) : Sem Value))).run P w = .ok vs' w ∧ L1 (V3 e) vs vs'
  | [], vs, h => by
    obtain rfl := some_eq h
    exact ⟨[], rfl, .nil⟩
  | r :: rs, vs, h => by
    unfold resultsE at h
    split at h
    case h_2 => cases h
    rename_i v hv
    split at h
    case h_2 => cases h
    rename_i us hus
    obtain rfl := some_eq h
    obtain ⟨v', h1, h2⟩ := result1_sound hv hF hM
    obtain ⟨us', h3, h4⟩ := resultsE_sound hF hM hus
    refine ⟨v' :: us', ?_, .cons h2 h4⟩
    rw [List.mapM_cons, Sem.run_bind, h1]
    simp only [Result.andThen_ok]
    rw [Sem.run_bind, h3]
    rfl
theorem flat_two {e : Env} {v v' : Value} (hf : flatV v = true) (h : V3 e v v') : V2 e v v' := by
  cases h with
  | two h => exact h
  | tup h => cases hf
theorem flats_two {e : Env} {l l' : List Value} (h : L1 (V3 e) l l') (hf : l.all flatV = true) : L1 (V2 e) l l' := by
  induction h with
  | nil => exact .nil
  | cons h1 _ ih =>
    simp only [List.all_cons, Bool.and_eq_true] at hf
    exact .cons (flat_two hf.1 h1) (ih hf.2)
theorem tuple_sound {e : Env} {vs vs' : List Value} (h : L1 (V3 e) vs vs') (hf : vs.all flatV = true) : V3 e (tupleE vs) (if h : vs'.toArray.size = 1 then vs'.toArray[0] else .tuple vs'.toArray) := by
  have h2 := flats_two h hf
  cases h with
  | nil => exact .tup .nil
  | cons h1 hr =>
    cases hr with
    | nil => exact h1
    | cons h3 h4 =>
      have : ∀ (a b : Value) (l : List Value), ¬ (a :: b :: l).toArray.size = 1 := by simp
      rw [dif_neg (this _ _ _)]
      exact .tup h2

/- The frame at the beginning. -/
theorem rep8_get {α : Type} (x : α) (d : D8) : (rep8 x).get d = x := by cases d <;> rfl
theorem fr0_get (t : Nat) : frGet fr0 t = none := by
  by_cases h : t < 512
  · rw [frGet_lt h]
    unfold fr0
    rw [rep8_get, rep8_get, rep8_get]
  · exact frGet_ge h
theorem frArgs_get : ∀ (args : List Value) (k : Nat) (F : Fr) (t : Nat) (v : Value), k + args.length ≤ 512 → frGet (frArgs k args F) t = some v → (k ≤ t ∧ args[t - k]? = some v) ∨ ((t < k ∨ k + args.length ≤ t) ∧ frGet F t = some v)
  | [], k, F, t, v, _, h => .inr ⟨by simp; omega, h⟩
  | x :: xs, k, F, t, v, hk, h => by
    rw [List.length_cons] at hk
    obtain ⟨F', h1, h2, h3⟩ := frPut_eq F (k := k) (by omega) (some x) (fun t => frArgs (Nat.succ k) xs t)
    change frGet (frPut F k (some x) fun t => frArgs (Nat.succ k) xs t) t = some v at h
    rw [h1] at h
    rcases frArgs_get xs (k + 1) F' t v (by omega) h with ⟨h4, h5⟩ | ⟨h4, h5⟩
    · left
      refine ⟨by omega, ?_⟩
      rw [show t - k = (t - (k + 1)) + 1 by omega]
      simpa using h5
    · by_cases htk : t = k
      · subst htk
        rw [h2] at h5
        left
        refine ⟨Nat.le_refl _, ?_⟩
        simpa using h5
      · rw [h3 t htk] at h5
        exact .inr ⟨by rw [List.length_cons]; omega, h5⟩
end
theorem evalCall_ok (P : Program) (hm : P.follows .mixedOrders = true) (base fuel : Nat) : ∀ n, CallOk P base (evalCall P fuel n)
  | 0 => fun f args M v M' h => by cases h
  | n + 1 => fun f args M v M' h e w args' ha hM => by
    change callStep P fuel (evalCall P fuel n) f args M = _ at h
    unfold callStep at h
    split at h
    case h_2 => cases h
    rename_i fn hfn
    unfold bodyK at h
    split at h
    case h_2 => cases h
    rename_i c hb
    obtain ⟨hle, h⟩ := cond_run h
    simp only [Bool.and_eq_true] at hle
    have hle1 := Nat.le_of_ble_eq_true hle.1
    have hle2 := Nat.le_of_ble_eq_true hle.2
    have hal := ha.len
    refine calls_of_wp hfn hb ?_
    have hS : ST base fn.ntmps e w (frArgs 0 args fr0) M { tmps := args'.toArray ++ Array.replicate (fn.ntmps - args'.toArray.size) undef, defers := [] } w := by
      refine ⟨⟨e, ⟨by simp; omega, hle2, fun t v hv => ?_, rfl⟩, hM, Ext.refl e⟩, Below.refl _ _⟩
      rcases frArgs_get args 0 fr0 t v (by omega) hv with ⟨_, h1⟩ | ⟨_, h1⟩
      · obtain ⟨v', h2, h3⟩ := ha.get h1
        have hlt := (List.getElem?_eq_some_iff.1 h2).1
        have : (args'.toArray ++ Array.replicate (fn.ntmps - args'.toArray.size) undef).getD t undef = v' := by
          rw [Array.getD_eq_getD_getElem?, Array.getElem?_append_left (by simp; omega)]
          simpa using congrArg (·.getD undef) h2
        rw [this]
        exact h3
      · rw [fr0_get] at h1
        cases h1
    have fin : ∀ {F1 : Fr} {M1 : Mem} {vs : List Value}, resultsE P F1 M1 fn.results.toList = some vs → (bif vs.all flatV then some (tupleE vs, M1) else none) = some (v, M') → ∀ a w', ST base fn.ntmps e w F1 M1 a w' →
        a.defers = [] ∧ ∃ r, (results fn a.tmps).run P w' = .ok r w' ∧ CallPost base e w v M' (.returned r) w' := by
      intro F1 M1 vs hrs hend a w' hS'
      obtain ⟨hfl, heq⟩ := some_bif hend
      injection heq with h1 h2
      subst h1 h2
      obtain ⟨⟨e1, hF1, hM1, hE1⟩, hB1⟩ := hS'
      obtain ⟨vs', h3, h4⟩ := resultsE_sound hF1 hM1 hrs
      refine ⟨hF1.defers, _, ?_, ⟨_, e1, rfl, hE1, tuple_sound h4 hfl, hM1, hB1⟩⟩
      unfold results
      rw [Array.mapM_eq_mapM_toList, ← bind_pure_comp, Sem.run_bind, Sem.run_bind]
      exact congrArg (fun r => Result.andThen (Result.andThen r fun a w' => Sem.run P (pure a.toArray) w') fun a w' => Sem.run P (pure (if h : a.size = 1 then a[0] else Value.tuple a)) w') h3
    unfold endK at h
    split at h
    · cases h
    · rename_i ex F1 M1 hnot hev
      split at h
      case h_2 => cases h
      rename_i vs hrs
      refine (code_sound hm (evalCall_ok P hm base fuel n) hle2 fuel hev hS fun a' w' hS' => ?_).1
      have := fin hrs h a' w' hS'
      cases ex with
      | normal => exact this
      | exit id => exact absurd rfl (hnot id)
      | ret => exact this
    · cases h
end Go.Proofs.YtifconapjfdkcaaGreatDoor
/-
  What is asked of a contract that was read.
  No condition.
-/
namespace Go.Proofs.YtifconapjfdkcaaGreatDoor
set_option linter.unusedSimpArgs false
set_option linter.unusedVariables false
open Go.RowKit Go

noncomputable def isZ : Value → Bool
  | .int .i64 n => iEq n 0
  | _ => false
def isAggN (n : Nat) : Value → Bool
  | .agg cs => Nat.beq cs.toList.length n
  | _ => false
noncomputable def con3Ok : List Value → Bool
  | [a, b, c] => isAggN 14 a && isZ b && isZ c
  | _ => false
/-- A contract without an error. -/
noncomputable def conOk (r : Option (Value × Mem)) : Bool := match r with
  | some (.tuple vs, _) => con3Ok vs.toList
  | _ => false
theorem isZ_eq {v : Value} (h : isZ v = true) : v = .int .i64 0 := by
  unfold isZ at h
  split at h
  · rw [iEq_eq] at h
    rw [eq_of_beq h]
  · cases h
theorem isAggN_eq {n : Nat} {v : Value} (h : isAggN n v = true) : ∃ l : List Value, v = .agg l.toArray ∧ l.length = n := by
  unfold isAggN at h
  split at h
  · rename_i cs
    obtain ⟨l⟩ := cs
    exact ⟨l, rfl, Nat.eq_of_beq_eq_true h⟩
  · cases h
theorem con3Ok_eq {l : List Value} (h : con3Ok l = true) : ∃ cs : List Value, l = [.agg cs.toArray, .int .i64 0, .int .i64 0] ∧ cs.length = 14 := by
  unfold con3Ok at h
  split at h
  · simp only [Bool.and_eq_true] at h
    obtain ⟨cs, rfl, hl⟩ := isAggN_eq h.1.1
    rw [isZ_eq h.1.2, isZ_eq h.2]
    exact ⟨cs, rfl, hl⟩
  · cases h
/-- A contract as a struct's cells. -/
def ConCells (cs : List Value) : Prop := cs.length = 14 ∧ ∀ u ∈ cs, u.oneCell' = true
def ConRead (w : World) (en : Ending) (w' : World) : Prop := ∃ cs, ConCells cs ∧ en = .returned (.tuple #[.agg cs.toArray, .int .i64 0, .int .i64 0]) ∧ Below w.heap.size w w'
theorem con_read {P : Program} {f fuel n : Nat} {s : ByteArray} {r : Option (Value × Mem)} (hr : evalCall P fuel n f [.string s] mem0 = r) (hok : conOk r = true) (hm : P.follows .mixedOrders = true) (w : World) : Calls P f #[.string s] w (ConRead w) := by
  unfold conOk at hok
  split at hok
  case h_2 => cases hok
  rename_i vs M
  obtain ⟨cs, hvs, hlen⟩ := con3Ok_eq hok
  have h := evalCall_ok P hm w.heap.size fuel n f [.string s] mem0 _ _ hr [] w [.string s] (.cons (.two (.one (.plain rfl))) .nil) (MR.start w)
  refine h.mono fun en w' he => ?_
  obtain ⟨v', e', rfl, _, hv, _, hb⟩ := he
  obtain ⟨vs', rfl, hl⟩ := hv.tuple
  obtain ⟨vs'⟩ := vs'
  rw [hvs] at hl
  cases hl with
  | cons h1 hl =>
  cases hl with
  | cons h2 hl =>
  cases hl with
  | cons h3 hl =>
  cases hl
  have e2 := V3.int (.two h2)
  have e3 := V3.int (.two h3)
  subst e2 e3
  obtain ⟨_, l', hl', hla⟩ := (V3.two h1).cells (cs := cs) rfl
  cases h1 with
  | one h1 => cases h1 with
    | plain h1 => cases h1
  | agg h1 =>
  rename_i l0 l1
  refine ⟨l1, ⟨?_, h1.ones⟩, rfl, hb⟩
  rw [← h1.len]
  simpa using hlen
end Go.Proofs.YtifconapjfdkcaaGreatDoor
/-
  What the reference's reader of contracts gives for the text number 0 of the laws' data: run in the kernel.
  No condition.
-/
namespace Go.Proofs.YtifconapjfdkcaaGreatDoor
set_option linter.unusedSimpArgs false
set_option linter.unusedVariables false
open Go.RowKit Go

def conS0 : ByteArray := ⟨#[114, 101, 112, 111, 114, 116, 32, 49, 58, 48, 48, 10, 114, 101, 108, 101, 97, 115, 101, 32, 48, 58, 51, 48, 10, 99, 111, 110, 110, 101, 99, 116, 32, 48, 58, 51, 48, 10, 108, 97, 121, 111, 118, 101, 114, 32, 51, 48, 58, 48, 48, 10, 110, 105, 103, 104, 116, 32, 64, 50, 50, 58, 48, 48, 32, 116, 111, 32, 64, 48, 54, 58, 48, 48, 10, 100, 117, 116, 121, 32, 114, 117, 108, 101, 32, 108, 101, 103, 115, 95, 109, 97, 120, 32, 105, 115, 32, 108, 101, 103, 115, 32, 43, 32, 104, 101, 97, 100, 115, 32, 60, 61, 32, 51, 10, 100, 117, 116, 121, 32, 99, 111, 115, 116, 32, 105, 115, 32, 49, 48, 32, 42, 32, 108, 101, 103, 115, 32, 43, 32, 98, 108, 111, 99, 107, 32, 47, 32, 48, 58, 51, 48, 10, 114, 101, 115, 116, 32, 99, 111, 115, 116, 32, 105, 115, 32, 53, 10, 112, 97, 105, 114, 105, 110, 103, 32, 99, 111, 115, 116, 32, 105, 115, 32, 55, 10]⟩
noncomputable def con0 : Option (Value × Mem) := evalCall Tryz.prog 100000 200 66 [.string conS0] mem0
theorem con0_ok : conOk con0 = true := by kernel_rfl
theorem con0_eq : evalCall Tryz.prog 100000 200 66 [.string conS0] mem0 = con0 := by kernel_rfl
end Go.Proofs.YtifconapjfdkcaaGreatDoor
/-
  What the reference's reader of contracts gives for the text number 1 of the laws' data: run in the kernel.
  No condition.
-/
namespace Go.Proofs.YtifconapjfdkcaaGreatDoor
set_option linter.unusedSimpArgs false
set_option linter.unusedVariables false
open Go.RowKit Go

def conS1 : ByteArray := ⟨#[114, 101, 112, 111, 114, 116, 32, 49, 58, 48, 48, 10, 114, 101, 108, 101, 97, 115, 101, 32, 48, 58, 51, 48, 10, 99, 111, 110, 110, 101, 99, 116, 32, 48, 58, 51, 48, 10, 108, 97, 121, 111, 118, 101, 114, 32, 51, 48, 58, 48, 48, 10, 114, 101, 115, 116, 32, 114, 117, 108, 101, 32, 109, 105, 110, 105, 109, 117, 109, 32, 105, 115, 32, 50, 58, 48, 48, 32, 60, 61, 32, 114, 101, 115, 116, 10, 112, 97, 105, 114, 105, 110, 103, 32, 114, 117, 108, 101, 32, 115, 104, 111, 114, 116, 32, 105, 115, 32, 100, 117, 116, 105, 101, 115, 32, 60, 61, 32, 50, 10, 100, 117, 116, 121, 32, 99, 111, 115, 116, 32, 105, 115, 32, 52, 32, 43, 32, 104, 101, 97, 100, 115, 32, 42, 32, 51, 10, 112, 97, 105, 114, 105, 110, 103, 32, 99, 111, 115, 116, 32, 105, 115, 32, 100, 97, 121, 115, 32, 42, 32, 49, 48, 32, 45, 32, 108, 101, 103, 115, 10]⟩
noncomputable def con1 : Option (Value × Mem) := evalCall Tryz.prog 100000 200 66 [.string conS1] mem0
theorem con1_ok : conOk con1 = true := by kernel_rfl
theorem con1_eq : evalCall Tryz.prog 100000 200 66 [.string conS1] mem0 = con1 := by kernel_rfl
end Go.Proofs.YtifconapjfdkcaaGreatDoor
/-
  What the reference's reader of contracts gives for the text number 2 of the laws' data: run in the kernel.
  No condition.
-/
namespace Go.Proofs.YtifconapjfdkcaaGreatDoor
set_option linter.unusedSimpArgs false
set_option linter.unusedVariables false
open Go.RowKit Go

def conS2 : ByteArray := ⟨#[114, 101, 112, 111, 114, 116, 32, 49, 58, 48, 48, 10, 114, 101, 108, 101, 97, 115, 101, 32, 48, 58, 51, 48, 10, 99, 111, 110, 110, 101, 99, 116, 32, 48, 58, 51, 48, 10, 108, 97, 121, 111, 118, 101, 114, 32, 51, 48, 58, 48, 48, 10, 110, 105, 103, 104, 116, 32, 64, 50, 50, 58, 48, 48, 32, 116, 111, 32, 64, 48, 54, 58, 48, 48, 10, 100, 117, 116, 121, 32, 114, 117, 108, 101, 32, 108, 101, 103, 115, 95, 109, 97, 120, 32, 105, 115, 32, 108, 101, 103, 115, 32, 43, 32, 104, 101, 97, 100, 115, 32, 60, 61, 32, 51, 10, 100, 117, 116, 121, 32, 99, 111, 115, 116, 32, 105, 115, 32, 49, 48, 32, 42, 32, 108, 101, 103, 115, 32, 43, 32, 98, 108, 111, 99, 107, 32, 47, 32, 48, 58, 51, 48, 10, 114, 101, 115, 116, 32, 99, 111, 115, 116, 32, 105, 115, 32, 53, 10, 112, 97, 105, 114, 105, 110, 103, 32, 99, 111, 115, 116, 32, 105, 115, 32, 55, 10, 100, 117, 116, 121, 32, 114, 117, 108, 101, 32, 101, 97, 114, 108, 121, 32, 105, 115, 32, 115, 116, 97, 114, 116, 32, 105, 110, 32, 64, 48, 48, 58, 48, 48, 32, 116, 111, 32, 64, 48, 53, 58, 48, 48, 32, 105, 109, 112, 108, 105, 101, 115, 32, 108, 101, 103, 115, 32, 60, 61, 32, 49, 10, 112, 97, 105, 114, 105, 110, 103, 32, 114, 117, 108, 101, 32, 108, 101, 110, 103, 116, 104, 32, 105, 115, 32, 98, 108, 111, 99, 107, 32, 60, 61, 32, 56, 58, 48, 48, 10]⟩
noncomputable def con2 : Option (Value × Mem) := evalCall Tryz.prog 100000 200 66 [.string conS2] mem0
theorem con2_ok : conOk con2 = true := by kernel_rfl
theorem con2_eq : evalCall Tryz.prog 100000 200 66 [.string conS2] mem0 = con2 := by kernel_rfl
end Go.Proofs.YtifconapjfdkcaaGreatDoor
/-
  What the reference's reader of contracts gives for the text number 3 of the laws' data: run in the kernel.
  No condition.
-/
namespace Go.Proofs.YtifconapjfdkcaaGreatDoor
set_option linter.unusedSimpArgs false
set_option linter.unusedVariables false
open Go.RowKit Go

def conS3 : ByteArray := ⟨#[114, 101, 112, 111, 114, 116, 32, 49, 58, 48, 48, 10, 114, 101, 108, 101, 97, 115, 101, 32, 48, 58, 51, 48, 10, 99, 111, 110, 110, 101, 99, 116, 32, 48, 58, 51, 48, 10, 108, 97, 121, 111, 118, 101, 114, 32, 51, 48, 58, 48, 48, 10, 110, 105, 103, 104, 116, 32, 64, 50, 50, 58, 48, 48, 32, 116, 111, 32, 64, 48, 54, 58, 48, 48, 10, 100, 117, 116, 121, 32, 114, 117, 108, 101, 32, 108, 101, 103, 115, 95, 109, 97, 120, 32, 105, 115, 32, 108, 101, 103, 115, 32, 43, 32, 104, 101, 97, 100, 115, 32, 60, 61, 32, 51, 10, 100, 117, 116, 121, 32, 99, 111, 115, 116, 32, 105, 115, 32, 49, 48, 32, 42, 32, 108, 101, 103, 115, 32, 43, 32, 98, 108, 111, 99, 107, 32, 47, 32, 48, 58, 51, 48, 10, 114, 101, 115, 116, 32, 99, 111, 115, 116, 32, 105, 115, 32, 53, 10, 112, 97, 105, 114, 105, 110, 103, 32, 99, 111, 115, 116, 32, 105, 115, 32, 55, 10, 100, 117, 116, 121, 32, 99, 114, 101, 100, 105, 116, 32, 105, 115, 32, 109, 97, 120, 40, 98, 108, 111, 99, 107, 44, 32, 50, 58, 48, 48, 41, 10, 108, 105, 109, 105, 116, 32, 102, 108, 121, 105, 110, 103, 32, 105, 115, 32, 98, 108, 111, 99, 107, 32, 54, 58, 48, 48, 32, 105, 110, 32, 50, 32, 100, 97, 121, 115, 10, 108, 105, 109, 105, 116, 32, 119, 111, 114, 107, 32, 105, 115, 32, 100, 117, 116, 105, 101, 115, 32, 51, 32, 105, 110, 32, 51, 32, 100, 97, 121, 115, 10, 111, 102, 102, 32, 102, 114, 101, 101, 32, 105, 115, 32, 49, 32, 105, 110, 32, 51, 32, 100, 97, 121, 115, 10, 103, 117, 97, 114, 97, 110, 116, 101, 101, 32, 49, 48, 58, 48, 48, 10]⟩
noncomputable def con3 : Option (Value × Mem) := evalCall Tryz.prog 100000 200 66 [.string conS3] mem0
theorem con3_ok : conOk con3 = true := by kernel_rfl
theorem con3_eq : evalCall Tryz.prog 100000 200 66 [.string conS3] mem0 = con3 := by kernel_rfl
end Go.Proofs.YtifconapjfdkcaaGreatDoor
/-
  What the reference's reader of contracts gives for the text number 4 of the laws' data: run in the kernel.
  No condition.
-/
namespace Go.Proofs.YtifconapjfdkcaaGreatDoor
set_option linter.unusedSimpArgs false
set_option linter.unusedVariables false
open Go.RowKit Go

def conS4 : ByteArray := ⟨#[99, 111, 110, 110, 101, 99, 116, 32, 48, 58, 50, 48, 10, 115, 105, 116, 32, 52, 58, 48, 48, 10, 108, 97, 121, 111, 118, 101, 114, 32, 50, 48, 58, 48, 48, 10, 100, 117, 116, 121, 32, 114, 117, 108, 101, 32, 111, 110, 101, 95, 116, 121, 112, 101, 32, 105, 115, 32, 116, 121, 112, 101, 115, 32, 60, 61, 32, 49, 10, 100, 117, 116, 121, 32, 99, 111, 115, 116, 32, 105, 115, 32, 48, 32, 45, 32, 108, 101, 103, 115, 10, 112, 97, 105, 114, 105, 110, 103, 32, 99, 111, 115, 116, 32, 105, 115, 32, 105, 102, 32, 108, 101, 103, 115, 32, 60, 32, 50, 32, 116, 104, 101, 110, 32, 57, 32, 101, 108, 115, 101, 32, 50, 10]⟩
noncomputable def con4 : Option (Value × Mem) := evalCall Tryz.prog 100000 200 66 [.string conS4] mem0
theorem con4_ok : conOk con4 = true := by kernel_rfl
theorem con4_eq : evalCall Tryz.prog 100000 200 66 [.string conS4] mem0 = con4 := by kernel_rfl
end Go.Proofs.YtifconapjfdkcaaGreatDoor
/-
  What the reference's reader of contracts gives for the text number 5 of the laws' data: run in the kernel.
  No condition.
-/
namespace Go.Proofs.YtifconapjfdkcaaGreatDoor
set_option linter.unusedSimpArgs false
set_option linter.unusedVariables false
open Go.RowKit Go

def conS5 : ByteArray := ⟨#[114, 101, 112, 111, 114, 116, 32, 48, 58, 51, 48, 10, 114, 101, 108, 101, 97, 115, 101, 32, 48, 58, 51, 48, 10, 99, 111, 110, 110, 101, 99, 116, 32, 48, 58, 51, 48, 10, 108, 97, 121, 111, 118, 101, 114, 32, 51, 54, 58, 48, 48, 10, 110, 105, 103, 104, 116, 32, 64, 50, 50, 58, 48, 48, 32, 116, 111, 32, 64, 48, 54, 58, 48, 48, 10, 100, 117, 116, 121, 32, 114, 117, 108, 101, 32, 102, 108, 111, 119, 110, 32, 105, 115, 32, 104, 101, 97, 100, 115, 32, 60, 61, 32, 108, 101, 103, 115, 10, 100, 117, 116, 121, 32, 99, 111, 115, 116, 32, 105, 115, 32, 115, 112, 97, 110, 32, 47, 32, 49, 58, 48, 48, 10, 114, 101, 115, 116, 32, 99, 111, 115, 116, 32, 105, 115, 32, 114, 101, 115, 116, 32, 47, 32, 50, 58, 48, 48, 10, 108, 105, 109, 105, 116, 32, 110, 105, 103, 104, 116, 115, 32, 105, 115, 32, 110, 105, 103, 104, 116, 32, 52, 58, 48, 48, 32, 105, 110, 32, 50, 32, 100, 97, 121, 115, 10]⟩
noncomputable def con5 : Option (Value × Mem) := evalCall Tryz.prog 100000 200 66 [.string conS5] mem0
theorem con5_ok : conOk con5 = true := by kernel_rfl
theorem con5_eq : evalCall Tryz.prog 100000 200 66 [.string conS5] mem0 = con5 := by kernel_rfl
end Go.Proofs.YtifconapjfdkcaaGreatDoor
/-
  Contracts of timetable.readZone and timetable.readFlight.
  Condition: the reader's bytes are bytes.
-/
namespace Go.Proofs.YtifconapjfdkcaaGreatDoor
set_option linter.unusedSimpArgs false
set_option linter.unusedVariables false
open Go.RowKit

theorem elem_shift : Elem Tryz.prog 96 122 2 16 := ⟨Tryz.underlying96, by kernel_rfl⟩
end Go.Proofs.YtifconapjfdkcaaGreatDoor
/-
  append of a whole slice of plain data to a row of the call's own, and slices.Clone over shifts.
  Condition: the slice reads as a list.
-/
namespace Go.Proofs.YtifconapjfdkcaaGreatDoor
set_option linter.unusedSimpArgs false
set_option linter.unusedVariables false
open Go.RowKit

/-- Data without inner blocks. -/
def Ty.Flat {α : Type} (t : Ty α) : Prop := ∀ {w w' : World} {S S' : Nat → Prop} {cs : List Value} {x : α}, t.rep w S cs x → t.rep w' S' cs x
theorem flat_shift : Ty.shift.Flat := fun h => h
theorem flat_str : Ty.str.Flat := fun h => h
theorem flat_airport : Ty.airport.Flat := fun h => h
theorem flat_flight : Ty.flight.Flat := fun h => h
section
variable {α : Type} {t : Ty α} {w w' : World} {S : Nat → Prop} {n c : Nat} {xs : List α}
theorem RepAll.flat {S' : Nat → Prop} {cs : List Value} (ht : t.Flat) (h : RepAll t w S cs xs) : RepAll t w' S' cs xs := ⟨h.1, fun i x hi => ht (h.2 i x hi)⟩
/-- The cells of a slice, one behind the other. -/
theorem Sl.cells {ad : Addr} (h : Sl t w S (some ad) n c xs) : ∃ cs, RepAll t w S cs xs ∧ (∀ j u, cs[j]? = some u → w.cell? (ad.add j) = some u) ∧ ∀ u ∈ cs, u.oneCell' = true := by
  obtain ⟨h1, h2, h3, h4⟩ := h
  rcases Nat.eq_zero_or_pos n with h0 | h0
  · have : xs = [] := List.eq_nil_of_length_eq_zero (by omega)
    subst this
    exact ⟨[], RepAll.nil _ _ _, fun j u hu => by simp at hu, fun u hu => by cases hu⟩
  · obtain ⟨b, o, e, hs, hx⟩ := h4 h0
    cases e
    have key : ∀ k, k ≤ xs.length → ∃ cs, RepAll t w S cs (xs.take k) ∧ At w b o cs ∧ ∀ u ∈ cs, u.oneCell' = true := fun k => by
      induction k with
      | zero => exact fun _ => ⟨[], RepAll.nil _ _ _, fun j u hu => by simp at hu, fun u hu => by cases hu⟩
      | succ k ih =>
        intro hk
        obtain ⟨cs, hr, ha, ho⟩ := ih (by omega)
        obtain ⟨c1, hr1, ha1⟩ := hx k _ (List.getElem?_eq_getElem (by omega))
        refine ⟨cs ++ c1, ?_, fun j u hu => ?_, fun u hu => ?_⟩
        · rw [List.take_succ_eq_append_getElem (by omega)]
          exact hr.snoc hr1
        · have hl : cs.length = k * t.size := by rw [hr.1, List.length_take]; congr 1; omega
          rcases Nat.lt_or_ge j cs.length with hj | hj
          · exact ha j u (by rwa [List.getElem?_append_left hj] at hu)
          · rw [List.getElem?_append_right hj] at hu
            have := ha1 _ u hu
            rw [hl] at this hj
            rw [← this]
            congr 2
            omega
        · rcases List.mem_append.1 hu with hu | hu
          · exact ho u hu
          · exact t.one hr1 u hu
    obtain ⟨cs, hr, ha, ho⟩ := key xs.length (Nat.le_refl _)
    rw [List.take_length] at hr
    exact ⟨cs, hr, fun j u hu => by rw [addr_add]; exact ha j u hu, ho⟩
theorem Own.made {e : TypeId} {base cap : Nat} {cur : Array Value} (hb : base ≤ w.heap.size) (hm : cap ≤ maxLen) (hs : cur.size = cap * t.size) : Own t e (w.alloc (.cells cur e)) base (.slice (some ⟨w.heap.size, 0, none⟩) 0 cap) ([] : List α) :=
  ⟨[], World.ownsRow_made w cur cap hb hm hs, RepAll.nil _ _ _⟩
/-- append of a slice of plain data. -/
theorem wpList_concat {P : Program} {ops : Array Oper} {rest : List Oper} {o : Oper} {a : Act} {Q : Exit → Act → World → Prop} {T e : TypeId} {v : Value} {base : Nat} {ys : List α} (ht : t.Flat) (hgd : o.guard = none) (s x : Operand)
    (ho : o.op = .call { callee := .builtin .append, args := #[s, x], argTypes := #[T, T] }) (bytes : Nat) (he : Elem P T e t.size bytes) (hs : a.eval s = v) (hown : Own t e w base v xs)
    (ad : Addr) (m c : Nat) (hx : a.eval x = .slice (some ad) m c) (hy : Sl t w S (some ad) m c ys)
    (hlen : (xs.length + m) * bytes ≤ 140737488355328) (hpos : 0 < bytes) (hbase : base ≤ w.heap.size)
    (h : ∀ v' w', Own t e w' base v' (xs ++ ys) → w.grownBy w' v.ownBlock → wpList P ops Q rest (a.put o.dst v') w') : wpList P ops Q (o :: rest) a w := by
  obtain ⟨i, z, hi, hz, h1, h2, h3⟩ := he.parts
  obtain ⟨cs, hown1, hown2⟩ := hown
  have hm := hy.len
  obtain ⟨c1, hr, hat, hone⟩ := hy.cells
  have h63 : xs.length + m ≤ maxLen := by
    have := Nat.le_mul_of_pos_right (xs.length + m) hpos
    unfold maxLen
    omega
  refine wpList_append_own_at _ hgd s x T ho base e i z t.size bytes he.1 hi hz h1 h2 h3 t.pos v xs.length cs hs hown1 ad m c c1 hx (by rw [hr.1, hm]) hat hone h63 hlen hbase ?_
  intro v' w' ho' hgr _ hv'
  refine h v' w' ⟨cs ++ c1, by rw [List.length_append, ← hm]; exact ho', ?_⟩ hgr
  have hb := hgr.block
  have hsz := hgr.size
  have hcat : ∀ (zs : List α) (dz : List Value), RepAll t w S dz zs → RepAll t w' (fun b => base ≤ b ∧ b < w'.heap.size ∧ some b ≠ v'.ownBlock) dz zs := fun zs dz hz => hz.flat ht
  refine ⟨by rw [List.length_append, List.length_append, hown2.1, hr.1, Nat.add_mul], fun i x hi => ?_⟩
  rcases Nat.lt_or_ge i xs.length with hlt | hge
  · have e1 : xs[i]? = some x := by rwa [List.getElem?_append_left hlt] at hi
    have h9 : i * t.size + t.size ≤ cs.length := by
      rw [hown2.1, ← Nat.succ_mul]
      exact Nat.mul_le_mul_right _ hlt
    rw [List.drop_append_of_le_length (by omega), List.take_append_of_le_length (by rw [List.length_drop]; omega)]
    exact ht (hown2.2 i x e1)
  · rw [List.getElem?_append_right hge] at hi
    have e2 : i * t.size = cs.length + (i - xs.length) * t.size := by
      rw [hown2.1, ← Nat.add_mul]
      congr 1
      omega
    rw [e2, List.drop_append]
    have e3 : cs.drop (cs.length + (i - xs.length) * t.size) = [] := List.drop_eq_nil_of_le (by omega)
    rw [e3, List.nil_append, Nat.add_sub_cancel_left]
    exact ht (hr.2 _ x hi)
end

end Go.Proofs.YtifconapjfdkcaaGreatDoor
/-
  Slice types and their elements' rows in the table of types.
  No condition.
-/
namespace Go.Proofs.YtifconapjfdkcaaGreatDoor
set_option linter.unusedSimpArgs false
set_option linter.unusedVariables false
open Go.RowKit

theorem elem_strs : Elem Tryz.prog 36 9 1 16 := ⟨Tryz.underlying36, by kernel_rfl⟩
theorem elem_span : Elem Tryz.prog 73 57 2 16 := ⟨Tryz.underlying73, by kernel_rfl⟩
theorem elem_person : Elem Tryz.prog 40 75 7 104 := ⟨Tryz.underlying40, by kernel_rfl⟩
theorem elem_ints : Elem Tryz.prog 22 3 1 8 := ⟨Tryz.underlying22, by kernel_rfl⟩
theorem elem_zone : Elem Tryz.prog 23 98 3 48 := ⟨Tryz.underlying23, by kernel_rfl⟩
theorem elem_airport : Elem Tryz.prog 24 101 2 32 := ⟨Tryz.underlying24, by kernel_rfl⟩
theorem elem_flight : Elem Tryz.prog 25 62 9 104 := ⟨Tryz.underlying25, by kernel_rfl⟩
theorem elem_inc : Elem Tryz.prog 42 59 7 64 := ⟨Tryz.underlying42, by kernel_rfl⟩
end Go.Proofs.YtifconapjfdkcaaGreatDoor
/-
  Contracts of slices.Clone at plain element types: a new row of the call's own.
  Condition: the slice reads as a list.
-/
namespace Go.Proofs.YtifconapjfdkcaaGreatDoor
set_option linter.unusedSimpArgs false
set_option linter.unusedVariables false
open Go.RowKit

/-- A new row is handed back. -/
def OwnPost {α : Type} (t : Ty α) (el : TypeId) (xs : List α) (w : World) (e : Ending) (w' : World) : Prop :=
  ∃ v, e = .returned v ∧ Own t el w' w.heap.size v xs ∧ Below w.heap.size w w' 
set_option maxRecDepth 100000 in
theorem cloneStr_any (A : Option Addr) (n c : Nat) (xs : List ByteArray) (w : World) (hs : Sl Ty.str w (all_ w) A n c xs) (hn : xs.length ≤ 1000) :
    Calls Tryz.prog 69 #[.slice A n c] w (OwnPost Ty.str 9 xs w) := by
  have hln := hs.len
  have HS := Lib.hid hs
  have hb0 : ∀ o, Below w.heap.size w (w.alloc o) := fun o => (Below.refl _ _).alloc (Nat.le_refl _) o
  have HB0 := Lib.hid hb0
  have HN := Lib.hid hln
  cases A with
  | none =>
    have h0 : xs = [] := by
      rcases Nat.eq_zero_or_pos n with h0 | h0
      · exact List.eq_nil_of_length_eq_zero (by omega)
      · obtain ⟨b, o, e, _⟩ := hs.2.2.2 h0
        cases e
    subst h0
    have heq := fun w => Lib.run_eql_slice_nil (P := Tryz.prog) w 36 9 none n c 0 0 Tryz.underlying36
    clear hs hln hb0
    go_enter Tryz.func69, Tryz.ntmps69
    go_wp2_with fail
    go_ret
    exact ⟨_, rfl, Own.nil, Below.refl _ _⟩
  | some ad =>
    have heq := fun w => Lib.run_eql_slice_nil (P := Tryz.prog) w 36 9 (some ad) n c 0 0 Tryz.underlying36
    clear hs hln hb0
    go_enter Tryz.func69, Tryz.ntmps69
    go_wp2_with (at_builtin; refine wpList_concat (S := all_ (w.alloc (.cells #[] 9))) (xs := []) (ys := xs) (base := w.heap.size) flat_str rfl _ _ rfl 16 elem_strs rfl (Own.made (Nat.le_refl _) (Nat.zero_le _) rfl) ad n c rfl (HS.out.next (HB0.out _)) ?c1 (by decide) ?c2 ?_)
    case c1 => have := HN.out; simp; omega
    case c2 => simp
    intro v' w1 hown hgr
    obtain ⟨A9, c9, rfl, hsl9⟩ := hown.sl
    have HOWN : Hid (Own Ty.str 9 w1 w.heap.size (.slice A9 ([] ++ xs).length c9) xs) := hown
    have HFIN : Hid (Below w.heap.size w w1) := (HB0.out _).grown hgr (by simp) (fun k hk => by simp [Value.ownBlock] at hk; omega)
    clear hown hgr hsl9
    go_wp2_with fail
    go_ret
    exact ⟨_, rfl, HOWN.out, HFIN.out⟩
set_option maxRecDepth 100000 in
theorem cloneSpan_any (A : Option Addr) (n c : Nat) (xs : List GShift) (w : World) (hs : Sl Ty.shift w (all_ w) A n c xs) (hn : xs.length ≤ 1000) :
    Calls Tryz.prog 70 #[.slice A n c] w (OwnPost Ty.shift 57 xs w) := by
  have hln := hs.len
  have HS := Lib.hid hs
  have hb0 : ∀ o, Below w.heap.size w (w.alloc o) := fun o => (Below.refl _ _).alloc (Nat.le_refl _) o
  have HB0 := Lib.hid hb0
  have HN := Lib.hid hln
  cases A with
  | none =>
    have h0 : xs = [] := by
      rcases Nat.eq_zero_or_pos n with h0 | h0
      · exact List.eq_nil_of_length_eq_zero (by omega)
      · obtain ⟨b, o, e, _⟩ := hs.2.2.2 h0
        cases e
    subst h0
    have heq := fun w => Lib.run_eql_slice_nil (P := Tryz.prog) w 73 57 none n c 0 0 Tryz.underlying73
    clear hs hln hb0
    go_enter Tryz.func70, Tryz.ntmps70
    go_wp2_with fail
    go_ret
    exact ⟨_, rfl, Own.nil, Below.refl _ _⟩
  | some ad =>
    have heq := fun w => Lib.run_eql_slice_nil (P := Tryz.prog) w 73 57 (some ad) n c 0 0 Tryz.underlying73
    clear hs hln hb0
    go_enter Tryz.func70, Tryz.ntmps70
    go_wp2_with (at_builtin; refine wpList_concat (S := all_ (w.alloc (.cells #[] 57))) (xs := []) (ys := xs) (base := w.heap.size) flat_shift rfl _ _ rfl 16 elem_span rfl (Own.made (Nat.le_refl _) (Nat.zero_le _) rfl) ad n c rfl (HS.out.next (HB0.out _)) ?c1 (by decide) ?c2 ?_)
    case c1 => have := HN.out; simp; omega
    case c2 => simp
    intro v' w1 hown hgr
    obtain ⟨A9, c9, rfl, hsl9⟩ := hown.sl
    have HOWN : Hid (Own Ty.shift 57 w1 w.heap.size (.slice A9 ([] ++ xs).length c9) xs) := hown
    have HFIN : Hid (Below w.heap.size w w1) := (HB0.out _).grown hgr (by simp) (fun k hk => by simp [Value.ownBlock] at hk; omega)
    clear hown hgr hsl9
    go_wp2_with fail
    go_ret
    exact ⟨_, rfl, HOWN.out, HFIN.out⟩
set_option maxRecDepth 100000 in
theorem cloneFlight_any (A : Option Addr) (n c : Nat) (xs : List GFlight) (w : World) (hs : Sl Ty.flight w (all_ w) A n c xs) (hn : xs.length ≤ 1000) :
    Calls Tryz.prog 44 #[.slice A n c] w (OwnPost Ty.flight 62 xs w) := by
  have hln := hs.len
  have HS := Lib.hid hs
  have hb0 : ∀ o, Below w.heap.size w (w.alloc o) := fun o => (Below.refl _ _).alloc (Nat.le_refl _) o
  have HB0 := Lib.hid hb0
  have HN := Lib.hid hln
  cases A with
  | none =>
    have h0 : xs = [] := by
      rcases Nat.eq_zero_or_pos n with h0 | h0
      · exact List.eq_nil_of_length_eq_zero (by omega)
      · obtain ⟨b, o, e, _⟩ := hs.2.2.2 h0
        cases e
    subst h0
    have heq := fun w => Lib.run_eql_slice_nil (P := Tryz.prog) w 25 62 none n c 0 0 Tryz.underlying25
    clear hs hln hb0
    go_enter Tryz.func44, Tryz.ntmps44
    go_wp2_with fail
    go_ret
    exact ⟨_, rfl, Own.nil, Below.refl _ _⟩
  | some ad =>
    have heq := fun w => Lib.run_eql_slice_nil (P := Tryz.prog) w 25 62 (some ad) n c 0 0 Tryz.underlying25
    clear hs hln hb0
    go_enter Tryz.func44, Tryz.ntmps44
    go_wp2_with (at_builtin; refine wpList_concat (S := all_ (w.alloc (.cells #[] 62))) (xs := []) (ys := xs) (base := w.heap.size) flat_flight rfl _ _ rfl 104 elem_flight rfl (Own.made (Nat.le_refl _) (Nat.zero_le _) rfl) ad n c rfl (HS.out.next (HB0.out _)) ?c1 (by decide) ?c2 ?_)
    case c1 => have := HN.out; simp; omega
    case c2 => simp
    intro v' w1 hown hgr
    obtain ⟨A9, c9, rfl, hsl9⟩ := hown.sl
    have HOWN : Hid (Own Ty.flight 62 w1 w.heap.size (.slice A9 ([] ++ xs).length c9) xs) := hown
    have HFIN : Hid (Below w.heap.size w w1) := (HB0.out _).grown hgr (by simp) (fun k hk => by simp [Value.ownBlock] at hk; omega)
    clear hown hgr hsl9
    go_wp2_with fail
    go_ret
    exact ⟨_, rfl, HOWN.out, HFIN.out⟩
set_option maxRecDepth 100000 in
theorem cloneAirport_any (A : Option Addr) (n c : Nat) (xs : List GAirport) (w : World) (hs : Sl Ty.airport w (all_ w) A n c xs) (hn : xs.length ≤ 1000) :
    Calls Tryz.prog 76 #[.slice A n c] w (OwnPost Ty.airport 101 xs w) := by
  have hln := hs.len
  have HS := Lib.hid hs
  have hb0 : ∀ o, Below w.heap.size w (w.alloc o) := fun o => (Below.refl _ _).alloc (Nat.le_refl _) o
  have HB0 := Lib.hid hb0
  have HN := Lib.hid hln
  cases A with
  | none =>
    have h0 : xs = [] := by
      rcases Nat.eq_zero_or_pos n with h0 | h0
      · exact List.eq_nil_of_length_eq_zero (by omega)
      · obtain ⟨b, o, e, _⟩ := hs.2.2.2 h0
        cases e
    subst h0
    have heq := fun w => Lib.run_eql_slice_nil (P := Tryz.prog) w 24 101 none n c 0 0 Tryz.underlying24
    clear hs hln hb0
    go_enter Tryz.func76, Tryz.ntmps76
    go_wp2_with fail
    go_ret
    exact ⟨_, rfl, Own.nil, Below.refl _ _⟩
  | some ad =>
    have heq := fun w => Lib.run_eql_slice_nil (P := Tryz.prog) w 24 101 (some ad) n c 0 0 Tryz.underlying24
    clear hs hln hb0
    go_enter Tryz.func76, Tryz.ntmps76
    go_wp2_with (at_builtin; refine wpList_concat (S := all_ (w.alloc (.cells #[] 101))) (xs := []) (ys := xs) (base := w.heap.size) flat_airport rfl _ _ rfl 32 elem_airport rfl (Own.made (Nat.le_refl _) (Nat.zero_le _) rfl) ad n c rfl (HS.out.next (HB0.out _)) ?c1 (by decide) ?c2 ?_)
    case c1 => have := HN.out; simp; omega
    case c2 => simp
    intro v' w1 hown hgr
    obtain ⟨A9, c9, rfl, hsl9⟩ := hown.sl
    have HOWN : Hid (Own Ty.airport 101 w1 w.heap.size (.slice A9 ([] ++ xs).length c9) xs) := hown
    have HFIN : Hid (Below w.heap.size w w1) := (HB0.out _).grown hgr (by simp) (fun k hk => by simp [Value.ownBlock] at hk; omega)
    clear hown hgr hsl9
    go_wp2_with fail
    go_ret
    exact ⟨_, rfl, HOWN.out, HFIN.out⟩
set_option maxRecDepth 100000 in
theorem cloneShiftO_any (A : Option Addr) (n c : Nat) (xs : List GShift) (w : World) (hs : Sl Ty.shift w (all_ w) A n c xs) (hn : xs.length ≤ 1000) :
    Calls Tryz.prog 77 #[.slice A n c] w (OwnPost Ty.shift 122 xs w) := by
  have hln := hs.len
  have HS := Lib.hid hs
  have hb0 : ∀ o, Below w.heap.size w (w.alloc o) := fun o => (Below.refl _ _).alloc (Nat.le_refl _) o
  have HB0 := Lib.hid hb0
  have HN := Lib.hid hln
  cases A with
  | none =>
    have h0 : xs = [] := by
      rcases Nat.eq_zero_or_pos n with h0 | h0
      · exact List.eq_nil_of_length_eq_zero (by omega)
      · obtain ⟨b, o, e, _⟩ := hs.2.2.2 h0
        cases e
    subst h0
    have heq := fun w => Lib.run_eql_slice_nil (P := Tryz.prog) w 96 122 none n c 0 0 Tryz.underlying96
    clear hs hln hb0
    go_enter Tryz.func77, Tryz.ntmps77
    go_wp2_with fail
    go_ret
    exact ⟨_, rfl, Own.nil, Below.refl _ _⟩
  | some ad =>
    have heq := fun w => Lib.run_eql_slice_nil (P := Tryz.prog) w 96 122 (some ad) n c 0 0 Tryz.underlying96
    clear hs hln hb0
    go_enter Tryz.func77, Tryz.ntmps77
    go_wp2_with (at_builtin; refine wpList_concat (S := all_ (w.alloc (.cells #[] 122))) (xs := []) (ys := xs) (base := w.heap.size) flat_shift rfl _ _ rfl 16 elem_shift rfl (Own.made (Nat.le_refl _) (Nat.zero_le _) rfl) ad n c rfl (HS.out.next (HB0.out _)) ?c1 (by decide) ?c2 ?_)
    case c1 => have := HN.out; simp; omega
    case c2 => simp
    intro v' w1 hown hgr
    obtain ⟨A9, c9, rfl, hsl9⟩ := hown.sl
    have HOWN : Hid (Own Ty.shift 122 w1 w.heap.size (.slice A9 ([] ++ xs).length c9) xs) := hown
    have HFIN : Hid (Below w.heap.size w w1) := (HB0.out _).grown hgr (by simp) (fun k hk => by simp [Value.ownBlock] at hk; omega)
    clear hown hgr hsl9
    go_wp2_with fail
    go_ret
    exact ⟨_, rfl, HOWN.out, HFIN.out⟩
end Go.Proofs.YtifconapjfdkcaaGreatDoor
/-
  Contract of slices.Clone at zones: the cells are copied.
  Condition: the slice reads as a list.
-/
namespace Go.Proofs.YtifconapjfdkcaaGreatDoor
set_option linter.unusedSimpArgs false
set_option linter.unusedVariables false
open Go.RowKit

section
variable {α : Type} {t : Ty α} {w w' : World} {S : Nat → Prop} {n c : Nat}
/-- append of a slice to an empty row of the call's own: its cells. -/
theorem wpList_copy {P : Program} {ops : Array Oper} {rest : List Oper} {o : Oper} {a : Act} {Q : Exit → Act → World → Prop} {T e : TypeId} {v : Value} {base : Nat} {ys : List α} (hgd : o.guard = none) (s x : Operand)
    (ho : o.op = .call { callee := .builtin .append, args := #[s, x], argTypes := #[T, T] }) (bytes : Nat) (he : Elem P T e t.size bytes) (hs : a.eval s = v) (hown : Own t e w base v [])
    (ad : Addr) (m c : Nat) (hx : a.eval x = .slice (some ad) m c) (hy : Sl t w S (some ad) m c ys)
    (hlen : (0 + m) * bytes ≤ 140737488355328) (hpos : 0 < bytes) (hbase : base ≤ w.heap.size)
    (h : ∀ v' w' cs, RepAll t w S cs ys → w'.ownsRow base e t.size v' (0 + m) ([] ++ cs) → w.grownBy w' v.ownBlock → wpList P ops Q rest (a.put o.dst v') w') : wpList P ops Q (o :: rest) a w := by
  obtain ⟨i, z, hi, hz, h1, h2, h3⟩ := he.parts
  obtain ⟨cs, hown1, hown2⟩ := hown
  have hm := hy.len
  obtain ⟨c1, hr, hat, hone⟩ := hy.cells
  have h63 : 0 + m ≤ maxLen := by
    have := Nat.le_mul_of_pos_right (0 + m) hpos
    unfold maxLen
    omega
  have hcs : cs = [] := List.eq_nil_of_length_eq_zero (by rw [hown2.1]; simp)
  subst hcs
  refine wpList_append_own_at _ hgd s x T ho base e i z t.size bytes he.1 hi hz h1 h2 h3 t.pos v 0 [] hs hown1 ad m c c1 hx (by rw [hr.1, hm]) hat hone h63 hlen hbase ?_
  intro v' w' ho' hgr _ hv'
  exact h v' w' c1 hr ho' hgr
end
/-- The cells of a slice in a new row. -/
def CopyPost {α : Type} (t : Ty α) (el : TypeId) (S : Nat → Prop) (xs : List α) (w : World) (e : Ending) (w' : World) : Prop :=
  ∃ v cs, e = .returned v ∧ RepAll t w' S cs xs ∧ w'.ownsRow w.heap.size el t.size v xs.length cs ∧ Below w.heap.size w w'
set_option maxRecDepth 100000 in
theorem cloneZone_any (A : Option Addr) (n c : Nat) (xs : List GZone) (S : Nat → Prop) (w : World) (hs : Sl Ty.zone w S A n c xs) (hS : ∀ b, S b → b < w.heap.size) (hn : xs.length ≤ 1000) :
    Calls Tryz.prog 75 #[.slice A n c] w (CopyPost Ty.zone 98 S xs w) := by
  have hln := hs.len
  have HS := Lib.hid hs
  have hb0 : ∀ o, Below w.heap.size w (w.alloc o) := fun o => (Below.refl _ _).alloc (Nat.le_refl _) o
  have HB0 := Lib.hid hb0
  have HN := Lib.hid hln
  cases A with
  | none =>
    have h0 : xs = [] := by
      rcases Nat.eq_zero_or_pos n with h0 | h0
      · exact List.eq_nil_of_length_eq_zero (by omega)
      · obtain ⟨b, o, e, _⟩ := hs.2.2.2 h0
        cases e
    subst h0
    have heq := fun w => Lib.run_eql_slice_nil (P := Tryz.prog) w 23 98 none n c 0 0 Tryz.underlying23
    clear hs hln hb0
    go_enter Tryz.func75, Tryz.ntmps75
    go_wp2_with fail
    go_ret
    exact ⟨_, [], rfl, RepAll.nil _ _ _, World.ownsRow_nil _ _ _ _, Below.refl _ _⟩
  | some ad =>
    have heq := fun w => Lib.run_eql_slice_nil (P := Tryz.prog) w 23 98 (some ad) n c 0 0 Tryz.underlying23
    clear hs hln hb0
    go_enter Tryz.func75, Tryz.ntmps75
    go_wp2_with (at_builtin; refine wpList_copy (S := S) (t := Ty.zone) (ys := xs) (base := w.heap.size) rfl _ _ rfl 48 elem_zone rfl (Own.made (Nat.le_refl _) (Nat.zero_le _) rfl) ad n c rfl (HS.out.keep fun b hb => (HB0.out _).block b (hS b hb)) ?c1 (by decide) ?c2 ?_)
    case c1 => have := HN.out; omega
    case c2 => simp
    intro v' w1 cs hrep hown hgr
    have hlo := hown.lt
    have HREP : Hid (RepAll Ty.zone w1 S cs xs) := hrep.keep (fun b hb => hgr.block b (Nat.lt_of_lt_of_le (hS b hb) (HB0.out _).size) (fun e => by simp [Value.ownBlock] at e; have : b < w.heap.size := hS b hb; omega)) (fun _ h => h)
    have HOWN : Hid (w1.ownsRow w.heap.size 98 3 v' xs.length cs) := by
      have e : n = xs.length := HN.out
      have h2 : w1.ownsRow w.heap.size 98 3 v' n cs := hown
      rw [e] at h2
      exact h2
    have HFIN : Hid (Below w.heap.size w w1) := (HB0.out _).grown hgr (by simp) (fun k hk => by simp [Value.ownBlock] at hk; omega)
    clear hown hgr hrep hlo
    go_wp2_with fail
    go_ret
    exact ⟨_, cs, rfl, HREP.out, HOWN.out, HFIN.out⟩
end Go.Proofs.YtifconapjfdkcaaGreatDoor
/-
  Rows of the call's own whose elements hold slices: a row of zones; one cell of a row written.
  No condition.
-/
namespace Go.Proofs.YtifconapjfdkcaaGreatDoor
set_option linter.unusedSimpArgs false
set_option linter.unusedVariables false
open Go.RowKit

theorem place_eq {i k sz j q : Nat} (hj : j < sz) (hq : q < sz) (h : k * sz + j = i * sz + q) : k = i ∧ j = q := by
  have h1 : (k * sz + j) / sz = k := by rw [Nat.add_comm, Nat.add_mul_div_right _ _ (by omega), Nat.div_eq_of_lt hj, Nat.zero_add]
  have h2 : (i * sz + q) / sz = i := by rw [Nat.add_comm, Nat.add_mul_div_right _ _ (by omega), Nat.div_eq_of_lt hq, Nat.zero_add]
  have : k = i := by rw [← h1, h, h2]
  subst this
  exact ⟨rfl, by omega⟩
theorem chunk_set (cs : List Value) (i k sz j : Nat) (hj : j < sz) (v : Value) : ((cs.set (k * sz + j) v).drop (i * sz)).take sz = if i = k then ((cs.drop (k * sz)).take sz).set j v else (cs.drop (i * sz)).take sz := by
  apply List.ext_getElem?
  intro q
  by_cases hq : q < sz
  · rw [List.getElem?_take_of_lt hq, List.getElem?_drop, List.getElem?_set]
    by_cases hik : i = k
    · subst hik
      rw [if_pos rfl, List.getElem?_set, List.length_take, List.length_drop]
      by_cases hjq : j = q
      · subst hjq
        rw [if_pos rfl, if_pos rfl]
        by_cases hl : i * sz + j < cs.length
        · rw [if_pos hl, if_pos (by omega)]
        · rw [if_neg hl, if_neg (by omega)]
      · rw [if_neg (by omega), if_neg hjq, List.getElem?_take_of_lt hq, List.getElem?_drop]
    · rw [if_neg hik, if_neg (fun e => hik (place_eq hj hq e).1.symm), List.getElem?_take_of_lt hq, List.getElem?_drop]
  · rw [List.getElem?_take_eq_none (by omega)]
    split
    · rw [List.getElem?_set_ne (by omega), List.getElem?_take_eq_none (by omega)]
    · rw [List.getElem?_take_eq_none (by omega)]
/-- A row of the call's own; what its elements reach lies in S. -/
def OwnS {α : Type} (t : Ty α) (el : TypeId) (w : World) (S : Nat → Prop) (base : Nat) (v : Value) (xs : List α) : Prop := ∃ cs, w.ownsRow base el t.size v xs.length cs ∧ RepAll t w S cs xs
section
variable {α : Type} {t : Ty α} {el : TypeId} {w w' : World} {S S' : Nat → Prop} {base : Nat} {v : Value} {xs : List α}
theorem OwnS.lt (h : OwnS t el w S base v xs) : ∀ k, v.ownBlock = some k → base ≤ k ∧ k < w.heap.size := by
  obtain ⟨cs, h1, _⟩ := h
  exact h1.lt
theorem OwnS.keep (h : OwnS t el w S base v xs) (hs : w.heap.size ≤ w'.heap.size) (ho : ∀ k, v.ownBlock = some k → w'.heap[k]? = w.heap[k]?) (hk : ∀ b, S b → w'.heap[b]? = w.heap[b]?) : OwnS t el w' S base v xs := by
  obtain ⟨cs, h1, h2⟩ := h
  refine ⟨cs, ⟨h1.1, ?_⟩, h2.keep hk fun _ h => h⟩
  rcases h1.2 with h3 | ⟨g, cap, cur, hv, hg, hb, r⟩
  · exact .inl h3
  · exact .inr ⟨g, cap, cur, hv, hg, (ho g (by rw [hv]; rfl)).trans hb, r⟩
theorem OwnS.next (h : OwnS t el w S base v xs) (hb : Below w.heap.size w w') (hS : ∀ b, S b → b < w.heap.size) : OwnS t el w' S base v xs :=
  h.keep hb.size (fun k hk => hb.block k (h.lt k hk).2) fun b hb' => hb.block b (hS b hb')
theorem OwnS.more (h : OwnS t el w S base v xs) (hm : ∀ b, S b → S' b) : OwnS t el w S' base v xs := by
  obtain ⟨cs, h1, h2⟩ := h
  exact ⟨cs, h1, h2.keep (fun _ _ => rfl) hm⟩
theorem OwnS.sl (h : OwnS t el w S base v xs) : ∃ A c, v = .slice A xs.length c ∧ Sl t w (fun b => S b ∨ v.ownBlock = some b) A xs.length c xs := by
  obtain ⟨cs, h1, h2⟩ := h
  rcases h1.2 with ⟨rfl, h0⟩ | ⟨g, cap, cur, rfl, hg, hb, hnc, hm, hsz, htk⟩
  · rw [h0]
    have : xs = [] := List.eq_nil_of_length_eq_zero h0
    subst this
    exact ⟨none, 0, rfl, Sl.nil0⟩
  · refine ⟨_, _, rfl, rfl, hnc, hm, fun _ => ⟨g, 0, rfl, .inr rfl, fun i x hi => ⟨_, t.more (h2.2 i x hi) fun b hb => .inl hb, fun j u hu => ?_⟩⟩⟩
    rw [block_cell hb, Nat.zero_add]
    have hlt := (List.getElem?_eq_some_iff.1 hi).1
    rw [List.getElem?_take] at hu
    split at hu
    · rename_i hj
      rw [List.getElem?_drop, ← htk] at hu
      rw [List.getElem?_take] at hu
      split at hu
      · rw [← Array.getElem?_toList]; exact hu
      · cases hu
    · cases hu
/-- A cell written. -/
theorem OwnS.setAt {g n c : Nat} (h : OwnS t el w S base (.slice (some ⟨g, 0, none⟩) n c) xs) {k j : Nat} (hk : k < xs.length) (hj : j < t.size) {u : Value} {y : α} (hg : ¬ S g) (hy : ∀ cs, t.rep w S cs (xs.getD k y) → t.rep w S (cs.set j u) y) :
    OwnS t el (w.setCell ⟨g, k * t.size + j, none⟩ u) S base (.slice (some ⟨g, 0, none⟩) n c) (xs.set k y) := by
  obtain ⟨cs, h1, h2⟩ := h
  have hkeep : ∀ b, S b → (w.setCell ⟨g, k * t.size + j, none⟩ u).heap[b]? = w.heap[b]? := fun b hb => heap_setCell_other _ _ _ _ fun e => hg (by rw [← show b = g from e]; exact hb)
  rcases h1.2 with ⟨h0, _⟩ | ⟨g2, cap, cur, hv, hgb, hb, hnc, hm, hsz, htk⟩
  · cases h0
  · cases hv
    have hl := h2.1
    refine ⟨cs.set (k * t.size + j) u, ⟨by rw [List.length_set, h1.1, List.length_set], .inr ⟨_, _, _, by rw [List.length_set], hgb, heap_setCell_same _ _ _ _ _ _ hb, by rw [List.length_set]; exact hnc, hm, by rw [Array.size_setIfInBounds]; exact hsz, ?_⟩⟩, ?_, fun i x hi => ?_⟩
    · rw [List.length_set, Array.toList_setIfInBounds, List.take_set, htk]
    · rw [List.length_set, List.length_set]; exact hl
    · rw [chunk_set cs i k t.size j hj u]
      rw [List.getElem?_set] at hi
      by_cases hik : i = k
      · subst hik
        rw [if_pos rfl, if_pos hk] at hi
        injection hi with hi
        subst hi
        rw [if_pos rfl]
        have h3 := h2.2 i _ (List.getElem?_eq_getElem hk)
        have e : xs[i] = xs.getD i y := by rw [List.getD_eq_getElem?_getD, List.getElem?_eq_getElem hk]; rfl
        rw [e] at h3
        exact t.keep (hy _ h3) hkeep
      · rw [if_neg (fun e => hik e.symm)] at hi
        rw [if_neg hik]
        exact t.keep (h2.2 i x hi) hkeep
end
end Go.Proofs.YtifconapjfdkcaaGreatDoor
/-
  Contract of incident.copyPlaces.
  Condition: the zones, airports and shifts are few.
-/
namespace Go.Proofs.YtifconapjfdkcaaGreatDoor
set_option linter.unusedSimpArgs false
set_option linter.unusedVariables false
open Go.RowKit

theorem owns_lower {w : World} {base base' : Nat} {e : TypeId} {sz n : Nat} {v : Value} {xs : List Value} (h : w.ownsRow base e sz v n xs) (hb : base' ≤ base) : w.ownsRow base' e sz v n xs := by
  refine ⟨h.1, ?_⟩
  rcases h.2 with h3 | ⟨g, cap, cur, hv, hg, r⟩
  · exact .inl h3
  · exact .inr ⟨g, cap, cur, hv, Nat.le_trans hb hg, r⟩
theorem Own.flatC {α : Type} {t : Ty α} {e : TypeId} {w w' : World} {base : Nat} {v : Value} {xs : List α} (ht : t.Flat) (h : Own t e w base v xs) (hk : ∀ b, v.ownBlock = some b → w'.heap[b]? = w.heap[b]?) : Own t e w' base v xs := by
  obtain ⟨cs, h1, h2⟩ := h
  refine ⟨cs, ⟨h1.1, ?_⟩, h2.1, fun i x hi => ht (h2.2 i x hi)⟩
  rcases h1.2 with h3 | ⟨g, cap, cur, hv, hg, hb, r⟩
  · exact .inl h3
  · exact .inr ⟨g, cap, cur, hv, hg, (hk g (by rw [hv]; rfl)).trans hb, r⟩
theorem OwnS.block {α : Type} {t : Ty α} {el : TypeId} {w : World} {S : Nat → Prop} {base : Nat} {v : Value} {xs : List α} (h : OwnS t el w S base v xs) {k : Nat} (hk : v.ownBlock = some k) : ∃ cur, w.heap[k]? = some (.cells cur el (0, 0)) := by
  obtain ⟨cs, h1, _⟩ := h
  rcases h1.2 with ⟨rfl, _⟩ | ⟨g, cap, cur, rfl, hg, hb, r⟩
  · cases hk
  · injection hk with hk
    subst hk
    exact ⟨cur, hb⟩
theorem Own.block {α : Type} {t : Ty α} {el : TypeId} {w : World} {base : Nat} {v : Value} {xs : List α} (h : Own t el w base v xs) {k : Nat} (hk : v.ownBlock = some k) : ∃ cur, w.heap[k]? = some (.cells cur el (0, 0)) := by
  obtain ⟨cs, h1, _⟩ := h
  rcases h1.2 with ⟨rfl, _⟩ | ⟨g, cap, cur, rfl, hg, hb, r⟩
  · cases hk
  · injection hk with hk
    subst hk
    exact ⟨cur, hb⟩
/-- What each operation of the loop's region leaves in its slot. -/
def cqF (tb zb wh : Nat) (sl : Value) (k : Nat) (B : Option Addr) (m c : Nat) (shs : List GShift) : Nat → Value → World → Prop
  | 0, v, _ => v = .pointer (some ⟨tb, 0, none⟩)
  | 1, v, _ => v = sl
  | 2, v, _ => v = .int .i64 k
  | 3, v, _ => v = .pointer (some ⟨tb, 0, none⟩)
  | 4, v, _ => v = sl
  | 5, v, _ => v = .int .i64 k
  | 6, v, _ => v = .pointer (some ⟨zb, k * 3, none⟩)
  | 7, v, _ => v = .pointer (some ⟨zb, k * 3 + 2, none⟩)
  | 8, v, _ => v = .slice B m c
  | 9, v, w => ∃ A c, v = .slice A shs.length c ∧ Own Ty.shift 122 w wh v shs
  | 10, v, _ => v = .pointer (some ⟨zb, k * 3, none⟩)
  | 11, v, _ => v = .pointer (some ⟨zb, k * 3 + 2, none⟩)
  | _, _, _ => True
theorem cqF_keep {tb zb wh : Nat} {sl : Value} {kk : Nat} {B : Option Addr} {m c : Nat} {shs : List GShift} : ∀ (k : Nat) (v : Value) (w w' : World), cqF tb zb wh sl kk B m c shs k v w → Below w.heap.size w w' → cqF tb zb wh sl kk B m c shs k v w' := by
  intro k v w w' h hb
  unfold cqF at h ⊢
  split at h <;> try exact h
  obtain ⟨A, c, e, ho⟩ := h; exact ⟨A, c, e, ho.next hb⟩
/-- What each operation of the first region leaves in its slot. -/
def cpF (b0 wh : Nat) (A1 A2 : Option Addr) (n1 c1 n2 c2 : Nat) (t : GTT) : Nat → Value → World → Prop
  | 0, v, _ => v = .pointer (some ⟨b0, 0, none⟩)
  | 1, v, _ => v = .slice A1 n1 c1
  | 2, v, w => ∃ A c, v = .slice A t.zones.length c ∧ b0 ≤ w.heap.size ∧ OwnS Ty.zone 98 w (fun b => b < b0) wh v t.zones
  | 3, v, _ => v = .pointer (some ⟨b0, 1, none⟩)
  | 4, v, _ => v = .slice A2 n2 c2
  | 5, v, w => ∃ A c, v = .slice A t.airports.length c ∧ Own Ty.airport 101 w wh v t.airports
  | 6, v, w => ∃ A c B d, v = .agg #[.slice A t.zones.length c, .slice B t.airports.length d, .slice none 0 0] ∧ b0 ≤ w.heap.size ∧ OwnS Ty.zone 98 w (fun b => b < b0) wh (.slice A t.zones.length c) t.zones ∧ Own Ty.airport 101 w wh (.slice B t.airports.length d) t.airports
  | 7, v, w => ∃ b, v = .pointer (some ⟨b, 0, none⟩) ∧ wh ≤ b ∧ w.heap[b]? = some (.cells #[.slice none 0 0, .slice none 0 0, .slice none 0 0] 27 (0, 0))
  | _, _, _ => True
theorem cpF_keep {b0 wh : Nat} {A1 A2 : Option Addr} {n1 c1 n2 c2 : Nat} {t : GTT} : ∀ (k : Nat) (v : Value) (w w' : World), cpF b0 wh A1 A2 n1 c1 n2 c2 t k v w → Below w.heap.size w w' → cpF b0 wh A1 A2 n1 c1 n2 c2 t k v w' := by
  intro k v w w' h hb
  unfold cpF at h ⊢
  split at h <;> try exact h
  · obtain ⟨A, c, e, hz, ho⟩ := h; exact ⟨A, c, e, Nat.le_trans hz hb.size, ho.next hb fun b hb => Nat.lt_of_lt_of_le hb hz⟩
  · obtain ⟨A, c, e, ho⟩ := h; exact ⟨A, c, e, ho.next hb⟩
  · obtain ⟨A, c, B, d, e, hz, h1, h2⟩ := h; exact ⟨A, c, B, d, e, Nat.le_trans hz hb.size, h1.next hb fun b hb => Nat.lt_of_lt_of_le hb hz, h2.next hb⟩
  · obtain ⟨b, e, h1, h2⟩ := h; exact ⟨b, e, h1, (hb.block b (Array.getElem?_eq_some_iff.1 h2).1).trans h2⟩
/-- New places: the zones, the airports; no flights. -/
def PlacesPost (t : GTT) (w : World) (e : Ending) (w' : World) : Prop :=
  ∃ A c B d, e = .returned (.agg #[.slice A t.zones.length c, .slice B t.airports.length d, .slice none 0 0]) ∧ Sl Ty.zone w' (fun b => b < w'.heap.size) A t.zones.length c t.zones ∧ Sl Ty.airport w' (fun b => b < w'.heap.size) B t.airports.length d t.airports ∧ Below w.heap.size w w'
set_option maxRecDepth 100000 in
set_option maxHeartbeats 1600000 in
theorem copyPlaces_any (t : GTT) (A1 A2 A3 : Option Addr) (n1 n2 n3 c1 c2 c3 : Nat) (w : World) (hs1 : Sl Ty.zone w (all_ w) A1 n1 c1 t.zones) (hs2 : Sl Ty.airport w (all_ w) A2 n2 c2 t.airports)
    (h1 : t.zones.length ≤ 1000) (h2 : t.airports.length ≤ 1000) (h3 : ∀ z ∈ t.zones, z.shifts.length ≤ 1000) :
    Calls Tryz.prog 45 #[.agg #[.slice A1 n1 c1, .slice A2 n2 c2, .slice A3 n3 c3]] w (PlacesPost t w) := by
  have HS1 : Hid (∀ V, Below w.heap.size w V → Sl Ty.zone V (all_ w) A1 n1 c1 t.zones) := fun V hV => hs1.keep (all_keep hV)
  have HS2 : Hid (∀ V, Below w.heap.size w V → Sl Ty.airport V (all_ w) A2 n2 c2 t.airports) := fun V hV => hs2.keep (all_keep hV)
  have H1 := Lib.hid h1; have H2 := Lib.hid h2; have H3 := Lib.hid h3
  have HB0 : Hid (∀ o p, Below w.heap.size w ((w.alloc o).alloc p)) := fun o p => ((Below.refl _ _).alloc (Nat.le_refl _) o).alloc (by simp) p
  have HR0 : Hid (∀ o p, ((w.alloc o).alloc p).heap[w.heap.size]? = some o) := fun o p => heap_alloc2_old _ _ _
  have HR1 : Hid (∀ o p, ((w.alloc o).alloc p).heap[w.heap.size + 1]? = some p) := fun o p => heap_alloc2_new _ _ _
  have HZ0 : Hid (∀ o p, ((w.alloc o).alloc p).heap.size = w.heap.size + 2) := fun o p => by simp
  clear hs1 hs2 h1 h2 h3
  go_enter Tryz.func45, Tryz.ntmps45
  go_wp2_with fail
  have hbw := HB0.out (.cells #[.slice A1 n1 c1, .slice A2 n2 c2, .slice A3 n3 c3] 27) (.cells #[.slice none 0 0, .slice none 0 0, .slice none 0 0] 27)
  have hr0 := HR0.out (.cells #[.slice A1 n1 c1, .slice A2 n2 c2, .slice A3 n3 c3] 27) (.cells #[.slice none 0 0, .slice none 0 0, .slice none 0 0] 27)
  have hr1 := HR1.out (.cells #[.slice A1 n1 c1, .slice A2 n2 c2, .slice A3 n3 c3] 27) (.cells #[.slice none 0 0, .slice none 0 0, .slice none 0 0] 27)
  have hz0 := HZ0.out (.cells #[.slice A1 n1 c1, .slice A2 n2 c2, .slice A3 n3 c3] 27) (.cells #[.slice none 0 0, .slice none 0 0, .slice none 0 0] 27)
  generalize (w.alloc (.cells #[.slice A1 n1 c1, .slice A2 n2 c2, .slice A3 n3 c3] 27)).alloc (.cells #[.slice none 0 0, .slice none 0 0, .slice none 0 0] 27) = W at *
  have HBW := Lib.hid hbw; have HRA := Lib.hid hr0; have HRB := Lib.hid hr1; have HZW := Lib.hid hz0
  clear HB0 HR0 HR1 HZ0 hbw hr0 hr1 hz0
  refine wp_region_facts 8 [5, 6, 7, 8, 9, 10, 11, 3] (cpF w.heap.size W.heap.size A1 A2 n1 c1 n2 c2 t) (by kernel_rfl) (by kernel_rfl) (by kernel_rfl) (by kernel_rfl) (by kernel_rfl) cpF_keep ?_ ?_
  · intro q o hq ho a' w' hb' hout hpre K hK
    have hq' : q = 0 ∨ q = 1 ∨ q = 2 ∨ q = 3 ∨ q = 4 ∨ q = 5 ∨ q = 6 ∨ q = 7 := by omega
    have hzz := HZW.out
    have hww : Below w.heap.size w w' := HBW.out.trans (hb'.mono (by omega))
    rcases hq' with rfl | rfl | rfl | rfl | rfl | rfl | rfl | rfl
    · obtain rfl := Option.some.inj ho
      have e1 : a'.tmps[1]? = some (.pointer (some ⟨w.heap.size, 0, none⟩)) := hout 1 (by decide)
      go_simp
      exact hK _ w' rfl (Below.refl _ _)
    · obtain rfl := Option.some.inj ho
      have p0 : a'.tmps.getD 5 undef = .pointer (some ⟨w.heap.size, 0, none⟩) := hpre ⟨0, .data⟩ (by simp) 5 rfl
      simp only [Array.getD_eq_getD_getElem?] at p0
      have y0 : w'.cell? ⟨w.heap.size, 0, none⟩ = some (.slice A1 n1 c1) := (cell_of_same (a := ⟨w.heap.size, 0, none⟩) (hb'.block _ (show w.heap.size < W.heap.size by omega))).trans (block_cell HRA.out 0)
      go_simp
      exact hK _ w' rfl (Below.refl _ _)
    · obtain rfl := Option.some.inj ho
      have p1 : a'.tmps.getD 6 undef = .slice A1 n1 c1 := hpre ⟨1, .data⟩ (by simp) 6 rfl
      simp only [Array.getD_eq_getD_getElem?] at p1
      have HC := Lib.hid (cloneZone_any A1 n1 c1 t.zones (fun b => b < w.heap.size) w' (HS1.out w' hww) (fun b hb => Nat.lt_of_lt_of_le hb hww.size) H1.out)
      go_simp
      refine HC.out.mono ?_
      rintro e w2 ⟨v, cs, rfl, hrep, hown, hbl⟩
      have hos : OwnS Ty.zone 98 w2 (fun b => b < w.heap.size) W.heap.size v t.zones := ⟨cs, owns_lower hown hb'.size, hrep⟩
      obtain ⟨A, c, rfl, -⟩ := hos.sl
      exact hK _ w2 ⟨A, c, rfl, Nat.le_trans hww.size hbl.size, hos⟩ hbl
    · obtain rfl := Option.some.inj ho
      have e1 : a'.tmps[1]? = some (.pointer (some ⟨w.heap.size, 0, none⟩)) := hout 1 (by decide)
      go_simp
      exact hK _ w' rfl (Below.refl _ _)
    · obtain rfl := Option.some.inj ho
      have p0 : a'.tmps.getD 8 undef = .pointer (some ⟨w.heap.size, 1, none⟩) := hpre ⟨3, .data⟩ (by simp) 8 rfl
      simp only [Array.getD_eq_getD_getElem?] at p0
      have y0 : w'.cell? ⟨w.heap.size, 1, none⟩ = some (.slice A2 n2 c2) := (cell_of_same (a := ⟨w.heap.size, 1, none⟩) (hb'.block _ (show w.heap.size < W.heap.size by omega))).trans (block_cell HRA.out 1)
      go_simp
      exact hK _ w' rfl (Below.refl _ _)
    · obtain rfl := Option.some.inj ho
      have p1 : a'.tmps.getD 9 undef = .slice A2 n2 c2 := hpre ⟨4, .data⟩ (by simp) 9 rfl
      simp only [Array.getD_eq_getD_getElem?] at p1
      have HC := Lib.hid (cloneAirport_any A2 n2 c2 t.airports w' ((HS2.out w' hww).more fun b hb => Nat.lt_of_lt_of_le hb hww.size) H2.out)
      go_simp
      refine HC.out.mono ?_
      rintro e w2 ⟨v, rfl, hown, hbl⟩
      have hos : Own Ty.airport 101 w2 W.heap.size v t.airports := hown.lower hb'.size
      obtain ⟨A, c, rfl, -⟩ := hos.sl
      exact hK _ w2 ⟨A, c, rfl, hos⟩ hbl
    · obtain rfl := Option.some.inj ho
      have p1 := hpre ⟨2, .data⟩ (by simp) 7 rfl
      have p2 := hpre ⟨5, .data⟩ (by simp) 10 rfl
      simp only [Array.getD_eq_getD_getElem?] at p1 p2
      obtain ⟨A, c, p1, hz1, h1⟩ := p1
      obtain ⟨B, d, p2, h2⟩ := p2
      rw [p1] at h1
      rw [p2] at h2
      have HH1 := Lib.hid h1; have HH2 := Lib.hid h2
      clear h1 h2
      go_simp
      exact hK _ w' ⟨A, c, B, d, rfl, hz1, HH1.out, HH2.out⟩ (Below.refl _ _)
    · obtain rfl := Option.some.inj ho
      go_simp
      exact hK _ _ ⟨w'.heap.size, rfl, hb'.size, heap_alloc_new _ _⟩ ((Below.refl _ _).alloc (Nat.le_refl _) _)
  · intro us w' hb' hfacts
    obtain ⟨A, c, B, d, h6, hz6, hzo, hao⟩ := hfacts 6 (by decide)
    obtain ⟨tb, h7, htb, htc⟩ := hfacts 7 (by decide)
    clear hfacts
    simp only [putL, Act.put, List.setIfInBounds_toArray, List.set_cons_zero, List.set_cons_succ]
    generalize us 7 = x7 at *
    generalize us 6 = x6 at *
    subst h6 h7
    simp only [List.drop_succ_cons, List.drop_zero]
    have hzz := HZW.out
    have hbz : ∀ k, Value.ownBlock (.slice A t.zones.length c) = some k → k ≠ tb := fun k hk e => by
      obtain ⟨cur, hc⟩ := hzo.block hk
      rw [e, htc] at hc
      cases hc
    have hba : ∀ k, Value.ownBlock (.slice B t.airports.length d) = some k → k ≠ tb := fun k hk e => by
      obtain ⟨cur, hc⟩ := hao.block hk
      rw [e, htc] at hc
      cases hc
    have htl : tb < w'.heap.size := (Array.getElem?_eq_some_iff.1 htc).1
    have key : ∀ V : World, V.heap.size = w'.heap.size → (∀ k, k ≠ tb → V.heap[k]? = w'.heap[k]?) → OwnS Ty.zone 98 V (fun b => b < w.heap.size ∨ (w'.heap.size ≤ b ∧ b < V.heap.size)) W.heap.size (.slice A t.zones.length c) t.zones ∧ Own Ty.airport 101 V W.heap.size (.slice B t.airports.length d) t.airports ∧
        V.heap[w.heap.size + 1]? = some (.cells #[.slice none 0 0, .slice none 0 0, .slice none 0 0] 27 (0, 0)) := fun V hs hk => by
      refine ⟨(hzo.keep (by omega) (fun k h => hk k (hbz k h)) fun b hb => hk b (by have : b < w.heap.size := hb; omega)).more fun b hb => .inl hb, ?_, ?_⟩
      · exact hao.flatC flat_airport fun k h => hk k (hba k h)
      · rw [hk _ (by omega), hb'.block _ (by omega)]
        exact HRB.out
    have HB3 : Hid (∀ a b c, Below W.heap.size W (((w'.setCell ⟨tb, 0, none⟩ a).setCell ⟨tb, 1, none⟩ b).setCell ⟨tb, 2, none⟩ c)) := fun a b c => ((hb'.setCell htb _).setCell htb _).setCell htb _
    have HT3 : Hid ((((w'.setCell ⟨tb, 0, none⟩ (.slice A t.zones.length c)).setCell ⟨tb, 1, none⟩ (.slice B t.airports.length d)).setCell ⟨tb, 2, none⟩ (.slice none 0 0)).heap[tb]? = some (.cells #[.slice A t.zones.length c, .slice B t.airports.length d, .slice none 0 0] 27 (0, 0))) := by
      have := heap_setCell_same _ tb 2 _ _ (.slice none 0 0) (heap_setCell_same _ tb 1 _ _ (.slice B t.airports.length d) (heap_setCell_same w' tb 0 _ _ (.slice A t.zones.length c) htc))
      show _ = _
      simpa using this
    have KEY := Lib.hid (key (((w'.setCell ⟨tb, 0, none⟩ (.slice A t.zones.length c)).setCell ⟨tb, 1, none⟩ (.slice B t.airports.length d)).setCell ⟨tb, 2, none⟩ (.slice none 0 0)) (by simp) fun k hk => by
      rw [heap_setCell_other _ _ _ _ hk, heap_setCell_other _ _ _ _ hk, heap_setCell_other _ _ _ _ hk])
    have HSZ : Hid ((((w'.setCell ⟨tb, 0, none⟩ (.slice A t.zones.length c)).setCell ⟨tb, 1, none⟩ (.slice B t.airports.length d)).setCell ⟨tb, 2, none⟩ (.slice none 0 0)).heap.size = w'.heap.size) := by
      show _ = _
      simp
    have y0 := block_cell htc 0; have y1 := block_cell htc 1; have y2 := block_cell htc 2
    have f0 := block_free htc 0; have f1 := block_free htc 1; have f2 := block_free htc 2
    have HZK : Hid (t.zones.length = t.zones.length) := rfl
    clear key hbz hba hzo hao
    go_wp2_with fail
    have hb3 := HB3.out (.slice A t.zones.length c) (.slice B t.airports.length d) (.slice none 0 0)
    have ht3 := HT3.out; have key3 := KEY.out; have hsz3 := HSZ.out
    clear HB3 HT3 KEY HSZ y0 y1 y2 f0 f1 f2
    generalize ((w'.setCell ⟨tb, 0, none⟩ (.slice A t.zones.length c)).setCell ⟨tb, 1, none⟩ (.slice B t.airports.length d)).setCell ⟨tb, 2, none⟩ (.slice none 0 0) = w3 at *
    have h0 := block_cell ht3 0
    have H0 := Lib.hid hb3; have HT := Lib.hid ht3; have HK := Lib.hid key3; have HSS := Lib.hid hsz3
    clear hb3 ht3 key3 hsz3
    have HZL : Hid (w'.heap.size = w3.heap.size) := HSS.out.symm
    have HWL : Hid (W.heap.size ≤ w'.heap.size ∧ tb < w'.heap.size) := ⟨hb'.size, htl⟩
    clear hb' htc hz6 hzz
    generalize w'.heap.size = wl at *
    go_loopw [4, 15] (fun _ s wr => ∃ k : Nat, k ≤ t.zones.length ∧ s = .int .i64 k ∧ Below W.heap.size W wr ∧ wl ≤ wr.heap.size ∧ wr.heap[tb]? = some (.cells #[.slice A t.zones.length c, .slice B t.airports.length d, .slice none 0 0] 27 (0, 0)) ∧
      OwnS Ty.zone 98 wr (fun b => b < w.heap.size ∨ (wl ≤ b ∧ b < wr.heap.size)) W.heap.size (.slice A t.zones.length c) t.zones ∧ Own Ty.airport 101 wr W.heap.size (.slice B t.airports.length d) t.airports ∧
      wr.heap[w.heap.size + 1]? = some (.cells #[.slice none 0 0, .slice none 0 0, .slice none 0 0] 27 (0, 0)) ∧ (∀ k, Value.ownBlock (.slice A t.zones.length c) = some k → k < wl)) (fun _ s _ => t.zones.length - (intOf s).toNat)
    case atStart => exact ⟨0, Nat.zero_le _, rfl, H0.out, by rw [HZL.out]; exact Nat.le_refl _, HT.out, HK.out.1, HK.out.2.1, HK.out.2.2, fun k hk => by have := (HK.out.1.lt k hk).2; rw [← HZL.out] at this; exact this⟩
    case round =>
      obtain ⟨k, hk, rfl, hbr, hzr, htr, hzo, hao, hres, hob⟩ := hrel
      clear H0 HT HK HSS h0
      have hzz := HZW.out
      by_cases hlt : k < t.zones.length
      · obtain ⟨A0, c0, e0, hsl⟩ := hzo.sl
        cases e0
        obtain ⟨zb, o, A', n', c', e1, hS, z0, z1, z2, hsh⟩ := hsl.zone_at hlt
        have hA : A = some ⟨zb, 0, none⟩ ∧ o = 0 := by
          obtain ⟨cs, hr, _⟩ := hzo
          rcases hr.2 with ⟨h0, h1⟩ | ⟨g, cap, cur, hv, _⟩
          · omega
          · rw [e1] at hv
            cases hv
            exact ⟨e1, rfl⟩
        obtain ⟨rfl, rfl⟩ := hA
        rw [Nat.zero_add] at z0 z1 z2
        have hzb : W.heap.size ≤ zb ∧ zb < wl := ⟨(hzo.lt zb rfl).1, hob zb rfl⟩
        have hml : (t.zones.getD k noZone).shifts.length ≤ 1000 := H3.out _ (by rw [List.getD_eq_getElem?_getD, List.getElem?_eq_getElem hlt]; exact List.getElem_mem hlt)
        generalize hshs : (t.zones.getD k noZone).shifts = shs at *
        have HSHS := Lib.hid hshs
        clear hshs
        have htz : tb ≠ zb := fun e => by
          obtain ⟨cur, hc⟩ := hzo.block (k := zb) rfl
          rw [← e, htr] at hc
          cases hc
        have HBR := Lib.hid hbr; have HTR := Lib.hid htr; have HZO := Lib.hid hzo; have HAO := Lib.hid hao; have HRS := Lib.hid hres; have HSH := Lib.hid hsh; have HZ2 := Lib.hid z2; have HOB := Lib.hid hob
        clear hbr htr hzo hao hres hsl hsh z0 z1 z2 hob e1
        have hrl : wl ≤ wr.heap.size := hzr
        go_wp2_with fail
        refine wp_region_factsB 12 [18, 19, 20, 21, 22, 23, 24, 25, 26, 27, 28, 29] (cqF tb zb wr.heap.size (.slice (some ⟨zb, 0, none⟩) t.zones.length c) k A' n' c' shs) (by kernel_rfl) (by kernel_rfl) (by kernel_rfl) (by kernel_rfl) (by kernel_rfl) cqF_keep ?_ ?_
        · intro q o hq ho a' w5 hb5 hout hpre K hK
          have hq' : q = 0 ∨ q = 1 ∨ q = 2 ∨ q = 3 ∨ q = 4 ∨ q = 5 ∨ q = 6 ∨ q = 7 ∨ q = 8 ∨ q = 9 ∨ q = 10 ∨ q = 11 := by omega
          have hwt := HWL.out
          have y0 : w5.cell? ⟨tb, 0, none⟩ = some (.slice (some ⟨zb, 0, none⟩) t.zones.length c) := (cell_of_same (a := ⟨tb, 0, none⟩) (hb5.block _ (show tb < wr.heap.size by omega))).trans (block_cell HTR.out 0)
          have y2 : w5.cell? ⟨zb, k * 3 + 2, none⟩ = some (.slice A' n' c') := (cell_of_same (a := ⟨zb, k * 3 + 2, none⟩) (hb5.block _ (show zb < wr.heap.size by omega))).trans HZ2.out
          have hk0 : (0 : Int) ≤ (k : Int) := by omega
          have hk1 : (k : Int) < (t.zones.length : Int) := by omega
          rcases hq' with rfl | rfl | rfl | rfl | rfl | rfl | rfl | rfl | rfl | rfl | rfl | rfl
          · obtain rfl := Option.some.inj ho
            have e1 : a'.tmps[3]? = some (.pointer (some ⟨tb, 0, none⟩)) := hout 3 (by decide)
            go_simp
            exact hK _ w5 rfl (Below.refl _ _)
          · obtain rfl := Option.some.inj ho
            have p0 : a'.tmps.getD 18 undef = .pointer (some ⟨tb, 0, none⟩) := hpre ⟨0, .data⟩ (by simp) 18 rfl
            simp only [Array.getD_eq_getD_getElem?] at p0
            go_simp
            exact hK _ w5 rfl (Below.refl _ _)
          · obtain rfl := Option.some.inj ho
            have e1 : a'.tmps[4]? = some (.int .i64 k) := hout 4 (by decide)
            go_simp
            exact hK _ w5 rfl (Below.refl _ _)
          · obtain rfl := Option.some.inj ho
            have e1 : a'.tmps[3]? = some (.pointer (some ⟨tb, 0, none⟩)) := hout 3 (by decide)
            go_simp
            exact hK _ w5 rfl (Below.refl _ _)
          · obtain rfl := Option.some.inj ho
            have p0 : a'.tmps.getD 21 undef = .pointer (some ⟨tb, 0, none⟩) := hpre ⟨3, .data⟩ (by simp) 21 rfl
            simp only [Array.getD_eq_getD_getElem?] at p0
            go_simp
            exact hK _ w5 rfl (Below.refl _ _)
          · obtain rfl := Option.some.inj ho
            have e1 : a'.tmps[4]? = some (.int .i64 k) := hout 4 (by decide)
            go_simp
            exact hK _ w5 rfl (Below.refl _ _)
          · obtain rfl := Option.some.inj ho
            have p0 : a'.tmps.getD 22 undef = .slice (some ⟨zb, 0, none⟩) t.zones.length c := hpre ⟨4, .data⟩ (by simp) 22 rfl
            have p1 : a'.tmps.getD 23 undef = .int .i64 k := hpre ⟨5, .data⟩ (by simp) 23 rfl
            simp only [Array.getD_eq_getD_getElem?] at p0 p1
            go_simp
            exact hK _ w5 rfl (Below.refl _ _)
          · obtain rfl := Option.some.inj ho
            have p0 : a'.tmps.getD 24 undef = .pointer (some ⟨zb, k * 3, none⟩) := hpre ⟨6, .data⟩ (by simp) 24 rfl
            simp only [Array.getD_eq_getD_getElem?] at p0
            go_simp
            exact hK _ w5 rfl (Below.refl _ _)
          · obtain rfl := Option.some.inj ho
            have p0 : a'.tmps.getD 25 undef = .pointer (some ⟨zb, k * 3 + 2, none⟩) := hpre ⟨7, .data⟩ (by simp) 25 rfl
            simp only [Array.getD_eq_getD_getElem?] at p0
            go_simp
            exact hK _ w5 rfl (Below.refl _ _)
          · obtain rfl := Option.some.inj ho
            have p0 : a'.tmps.getD 26 undef = .slice A' n' c' := hpre ⟨8, .data⟩ (by simp) 26 rfl
            simp only [Array.getD_eq_getD_getElem?] at p0
            have hold : ∀ b, ((b < w.heap.size ∨ (wl ≤ b ∧ b < wr.heap.size)) ∨ Value.ownBlock (.slice (some ⟨zb, 0, none⟩) t.zones.length c) = some b) → b < wr.heap.size := fun b hb => by
              rcases hb with (h | h) | h
              · have := hb5.size; omega
              · exact h.2
              · have := HOB.out b h; omega
            have HC := Lib.hid (cloneShiftO_any A' n' c' shs w5 ((HSH.out.keep fun b hb => hb5.block b (hold b hb)).more fun b hb => Nat.lt_of_lt_of_le (hold b hb) hb5.size) hml)
            go_simp
            refine HC.out.mono ?_
            rintro e w2 ⟨v, rfl, hown, hbl⟩
            have hos : Own Ty.shift 122 w2 wr.heap.size v shs := hown.lower hb5.size
            obtain ⟨A9, c9, rfl, -⟩ := hos.sl
            exact hK _ w2 ⟨A9, c9, rfl, hos⟩ hbl
          · obtain rfl := Option.some.inj ho
            have p0 : a'.tmps.getD 19 undef = .slice (some ⟨zb, 0, none⟩) t.zones.length c := hpre ⟨1, .data⟩ (by simp) 19 rfl
            have p1 : a'.tmps.getD 20 undef = .int .i64 k := hpre ⟨2, .data⟩ (by simp) 20 rfl
            simp only [Array.getD_eq_getD_getElem?] at p0 p1
            go_simp
            exact hK _ w5 rfl (Below.refl _ _)
          · obtain rfl := Option.some.inj ho
            have p0 : a'.tmps.getD 28 undef = .pointer (some ⟨zb, k * 3, none⟩) := hpre ⟨10, .data⟩ (by simp) 28 rfl
            simp only [Array.getD_eq_getD_getElem?] at p0
            go_simp
            exact hK _ w5 rfl (Below.refl _ _)
        · intro us w5 hb5 hfacts
          obtain ⟨A9, c9, h9, ho9⟩ := hfacts 9 (by decide)
          have h11 : us 11 = .pointer (some ⟨zb, k * 3 + 2, none⟩) := hfacts 11 (by decide)
          clear hfacts
          simp only [putL, Act.put, List.setIfInBounds_toArray, List.set_cons_zero, List.set_cons_succ, Nat.zero_add, Nat.reduceAdd]
          generalize us 9 = x9 at *
          generalize us 11 = x11 at *
          subst h9 h11
          simp only [List.drop_succ_cons, List.drop_zero]
          have hzl := HWL.out
          have hz5 : ∀ b, (b < w.heap.size ∨ (wl ≤ b ∧ b < wr.heap.size)) → b < wr.heap.size := fun b hb => by omega
          have g0 : OwnS Ty.zone 98 w5 (fun b => b < w.heap.size ∨ (wl ≤ b ∧ b < w5.heap.size)) W.heap.size (.slice (some ⟨zb, 0, none⟩) t.zones.length c) t.zones := (HZO.out.next hb5 hz5).more fun b hb => by have := hb5.size; omega
          have hos9 := ho9.sl
          obtain ⟨B9, d9, e9, hsl9⟩ := hos9
          cases e9
          have g1 := g0.setAt (j := 2) (u := .slice A9 shs.length c9) (y := t.zones.getD k noZone) hlt (show 2 < 3 by decide) (by show ¬ _; omega) (fun cs hr => by
            have hself : t.zones.getD k (t.zones.getD k noZone) = t.zones.getD k noZone := by rw [List.getD_eq_getElem?_getD, List.getD_eq_getElem?_getD, List.getElem?_eq_getElem hlt]; rfl
            rw [hself] at hr
            obtain ⟨A, n, c, rfl, _⟩ := hr
            exact ⟨_, _, _, rfl, by rw [HSHS.out]; exact hsl9.more fun b hb => .inr (by omega)⟩)
          have hset : t.zones.set k (t.zones.getD k noZone) = t.zones := by
            rw [List.getD_eq_getElem?_getD, List.getElem?_eq_getElem hlt]
            exact List.set_getElem_self hlt
          rw [hset] at g1
          have hkeep : ∀ q, q ≠ zb → (w5.setCell ⟨zb, k * 3 + 2, none⟩ (.slice A9 shs.length c9)).heap[q]? = w5.heap[q]? := fun q hq => heap_setCell_other _ _ _ _ hq
          have hs6 : (w5.setCell ⟨zb, k * 3 + 2, none⟩ (.slice A9 shs.length c9)).heap.size = w5.heap.size := by simp
          have G1 : Hid (OwnS Ty.zone 98 (w5.setCell ⟨zb, k * 3 + 2, none⟩ (.slice A9 shs.length c9)) (fun b => b < w.heap.size ∨ (wl ≤ b ∧ b < (w5.setCell ⟨zb, k * 3 + 2, none⟩ (.slice A9 shs.length c9)).heap.size)) W.heap.size (.slice (some ⟨zb, 0, none⟩) t.zones.length c) t.zones) := by
            show OwnS _ _ _ _ _ _ _
            rw [hs6]
            exact g1
          have hzo2 := HZO.out
          have hao2 := HAO.out
          have hba : ∀ q, Value.ownBlock (.slice B t.airports.length d) = some q → q ≠ zb := fun q hq e => by
            obtain ⟨cur, hc⟩ := hao2.block hq
            obtain ⟨cur2, hc2⟩ := hzo2.block (k := zb) rfl
            rw [e, hc2] at hc
            cases hc
          have G2 : Hid (Own Ty.airport 101 (w5.setCell ⟨zb, k * 3 + 2, none⟩ (.slice A9 shs.length c9)) W.heap.size (.slice B t.airports.length d) t.airports) := (hao2.next hb5).flatC flat_airport fun q hq => hkeep q (hba q hq)
          have G3 : Hid ((w5.setCell ⟨zb, k * 3 + 2, none⟩ (.slice A9 shs.length c9)).heap[tb]? = _) := (hkeep tb htz).trans ((hb5.block tb (by omega)).trans HTR.out)
          have G4 : Hid ((w5.setCell ⟨zb, k * 3 + 2, none⟩ (.slice A9 shs.length c9)).heap[w.heap.size + 1]? = _) := (hkeep _ (by omega)).trans ((hb5.block _ (by omega)).trans HRS.out)
          have G5 : Hid (Below W.heap.size W (w5.setCell ⟨zb, k * 3 + 2, none⟩ (.slice A9 shs.length c9))) := (HBR.out.trans (hb5.mono HBR.out.size)).setCell (show W.heap.size ≤ zb from hzb.1) _
          have hz6 : wl ≤ (w5.setCell ⟨zb, k * 3 + 2, none⟩ (.slice A9 shs.length c9)).heap.size := by rw [hs6]; have := hb5.size; omega
          obtain ⟨cur5, hcur5⟩ := g0.block (k := zb) rfl
          have hy5 : w5.cell? ⟨zb, k * 3 + 2, none⟩ = some (.slice A' n' c') := (cell_of_same (a := ⟨zb, k * 3 + 2, none⟩) (hb5.block _ (show zb < wr.heap.size by omega))).trans HZ2.out
          have hf5 : w5.frozen? ⟨zb, k * 3 + 2, none⟩ = false := block_free hcur5 _
          have HZ6 := Lib.hid hz6
          have hle : t.zones.length ≤ 1000 := H1.out
          clear g0 g1 hkeep hs6 hzo2 hao2 hba hsl9 ho9 hz5 hset hz6 hcur5
          go_wp2_with fail
          go_roundw
          case rel => exact ⟨k + 1, by omega, by go_num, G5.out, HZ6.out, G3.out, G1.out, G2.out, G4.out, HOB.out⟩
          case measure => simp [intOf]; omega
      · have y0 := block_cell htr 0; have y1 := block_cell htr 1; have y2 := block_cell htr 2
        have z0 := block_cell hres 0; have z1 := block_cell hres 1; have z2 := block_cell hres 2
        have f0 := block_free hres 0; have f1 := block_free hres 1; have f2 := block_free hres 2
        have HBR := Lib.hid hbr; have HZO := Lib.hid hzo; have HAO := Lib.hid hao
        have hwt := HWL.out
        have hne : w.heap.size + 1 ≠ tb := by omega
        have hne' : tb ≠ w.heap.size + 1 := by omega
        have HFIN : Hid (∀ a b g, PlacesPost t w (.returned (.agg #[.slice A t.zones.length c, .slice B t.airports.length d, .slice none 0 0])) (((wr.setCell ⟨w.heap.size + 1, 0, none⟩ a).setCell ⟨w.heap.size + 1, 1, none⟩ b).setCell ⟨w.heap.size + 1, 2, none⟩ g)) := fun a b g => by
          have hk2 : ∀ q, q ≠ w.heap.size + 1 → (((wr.setCell ⟨w.heap.size + 1, 0, none⟩ a).setCell ⟨w.heap.size + 1, 1, none⟩ b).setCell ⟨w.heap.size + 1, 2, none⟩ g).heap[q]? = wr.heap[q]? := fun q hq => by
            rw [heap_setCell_other _ _ _ _ hq, heap_setCell_other _ _ _ _ hq, heap_setCell_other _ _ _ _ hq]
          have hs2 : (((wr.setCell ⟨w.heap.size + 1, 0, none⟩ a).setCell ⟨w.heap.size + 1, 1, none⟩ b).setCell ⟨w.heap.size + 1, 2, none⟩ g).heap.size = wr.heap.size := by simp
          have hzl := HZO.out.lt
          have hal := HAO.out.lt
          obtain ⟨A1', c1', e1, s1⟩ := HZO.out.sl
          cases e1
          obtain ⟨B1', d1', e2, s2⟩ := HAO.out.sl
          cases e2
          refine ⟨A, c, B, d, rfl, (s1.keep fun q hq => hk2 q ?_).more fun q hq => ?_, (s2.keep fun q hq => hk2 q ?_).more fun q hq => ?_, ((((HBW.out.trans (HBR.out.mono (by omega))).setCell (by show _ ≤ w.heap.size + 1; omega) _).setCell (by show _ ≤ w.heap.size + 1; omega) _).setCell (by show _ ≤ w.heap.size + 1; omega) _)⟩
          · rcases hq with (h | h) | h
            · omega
            · omega
            · have := (hzl q h).1; omega
          · rw [hs2]
            rcases hq with (h | h) | h
            · omega
            · omega
            · exact (hzl q h).2
          · have := hq.1; omega
          · rw [hs2]; exact hq.2
        clear htr hres hbr hzo hao hob
        go_wp2_with fail
        refine bodyPost_ret (v := .agg #[.slice A t.zones.length c, .slice B t.airports.length d, .slice none 0 0]) (by simp [results, Tryz.results45, go_sem, z0, z1, z2]) rfl ?_
        exact HFIN.out _ _ _
end Go.Proofs.YtifconapjfdkcaaGreatDoor
