/-
  A region of the evaluator that draws its order is the program's, in every order.
  No condition.
-/
import Derived.Test.YthldmlfpebgojaaGreatDoorQ7
namespace Go.Proofs.YthldmlfpebgojaaGreatDoor
set_option linter.unusedSimpArgs false
set_option linter.unusedVariables false
open Go.RowKit Go

/- Equal values. -/
theorem iEq_true {a b : Int} (h : iEq a b = true) : a = b := by rw [iEq_eq] at h; exact eq_of_beq h
theorem sameAddr1_eq {a b : Option Addr} (h : sameAddr1 a b = true) : a = b := of_decide_eq_true h
theorem str_eq {a b : ByteArray} (h : bytesEq a.data.toList b.data.toList = true) : a = b := by
  rw [bytesEq_eq] at h
  have := eq_of_beq h
  obtain ⟨⟨l⟩⟩ := a
  obtain ⟨⟨m⟩⟩ := b
  simpa using this
theorem same1_eq {a b : Value} (h : same1 a b = true) : a = b := by
  unfold same1 at h
  split at h
  · rw [eq_of_beq h]
  · simp only [Bool.and_eq_true] at h
    rw [eq_of_beq h.1, iEq_true h.2]
  · rw [str_eq h]
  · rw [sameAddr1_eq h]
  · simp only [Bool.and_eq_true] at h
    rw [sameAddr1_eq h.1.1, Nat.eq_of_beq_eq_true h.1.2, Nat.eq_of_beq_eq_true h.2]
  · rfl
  · rfl
  · cases h
theorem sameL_eq : ∀ {l m : List Value}, sameL l m = true → l = m
  | [], [], _ => rfl
  | a :: l, b :: m, h => by
    simp only [sameL, Bool.and_eq_true] at h
    rw [same1_eq h.1, sameL_eq h.2]
  | [], _ :: _, h => by simp [sameL] at h
  | _ :: _, [], h => by simp [sameL] at h
theorem sameV_eq {a b : Value} (h : sameV a b = true) : a = b := by
  unfold sameV at h
  split at h
  · have := sameL_eq h
    congr 1
    exact Array.ext' this
  · exact same1_eq h
theorem sameOut_eq {r : Option Out} {v : Value} (h : sameOut r v = true) : r = some (.w v) ∨ r = some (.v v .no) := by
  unfold sameOut at h
  split at h
  · rw [sameV_eq h]; exact .inl rfl
  · rw [sameV_eq h]; exact .inr rfl
  · cases h

/- What an operation that changes nothing yields does not look at the memory, but for loads. -/
theorem still_mem {P : Program} {o : Oper} {F : Fr} {M M' : Mem} (hc : isChg o = false) (hr : isRd o = false) : evalOp P o F M = evalOp P o F M' := by
  obtain ⟨d, op, ty, pos, af, g⟩ := o
  cases op <;> first | rfl | (simp [isChg] at hc; done) | (simp [isRd] at hr; done) | skip
  rename_i c
  obtain ⟨ce, ar, at'⟩ := c
  cases ce with
  | value f => simp [isChg] at hc
  | invoke r m => rfl
  | builtin b => cases b <;> first | rfl | (simp [isChg] at hc; done)

theorem bit_two (i j : Nat) : bit (2 ^ i) j = true ↔ i = j := by
  unfold bit
  rw [beqN_eq, decide_eq_true_iff]
  change (2 ^ i / 2 ^ j) % 2 = 1 ↔ _
  have := @Nat.testBit_two_pow i j
  rw [Nat.testBit_eq_decide_div_mod_eq] at this
  constructor
  · intro h
    rw [decide_eq_true h] at this
    exact of_decide_eq_true this.symm
  · intro h
    rw [decide_eq_true h] at this
    exact of_decide_eq_true this
theorem bit_test (m i : Nat) : bit m i = m.testBit i := by
  unfold bit
  rw [beqN_eq, Nat.testBit_eq_decide_div_mod_eq]
  rfl
theorem bit_lor (m n i : Nat) : bit (Nat.lor m n) i = (bit m i || bit n i) := by
  rw [bit_test, bit_test, bit_test]
  exact Nat.testBit_or m n i
theorem bit_zero (i : Nat) : bit 0 i = false := by rw [bit_test]; exact Nat.zero_testBit i

/-- Goes before, through the edges that bind. -/
inductive Pre (ops : Array Oper) : Nat → Nat → Prop
  | one {j : Nat} {o : Oper} {e : Edge} : ops[j]? = some o → e ∈ o.after → Region.binds .any e = true → Pre ops j e.on
  | more {j i : Nat} {o : Oper} {e : Edge} : ops[j]? = some o → e ∈ o.after → Region.binds .any e = true → Pre ops e.on i → Pre ops j i
theorem maskOf_pre {ops : Array Oper} {ms : List Nat} {j : Nat} {o : Oper} (ho : ops[j]? = some o) (hms : ∀ k i, bit (ms.getD k 0) i = true → Pre ops k i) : ∀ {l : List Edge}, (∀ e ∈ l, e ∈ o.after) → ∀ {i : Nat}, bit (maskOf ms l) i = true → Pre ops j i
  | [], _, i, h => by rw [maskOf, bit_zero] at h; cases h
  | e :: l, hl, i, h => by
    rw [maskOf] at h
    cases hb : Region.binds .any e with
    | false =>
      rw [hb] at h
      exact maskOf_pre ho hms (fun e' he' => hl e' (by simp [he'])) h
    | true =>
      rw [hb] at h
      simp only [cond_true, bit_lor, Bool.or_eq_true] at h
      rcases h with h | h | h
      · obtain rfl := (bit_two _ _).1 h
        exact .one ho (hl e (by simp)) hb
      · exact .more ho (hl e (by simp)) hb (hms _ _ h)
      · exact maskOf_pre ho hms (fun e' he' => hl e' (by simp [he'])) h
theorem masks_pre {ops : Array Oper} : ∀ (l : List Oper) (ms : List Nat), (∀ k, k < l.length → ops[ms.length + k]? = l[k]?) → (∀ k i, bit (ms.getD k 0) i = true → Pre ops k i) → ∀ k i, bit ((masks l ms).getD k 0) i = true → Pre ops k i
  | [], ms, _, h => h
  | o :: l, ms, hl, h => by
    rw [masks]
    have ho : ops[ms.length]? = some o := by simpa using hl 0 (by simp)
    refine masks_pre l _ (fun k hk => ?_) (fun k i hb => ?_)
    · have := hl (k + 1) (by simp; omega)
      simp only [List.length_append, List.length_cons, List.length_nil]
      rw [show ms.length + (0 + 1) + k = ms.length + (k + 1) by omega]
      simpa using this
    · by_cases hk : k < ms.length
      · rw [List.getD_eq_getElem?_getD, List.getElem?_append_left hk, ← List.getD_eq_getElem?_getD] at hb
        exact h k i hb
      · by_cases hk2 : k = ms.length
        · subst hk2
          simp only [List.getD_eq_getElem?_getD, List.getElem?_concat_length, Option.getD_some] at hb
          exact maskOf_pre ho h (fun e he => by simpa using he) hb
        · have : (ms ++ [maskOf ms o.after.toList])[k]? = none := List.getElem?_eq_none (by simp; omega)
          rw [List.getD_eq_getElem?_getD, this] at hb
          simp only [Option.getD_none, bit_zero] at hb
          cases hb
theorem allOps_iff {ops : Array Oper} {f : Nat → Oper → Bool} (h : allOps ops f = true) {i : Nat} {o : Oper} (ho : ops[i]? = some o) : f i o = true := by
  unfold allOps at h
  have := List.all_eq_true.1 h i (List.mem_range.2 (Array.getElem?_eq_some_iff.1 ho).1)
  rw [ho] at this
  exact this
structure DrawFacts (ops : Array Oper) : Prop where
  back : ∀ (j : Nat) (o : Oper), ops[j]? = some o → ∀ e ∈ o.after, Region.binds .any e = true → e.on < j
  one : ∀ (i j : Nat) (u o : Oper) (t : Nat), ops[i]? = some u → ops[j]? = some o → u.dst = some t → o.dst = some t → i = j
  read : ∀ (i j : Nat) (u o : Oper) (t : Nat), ops[i]? = some u → ops[j]? = some o → u.dst = some t → t ∈ tmpsOf ops o → Pre ops j i ∨ Pre ops i j
  row : ∀ (i j : Nat) (u o : Oper), ops[i]? = some u → ops[j]? = some o → isChg u = true → isChg o = true → i < j → Pre ops j i ∨ (loose ops (masks ops.toList []) = true ∧ i = (pq ops).1 ∧ j = (pq ops).2)
theorem masks_all (ops : Array Oper) (k i : Nat) (h : bit ((masks ops.toList []).getD k 0) i = true) : Pre ops k i :=
  masks_pre ops.toList [] (fun k _ => by simp) (fun k i h => by simp [bit_zero] at h) k i h
theorem drawFacts {ops : Array Oper} (h : drawOk ops (masks ops.toList []) = true) : DrawFacts ops := by
  unfold drawOk at h
  simp only [Bool.and_eq_true] at h
  obtain ⟨⟨h1, h2⟩, h3⟩ := h
  refine ⟨fun j o ho e he hb => ?_, fun i j u o t hi hj hu ho => ?_, fun i j u o t hi hj hu ht => ?_, fun i j u o hi hj hu ho hij => ?_⟩
  · have := List.all_eq_true.1 (allOps_iff h1 ho) e (by simpa using he)
    rw [hb] at this
    simp only [Bool.not_true, Bool.false_or] at this
    exact Nat.le_of_ble_eq_true this
  · have := allOps_iff (allOps_iff h2 hj) hi
    rw [hu] at this
    simp only [Bool.and_eq_true, Bool.or_eq_true] at this
    rcases this.1 with h | h
    · exact Nat.eq_of_beq_eq_true h
    · rw [ho] at h
      simp at h
  · have := allOps_iff (allOps_iff h2 hj) hi
    rw [hu] at this
    simp only [Bool.and_eq_true, Bool.or_eq_true] at this
    rcases this.2 with h | h
    · have : (tmpsOf ops o).contains t = true := List.contains_iff_mem.2 ht
      rw [this] at h
      cases h
    · rcases h with h | h
      · exact .inl (masks_all ops j i h)
      · exact .inr (masks_all ops i j h)
  · have := allOps_iff (allOps_iff h3 hj) hi
    rw [hu, ho] at this
    simp only [Bool.and_true, Bool.not_true, Bool.false_or, Bool.or_eq_true, Bool.and_eq_true] at this
    rcases this with (h | h) | h
    · have := Nat.le_of_ble_eq_true h
      omega
    · exact .inl (masks_all ops j i h)
    · exact .inr ⟨h.1.1, Nat.eq_of_beq_eq_true h.1.2, Nat.eq_of_beq_eq_true h.2⟩

/-- What the run in the text's order shows of an operation. -/
structure StepAt (P : Program) (call : CallE) (N : Nat) (ops : Array Oper) (lds : List Ld) (fr : Nat → Fr) (vs : Nat → Value) (mm : Nat → Mem) (ef : Nat → Eff) (j : Nat) (o : Oper) : Prop where
  put : PutRel (fr j) o.dst (vs j) (fr (j + 1)) N
  run : (wantedE ops o (fr j) = some false ∧ vs j = undef ∧ mm (j + 1) = mm j ∧ ef j = .no) ∨
    (wantedE ops o (fr j) = some true ∧ ((∃ out, evalOp P o (fr j) (mm j) = some out ∧ ((out = .w (vs j) ∧ ef j = .no) ∨ out = .v (vs j) (ef j)) ∧ mm (j + 1) = (ef j).apply (mm j) ∧
        (isChg o = false → ef j = .no ∧ (isRd o = true → (⟨j, cnt ops j, o, fr j, vs j⟩ : Ld) ∈ lds))) ∨
      (∃ f args, evalOp P o (fr j) (mm j) = some (.call f args) ∧ isChg o = true ∧ ef j = .no ∧ call f args (mm j) = some (vs j, mm (j + 1)))))
theorem cnt_zero (ops : Array Oper) : cnt ops 0 = 0 := rfl
theorem cnt_succ {ops : Array Oper} {j : Nat} {o : Oper} (h : ops[j]? = some o) : cnt ops (j + 1) = cnt ops j + if isChg o then 1 else 0 := by
  unfold cnt
  have hl : ops.toList[j]? = some o := by simpa using h
  rw [List.take_add_one, hl]
  cases hc : isChg o <;> simp [List.filter_append, hc]
theorem cnt_mono {ops : Array Oper} {i : Nat} : ∀ {j : Nat}, i ≤ j → cnt ops i ≤ cnt ops j
  | 0, h => by rw [Nat.le_zero.1 h]; exact Nat.le_refl _
  | j + 1, h => by
    by_cases hij : i = j + 1
    · rw [hij]; exact Nat.le_refl _
    · refine Nat.le_trans (cnt_mono (j := j) (by omega)) ?_
      cases ho : ops[j]? with
      | some o => rw [cnt_succ ho]; omega
      | none =>
        have hsz : ops.toList.length ≤ j := by
          rw [Array.length_toList]
          exact Array.getElem?_eq_none_iff.1 ho
        unfold cnt
        rw [List.take_of_length_le hsz, List.take_of_length_le (Nat.le_succ_of_le hsz)]
        exact Nat.le_refl _
section
variable {P : Program} {call : CallE} {N : Nat} {ops : Array Oper}
/-- What the rest of a run shows. -/
abbrev DEnd (P : Program) (call : CallE) (N : Nat) (ops : Array Oper) (l : List Oper) (j : Nat) (F : Fr) (M : Mem) (lds : List Ld) (mems : List (Mem × Eff)) (F1 : Fr) (M1 : Mem) : Prop :=
    ∃ (lds1 : List Ld) (ext : List (Mem × Eff)) (fr : Nat → Fr) (vs : Nat → Value) (mm : Nat → Mem) (ef : Nat → Eff) (sts : List Mem), fr j = F ∧ mm j = M ∧ fr (j + l.length) = F1 ∧ mm (j + l.length) = M1 ∧ (∀ ld ∈ lds, ld ∈ lds1) ∧ statesD ops (ext ++ mems) = some sts ∧ lds1.all (ldOk P ops (masks ops.toList []) sts) = true ∧
      (∀ k, k ≤ l.length → ∃ m, (ext ++ mems).reverse[cnt ops (j + k)]? = some (mm (j + k), m)) ∧ (ext ++ mems).length = cnt ops (j + l.length) + 1 ∧
      (∀ k o, l[k]? = some o → isChg o = true → (ext ++ mems).reverse[cnt ops (j + k) + 1]? = some (mm (j + k + 1), ef (j + k))) ∧
      ∀ k o, l[k]? = some o → StepAt P call N ops lds1 fr vs mm ef (j + k) o
theorem isNo_eq {m : Eff} (h : m.isNo = true) : m = .no := by
  cases m <;> first | rfl | cases h
theorem drun (hN : N ≤ 512) : ∀ (l : List Oper) (j : Nat) {F : Fr} {M : Mem} {lds : List Ld} {mems : List (Mem × Eff)} {F1 : Fr} {M1 : Mem}, (∀ k, k < l.length → ops[j + k]? = l[k]?) → evalDrawL P call N ops l F M lds mems j = some (F1, M1) → mems.length = cnt ops j + 1 → (∃ m ms, mems = (M, m) :: ms) →
    DEnd P call N ops l j F M lds mems F1 M1
  | [], j, F, M, lds, mems, F1, M1, _, h, hlen, hhd => by
    change (match statesD ops mems with
      | some l => bif lds.all (ldOk P ops (masks ops.toList []) l) then some (F, M) else none
      | none => none) = some (F1, M1) at h
    split at h
    case h_2 => cases h
    rename_i sts hst
    obtain ⟨hok, heq⟩ := some_bif h
    injection heq with h1 h2
    subst h1 h2
    refine ⟨lds, [], fun _ => F1, fun _ => undef, fun _ => M1, fun _ => .no, sts, rfl, rfl, rfl, rfl, fun _ h => h, hst, hok, fun k hk => ?_, hlen, fun k o hk => by simp at hk, fun k o hk => by simp at hk⟩
    have hk0 : k = 0 := by simpa using hk
    subst hk0
    obtain ⟨m, ms, rfl⟩ := hhd
    refine ⟨m, ?_⟩
    simp only [List.nil_append, List.reverse_cons, Nat.add_zero]
    rw [List.getElem?_append_right (by simp at hlen ⊢; omega)]
    simp at hlen ⊢
    rw [show cnt ops j - ms.length = 0 by omega]
    rfl
  | o :: l, j, F, M, lds, mems, F1, M1, hl, h, hlen, hhd => by
    have ho : ops[j]? = some o := by simpa using hl 0 (by simp)
    have hl' : ∀ k, k < l.length → ops[j + 1 + k]? = l[k]? := fun k hk => by
      have := hl (k + 1) (by simp; omega)
      rw [show j + 1 + k = j + (k + 1) by omega]
      simpa using this
    have hcs := cnt_succ ho
    have hrev : ∀ (ext : List (Mem × Eff)), ∃ m, (ext ++ mems).reverse[cnt ops j]? = some (M, m) := fun ext => by
      obtain ⟨m, ms, rfl⟩ := hhd
      refine ⟨m, ?_⟩
      simp only [List.length_cons] at hlen
      rw [List.reverse_append, List.reverse_cons, List.append_assoc]
      rw [List.getElem?_append_right (by simp; omega)]
      simp
      rw [show cnt ops j - ms.length = 0 by omega]
      rfl
    -- the end of each case: one step, then the rest
    have fin : ∀ {F' : Fr} {M' : Mem} {v : Value} {lds' : List Ld} {mems' pre : List (Mem × Eff)} {m : Eff}, evalDrawL P call N ops l F' M' lds' mems' (j + 1) = some (F1, M1) → mems' = pre ++ mems → mems'.length = cnt ops (j + 1) + 1 → (∃ m ms, mems' = (M', m) :: ms) → (isChg o = true → pre = [(M', m)]) →
        (∀ ld ∈ lds, ld ∈ lds') → PutRel F o.dst v F' N → (∀ lds1 : List Ld, (∀ ld ∈ lds', ld ∈ lds1) → ((wantedE ops o F = some false ∧ v = undef ∧ M' = M ∧ m = .no) ∨
    (wantedE ops o F = some true ∧ ((∃ out, evalOp P o F M = some out ∧ ((out = .w v ∧ m = .no) ∨ out = .v v m) ∧ M' = m.apply M ∧
        (isChg o = false → m = .no ∧ (isRd o = true → (⟨j, cnt ops j, o, F, v⟩ : Ld) ∈ lds1))) ∨
      (∃ f args, evalOp P o F M = some (.call f args) ∧ isChg o = true ∧ m = .no ∧ call f args M = some (v, M')))))) →
        DEnd P call N ops (o :: l) j F M lds mems F1 M1 := by
      intro F' M' v lds' mems' pre m hrest hpre hlen' hhd' hchg hsub hput hrun
      obtain ⟨lds1, ext, fr, vs, mm, ef, sts, e1, e2, e3, e4, e5, e6, e6', e7, e8, e9', e9⟩ := drun hN l (j + 1) hl' hrest hlen' hhd'
      subst hpre
      have hadd : ∀ k, j + 1 + k = j + (k + 1) := fun k => by omega
      have hj1 : ¬ (j + 1 = j) := by omega
      refine ⟨lds1, ext ++ pre, fun i => if i = j then F else fr i, fun i => if i = j then v else vs i, fun i => if i = j then M else mm i, fun i => if i = j then m else ef i, sts, by simp, by simp, ?_, ?_, fun ld h => e5 ld (hsub ld h), by simpa using e6, e6', fun k hk => ?_, ?_, fun k o' hk hc => ?_, fun k o' hk => ?_⟩
      · have : ¬ (j + (o :: l).length = j) := by simp
        simp only [this, if_false]
        rw [List.length_cons, ← hadd]
        exact e3
      · have : ¬ (j + (o :: l).length = j) := by simp
        simp only [this, if_false]
        rw [List.length_cons, ← hadd]
        exact e4
      · cases k with
        | zero =>
          simp only [Nat.add_zero, if_true]
          exact hrev _
        | succ k =>
          have : ¬ (j + (k + 1) = j) := by omega
          simp only [this, if_false]
          rw [← hadd, List.append_assoc]
          exact e7 k (by simp at hk; omega)
      · rw [List.length_cons, ← hadd, List.append_assoc]
        exact e8
      · cases k with
        | zero =>
          obtain rfl := some_eq hk
          simp only [Nat.add_zero, if_true, hj1, if_false]
          have hp := hchg hc
          subst hp
          rw [e2, List.append_assoc]
          rw [hc] at hcs
          have hml : mems.length = cnt ops j + 1 := hlen
          rw [List.reverse_append, List.reverse_append, List.append_assoc]
          rw [List.getElem?_append_right (by simp [hml])]
          simp [hml]
        | succ k =>
          have n1 : ¬ (j + (k + 1) = j) := by omega
          have n2 : ¬ (j + (k + 1) + 1 = j) := by omega
          simp only [n1, n2, if_false]
          rw [← hadd, List.append_assoc]
          exact e9' k o' (by simpa using hk) hc
      · cases k with
        | zero =>
          obtain rfl := some_eq hk
          refine ⟨?_, ?_⟩
          · simp only [Nat.add_zero, if_true, hj1, if_false, e1]
            exact hput
          · simp only [Nat.add_zero, if_true, hj1, if_false, e2]
            exact hrun lds1 e5
        | succ k =>
          have h9 := e9 k o' (by simpa using hk)
          rw [hadd] at h9
          have n1 : ¬ (j + (k + 1) = j) := by omega
          have n2 : ¬ (j + (k + 1) + 1 = j) := by omega
          refine ⟨?_, ?_⟩
          · simp only [n1, n2, if_false]
            exact h9.put
          · simp only [n1, n2, if_false]
            exact h9.run
    change opD P call N ops o (evalDrawL P call N ops l) F M lds mems j = _ at h
    have nd : ∀ {v : Value} {m : Eff} {F' : Fr}, wantedE ops o F = some true → PutRel F o.dst v F' N → (∃ out, evalOp P o F M = some out ∧ ((out = .w v ∧ m = .no) ∨ out = .v v m)) → nextD o F v F' m (m.apply M) lds mems j (evalDrawL P call N ops l) = some (F1, M1) → DEnd P call N ops (o :: l) j F M lds mems F1 M1 := by
      intro v m F' hw hp hout h
      unfold nextD at h
      obtain ⟨out, hv, hout⟩ := hout
      cases hc : isChg o with
      | true =>
        rw [hc] at h hcs
        exact fin h (pre := [(m.apply M, m)]) rfl (by simp [hlen, hcs]) ⟨_, _, rfl⟩ (fun _ => rfl) (fun _ h => h) hp fun lds1 hs => .inr ⟨hw, .inl ⟨_, hv, hout, rfl, fun h2 => by rw [hc] at h2; cases h2⟩⟩
      | false =>
        rw [hc] at h hcs
        simp only [cond_false] at h
        cases hm : m.isNo with
        | false => rw [hm] at h; cases h
        | true =>
          obtain rfl := isNo_eq hm
          simp only [hm, cond_true] at h
          cases hr : isRd o with
          | true =>
            rw [hr] at h
            exact fin (m := .no) h (pre := []) rfl (by simp [hlen, hcs]) hhd (fun h2 => by rw [hc] at h2; cases h2) (fun _ h => by simp [h]) hp fun lds1 hs => .inr ⟨hw, .inl ⟨_, hv, hout, rfl, fun _ => ⟨rfl, fun _ => hs _ (by simp [hlen])⟩⟩⟩
          | false =>
            rw [hr] at h
            exact fin (m := .no) h (pre := []) rfl (by simp [hlen, hcs]) hhd (fun h2 => by rw [hc] at h2; cases h2) (fun _ h => h) hp fun lds1 hs => .inr ⟨hw, .inl ⟨_, hv, hout, rfl, fun _ => ⟨rfl, fun h2 => by rw [hr] at h2; cases h2⟩⟩⟩
    unfold opD at h
    split at h
    · rename_i hw
      unfold outD at h
      split at h
      · rename_i v hv
        obtain ⟨F', hp, h⟩ := putFK_some hN h
        exact nd (m := .no) hw hp ⟨_, hv, .inl ⟨rfl, rfl⟩⟩ h
      · rename_i v m hv
        rw [fV_eq] at h
        obtain ⟨F', hp, h⟩ := putFK_some hN h
        rw [Eff.applyK_eq] at h
        exact nd hw hp ⟨_, hv, .inr rfl⟩ h
      · rename_i f args hv
        unfold callD at h
        split at h
        · rename_i v M' hcl
          obtain ⟨F', hp, h⟩ := putFK_some hN h
          cases hc : isChg o with
          | true =>
            rw [hc] at h hcs
            exact fin h (pre := [(M', .no)]) rfl (by simp [hlen, hcs]) ⟨_, _, rfl⟩ (fun _ => rfl) (fun _ h => h) hp fun lds1 hs => .inr ⟨hw, .inr ⟨f, args, hv, hc, rfl, hcl⟩⟩
          | false =>
            rw [hc] at h
            cases h
        · cases h
      · cases h
    · rename_i hw
      obtain ⟨F', hp, h⟩ := putFK_some hN h
      cases hc : isChg o with
      | true =>
        rw [hc] at h hcs
        exact fin h (pre := [(M, .no)]) rfl (by simp [hlen, hcs]) ⟨_, _, rfl⟩ (fun _ => rfl) (fun _ h => h) hp fun lds1 hs => .inl ⟨hw, rfl, rfl, rfl⟩
      | false =>
        rw [hc] at h hcs
        exact fin (m := .no) h (pre := []) rfl (by simp [hlen, hcs]) hhd (fun h2 => by rw [hc] at h2; cases h2) (fun _ h => h) hp fun lds1 hs => .inl ⟨hw, rfl, rfl, rfl⟩
    · cases h
end
end Go.Proofs.YthldmlfpebgojaaGreatDoor
