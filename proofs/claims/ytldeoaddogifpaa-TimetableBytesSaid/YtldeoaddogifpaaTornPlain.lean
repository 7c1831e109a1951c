/-
  A torn, a changed and a prolonged frame.
  No condition.
-/
import Derived.Test.YtldeoaddogifpaaTTBack
import Derived.Test.YtldeoaddogifpaaCrcLaw
namespace Go.Proofs.Ytldeoaddogifpaa
set_option linter.unusedSimpArgs false
set_option linter.unusedVariables false
open Go

theorem decF_cut : ∀ (f i : Nat) (n m : Int) (k : Nat), 0 ≤ m → m < 128 ^ (f + 1) → m ≤ 4611686018427387904 → k < (uvar m).length → decF (f + 1) i n ((uvar m).take k) = (0, 0, 3)
  | f, i, n, m, k, h0, h1, h4, hk => by
    by_cases hm : m < 128
    · rw [uvar_small hm] at hk ⊢
      have : k = 0 := by simpa using hk
      subst this
      rw [List.take_zero, decF]
    · rw [uvar_step (by omega) h4] at hk ⊢
      rcases k with _ | k
      · rw [List.take_zero, decF]
      · have hf : ∃ g, f = g + 1 := by
          cases f with
          | zero => exact absurd h1 (by simpa using (by omega : 128 ≤ m))
          | succ g => exact ⟨g, rfl⟩
        obtain ⟨g, rfl⟩ := hf
        rw [List.take_succ_cons, decF, if_pos (by omega)]
        exact decF_cut g (i + 1) _ (m / 128) k (by omega) (by
          rw [Int.pow_succ] at h1
          exact Int.ediv_lt_of_lt_mul (by decide) (by omega)) (by omega) (by simpa using hk)
theorem decU_cut {m : Int} {k : Nat} (h0 : 0 ≤ m) (h1 : m ≤ 4611686018427387904) (hk : k < (uvar m).length) : decU ((uvar m).take k) = (0, 0, 3) := by
  have h : ((128 : Int) ^ (8 + 1)) = 9223372036854775808 := by decide
  exact decF_cut 8 0 0 m k h0 (by omega) h1 hk
section
variable {kind : Int} {body : List Int}
theorem torn_cut (h : body.length ≤ 1048576) {i : Nat} (hi : i < (frameB kind body).length) : (unfr ((frameB kind body).take i)).2.2.2 = 3 := by
  have hl := frameB_len kind body
  rcases i with _ | i
  · rfl
  have ht : ((frameB kind body).take (i + 1)).tail = (uvar body.length ++ (body ++ sumBytes (crc (headB kind body)))).take i := by
    rw [← frameB_tail kind body]
    cases hf : frameB kind body with
    | nil => rw [hf] at hl; simp at hl
    | cons a r => rfl
  have hlen : ((frameB kind body).take (i + 1)).length = i + 1 := by rw [List.length_take]; omega
  have hne : (frameB kind body).take (i + 1) ≠ [] := fun e => by rw [e] at hlen; simp at hlen
  unfold unfr
  rw [if_neg hne, ht, hlen]
  by_cases hu : i < (uvar body.length).length
  · rw [List.take_append_of_le_length (by omega), decU_cut (by omega) (by omega) hu]
    rfl
  · have e : (uvar body.length ++ (body ++ sumBytes (crc (headB kind body)))).take i = uvar body.length ++ (body ++ sumBytes (crc (headB kind body))).take (i - (uvar body.length).length) := by
      rw [List.take_append, List.take_of_length_le (by omega)]
    rw [e, decU_uvar _ (by omega) (by omega)]
    simp only
    rw [if_neg (by simp), if_neg (by omega), if_pos (by omega)]
theorem torn_more (h : body.length ≤ 1048576) (y : Int) : unfr (frameB kind body ++ [y]) = (kind, body, (frameB kind body).length, 0) := by
  have hl := frameB_len kind body
  have hh := headB_len kind body
  have hne : frameB kind body ++ [y] ≠ [] := by simp
  have ht : (frameB kind body ++ [y]).tail = uvar body.length ++ (body ++ sumBytes (crc (headB kind body)) ++ [y]) := by
    have := frameB_tail kind body
    cases hf : frameB kind body with
    | nil => rw [hf] at hl; simp at hl
    | cons a r =>
      rw [hf] at this
      have h2 : r = _ := this
      rw [List.cons_append, List.tail_cons, h2]
      simp only [List.append_assoc]
  have e0 : frameB kind body ++ [y] = headB kind body ++ (sumBytes (crc (headB kind body)) ++ [y]) := by unfold frameB; rw [List.append_assoc]
  have t1 : (frameB kind body ++ [y]).take (1 + (uvar body.length).length + body.length) = headB kind body := by rw [e0, ← hh, List.take_left]
  have t2 : ((frameB kind body ++ [y]).drop (1 + (uvar body.length).length + body.length)).take 4 = sumBytes (crc (headB kind body)) := by
    rw [e0, ← hh, List.drop_left, ← sumBytes_len (crc (headB kind body)), List.take_left]
  have t3 : ((frameB kind body ++ [y]).drop (1 + (uvar body.length).length)).take body.length = body := by
    have e : frameB kind body ++ [y] = (kind :: uvar body.length) ++ (body ++ (sumBytes (crc (headB kind body)) ++ [y])) := by
      rw [e0]
      conv => lhs; unfold headB
      simp
      rfl
    have e2 : (kind :: uvar body.length).length = 1 + (uvar body.length).length := by simp; omega
    rw [e, ← e2, List.drop_left, List.take_left]
  have hlen : (frameB kind body ++ [y]).length = 1 + (uvar body.length).length + body.length + 5 := by rw [List.length_append, hl, List.length_singleton]
  unfold unfr
  rw [if_neg hne, ht, decU_uvar _ (by omega) (by omega), hlen]
  simp only [Int.toNat_natCast]
  rw [if_neg (by simp), if_neg (by omega), if_neg (by omega), t1, t2, t3, sumOf_bytes, if_neg (by simp), hl]
  have : (frameB kind body ++ [y]).getD 0 0 = kind := by rw [e0]; rfl
  rw [this]
theorem sumOf4 {a b c d : Int} (ha : isByte a) (hb : isByte b) (hc : isByte c) (hd : isByte d) : ((sumOf [a, b, c, d]).toNat : Int) = ((a * 256 + b) * 256 + c) * 256 + d := by
  unfold isByte at *
  simp only [sumOf, List.foldl_cons, List.foldl_nil]
  have e0 : (0#32).toNat = 0 := rfl
  have a1 : (sumStep 0#32 a).toNat = a.toNat := by rw [sumStep_nat (by rw [e0]; decide) ha.1 ha.2, e0]; omega
  have a2 : (sumStep (sumStep 0#32 a) b).toNat = a.toNat * 256 + b.toNat := by rw [sumStep_nat (by rw [a1]; omega) hb.1 hb.2, a1]
  have a3 : (sumStep (sumStep (sumStep 0#32 a) b) c).toNat = (a.toNat * 256 + b.toNat) * 256 + c.toNat := by rw [sumStep_nat (by rw [a2]; omega) hc.1 hc.2, a2]
  rw [sumStep_nat (by rw [a3]; omega) hd.1 hd.2, a3]
  omega
theorem sum_changed (x : BitVec 32) {k : Nat} {y : Int} (hy : isByte y) (hk : k < 4) (hne : (sumBytes x)[k]? ≠ some y) : sumOf ((sumBytes x).set k y) ≠ x := by
  intro e
  have hb2 : ∀ z : Int, isByte (z % 256) := fun z => ⟨by omega, by omega⟩
  have h1 := sumOf_bytes x
  rw [← h1] at e
  have e' := congrArg (fun z : BitVec 32 => (z.toNat : Int)) e
  have : k = 0 ∨ k = 1 ∨ k = 2 ∨ k = 3 := by omega
  have hs : ((sumOf (sumBytes x)).toNat : Int) = _ := sumOf4 (hb2 _) (hb2 _) (hb2 _) (hb2 _)
  try simp only at e'
  rw [hs] at e'
  unfold sumBytes at e' hne
  have hyy := hy
  unfold isByte at hyy
  rcases this with rfl | rfl | rfl | rfl
  · simp only [List.set_cons_zero] at e'
    rw [sumOf4 hy (hb2 _) (hb2 _) (hb2 _)] at e'
    simp at hne
    omega
  · simp only [List.set_cons_zero, List.set_cons_succ] at e'
    rw [sumOf4 (hb2 _) hy (hb2 _) (hb2 _)] at e'
    simp at hne
    omega
  · simp only [List.set_cons_zero, List.set_cons_succ] at e'
    rw [sumOf4 (hb2 _) (hb2 _) hy (hb2 _)] at e'
    simp at hne
    omega
  · simp only [List.set_cons_zero, List.set_cons_succ] at e'
    rw [sumOf4 (hb2 _) (hb2 _) (hb2 _) hy] at e'
    simp at hne
    omega
theorem torn_change (h : body.length ≤ 1048576) (hk : isByte kind) (hb : bytesL body) {j : Nat} {y : Int} (hj : j = 0 ∨ 1 + (uvar body.length).length ≤ j) (hjl : j < (frameB kind body).length) (hy : isByte y) (hne : (frameB kind body)[j]? ≠ some y) :
    (unfr ((frameB kind body).set j y)).2.2.2 = 4 := by
  have hl := frameB_len kind body
  have hh := headB_len kind body
  have hlen : ((frameB kind body).set j y).length = 1 + (uvar body.length).length + body.length + 4 := by rw [List.length_set, hl]
  have hnn : (frameB kind body).set j y ≠ [] := fun e => by rw [e] at hlen; simp at hlen
  have ht : ∃ r, ((frameB kind body).set j y).tail = uvar body.length ++ r := by
    have e := frameB_tail kind body
    cases hf : frameB kind body with
    | nil => rw [hf] at hl; simp at hl
    | cons a r =>
      rw [hf] at e
      have e' : r = uvar body.length ++ (body ++ sumBytes (crc (headB kind body))) := e
      rcases j with _ | j
      · exact ⟨_, e'⟩
      · rw [List.set_cons_succ, List.tail_cons, e', List.set_append_right _ _ (by omega)]
        exact ⟨_, rfl⟩
  obtain ⟨r, ht⟩ := ht
  have hhb : bytesL (headB kind body) := fun x hx => by
    unfold headB at hx
    rw [List.mem_cons, List.mem_append] at hx
    rcases hx with rfl | hx | hx
    · exact hk
    · exact uvar_bytes (by omega) x hx
    · exact hb x hx
  have key : sumOf ((((frameB kind body).set j y).drop (1 + (uvar body.length).length + body.length)).take 4) ≠ crc (((frameB kind body).set j y).take (1 + (uvar body.length).length + body.length)) := by
    have ef : frameB kind body = headB kind body ++ sumBytes (crc (headB kind body)) := rfl
    rw [← hh]
    by_cases hjh : j < (headB kind body).length
    · rw [ef, List.set_append_left _ _ hjh]
      have hsl : ((headB kind body).set j y).length = (headB kind body).length := List.length_set ..
      rw [← hsl, List.drop_left, List.take_left, List.take_of_length_le (Nat.le_of_eq (sumBytes_len _)), sumOf_bytes]
      intro e
      have e1 : headB kind body = (headB kind body).take j ++ (headB kind body)[j] :: (headB kind body).drop (j + 1) := by
        rw [← List.drop_eq_getElem_cons hjh, List.take_append_drop]
      have e2 : (headB kind body).set j y = (headB kind body).take j ++ y :: (headB kind body).drop (j + 1) := List.set_eq_take_append_cons_drop .. ▸ by rw [if_pos hjh]
      rw [e2] at e
      have e3 : crc ((headB kind body).take j ++ (headB kind body)[j] :: (headB kind body).drop (j + 1)) = crc ((headB kind body).take j ++ y :: (headB kind body).drop (j + 1)) := by rw [← e1]; exact e
      have := crc_changed (hhb _ (List.getElem_mem hjh)) hy (fun x hx => hhb x (List.mem_of_mem_drop hx)) e3
      apply hne
      rw [ef, List.getElem?_append_left hjh, List.getElem?_eq_getElem hjh, this]
    · rw [ef, List.set_append_right _ _ (by omega), List.drop_left, List.take_left]
      rw [List.take_of_length_le (by rw [List.length_set]; exact Nat.le_of_eq (sumBytes_len _))]
      refine sum_changed _ hy (by omega) fun e => hne ?_
      rw [ef, List.getElem?_append_right (by omega)]
      exact e
  unfold unfr
  rw [if_neg hnn, ht, decU_uvar _ (by omega) (by omega), hlen]
  simp only [Int.toNat_natCast]
  rw [if_neg (by simp), if_neg (by omega), if_neg (by omega), if_pos key]
end
end Go.Proofs.Ytldeoaddogifpaa
