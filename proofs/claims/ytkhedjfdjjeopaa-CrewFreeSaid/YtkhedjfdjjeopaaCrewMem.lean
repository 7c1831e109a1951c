/-
  A built crew in memory: each person's lists in rows of their own, apart from each other; append of a person; one cell or one list changed.
  No condition.
-/
import Derived.Test.YtkhedjfdjjeopaaCrewRead
import Derived.Test.YtkhedjfdjjeopaaCopy
import Derived.Test.YtkhedjfdjjeopaaRef8Enc
namespace Go.Proofs.Ytkhedjfdjjeopaa
set_option linter.unusedSimpArgs false
set_option linter.unusedVariables false
open Go.RowKit

theorem Own.flat0 {α : Type} {t : Ty α} {e : TypeId} {w w' : World} {base : Nat} {v : Value} {xs : List α} (ht : t.Flat) (h : Own t e w base v xs) (hk : ∀ b, v.ownBlock = some b → w'.heap[b]? = w.heap[b]?) : Own t e w' base v xs := by
  obtain ⟨cs, h1, h2⟩ := h
  refine ⟨cs, ⟨h1.1, ?_⟩, h2.flat ht⟩
  rcases h1.2 with h3 | ⟨g, cap, cur, hv, hg, hb, r⟩
  · exact .inl h3
  · exact .inr ⟨g, cap, cur, hv, hg, (hk g (by rw [hv]; rfl)).trans hb, r⟩
/-- A row's block has the row's type. -/
theorem Own.tag {α : Type} {t : Ty α} {e : TypeId} {w : World} {base : Nat} {v : Value} {xs : List α} (h : Own t e w base v xs) {b : Nat} (hb : v.ownBlock = some b) : ∃ cur, w.heap[b]? = some (.cells cur e (0, 0)) := by
  obtain ⟨cs, h1, _⟩ := h
  rcases h1.2 with ⟨rfl, _⟩ | ⟨g, cap, cur, rfl, _, hg, _⟩
  · simp [Value.ownBlock] at hb
  · simp [Value.ownBlock] at hb
    subst hb
    exact ⟨cur, hg⟩
/-- A person's seven cells; the two lists lie in rows from block a on, ahead of block z. -/
def POwn (w : World) (a z : Nat) (cs : List Value) (p : GPerson) : Prop :=
  ∃ tv vv, cs = [.int .i64 p.id, .string p.name, .string p.base, .int .i64 p.rank, .int .i64 p.sen, tv, vv] ∧ Own Ty.str 9 w a tv p.types ∧ (∀ k, tv.ownBlock = some k → k < z) ∧ Own Ty.shift 42 w a vv p.vacs ∧ (∀ k, vv.ownBlock = some k → k < z)
theorem POwn.keep {w w' : World} {a z : Nat} {cs : List Value} {p : GPerson} (h : POwn w a z cs p) (hk : ∀ b, a ≤ b → b < z → ∀ cur T, w.heap[b]? = some (.cells cur T (0, 0)) → T ≠ 40 → w'.heap[b]? = w.heap[b]?) : POwn w' a z cs p := by
  obtain ⟨tv, vv, e, h1, l1, h2, l2⟩ := h
  refine ⟨tv, vv, e, h1.flat0 flat_str fun b hb => ?_, l1, h2.flat0 flat_shift fun b hb => ?_, l2⟩
  · obtain ⟨cur, hc⟩ := h1.tag hb
    exact hk b (h1.lt b hb).1 (l1 b hb) cur _ hc (by decide)
  · obtain ⟨cur, hc⟩ := h2.tag hb
    exact hk b (h2.lt b hb).1 (l2 b hb) cur _ hc (by decide)
theorem POwn.rep {w : World} {a z : Nat} {cs : List Value} {p : GPerson} (h : POwn w a z cs p) : Ty.person.rep w (all_ w) cs p := by
  obtain ⟨tv, vv, e, h1, l1, h2, l2⟩ := h
  obtain ⟨A1, c1, rfl, s1⟩ := h1.sl
  obtain ⟨A2, c2, rfl, s2⟩ := h2.sl
  exact ⟨A1, _, c1, A2, _, c2, e, s1.more fun b hb => hb.2, s2.more fun b hb => hb.2⟩
/-- The crew ps in the row v, all from block lo on and ahead of block hi. -/
def CrewMem (w : World) (v : Value) (ps : List GPerson) (lo hi : Nat) : Prop :=
  ∃ (cs : List Value) (f : Nat → Nat), w.ownsRow lo 40 7 v ps.length cs ∧ (∀ k, v.ownBlock = some k → k < hi) ∧ (∀ i, f i ≤ f (i + 1)) ∧ lo ≤ f 0 ∧ f ps.length ≤ hi ∧ ∀ i p, ps[i]? = some p → POwn w (f i) (f (i + 1)) ((cs.drop (i * 7)).take 7) p
theorem mono_le {f : Nat → Nat} (h : ∀ i, f i ≤ f (i + 1)) {i j : Nat} (hij : i ≤ j) : f i ≤ f j := by
  induction j with
  | zero => rw [show i = 0 by omega]; exact Nat.le_refl _
  | succ j ih =>
    rcases Nat.lt_or_eq_of_le hij with h1 | h1
    · exact Nat.le_trans (ih (by omega)) (h j)
    · rw [h1]; exact Nat.le_refl _
theorem CrewMem.nil (w : World) {lo hi : Nat} (h : lo ≤ hi) : CrewMem w (.slice none 0 0) [] lo hi :=
  ⟨[], fun _ => lo, World.ownsRow_nil _ _ _ _, fun k hk => by simp [Value.ownBlock] at hk, fun _ => Nat.le_refl _, Nat.le_refl _, h, fun i p h => by simp at h⟩
theorem CrewMem.keep {w w' : World} {v : Value} {ps : List GPerson} {lo hi hi' : Nat} (h : CrewMem w v ps lo hi) (hh : hi ≤ hi') (hk : ∀ b, lo ≤ b → b < hi → w'.heap[b]? = w.heap[b]?) : CrewMem w' v ps lo hi' := by
  obtain ⟨cs, f, h1, h2, h3, h4, h5, h6⟩ := h
  refine ⟨cs, f, ⟨h1.1, ?_⟩, fun k hk => Nat.lt_of_lt_of_le (h2 k hk) hh, h3, h4, Nat.le_trans h5 hh, fun i p hp => (h6 i p hp).keep fun b hb1 hb2 _ _ _ _ => hk b ?_ ?_⟩
  · rcases h1.2 with h7 | ⟨g, cap, cur, hv, hg, hb, r⟩
    · exact .inl h7
    · exact .inr ⟨g, cap, cur, hv, hg, (hk g hg (h2 g (by rw [hv]; rfl))).trans hb, r⟩
  · have := mono_le h3 (Nat.zero_le i); omega
  · have hi' := (List.getElem?_eq_some_iff.1 hp).1
    have := mono_le h3 (show i + 1 ≤ ps.length by omega)
    omega
theorem CrewMem.lt {w : World} {v : Value} {ps : List GPerson} {lo hi : Nat} (h : CrewMem w v ps lo hi) : ∀ k, v.ownBlock = some k → lo ≤ k ∧ k < hi := fun k hk => by
  obtain ⟨cs, f, h1, h2, _⟩ := h
  exact ⟨(h1.lt k hk).1, h2 k hk⟩
theorem rowSl {w : World} {S : Nat → Prop} {g cap : Nat} {cur : Array Value} {ps : List GPerson} (hg : w.heap[g]? = some (.cells cur 40 (0, 0))) (hS : S g) (hc : ps.length ≤ cap) (hm : cap ≤ maxLen)
    (h : ∀ i p, ps[i]? = some p → Ty.person.rep w S ((cur.toList.drop (i * 7)).take 7) p) : Sl Ty.person w S (some ⟨g, 0, none⟩) ps.length cap ps := by
  refine ⟨rfl, hc, hm, fun _ => ⟨g, 0, rfl, hS, fun i x hi => ⟨_, h i x hi, fun j u hu => ?_⟩⟩⟩
  rw [block_cell hg]
  rw [List.getElem?_take] at hu
  split at hu
  · rw [List.getElem?_drop] at hu
    rw [Nat.zero_add]
    simpa [Ty.person] using hu
  · cases hu
theorem take_cut {cur : List Value} {n i : Nat} (h : i < n) : ((cur.take (n * 7)).drop (i * 7)).take 7 = (cur.drop (i * 7)).take 7 := by
  rw [List.drop_take, List.take_take, Nat.min_eq_left (by omega)]
theorem CrewMem.sl {w : World} {v : Value} {ps : List GPerson} {lo hi : Nat} (h : CrewMem w v ps lo hi) : ∃ A c, v = .slice A ps.length c ∧ Sl Ty.person w (all_ w) A ps.length c ps := by
  obtain ⟨cs, f, h1, h2, h3, h4, h5, h6⟩ := h
  rcases h1.2 with ⟨rfl, h7⟩ | ⟨g, cap, cur, hv, hg, hb, hc, hm, hs, ht⟩
  · rw [h7, List.eq_nil_of_length_eq_zero h7]
    exact ⟨none, 0, rfl, Sl.nil0⟩
  · refine ⟨_, cap, hv, rowSl hb (Array.getElem?_eq_some_iff.1 hb).1 hc hm fun i p hp => ?_⟩
    have := (h6 i p hp).rep
    rwa [← ht, take_cut (List.getElem?_eq_some_iff.1 hp).1] at this
def extF (f : Nat → Nat) (n h j : Nat) : Nat := if j ≤ n then f j else h
/-- append of one person whose box (a slice of one) lies in block b. -/
theorem wpList_crew_push {P : Program} {ops : Array Oper} {rest : List Oper} {o : Oper} {a : Act} {Q : Exit → Act → World → Prop} {w : World} {v : Value} {ps : List GPerson} {p : GPerson} {lo hi h2 : Nat} (hgd : o.guard = none) (s x : Operand) (T : TypeId)
    (ho : o.op = .call { callee := .builtin .append, args := #[s, x], argTypes := #[T, T] }) (he : Elem P T 40 7 104) (hs : a.eval s = v) (hown : CrewMem w v ps lo hi) (hh : hi ≤ h2) (hlw : lo ≤ w.heap.size)
    (b : Nat) (cs1 : List Value) (hx : a.eval x = .slice (some ⟨b, 0, none⟩) 1 1) (hy : POwn w h2 w.heap.size cs1 p) (hat : At w b 0 cs1) (h2w : h2 ≤ w.heap.size)
    (hlen : ps.length < 1000)
    (h : ∀ v' w', CrewMem w' v' (ps ++ [p]) lo w'.heap.size → w.grownBy w' v.ownBlock → wpList P ops Q rest (a.put o.dst v') w') : wpList P ops Q (o :: rest) a w := by
  obtain ⟨i, z, hi', hz, g1, g2, g3⟩ := he.parts
  obtain ⟨cs, f, k1, k2, k3, k4, k5, k6⟩ := hown
  obtain ⟨tv, vv, e, ht, lt, hv, lv⟩ := hy
  have hone : ∀ u ∈ cs1, u.oneCell' = true := fun u hu => by
    obtain ⟨A1, c1, e1, _⟩ := ht.sl
    obtain ⟨A2, c2, e2, _⟩ := hv.sl
    subst e e1 e2
    simp at hu
    rcases hu with rfl | rfl | rfl | rfl | rfl | rfl | rfl <;> rfl
  refine wpList_append_own_at _ hgd s x T ho lo 40 i z 7 104 he.1 hi' hz g1 g2 g3 (by decide) v ps.length cs hs k1 ⟨b, 0, none⟩ 1 1 cs1 hx (by rw [e]; rfl) (fun j u hu => by rw [addr_add]; exact hat j u hu) hone (by unfold maxLen; omega) (by omega) hlw ?_
  intro v' w' ho' hgr _ hv'
  have hkeep : ∀ q, q < w.heap.size → ∀ cur T', w.heap[q]? = some (.cells cur T' (0, 0)) → T' ≠ 40 → w'.heap[q]? = w.heap[q]? := fun q hq cur T' hc hT => by
    refine hgr.block q hq fun e1 => ?_
    rcases k1.2 with ⟨rfl, _⟩ | ⟨g, cap, cur2, rfl, _, hg, _⟩
    · simp [Value.ownBlock] at e1
    · simp [Value.ownBlock] at e1
      subst e1
      rw [hg] at hc
      injection hc with hc
      injection hc with _ h8
      exact hT h8.symm
  have hcl : cs.length = ps.length * 7 := k1.1
  refine h v' w' ⟨cs ++ cs1, extF f ps.length w'.heap.size, by simpa using ho', fun k hk => (ho'.lt k hk).2, fun j => ?_, ?_, ?_, fun j q hq => ?_⟩ hgr
  · unfold extF
    have hsz := hgr.size
    have hm := mono_le k3 (show j ≤ j + 1 by omega)
    by_cases h1 : j + 1 ≤ ps.length
    · rw [if_pos (by omega), if_pos h1]; exact hm
    · by_cases h3 : j ≤ ps.length
      · rw [if_pos h3, if_neg h1, show j = ps.length by omega]; omega
      · rw [if_neg h3, if_neg h1]; exact Nat.le_refl _
  · unfold extF
    rw [if_pos (Nat.zero_le _)]; exact k4
  · unfold extF
    rw [List.length_append, List.length_singleton, if_neg (by omega)]; exact Nat.le_refl _
  · unfold extF
    have hjl := (List.getElem?_eq_some_iff.1 hq).1
    rw [List.length_append, List.length_singleton] at hjl
    rcases Nat.lt_or_ge j ps.length with hlt | hge
    · rw [List.getElem?_append_left hlt] at hq
      have hp := k6 j q hq
      rw [if_pos (by omega), if_pos (by omega), List.drop_append_of_le_length (by omega), List.take_append_of_le_length (by rw [List.length_drop]; omega)]
      refine hp.keep fun b1 hb1 hb2 cur T' hc hT => hkeep b1 ?_ cur T' hc hT
      exact (Array.getElem?_eq_some_iff.1 hc).1
    · have hj : j = ps.length := by omega
      subst hj
      rw [List.getElem?_append_right (Nat.le_refl _), Nat.sub_self] at hq
      simp at hq
      subst hq
      have e2 : (cs ++ cs1).drop (ps.length * 7) = cs1 := by rw [← hcl, List.drop_left]
      have hl1 : cs1.length = 7 := by rw [e]; rfl
      rw [if_pos (Nat.le_refl _), if_neg (by omega), e2, List.take_of_length_le (by omega)]
      have hsz := hgr.size
      have hfl : f ps.length ≤ h2 := by omega
      refine ⟨tv, vv, e, (ht.flat0 flat_str fun b1 hb1 => ?_).lower hfl, fun k hk => ?_, (hv.flat0 flat_shift fun b1 hb1 => ?_).lower hfl, fun k hk => ?_⟩
      · obtain ⟨cur, hc⟩ := ht.tag hb1
        exact hkeep b1 (lt b1 hb1) cur _ hc (by decide)
      · have := lt k hk; omega
      · obtain ⟨cur, hc⟩ := hv.tag hb1
        exact hkeep b1 (lv b1 hb1) cur _ hc (by decide)
      · have := lv k hk; omega
theorem drop_take_set {cur : List Value} {i k j : Nat} {x : Value} (hj : j < 7) : (((cur.set (i * 7 + j) x).drop (k * 7)).take 7) = if k = i then ((cur.drop (k * 7)).take 7).set j x else (cur.drop (k * 7)).take 7 := by
  apply List.ext_getElem?
  intro q
  by_cases hki : k = i
  · subst hki
    rw [if_pos rfl]
    simp only [List.getElem?_take, List.getElem?_drop, List.getElem?_set]
    by_cases hq : q < 7
    · rw [if_pos hq]
      by_cases hqj : j = q
      · subst hqj
        rw [if_pos rfl, if_pos rfl]
        simp only [List.length_take, List.length_drop]
        by_cases h9 : k * 7 + j < cur.length
        · rw [if_pos h9, if_pos (by omega)]
        · rw [if_neg h9, if_neg (by omega)]
      · rw [if_neg (by omega), if_neg hqj, if_pos hq]
    · rw [if_neg hq, if_neg (by omega)]
      rw [if_neg hq]
  · rw [if_neg hki]
    simp only [List.getElem?_take, List.getElem?_drop, List.getElem?_set]
    by_cases hq : q < 7
    · rw [if_pos hq, if_pos hq, if_neg (by omega)]
    · rw [if_neg hq, if_neg hq]
/-- One person of the crew: its cells, its lists' rows; and what remains where one of its cells is written, its rows perhaps grown. -/
theorem CrewMem.one {w : World} {v : Value} {ps : List GPerson} {lo hi : Nat} (h : CrewMem w v ps lo hi) {i : Nat} (hi' : i < ps.length) :
    ∃ g cap cur tv vv a z, v = .slice (some ⟨g, 0, none⟩) ps.length cap ∧ lo ≤ g ∧ lo ≤ a ∧ w.heap[g]? = some (.cells cur 40 (0, 0)) ∧
      (cur.toList.drop (i * 7)).take 7 = [.int .i64 (ps.getD i noPerson).id, .string (ps.getD i noPerson).name, .string (ps.getD i noPerson).base, .int .i64 (ps.getD i noPerson).rank, .int .i64 (ps.getD i noPerson).sen, tv, vv] ∧
      Own Ty.str 9 w a tv (ps.getD i noPerson).types ∧ (∀ k, tv.ownBlock = some k → k < z) ∧ Own Ty.shift 42 w a vv (ps.getD i noPerson).vacs ∧ (∀ k, vv.ownBlock = some k → k < z) ∧
      ∀ (w' : World) (j : Nat) (x : Value) (p' : GPerson), j < 7 → w'.heap[g]? = some (.cells (cur.setIfInBounds (i * 7 + j) x) 40 (0, 0)) → (∀ q, q < w.heap.size → q ≠ g → ¬ (a ≤ q ∧ q < z) → w'.heap[q]? = w.heap[q]?) → w.heap.size ≤ w'.heap.size →
        Ty.person.rep w' (all_ w') (([.int .i64 (ps.getD i noPerson).id, .string (ps.getD i noPerson).name, .string (ps.getD i noPerson).base, .int .i64 (ps.getD i noPerson).rank, .int .i64 (ps.getD i noPerson).sen, tv, vv] : List Value).set j x) p' → Sl Ty.person w' (all_ w') (some ⟨g, 0, none⟩) ps.length cap (ps.set i p') := by
  obtain ⟨cs, f, h1, h2, h3, h4, h5, h6⟩ := h
  rcases h1.2 with ⟨rfl, h7⟩ | ⟨g, cap, cur, hv, hg, hb, hc, hm, hs, ht⟩
  · omega
  · have hp : ps[i]? = some (ps.getD i noPerson) := by rw [List.getD_eq_getElem?_getD, List.getElem?_eq_getElem hi']; rfl
    obtain ⟨tv, vv, e, o1, l1, o2, l2⟩ := h6 i _ hp
    rw [← ht, take_cut hi'] at e
    have hlo := mono_le h3 (Nat.zero_le i)
    refine ⟨g, cap, cur, tv, vv, f i, f (i + 1), hv, hg, by omega, hb, e, o1, l1, o2, l2, fun w' j x p' hj hg' hk hsz hrep => ?_⟩
    have hgl : g < w'.heap.size := (Array.getElem?_eq_some_iff.1 hg').1
    have hll : (ps.set i p').length = ps.length := by simp
    rw [← hll]
    refine rowSl hg' hgl (by rw [hll]; exact hc) hm fun k p hk' => ?_
    have hkl := (List.getElem?_eq_some_iff.1 hk').1
    rw [hll] at hkl
    rw [Array.toList_setIfInBounds, drop_take_set hj]
    by_cases hki : k = i
    · subst hki
      rw [if_pos rfl, e]
      rw [List.getElem?_set_self hi'] at hk'
      injection hk' with hk'
      subst hk'
      exact hrep
    · rw [if_neg hki]
      rw [List.getElem?_set_ne (fun e => hki e.symm)] at hk'
      have hpk := h6 k p hk'
      rw [← ht, take_cut hkl] at hpk
      refine (hpk.keep fun b hb1 hb2 cur2 T hc2 hT => hk b (Array.getElem?_eq_some_iff.1 hc2).1 (fun e2 => ?_) (fun h9 => ?_)).rep
      · subst e2
        rw [hb] at hc2
        injection hc2 with hc2
        injection hc2 with _ h8
        exact hT h8.symm
      · rcases Nat.lt_or_gt_of_ne hki with hlt | hgt
        · have := mono_le h3 (show k + 1 ≤ i by omega)
          omega
        · have := mono_le h3 (show i + 1 ≤ k by omega)
          omega
end Go.Proofs.Ytkhedjfdjjeopaa
