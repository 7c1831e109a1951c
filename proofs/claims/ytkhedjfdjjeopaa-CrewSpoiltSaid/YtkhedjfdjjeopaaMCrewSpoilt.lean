/-
  The row of CrewSpoilt: for every input the law returns true, and the arguments read as before. No condition.
-/
import Derived.Test.YtkhedjfdjjeopaaCrewRead
import Derived.Test.YtkhedjfdjjeopaaCopy
import Derived.Test.YtkhedjfdjjeopaaRef8Enc
import Derived.Test.YtkhedjfdjjeopaaBaseAt
import Derived.Test.YtkhedjfdjjeopaaRegion
import Derived.Deep.DeepCutAuto
import Derived.Test.YtkhedjfdjjeopaaCrewAwake
import Derived.Test.YtkhedjfdjjeopaaCrewVR
import Derived.Deep.CutBlock
import Derived.Test.YtkhedjfdjjeopaaRowLib
import Derived.Test.YtkhedjfdjjeopaaFitsCrew
/-
  A built crew in memory: each person's lists in rows of their own, apart from each other; append of a person; one cell or one list changed.
  No condition.
-/
namespace Go.Proofs.Ytkhedjfdjjeopaa
set_option linter.unusedSimpArgs false
set_option linter.unusedVariables false
open Go.RowKit

theorem Own.flat0 {α : Type} {t : Ty α} {e : TypeId} {w w' : World} {base : Nat} {v : Value} {xs : List α} (ht : t.Flat) (h : Own t e w base v xs) (hk : ∀ b, v.ownBlock = some b → w'.heap[b]? = w.heap[b]?) : Own t e w' base v xs := by
  obtain ⟨cs, h1, h2⟩ := h
  refine ⟨cs, ⟨h1.1, ?_⟩, h2.flat ht⟩
  rcases h1.2 with h3 | ⟨g, cap, cur, hv, hg, hb, r⟩
  · exact .inl h3
  · exact .inr ⟨g, cap, cur, hv, hg, (hk g (by rw [hv]; rfl)).trans hb, r⟩
/-- A row's block has the row's type. -/
theorem Own.tag {α : Type} {t : Ty α} {e : TypeId} {w : World} {base : Nat} {v : Value} {xs : List α} (h : Own t e w base v xs) {b : Nat} (hb : v.ownBlock = some b) : ∃ cur, w.heap[b]? = some (.cells cur e (0, 0)) := by
  obtain ⟨cs, h1, _⟩ := h
  rcases h1.2 with ⟨rfl, _⟩ | ⟨g, cap, cur, rfl, _, hg, _⟩
  · simp [Value.ownBlock] at hb
  · simp [Value.ownBlock] at hb
    subst hb
    exact ⟨cur, hg⟩
/-- A person's seven cells; the two lists lie in rows from block a on, ahead of block z. -/
def POwn (w : World) (a z : Nat) (cs : List Value) (p : GPerson) : Prop :=
  ∃ tv vv, cs = [.int .i64 p.id, .string p.name, .string p.base, .int .i64 p.rank, .int .i64 p.sen, tv, vv] ∧ Own Ty.str 9 w a tv p.types ∧ (∀ k, tv.ownBlock = some k → k < z) ∧ Own Ty.shift 42 w a vv p.vacs ∧ (∀ k, vv.ownBlock = some k → k < z)
theorem POwn.keep {w w' : World} {a z : Nat} {cs : List Value} {p : GPerson} (h : POwn w a z cs p) (hk : ∀ b, a ≤ b → b < z → ∀ cur T, w.heap[b]? = some (.cells cur T (0, 0)) → T ≠ 40 → w'.heap[b]? = w.heap[b]?) : POwn w' a z cs p := by
  obtain ⟨tv, vv, e, h1, l1, h2, l2⟩ := h
  refine ⟨tv, vv, e, h1.flat0 flat_str fun b hb => ?_, l1, h2.flat0 flat_shift fun b hb => ?_, l2⟩
  · obtain ⟨cur, hc⟩ := h1.tag hb
    exact hk b (h1.lt b hb).1 (l1 b hb) cur _ hc (by decide)
  · obtain ⟨cur, hc⟩ := h2.tag hb
    exact hk b (h2.lt b hb).1 (l2 b hb) cur _ hc (by decide)
theorem POwn.rep {w : World} {a z : Nat} {cs : List Value} {p : GPerson} (h : POwn w a z cs p) : Ty.person.rep w (all_ w) cs p := by
  obtain ⟨tv, vv, e, h1, l1, h2, l2⟩ := h
  obtain ⟨A1, c1, rfl, s1⟩ := h1.sl
  obtain ⟨A2, c2, rfl, s2⟩ := h2.sl
  exact ⟨A1, _, c1, A2, _, c2, e, s1.more fun b hb => hb.2, s2.more fun b hb => hb.2⟩
/-- The crew ps in the row v, all from block lo on and ahead of block hi. -/
def CrewMem (w : World) (v : Value) (ps : List GPerson) (lo hi : Nat) : Prop :=
  ∃ (cs : List Value) (f : Nat → Nat), w.ownsRow lo 40 7 v ps.length cs ∧ (∀ k, v.ownBlock = some k → k < hi) ∧ (∀ i, f i ≤ f (i + 1)) ∧ lo ≤ f 0 ∧ f ps.length ≤ hi ∧ ∀ i p, ps[i]? = some p → POwn w (f i) (f (i + 1)) ((cs.drop (i * 7)).take 7) p
theorem mono_le {f : Nat → Nat} (h : ∀ i, f i ≤ f (i + 1)) {i j : Nat} (hij : i ≤ j) : f i ≤ f j := by
  induction j with
  | zero => rw [show i = 0 by omega]; exact Nat.le_refl _
  | succ j ih =>
    rcases Nat.lt_or_eq_of_le hij with h1 | h1
    · exact Nat.le_trans (ih (by omega)) (h j)
    · rw [h1]; exact Nat.le_refl _
theorem CrewMem.nil (w : World) {lo hi : Nat} (h : lo ≤ hi) : CrewMem w (.slice none 0 0) [] lo hi :=
  ⟨[], fun _ => lo, World.ownsRow_nil _ _ _ _, fun k hk => by simp [Value.ownBlock] at hk, fun _ => Nat.le_refl _, Nat.le_refl _, h, fun i p h => by simp at h⟩
theorem CrewMem.keep {w w' : World} {v : Value} {ps : List GPerson} {lo hi hi' : Nat} (h : CrewMem w v ps lo hi) (hh : hi ≤ hi') (hk : ∀ b, lo ≤ b → b < hi → w'.heap[b]? = w.heap[b]?) : CrewMem w' v ps lo hi' := by
  obtain ⟨cs, f, h1, h2, h3, h4, h5, h6⟩ := h
  refine ⟨cs, f, ⟨h1.1, ?_⟩, fun k hk => Nat.lt_of_lt_of_le (h2 k hk) hh, h3, h4, Nat.le_trans h5 hh, fun i p hp => (h6 i p hp).keep fun b hb1 hb2 _ _ _ _ => hk b ?_ ?_⟩
  · rcases h1.2 with h7 | ⟨g, cap, cur, hv, hg, hb, r⟩
    · exact .inl h7
    · exact .inr ⟨g, cap, cur, hv, hg, (hk g hg (h2 g (by rw [hv]; rfl))).trans hb, r⟩
  · have := mono_le h3 (Nat.zero_le i); omega
  · have hi' := (List.getElem?_eq_some_iff.1 hp).1
    have := mono_le h3 (show i + 1 ≤ ps.length by omega)
    omega
theorem CrewMem.lt {w : World} {v : Value} {ps : List GPerson} {lo hi : Nat} (h : CrewMem w v ps lo hi) : ∀ k, v.ownBlock = some k → lo ≤ k ∧ k < hi := fun k hk => by
  obtain ⟨cs, f, h1, h2, _⟩ := h
  exact ⟨(h1.lt k hk).1, h2 k hk⟩
theorem rowSl {w : World} {S : Nat → Prop} {g cap : Nat} {cur : Array Value} {ps : List GPerson} (hg : w.heap[g]? = some (.cells cur 40 (0, 0))) (hS : S g) (hc : ps.length ≤ cap) (hm : cap ≤ maxLen)
    (h : ∀ i p, ps[i]? = some p → Ty.person.rep w S ((cur.toList.drop (i * 7)).take 7) p) : Sl Ty.person w S (some ⟨g, 0, none⟩) ps.length cap ps := by
  refine ⟨rfl, hc, hm, fun _ => ⟨g, 0, rfl, hS, fun i x hi => ⟨_, h i x hi, fun j u hu => ?_⟩⟩⟩
  rw [block_cell hg]
  rw [List.getElem?_take] at hu
  split at hu
  · rw [List.getElem?_drop] at hu
    rw [Nat.zero_add]
    simpa [Ty.person] using hu
  · cases hu
theorem take_cut {cur : List Value} {n i : Nat} (h : i < n) : ((cur.take (n * 7)).drop (i * 7)).take 7 = (cur.drop (i * 7)).take 7 := by
  rw [List.drop_take, List.take_take, Nat.min_eq_left (by omega)]
theorem CrewMem.sl {w : World} {v : Value} {ps : List GPerson} {lo hi : Nat} (h : CrewMem w v ps lo hi) : ∃ A c, v = .slice A ps.length c ∧ Sl Ty.person w (all_ w) A ps.length c ps := by
  obtain ⟨cs, f, h1, h2, h3, h4, h5, h6⟩ := h
  rcases h1.2 with ⟨rfl, h7⟩ | ⟨g, cap, cur, hv, hg, hb, hc, hm, hs, ht⟩
  · rw [h7, List.eq_nil_of_length_eq_zero h7]
    exact ⟨none, 0, rfl, Sl.nil0⟩
  · refine ⟨_, cap, hv, rowSl hb (Array.getElem?_eq_some_iff.1 hb).1 hc hm fun i p hp => ?_⟩
    have := (h6 i p hp).rep
    rwa [← ht, take_cut (List.getElem?_eq_some_iff.1 hp).1] at this
def extF (f : Nat → Nat) (n h j : Nat) : Nat := if j ≤ n then f j else h
/-- append of one person whose box (a slice of one) lies in block b. -/
theorem wpList_crew_push {P : Program} {ops : Array Oper} {rest : List Oper} {o : Oper} {a : Act} {Q : Exit → Act → World → Prop} {w : World} {v : Value} {ps : List GPerson} {p : GPerson} {lo hi h2 : Nat} (hgd : o.guard = none) (s x : Operand) (T : TypeId)
    (ho : o.op = .call { callee := .builtin .append, args := #[s, x], argTypes := #[T, T] }) (he : Elem P T 40 7 104) (hs : a.eval s = v) (hown : CrewMem w v ps lo hi) (hh : hi ≤ h2) (hlw : lo ≤ w.heap.size)
    (b : Nat) (cs1 : List Value) (hx : a.eval x = .slice (some ⟨b, 0, none⟩) 1 1) (hy : POwn w h2 w.heap.size cs1 p) (hat : At w b 0 cs1) (h2w : h2 ≤ w.heap.size)
    (hlen : ps.length < 1000)
    (h : ∀ v' w', CrewMem w' v' (ps ++ [p]) lo w'.heap.size → w.grownBy w' v.ownBlock → wpList P ops Q rest (a.put o.dst v') w') : wpList P ops Q (o :: rest) a w := by
  obtain ⟨i, z, hi', hz, g1, g2, g3⟩ := he.parts
  obtain ⟨cs, f, k1, k2, k3, k4, k5, k6⟩ := hown
  obtain ⟨tv, vv, e, ht, lt, hv, lv⟩ := hy
  have hone : ∀ u ∈ cs1, u.oneCell' = true := fun u hu => by
    obtain ⟨A1, c1, e1, _⟩ := ht.sl
    obtain ⟨A2, c2, e2, _⟩ := hv.sl
    subst e e1 e2
    simp at hu
    rcases hu with rfl | rfl | rfl | rfl | rfl | rfl | rfl <;> rfl
  refine wpList_append_own_at _ hgd s x T ho lo 40 i z 7 104 he.1 hi' hz g1 g2 g3 (by decide) v ps.length cs hs k1 ⟨b, 0, none⟩ 1 1 cs1 hx (by rw [e]; rfl) (fun j u hu => by rw [addr_add]; exact hat j u hu) hone (by unfold maxLen; omega) (by omega) hlw ?_
  intro v' w' ho' hgr _ hv'
  have hkeep : ∀ q, q < w.heap.size → ∀ cur T', w.heap[q]? = some (.cells cur T' (0, 0)) → T' ≠ 40 → w'.heap[q]? = w.heap[q]? := fun q hq cur T' hc hT => by
    refine hgr.block q hq fun e1 => ?_
    rcases k1.2 with ⟨rfl, _⟩ | ⟨g, cap, cur2, rfl, _, hg, _⟩
    · simp [Value.ownBlock] at e1
    · simp [Value.ownBlock] at e1
      subst e1
      rw [hg] at hc
      injection hc with hc
      injection hc with _ h8
      exact hT h8.symm
  have hcl : cs.length = ps.length * 7 := k1.1
  refine h v' w' ⟨cs ++ cs1, extF f ps.length w'.heap.size, by simpa using ho', fun k hk => (ho'.lt k hk).2, fun j => ?_, ?_, ?_, fun j q hq => ?_⟩ hgr
  · unfold extF
    have hsz := hgr.size
    have hm := mono_le k3 (show j ≤ j + 1 by omega)
    by_cases h1 : j + 1 ≤ ps.length
    · rw [if_pos (by omega), if_pos h1]; exact hm
    · by_cases h3 : j ≤ ps.length
      · rw [if_pos h3, if_neg h1, show j = ps.length by omega]; omega
      · rw [if_neg h3, if_neg h1]; exact Nat.le_refl _
  · unfold extF
    rw [if_pos (Nat.zero_le _)]; exact k4
  · unfold extF
    rw [List.length_append, List.length_singleton, if_neg (by omega)]; exact Nat.le_refl _
  · unfold extF
    have hjl := (List.getElem?_eq_some_iff.1 hq).1
    rw [List.length_append, List.length_singleton] at hjl
    rcases Nat.lt_or_ge j ps.length with hlt | hge
    · rw [List.getElem?_append_left hlt] at hq
      have hp := k6 j q hq
      rw [if_pos (by omega), if_pos (by omega), List.drop_append_of_le_length (by omega), List.take_append_of_le_length (by rw [List.length_drop]; omega)]
      refine hp.keep fun b1 hb1 hb2 cur T' hc hT => hkeep b1 ?_ cur T' hc hT
      exact (Array.getElem?_eq_some_iff.1 hc).1
    · have hj : j = ps.length := by omega
      subst hj
      rw [List.getElem?_append_right (Nat.le_refl _), Nat.sub_self] at hq
      simp at hq
      subst hq
      have e2 : (cs ++ cs1).drop (ps.length * 7) = cs1 := by rw [← hcl, List.drop_left]
      have hl1 : cs1.length = 7 := by rw [e]; rfl
      rw [if_pos (Nat.le_refl _), if_neg (by omega), e2, List.take_of_length_le (by omega)]
      have hsz := hgr.size
      have hfl : f ps.length ≤ h2 := by omega
      refine ⟨tv, vv, e, (ht.flat0 flat_str fun b1 hb1 => ?_).lower hfl, fun k hk => ?_, (hv.flat0 flat_shift fun b1 hb1 => ?_).lower hfl, fun k hk => ?_⟩
      · obtain ⟨cur, hc⟩ := ht.tag hb1
        exact hkeep b1 (lt b1 hb1) cur _ hc (by decide)
      · have := lt k hk; omega
      · obtain ⟨cur, hc⟩ := hv.tag hb1
        exact hkeep b1 (lv b1 hb1) cur _ hc (by decide)
      · have := lv k hk; omega
theorem drop_take_set {cur : List Value} {i k j : Nat} {x : Value} (hj : j < 7) : (((cur.set (i * 7 + j) x).drop (k * 7)).take 7) = if k = i then ((cur.drop (k * 7)).take 7).set j x else (cur.drop (k * 7)).take 7 := by
  apply List.ext_getElem?
  intro q
  by_cases hki : k = i
  · subst hki
    rw [if_pos rfl]
    simp only [List.getElem?_take, List.getElem?_drop, List.getElem?_set]
    by_cases hq : q < 7
    · rw [if_pos hq]
      by_cases hqj : j = q
      · subst hqj
        rw [if_pos rfl, if_pos rfl]
        simp only [List.length_take, List.length_drop]
        by_cases h9 : k * 7 + j < cur.length
        · rw [if_pos h9, if_pos (by omega)]
        · rw [if_neg h9, if_neg (by omega)]
      · rw [if_neg (by omega), if_neg hqj, if_pos hq]
    · rw [if_neg hq, if_neg (by omega)]
      rw [if_neg hq]
  · rw [if_neg hki]
    simp only [List.getElem?_take, List.getElem?_drop, List.getElem?_set]
    by_cases hq : q < 7
    · rw [if_pos hq, if_pos hq, if_neg (by omega)]
    · rw [if_neg hq, if_neg hq]
/-- One person of the crew: its cells, its lists' rows; and what remains where one of its cells is written, its rows perhaps grown. -/
theorem CrewMem.one {w : World} {v : Value} {ps : List GPerson} {lo hi : Nat} (h : CrewMem w v ps lo hi) {i : Nat} (hi' : i < ps.length) :
    ∃ g cap cur tv vv a z, v = .slice (some ⟨g, 0, none⟩) ps.length cap ∧ lo ≤ g ∧ lo ≤ a ∧ w.heap[g]? = some (.cells cur 40 (0, 0)) ∧
      (cur.toList.drop (i * 7)).take 7 = [.int .i64 (ps.getD i noPerson).id, .string (ps.getD i noPerson).name, .string (ps.getD i noPerson).base, .int .i64 (ps.getD i noPerson).rank, .int .i64 (ps.getD i noPerson).sen, tv, vv] ∧
      Own Ty.str 9 w a tv (ps.getD i noPerson).types ∧ (∀ k, tv.ownBlock = some k → k < z) ∧ Own Ty.shift 42 w a vv (ps.getD i noPerson).vacs ∧ (∀ k, vv.ownBlock = some k → k < z) ∧
      ∀ (w' : World) (j : Nat) (x : Value) (p' : GPerson), j < 7 → w'.heap[g]? = some (.cells (cur.setIfInBounds (i * 7 + j) x) 40 (0, 0)) → (∀ q, q < w.heap.size → q ≠ g → ¬ (a ≤ q ∧ q < z) → w'.heap[q]? = w.heap[q]?) → w.heap.size ≤ w'.heap.size →
        Ty.person.rep w' (all_ w') (([.int .i64 (ps.getD i noPerson).id, .string (ps.getD i noPerson).name, .string (ps.getD i noPerson).base, .int .i64 (ps.getD i noPerson).rank, .int .i64 (ps.getD i noPerson).sen, tv, vv] : List Value).set j x) p' → Sl Ty.person w' (all_ w') (some ⟨g, 0, none⟩) ps.length cap (ps.set i p') := by
  obtain ⟨cs, f, h1, h2, h3, h4, h5, h6⟩ := h
  rcases h1.2 with ⟨rfl, h7⟩ | ⟨g, cap, cur, hv, hg, hb, hc, hm, hs, ht⟩
  · omega
  · have hp : ps[i]? = some (ps.getD i noPerson) := by rw [List.getD_eq_getElem?_getD, List.getElem?_eq_getElem hi']; rfl
    obtain ⟨tv, vv, e, o1, l1, o2, l2⟩ := h6 i _ hp
    rw [← ht, take_cut hi'] at e
    have hlo := mono_le h3 (Nat.zero_le i)
    refine ⟨g, cap, cur, tv, vv, f i, f (i + 1), hv, hg, by omega, hb, e, o1, l1, o2, l2, fun w' j x p' hj hg' hk hsz hrep => ?_⟩
    have hgl : g < w'.heap.size := (Array.getElem?_eq_some_iff.1 hg').1
    have hll : (ps.set i p').length = ps.length := by simp
    rw [← hll]
    refine rowSl hg' hgl (by rw [hll]; exact hc) hm fun k p hk' => ?_
    have hkl := (List.getElem?_eq_some_iff.1 hk').1
    rw [hll] at hkl
    rw [Array.toList_setIfInBounds, drop_take_set hj]
    by_cases hki : k = i
    · subst hki
      rw [if_pos rfl, e]
      rw [List.getElem?_set_self hi'] at hk'
      injection hk' with hk'
      subst hk'
      exact hrep
    · rw [if_neg hki]
      rw [List.getElem?_set_ne (fun e => hki e.symm)] at hk'
      have hpk := h6 k p hk'
      rw [← ht, take_cut hkl] at hpk
      refine (hpk.keep fun b hb1 hb2 cur2 T hc2 hT => hk b (Array.getElem?_eq_some_iff.1 hc2).1 (fun e2 => ?_) (fun h9 => ?_)).rep
      · subst e2
        rw [hb] at hc2
        injection hc2 with hc2
        injection hc2 with _ h8
        exact hT h8.symm
      · rcases Nat.lt_or_gt_of_ne hki with hlt | hgt
        · have := mono_le h3 (show k + 1 ≤ i by omega)
          omega
        · have := mono_le h3 (show i + 1 ≤ k by omega)
          omega
end Go.Proofs.Ytkhedjfdjjeopaa
/-
  Contract of pairinglaw10.Persons: a new crew of at most five persons, each one's lists apart.
  No condition but that the list reads as integers.
-/
namespace Go.Proofs.Ytkhedjfdjjeopaa
set_option linter.unusedSimpArgs false
set_option linter.unusedVariables false
open Go.RowKit

def typCells : Array Value := #[.string ⟨#[97, 51, 50, 48]⟩, .string ⟨#[98, 55, 51, 55]⟩, .string ⟨#[101, 49, 57, 48]⟩]
def chS (i : Nat) : ByteArray := ⟨#[UInt8.ofNat (97 + i)]⟩
def pNm (i : Nat) : ByteArray := ⟨#[112, UInt8.ofNat (97 + i)]⟩
theorem pNm_eq (i : Nat) : Value.string (⟨#[112]⟩ ++ chS i) = .string (pNm i) := rfl
def bC (k : Int) : ByteArray := baseCodes.getD k.toNat noStr
theorem ch_conv (w : World) (b i : Nat) (h : w.cell? ⟨b, 0, none⟩ = some (.int .u8 (97 + i))) : (convert 45 9 (.slice (some ⟨b, 0, none⟩) 1 1)).run Try.prog w = .ok (.string (chS i)) w := by
  have hs : Sl (Ty.int .u8) w (fun _ => True) (some ⟨b, 0, none⟩) 1 1 [97 + (i : Int)] := by
    refine ⟨rfl, Nat.le_refl _, by decide, fun _ => ⟨b, 0, rfl, trivial, fun j x hj => ⟨_, rfl, fun k u hu => ?_⟩⟩⟩
    rcases j with _ | j
    · rcases k with _ | k
      · simp at hj hu
        subst hj hu
        simpa using h
      · simp at hu
    · simp at hj
  have := run_string_of (P := Try.prog) (src := 45) (dst := 9) Try.underlying45 Try.underlying5 Try.underlying9 hs (by simp)
  rw [this]
  have e : (97 + (i : Int)).toNat = 97 + i := by omega
  simp [strOf, bs, e, chS]
/-- What each operation of the person's region leaves in its slot. -/
def regP (k : Nat) (nn : Int) (H : Nat) : Nat → Value → World → Prop
  | 0, v, _ => v = .int .i64 k
  | 1, v, _ => v = .int .i64 (10 * k)
  | 2, v, _ => v = .int .i64 (10 * k + 1)
  | 3, v, _ => v = .int .i64 nn
  | 4, v, _ => v = .int .i64 (nn % 9)
  | 5, v, _ => v = .int .i64 (10 * k + 1 + nn % 9)
  | 6, v, _ => v = .int .i64 k
  | 7, v, _ => v = .int .i64 (97 + k)
  | 8, v, _ => v = .int .u8 (97 + k)
  | 9, v, w => ∃ b, v = .slice (some ⟨b, 0, none⟩) 1 1 ∧ w.cell? ⟨b, 0, none⟩ = some (.int .u8 (97 + k))
  | 10, v, _ => v = .string (chS k)
  | 11, v, _ => v = .string (pNm k)
  | 12, v, w => ∃ A n c, v = .slice A n c ∧ Sl Ty.str w (all_ w) A n c baseCodes
  | 13, v, _ => v = .int .i64 nn
  | 14, v, _ => v = .int .i64 (nn / 4)
  | 15, v, _ => v = .int .i64 (nn / 4 % 2)
  | 16, v, w => ∃ b o, v = .pointer (some ⟨b, o, none⟩) ∧ w.cell? ⟨b, o, none⟩ = some (.string (bC (nn / 4 % 2)))
  | 17, v, _ => v = .string (bC (nn / 4 % 2))
  | 18, v, _ => v = .int .i64 nn
  | 19, v, _ => v = .int .i64 (nn / 8)
  | 20, v, _ => v = .int .i64 (nn / 8 % 3)
  | 21, v, _ => v = .int .i64 k
  | 22, v, _ => v = .int .i64 (7 * k)
  | 23, v, _ => v = .int .i64 (100 - 7 * k)
  | 24, v, _ => v = .agg #[.int .i64 (10 * k + 1 + nn % 9), .string (pNm k), .string (bC (nn / 4 % 2)), .int .i64 (nn / 8 % 3), .int .i64 (100 - 7 * k), .slice none 0 0, .slice none 0 0]
  | 25, v, w => ∃ b, v = .pointer (some ⟨b, 0, none⟩) ∧ H ≤ b ∧ w.heap[b]? = some (.cells #[.int .i64 0, .string ⟨#[]⟩, .string ⟨#[]⟩, .int .i64 0, .int .i64 0, .slice none 0 0, .slice none 0 0] 40 (0, 0))
  | _, _, _ => True
theorem regP_keep {k : Nat} {nn : Int} {H : Nat} : ∀ (i : Nat) (v : Value) (w w' : World), regP k nn H i v w → Below w.heap.size w w' → regP k nn H i v w' := by
  intro i v w w' h hb
  unfold regP at h ⊢
  split at h <;> try exact h
  · obtain ⟨b, e, hc⟩ := h; exact ⟨b, e, cell_kept hc hb⟩
  · obtain ⟨A, n, c, e, hs⟩ := h; exact ⟨A, n, c, e, hs.next hb⟩
  · obtain ⟨b, o, e, hc⟩ := h; exact ⟨b, o, e, cell_kept hc hb⟩
  · obtain ⟨b, e, hH, hc⟩ := h; exact ⟨b, e, hH, (hb.block b (Array.getElem?_eq_some_iff.1 hc).1).trans hc⟩
theorem person_info : (Try.prog.info? 40).map (·.size) = some 7 := by kernel_rfl
theorem below_setRow {w0 w : World} {B b : Nat} {cs : Array Value} (h : Below B w0 w) (hb : B ≤ b) : Below B w0 (w.setRow b cs) :=
  ⟨h.os, h.tape, h.output, by simpa using h.size, fun q hq => (setRow_other _ _ _ _ (by omega)).trans (h.block q hq)⟩
/-- A person's box in block pb; all else of wx is as it was. -/
structure PB (wx : World) (pb : Nat) (wr : World) (cs : Array Value) : Prop where
  p : wr.heap[pb]? = some (.cells cs 40 (0, 0))
  but : But pb wx wr
  lt : pb < wx.heap.size
section
variable {wx : World} {pb : Nat} {wr w6 : World} {cs : Array Value} {o : Obj} {row : Option Nat}
theorem PB.p6 (h : PB wx pb wr cs) {q : Nat} (hgr : ((wr.drewN q).alloc o).grownBy w6 row) (hrow : ∀ k, row = some k → wx.heap.size ≤ k) : w6.heap[pb]? = some (.cells cs 40 (0, 0)) := by
  have h1 := h.lt; have h2 := h.but.size
  rw [hgr.block pb (by simp; omega) (fun e => by have := hrow pb e.symm; omega), Below.heap_alloc _ _ _ (by simp; omega)]
  exact h.p
theorem PB.step (h : PB wx pb wr cs) {q : Nat} (hgr : ((wr.drewN q).alloc o).grownBy w6 row) (hrow : ∀ k, row = some k → wx.heap.size ≤ k) (j : Nat) (v' : Value) : PB wx pb (w6.setCell ⟨pb, j, none⟩ v') (cs.setIfInBounds j v') :=
  ⟨heap_setCell_same _ _ _ _ _ _ (h.p6 hgr hrow), (((h.but.drewN q).alloc o).grown hgr hrow).setCell j v', h.lt⟩
end
theorem typ_cell (k : Nat) (h : k < 3) : ∃ s : ByteArray, typCells[k]? = some (.string s) ∧ s.size ≤ 16 := by
  have : k = 0 ∨ k = 1 ∨ k = 2 := by omega
  rcases this with rfl | rfl | rfl <;> exact ⟨_, rfl, by decide⟩
/-- Well formed, with short lists. -/
def GPerson.okS (p : GPerson) : Prop := p.ok ∧ p.types.length ≤ 3 ∧ p.vacs.length ≤ 3
def PersonsPost (w : World) (e : Ending) (w' : World) : Prop := ∃ v ps, e = .returned v ∧ CrewMem w' v ps w.heap.size w'.heap.size ∧ (∀ p ∈ ps, p.okS) ∧ ps.length ≤ 6 ∧ Below w.heap.size w w'
theorem bC_size (k : Int) : (bC k).size ≤ 16 := by
  unfold bC baseCodes
  generalize k.toNat = n
  rcases n with _ | _ | _ | n <;> simp [noStr, sAAA, sBBB, sCCC, ByteArray.size]

set_option maxRecDepth 100000 in
set_option maxHeartbeats 1600000 in
theorem persons_any (l : List Int) (A : Option Addr) (n c : Nat) (w : World) (h : Sl (Ty.int .i64) w (all_ w) A n c l) :
    Calls Try.prog 12 #[.slice A n c] w (PersonsPost w) := by
  have HS : Hid (∀ V, Below w.heap.size w V → Sl (Ty.int .i64) V (all_ V) A n c l) := fun V hV => h.next hV
  have hb0 := (Below.refl w.heap.size w).alloc (Nat.le_refl _) (.cells typCells 9)
  have hr0 := heap_alloc_new w (.cells typCells 9)
  have hz0 : (w.alloc (.cells typCells 9)).heap.size = w.heap.size + 1 := by simp
  have HB0 := Lib.hid hb0; have HR0 := Lib.hid hr0; have HZ0 := Lib.hid hz0
  clear h hb0 hr0 hz0
  have HIN : Hid (∃ v ps, v = Value.slice none 0 0 ∧ CrewMem (w.alloc (.cells typCells 9)) v ps (w.heap.size + 1) (w.alloc (.cells typCells 9)).heap.size ∧ (∀ p ∈ ps, p.okS) ∧ ps.length ≤ 0 ∧ Below w.heap.size w (w.alloc (.cells typCells 9)) ∧ (w.alloc (.cells typCells 9)).heap[w.heap.size]? = some (.cells typCells 9)) :=
    ⟨_, [], rfl, CrewMem.nil _ (by have := HZ0.out; omega), fun _ h => (by cases h), Nat.le_refl _, HB0.out, HR0.out⟩
  clear HB0 HR0 HZ0
  unfold typCells at HIN
  go_enter Try.func12, Try.ntmps12
  go_wp2_with fail
  have hcr := atL_range l 0
  generalize w.alloc (.cells #[.string ⟨#[97, 51, 50, 48]⟩, .string ⟨#[98, 55, 51, 55]⟩, .string ⟨#[101, 49, 57, 48]⟩] 9) = W at *
  go_loopw [3, 5] (fun s3 s5 wr => ∃ (k : Nat) (ps : List GPerson), k ≤ 6 ∧ s5 = .int .i64 k ∧ CrewMem wr s3 ps (w.heap.size + 1) wr.heap.size ∧ (∀ p ∈ ps, p.okS) ∧ ps.length ≤ k ∧ Below w.heap.size w wr ∧ wr.heap[w.heap.size]? = some (.cells typCells 9)) (fun _ s5 _ => 6 - (intOf s5).toNat)
  case atStart =>
    obtain ⟨v, ps, rfl, h1, h2, h3, h4, h5⟩ := HIN.out
    exact ⟨0, ps, by omega, rfl, h1, h2, h3, h4, h5⟩
  case round =>
    obtain ⟨k, ps, hk, rfl, hcm, hok, hpl, hbel, hty⟩ := hrel
    clear HIN
    have HA1 := Lib.hid (at_any l A n c 0 wr (HS.out _ hbel) (by omega))
    have HCM := Lib.hid hcm; have HOK := Lib.hid hok; have HBE := Lib.hid hbel; have HTY := Lib.hid hty
    have hwl : w.heap.size < wr.heap.size := (Array.getElem?_eq_some_iff.1 hty).1
    clear hcm hok hbel hty
    go_wp2_with fail
    refine HA1.out.mono ?_
    rintro e w4 ⟨rfl, hb4⟩
    clear HA1
    have hs4 := hb4.size
    by_cases hlt : (k : Int) < atL l 0 % 6
    · have hk5 : k ≤ 5 := by omega
      have hw4 : Below w.heap.size w w4 := HBE.out.trans (hb4.mono (by omega))
      have HA2 := Lib.hid (at_any l A n c (1 + k) w4 (HS.out _ hw4) (by omega))
      have hrn := atL_range l (1 + k)
      have HCA : Hid ((1 : Int) + (k : Int) = ((1 + k : Nat) : Int)) := by show _ = _; omega
      go_wp2_with fail
      rw [HCA.out]
      refine HA2.out.mono ?_
      rintro e w5 ⟨rfl, hb5⟩
      clear HA2 HCA
      have hb45 : Below wr.heap.size wr w5 := hb4.trans (hb5.mono hs4)
      have hrn' : 0 ≤ atL l (1 + k) ∧ atL l (1 + k) ≤ 65544 := by omega
      generalize atL l (1 + k) = nn at *
      clear hb4 hb5 hw4 hrn hlt hs4
      have hs5 := hb45.size
      obtain ⟨hn0, hn1⟩ := hrn'
      go_upto_region 7 with (fail)
      go_cut [7] (fun s7 wx => ∃ pb, s7 = .pointer (some ⟨pb, 0, none⟩) ∧ w5.heap.size ≤ pb ∧ Below w5.heap.size w5 wx ∧ wx.heap[pb]? = some (.cells #[.int .i64 (10 * k + 1 + nn % 9), .string (pNm k), .string (bC (nn / 4 % 2)), .int .i64 (nn / 8 % 3), .int .i64 (100 - 7 * k), .slice none 0 0, .slice none 0 0] 40 (0, 0)))
      case first =>
        refine wp_region_facts 26 [22, 23, 24, 25, 26, 27, 28, 29, 30, 31, 32, 33, 34, 35, 36, 37, 38, 39, 40, 41, 42, 43, 44, 45, 46, 7] (regP k nn w5.heap.size) (by kernel_rfl) (by kernel_rfl) (by kernel_rfl) (by kernel_rfl) (by kernel_rfl) regP_keep ?_ ?_
        · intro q o hq ho a' w' hb' hout hpre K hK
          clear hcr HS HCM HOK HBE HTY hb45
          have hq' : q = 0 ∨ q = 1 ∨ q = 2 ∨ q = 3 ∨ q = 4 ∨ q = 5 ∨ q = 6 ∨ q = 7 ∨ q = 8 ∨ q = 9 ∨ q = 10 ∨ q = 11 ∨ q = 12 ∨ q = 13 ∨ q = 14 ∨ q = 15 ∨ q = 16 ∨ q = 17 ∨ q = 18 ∨ q = 19 ∨ q = 20 ∨ q = 21 ∨ q = 22 ∨ q = 23 ∨ q = 24 ∨ q = 25 := by omega
          rcases hq' with rfl | rfl | rfl | rfl | rfl | rfl | rfl | rfl | rfl | rfl | rfl | rfl | rfl | rfl | rfl | rfl | rfl | rfl | rfl | rfl | rfl | rfl | rfl | rfl | rfl | rfl
          · obtain rfl := Option.some.inj ho
            have e5 : a'.tmps[5]? = some (.int .i64 k) := hout 5 (by decide)
            go_simp
            exact hK (.int .i64 k) w' rfl (Below.refl _ _)
          · obtain rfl := Option.some.inj ho
            have p0 : a'.tmps.getD 22 undef = .int .i64 k := hpre ⟨0, .data⟩ (by simp) 22 rfl
            simp only [Array.getD_eq_getD_getElem?] at p0
            have q1 : IntKind.i64.wrap (10 * (k : Int)) = 10 * k := IntWalk.i64_in _ (by omega)
            go_simp
            exact hK (.int .i64 (10 * k)) w' rfl (Below.refl _ _)
          · obtain rfl := Option.some.inj ho
            have p1 : a'.tmps.getD 23 undef = .int .i64 (10 * k) := hpre ⟨1, .data⟩ (by simp) 23 rfl
            simp only [Array.getD_eq_getD_getElem?] at p1
            have q1 : IntKind.i64.wrap (10 * (k : Int) + 1) = 10 * k + 1 := IntWalk.i64_in _ (by omega)
            go_simp
            exact hK (.int .i64 (10 * k + 1)) w' rfl (Below.refl _ _)
          · obtain rfl := Option.some.inj ho
            have e6 : a'.tmps[6]? = some (.int .i64 nn) := hout 6 (by decide)
            go_simp
            exact hK (.int .i64 nn) w' rfl (Below.refl _ _)
          · obtain rfl := Option.some.inj ho
            have p3 : a'.tmps.getD 25 undef = .int .i64 nn := hpre ⟨3, .data⟩ (by simp) 25 rfl
            simp only [Array.getD_eq_getD_getElem?] at p3
            have q1 : nn.tmod 9 = nn % 9 := Int.tmod_eq_emod_of_nonneg (by omega)
            have q2 : IntKind.i64.wrap (nn % 9) = nn % 9 := IntWalk.i64_in _ (by omega)
            go_simp
            exact hK (.int .i64 (nn % 9)) w' rfl (Below.refl _ _)
          · obtain rfl := Option.some.inj ho
            have p2 : a'.tmps.getD 24 undef = .int .i64 (10 * k + 1) := hpre ⟨2, .data⟩ (by simp) 24 rfl
            simp only [Array.getD_eq_getD_getElem?] at p2
            have p4 : a'.tmps.getD 26 undef = .int .i64 (nn % 9) := hpre ⟨4, .data⟩ (by simp) 26 rfl
            simp only [Array.getD_eq_getD_getElem?] at p4
            have q1 : IntKind.i64.wrap (10 * (k : Int) + 1 + nn % 9) = 10 * k + 1 + nn % 9 := IntWalk.i64_in _ (by omega)
            go_simp
            exact hK (.int .i64 (10 * k + 1 + nn % 9)) w' rfl (Below.refl _ _)
          · obtain rfl := Option.some.inj ho
            have e5 : a'.tmps[5]? = some (.int .i64 k) := hout 5 (by decide)
            go_simp
            exact hK (.int .i64 k) w' rfl (Below.refl _ _)
          · obtain rfl := Option.some.inj ho
            have p6 : a'.tmps.getD 28 undef = .int .i64 k := hpre ⟨6, .data⟩ (by simp) 28 rfl
            simp only [Array.getD_eq_getD_getElem?] at p6
            have q1 : IntKind.i64.wrap (97 + (k : Int)) = 97 + k := IntWalk.i64_in _ (by omega)
            go_simp
            exact hK (.int .i64 (97 + k)) w' rfl (Below.refl _ _)
          · obtain rfl := Option.some.inj ho
            have p7 : a'.tmps.getD 29 undef = .int .i64 (97 + k) := hpre ⟨7, .data⟩ (by simp) 29 rfl
            simp only [Array.getD_eq_getD_getElem?] at p7
            have q1 : IntKind.u8.wrap (97 + (k : Int)) = 97 + k := by rw [IntKind.wrap_u8]; omega
            have q2 : (97 + (k : Int)) % 256 = 97 + k := by omega
            go_simp
            exact hK (.int .u8 (97 + k)) w' rfl (Below.refl _ _)
          · obtain rfl := Option.some.inj ho
            have p8 : a'.tmps.getD 30 undef = .int .u8 (97 + k) := hpre ⟨8, .data⟩ (by simp) 30 rfl
            simp only [Array.getD_eq_getD_getElem?] at p8
            go_simp
            exact hK _ _ ⟨w'.heap.size, rfl, by simp⟩ ((Below.refl _ _).alloc (Nat.le_refl _) _)
          · obtain rfl := Option.some.inj ho
            have p9 := hpre ⟨9, .data⟩ (by simp) 31 rfl
            simp only [Array.getD_eq_getD_getElem?] at p9
            obtain ⟨b3, p9, hc3⟩ := p9
            have hcv := ch_conv w' b3 k hc3
            go_simp
            exact hK _ _ rfl (Below.refl _ _)
          · obtain rfl := Option.some.inj ho
            have p10 : a'.tmps.getD 32 undef = .string (chS k) := hpre ⟨10, .data⟩ (by simp) 32 rfl
            simp only [Array.getD_eq_getD_getElem?] at p10
            go_simp
            exact hK _ _ (pNm_eq k) (Below.refl _ _)
          · obtain rfl := Option.some.inj ho
            go_simp
            go_at_call 27
            refine (codes_any w').mono ?_
            rintro e w'' ⟨A1, n1, c1, rfl, hs1, hb1⟩
            exact hK _ _ ⟨A1, n1, c1, rfl, hs1.more fun b hb => hb.2⟩ hb1
          · obtain rfl := Option.some.inj ho
            have e6 : a'.tmps[6]? = some (.int .i64 nn) := hout 6 (by decide)
            go_simp
            exact hK (.int .i64 nn) w' rfl (Below.refl _ _)
          · obtain rfl := Option.some.inj ho
            have p13 : a'.tmps.getD 35 undef = .int .i64 nn := hpre ⟨13, .data⟩ (by simp) 35 rfl
            simp only [Array.getD_eq_getD_getElem?] at p13
            go_simp
            exact hK _ _ rfl (Below.refl _ _)
          · obtain rfl := Option.some.inj ho
            have p14 : a'.tmps.getD 36 undef = .int .i64 (nn / 4) := hpre ⟨14, .data⟩ (by simp) 36 rfl
            simp only [Array.getD_eq_getD_getElem?] at p14
            have q1 : (nn / 4).tmod 2 = nn / 4 % 2 := Int.tmod_eq_emod_of_nonneg (by omega)
            have q2 : IntKind.i64.wrap (nn / 4 % 2) = nn / 4 % 2 := IntWalk.i64_in _ (by omega)
            go_simp
            exact hK (.int .i64 (nn / 4 % 2)) w' rfl (Below.refl _ _)
          · obtain rfl := Option.some.inj ho
            have p12 := hpre ⟨12, .data⟩ (by simp) 34 rfl
            simp only [Array.getD_eq_getD_getElem?] at p12
            have p15 : a'.tmps.getD 37 undef = .int .i64 (nn / 4 % 2) := hpre ⟨15, .data⟩ (by simp) 37 rfl
            simp only [Array.getD_eq_getD_getElem?] at p15
            obtain ⟨A1, n1, c1, p12, hs1⟩ := p12
            have hn3 : n1 = 3 := hs1.len
            subst hn3
            obtain ⟨b1, o1, rfl, _, hc1⟩ := hs1.name_at (k := (nn / 4 % 2).toNat) (by show _ < 3; omega)
            have q1 : 0 ≤ nn / 4 % 2 := by omega
            have q2 : nn / 4 % 2 < 3 := by omega
            have q3 : nn / 4 % 2 < ((3 : Nat) : Int) := by omega
            go_simp
            exact hK _ _ ⟨b1, o1 + (nn / 4 % 2).toNat, rfl, hc1⟩ (Below.refl _ _)
          · obtain rfl := Option.some.inj ho
            have p16 := hpre ⟨16, .data⟩ (by simp) 38 rfl
            simp only [Array.getD_eq_getD_getElem?] at p16
            obtain ⟨b1, o1, p16, hc1⟩ := p16
            go_simp
            exact hK _ _ rfl (Below.refl _ _)
          · obtain rfl := Option.some.inj ho
            have e6 : a'.tmps[6]? = some (.int .i64 nn) := hout 6 (by decide)
            go_simp
            exact hK (.int .i64 nn) w' rfl (Below.refl _ _)
          · obtain rfl := Option.some.inj ho
            have p18 : a'.tmps.getD 40 undef = .int .i64 nn := hpre ⟨18, .data⟩ (by simp) 40 rfl
            simp only [Array.getD_eq_getD_getElem?] at p18
            go_simp
            exact hK _ _ rfl (Below.refl _ _)
          · obtain rfl := Option.some.inj ho
            have p19 : a'.tmps.getD 41 undef = .int .i64 (nn / 8) := hpre ⟨19, .data⟩ (by simp) 41 rfl
            simp only [Array.getD_eq_getD_getElem?] at p19
            have q1 : (nn / 8).tmod 3 = nn / 8 % 3 := Int.tmod_eq_emod_of_nonneg (by omega)
            have q2 : IntKind.i64.wrap (nn / 8 % 3) = nn / 8 % 3 := IntWalk.i64_in _ (by omega)
            go_simp
            exact hK (.int .i64 (nn / 8 % 3)) w' rfl (Below.refl _ _)
          · obtain rfl := Option.some.inj ho
            have e5 : a'.tmps[5]? = some (.int .i64 k) := hout 5 (by decide)
            go_simp
            exact hK (.int .i64 k) w' rfl (Below.refl _ _)
          · obtain rfl := Option.some.inj ho
            have p21 : a'.tmps.getD 43 undef = .int .i64 k := hpre ⟨21, .data⟩ (by simp) 43 rfl
            simp only [Array.getD_eq_getD_getElem?] at p21
            have q1 : IntKind.i64.wrap (7 * (k : Int)) = 7 * k := IntWalk.i64_in _ (by omega)
            go_simp
            exact hK (.int .i64 (7 * k)) w' rfl (Below.refl _ _)
          · obtain rfl := Option.some.inj ho
            have p22 : a'.tmps.getD 44 undef = .int .i64 (7 * k) := hpre ⟨22, .data⟩ (by simp) 44 rfl
            simp only [Array.getD_eq_getD_getElem?] at p22
            have q1 : IntKind.i64.wrap (100 - 7 * (k : Int)) = 100 - 7 * k := IntWalk.i64_in _ (by omega)
            go_simp
            exact hK (.int .i64 (100 - 7 * k)) w' rfl (Below.refl _ _)
          · obtain rfl := Option.some.inj ho
            have p5 : a'.tmps.getD 27 undef = .int .i64 (10 * k + 1 + nn % 9) := hpre ⟨5, .data⟩ (by simp) 27 rfl
            simp only [Array.getD_eq_getD_getElem?] at p5
            have p11 : a'.tmps.getD 33 undef = .string (pNm k) := hpre ⟨11, .data⟩ (by simp) 33 rfl
            simp only [Array.getD_eq_getD_getElem?] at p11
            have p17 : a'.tmps.getD 39 undef = .string (bC (nn / 4 % 2)) := hpre ⟨17, .data⟩ (by simp) 39 rfl
            simp only [Array.getD_eq_getD_getElem?] at p17
            have p20 : a'.tmps.getD 42 undef = .int .i64 (nn / 8 % 3) := hpre ⟨20, .data⟩ (by simp) 42 rfl
            simp only [Array.getD_eq_getD_getElem?] at p20
            have p23 : a'.tmps.getD 45 undef = .int .i64 (100 - 7 * k) := hpre ⟨23, .data⟩ (by simp) 45 rfl
            simp only [Array.getD_eq_getD_getElem?] at p23
            go_simp
            exact hK _ _ rfl (Below.refl _ _)
          · obtain rfl := Option.some.inj ho
            go_simp
            exact hK _ _ ⟨w'.heap.size, rfl, hb'.size, heap_alloc_new _ _⟩ ((Below.refl _ _).alloc (Nat.le_refl _) _)
        · intro us w' hb' hfacts
          have h24 : us 24 = .agg #[.int .i64 (10 * k + 1 + nn % 9), .string (pNm k), .string (bC (nn / 4 % 2)), .int .i64 (nn / 8 % 3), .int .i64 (100 - 7 * k), .slice none 0 0, .slice none 0 0] := hfacts 24 (by decide)
          obtain ⟨pb, h25, hpH, hpb⟩ := hfacts 25 (by decide)
          clear hfacts
          simp only [putL, Act.put, List.setIfInBounds_toArray, List.set_cons_zero, List.set_cons_succ]
          generalize us 25 = x25 at *
          generalize us 24 = x24 at *
          subst h25 h24
          have HPB := Lib.hid hpb
          have HFIN := Lib.hid (below_setRow (cs := #[.int .i64 (10 * k + 1 + nn % 9), .string (pNm k), .string (bC (nn / 4 % 2)), .int .i64 (nn / 8 % 3), .int .i64 (100 - 7 * k), .slice none 0 0, .slice none 0 0]) hb' hpH)
          have HROW := Lib.hid (setRow_heap w' pb _ #[.int .i64 (10 * k + 1 + nn % 9), .string (pNm k), .string (bC (nn / 4 % 2)), .int .i64 (nn / 8 % 3), .int .i64 (100 - 7 * k), .slice none 0 0, .slice none 0 0] _ _ hpb)
          clear hpb
          simp only [List.drop_succ_cons, List.drop_zero]
          refine wpList_store_row rfl _ _ _ rfl pb #[.int .i64 (10 * k + 1 + nn % 9), .string (pNm k), .string (bC (nn / 4 % 2)), .int .i64 (nn / 8 % 3), .int .i64 (100 - 7 * k), .slice none 0 0, .slice none 0 0] rfl rfl _ _ HPB.out person_info rfl (by simp [Value.oneCell']) ?_
          go_wp2_with fail
          go_meet
          exact ⟨pb, rfl, hpH, HFIN.out, HROW.out⟩
      case rest =>
        obtain ⟨pb, rfl, hpH, hbx, hpb⟩ := hcut
        obtain ⟨wx0, rfl⟩ : ∃ x : World, x = wc := ⟨_, rfl⟩
        have hplt : pb < wx0.heap.size := (Array.getElem?_eq_some_iff.1 hpb).1
        have HPB0 : Hid (PB wx0 pb wx0 #[.int .i64 (10 * k + 1 + nn % 9), .string (pNm k), .string (bC (nn / 4 % 2)), .int .i64 (nn / 8 % 3), .int .i64 (100 - 7 * k), .slice none 0 0, .slice none 0 0]) := ⟨hpb, But.refl _ _, hplt⟩
        have HPO : Hid ((-9223372036854775808 ≤ 10 * (k : Int) + 1 + nn % 9 ∧ 10 * (k : Int) + 1 + nn % 9 ≤ 9223372036854775807) ∧ (pNm k).size ≤ maxLen ∧ (bC (nn / 4 % 2)).size ≤ maxLen ∧ (-9223372036854775808 ≤ nn / 8 % 3 ∧ nn / 8 % 3 ≤ 9223372036854775807) ∧ (-9223372036854775808 ≤ 100 - 7 * (k : Int) ∧ 100 - 7 * (k : Int) ≤ 9223372036854775807)) := by
          have h1 := bC_size (nn / 4 % 2)
          have h2 : (pNm k).size = 2 := rfl
          exact ⟨by omega, by unfold maxLen; omega, by unfold maxLen; omega, by omega, by omega⟩
        have hbxr : Below wr.heap.size wr wx0 := hb45.trans (hbx.mono hs5)
        have HBX := Lib.hid hbxr
        generalize hid : 10 * (k : Int) + 1 + nn % 9 = pid at *
        generalize hsn : 100 - 7 * (k : Int) = psn at *
        generalize hrk : nn / 8 % 3 = prk at *
        generalize pNm k = pnm at *
        generalize bC (nn / 4 % 2) = pbs at *
        clear hpb hbx hb45 hbxr hid hsn hrk
        go_wp2_with fail
        obtain ⟨wo, rfl⟩ : ∃ wo : World, wo = wr := ⟨_, rfl⟩
        generalize hH1 : wx0.heap.size = H1 at *
        go_loopw [8] (fun i wq => ∃ (j : Nat) (v : Value) (xs : List ByteArray), j ≤ 3 ∧ i = .int .i64 j ∧ PB wx0 pb wq #[.int .i64 pid, .string pnm, .string pbs, .int .i64 prk, .int .i64 psn, v, .slice none 0 0] ∧ Own Ty.str 9 wq H1 v xs ∧ xs.length ≤ j ∧ ∀ s ∈ xs, s.size ≤ 16) (fun i _ => 3 - (intOf i).toNat)
        case atStart => exact ⟨0, _, [], Nat.zero_le _, rfl, HPB0.out, Own.nil, Nat.le_refl _, fun _ h => (by cases h)⟩
        case round =>
          obtain ⟨j, v, xs, hj, rfl, hpb, hown, hxl, hxs⟩ := hrel
          clear HPB0
          have HP := Lib.hid hpb; have HO := Lib.hid hown; have HXS := Lib.hid hxs
          by_cases hlj : j < 3
          · obtain ⟨s, hsc, hss⟩ := typ_cell j hlj
            have hty : wr.cell? ⟨w.heap.size, j, none⟩ = some (.string s) := by
              have h1 : wr.heap[w.heap.size]? = some (.cells typCells 9) := by
                rw [hpb.but.block _ (by omega) (by omega), HBX.out.block _ (by omega)]
                exact HTY.out
              exact (block_cell h1 j).trans hsc
            clear hpb hown hxs hsc
            go_upto_region 11 with (fail)
            go_cut [57] (fun cv wx' => ∃ bb : Bool, cv = .bool bb ∧ wx' = wr)
            case first =>
              go_wp2_with fail
              go_meet
              exact ⟨_, rfl, rfl⟩
            case rest =>
              obtain ⟨bb, rfl, rfl⟩ := hcut
              cases bb with
              | false =>
                go_wp2_with fail
                go_roundw
                case rel => exact ⟨j + 1, v, xs, by omega, by go_num, HP.out, HO.out, by omega, HXS.out⟩
                case measure => simp [intOf]; omega
              | true =>
                have hc1 : wc.cell? ⟨pb, 5, none⟩ = some v := block_cell HP.out.p 5
                have hxl8 : xs.length ≤ 3 := by omega
                have hplw : pb < wc.heap.size := (Array.getElem?_eq_some_iff.1 HP.out.p).1
                have hc1' : ∀ o, (wc.alloc o).cell? ⟨pb, 5, none⟩ = some v := fun o => (World.cell?_alloc_past _ _ _ hplw).trans hc1
                have hty' : ∀ o, (wc.alloc o).cell? ⟨w.heap.size, j, none⟩ = some (.string s) := fun o => (World.cell?_alloc_past _ _ _ (by omega)).trans hty
                have HROW : Hid (∀ k, v.ownBlock = some k → wx0.heap.size ≤ k) := fun k hk => by rw [hH1]; exact (HO.out.lt k hk).1
                have hbs := HP.out.but.size
                have HOWN : Hid (∀ q o, Own Ty.str 9 ((wc.drewN q).alloc o) H1 v xs) := fun q o => (HO.out.drewN q).alloc o
                have t1 : (0 : Int) ≤ (j : Int) := by omega
                have t2 : (j : Int) < 3 := by omega
                have t3 : (j : Int) < ((3 : Nat) : Int) := by omega
                go_wp2_with fail
                go_region_law (first
                  | (refine step_push rfl (.tmp 59) (.tmp 64) 37 rfl 16 elem_strs (by simp [Act.eval, Act.put]) (HOWN.out 1 _) wc.heap.size s (fun _ => False) (by simp [Act.eval, Act.put]) ⟨[.string s], rfl, At.new (wc.drewN 1) #[.string s] _⟩ (fun _ h => h.elim) (by omega) (by decide) (by simp; omega) ?_; intro g6 cap6 w6 hown6 hgr6 hat6; have hz6 := HP.out.p6 hgr6 HROW.out; have hc6 : w6.cell? ⟨pb, 5, none⟩ = some v := block_cell hz6 5; have hf6 : w6.frozen? ⟨pb, 5, none⟩ = false := block_free hz6 5; have HSTEP := Lib.hid (HP.out.step hgr6 HROW.out 5 (.slice (some ⟨g6, 0, none⟩) (xs.length + 1) cap6)); have HOWN6 := Lib.hid (hown6.setCell (g := pb) (j := 5) (by omega) (.slice (some ⟨g6, 0, none⟩) (xs.length + 1) cap6)); clear hz6)
                  | fail)
                all_goals
                  go_wp2_with fail
                  go_roundw
                  case rel => exact ⟨j + 1, _, xs ++ [s], by omega, by go_num, HSTEP.out, HOWN6.out, by rw [List.length_append, List.length_singleton]; omega, fun x hx => by rcases List.mem_append.1 hx with h | h; exact HXS.out x h; (simp at h; subst h; exact hss)⟩
                  case measure => simp [intOf]; omega
          · obtain ⟨At', ct, rfl, -⟩ := hown.sl
            clear hpb hown hxs
            go_wp2_with fail
            obtain ⟨wo2, rfl⟩ : ∃ wo : World, wo = wr := ⟨_, rfl⟩
            have hxl3 : xs.length ≤ 3 := by omega
            go_loopw [9] (fun i wq => ∃ (r : Nat) (v : Value) (ys : List GShift), r ≤ 3 ∧ i = .int .i64 r ∧ PB wx0 pb wq #[.int .i64 pid, .string pnm, .string pbs, .int .i64 prk, .int .i64 psn, .slice At' xs.length ct, v] ∧ Own Ty.str 9 wq H1 (.slice At' xs.length ct) xs ∧ Own Ty.shift 42 wq H1 v ys ∧ ys.length ≤ r ∧ ∀ s ∈ ys, s.ok) (fun i _ => 3 - (intOf i).toNat)
            case atStart => exact ⟨0, _, [], Nat.zero_le _, rfl, HP.out, HO.out, Own.nil, Nat.le_refl _, fun _ h => (by cases h)⟩
            case round =>
              obtain ⟨r, v, ys, hr, rfl, hpb, hot, hov, hyl, hys⟩ := hrel
              clear HP HO
              have HP := Lib.hid hpb; have HOT := Lib.hid hot; have HOV := Lib.hid hov; have HYS := Lib.hid hys
              have hbs := hpb.but.size
              have hc1 : wr.cell? ⟨pb, 6, none⟩ = some v := block_cell hpb.p 6
              clear hot hov hys
              by_cases hlr : (r : Int) < nn / 512 % 3
              · have hr2 : r ≤ 2 := by omega
                have HROW : Hid (∀ k, v.ownBlock = some k → wx0.heap.size ≤ k) := fun k hk => by rw [hH1]; exact (HOV.out.lt k hk).1
                have hc1' : ∀ o, (wr.alloc o).cell? ⟨pb, 6, none⟩ = some v := fun o => (World.cell?_alloc_past _ _ _ (by omega)).trans hc1
                clear hpb
                go_wp2_with (at_builtin; refine wpList_push (t := Ty.shift) (base := H1) rfl _ _ _ rfl 16 elem_span rfl (HOV.out.alloc _) wr.heap.size ⟨1440000 + 3000 * r, 1440000 + 3000 * r + 1440⟩ (fun _ => False) rfl ⟨_, rfl, At.new wr #[.int .i64 (1440000 + 3000 * r), .int .i64 (1440000 + 3000 * r + 1440)] _⟩ (fun _ h => h.elim) ?k1 (by decide) ?k2 ?_)
                case k1 => omega
                case k2 => simp; omega
                intro v6 w6 hown6 hgr6
                obtain ⟨A6, c6, rfl, -⟩ := hown6.sl
                rw [List.length_append, List.length_singleton] at hown6 ⊢
                have hz6 := HP.out.p6 (q := 0) hgr6 HROW.out
                have hc6 : w6.cell? ⟨pb, 6, none⟩ = some v := block_cell hz6 6
                have hf6 : w6.frozen? ⟨pb, 6, none⟩ = false := block_free hz6 6
                have HSTEP := Lib.hid (HP.out.step (q := 0) hgr6 HROW.out 6 (.slice A6 (ys.length + 1) c6))
                have HOWN6 := Lib.hid (hown6.setCell (g := pb) (j := 6) (by omega) (.slice A6 (ys.length + 1) c6))
                have HOT6 : Hid (Own Ty.str 9 (w6.setCell ⟨pb, 6, none⟩ (.slice A6 (ys.length + 1) c6)) H1 (.slice At' xs.length ct) xs) := by
                  refine ((HOT.out.alloc (.cells #[.int .i64 (1440000 + 3000 * r), .int .i64 (1440000 + 3000 * r + 1440)] 42)).flat0 flat_str fun b hb => ?_).setCell (by omega) _
                  obtain ⟨cur, hcb⟩ := (HOT.out.alloc (.cells #[.int .i64 (1440000 + 3000 * r), .int .i64 (1440000 + 3000 * r + 1440)] 42)).tag hb
                  exact hgr6.block b (Array.getElem?_eq_some_iff.1 hcb).1 (own_box_ne (HOV.out.alloc _) hcb (by decide))
                clear hz6 hown6 hgr6
                go_wp2_with fail
                go_roundw
                case rel => exact ⟨r + 1, _, ys ++ [⟨1440000 + 3000 * r, 1440000 + 3000 * r + 1440⟩], by omega, by go_num, HSTEP.out, HOT6.out, HOWN6.out, by rw [List.length_append, List.length_singleton]; omega, fun x hx => by rcases List.mem_append.1 hx with h | h; exact HYS.out x h; (simp at h; subst h; exact ⟨by constructor <;> simp <;> omega, by constructor <;> simp <;> omega⟩)⟩
                case measure => simp [intOf]; omega
              · obtain ⟨Av, cv, rfl, -⟩ := HOV.out.sl
                have y0 := block_cell hpb.p 0; have y1 := block_cell hpb.p 1; have y2 := block_cell hpb.p 2; have y3 := block_cell hpb.p 3; have y4 := block_cell hpb.p 4; have y5 := block_cell hpb.p 5
                have hCM : CrewMem (wr.alloc (.cells #[.int .i64 pid, .string pnm, .string pbs, .int .i64 prk, .int .i64 psn, .slice At' xs.length ct, .slice Av ys.length cv] 40)) u3 ps (w.heap.size + 1) wo.heap.size := HCM.out.keep (Nat.le_refl _) fun b hb1 hb2 => by
                  rw [Below.heap_alloc _ _ _ (by omega), hpb.but.block b (by omega) (by omega), HBX.out.block b hb2]
                have HCM9 := Lib.hid hCM
                have HPW : Hid (POwn (wr.alloc (.cells #[.int .i64 pid, .string pnm, .string pbs, .int .i64 prk, .int .i64 psn, .slice At' xs.length ct, .slice Av ys.length cv] 40)) H1 (wr.alloc (.cells #[.int .i64 pid, .string pnm, .string pbs, .int .i64 prk, .int .i64 psn, .slice At' xs.length ct, .slice Av ys.length cv] 40)).heap.size [.int .i64 pid, .string pnm, .string pbs, .int .i64 prk, .int .i64 psn, .slice At' xs.length ct, .slice Av ys.length cv] ⟨pid, pnm, pbs, prk, psn, xs, ys⟩) :=
                  ⟨_, _, rfl, HOT.out.alloc _, fun k hk => ((HOT.out.alloc _).lt k hk).2, HOV.out.alloc _, fun k hk => ((HOV.out.alloc _).lt k hk).2⟩
                have HNEW := Lib.hid (At.new wr #[.int .i64 pid, .string pnm, .string pbs, .int .i64 prk, .int .i64 psn, .slice At' xs.length ct, .slice Av ys.length cv] 40)
                have HPK : Hid (∀ p ∈ ps ++ [(⟨pid, pnm, pbs, prk, psn, xs, ys⟩ : GPerson)], p.okS) := fun p hp => by
                  rcases List.mem_append.1 hp with h | h
                  · exact HOK.out p h
                  · simp at h
                    subst h
                    obtain ⟨g1, g2, g3, g4, g5⟩ := HPO.out
                    exact ⟨⟨g1, g2, g3, g4, g5, fun s hs => by have := HXS.out s hs; unfold maxLen; omega, HYS.out⟩, by show xs.length ≤ 3; omega, by show ys.length ≤ 3; omega⟩
                have HBR : Hid (Below w.heap.size w wr ∧ wr.heap[w.heap.size]? = some (.cells typCells 9)) := by
                  refine ⟨⟨hpb.but.os.trans (HBX.out.os.trans HBE.out.os), hpb.but.tape.trans (HBX.out.tape.trans HBE.out.tape), hpb.but.output.trans (HBX.out.output.trans HBE.out.output), by have := HBE.out.size; omega, fun b hb => ?_⟩, ?_⟩
                  · rw [hpb.but.block b (by omega) (by omega), HBX.out.block b (by omega), HBE.out.block b hb]
                  · rw [hpb.but.block _ (by omega) (by omega), HBX.out.block _ (by omega)]
                    exact HTY.out
                clear hpb hCM
                go_wp2_with (at_builtin; refine wpList_crew_push (p := ⟨pid, pnm, pbs, prk, psn, xs, ys⟩) (h2 := H1) rfl _ _ _ rfl elem_person rfl HCM9.out ?m1 ?m2 wr.heap.size _ rfl HPW.out HNEW.out ?m3 ?m4 ?_)
                case m1 => omega
                case m2 => first | omega | (simp; omega)
                case m3 => first | omega | (simp; omega)
                case m4 => omega
                intro v6 w6 hcm6 hgr6
                have hb6 : Below w.heap.size w w6 := (HBR.out.1.alloc (by omega) _).grown hgr6 (by simp; omega) (fun k hk => by have := (HCM9.out.lt k hk).1; omega)
                have hty6 : w6.heap[w.heap.size]? = some (.cells typCells 9) := by
                  rw [hgr6.block _ (by simp; omega) (fun e => by have := (HCM9.out.lt _ e.symm).1; omega), Below.heap_alloc _ _ _ (by omega)]
                  exact HBR.out.2
                clear hgr6
                go_wp2_with fail
                go_roundw
                case rel => exact ⟨k + 1, ps ++ [⟨pid, pnm, pbs, prk, psn, xs, ys⟩], by omega, by go_num, hcm6, HPK.out, by rw [List.length_append, List.length_singleton]; omega, hb6, hty6⟩
                case measure => simp [intOf]; omega
    · have hfin : PersonsPost w (.returned u3) w4 := ⟨u3, ps, rfl, by
        obtain ⟨cs, f, h1, h2, h3, h4, h5, h6⟩ := HCM.out.keep (w' := w4) hs4 (fun b _ hb => hb4.block b hb)
        refine ⟨cs, f, ⟨h1.1, ?_⟩, h2, h3, by omega, h5, h6⟩
        rcases h1.2 with h7 | ⟨g, cap, cur, hv, hg, r⟩
        · exact .inl h7
        · exact .inr ⟨g, cap, cur, hv, by omega, r⟩, HOK.out, by omega, HBE.out.trans (hb4.mono (by omega))⟩
      have HFIN := Lib.hid hfin
      clear hfin
      go_wp2_with fail
      go_ret
      exact HFIN.out
end Go.Proofs.Ytkhedjfdjjeopaa
/-
  The walk of pairinglaw10.CrewSpoilt.
  Condition: the arguments are well formed.
-/
namespace Go.Proofs.Ytkhedjfdjjeopaa
set_option linter.unusedSimpArgs false
set_option linter.unusedVariables false
open Go.RowKit

theorem and_3fffs (n : Int) : bits .and .i64 n 16383 = n % 16384 := by
  show IntKind.i64.wrap ((BitVec.ofInt 64 n &&& BitVec.ofInt 64 16383).toNat : Int) = _
  have e1 : (BitVec.ofInt 64 16383).toNat = 2 ^ 14 - 1 := by decide
  rw [BitVec.toNat_and, e1, Nat.and_two_pow_sub_one_eq_mod, BitVec.toNat_ofInt, IntKind.wrap_i64]
  omega
theorem wrap64_range (x : Int) : -9223372036854775808 ≤ wrap64 x ∧ wrap64 x ≤ 9223372036854775807 := by unfold wrap64; omega
theorem okP_set {ps : List GPerson} {p' : GPerson} {i : Nat} (h : ∀ p ∈ ps, p.okS) (hp : p'.ok) : ∀ p ∈ ps.set i p', p.ok := fun p hm => by
  rcases List.mem_or_eq_of_mem_set hm with h1 | h1
  · exact (h p h1).1
  · rw [h1]; exact hp
/-- The crew behind the change: some crew, well formed. -/
def SpPost (w wx : World) (A : Option Addr) (n c : Nat) : Prop := ∃ qs : List GPerson, Sl Ty.person wx (all_ wx) A n c qs ∧ (∀ q ∈ qs, q.ok) ∧ Below w.heap.size w wx
theorem row7 {cur : List Value} {i : Nat} {c0 c1 c2 c3 c4 c5 c6 : Value} (h : (cur.drop (i * 7)).take 7 = [c0, c1, c2, c3, c4, c5, c6]) (j : Nat) (u : Value) (hu : [c0, c1, c2, c3, c4, c5, c6][j]? = some u) : cur[i * 7 + j]? = some u := by
  rw [← h, List.getElem?_take] at hu
  split at hu
  · rwa [List.getElem?_drop] at hu
  · cases hu
set_option maxRecDepth 100000 in
set_option maxHeartbeats 3200000 in
theorem lawCrewSpoilt_any (l : List Int) (A : Option Addr) (n c : Nat) (which at_ num : Int) (str : ByteArray) (w : World) (h : Sl (Ty.int .i64) w (all_ w) A n c l) (hstr : str.size ≤ maxLen) (hnum : -9223372036854775808 ≤ num ∧ num ≤ 9223372036854775807) :
    Calls Try.prog 4 #[.slice A n c, .int .i64 which, .int .i64 at_, .int .i64 num, .string str] w (CAwPost w) := by
  have HP := Lib.hid (persons_any l A n c w h)
  have a1 := and_ffff which
  have a2 := and_ffff at_
  have a3 := and_3fffs num
  have r1 : 0 ≤ which % 65536 := by omega
  have r2 : 0 ≤ at_ % 65536 := by omega
  have r3 : 0 ≤ num % 16384 ∧ num % 16384 < 16384 := by omega
  generalize which % 65536 = wm at *
  generalize at_ % 65536 = am at *
  generalize num % 16384 = nm at *
  have HSTR := Lib.hid hstr; have HNUM := Lib.hid hnum
  clear h hstr
  go_enter Try.func4, Try.ntmps4
  go_wp2_with fail
  refine HP.out.mono ?_
  rintro e w1 ⟨v, ps, rfl, hcm, hok, hpl, hb1⟩
  clear HP
  rcases Nat.eq_zero_or_pos ps.length with h0 | hpos
  · obtain ⟨Ap, cp, rfl, -⟩ := hcm.sl
    rw [h0]
    clear hcm
    go_wp2_with fail
    refine (crewAwake_any w1).mono ?_
    rintro e w9 ⟨rfl, hb9⟩
    go_wp2_with fail
    go_ret
    exact ⟨rfl, hb1.trans (hb9.mono hb1.size)⟩
  obtain ⟨i, hin⟩ : ∃ i : Nat, am % (ps.length : Int) = i := Int.eq_ofNat_of_zero_le (Int.emod_nonneg _ (by omega))
  have hil : i < ps.length := by
    have := Int.emod_lt_of_pos am (show (0 : Int) < ps.length by omega)
    omega
  obtain ⟨g, cap, cur, tv, vv, a, z, rfl, hlg, hla, hg, hrow, ho1, hz1, ho2, hz2, hfin⟩ := hcm.one hil
  have hpk := hok _ (getD_in hil noPerson)
  have HFIN := Lib.hid hfin
  have HOK := Lib.hid hok
  have HB1 := Lib.hid hb1
  have hsen0 : cur[4]? = some (.int .i64 (ps.getD 0 noPerson).sen) := by
    obtain ⟨g', cap', cur', tv', vv', a', z', e', _, _, hg', hrow', _⟩ := hcm.one (i := 0) hpos
    simp only [Value.slice.injEq, Option.some.injEq, Addr.mk.injEq, and_true, true_and] at e'
    obtain ⟨rfl, rfl⟩ := e'
    rw [hg] at hg'
    injection hg' with hg'
    injection hg' with hg'
    subst hg'
    have := row7 hrow' 4 _ rfl
    simpa using this
  have hp0 := (hok _ (getD_in hpos noPerson)).1.2.2.2.2.1
  generalize (ps.getD 0 noPerson).sen = sen0 at *
  generalize ps.getD i noPerson = p at *
  have y := fun j u hu => row7 hrow j u hu
  have y0 : w1.cell? ⟨g, i * 7, none⟩ = some (.int .i64 p.id) := (block_cell hg _).trans (by simpa using y 0 _ rfl)
  have y1 : w1.cell? ⟨g, i * 7 + 1, none⟩ = some (.string p.name) := (block_cell hg _).trans (by simpa using y 1 _ rfl)
  have y2 : w1.cell? ⟨g, i * 7 + 2, none⟩ = some (.string p.base) := (block_cell hg _).trans (by simpa using y 2 _ rfl)
  have y3 : w1.cell? ⟨g, i * 7 + 3, none⟩ = some (.int .i64 p.rank) := (block_cell hg _).trans (by simpa using y 3 _ rfl)
  have y4 : w1.cell? ⟨g, i * 7 + 4, none⟩ = some (.int .i64 p.sen) := (block_cell hg _).trans (by simpa using y 4 _ rfl)
  have y5 : w1.cell? ⟨g, i * 7 + 5, none⟩ = some tv := (block_cell hg _).trans (by simpa using y 5 _ rfl)
  have y6 : w1.cell? ⟨g, i * 7 + 6, none⟩ = some vv := (block_cell hg _).trans (by simpa using y 6 _ rfl)
  have x4 : w1.cell? ⟨g, 4, none⟩ = some (.int .i64 sen0) := (block_cell hg _).trans (by simpa using hsen0)
  have fz : ∀ j, w1.frozen? ⟨g, j, none⟩ = false := fun j => block_free hg j
  have hgl : g < w1.heap.size := (Array.getElem?_eq_some_iff.1 hg).1
  obtain ⟨⟨ok1, ok2, ok3, ok4, ok5, ok6, ok7⟩, len1, len2⟩ := hpk
  -- the lists, where the row's block alone is written
  have HL1 : Hid (∀ x q, ∃ A1 n1 c1, tv = .slice A1 n1 c1 ∧ Sl Ty.str (w1.setCell ⟨g, q, none⟩ x) (all_ (w1.setCell ⟨g, q, none⟩ x)) A1 n1 c1 p.types) := fun x q => by
    have h9 : Own Ty.str 9 (w1.setCell ⟨g, q, none⟩ x) a tv p.types := ho1.flat0 flat_str fun b hb => heap_setCell_other _ _ _ _ (fun e => own_box_ne ho1 hg (by decide) (by rw [hb]; exact congrArg some (show b = g from e).symm))
    obtain ⟨A1, c1, e1, s1⟩ := h9.sl
    exact ⟨A1, _, c1, e1, s1.more fun b hb => hb.2⟩
  have HL2 : Hid (∀ x q, ∃ A1 n1 c1, vv = .slice A1 n1 c1 ∧ Sl Ty.shift (w1.setCell ⟨g, q, none⟩ x) (all_ (w1.setCell ⟨g, q, none⟩ x)) A1 n1 c1 p.vacs) := fun x q => by
    have h9 : Own Ty.shift 42 (w1.setCell ⟨g, q, none⟩ x) a vv p.vacs := ho2.flat0 flat_shift fun b hb => heap_setCell_other _ _ _ _ (fun e => own_box_ne ho2 hg (by decide) (by rw [hb]; exact congrArg some (show b = g from e).symm))
    obtain ⟨A1, c1, e1, s1⟩ := h9.sl
    exact ⟨A1, _, c1, e1, s1.more fun b hb => hb.2⟩
  have HSET : Hid (∀ (j : Nat) (x : Value) (p' : GPerson), j < 7 → (Ty.person.rep (w1.setCell ⟨g, i * 7 + j, none⟩ x) (all_ (w1.setCell ⟨g, i * 7 + j, none⟩ x)) (([.int .i64 p.id, .string p.name, .string p.base, .int .i64 p.rank, .int .i64 p.sen, tv, vv] : List Value).set j x) p') → p'.ok → SpPost w (w1.setCell ⟨g, i * 7 + j, none⟩ x) (some ⟨g, 0, none⟩) ps.length cap) := fun j x p' hj hrep hp' =>
    ⟨ps.set i p', HFIN.out _ j x p' hj (heap_setCell_same _ _ _ _ _ _ hg) (fun q _ hq _ => heap_setCell_other _ _ _ _ hq) (by simp) hrep, okP_set HOK.out hp', HB1.out.setCell hlg _⟩
  have HG := Lib.hid hg
  have HO1 := Lib.hid ho1; have HO2 := Lib.hid ho2; have HZ1 := Lib.hid hz1; have HZ2 := Lib.hid hz2
  have hne0 : ((ps.length : Int) == 0) = false := by rw [beq_eq_false_iff_ne]; omega
  have hne1 : ¬ (ps.length : Int) = 0 := by omega
  have q1 : am.tmod (ps.length : Int) = i := by rw [Int.tmod_eq_emod_of_nonneg r2]; exact hin
  have hi0 : (0 : Int) ≤ (i : Int) := by omega
  have hi1 : (i : Int) < (ps.length : Int) := by omega
  have hpl' : (0 : Int) < (ps.length : Int) := by omega
  have hm9 : ∃ m : Nat, wm % 9 = m ∧ m < 9 := by
    obtain ⟨m, hm⟩ := Int.eq_ofNat_of_zero_le (show 0 ≤ wm % 9 by omega)
    exact ⟨m, hm, by omega⟩
  obtain ⟨m, hm, hm'⟩ := hm9
  have q9 : wm.tmod 9 = m := by rw [Int.tmod_eq_emod_of_nonneg r1]; exact hm
  clear hcm hok hb1 hfin hsen0 hrow y hg ho1 ho2 hz1 hz2
  go_upto_block 0 with (fail)
  go_cut [] (fun wx => SpPost w wx (some ⟨g, 0, none⟩) ps.length cap)
  case first =>
    have hcase : m = 0 ∨ m = 1 ∨ m = 2 ∨ m = 3 ∨ m = 4 ∨ m = 5 ∨ m = 6 ∨ m = 7 ∨ m = 8 := by omega
    have f0 := fz (i * 7); have f1 := fz (i * 7 + 1); have f2 := fz (i * 7 + 2); have f3 := fz (i * 7 + 3); have f4 := fz (i * 7 + 4); have f5 := fz (i * 7 + 5); have f6 := fz (i * 7 + 6)
    rcases hcase with rfl | rfl | rfl | rfl | rfl | rfl | rfl | rfl | rfl
    · have HR : Hid (SpPost w (w1.setCell ⟨g, i * 7, none⟩ (.int .i64 num)) (some ⟨g, 0, none⟩) ps.length cap) := by
        obtain ⟨A1, k1, c1, e1, s1⟩ := HL1.out (.int .i64 num) (i * 7)
        obtain ⟨A2, k2, c2, e2, s2⟩ := HL2.out (.int .i64 num) (i * 7)
        exact HSET.out 0 (.int .i64 num) ⟨num, p.name, p.base, p.rank, p.sen, p.types, p.vacs⟩ (by decide) ⟨A1, k1, c1, A2, k2, c2, by rw [e1, e2]; rfl, s1, s2⟩ ⟨HNUM.out, ok2, ok3, ok4, ok5, ok6, ok7⟩
      go_wp2_with fail
      go_meet
      exact HR.out
    · have HR : Hid (SpPost w (w1.setCell ⟨g, i * 7 + 1, none⟩ (.string str)) (some ⟨g, 0, none⟩) ps.length cap) := by
        obtain ⟨A1, k1, c1, e1, s1⟩ := HL1.out (.string str) (i * 7 + 1)
        obtain ⟨A2, k2, c2, e2, s2⟩ := HL2.out (.string str) (i * 7 + 1)
        exact HSET.out 1 (.string str) ⟨p.id, str, p.base, p.rank, p.sen, p.types, p.vacs⟩ (by decide) ⟨A1, k1, c1, A2, k2, c2, by rw [e1, e2]; rfl, s1, s2⟩ ⟨ok1, HSTR.out, ok3, ok4, ok5, ok6, ok7⟩
      go_wp2_with fail
      go_meet
      exact HR.out
    · have HR : Hid (SpPost w (w1.setCell ⟨g, i * 7 + 2, none⟩ (.string str)) (some ⟨g, 0, none⟩) ps.length cap) := by
        obtain ⟨A1, k1, c1, e1, s1⟩ := HL1.out (.string str) (i * 7 + 2)
        obtain ⟨A2, k2, c2, e2, s2⟩ := HL2.out (.string str) (i * 7 + 2)
        exact HSET.out 2 (.string str) ⟨p.id, p.name, str, p.rank, p.sen, p.types, p.vacs⟩ (by decide) ⟨A1, k1, c1, A2, k2, c2, by rw [e1, e2]; rfl, s1, s2⟩ ⟨ok1, ok2, HSTR.out, ok4, ok5, ok6, ok7⟩
      go_wp2_with fail
      go_meet
      exact HR.out
    · have HR : Hid (SpPost w (w1.setCell ⟨g, i * 7 + 3, none⟩ (.int .i64 num)) (some ⟨g, 0, none⟩) ps.length cap) := by
        obtain ⟨A1, k1, c1, e1, s1⟩ := HL1.out (.int .i64 num) (i * 7 + 3)
        obtain ⟨A2, k2, c2, e2, s2⟩ := HL2.out (.int .i64 num) (i * 7 + 3)
        exact HSET.out 3 (.int .i64 num) ⟨p.id, p.name, p.base, num, p.sen, p.types, p.vacs⟩ (by decide) ⟨A1, k1, c1, A2, k2, c2, by rw [e1, e2]; rfl, s1, s2⟩ ⟨ok1, ok2, ok3, HNUM.out, ok5, ok6, ok7⟩
      go_wp2_with fail
      go_meet
      exact HR.out
    · have HR : Hid (SpPost w (w1.setCell ⟨g, i * 7 + 4, none⟩ (.int .i64 sen0)) (some ⟨g, 0, none⟩) ps.length cap) := by
        obtain ⟨A1, k1, c1, e1, s1⟩ := HL1.out (.int .i64 sen0) (i * 7 + 4)
        obtain ⟨A2, k2, c2, e2, s2⟩ := HL2.out (.int .i64 sen0) (i * 7 + 4)
        exact HSET.out 4 (.int .i64 sen0) ⟨p.id, p.name, p.base, p.rank, sen0, p.types, p.vacs⟩ (by decide) ⟨A1, k1, c1, A2, k2, c2, by rw [e1, e2]; rfl, s1, s2⟩ ⟨ok1, ok2, ok3, ok4, hp0, ok6, ok7⟩
      go_wp2_with fail
      go_meet
      exact HR.out
    · -- a type more
      have hlen1 : (p.types.length + 1) * 16 ≤ 140737488355328 := by omega
      obtain ⟨At', ct, rfl, -⟩ := HO1.out.sl
      have HOB := Lib.hid ((HO1.out.lower (Nat.zero_le a)).alloc (.cells #[.string str] 9))
      have HGA : Hid ((w1.alloc (.cells #[.string str] 9)).heap[g]? = some (.cells cur 40 (0, 0))) := (Below.heap_alloc _ _ _ hgl).trans HG.out
      go_wp2_with (at_builtin; refine wpList_push (t := Ty.str) (base := 0) rfl _ _ _ rfl 16 elem_strs rfl HOB.out w1.heap.size str (fun _ => False) rfl ⟨_, rfl, At.new w1 #[.string str] _⟩ (fun _ h => h.elim) hlen1 (by decide) (Nat.zero_le _) ?_)
      intro v6 w6 hown6 hgr6
      obtain ⟨A6, c6, rfl, -⟩ := hown6.sl
      rw [List.length_append, List.length_singleton] at hown6 ⊢
      have hg6 : w6.heap[g]? = some (.cells cur 40 (0, 0)) := (hgr6.block g (by simp; omega) (own_box_ne HOB.out HGA.out (by decide))).trans HGA.out
      have z5 : w6.cell? ⟨g, i * 7 + 5, none⟩ = some (.slice At' p.types.length ct) := by
        rw [block_cell hg6, ← block_cell HG.out]; exact y5
      have z5f : w6.frozen? ⟨g, i * 7 + 5, none⟩ = false := block_free hg6 _
      have hs6 := hgr6.size
      simp only [World.size_alloc] at hs6
      have HR : Hid (SpPost w (w6.setCell ⟨g, i * 7 + 5, none⟩ (.slice A6 (p.types.length + 1) c6)) (some ⟨g, 0, none⟩) ps.length cap) := by
        have k1 : Own Ty.str 9 (w6.setCell ⟨g, i * 7 + 5, none⟩ (.slice A6 (p.types.length + 1) c6)) 0 (.slice A6 (p.types.length + 1) c6) (p.types ++ [str]) := hown6.flat0 flat_str fun b hb => heap_setCell_other _ _ _ _ (fun e => own_box_ne hown6 hg6 (by decide) (by rw [hb]; exact congrArg some (show b = g from e).symm))
        have k2 : Own Ty.shift 42 (w6.setCell ⟨g, i * 7 + 5, none⟩ (.slice A6 (p.types.length + 1) c6)) a vv p.vacs := HO2.out.flat0 flat_shift fun b hb => by
          obtain ⟨cb, hcb⟩ := HO2.out.tag hb
          have hbl : b < w1.heap.size := (Array.getElem?_eq_some_iff.1 hcb).1
          have hcb' : (w1.alloc (.cells #[.string str] 9)).heap[b]? = some (.cells cb 42 (0, 0)) := (Below.heap_alloc _ _ _ hbl).trans hcb
          rw [heap_setCell_other _ _ _ _ (fun e => own_box_ne HO2.out HG.out (by decide) (by rw [hb]; exact congrArg some (show b = g from e).symm)), hgr6.block b (by simp; omega) (own_box_ne HOB.out hcb' (by decide)), hcb', hcb]
        obtain ⟨A1, c1, e1, s1⟩ := k1.sl
        obtain ⟨A2, c2, e2, s2⟩ := k2.sl
        refine ⟨ps.set i ⟨p.id, p.name, p.base, p.rank, p.sen, p.types ++ [str], p.vacs⟩, HFIN.out _ 5 (.slice A6 (p.types.length + 1) c6) _ (by decide) (heap_setCell_same _ _ _ _ _ _ hg6) (fun q hq hqg hqz => ?_) (by simp; omega) ⟨A1, _, c1, A2, _, c2, by rw [e1, e2]; rfl, s1.more fun b hb => hb.2, s2.more fun b hb => hb.2⟩, okP_set HOK.out ⟨ok1, ok2, ok3, ok4, ok5, fun s hs => ?_, ok7⟩, ?_⟩
        · rw [heap_setCell_other _ _ _ _ hqg, hgr6.block q (by simp; omega) (fun e => hqz ⟨(HO1.out.lt q e.symm).1, HZ1.out q e.symm⟩), Below.heap_alloc _ _ _ hq]
        · rcases List.mem_append.1 hs with h | h
          · exact ok6 s h
          · simp at h; subst h; exact HSTR.out
        · exact ((HB1.out.alloc HB1.out.size _).grown hgr6 (by simp; have := HB1.out.size; omega) (fun k hk => by have := (HO1.out.lt k hk).1; omega)).setCell hlg _
      clear hown6 hgr6 hg6
      go_wp2_with fail
      go_meet
      exact HR.out
    · -- a vacation more
      have hw5 := wrap64_range (num + 5)
      obtain ⟨m5, e5⟩ : ∃ m, wrap64 (num + 5) = m := ⟨_, rfl⟩
      have e5' : IntKind.i64.wrap (num + 5) = m5 := by rw [← e5, IntKind.wrap_i64]; unfold wrap64; omega
      rw [e5] at hw5
      have hlen2 : (p.vacs.length + 1) * 16 ≤ 140737488355328 := by omega
      obtain ⟨At', ct, rfl, -⟩ := HO2.out.sl
      have HOB := Lib.hid ((HO2.out.lower (Nat.zero_le a)).alloc (.cells #[.int .i64 (num), .int .i64 (m5)] 42))
      have HGA : Hid ((w1.alloc (.cells #[.int .i64 (num), .int .i64 (m5)] 42)).heap[g]? = some (.cells cur 40 (0, 0))) := (Below.heap_alloc _ _ _ hgl).trans HG.out
      go_wp2_with (at_builtin; refine wpList_push (t := Ty.shift) (base := 0) rfl _ _ _ rfl 16 elem_span rfl HOB.out w1.heap.size ⟨num, m5⟩ (fun _ => False) rfl ⟨_, rfl, At.new w1 #[.int .i64 (num), .int .i64 (m5)] _⟩ (fun _ h => h.elim) hlen2 (by decide) (Nat.zero_le _) ?_)
      intro v6 w6 hown6 hgr6
      obtain ⟨A6, c6, rfl, -⟩ := hown6.sl
      rw [List.length_append, List.length_singleton] at hown6 ⊢
      have hg6 : w6.heap[g]? = some (.cells cur 40 (0, 0)) := (hgr6.block g (by simp; omega) (own_box_ne HOB.out HGA.out (by decide))).trans HGA.out
      have z5 : w6.cell? ⟨g, i * 7 + 6, none⟩ = some (.slice At' p.vacs.length ct) := by
        rw [block_cell hg6, ← block_cell HG.out]; exact y6
      have z5f : w6.frozen? ⟨g, i * 7 + 6, none⟩ = false := block_free hg6 _
      have hs6 := hgr6.size
      simp only [World.size_alloc] at hs6
      have HR : Hid (SpPost w (w6.setCell ⟨g, i * 7 + 6, none⟩ (.slice A6 (p.vacs.length + 1) c6)) (some ⟨g, 0, none⟩) ps.length cap) := by
        have k1 : Own Ty.shift 42 (w6.setCell ⟨g, i * 7 + 6, none⟩ (.slice A6 (p.vacs.length + 1) c6)) 0 (.slice A6 (p.vacs.length + 1) c6) (p.vacs ++ [⟨num, m5⟩]) := hown6.flat0 flat_shift fun b hb => heap_setCell_other _ _ _ _ (fun e => own_box_ne hown6 hg6 (by decide) (by rw [hb]; exact congrArg some (show b = g from e).symm))
        have k2 : Own Ty.str 9 (w6.setCell ⟨g, i * 7 + 6, none⟩ (.slice A6 (p.vacs.length + 1) c6)) a tv p.types := HO1.out.flat0 flat_str fun b hb => by
          obtain ⟨cb, hcb⟩ := HO1.out.tag hb
          have hbl : b < w1.heap.size := (Array.getElem?_eq_some_iff.1 hcb).1
          have hcb' : (w1.alloc (.cells #[.int .i64 (num), .int .i64 (m5)] 42)).heap[b]? = some (.cells cb 9 (0, 0)) := (Below.heap_alloc _ _ _ hbl).trans hcb
          rw [heap_setCell_other _ _ _ _ (fun e => own_box_ne HO1.out HG.out (by decide) (by rw [hb]; exact congrArg some (show b = g from e).symm)), hgr6.block b (by simp; omega) (own_box_ne HOB.out hcb' (by decide)), hcb', hcb]
        obtain ⟨A1, c1, e1, s1⟩ := k1.sl
        obtain ⟨A2, c2, e2, s2⟩ := k2.sl
        refine ⟨ps.set i ⟨p.id, p.name, p.base, p.rank, p.sen, p.types, p.vacs ++ [(⟨num, m5⟩ : GShift)]⟩, HFIN.out _ 6 (.slice A6 (p.vacs.length + 1) c6) _ (by decide) (heap_setCell_same _ _ _ _ _ _ hg6) (fun q hq hqg hqz => ?_) (by simp; omega) ⟨A2, _, c2, A1, _, c1, by rw [e1, e2]; rfl, s2.more fun b hb => hb.2, s1.more fun b hb => hb.2⟩, okP_set HOK.out ⟨ok1, ok2, ok3, ok4, ok5, ok6, fun s hs => ?_⟩, ?_⟩
        · rw [heap_setCell_other _ _ _ _ hqg, hgr6.block q (by simp; omega) (fun e => hqz ⟨(HO2.out.lt q e.symm).1, HZ2.out q e.symm⟩), Below.heap_alloc _ _ _ hq]
        · rcases List.mem_append.1 hs with h | h
          · exact ok7 s h
          · simp at h; subst h; exact ⟨HNUM.out, hw5⟩
        · exact ((HB1.out.alloc HB1.out.size _).grown hgr6 (by simp; have := HB1.out.size; omega) (fun k hk => by have := (HO2.out.lt k hk).1; omega)).setCell hlg _
      clear hown6 hgr6 hg6
      go_wp2_with fail
      go_meet
      exact HR.out
    · -- a vacation more
      have hlen2 : (p.vacs.length + 1) * 16 ≤ 140737488355328 := by omega
      obtain ⟨At', ct, rfl, -⟩ := HO2.out.sl
      have HOB := Lib.hid ((HO2.out.lower (Nat.zero_le a)).alloc (.cells #[.int .i64 (1440000 + nm), .int .i64 (1449000)] 42))
      have HGA : Hid ((w1.alloc (.cells #[.int .i64 (1440000 + nm), .int .i64 (1449000)] 42)).heap[g]? = some (.cells cur 40 (0, 0))) := (Below.heap_alloc _ _ _ hgl).trans HG.out
      go_wp2_with (at_builtin; refine wpList_push (t := Ty.shift) (base := 0) rfl _ _ _ rfl 16 elem_span rfl HOB.out w1.heap.size ⟨1440000 + nm, 1449000⟩ (fun _ => False) rfl ⟨_, rfl, At.new w1 #[.int .i64 (1440000 + nm), .int .i64 (1449000)] _⟩ (fun _ h => h.elim) hlen2 (by decide) (Nat.zero_le _) ?_)
      intro v6 w6 hown6 hgr6
      obtain ⟨A6, c6, rfl, -⟩ := hown6.sl
      rw [List.length_append, List.length_singleton] at hown6 ⊢
      have hg6 : w6.heap[g]? = some (.cells cur 40 (0, 0)) := (hgr6.block g (by simp; omega) (own_box_ne HOB.out HGA.out (by decide))).trans HGA.out
      have z5 : w6.cell? ⟨g, i * 7 + 6, none⟩ = some (.slice At' p.vacs.length ct) := by
        rw [block_cell hg6, ← block_cell HG.out]; exact y6
      have z5f : w6.frozen? ⟨g, i * 7 + 6, none⟩ = false := block_free hg6 _
      have hs6 := hgr6.size
      simp only [World.size_alloc] at hs6
      have HR : Hid (SpPost w (w6.setCell ⟨g, i * 7 + 6, none⟩ (.slice A6 (p.vacs.length + 1) c6)) (some ⟨g, 0, none⟩) ps.length cap) := by
        have k1 : Own Ty.shift 42 (w6.setCell ⟨g, i * 7 + 6, none⟩ (.slice A6 (p.vacs.length + 1) c6)) 0 (.slice A6 (p.vacs.length + 1) c6) (p.vacs ++ [⟨1440000 + nm, 1449000⟩]) := hown6.flat0 flat_shift fun b hb => heap_setCell_other _ _ _ _ (fun e => own_box_ne hown6 hg6 (by decide) (by rw [hb]; exact congrArg some (show b = g from e).symm))
        have k2 : Own Ty.str 9 (w6.setCell ⟨g, i * 7 + 6, none⟩ (.slice A6 (p.vacs.length + 1) c6)) a tv p.types := HO1.out.flat0 flat_str fun b hb => by
          obtain ⟨cb, hcb⟩ := HO1.out.tag hb
          have hbl : b < w1.heap.size := (Array.getElem?_eq_some_iff.1 hcb).1
          have hcb' : (w1.alloc (.cells #[.int .i64 (1440000 + nm), .int .i64 (1449000)] 42)).heap[b]? = some (.cells cb 9 (0, 0)) := (Below.heap_alloc _ _ _ hbl).trans hcb
          rw [heap_setCell_other _ _ _ _ (fun e => own_box_ne HO1.out HG.out (by decide) (by rw [hb]; exact congrArg some (show b = g from e).symm)), hgr6.block b (by simp; omega) (own_box_ne HOB.out hcb' (by decide)), hcb', hcb]
        obtain ⟨A1, c1, e1, s1⟩ := k1.sl
        obtain ⟨A2, c2, e2, s2⟩ := k2.sl
        refine ⟨ps.set i ⟨p.id, p.name, p.base, p.rank, p.sen, p.types, p.vacs ++ [(⟨1440000 + nm, 1449000⟩ : GShift)]⟩, HFIN.out _ 6 (.slice A6 (p.vacs.length + 1) c6) _ (by decide) (heap_setCell_same _ _ _ _ _ _ hg6) (fun q hq hqg hqz => ?_) (by simp; omega) ⟨A2, _, c2, A1, _, c1, by rw [e1, e2]; rfl, s2.more fun b hb => hb.2, s1.more fun b hb => hb.2⟩, okP_set HOK.out ⟨ok1, ok2, ok3, ok4, ok5, ok6, fun s hs => ?_⟩, ?_⟩
        · rw [heap_setCell_other _ _ _ _ hqg, hgr6.block q (by simp; omega) (fun e => hqz ⟨(HO2.out.lt q e.symm).1, HZ2.out q e.symm⟩), Below.heap_alloc _ _ _ hq]
        · rcases List.mem_append.1 hs with h | h
          · exact ok7 s h
          · simp at h; subst h; exact ⟨⟨by show _ ≤ 1440000 + nm; omega, by show 1440000 + nm ≤ _; omega⟩, by show -9223372036854775808 ≤ (1449000 : Int) ∧ (1449000 : Int) ≤ 9223372036854775807; decide⟩
        · exact ((HB1.out.alloc HB1.out.size _).grown hgr6 (by simp; have := HB1.out.size; omega) (fun k hk => by have := (HO2.out.lt k hk).1; omega)).setCell hlg _
      clear hown6 hgr6 hg6
      go_wp2_with fail
      go_meet
      exact HR.out
    · have HR : Hid (SpPost w (w1.setCell ⟨g, i * 7 + 4, none⟩ (.int .i64 num)) (some ⟨g, 0, none⟩) ps.length cap) := by
        obtain ⟨A1, k1, c1, e1, s1⟩ := HL1.out (.int .i64 num) (i * 7 + 4)
        obtain ⟨A2, k2, c2, e2, s2⟩ := HL2.out (.int .i64 num) (i * 7 + 4)
        exact HSET.out 4 (.int .i64 num) ⟨p.id, p.name, p.base, p.rank, num, p.types, p.vacs⟩ (by decide) ⟨A1, k1, c1, A2, k2, c2, by rw [e1, e2]; rfl, s1, s2⟩ ⟨ok1, ok2, ok3, ok4, HNUM.out, ok6, ok7⟩
      go_wp2_with fail
      go_meet
      exact HR.out
  case rest =>
    obtain ⟨qs, hsq, hoq, hbq⟩ := hcut
    have HSQ := Lib.hid hsq; have HOQ := Lib.hid hoq; have HBQ := Lib.hid hbq
    clear hsq hoq hbq y0 y1 y2 y3 y4 y5 y6 x4 fz HL1 HL2 HSET HFIN HOK HB1 HG HO1 HO2
    go_wp2_with fail
    refine (crewTable_any wc).mono ?_
    rintro e w2 ⟨A1, n1, c1, A2, n2, c2, rfl, hs1, hs2, hb2⟩
    have HV := Lib.hid (crewValidate_any baseTbl qs A1 A2 none _ n1 n2 0 _ c1 c2 0 cap w2 tbl_ok HOQ.out (hs1.more fun b hb => hb.2) (hs2.more fun b hb => hb.2) Sl.nil0 (HSQ.out.next hb2))
    have hbw2 : Below w.heap.size w w2 := HBQ.out.trans (hb2.mono HBQ.out.size)
    have hsq2 := Lib.hid (HSQ.out.next hb2)
    clear hs1 hs2 hb2
    go_wp2_with fail
    refine HV.out.mono ?_
    clear HV
    rintro e w3 ⟨rfl, hb3⟩
    have hbw3 : Below w.heap.size w w3 := hbw2.trans (hb3.mono hbw2.size)
    have hsq3 := Lib.hid (hsq2.out.next hb3)
    clear hb3
    generalize hev : crewE baseTbl qs = ev at *
    have HEV := Lib.hid hev
    clear hev
    go_wp2_with fail
    refine (crewTable_any w3).mono ?_
    rintro e w4 ⟨B1, m1, d1, B2, m2, d2, rfl, hs1, hs2, hb4⟩
    have HV := Lib.hid (validateCrewR_any baseTbl qs B1 B2 none _ m1 m2 0 _ d1 d2 0 cap w4 tbl_ok HOQ.out (hs1.more fun b hb => hb.2) (hs2.more fun b hb => hb.2) Sl.nil0 (hsq3.out.next hb4))
    rw [HEV.out] at HV
    have hbw4 : Below w.heap.size w w4 := hbw3.trans (hb4.mono hbw3.size)
    clear hs1 hs2 hb4
    go_wp2_with fail
    refine HV.out.mono ?_
    clear HV
    rintro e w5 ⟨rfl, hb5⟩
    have hbw5 : Below w.heap.size w w5 := hbw4.trans (hb5.mono hbw4.size)
    have heq : (ev == ev) = true := by simp
    clear hb5
    go_wp2_with fail
    refine (crewAwake_any w5).mono ?_
    rintro e w9 ⟨rfl, hb9⟩
    go_wp2_with fail
    go_ret
    exact ⟨rfl, hbw5.trans (hb9.mono hbw5.size)⟩
end Go.Proofs.Ytkhedjfdjjeopaa
/-
  The row of CrewSpoilt: for every input the law returns true, and the arguments read as before. No condition.
-/
namespace Go.Proofs.Ytkhedjfdjjeopaa.crewSpoilt
set_option linter.unusedSimpArgs false
set_option linter.unusedVariables false
open Go.ChangeShapes Go.WideShapes Go.ChangeAt Go.RowKit
open Go.ChangeMaps (open_string shut_string)
theorem reads_all : (Try.f4.params.toList.all fun t => Try.prog.readableRec t && decide (t < Try.prog.types.size)) = true := by kernel_rfl
theorem reads_ok : ∀ t ∈ Try.f4.params.toList, Try.prog.readableRec t = true ∧ t < Try.prog.types.size := fun t ht => by
  have h := List.all_eq_true.1 reads_all t ht
  rw [Bool.and_eq_true] at h
  exact ⟨h.1, of_decide_eq_true h.2⟩
set_option maxRecDepth 100000 in
theorem contract (H : Type) (enc : TypeId × Value → H) (W : World) (base : Nat) (args : Array Value) (ds gs : List (DataW H)) (before : List MemPlace)
    (hval : ∀ (j : Nat) t v, Try.f4.params[j]? = some t → args[j]? = some v → Value.okWide Try.prog W .any base t v)
    (hW : DataW.Whole enc Try.prog Try.f4.params.toList Rows.crewSpoiltSpec.vars false W args.toList ds gs before) :
    Calls Try.prog 4 args W fun e W' => ∃ v, e = .returned v ∧ Rows.crewSpoiltSpec.post enc Try.prog Try.f4 false true false false W args v W' := by
  have hW' := hW
  have hlt := hW.lt
  obtain ⟨p, q, hA0, hV, rfl, hfz, hnd⟩ := hW
  have hA : DataW.TrodAll enc Try.prog W 0 (fun _ => true) true Try.f4.params.toList args.toList ds p := hA0
  rw [Try.params4] at hA hval
  obtain ⟨v0, vs0, d0, ds0, p0, q0, hargs0, rfl, rfl, h0, r0⟩ := trodAll_cons hA
  obtain ⟨v1, vs1, d1, ds1, p1, q1, hargs1, rfl, rfl, h1, r1⟩ := trodAll_cons r0
  obtain ⟨v2, vs2, d2, ds2, p2, q2, hargs2, rfl, rfl, h2, r2⟩ := trodAll_cons r1
  obtain ⟨v3, vs3, d3, ds3, p3, q3, hargs3, rfl, rfl, h3, r3⟩ := trodAll_cons r2
  obtain ⟨v4, vs4, d4, ds4, p4, q4, hargs4, rfl, rfl, h4, r4⟩ := trodAll_cons r3
  obtain ⟨rfl, rfl, rfl⟩ := trodAll_nil r4
  obtain rfl : args = #[v0, v1, v2, v3, v4] := by cases args; simp_all
  obtain ⟨rfl, rfl⟩ := trodVars_none hV
  obtain ⟨A0, n0, c0, l0, rfl, s0, o0⟩ := open_fits_slice Try.underlying34 (by kernel_rfl) fits_i64 (hval 0 34 v0 rfl rfl) h0 (fun x hx => hlt x (by simp [hx]))
  obtain ⟨a1, rfl, rfl, rfl, wf1⟩ := open_int Try.underlying3 (hval 1 3 v1 rfl rfl) h1
  obtain ⟨a2, rfl, rfl, rfl, wf2⟩ := open_int Try.underlying3 (hval 2 3 v2 rfl rfl) h2
  obtain ⟨a3, rfl, rfl, rfl, wf3⟩ := open_int Try.underlying3 (hval 3 3 v3 rfl rfl) h3
  obtain ⟨a4, rfl, rfl, rfl, wf4⟩ := open_string Try.underlying9 (hval 4 9 v4 rfl rfl) h4
  refine (lawCrewSpoilt_any l0 A0 n0 c0 a1 a2 a3 a4 W s0 wf4 (by simpa [Lit.wf, IntKind.min, IntKind.max, IntKind.signed, IntKind.bits] using wf3)).mono fun e W' ⟨he, hb⟩ => ?_
  subst he
  exact ⟨_, rfl, law_post laidOut_true Try.underlying4 rfl rfl (fun t ht => by revert t; exact reads_ok) ⟨rfl, rfl, rfl⟩ hW' hb⟩
set_option maxRecDepth 100000 in
theorem lifted (os : Os) (started : os.Started) (H : Type) (enc : TypeId × Value → H) :
    ReturnsInHanded {} Try.checked os 4 .any (Rows.crewSpoiltSpec.pre6 enc Try.prog Try.f4 Rows.crewSpoiltRow.domain false) (Rows.crewSpoiltSpec.post enc Try.prog Try.f4 false true false false) := by
  refine returnsInHanded_of_change (C := Try.checked) ownKnob_none started (by kernel_rfl) Try.func4
    (ChangeSpec.witness6 (enc := enc) (C := Try.checked) false ⟨#[], #[.slice none 0 0, .int .i64 0, .int .i64 0, .int .i64 0, .string ⟨#[]⟩], []⟩ 8 (by kernel_rfl) (by kernel_rfl) (by kernel_rfl) (by kernel_rfl)) ?_
  intro W base args ds gs before hval hW _ _
  exact contract H enc W base args ds gs before hval hW
theorem said : Rows.CrewSpoiltSaid :=
  OpenClaim.holds_of_wide 4 Try.f4 rfl rfl rfl rfl rfl rfl rfl ⟨rfl, rfl, rfl, rfl, rfl⟩ rfl rfl rfl rfl rfl (by kernel_rfl) Try.func4 (by kernel_rfl)
    (of_decide_eq_true (by kernel_rfl)) (by unfold Func.isWrapper; first | (rw [if_pos (by decide +kernel)]; kernel_rfl) | (rw [if_neg (by decide +kernel)]; exact ⟨rfl, rfl⟩))
    (fun os started H enc _ => lifted os started H enc)
end Go.Proofs.Ytkhedjfdjjeopaa.crewSpoilt
