/-
  A rule for a region that draws its order: each operation gives a fact about its own slot and the world; the facts stay under growth of the memory; then the last operations run in their one order.
  No condition.
-/
import Derived.Test.YthldmlfpebgojaaGreatDoorLib
import Derived.StillTail
import Derived.RegionTactic
namespace Go.Proofs.YthldmlfpebgojaaGreatDoor
set_option linter.unusedSimpArgs false
set_option linter.unusedVariables false
open Go.RowKit Go

/-- The slot of an operation. -/
def dstOf (ops : Array Oper) (i : Nat) : Option Nat := (ops[i]?).bind (·.dst)
/-- The first n operations: a slot of its own each, no guard; edges lead back; every later operation waits for all of them. -/
def headOk (ops : Array Oper) (n size : Nat) : Bool :=
  (List.range n).all (fun i => match dstOf ops i with
    | some d => decide (d < size) && (List.range i).all (fun j => dstOf ops j != some d)
    | none => false) &&
  (List.range n).all (fun i => match ops[i]? with
    | some o => o.guard.isNone && o.after.all (fun e => decide (e.on < i))
    | none => false) &&
  (List.range ops.size).all (fun t => decide (t < n) || match ops[t]? with
    | some o => (List.range n).all fun i => o.after.any fun e => e.on == i && Region.binds .any e
    | none => false) && decide (n ≤ ops.size)
/-- All heads listed, no tail. -/
def headListed (ops : Array Oper) (n : Nat) : Array Bool := ((List.range ops.size).map fun i => decide (i < n)).toArray
def putAll (ops : Array Oper) (a : Act) (us : Nat → Value) : Nat → Act
  | 0 => a
  | k + 1 => (putAll ops a us k).put (dstOf ops k) (us k)
theorem putAll_size (ops : Array Oper) (a : Act) (us : Nat → Value) : ∀ n, (putAll ops a us n).tmps.size = a.tmps.size
  | 0 => rfl
  | k + 1 => by
    rw [putAll]
    unfold Act.put
    split
    · simp [putAll_size ops a us k]
    · exact putAll_size ops a us k
theorem putAll_defers (ops : Array Oper) (a : Act) (us : Nat → Value) : ∀ n, (putAll ops a us n).defers = a.defers
  | 0 => rfl
  | k + 1 => by
    rw [putAll]
    unfold Act.put
    split <;> exact putAll_defers ops a us k
theorem putAll_out {ops : Array Oper} {a : Act} {us : Nat → Value} {s : Nat} : ∀ {n : Nat}, (∀ j, j < n → dstOf ops j ≠ some s) → (putAll ops a us n).tmps[s]? = a.tmps[s]?
  | 0, _ => rfl
  | k + 1, h => by
    rw [putAll]
    unfold Act.put
    have h1 := h k (by omega)
    split
    · rename_i d hd
      have : d ≠ s := fun e => h1 (by rw [hd, e])
      simp only
      rw [Array.getElem?_setIfInBounds_ne this]
      exact putAll_out fun j hj => h j (by omega)
    · exact putAll_out fun j hj => h j (by omega)
theorem putAll_in {ops : Array Oper} {a : Act} {us : Nat → Value} {s i : Nat} (hs : s < a.tmps.size) (hi : dstOf ops i = some s) : ∀ {n : Nat}, i < n → (∀ j, j < n → j ≠ i → dstOf ops j ≠ some s) → (putAll ops a us n).tmps[s]? = some (us i)
  | k + 1, hik, h => by
    rw [putAll]
    unfold Act.put
    by_cases hk : k = i
    · subst hk
      rw [hi]
      simp only
      rw [Array.getElem?_setIfInBounds_self_of_lt (by rw [putAll_size]; exact hs)]
    · have h1 := h k (by omega) hk
      split
      · rename_i d hd
        have : d ≠ s := fun e => h1 (by rw [hd, e])
        simp only
        rw [Array.getElem?_setIfInBounds_ne this]
        exact putAll_in hs hi (by omega) fun j hj => h j (by omega)
      · exact putAll_in hs hi (by omega) fun j hj => h j (by omega)

/-- What holds on the way through the heads. -/
structure HI (ops : Array Oper) (n : Nat) (a : Act) (W : World) (F : Nat → Value → World → Prop) (listed : Array Bool) (a' : Act) (w' : World) : Prop where
  lsize : listed.size = ops.size
  tail : ∀ t, n ≤ t → listed.getD t false = false
  defers : a'.defers = a.defers
  size : a'.tmps.size = a.tmps.size
  out : ∀ s, (∀ j, j < n → dstOf ops j ≠ some s) → a'.tmps[s]? = a.tmps[s]?
  facts : ∀ i d, i < n → listed.getD i false = true → dstOf ops i = some d → F i (a'.tmps.getD d undef) w'
  grow : Below W.heap.size W w'

section
variable {P : Program} {ops : Array Oper} {Q : Exit → Act → World → Prop} {n : Nat} {a : Act} {W : World} {F : Nat → Value → World → Prop}
structure HeadFacts (ops : Array Oper) (n size : Nat) : Prop where
  dst : ∀ i, i < n → ∃ d, dstOf ops i = some d ∧ d < size
  inj : ∀ i j d, i < n → j < n → dstOf ops i = some d → dstOf ops j = some d → i = j
  guard : ∀ i o, i < n → ops[i]? = some o → o.guard = none
  back : ∀ i o, i < n → ops[i]? = some o → ∀ e ∈ o.after, e.on < i
  cover : ∀ t o, n ≤ t → ops[t]? = some o → ∀ i, i < n → ∃ e ∈ o.after, e.on = i ∧ Region.binds .any e = true
  le : n ≤ ops.size
theorem headFacts {size : Nat} (h : headOk ops n size = true) : HeadFacts ops n size := by
  unfold headOk at h
  simp only [Bool.and_eq_true, List.all_eq_true, List.mem_range, decide_eq_true_eq] at h
  obtain ⟨⟨⟨h1, h2⟩, h3⟩, h4⟩ := h
  have h1' : ∀ i, i < n → ∃ d, dstOf ops i = some d ∧ d < size ∧ ∀ j, j < i → dstOf ops j ≠ some d := fun i hi => by
    have := h1 i hi
    cases hd : dstOf ops i with
    | none => rw [hd] at this; cases this
    | some d =>
      rw [hd] at this
      simp only [Bool.and_eq_true, decide_eq_true_eq, List.all_eq_true, List.mem_range, bne_iff_ne] at this
      exact ⟨d, rfl, this.1, this.2⟩
  refine ⟨fun i hi => ?_, fun i j d hi hj e1 e2 => ?_, fun i o hi ho => ?_, fun i o hi ho e he => ?_, fun t o ht ho i hi => ?_, h4⟩
  · obtain ⟨d, e, hl, _⟩ := h1' i hi
    exact ⟨d, e, hl⟩
  · rcases Nat.lt_trichotomy i j with hlt | rfl | hlt
    · obtain ⟨d', e', _, hn⟩ := h1' j hj
      rw [e2] at e'
      injection e' with e'
      subst e'
      exact absurd e1 (hn i hlt)
    · rfl
    · obtain ⟨d', e', _, hn⟩ := h1' i hi
      rw [e1] at e'
      injection e' with e'
      subst e'
      exact absurd e2 (hn j hlt)
  · have := h2 i hi
    rw [ho] at this
    simp only [Bool.and_eq_true, Option.isNone_iff_eq_none] at this
    exact this.1
  · have := h2 i hi
    rw [ho] at this
    simp only [Bool.and_eq_true, Array.all_eq_true] at this
    obtain ⟨k, hk, rfl⟩ := Array.getElem_of_mem he
    exact of_decide_eq_true (this.2 k hk)
  · have hts : t < ops.size := (Array.getElem?_eq_some_iff.1 ho).1
    have := h3 t hts
    rw [ho] at this
    simp only [Bool.or_eq_true, decide_eq_true_eq, List.all_eq_true, List.mem_range, Array.any_eq_true, Bool.and_eq_true, beq_iff_eq] at this
    rcases this with h | h
    · omega
    · obtain ⟨k, hk, he, hb⟩ := h i hi
      exact ⟨_, Array.getElem_mem hk, he, hb⟩
def left (n : Nat) (listed : Array Bool) : Nat := ((List.range n).filter fun i => !listed.getD i false).length
theorem left_zero {n : Nat} {listed : Array Bool} (h : left n listed = 0) (i : Nat) (hi : i < n) : listed.getD i false = true := by
  unfold left at h
  rw [List.length_eq_zero_iff, List.filter_eq_nil_iff] at h
  have := h i (List.mem_range.2 hi)
  cases hl : listed.getD i false with
  | true => rfl
  | false => rw [hl] at this; simp at this
theorem left_set {n i : Nat} {listed : Array Bool} (hi : i < n) (his : i < listed.size) (h : listed.getD i false = false) : left n (listed.setIfInBounds i true) + 1 = left n listed := by
  unfold left
  have key : ∀ m, (((List.range m).filter fun j => !(listed.setIfInBounds i true).getD j false).length + (if i < m then 1 else 0)) = ((List.range m).filter fun j => !listed.getD j false).length := by
    intro m
    induction m with
    | zero => simp
    | succ m ih =>
      rw [List.range_succ, List.filter_append, List.filter_append, List.length_append, List.length_append, ← ih]
      by_cases hm : i = m
      · subst hm
        have e1 : (listed.setIfInBounds i true).getD i false = true := by simp [his]
        simp only [List.filter_cons, List.filter_nil, e1, h]
        simp
      · rw [List.filter_cons, List.filter_cons, Go.getD_set_ne false hm]
        have e2 : (i < m + 1) = (i < m) := by apply propext; omega
        simp only [e2]
        split <;> simp <;> omega
  have := key n
  rw [if_pos hi] at this
  exact this
theorem wpAny_facts {l : List Oper} (hl : l.toArray = ops) (hh : HeadFacts ops n a.tmps.size) (hseq : Region.seqB .any ops (ops.size - n) n (headListed ops n) = true)
    (hF : ∀ i v w w', F i v w → Below w.heap.size w w' → F i v w')
    (hstep : ∀ i o, i < n → ops[i]? = some o → ∀ a' w', Below W.heap.size W w' → (∀ s, (∀ j, j < n → dstOf ops j ≠ some s) → a'.tmps[s]? = a.tmps[s]?) →
      (∀ e ∈ o.after, ∀ d, dstOf ops e.on = some d → F e.on (a'.tmps.getD d undef) w') → ∀ K : Act → World → Prop, (∀ v w'', F i v w'' → Below w'.heap.size w' w'' → K (a'.put o.dst v) w'') → o.wp P a' w' K Q)
    (hfin : ∀ us w', Below W.heap.size W w' → (∀ i, i < n → F i (us i) w') → wpList P ops Q (l.drop n) (putAll ops a us n) w') (hb : ∀ (i : Nat) (o : Oper), ops[i]? = some o → ∀ e ∈ o.after, Region.binds .any e = true) :
    ∀ (f : Nat) (listed : Array Bool) (a' : Act) (w' : World), left n listed = f → HI ops n a W F listed a' w' → wpAny P .any ops Q (f + (ops.size - n)) listed a' w' := by
  have hdl : (l.drop n).length = ops.size - n := by rw [List.length_drop, ← hl]; simp
  intro f
  induction f with
  | zero =>
    intro listed a' w' hlf hi
    have hall := left_zero hlf
    have e1 : listed = headListed ops n := by
      apply Array.ext
      · rw [hi.lsize]; simp [headListed]
      · intro k h1 h2
        have hk : k < ops.size := by rw [← hi.lsize]; exact h1
        have e3 : (headListed ops n)[k] = decide (k < n) := by simp [headListed]
        rw [e3]
        by_cases hkn : k < n
        · have := hall k hkn
          simp [h1] at this
          rw [this]; simp [hkn]
        · have := hi.tail k (by omega)
          simp [h1] at this
          rw [this]; simp [hkn]
    have e2 : a' = putAll ops a (fun i => a'.tmps.getD ((dstOf ops i).getD 0) undef) n := by
      have es : a'.tmps = (putAll ops a (fun i => a'.tmps.getD ((dstOf ops i).getD 0) undef) n).tmps := by
        apply Array.ext_getElem?
        intro s
        by_cases hs : ∃ i, i < n ∧ dstOf ops i = some s
        · obtain ⟨i, hin, hd⟩ := hs
          obtain ⟨d, hd', hlt⟩ := hh.dst i hin
          rw [hd] at hd'
          injection hd' with hd'
          subst hd'
          rw [putAll_in hlt hd hin fun j hj hji e => hji (hh.inj j i s hj hin e hd)]
          have : s < a'.tmps.size := by rw [hi.size]; exact hlt
          simp [hd, this]
        · rw [putAll_out fun j hj e => hs ⟨j, hj, e⟩]
          exact hi.out s fun j hj e => hs ⟨j, hj, e⟩
      have ed : a'.defers = (putAll ops a (fun i => a'.tmps.getD ((dstOf ops i).getD 0) undef) n).defers := by rw [putAll_defers]; exact hi.defers
      cases ha : a' with
      | mk t d =>
        rw [ha] at es ed
        cases hp : putAll ops a (fun i => (Act.mk t d).tmps.getD ((dstOf ops i).getD 0) undef) n with
        | mk t2 d2 =>
          rw [hp] at es ed
          simp only at es ed
          rw [es, ed]
    rw [Nat.zero_add, ← hdl]
    subst e1
    refine wpAny_of_seq (l.drop n) n _ a' w' (fun j => by rw [List.getElem?_drop, ← hl]; simp) (by rw [hdl]; exact hseq) ?_
    rw [e2]
    exact hfin _ w' hi.grow fun i hin => by
      obtain ⟨d, hd, _⟩ := hh.dst i hin
      have := hi.facts i d hin (hall i hin) hd
      simp only [hd, Option.getD_some]
      exact this
  | succ f ih =>
    intro listed a' w' hlf hi
    rw [show f + 1 + (ops.size - n) = (f + (ops.size - n)) + 1 by omega]
    have hle := hh.le
    refine ⟨fun h0 => ?_, fun i hr => ?_⟩
    · exfalso
      have hex : ∃ i, i < n ∧ listed.getD i false = false := by
        have hne : (List.range n).filter (fun i => !listed.getD i false) ≠ [] := fun e => by
          unfold left at hlf
          rw [e] at hlf
          cases hlf
        obtain ⟨i, hi'⟩ := List.exists_mem_of_ne_nil _ hne
        rw [List.mem_filter, List.mem_range] at hi'
        exact ⟨i, hi'.1, by simpa using hi'.2⟩
      have key : ∀ i, i < n → listed.getD i false = true := by
        intro i
        induction i using Nat.strongRecOn with
        | _ i ihi =>
          intro hin
          cases hli : listed.getD i false with
          | true => rfl
          | false =>
            exfalso
            have hil : i < listed.size := by rw [hi.lsize]; omega
            have hmem : i ∈ Region.ready .any ops listed := by
              rw [mem_ready]
              have hio : i < ops.size := by omega
              refine ⟨Go.getD_in hil hli, ops[i], by simp [hio], fun e he _ => ?_⟩
              have hlt := hh.back i _ hin (by simp [hio]) e he
              exact ihi e.on hlt (by omega)
            rw [h0] at hmem
            cases hmem
      obtain ⟨i, hin, hlf'⟩ := hex
      rw [key i hin] at hlf'
      cases hlf'
    · obtain ⟨hun, o, ho, hall⟩ := mem_ready.1 hr
      have hun' := getD_both hun
      have hio : i < ops.size := (Array.getElem?_eq_some_iff.1 ho).1
      have hin : i < n := by
        rcases Nat.lt_or_ge i n with h | h
        · exact h
        · exfalso
          have hz : left n listed = 0 := by
            unfold left
            rw [List.length_eq_zero_iff, List.filter_eq_nil_iff]
            intro j hj
            obtain ⟨e, he, hon, hbd⟩ := hh.cover i o h ho j (List.mem_range.1 hj)
            have := hall e he hbd
            rw [hon] at this
            rw [this]
            simp
          omega
      have hil : i < listed.size := by rw [hi.lsize]; exact hio
      unfold wpOp
      rw [ho]
      have hwant : Region.wanted o (yielded ops a'.tmps) = true := by simp [Region.wanted, hh.guard i o hin ho]
      simp only [hwant, if_true]
      refine .inl (hstep i o hin ho a' w' hi.grow hi.out (fun e he d hd => ?_) _ fun v w'' hfv hbl => ?_)
      · exact hi.facts e.on d (Nat.lt_trans (hh.back i o hin ho e he) hin) (hall e he (hb i o ho e he)) hd
      · obtain ⟨d, hd, hdl'⟩ := hh.dst i hin
        have hod : o.dst = some d := by
          have : dstOf ops i = o.dst := by unfold dstOf; rw [ho]; rfl
          rw [← this]; exact hd
        refine ih _ _ _ ?_ ⟨by simpa using hi.lsize, fun t ht => by rw [Go.getD_set_ne false (by omega)]; exact hi.tail t ht, ?_, ?_, fun s hs => ?_, fun j d' hj hlj hdj => ?_, hi.grow.trans (hbl.mono hi.grow.size)⟩
        · have := left_set hin hil hun'
          omega
        · rw [hod]; exact hi.defers
        · rw [hod]; simpa [Act.put] using hi.size
        · rw [hod]
          simp only [Act.put]
          rw [Array.getElem?_setIfInBounds_ne (fun e => hs i hin (by rw [hd, e]))]
          exact hi.out s hs
        · rw [hod]
          by_cases hji : j = i
          · subst hji
            rw [hd] at hdj
            injection hdj with hdj
            subst hdj
            have : d < a'.tmps.size := by rw [hi.size]; exact hdl'
            simp only [Act.put]
            simpa [this] using hfv
          · have hne : d ≠ d' := fun e => hji (hh.inj j i d' hj hin hdj (e ▸ hd))
            rw [Go.getD_set_ne false (fun e => hji e.symm)] at hlj
            have h9 := hF j _ _ _ (hi.facts j d' hj hlj hdj) hbl
            simp only [Act.put]
            simpa [Array.getElem?_setIfInBounds_ne hne] using h9
end
/-- The listed slots are written, one behind the other. -/
def putL (us : Nat → Value) : Act → List Nat → Nat → Act
  | a, [], _ => a
  | a, d :: ds, k => putL us (a.put (some d) (us k)) ds (k + 1)
theorem putL_snoc (us : Nat → Value) (d : Nat) : ∀ (ds : List Nat) (a : Act) (k : Nat), putL us a (ds ++ [d]) k = (putL us a ds k).put (some d) (us (k + ds.length))
  | [], a, k => rfl
  | x :: ds, a, k => by
    rw [List.cons_append, putL, putL, putL_snoc us d ds]
    simp only [List.length_cons]
    rw [show k + 1 + ds.length = k + (ds.length + 1) by omega]
theorem putAll_eq {ops : Array Oper} {a : Act} {us : Nat → Value} {ds : List Nat} : ∀ (n : Nat), n ≤ ds.length → (∀ i, i < n → dstOf ops i = ds[i]?) → putAll ops a us n = putL us a (ds.take n) 0
  | 0, _, _ => by rw [List.take_zero]; rfl
  | n + 1, hn, h => by
    rw [putAll, putAll_eq n (by omega) fun i hi => h i (by omega), h n (by omega), List.getElem?_eq_getElem (by omega), List.take_succ_eq_append_getElem (by omega), putL_snoc, List.length_take]
    rw [Nat.min_eq_left (by omega), Nat.zero_add]
section
variable {P : Program} {ops : Array Oper} {Q : Exit → Act → World → Prop} {n : Nat} {a : Act} {W : World} {F : Nat → Value → World → Prop}
/-- THE RULE. -/
theorem wp_region_facts {id : Nat} {l : List Oper} {w : World} (n : Nat) (ds : List Nat) (F : Nat → Value → World → Prop) (hm : P.follows .mixedOrders = true) (hok : headOk l.toArray n a.tmps.size = true) (hds : ((List.range n).map (dstOf l.toArray) == ds.map some) = true) (hseq : Region.seqB .any l.toArray (l.toArray.size - n) n (headListed l.toArray n) = true)
    (hbind : (l.all fun o => o.after.all fun e => Region.binds .any e) = true)
    (hF : ∀ i v w w', F i v w → Below w.heap.size w w' → F i v w')
    (hstep : ∀ i o, i < n → l[i]? = some o → ∀ a' w', Below w.heap.size w w' → (∀ s, s ∉ ds → a'.tmps[s]? = a.tmps[s]?) →
      (∀ e ∈ o.after, ∀ d, ds[e.on]? = some d → F e.on (a'.tmps.getD d undef) w') → ∀ K : Act → World → Prop, (∀ v w'', F i v w'' → Below w'.heap.size w' w'' → K (a'.put o.dst v) w'') → o.wp P a' w' K Q)
    (hfin : ∀ us w', Below w.heap.size w w' → (∀ i, i < n → F i (us i) w') → wpList P l.toArray Q (l.drop n) (putL us a ds 0) w') : (Code.region id l.toArray true).wp P Q a w := by
  have hh := headFacts hok
  have hdl := beq_iff_eq.1 hds
  have hlen : ds.length = n := by
    have := congrArg List.length hdl
    simpa using this.symm
  have hdi : ∀ i, i < n → dstOf l.toArray i = ds[i]? := fun i hi => by
    have := congrArg (·[i]?) hdl
    simp only [List.getElem?_map, List.getElem?_range hi, Option.map_some] at this
    rw [List.getElem?_eq_getElem (by omega)] at this ⊢
    simpa using this
  refine wp_region_any hm ?_
  have hb : ∀ (i : Nat) (o : Oper), l.toArray[i]? = some o → ∀ e ∈ o.after, Region.binds .any e = true := fun i o ho e he => by
    have hmem : o ∈ l := by
      have : l[i]? = some o := by simpa using ho
      exact List.mem_of_getElem? this
    have h1 := List.all_eq_true.1 hbind o hmem
    rw [Array.all_eq_true] at h1
    obtain ⟨k, hk, rfl⟩ := Array.getElem_of_mem he
    exact h1 k hk
  have hl0 : left n (Array.replicate l.toArray.size false) = n := by
    unfold left
    rw [List.filter_eq_self.2 fun i _ => by rw [getD_replicate_false]; rfl, List.length_range]
  have hsz : l.toArray.size = n + (l.toArray.size - n) := by have := hh.le; omega
  have hD : Below w.heap.size w { w with drawn := w.drawn + 1 } := ⟨rfl, rfl, rfl, Nat.le_refl _, fun _ _ => rfl⟩
  have key := wpAny_facts (P := P) (Q := Q) (ops := l.toArray) (n := n) (a := a) (W := w) (F := F) rfl hh hseq hF
    (fun i o hi ho a' w' hb' hout hpre => hstep i o hi (by simpa using ho) a' w' hb'
      (fun s hs => hout s fun j hj e => hs (by rw [hdi j hj] at e; exact List.mem_of_getElem? e))
      (fun e he d hd => hpre e he d (by
        have hlt := hh.back i o hi ho e he
        rw [hdi e.on (by omega)]; exact hd)))
    (fun us w' hb' hf => by
      have := hfin us w' hb' hf
      rw [← List.take_of_length_le (l := ds) (i := n) (by omega)] at this
      rw [putAll_eq n (by omega) hdi]
      exact this) hb n (Array.replicate l.toArray.size false) a { w with drawn := w.drawn + 1 } hl0
    ⟨by simp, fun t _ => getD_replicate_false _ _, rfl, rfl, fun _ _ => rfl, fun i d _ h _ => (by rw [getD_replicate_false] at h; cases h), hD⟩
  rw [← hsz] at key
  exact key
end
end Go.Proofs.YthldmlfpebgojaaGreatDoor
