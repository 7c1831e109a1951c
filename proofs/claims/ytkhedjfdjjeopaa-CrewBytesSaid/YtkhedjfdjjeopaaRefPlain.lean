/-
  The reference's reading of a body, in plain words, and why it answers as the program's reading.
  Condition: the bytes are bytes.
-/
import Derived.Test.YtkhedjfdjjeopaaTTDec
namespace Go.Proofs.Ytkhedjfdjjeopaa
set_option linter.unusedSimpArgs false
set_option linter.unusedVariables false
open Go

/-- The reference's reader: behind an error nothing is read. -/
def rrU (most : Int) (s : List Int) (bad : Bool) : Int × List Int × Bool := if bad = true ∨ (decU s).2.2 ≠ 0 ∨ most < (decU s).1 then (0, s, true) else ((decU s).1, s.drop (decU s).2.1, false)
def rrI (s : List Int) (bad : Bool) : Int × List Int × Bool := if bad = true ∨ (decI s).2.2 ≠ 0 then (0, s, true) else ((decI s).1, s.drop (decI s).2.1, false)
def rrT (s : List Int) (bad : Bool) : ByteArray × List Int × Bool := if bad = true ∨ (decT s).2.2 ≠ 0 then (⟨#[]⟩, s, true) else ((decT s).1, s.drop (decT s).2.1, false)
def rrMany {α : Type} (f : List Int → Bool → α × List Int × Bool) : Nat → List Int → Bool → List α × List Int × Bool
  | 0, s, b => ([], s, b)
  | k + 1, s, b => if (rrMany f k s b).2.2 = true then rrMany f k s b else ((rrMany f k s b).1 ++ [(f (rrMany f k s b).2.1 false).1], (f (rrMany f k s b).2.1 false).2)
abbrev bigU : Int := 4611686018427387904
/-- One reading behind the other. -/
def bindR {α β : Type} (f : List Int → Bool → α × List Int × Bool) (k : α → List Int → Bool → β × List Int × Bool) (s : List Int) (b : Bool) : β × List Int × Bool := k (f s b).1 (f s b).2.1 (f s b).2.2
def pureR {α : Type} (x : α) (s : List Int) (b : Bool) : α × List Int × Bool := (x, s, b)
structure Sim {α : Type} (f g : List Int → Bool → α × List Int × Bool) : Prop where
  ok : ∀ s, bytesL s → (g s false).2.2 = false → f s false = g s false ∧ (g s false).2.1.length ≤ s.length ∧ bytesL (g s false).2.1
  bad : ∀ s, bytesL s → (g s false).2.2 = true → (f s false).2.2 = true
  stay : ∀ s, (f s true).2.2 = true
  stayg : ∀ s, (g s true).2.2 = true
def Strict {α : Type} (g : List Int → Bool → α × List Int × Bool) : Prop := ∀ s, bytesL s → (g s false).2.2 = false → (g s false).2.1.length < s.length
section
variable {α β : Type} {f g : List Int → Bool → α × List Int × Bool} {k k' : α → List Int → Bool → β × List Int × Bool}
theorem Sim.pure (x : α) : Sim (pureR x) (pureR x) := ⟨fun s h _ => ⟨rfl, Nat.le_refl _, h⟩, fun s _ h => h, fun _ => rfl, fun _ => rfl⟩
theorem Sim.bind (h : Sim f g) (hk : ∀ x, Sim (k x) (k' x)) : Sim (bindR f k) (bindR g k') := by
  refine ⟨fun s hs hb => ?_, fun s hs hb => ?_, fun s => ?_, fun s => ?_⟩
  · rcases Bool.eq_false_or_eq_true (g s false).2.2 with hg | hg
    · have := (hk (g s false).1).stayg (g s false).2.1
      unfold bindR at hb
      rw [hg] at hb
      rw [this] at hb
      cases hb
    · obtain ⟨e, hl, hby⟩ := h.ok s hs hg
      unfold bindR at hb ⊢
      rw [e]
      rw [hg] at hb ⊢
      obtain ⟨e2, hl2, hby2⟩ := (hk (g s false).1).ok _ hby hb
      exact ⟨e2, Nat.le_trans hl2 hl, hby2⟩
  · unfold bindR at hb ⊢
    rcases Bool.eq_false_or_eq_true (g s false).2.2 with hg | hg
    · rw [h.bad s hs hg]
      exact (hk _).stay _
    · obtain ⟨e, hl, hby⟩ := h.ok s hs hg
      rw [e]
      rw [hg] at hb ⊢
      exact (hk _).bad _ hby hb
  · unfold bindR
    rw [h.stay s]
    exact (hk _).stay _
  · unfold bindR
    rw [h.stayg s]
    exact (hk _).stayg _
theorem Strict.bind (h : Strict g) (hs : Sim f g) (hk : ∀ x, Sim (k x) (k' x)) : Strict (bindR g k') := fun s hb hg => by
  rcases Bool.eq_false_or_eq_true (g s false).2.2 with hg1 | hg1
  · unfold bindR at hg
    rw [hg1, (hk _).stayg] at hg
    cases hg
  · obtain ⟨e, hl, hby⟩ := hs.ok s hb hg1
    have h1 := h s hb hg1
    unfold bindR at hg ⊢
    rw [hg1] at hg ⊢
    obtain ⟨_, hl2, _⟩ := (hk (g s false).1).ok _ hby hg
    omega
theorem rrMany_stay (hg : True) : ∀ (n : Nat) (s : List Int), rrMany g n s true = ([], s, true)
  | 0, _ => rfl
  | n + 1, s => by rw [rrMany, rrMany_stay hg n s]; simp
theorem rdMany_stay (h : Sim f g) : ∀ (n : Nat) (s : List Int), (rdMany f n s true).2.2 = true
  | 0, _ => rfl
  | n + 1, s => by
    show (f (rdMany f n s true).2.1 (rdMany f n s true).2.2).2.2 = true
    rw [rdMany_stay h n s]
    exact h.stay _
theorem many_ok (h : Sim f g) (hs : Strict g) : ∀ (n : Nat) (s : List Int), bytesL s →
    ((rrMany g n s false).2.2 = false → rdMany f n s false = rrMany g n s false ∧ (rrMany g n s false).2.1.length + n ≤ s.length ∧ bytesL (rrMany g n s false).2.1) ∧
    ((rrMany g n s false).2.2 = true → (rdMany f n s false).2.2 = true)
  | 0, s, hb => ⟨fun _ => ⟨rfl, Nat.le_refl _, hb⟩, fun h => h⟩
  | n + 1, s, hb => by
    obtain ⟨i1, i2⟩ := many_ok h hs n s hb
    have er : rrMany g (n + 1) s false = if (rrMany g n s false).2.2 = true then rrMany g n s false else ((rrMany g n s false).1 ++ [(g (rrMany g n s false).2.1 false).1], (g (rrMany g n s false).2.1 false).2) := rfl
    have ed : rdMany f (n + 1) s false = ((rdMany f n s false).1 ++ [(f (rdMany f n s false).2.1 (rdMany f n s false).2.2).1], (f (rdMany f n s false).2.1 (rdMany f n s false).2.2).2) := rfl
    rcases Bool.eq_false_or_eq_true (rrMany g n s false).2.2 with hg | hg
    · rw [if_pos hg] at er
      rw [er, ed]
      refine ⟨fun hx => (by rw [hg] at hx; cases hx), fun _ => ?_⟩
      show (f _ _).2.2 = true
      rw [i2 hg]
      exact h.stay _
    · rw [if_neg (by rw [hg]; simp)] at er
      obtain ⟨e, hl, hby⟩ := i1 hg
      rw [er, ed, e, hg]
      refine ⟨fun hx => ?_, fun hx => h.bad _ hby hx⟩
      have hx' : (g (rrMany g n s false).2.1 false).2.2 = false := hx
      obtain ⟨e2, _, hby2⟩ := h.ok _ hby hx'
      have h3 := hs _ hby hx'
      rw [e2]
      refine ⟨rfl, ?_, hby2⟩
      show (g (rrMany g n s false).2.1 false).2.1.length + (n + 1) ≤ s.length
      omega
end
theorem simU : Sim rdU (rrU bigU) := by
  refine ⟨fun s hb h => ?_, fun s hb h => ?_, fun s => ?_, fun s => ?_⟩
  · unfold rrU at h ⊢
    split at h
    · cases h
    · rename_i hc
      rw [if_neg hc]
      have he : (decU s).2.2 = 0 := Classical.not_not.1 fun e => hc (.inr (.inl e))
      unfold rdU
      rw [if_pos he]
      exact ⟨rfl, by rw [List.length_drop]; omega, bytesL_drop hb _⟩
  · unfold rrU at h
    split at h
    · rename_i hc
      have he : (decU s).2.2 ≠ 0 := fun e => by
        have := decU_ok hb e
        rcases hc with hc | hc | hc
        · cases hc
        · exact hc e
        · unfold bigU at hc; omega
      unfold rdU
      rw [if_neg he]
    · cases h
  · unfold rdU; split <;> rfl
  · unfold rrU; rw [if_pos (.inl rfl)]
theorem strictU (m : Int) : Strict (rrU m) := fun s hb h => by
  unfold rrU at h ⊢
  split at h
  · cases h
  · rename_i hc
    rw [if_neg hc]
    have he : (decU s).2.2 = 0 := Classical.not_not.1 fun e => hc (.inr (.inl e))
    have := decU_ok hb he
    simp only [List.length_drop]
    omega
theorem simI : Sim rdI rrI := by
  refine ⟨fun s hb h => ?_, fun s hb h => ?_, fun s => ?_, fun s => ?_⟩
  · unfold rrI at h ⊢
    split at h
    · cases h
    · rename_i hc
      rw [if_neg hc]
      have he : (decI s).2.2 = 0 := Classical.not_not.1 fun e => hc (.inr e)
      unfold rdI
      rw [if_pos he]
      exact ⟨rfl, by rw [List.length_drop]; omega, bytesL_drop hb _⟩
  · unfold rrI at h
    split at h
    · rename_i hc
      have he : (decI s).2.2 ≠ 0 := fun e => by
        rcases hc with hc | hc
        · cases hc
        · exact hc e
      unfold rdI
      rw [if_neg he]
    · cases h
  · unfold rdI; split <;> rfl
  · unfold rrI; rw [if_pos (.inl rfl)]
theorem simT : Sim rdT rrT := by
  refine ⟨fun s hb h => ?_, fun s hb h => ?_, fun s => ?_, fun s => ?_⟩
  · unfold rrT at h ⊢
    split at h
    · cases h
    · rename_i hc
      rw [if_neg hc]
      have he : (decT s).2.2 = 0 := Classical.not_not.1 fun e => hc (.inr e)
      unfold rdT
      rw [if_pos he]
      exact ⟨rfl, by rw [List.length_drop]; omega, bytesL_drop hb _⟩
  · unfold rrT at h
    split at h
    · rename_i hc
      have he : (decT s).2.2 ≠ 0 := fun e => by
        rcases hc with hc | hc
        · cases hc
        · exact hc e
      unfold rdT
      rw [if_neg he]
    · cases h
  · unfold rdT; split <;> rfl
  · unfold rrT; rw [if_pos (.inl rfl)]
theorem strictT : Strict rrT := fun s hb h => by
  unfold rrT at h ⊢
  split at h
  · cases h
  · rename_i hc
    rw [if_neg hc]
    have he : (decT s).2.2 = 0 := Classical.not_not.1 fun e => hc (.inr e)
    have := decT_okU hb he
    simp only [List.length_drop]
    omega
/-- A count, and so many elements. -/
theorem simCount {α : Type} {f g : List Int → Bool → α × List Int × Bool} (h : Sim f g) (hs : Strict g) (most : Int) (hm : most ≤ bigU) :
    Sim (bindR (rdN most) fun n => rdMany f n.toNat) (bindR (rrU most) fun n => rrMany g n.toNat) := by
  have hN : ∀ s, bytesL s → (rdU s false).2.2 = true → (rdN most s false).2.2 = true := fun s _ he => by
    unfold rdN
    split
    · rfl
    · unfold rdC
      split
      · rfl
      · exact he
  refine ⟨fun s hb hg => ?_, fun s hb hg => ?_, fun s => ?_, fun s => ?_⟩
  · unfold bindR at hg ⊢
    by_cases hc : (false = true) ∨ (decU s).2.2 ≠ 0 ∨ most < (decU s).1
    · have e : rrU most s false = (0, s, true) := by unfold rrU; rw [if_pos hc]
      rw [e] at hg
      simp only [rrMany_stay trivial] at hg
      cases hg
    · have e : rrU most s false = ((decU s).1, s.drop (decU s).2.1, false) := by unfold rrU; rw [if_neg hc]
      rw [e] at hg ⊢
      simp only at hg ⊢
      have he : (decU s).2.2 = 0 := Classical.not_not.1 fun e => hc (.inr (.inl e))
      have hr : rdU s false = ((decU s).1, s.drop (decU s).2.1, false) := by unfold rdU; rw [if_pos he]
      have hby := bytesL_drop hb (decU s).2.1
      obtain ⟨e2, hl, hb2⟩ := (many_ok h hs (decU s).1.toNat _ hby).1 hg
      have h0 := decU_ok hb he
      have hle : (decU s).1 ≤ ((s.drop (decU s).2.1).length : Int) := by omega
      have hC : rdC s false = ((decU s).1, s.drop (decU s).2.1, false) := by
        unfold rdC
        rw [hr, if_neg (by simp only; omega)]
      have hD : rdN most s false = ((decU s).1, s.drop (decU s).2.1, false) := by
        unfold rdN
        rw [hC, if_neg (by simp only; omega)]
      rw [hD]
      simp only
      refine ⟨e2, ?_, hb2⟩
      rw [List.length_drop] at hl
      omega
  · unfold bindR at hg ⊢
    by_cases hc : (decU s).2.2 ≠ 0
    · have : (rdU s false).2.2 = true := by unfold rdU; rw [if_neg hc]
      rw [hN s hb this]
      exact rdMany_stay h _ _
    · have he : (decU s).2.2 = 0 := Classical.not_not.1 hc
      have hr : rdU s false = ((decU s).1, s.drop (decU s).2.1, false) := by unfold rdU; rw [if_pos he]
      have h0 := decU_ok hb he
      by_cases hx : most < (rdC s false).1
      · have hD : rdN most s false = (0, [], true) := by unfold rdN; rw [if_pos hx]
        rw [hD]
        exact rdMany_stay h _ _
      · have hD : rdN most s false = rdC s false := by unfold rdN; rw [if_neg hx]
        rw [hD]
        by_cases hy : ((rdU s false).2.1.length : Int) < (rdU s false).1
        · have hC : rdC s false = (0, [], true) := by unfold rdC; rw [if_pos hy]
          rw [hC]
          exact rdMany_stay h _ _
        · have hC : rdC s false = rdU s false := by unfold rdC; rw [if_neg hy]
          rw [hC] at hx ⊢
          rw [hr] at hx ⊢
          simp only at hx ⊢
          have e : rrU most s false = ((decU s).1, s.drop (decU s).2.1, false) := by
            unfold rrU
            rw [if_neg]
            rintro (h1 | h1 | h1)
            · cases h1
            · exact h1 he
            · exact hx h1
          rw [e] at hg
          exact (many_ok h hs _ _ (bytesL_drop hb _)).2 hg
  · unfold bindR
    have : (rdN most s true).2.2 = true := by
      unfold rdN
      split
      · rfl
      · unfold rdC
        split
        · rfl
        · unfold rdU; split <;> rfl
    rw [this]
    exact rdMany_stay h _ _
  · unfold bindR
    have e : rrU most s true = (0, s, true) := by unfold rrU; rw [if_pos (.inl rfl)]
    rw [e]
    simp only [rrMany_stay trivial]

def rrShift : List Int → Bool → GShift × List Int × Bool := bindR (rrU bigU) fun u => bindR rrI fun i => pureR ⟨u, i⟩
def rrZone : List Int → Bool → GZone × List Int × Bool := bindR rrT fun t => bindR rrI fun i => bindR (bindR (rrU 16) fun n => rrMany rrShift n.toNat) fun m => pureR ⟨t, i, m⟩
def rrAirport : List Int → Bool → GAirport × List Int × Bool := bindR rrT fun t => bindR rrT fun u => pureR ⟨t, u⟩
def rrFlight : List Int → Bool → GFlight × List Int × Bool := bindR rrT fun t1 => bindR rrT fun t2 => bindR rrT fun t3 => bindR (rrU bigU) fun u1 => bindR (rrU bigU) fun u2 => bindR rrT fun t4 =>
  bindR (rrU bigU) fun n0 => bindR (rrU bigU) fun n1 => bindR (rrU bigU) fun n2 => pureR ⟨t1, t2, t3, u1, u2, t4, n0, n1, n2⟩
def rrTT : List Int → Bool → GTT × List Int × Bool := bindR (bindR (rrU 16) fun n => rrMany rrZone n.toNat) fun z => bindR (bindR (rrU 64) fun n => rrMany rrAirport n.toNat) fun a => bindR (bindR (rrU 200) fun n => rrMany rrFlight n.toNat) fun f => pureR ⟨z, a, f⟩
theorem rdShift_eq : rdShift = bindR rdU fun u => bindR rdI fun i => pureR ⟨u, i⟩ := rfl
theorem rdZone_eq : rdZone = bindR rdT fun t => bindR rdI fun i => bindR (bindR (rdN 16) fun n => rdMany rdShift n.toNat) fun m => pureR ⟨t, i, m⟩ := rfl
theorem rdAirport_eq : rdAirport = bindR rdT fun t => bindR rdT fun u => pureR ⟨t, u⟩ := rfl
theorem rdFlight_eq : rdFlight = bindR rdT fun t1 => bindR rdT fun t2 => bindR rdT fun t3 => bindR rdU fun u1 => bindR rdU fun u2 => bindR rdT fun t4 =>
    bindR rdU fun n0 => bindR rdU fun n1 => bindR rdU fun n2 => pureR ⟨t1, t2, t3, u1, u2, t4, n0, n1, n2⟩ := by
  funext s b
  simp only [rdFlight, bindR, pureR]
theorem rdTT_eq (s : List Int) : rdTT s = (bindR (bindR (rdN 16) fun n => rdMany rdZone n.toNat) fun z => bindR (bindR (rdN 64) fun n => rdMany rdAirport n.toNat) fun a => bindR (bindR (rdN 200) fun n => rdMany rdFlight n.toNat) fun f => pureR (⟨z, a, f⟩ : GTT)) s false := by
  simp only [rdTT, bindR, pureR]
theorem simShift : Sim rdShift rrShift := by rw [rdShift_eq]; exact simU.bind fun _ => simI.bind fun _ => Sim.pure _
theorem strictShift : Strict rrShift := (strictU _).bind simU fun _ => simI.bind fun _ => Sim.pure _
theorem simZone : Sim rdZone rrZone := by rw [rdZone_eq]; exact simT.bind fun _ => simI.bind fun _ => (simCount simShift strictShift 16 (by decide)).bind fun _ => Sim.pure _
theorem strictZone : Strict rrZone := strictT.bind simT fun _ => simI.bind fun _ => (simCount simShift strictShift 16 (by decide)).bind fun _ => Sim.pure _
theorem simAirport : Sim rdAirport rrAirport := by rw [rdAirport_eq]; exact simT.bind fun _ => simT.bind fun _ => Sim.pure _
theorem strictAirport : Strict rrAirport := strictT.bind simT fun _ => simT.bind fun _ => Sim.pure _
theorem simFlight : Sim rdFlight rrFlight := by
  rw [rdFlight_eq]
  exact simT.bind fun _ => simT.bind fun _ => simT.bind fun _ => simU.bind fun _ => simU.bind fun _ => simT.bind fun _ => simU.bind fun _ => simU.bind fun _ => simU.bind fun _ => Sim.pure _
theorem strictFlight : Strict rrFlight :=
  strictT.bind simT fun _ => simT.bind fun _ => simT.bind fun _ => simU.bind fun _ => simU.bind fun _ => simT.bind fun _ => simU.bind fun _ => simU.bind fun _ => simU.bind fun _ => Sim.pure _
theorem simTT (s : List Int) (hb : bytesL s) : ((rrTT s false).2.2 = false → rdTT s = rrTT s false) ∧ ((rrTT s false).2.2 = true → (rdTT s).2.2 = true) := by
  have h := (simCount simZone strictZone 16 (by decide)).bind fun z => (simCount simAirport strictAirport 64 (by decide)).bind fun a => (simCount simFlight strictFlight 200 (by decide)).bind fun f => Sim.pure (⟨z, a, f⟩ : GTT)
  rw [rdTT_eq]
  exact ⟨fun h1 => (h.ok s hb h1).1, fun h1 => h.bad s hb h1⟩
end Go.Proofs.Ytkhedjfdjjeopaa
