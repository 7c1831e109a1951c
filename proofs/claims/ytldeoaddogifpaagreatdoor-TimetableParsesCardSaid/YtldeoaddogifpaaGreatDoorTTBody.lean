/-
  The plain body of a timetable's encoding, and that a valid timetable's data are within their limits.
  No condition.
-/
import Derived.Test.YtldeoaddogifpaaGreatDoorTTPlain
import Derived.Test.YtldeoaddogifpaaGreatDoorWirePlain
namespace Go.Proofs.YtldeoaddogifpaaGreatDoor
set_option linter.unusedSimpArgs false
set_option linter.unusedVariables false
open Go

def shiftB (s : GShift) : List Int := uvar s.at_ ++ uvar (zig s.off)
def zoneB (z : GZone) : List Int := textB z.name ++ uvar (zig z.off) ++ uvar z.shifts.length ++ z.shifts.flatMap shiftB
def airportB (a : GAirport) : List Int := textB a.code ++ textB a.zone
def flightB (f : GFlight) : List Int := textB f.number ++ textB f.src ++ textB f.dst ++ uvar f.dep ++ uvar f.arr ++ textB f.kind ++ uvar f.n0 ++ uvar f.n1 ++ uvar f.n2
def bodyB (t : GTT) : List Int := uvar t.zones.length ++ t.zones.flatMap zoneB ++ uvar t.airports.length ++ t.airports.flatMap airportB ++ uvar t.flights.length ++ t.flights.flatMap flightB

def GShift.fine (s : GShift) : Prop := (0 ≤ s.at_ ∧ s.at_ ≤ 52596000) ∧ (-840 ≤ s.off ∧ s.off ≤ 840)
def GZone.fine (z : GZone) : Prop := z.name.size ≤ 16 ∧ (-840 ≤ z.off ∧ z.off ≤ 840) ∧ z.shifts.length ≤ 16 ∧ ∀ s ∈ z.shifts, s.fine
def GAirport.fine (a : GAirport) : Prop := a.code.size ≤ 16 ∧ a.zone.size ≤ 16
def GFlight.fine (f : GFlight) : Prop := f.number.size ≤ 16 ∧ f.src.size ≤ 16 ∧ f.dst.size ≤ 16 ∧ f.kind.size ≤ 16 ∧ (0 ≤ f.dep ∧ f.dep ≤ 52596000) ∧ (0 ≤ f.arr ∧ f.arr ≤ 52596000) ∧ (0 ≤ f.n0 ∧ f.n0 ≤ 8) ∧ (0 ≤ f.n1 ∧ f.n1 ≤ 8) ∧ (0 ≤ f.n2 ∧ f.n2 ≤ 8)
structure GTT.fine (t : GTT) : Prop where
  l1 : t.zones.length ≤ 16
  l2 : t.airports.length ≤ 64
  l3 : t.flights.length ≤ 200
  z : ∀ z ∈ t.zones, z.fine
  a : ∀ a ∈ t.airports, a.fine
  f : ∀ f ∈ t.flights, f.fine

theorem firstErr_zero {f : Nat → Int} : ∀ {n : Nat}, firstErr f n = 0 → zeroTo f n
  | 0, _ => zeroTo_zero f
  | n + 1, h => by
    rw [firstErr] at h
    split at h
    · rename_i h1
      exact zeroTo_succ (firstErr_zero h1) h
    · rename_i h1
      exact absurd h h1
theorem mem_getD {α : Type} {l : List α} {x : α} (h : x ∈ l) (d : α) : ∃ i, i < l.length ∧ l.getD i d = x := by
  obtain ⟨i, hi, e⟩ := List.getElem_of_mem h
  exact ⟨i, hi, by rw [List.getD_eq_getElem?_getD, List.getElem?_eq_getElem hi]; exact e⟩
theorem offOk_iff {n : Int} : offOk n = true ↔ -840 ≤ n ∧ n ≤ 840 := by simp [offOk]
theorem insOk_iff {n : Int} : insOk n = true ↔ 0 ≤ n ∧ n < 52596000 := by simp [insOk]
theorem needOk_iff {n : Int} : needOk n = true ↔ 0 ≤ n ∧ n ≤ 8 := by simp [needOk]
theorem not_false_true {b : Bool} (h : ¬ b = false) : b = true := by cases b <;> simp_all
theorem isName_size {s : ByteArray} (h : isNameB s = true) : 1 ≤ s.size ∧ s.size ≤ 16 := by
  simp only [isNameB, Bool.and_eq_true, decide_eq_true_eq] at h
  exact h.1
theorem isCode_size {s : ByteArray} (h : isCodeB s = true) : 1 ≤ s.size ∧ s.size ≤ 8 := by
  simp only [isCodeB, Bool.and_eq_true, decide_eq_true_eq] at h
  exact h.1
theorem isAirport_size {s : ByteArray} (h : isAirportB s = true) : s.size = 3 := by
  simp only [isAirportB, Bool.and_eq_true, beq_iff_eq] at h
  exact h.1
theorem zone_fine {z : GZone} (h : zoneE z = 0) : z.fine := by
  unfold zoneE at h
  split at h
  · exact absurd h (by decide)
  rename_i h1
  split at h
  · exact absurd h (by decide)
  rename_i h2
  split at h
  · exact absurd h (by decide)
  rename_i h3
  have h1' := isName_size (not_false_true h1)
  refine ⟨h1'.2, offOk_iff.1 (not_false_true h2), by omega, fun s hs => ?_⟩
  obtain ⟨i, hi, rfl⟩ := mem_getD hs noShift
  have h4 := firstErr_zero h i hi
  unfold shiftErr at h4
  split at h4
  · exact absurd h4 (by decide)
  · rename_i h5
    have h6 : insOk (z.shifts.getD i noShift).at_ = true := not_false_true fun e => h5 (.inl e)
    have h7 : offOk (z.shifts.getD i noShift).off = true := not_false_true fun e => h5 (.inr e)
    rw [insOk_iff] at h6
    rw [offOk_iff] at h7
    exact ⟨⟨h6.1, by omega⟩, h7⟩
theorem zErr_zero {zs : List GZone} {i : Nat} (h : zErr zs i = 0) : zoneE (zs.getD i noZone) = 0 ∧ hasB (zNames (zs.take i)) (zs.getD i noZone).name = false := by
  unfold zErr at h
  split at h
  · rename_i h1; exact absurd h h1
  · rename_i h1
    split at h
    · exact absurd h (by decide)
    · rename_i h2
      exact ⟨Classical.not_not.1 h1, by simpa using h2⟩
theorem aErr_zero {zs : List GZone} {l : List GAirport} {i : Nat} (h : aErr zs l i = 0) : isAirportB (l.getD i noAirport).code = true ∧ hasB (aCodes (l.take i)) (l.getD i noAirport).code = false ∧ hasB (zNames zs) (l.getD i noAirport).zone = true := by
  unfold aErr at h
  split at h
  · exact absurd h (by decide)
  rename_i h1
  split at h
  · exact absurd h (by decide)
  rename_i h2
  split at h
  · exact absurd h (by decide)
  rename_i h3
  exact ⟨not_false_true h1, by simpa using h2, not_false_true h3⟩
structure FlightOk (codes : List ByteArray) (f : GFlight) : Prop where
  number : isCodeB f.number = true
  kind : isNameB f.kind = true
  src : hasB codes f.src = true
  dst : hasB codes f.dst = true
  ne : f.src ≠ f.dst
  dep : 2880 ≤ f.dep
  arr : f.arr ≤ 52593120
  lt : f.dep < f.arr
  len : f.arr - f.dep ≤ 1440
  n0 : needOk f.n0 = true
  n1 : needOk f.n1 = true
  n2 : needOk f.n2 = true
theorem flightE_zero {codes : List ByteArray} {f : GFlight} (h : flightE codes f = 0) : FlightOk codes f := by
  unfold flightE at h
  split at h
  · exact absurd h (by decide)
  rename_i h1
  split at h
  · exact absurd h (by decide)
  rename_i h2
  split at h
  · exact absurd h (by decide)
  rename_i h3
  split at h
  · exact absurd h (by decide)
  rename_i h4
  split at h
  · exact absurd h (by decide)
  rename_i h5
  exact ⟨not_false_true fun e => h1 (.inl e), not_false_true fun e => h1 (.inr e), not_false_true fun e => h2 (.inl e), not_false_true fun e => h2 (.inr e), h3, by omega, by omega, by omega, by omega,
    not_false_true fun e => h5 (.inl e), not_false_true fun e => h5 (.inr (.inl e)), not_false_true fun e => h5 (.inr (.inr e))⟩
/-- What a valid timetable is. -/
structure GTT.valid (t : GTT) : Prop where
  l1 : t.zones.length ≤ 16
  l2 : t.airports.length ≤ 64
  l3 : t.flights.length ≤ 200
  z : zeroTo (zErr t.zones) t.zones.length
  a : zeroTo (aErr t.zones t.airports) t.airports.length
  f : zeroTo (fErr (aCodes t.airports) t.flights) t.flights.length
theorem ttE_zero {t : GTT} : ttE t = 0 ↔ t.valid := by
  unfold ttE
  constructor
  · intro h
    split at h
    · exact absurd h (by decide)
    rename_i h1
    split at h
    · rename_i h2; exact absurd h h2
    rename_i h2
    split at h
    · rename_i h3; exact absurd h h3
    rename_i h3
    exact ⟨by omega, by omega, by omega, firstErr_zero (Classical.not_not.1 h2), firstErr_zero (Classical.not_not.1 h3), firstErr_zero h⟩
  · intro h
    rw [if_neg (by have := h.l1; have := h.l2; have := h.l3; omega), firstErr_none h.z, firstErr_none h.a, firstErr_none h.f]
    rfl
theorem fErr_zero {codes : List ByteArray} {l : List GFlight} {i : Nat} (h : fErr codes l i = 0) : FlightOk codes (l.getD i noFlight) ∧ (0 < i → beforeB (l.getD (i - 1) noFlight) (l.getD i noFlight) = true) := by
  unfold fErr at h
  split at h
  · rename_i h1; exact absurd h h1
  · rename_i h1
    split at h
    · exact absurd h (by decide)
    · rename_i h2
      exact ⟨flightE_zero (Classical.not_not.1 h1), fun h0 => not_false_true fun e => h2 ⟨h0, e⟩⟩
theorem GTT.valid.fine {t : GTT} (h : t.valid) : t.fine := by
  have hz : ∀ z ∈ t.zones, z.fine := fun z hz => by
    obtain ⟨i, hi, rfl⟩ := mem_getD hz noZone
    exact zone_fine (zErr_zero (h.z i hi)).1
  have ha : ∀ a ∈ t.airports, a.fine := fun a ha => by
    obtain ⟨i, hi, rfl⟩ := mem_getD ha noAirport
    obtain ⟨h1, _, h3⟩ := aErr_zero (h.a i hi)
    rw [hasB_iff, zNames, List.mem_map] at h3
    obtain ⟨z, hzm, e⟩ := h3
    have := isAirport_size h1
    exact ⟨by omega, by rw [← e]; exact (hz z hzm).1⟩
  refine ⟨h.l1, h.l2, h.l3, hz, ha, fun f hf => ?_⟩
  obtain ⟨i, hi, rfl⟩ := mem_getD hf noFlight
  have h1 := (fErr_zero (h.f i hi)).1
  have hcode : ∀ c, hasB (aCodes t.airports) c = true → c.size ≤ 16 := fun c hc => by
    rw [hasB_iff, aCodes, List.mem_map] at hc
    obtain ⟨a, ham, e⟩ := hc
    rw [← e]
    exact (ha a ham).1
  have c1 := isCode_size h1.number
  have c2 := isName_size h1.kind
  have := h1.dep; have := h1.arr; have := h1.lt
  exact ⟨by omega, hcode _ h1.src, hcode _ h1.dst, by omega, ⟨by omega, by omega⟩, ⟨by omega, by omega⟩, needOk_iff.1 h1.n0, needOk_iff.1 h1.n1, needOk_iff.1 h1.n2⟩
theorem flatMap_len {α : Type} {f : α → List Int} {M : Nat} : ∀ {l : List α}, (∀ x ∈ l, (f x).length ≤ M) → (l.flatMap f).length ≤ l.length * M
  | [], _ => by simp
  | a :: l, h => by
    have h1 := flatMap_len (l := l) fun x hx => h x (by simp [hx])
    have h2 := h a (by simp)
    rw [List.flatMap_cons, List.length_append, List.length_cons, Nat.succ_mul]
    omega
theorem flatMap_take {α : Type} (f : α → List Int) {l : List α} {k : Nat} (h : k < l.length) (d : α) : (l.take (k + 1)).flatMap f = (l.take k).flatMap f ++ f (l.getD k d) := by
  rw [List.take_succ_eq_append_getElem h, List.flatMap_append, List.getD_eq_getElem?_getD, List.getElem?_eq_getElem h]
  simp
theorem flatMap_take_len {α : Type} {f : α → List Int} {M : Nat} {l : List α} (h : ∀ x ∈ l, (f x).length ≤ M) (k : Nat) : ((l.take k).flatMap f).length ≤ l.length * M := by
  refine Nat.le_trans (flatMap_len fun x hx => h x (List.mem_of_mem_take hx)) (Nat.mul_le_mul_right _ ?_)
  rw [List.length_take]
  omega
theorem textB_le {s : ByteArray} (h : s.size ≤ 16) : (textB s).length ≤ 26 := by
  unfold textB
  have := uvar_len s.size
  rw [List.length_append, bytesOf_len]
  omega
theorem shiftB_len (s : GShift) : (shiftB s).length ≤ 20 := by
  unfold shiftB
  have := uvar_len s.at_; have := uvar_len (zig s.off)
  rw [List.length_append]
  omega
theorem zoneB_len {z : GZone} (h : z.fine) : (zoneB z).length ≤ 400 := by
  unfold zoneB
  have h1 := flatMap_len (f := shiftB) (M := 20) (l := z.shifts) fun x _ => shiftB_len x
  have := uvar_len (zig z.off); have := uvar_len z.shifts.length
  have := textB_le h.1
  have := h.2.2.1
  simp only [List.length_append]
  omega
theorem airportB_len {a : GAirport} (h : a.fine) : (airportB a).length ≤ 52 := by
  unfold airportB
  have := textB_le h.1; have := textB_le h.2
  rw [List.length_append]
  omega
theorem flightB_len {f : GFlight} (h : f.fine) : (flightB f).length ≤ 200 := by
  unfold flightB
  obtain ⟨h1, h2, h3, h4, _⟩ := h
  have := textB_le h1; have := textB_le h2; have := textB_le h3; have := textB_le h4
  have := uvar_len f.dep; have := uvar_len f.arr; have := uvar_len f.n0; have := uvar_len f.n1; have := uvar_len f.n2
  simp only [List.length_append]
  omega
theorem bodyB_len {t : GTT} (h : t.fine) : (bodyB t).length ≤ 60000 := by
  unfold bodyB
  have h1 := flatMap_len (f := zoneB) (M := 400) fun x hx => zoneB_len (h.z x hx)
  have h2 := flatMap_len (f := airportB) (M := 52) fun x hx => airportB_len (h.a x hx)
  have h3 := flatMap_len (f := flightB) (M := 200) fun x hx => flightB_len (h.f x hx)
  have := uvar_len t.zones.length; have := uvar_len t.airports.length; have := uvar_len t.flights.length
  have := h.l1; have := h.l2; have := h.l3
  simp only [List.length_append]
  omega
theorem bodyB_pos (t : GTT) : bodyB t ≠ [] := fun e => by
  unfold bodyB at e
  simp only [List.append_eq_nil_iff] at e
  exact uvar_pos _ e.1.1.1.1.1
end Go.Proofs.YtldeoaddogifpaaGreatDoor
