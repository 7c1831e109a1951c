/-
  Joined texts: TText; Builder; Builder2; TFmtPlain; DurFmtR; TFormatR; BasePlain; BaseValid. What each proves stands ahead of it, with its conditions.
-/
import Derived.Test.YtldeoaddogifpaaGreatDoorMEA
import Derived.Test.YtldeoaddogifpaaGreatDoorTTBody
import Derived.Test.YtldeoaddogifpaaGreatDoorShelf
import Derived.Test.YtldeoaddogifpaaGreatDoorWriter
import Derived.Test.YtldeoaddogifpaaGreatDoorCrc
import Derived.Laws.Externs
import Derived.OwnWalk
import Derived.Test.YtldeoaddogifpaaGreatDoorReader
import Derived.Test.YtldeoaddogifpaaGreatDoorMEC
import Derived.Test.YtldeoaddogifpaaGreatDoorValidateRef
import Derived.Test.YtldeoaddogifpaaGreatDoorRegion
import Derived.Deep.DeepCutAuto
import Derived.Test.YtldeoaddogifpaaGreatDoorBaseAt
/-
  The plain text of a timetable, and that the plain parser reads it back.
  Condition: the timetable is valid; the text takes no more than 20000 bytes.
-/
namespace Go.Proofs.YtldeoaddogifpaaGreatDoor
set_option linter.unusedSimpArgs false
set_option linter.unusedVariables false
open Go.RowKit

structure ZGood (z : GZone) : Prop where
  name : isNameB z.name = true
  off : -840 ≤ z.off ∧ z.off ≤ 840
  len : z.shifts.length ≤ 16
  s : ∀ s ∈ z.shifts, (0 ≤ s.at_ ∧ s.at_ < 52596000) ∧ -840 ≤ s.off ∧ s.off ≤ 840
structure AGood (a : GAirport) : Prop where
  code : isAirportB a.code = true
  zone : isNameB a.zone = true
structure FGood (x : GFlight) : Prop where
  number : isCodeB x.number = true
  src : isAirportB x.src = true
  dst : isAirportB x.dst = true
  kind : isNameB x.kind = true
  dep : 0 ≤ x.dep ∧ x.dep < 52596000
  arr : 0 ≤ x.arr ∧ x.arr < 52596000
  n0 : 0 ≤ x.n0 ∧ x.n0 ≤ 8
  n1 : 0 ≤ x.n1 ∧ x.n1 ≤ 8
  n2 : 0 ≤ x.n2 ∧ x.n2 ≤ 8
structure TGood (t : GTT) : Prop where
  z : ∀ z ∈ t.zones, ZGood z
  a : ∀ a ∈ t.airports, AGood a
  f : ∀ x ∈ t.flights, FGood x
  l1 : t.zones.length ≤ 16
  l2 : t.airports.length ≤ 64
  l3 : t.flights.length ≤ 200
theorem zoneE_good {z : GZone} (h : zoneE z = 0) : ZGood z := by
  unfold zoneE at h
  split at h
  · exact absurd h (by decide)
  rename_i h1
  split at h
  · exact absurd h (by decide)
  rename_i h2
  split at h
  · exact absurd h (by decide)
  rename_i h3
  refine ⟨not_false_true h1, offOk_iff.1 (not_false_true h2), by omega, fun s hs => ?_⟩
  obtain ⟨i, hi, rfl⟩ := mem_getD hs noShift
  have h4 := firstErr_zero h i hi
  unfold shiftErr at h4
  split at h4
  · exact absurd h4 (by decide)
  · rename_i h5
    exact ⟨insOk_iff.1 (not_false_true fun e => h5 (.inl e)), offOk_iff.1 (not_false_true fun e => h5 (.inr e))⟩
theorem GTT.valid.good {t : GTT} (h : t.valid) : TGood t := by
  have hz : ∀ z ∈ t.zones, ZGood z := fun z hz => by
    obtain ⟨i, hi, rfl⟩ := mem_getD hz noZone
    exact zoneE_good (zErr_zero (h.z i hi)).1
  have ha : ∀ a ∈ t.airports, AGood a := fun a ha => by
    obtain ⟨i, hi, rfl⟩ := mem_getD ha noAirport
    obtain ⟨h1, _, h3⟩ := aErr_zero (h.a i hi)
    rw [hasB_iff, zNames, List.mem_map] at h3
    obtain ⟨z, hzm, e⟩ := h3
    exact ⟨h1, by rw [← e]; exact (hz z hzm).name⟩
  refine ⟨hz, ha, fun f hf => ?_, h.l1, h.l2, h.l3⟩
  obtain ⟨i, hi, rfl⟩ := mem_getD hf noFlight
  have h1 := (fErr_zero (h.f i hi)).1
  have hcode : ∀ c, hasB (aCodes t.airports) c = true → isAirportB c = true := fun c hc => by
    rw [hasB_iff, aCodes, List.mem_map] at hc
    obtain ⟨a, ham, e⟩ := hc
    rw [← e]
    exact (ha a ham).code
  have := h1.dep; have := h1.arr; have := h1.lt
  exact ⟨h1.number, hcode _ h1.src, hcode _ h1.dst, h1.kind, ⟨by omega, by omega⟩, ⟨by omega, by omega⟩, needOk_iff.1 h1.n0, needOk_iff.1 h1.n1, needOk_iff.1 h1.n2⟩
/-- The fields of the lines. -/
noncomputable def sF (s : GShift) : List ByteArray := [insD s.at_, insC s.at_, durF s.off]
noncomputable def zF (z : GZone) : List ByteArray := [zoneS, z.name, durF z.off] ++ z.shifts.flatMap sF
def aF (a : GAirport) : List ByteArray := [airS, a.code, a.zone]
noncomputable def fF (x : GFlight) : List ByteArray := [fliS, x.number, x.src, x.dst, x.kind, insD x.dep, insC x.dep, insD x.arr, insC x.arr, numS x.n0, numS x.n1, numS x.n2]
noncomputable def ttF (t : GTT) : List (List ByteArray) := t.zones.map zF ++ t.airports.map aF ++ t.flights.map fF
noncomputable def ttS (t : GTT) : ByteArray := bs (textT (ttF t))

theorem code_fld {s : ByteArray} (h : isCodeB s = true) : fldOk s := by
  unfold isCodeB at h
  simp only [Bool.and_eq_true, decide_eq_true_eq] at h
  obtain ⟨⟨h1, h2⟩, h3⟩ := h
  refine bytes_fld h1 fun i hi => ?_
  have := allTo_iff.1 h3 i hi
  unfold cdAt upperI numberI at this
  simp only [Bool.or_eq_true, Bool.and_eq_true, decide_eq_true_eq] at this
  omega
theorem zoneS_fld : fldOk zoneS := ⟨by decide, by decide⟩
theorem airS_fld : fldOk airS := ⟨by decide, by decide⟩
theorem fliS_fld : fldOk fliS := ⟨by decide, by decide⟩
theorem zF_fld {z : GZone} (h : ZGood z) : ∀ x ∈ zF z, fldOk x := fun x hx => by
  unfold zF at hx
  rcases List.mem_append.1 hx with hx | hx
  · simp only [List.mem_cons, List.not_mem_nil, or_false] at hx
    rcases hx with rfl | rfl | rfl
    · exact zoneS_fld
    · exact name_fld h.name
    · exact durF_fld _
  · obtain ⟨s, hs, hx⟩ := List.mem_flatMap.1 hx
    have h1 := h.s s hs
    simp only [sF, List.mem_cons, List.not_mem_nil, or_false] at hx
    rcases hx with rfl | rfl | rfl
    · exact (insD_fld h1.1.1 h1.1.2).1
    · exact insC_fld.1
    · exact durF_fld _
theorem aF_fld {a : GAirport} (h : AGood a) : ∀ x ∈ aF a, fldOk x := fun x hx => by
  simp only [aF, List.mem_cons, List.not_mem_nil, or_false] at hx
  rcases hx with rfl | rfl | rfl
  · exact airS_fld
  · exact airport_fld h.code
  · exact name_fld h.zone
theorem fF_fld {y : GFlight} (h : FGood y) : ∀ x ∈ fF y, fldOk x := fun x hx => by
  simp only [fF, List.mem_cons, List.not_mem_nil, or_false] at hx
  rcases hx with rfl | rfl | rfl | rfl | rfl | rfl | rfl | rfl | rfl | rfl | rfl | rfl
  · exact fliS_fld
  · exact code_fld h.number
  · exact airport_fld h.src
  · exact airport_fld h.dst
  · exact name_fld h.kind
  · exact (insD_fld h.dep.1 h.dep.2).1
  · exact insC_fld.1
  · exact (insD_fld h.arr.1 h.arr.2).1
  · exact insC_fld.1
  · exact numS_fld h.n0.1
  · exact numS_fld h.n1.1
  · exact numS_fld h.n2.1
theorem ttF_fld {t : GTT} (h : TGood t) : ∀ f ∈ ttF t, ∀ x ∈ f, fldOk x := fun f hf => by
  unfold ttF at hf
  rcases List.mem_append.1 hf with hf | hf
  · rcases List.mem_append.1 hf with hf | hf
    · obtain ⟨z, hz, rfl⟩ := List.mem_map.1 hf
      exact zF_fld (h.z z hz)
    · obtain ⟨z, hz, rfl⟩ := List.mem_map.1 hf
      exact aF_fld (h.a z hz)
  · obtain ⟨z, hz, rfl⟩ := List.mem_map.1 hf
    exact fF_fld (h.f z hz)
theorem ttF_ne {t : GTT} : ∀ f ∈ ttF t, f ≠ [] := fun f hf => by
  unfold ttF at hf
  rcases List.mem_append.1 hf with hf | hf
  · rcases List.mem_append.1 hf with hf | hf
    · obtain ⟨z, hz, rfl⟩ := List.mem_map.1 hf
      simp [zF]
    · obtain ⟨z, hz, rfl⟩ := List.mem_map.1 hf
      simp [aF]
  · obtain ⟨z, hz, rfl⟩ := List.mem_map.1 hf
    simp [fF]
theorem flat3 : ∀ (l : List GShift) (k j : Nat), k < l.length → j < 3 → (l.flatMap sF).getD (3 * k + j) emS = (sF (l.getD k noShift)).getD j emS
  | [], k, j, h, _ => by simp at h
  | s :: l, 0, j, _, hj => by
    rw [List.flatMap_cons, List.getD_eq_getElem?_getD, List.getElem?_append_left (by show _ < 3; omega)]
    simp [List.getD_eq_getElem?_getD]
  | s :: l, k + 1, j, h, hj => by
    have ih := flat3 l k j (by simpa using h) hj
    rw [List.flatMap_cons, List.getD_eq_getElem?_getD, List.getElem?_append_right (by show 3 ≤ _; omega)]
    rw [show 3 * (k + 1) + j - (sF s).length = 3 * k + j by show 3 * (k + 1) + j - 3 = _; omega]
    rw [← List.getD_eq_getElem?_getD, ih]
    simp
theorem zF_len (z : GZone) : (zF z).length = 3 + 3 * z.shifts.length := by
  unfold zF
  rw [List.length_append]
  have : (z.shifts.flatMap sF).length = 3 * z.shifts.length := by
    induction z.shifts with
    | nil => rfl
    | cons s l ih => rw [List.flatMap_cons, List.length_append, ih, List.length_cons]; show 3 + _ = _; omega
  rw [this]
  rfl
theorem zF_at (z : GZone) {k j : Nat} (hk : k < z.shifts.length) (hj : j < 3) : fld (zF z) (3 + 3 * k + j) = (sF (z.shifts.getD k noShift)).getD j emS := by
  unfold fld zF
  rw [List.getD_eq_getElem?_getD, List.getElem?_append_right (by show 3 ≤ _; omega), show 3 + 3 * k + j - ([zoneS, z.name, durF z.off] : List ByteArray).length = 3 * k + j by show 3 + 3 * k + j - 3 = _; omega, ← List.getD_eq_getElem?_getD]
  exact flat3 _ k j hk hj
theorem insF_at {f : List ByteArray} {i : Nat} {t : Int} (h0 : 0 ≤ t) (h1 : t < 52596000) (a : fld f i = insD t) (b : fld f (i + 1) = insC t) : insF f i = (t, 0) := by
  unfold insF
  rw [a, b]
  exact ins_read h0 h1
theorem line_zone {z : GZone} (h : ZGood z) (t : GTT) : lineT9 (zF z) t = some (t.addZ z) := by
  have e0 : fld (zF z) 0 = zoneS := rfl
  have e1 : fld (zF z) 1 = z.name := rfl
  have e2 : fld (zF z) 2 = durF z.off := rfl
  have el := zF_len z
  have e3 : ((zF z).length - 3) / 3 = z.shifts.length := by omega
  have hs : ∀ k, k < z.shifts.length → insF (zF z) (3 + 3 * k) = ((z.shifts.getD k noShift).at_, 0) ∧ durB (fld (zF z) (5 + 3 * k)) = ((z.shifts.getD k noShift).off, 0) := fun k hk => by
    have hm : z.shifts.getD k noShift ∈ z.shifts := by
      rw [List.getD_eq_getElem?_getD, List.getElem?_eq_getElem hk]
      exact List.getElem_mem hk
    have hg := h.s _ hm
    have a0 := zF_at z hk (j := 0) (by omega)
    have a1 := zF_at z hk (j := 1) (by omega)
    have a2 := zF_at z hk (j := 2) (by omega)
    refine ⟨insF_at hg.1.1 hg.1.2 a0 a1, ?_⟩
    rw [show 5 + 3 * k = 3 + 3 * k + 2 by omega, a2]
    exact dur_back ⟨by omega, by omega⟩
  have hd := dur_back (n := z.off) ⟨by have := h.off; omega, by have := h.off; omega⟩
  have hz : zoneF (zF z) = z := by
    unfold zoneF
    rw [e1, e2, e3, hd]
    have : shiftsF (zF z) z.shifts.length = z.shifts := by
      apply List.ext_getElem?
      intro k
      unfold shiftsF
      rw [List.getElem?_map]
      by_cases hk : k < z.shifts.length
      · rw [List.getElem?_range hk]
        have h1 := hs k hk
        show some (shiftF (zF z) k) = _
        unfold shiftF
        rw [h1.1, h1.2, List.getD_eq_getElem?_getD, List.getElem?_eq_getElem hk]
        rfl
      · rw [List.getElem?_eq_none (by simp; omega), List.getElem?_eq_none (by omega)]
        rfl
    rw [this]
  have hb : zoneBad (zF z) = false := by
    unfold zoneBad
    rw [e2, e3, hd]
    have : shiftsBad (zF z) z.shifts.length = false := by
      unfold shiftsBad
      rw [List.any_eq_false]
      intro k hk
      have h1 := hs k (List.mem_range.1 hk)
      unfold shiftBad
      rw [h1.1, h1.2]
      simp
    rw [this]
    simp
    omega
  unfold lineT9
  rw [e0, if_pos rfl, hb, hz]
  rfl
theorem air_ne : airS ≠ zoneS := by decide
theorem fli_ne : fliS ≠ zoneS ∧ fliS ≠ airS := by decide
theorem line_airport (a : GAirport) (t : GTT) : lineT9 (aF a) t = some (t.addA a) := by
  have e0 : fld (aF a) 0 = airS := rfl
  unfold lineT9
  rw [e0, if_neg air_ne, if_pos rfl]
  rfl
theorem par_back {n : Int} (h : 0 ≤ n ∧ n ≤ 8) : parseB (numS n) = (n, 0) := by
  have := parse_format n
  rw [if_pos (by omega)] at this
  exact this
theorem line_flight {x : GFlight} (h : FGood x) (t : GTT) : lineT9 (fF x) t = some (t.addF x) := by
  have e0 : fld (fF x) 0 = fliS := rfl
  have i5 : insF (fF x) 5 = (x.dep, 0) := insF_at h.dep.1 h.dep.2 rfl rfl
  have i7 : insF (fF x) 7 = (x.arr, 0) := insF_at h.arr.1 h.arr.2 rfl rfl
  have p9 : parseB (fld (fF x) 9) = (x.n0, 0) := par_back h.n0
  have p10 : parseB (fld (fF x) 10) = (x.n1, 0) := par_back h.n1
  have p11 : parseB (fld (fF x) 11) = (x.n2, 0) := par_back h.n2
  have hb : flightBad (fF x) = false := by
    unfold flightBad
    rw [i5, i7, p9, p10, p11]
    rfl
  have hf : flightF (fF x) = x := by
    unfold flightF
    rw [i5, i7, p9, p10, p11]
    rfl
  unfold lineT9
  rw [e0, if_neg fli_ne.1, if_neg fli_ne.2, if_pos rfl, hb, hf]
  rfl
/-- The lines one behind the other. -/
def runT9 : List (List ByteArray) → GTT → Option GTT
  | [], t => some t
  | f :: r, t => (lineT9 f t).bind (runT9 r)
theorem runT9_app : ∀ (a b : List (List ByteArray)) (t : GTT), runT9 (a ++ b) t = (runT9 a t).bind (runT9 b)
  | [], b, t => rfl
  | f :: a, b, t => by
    show (lineT9 f t).bind (runT9 (a ++ b)) = ((lineT9 f t).bind (runT9 a)).bind (runT9 b)
    cases lineT9 f t with
    | none => rfl
    | some t' => exact runT9_app a b t'
theorem run_zones : ∀ (l : List GZone) (t : GTT), (∀ z ∈ l, ZGood z) → runT9 (l.map zF) t = some ⟨t.zones ++ l, t.airports, t.flights⟩
  | [], t, _ => by simp [runT9]
  | z :: l, t, h => by
    show (lineT9 (zF z) t).bind (runT9 (l.map zF)) = _
    rw [line_zone (h z (.head _))]
    show runT9 (l.map zF) (t.addZ z) = _
    rw [run_zones l _ fun y hy => h y (.tail _ hy)]
    simp [GTT.addZ]
theorem run_airports : ∀ (l : List GAirport) (t : GTT), runT9 (l.map aF) t = some ⟨t.zones, t.airports ++ l, t.flights⟩
  | [], t => by simp [runT9]
  | z :: l, t => by
    show (lineT9 (aF z) t).bind (runT9 (l.map aF)) = _
    rw [line_airport]
    show runT9 (l.map aF) (t.addA z) = _
    rw [run_airports l _]
    simp [GTT.addA]
theorem run_flights : ∀ (l : List GFlight) (t : GTT), (∀ z ∈ l, FGood z) → runT9 (l.map fF) t = some ⟨t.zones, t.airports, t.flights ++ l⟩
  | [], t, _ => by simp [runT9]
  | z :: l, t, h => by
    show (lineT9 (fF z) t).bind (runT9 (l.map fF)) = _
    rw [line_flight (h z (.head _))]
    show runT9 (l.map fF) (t.addF z) = _
    rw [run_flights l _ fun y hy => h y (.tail _ hy)]
    simp [GTT.addF]
theorem run_tt {t : GTT} (h : TGood t) : runT9 (ttF t) emTT = some t := by
  unfold ttF
  rw [runT9_app, runT9_app, run_zones _ _ h.z]
  show ((runT9 (t.airports.map aF) ⟨[] ++ t.zones, [], []⟩).bind (runT9 (t.flights.map fF))) = _
  rw [run_airports]
  show runT9 (t.flights.map fF) _ = _
  rw [run_flights _ _ h.f]
  simp
theorem run_at {fs : List (List ByteArray)} {t : GTT} (hne : ∀ f ∈ fs, f ≠ []) (hok : ∀ f ∈ fs, ∀ x ∈ f, fldOk x) (h : runT9 fs emTT = some t) :
    ∀ k, k ≤ fs.length → runT9 (fs.drop k) (ttAt (fs.map fun f => bs (lineT f)) k) = some t ∧ ∀ j, j < k → ttBad (fs.map fun f => bs (lineT f)) j = false
  | 0, _ => ⟨h, fun j hj => by omega⟩
  | k + 1, hk => by
    obtain ⟨h1, h2⟩ := run_at hne hok h k (by omega)
    have hkl : k < fs.length := hk
    have hm : fs[k] ∈ fs := List.getElem_mem hkl
    rw [List.drop_eq_getElem_cons hkl] at h1
    have h1' : (lineT9 fs[k] (ttAt (fs.map fun f => bs (lineT f)) k)).bind (runT9 (fs.drop (k + 1))) = some t := h1
    have hg : (fs.map fun f => bs (lineT f)).getD k emS = bs (lineT fs[k]) := by
      rw [List.getD_eq_getElem?_getD, List.getElem?_map, List.getElem?_eq_getElem hkl]
      rfl
    have hs : stepT9 ((fs.map fun f => bs (lineT f)).getD k emS) (ttAt (fs.map fun f => bs (lineT f)) k) = lineT9 fs[k] (ttAt (fs.map fun f => bs (lineT f)) k) := by
      rw [hg]
      unfold stepT9
      rw [fields_lineT (hok _ hm), if_neg (hne _ hm)]
    cases hl : lineT9 fs[k] (ttAt (fs.map fun f => bs (lineT f)) k) with
    | none => rw [hl] at h1'; cases h1'
    | some t' =>
      rw [hl] at h1' hs
      obtain ⟨a, b⟩ := ttAt_succ hs
      refine ⟨by rw [a]; exact h1', fun j hj => ?_⟩
      rcases Nat.lt_or_eq_of_le (Nat.le_of_lt_succ hj) with h3 | rfl
      · exact h2 j h3
      · exact b
theorem tt_back {t : GTT} (h : ttE t = 0) (hz : (ttS t).size ≤ 20000) : parseT (ttS t) = (t, 0, 0) := by
  have hg := (ttE_zero.1 h).good
  have hl : (ttF t).length ≤ 1000 := by
    have := hg.l1; have := hg.l2; have := hg.l3
    unfold ttF
    simp only [List.length_append, List.length_map]
    omega
  unfold ttS at hz ⊢
  rw [bs_size] at hz
  have hL := linesB_textT (ttF_fld hg) hz hl
  obtain ⟨h1, h2⟩ := run_at (ttF_ne (t := t)) (ttF_fld hg) (run_tt hg) (ttF t).length (Nat.le_refl _)
  rw [List.drop_length] at h1
  have h1' := Option.some.inj h1
  have e1 : (linesB (bs (textT (ttF t)))).1 = (ttF t).map fun f => bs (lineT f) := by rw [hL]
  have e2 : (linesB (bs (textT (ttF t)))).2 = 0 := by rw [hL]
  rw [parseT_all e2 (by rw [e1, List.length_map]; exact h2), e1, List.length_map, h1', if_neg (by simp [h])]
end Go.Proofs.YtldeoaddogifpaaGreatDoor
/-
  Contracts of (*strings.Builder).copyCheck and WriteString, at a builder of the kit's word (Lib.IsBuilder).
  Condition: the builder lies in its block; the new length is no more than 2^47 bytes.
-/
namespace Go.Proofs.YtldeoaddogifpaaGreatDoor
set_option linter.unusedSimpArgs false
set_option linter.unusedVariables false
open Go.RowKit Go

theorem bld_size : (Tryz.prog.info? 76).map (·.size) = some 2 := by kernel_rfl
theorem bld_lies : liesAt Tryz.prog Tryz.prog.depth 76 (2 / Tryz.prog.cellsOf 76) 0 76 1 = true := by kernel_rfl

set_option maxHeartbeats 1600000 in
set_option maxRecDepth 100000 in
theorem copyCheck_any (B b : Nat) (xs : List Value) (w : World) (h : Lib.IsBuilder 76 5 B b xs w) :
    Calls Tryz.prog 74 #[.pointer (some ⟨b, 0, none⟩)] w fun e w' => e = .returned (.tuple #[]) ∧ Lib.BuilderAt 76 5 B b (.pointer (some ⟨b, 0, none⟩)) xs w' ∧ Below B w w' := by
  obtain ⟨j, hj, hjs⟩ := Option.map_eq_some_iff.1 bld_size
  rcases h with h | h
  · have h0 := h.cell0
    have hsh := h.shape
    have hfz := h.frozen0
    have HE : Hid (Lib.BuilderAt 76 5 B b (.pointer (some ⟨b, 0, none⟩)) xs (w.setCell ⟨b, 0, none⟩ (.pointer (some ⟨b, 0, none⟩))) ∧ Below B w (w.setCell ⟨b, 0, none⟩ (.pointer (some ⟨b, 0, none⟩)))) := ⟨h.used _, (Below.refl B w).setCell (p := ⟨b, 0, none⟩) h.1 _⟩
    have HTO := Lib.hid (Lib.run_to_unsafe w ⟨b, 0, none⟩ Tryz.underlying74 Tryz.underlying144 hj (by rw [hjs]; decide) hsh (Nat.zero_lt_succ 1))
    have HFR := Lib.hid (Lib.run_from_unsafe w ⟨b, 0, none⟩ Tryz.underlying144 Tryz.underlying74 hj hsh bld_lies)
    clear h hsh
    go_enter Tryz.func74, Tryz.ntmps74
    go_wp2_with fail
    rw [HTO.out]
    simp only [Result.andThen]
    rw [Oper.upon_value]
    go_wp2_with fail
    rw [run_callFunc_extern Tryz.func117 (by kernel_rfl) (by kernel_rfl) (by kernel_rfl) (e := Extern.AbiNoEscape.same) (by kernel_rfl)]
    rw [Lib.run_noEscape]
    simp only [Result.andThen]
    rw [Oper.upon_value]
    go_wp2_with fail
    rw [HFR.out]
    simp only [Result.andThen]
    rw [Oper.upon_value]
    go_wp2_with fail
    go_end0
    exact ⟨rfl, HE.out⟩
  · have h0 := h.cell0
    have HE : Hid (Lib.BuilderAt 76 5 B b (.pointer (some ⟨b, 0, none⟩)) xs w ∧ Below B w w) := ⟨h, Below.refl B w⟩
    have HN := Lib.hid (Lib.run_neq_ptr_same w ⟨b, 0, none⟩ Tryz.underlying74 hj)
    clear h
    go_enter Tryz.func74, Tryz.ntmps74
    go_wp2_with fail
    rw [HN.out]
    go_wp2_with fail
    go_end0
    exact ⟨rfl, HE.out⟩
set_option maxHeartbeats 1600000 in
set_option maxRecDepth 100000 in
theorem writeString_any (B b : Nat) (xs : List Value) (s : ByteArray) (w : World) (h : Lib.IsBuilder 76 5 B b xs w) (hlen : xs.length + s.size ≤ 140737488355328) (hB : B ≤ w.heap.size) :
    Calls Tryz.prog 35 #[.pointer (some ⟨b, 0, none⟩), .string s] w fun e w' => e = .returned (.tuple #[.int .i64 s.size, .nilIface]) ∧ Lib.BuilderAt 76 5 B b (.pointer (some ⟨b, 0, none⟩)) (xs ++ Lib.strCells s) w' ∧ Below B w w' := by
  obtain ⟨i0, hi, hz0, hz1, hz2⟩ := byte_info
  have HC := Lib.hid (copyCheck_any B b xs w h)
  clear h
  go_enter Tryz.func35, Tryz.ntmps35
  go_wp2_with fail
  refine HC.out.mono ?_
  rintro e w1 ⟨rfl, ⟨hBb, v, hbk, hown, hne⟩, hb1⟩
  have hs1 := hb1.size
  have hlt : b < w1.heap.size := (Array.getElem?_eq_some_iff.1 hbk).1
  have c1 : w1.cell? ⟨b, 1, none⟩ = some v := block_cell hbk 1
  have HB1 := Lib.hid hb1; have HBK := Lib.hid hbk; have HNE := Lib.hid hne
  have HOW := Lib.hid hown
  clear hb1 hbk hne HC hown
  go_wp2_with (at_builtin; refine Lib.wpList_append_own_string _ rfl _ _ 37 9 rfl B 5 i0 Tryz.underlying37 Tryz.underlying9 hi hz0 hz1 hz2 _ _ _ rfl HOW.out s rfl (by unfold maxLen; omega) (by omega) (by omega) ?_)
  intro v' w2 hown' hgrow _
  have hb2 : w2.heap[b]? = some (.cells #[.pointer (some ⟨b, 0, none⟩), v] 76 (0, 0)) := (hgrow.block b hlt (fun e => HNE.out e.symm)).trans HBK.out
  have d1 : w2.cell? ⟨b, 1, none⟩ = some v := block_cell hb2 1
  have f1 : w2.frozen? ⟨b, 1, none⟩ = false := block_free hb2 1
  have HE : Hid (Lib.BuilderAt 76 5 B b (.pointer (some ⟨b, 0, none⟩)) (xs ++ Lib.strCells s) (w2.setCell ⟨b, 1, none⟩ v') ∧ Below B w (w2.setCell ⟨b, 1, none⟩ v')) :=
    ⟨Lib.BuilderAt.put (T := 76) (e := 5) hBb hb2 (bs' := xs ++ Lib.strCells s) (by simpa [Lib.strCells_length] using hown') (by decide),
      (HB1.out.grown hgrow (by omega) (fun k hk => (HOW.out.lt k hk).1)).setCell (p := ⟨b, 1, none⟩) hBb _⟩
  obtain ⟨ao, n', cap, rfl⟩ : ∃ ao n' cap, v' = .slice ao n' cap := by
    rcases hown'.2 with ⟨hv, _⟩ | ⟨g, cap, cur, hv, _⟩
    · exact ⟨_, _, _, hv⟩
    · exact ⟨_, _, _, hv⟩
  clear hown' hgrow hb2 HBK HNE HOW HB1
  go_wp2_with fail
  go_ret2
  exact ⟨rfl, HE.out⟩
end Go.Proofs.YtldeoaddogifpaaGreatDoor
/-
  (*strings.Builder).WriteString once more: with what it leaves alone (boxes of other types); Len and String at such a builder.
  Condition: the builder lies in block b, its row in blocks from b on; the text takes no more than a million bytes.
-/
namespace Go.Proofs.YtldeoaddogifpaaGreatDoor
set_option linter.unusedSimpArgs false
set_option linter.unusedVariables false
open Go.RowKit Go

/-- A builder in block b; v: its buffer; L: its bytes. -/
structure Bld (b : Nat) (v : Value) (L : List UInt8) (w : World) : Prop where
  cell : ∃ p, (p = .pointer none ∨ p = .pointer (some ⟨b, 0, none⟩)) ∧ w.heap[b]? = some (.cells #[p, v] 76 (0, 0))
  row : w.ownsRow b 5 1 v L.length (Lib.byteCells L)
  ne : v.ownBlock ≠ some b
theorem Bld.is {b : Nat} {v : Value} {L : List UInt8} {w : World} (h : Bld b v L w) : Lib.IsBuilder 76 5 b b (Lib.byteCells L) w := by
  obtain ⟨⟨p, hp, hc⟩, hr, hn⟩ := h
  have hr' : w.ownsRow b 5 1 v (Lib.byteCells L).length (Lib.byteCells L) := by rw [Lib.byteCells_length]; exact hr
  rcases hp with rfl | rfl
  · exact .inl ⟨Nat.le_refl _, v, hc, hr', hn⟩
  · exact .inr ⟨Nat.le_refl _, v, hc, hr', hn⟩
theorem Bld.lt {b : Nat} {v : Value} {L : List UInt8} {w : World} (h : Bld b v L w) : b < w.heap.size := by
  obtain ⟨p, _, hc⟩ := h.cell
  exact (Array.getElem?_eq_some_iff.1 hc).1
theorem ownsRow_keep {w w' : World} {b : Nat} {e : TypeId} {z : Nat} {v : Value} {n : Nat} {xs : List Value} (h : w.ownsRow b e z v n xs) (hk : ∀ q, v.ownBlock = some q → w'.heap[q]? = w.heap[q]?) : w'.ownsRow b e z v n xs := by
  refine ⟨h.1, ?_⟩
  rcases h.2 with h3 | ⟨g, cap, cur, hv, hg, hb, r⟩
  · exact .inl h3
  · exact .inr ⟨g, cap, cur, hv, hg, (hk g (by rw [hv]; rfl)).trans hb, r⟩
theorem Bld.keep {b : Nat} {v : Value} {L : List UInt8} {w w' : World} (h : Bld b v L w) (hb : Below w.heap.size w w') : Bld b v L w' := by
  have hl := h.lt
  obtain ⟨⟨p, hp, hc⟩, hr, hn⟩ := h
  exact ⟨⟨p, hp, (hb.block b hl).trans hc⟩, ownsRow_keep hr fun q hq => hb.block q (hr.lt q hq).2, hn⟩
/-- A block of another type is not the row. -/
theorem row_apart {w : World} {b : Nat} {e : TypeId} {z : Nat} {v : Value} {n : Nat} {xs : List Value} (h : w.ownsRow b e z v n xs) {x : Nat} {cs : Array Value} {T : TypeId} {y : Nat × Nat} (hx : w.heap[x]? = some (.cells cs T y)) (hT : T ≠ e) : some x ≠ v.ownBlock := fun he => by
  rcases h.2 with ⟨rfl, _⟩ | ⟨g, cap, cur, rfl, _, hg, _⟩
  · simp [Value.ownBlock] at he
  · simp [Value.ownBlock] at he
    subst he
    rw [hx] at hg
    injection hg with hg
    injection hg with _ hg
    exact hT hg
set_option maxHeartbeats 1600000 in
set_option maxRecDepth 100000 in
theorem copyCheck_to (b : Nat) (p v : Value) (w : World) (hp : p = .pointer none ∨ p = .pointer (some ⟨b, 0, none⟩)) (hc : w.heap[b]? = some (.cells #[p, v] 76 (0, 0))) :
    Calls Tryz.prog 74 #[.pointer (some ⟨b, 0, none⟩)] w fun e w' => e = .returned (.tuple #[]) ∧ w'.heap[b]? = some (.cells #[.pointer (some ⟨b, 0, none⟩), v] 76 (0, 0)) ∧ But b w w' := by
  obtain ⟨j, hj, hjs⟩ := Option.map_eq_some_iff.1 bld_size
  have h0 : w.cell? ⟨b, 0, none⟩ = some p := block_cell hc 0
  have hfz : w.frozen? ⟨b, 0, none⟩ = false := block_free hc 0
  have hsh : w.shape? b = some (76, 2) := by simp [World.shape?, hc]
  rcases hp with rfl | rfl
  · have HE : Hid ((w.setCell ⟨b, 0, none⟩ (.pointer (some ⟨b, 0, none⟩))).heap[b]? = some (.cells #[.pointer (some ⟨b, 0, none⟩), v] 76 (0, 0)) ∧ But b w (w.setCell ⟨b, 0, none⟩ (.pointer (some ⟨b, 0, none⟩)))) := ⟨heap_setCell_same w b 0 _ _ _ hc, (But.refl _ _).setCell 0 _⟩
    have HTO := Lib.hid (Lib.run_to_unsafe w ⟨b, 0, none⟩ Tryz.underlying74 Tryz.underlying144 hj (by rw [hjs]; decide) hsh (Nat.zero_lt_succ 1))
    have HFR := Lib.hid (Lib.run_from_unsafe w ⟨b, 0, none⟩ Tryz.underlying144 Tryz.underlying74 hj hsh bld_lies)
    clear hc hsh
    go_enter Tryz.func74, Tryz.ntmps74
    go_wp2_with fail
    rw [HTO.out]
    simp only [Result.andThen]
    rw [Oper.upon_value]
    go_wp2_with fail
    rw [run_callFunc_extern Tryz.func117 (by kernel_rfl) (by kernel_rfl) (by kernel_rfl) (e := Extern.AbiNoEscape.same) (by kernel_rfl)]
    rw [Lib.run_noEscape]
    simp only [Result.andThen]
    rw [Oper.upon_value]
    go_wp2_with fail
    rw [HFR.out]
    simp only [Result.andThen]
    rw [Oper.upon_value]
    go_wp2_with fail
    go_end0
    exact ⟨rfl, HE.out⟩
  · have HE : Hid (w.heap[b]? = some (.cells #[.pointer (some ⟨b, 0, none⟩), v] 76 (0, 0)) ∧ But b w w) := ⟨hc, But.refl _ _⟩
    have HN := Lib.hid (Lib.run_neq_ptr_same w ⟨b, 0, none⟩ Tryz.underlying74 hj)
    clear hc hsh
    go_enter Tryz.func74, Tryz.ntmps74
    go_wp2_with fail
    rw [HN.out]
    go_wp2_with fail
    go_end0
    exact ⟨rfl, HE.out⟩
/-- What WriteString leaves: the builder with the new bytes; blocks ahead of it, and boxes of other types, as they were. -/
def BwPost (b : Nat) (L : List UInt8) (s : ByteArray) (w : World) (e : Ending) (w' : World) : Prop :=
  ∃ v', e = .returned (.tuple #[.int .i64 s.size, .nilIface]) ∧ Bld b v' (L ++ s.data.toList) w' ∧ Below b w w' ∧
    ∀ x cs T z, T ≠ 5 → x ≠ b → w.heap[x]? = some (.cells cs T z) → w'.heap[x]? = some (.cells cs T z)
set_option maxHeartbeats 1600000 in
set_option maxRecDepth 100000 in
theorem writeStr_any (b : Nat) (v : Value) (L : List UInt8) (s : ByteArray) (w : World) (h : Bld b v L w) (hlen : L.length + s.size ≤ 1000000) : Calls Tryz.prog 35 #[.pointer (some ⟨b, 0, none⟩), .string s] w (BwPost b L s w) := by
  obtain ⟨i0, hi, hz0, hz1, hz2⟩ := byte_info
  have hlt := h.lt
  obtain ⟨⟨p, hp, hc⟩, hr, hn⟩ := h
  have HC := Lib.hid (copyCheck_to b p v w hp hc)
  have HR := Lib.hid hr; have HNE := Lib.hid hn; have HCC := Lib.hid hc
  clear hp hc hr hn
  go_enter Tryz.func35, Tryz.ntmps35
  go_wp2_with fail
  refine HC.out.mono ?_
  rintro e w1 ⟨rfl, hbk, hbut⟩
  have hs1 := hbut.size
  have hr1 : w1.ownsRow b 5 1 v L.length (Lib.byteCells L) := ownsRow_keep HR.out fun q hq => hbut.block q (HR.out.lt q hq).2 (fun e => HNE.out (by rw [hq, e]))
  have c1 : w1.cell? ⟨b, 1, none⟩ = some v := block_cell hbk 1
  have HB1 := Lib.hid hbut; have HBK := Lib.hid hbk; have HOW := Lib.hid hr1
  clear hbut hbk hr1 HC
  go_wp2_with (at_builtin; refine Lib.wpList_append_own_string _ rfl _ _ 37 9 rfl b 5 i0 Tryz.underlying37 Tryz.underlying9 hi hz0 hz1 hz2 _ _ _ rfl HOW.out s rfl (by unfold maxLen; omega) (by omega) (by omega) ?_)
  intro v' w2 hown' hgrow _
  have hs2 := hgrow.size
  have hb2 : w2.heap[b]? = some (.cells #[.pointer (some ⟨b, 0, none⟩), v] 76 (0, 0)) := (hgrow.block b (by omega) (fun e => HNE.out e.symm)).trans HBK.out
  have d1 : w2.cell? ⟨b, 1, none⟩ = some v := block_cell hb2 1
  have f1 : w2.frozen? ⟨b, 1, none⟩ = false := block_free hb2 1
  have hb3 : (w2.setCell ⟨b, 1, none⟩ v').heap[b]? = some (.cells #[.pointer (some ⟨b, 0, none⟩), v'] 76 (0, 0)) := heap_setCell_same w2 b 1 _ _ v' hb2
  have hap : some b ≠ v'.ownBlock := row_apart hown' hb2 (by decide)
  have hoth : ∀ q, q ≠ b → (w2.setCell ⟨b, 1, none⟩ v').heap[q]? = w2.heap[q]? := fun q hq => heap_setCell_other _ _ _ _ hq
  have HBLD : Hid (Bld b v' (L ++ s.data.toList) (w2.setCell ⟨b, 1, none⟩ v')) := by
    refine ⟨⟨_, .inr rfl, hb3⟩, ?_, fun e => hap e.symm⟩
    have hown2 : w2.ownsRow b 5 1 v' (L ++ s.data.toList).length (Lib.byteCells (L ++ s.data.toList)) := by
      have e1 : (L ++ s.data.toList).length = L.length + s.size := by rw [List.length_append, Lib.size_eq]
      have e2 : Lib.byteCells (L ++ s.data.toList) = Lib.byteCells L ++ Lib.strCells s := by rw [Lib.strCells_eq]; simp [Lib.byteCells]
      rw [e1, e2]; exact hown'
    exact ownsRow_keep hown2 fun q hq => hoth q (fun e => hap (by rw [hq, e]))
  have HBEL : Hid (Below b w (w2.setCell ⟨b, 1, none⟩ v')) := by
    refine ⟨hgrow.os.trans HB1.out.os, hgrow.tape.trans HB1.out.tape, hgrow.output.trans HB1.out.output, by simp; omega, fun q hq => ?_⟩
    rw [hoth q (by omega), hgrow.block q (by omega) (fun e => by have := (HOW.out.lt q e.symm).1; omega)]
    exact HB1.out.block q (by omega) (by omega)
  have HBOX : Hid (∀ x cs T z, T ≠ 5 → x ≠ b → w.heap[x]? = some (.cells cs T z) → (w2.setCell ⟨b, 1, none⟩ v').heap[x]? = some (.cells cs T z)) := fun x cs T z hT hx hh => by
    have hxl := (Array.getElem?_eq_some_iff.1 hh).1
    have h1 : w1.heap[x]? = some (.cells cs T z) := (HB1.out.block x hxl hx).trans hh
    rw [hoth x hx, hgrow.block x (by omega) (row_apart HOW.out h1 hT)]
    exact h1
  obtain ⟨ao, n', cap, rfl⟩ : ∃ ao n' cap, v' = .slice ao n' cap := by
    rcases hown'.2 with ⟨hv, _⟩ | ⟨g, cap, cur, hv, _⟩
    · exact ⟨_, _, _, hv⟩
    · exact ⟨_, _, _, hv⟩
  clear hown' hgrow hb2 hb3 hap hoth HBK HNE HOW HB1 HR HCC
  go_wp2_with fail
  go_ret2
  exact ⟨_, rfl, HBLD.out, HBEL.out, HBOX.out⟩
theorem bldLen_any (b : Nat) (v : Value) (L : List UInt8) (w : World) (h : Bld b v L w) : Calls Tryz.prog 39 #[.pointer (some ⟨b, 0, none⟩)] w fun e w' => e = .returned (.int .i64 L.length) ∧ w' = w := by
  have := Tryz.Builder_Len b b (Lib.byteCells L) w h.is
  rwa [Lib.byteCells_length] at this
theorem bldString_any (b : Nat) (v : Value) (L : List UInt8) (w : World) (h : Bld b v L w) : Calls Tryz.prog 40 #[.pointer (some ⟨b, 0, none⟩)] w fun e w' => e = .returned (.string (bs L)) ∧ Below b w w' := by
  by_cases hL : L = []
  · subst hL
    exact (Tryz.Builder_String_empty b b w h.is (Nat.le_of_lt h.lt)).mono fun e w' ⟨h1, h2⟩ => ⟨h1, h2⟩
  · exact Tryz.Builder_String b b L w h.is hL
end Go.Proofs.YtldeoaddogifpaaGreatDoor
/-
  Plain facts about the rendered text of a timetable: the lines' parts and their lengths.
  Condition: the timetable is valid, where a length is bounded.
-/
namespace Go.Proofs.YtldeoaddogifpaaGreatDoor
set_option linter.unusedSimpArgs false
set_option linter.unusedVariables false
open Go.RowKit

noncomputable def fmtT (t : GTT) : ByteArray × Int := if ttE t ≠ 0 then (emS, ttE t) else if 20000 < (ttS t).size then (emS, 10) else (ttS t, 0)
def FmtPost (r : ByteArray × Int) (w : World) (e : Ending) (w' : World) : Prop := e = .returned (.tuple #[.string r.1, .int .i64 r.2]) ∧ Below w.heap.size w w'
theorem dataApp (a b : ByteArray) : (a ++ b).data.toList = a.data.toList ++ b.data.toList := by rw [ByteArray.data_append, Array.toList_append]
theorem ext_bs {a : ByteArray} {L : List UInt8} (h : a.data.toList = L) : a = bs L := by rw [← h]; exact (bs_of a).symm
theorem restT_app (a b : List ByteArray) : restT (a ++ b) = restT a ++ restT b := by
  induction a with
  | nil => rfl
  | cons f r ih => simp [restT, ih]
theorem lineT_rest (f : ByteArray) (a b : List ByteArray) : lineT ((f :: a) ++ b) = lineT (f :: a) ++ restT b := by
  simp [lineT, restT_app]
theorem blank_data : blankS.data.toList = [32] := rfl
theorem zhd_eq (n d : ByteArray) : ((⟨#[122, 111, 110, 101, 32]⟩ : ByteArray) ++ n ++ (⟨#[32]⟩ : ByteArray) ++ d).data.toList = lineT [zoneS, n, d] := by
  have e : zoneS.data.toList = [122, 111, 110, 101] := rfl
  simp only [dataApp, lineT, restT, List.append_assoc, e, List.cons_append, List.nil_append, List.append_nil]
theorem shf_eq (a b d : ByteArray) : ((⟨#[32]⟩ : ByteArray) ++ (a ++ blankS ++ b) ++ (⟨#[32]⟩ : ByteArray) ++ d).data.toList = restT [a, b, d] := by
  simp only [dataApp, restT, List.append_assoc, blank_data, List.cons_append, List.nil_append, List.append_nil]
theorem air_eq (c z : ByteArray) : ((⟨#[97, 105, 114, 112, 111, 114, 116, 32]⟩ : ByteArray) ++ c ++ (⟨#[32]⟩ : ByteArray) ++ z ++ (⟨#[10]⟩ : ByteArray)).data.toList = lineT [airS, c, z] ++ [10] := by
  have e : airS.data.toList = [97, 105, 114, 112, 111, 114, 116] := rfl
  simp only [dataApp, lineT, restT, List.append_assoc, e, List.cons_append, List.nil_append, List.append_nil]
theorem fhd_eq (n a b k : ByteArray) : ((⟨#[102, 108, 105, 103, 104, 116, 32]⟩ : ByteArray) ++ n ++ (⟨#[32]⟩ : ByteArray) ++ a ++ (⟨#[32]⟩ : ByteArray) ++ b ++ (⟨#[32]⟩ : ByteArray) ++ k).data.toList = lineT [fliS, n, a, b, k] := by
  have e : fliS.data.toList = [102, 108, 105, 103, 104, 116] := rfl
  simp only [dataApp, lineT, restT, List.append_assoc, e, List.cons_append, List.nil_append, List.append_nil]
theorem fin_eq (a b c d : ByteArray) : ((⟨#[32]⟩ : ByteArray) ++ (a ++ blankS ++ b) ++ (⟨#[32]⟩ : ByteArray) ++ (c ++ blankS ++ d)).data.toList = restT [a, b, c, d] := by
  simp only [dataApp, restT, List.append_assoc, blank_data, List.cons_append, List.nil_append, List.append_nil]
theorem nmb_eq (s : ByteArray) : ((⟨#[32]⟩ : ByteArray) ++ s).data.toList = restT [s] := by
  simp only [dataApp, restT, List.cons_append, List.nil_append, List.append_nil]
theorem nl_eq : (⟨#[10]⟩ : ByteArray).data.toList = [10] := rfl
theorem sz1 (a : UInt8) : (⟨#[a]⟩ : ByteArray).size = 1 := rfl
theorem textT_snoc (a : List (List ByteArray)) (f : List ByteArray) : textT (a ++ [f]) = textT a ++ (lineT f ++ [10]) := by
  rw [textT_app]
  rfl
theorem map_take_snoc {α β : Type} (f : α → β) {l : List α} {j : Nat} (h : j < l.length) (d : α) : (l.take (j + 1)).map f = (l.take j).map f ++ [f (l.getD j d)] := by
  rw [List.take_add_one, List.getElem?_eq_getElem h, List.getD_eq_getElem?_getD, List.getElem?_eq_getElem h, List.map_append]
  rfl
theorem flat_take_snoc {α β : Type} (f : α → List β) {l : List α} {j : Nat} (h : j < l.length) (d : α) : (l.take (j + 1)).flatMap f = (l.take j).flatMap f ++ f (l.getD j d) := by
  rw [List.take_add_one, List.getElem?_eq_getElem h, List.getD_eq_getElem?_getD, List.getElem?_eq_getElem h, List.flatMap_append]
  simp
theorem get_mem {α : Type} {l : List α} {k : Nat} (h : k < l.length) (d : α) : l.getD k d ∈ l := by
  rw [List.getD_eq_getElem?_getD, List.getElem?_eq_getElem h]
  exact List.getElem_mem h
theorem name_le {s : ByteArray} (h : isNameB s = true) : s.size ≤ 16 := by
  unfold isNameB at h
  simp only [Bool.and_eq_true, decide_eq_true_eq] at h
  omega
theorem airport_le {s : ByteArray} (h : isAirportB s = true) : s.size ≤ 3 := by
  unfold isAirportB at h
  simp only [Bool.and_eq_true, beq_iff_eq] at h
  omega
theorem code_le {s : ByteArray} (h : isCodeB s = true) : s.size ≤ 16 := by
  unfold isCodeB at h
  simp only [Bool.and_eq_true, decide_eq_true_eq] at h
  omega
theorem need_le {n : Int} (h : 0 ≤ n ∧ n ≤ 8) : (numS n).size ≤ 10 := by
  unfold numS
  rw [bs_size, Lib.itoa, if_neg (by omega), Lib.decDigits_length]
  exact (nDigits_ten n.toNat).2 (by omega)
theorem dur_le {n : Int} (h : -840 ≤ n ∧ n ≤ 840) : (durF n).size ≤ 15 := (durF_size (by omega)).2
theorem ins_le {t : Int} (h : 0 ≤ t ∧ t < 52596000) : (insD t ++ blankS ++ insC t).size ≤ 16 := by
  rw [ByteArray.size_append, ByteArray.size_append, (insD_fld h.1 h.2).2, insC_fld.2]
  decide
theorem lineT_len : ∀ (f : List ByteArray), (lineT f).length ≤ (f.map fun x => x.size + 1).sum
  | [] => Nat.le_refl _
  | f :: r => by
    have h : ∀ (l : List ByteArray), (restT l).length = (l.map fun x => x.size + 1).sum := by
      intro l
      induction l with
      | nil => rfl
      | cons a l ih => simp only [restT, List.length_cons, List.length_append, ih, List.map_cons, List.sum_cons, Lib.size_eq]; omega
    simp only [lineT, List.length_append, h, List.map_cons, List.sum_cons, Lib.size_eq]
    omega
theorem restT_up {c : Nat} : ∀ {l : List ByteArray}, (∀ x ∈ l, x.size ≤ c) → (restT l).length ≤ (c + 1) * l.length
  | [], _ => Nat.zero_le _
  | a :: l, h => by
    have := restT_up (c := c) (l := l) fun y hy => h y (.tail _ hy)
    have := h a (.head _)
    rw [Lib.size_eq] at this
    simp only [restT, List.length_cons, List.length_append, Nat.mul_add, Nat.mul_one]
    omega
theorem lineT_up {c : Nat} {l : List ByteArray} (h : ∀ x ∈ l, x.size ≤ c) : (lineT l).length ≤ (c + 1) * l.length := by
  cases l with
  | nil => exact Nat.zero_le _
  | cons a l =>
    have h1 := restT_up h
    simp only [restT, List.length_cons, List.length_append] at h1
    simp only [lineT, List.length_cons, List.length_append]
    omega
theorem textT_up {c : Nat} : ∀ {l : List (List ByteArray)}, (∀ f ∈ l, (lineT f).length ≤ c) → (textT l).length ≤ (c + 1) * l.length
  | [], _ => Nat.zero_le _
  | a :: l, h => by
    have := textT_up (c := c) (l := l) fun y hy => h y (.tail _ hy)
    have := h a (.head _)
    simp only [textT, List.length_cons, List.length_append, Nat.mul_add, Nat.mul_one]
    omega
theorem sF_le {s : GShift} (h : (0 ≤ s.at_ ∧ s.at_ < 52596000) ∧ -840 ≤ s.off ∧ s.off ≤ 840) : ∀ x ∈ sF s, x.size ≤ 16 := fun x hx => by
  simp only [sF, List.mem_cons, List.not_mem_nil, or_false] at hx
  rcases hx with rfl | rfl | rfl
  · have := (insD_fld h.1.1 h.1.2).2; omega
  · have := (insC_fld (t := s.at_)).2; omega
  · have := dur_le h.2; omega
theorem sFs_le {z : GZone} (h : ZGood z) (j : Nat) : ∀ x ∈ (z.shifts.take j).flatMap sF, x.size ≤ 16 := fun x hx => by
  obtain ⟨s, hs, hx⟩ := List.mem_flatMap.1 hx
  exact sF_le (h.s s (List.mem_of_mem_take hs)) x hx
theorem flat_len {l : List GShift} : (l.flatMap sF).length = 3 * l.length := by
  induction l with
  | nil => rfl
  | cons s l ih => rw [List.flatMap_cons, List.length_append, ih, List.length_cons]; show 3 + _ = _; omega
theorem sFs_up {z : GZone} (h : ZGood z) (j : Nat) : (restT ((z.shifts.take j).flatMap sF)).length ≤ 816 := by
  have h1 := restT_up (sFs_le h j)
  have h2 : (z.shifts.take j).length ≤ 16 := by rw [List.length_take]; have := h.len; omega
  rw [flat_len] at h1
  omega
theorem zhd_up {z : GZone} (h : ZGood z) : (lineT [zoneS, z.name, durF z.off]).length ≤ 51 := lineT_up (c := 16) (l := [zoneS, z.name, durF z.off]) fun x hx => by
  simp only [List.mem_cons, List.not_mem_nil, or_false] at hx
  rcases hx with rfl | rfl | rfl
  · decide
  · exact name_le h.name
  · have := dur_le h.off; omega
theorem zF_eq (z : GZone) : lineT (zF z) = lineT [zoneS, z.name, durF z.off] ++ restT (z.shifts.flatMap sF) := lineT_rest _ _ _
theorem zF_up {z : GZone} (h : ZGood z) : (lineT (zF z)).length ≤ 900 := by
  rw [zF_eq, List.length_append]
  have := zhd_up h
  have := sFs_up h z.shifts.length
  rw [List.take_length] at this
  omega
theorem aF_up {a : GAirport} (h : AGood a) : (lineT (aF a)).length ≤ 51 := lineT_up (c := 16) (l := aF a) fun x hx => by
  simp only [aF, List.mem_cons, List.not_mem_nil, or_false] at hx
  rcases hx with rfl | rfl | rfl
  · decide
  · have := airport_le h.code; omega
  · exact name_le h.zone
theorem fF_up {x : GFlight} (h : FGood x) : (lineT (fF x)).length ≤ 204 := lineT_up (c := 16) (l := fF x) fun y hy => by
  simp only [fF, List.mem_cons, List.not_mem_nil, or_false] at hy
  rcases hy with rfl | rfl | rfl | rfl | rfl | rfl | rfl | rfl | rfl | rfl | rfl | rfl
  · decide
  · exact code_le h.number
  · have := airport_le h.src; omega
  · have := airport_le h.dst; omega
  · exact name_le h.kind
  · have := (insD_fld h.dep.1 h.dep.2).2; omega
  · have := (insC_fld (t := x.dep)).2; omega
  · have := (insD_fld h.arr.1 h.arr.2).2; omega
  · have := (insC_fld (t := x.arr)).2; omega
  · have := need_le h.n0; omega
  · have := need_le h.n1; omega
  · have := need_le h.n2; omega
/-- The needs' texts, the first j of them. -/
noncomputable def nS (x : GFlight) : List ByteArray := [numS x.n0, numS x.n1, numS x.n2]
theorem fF_eq (x : GFlight) : lineT (fF x) = lineT [fliS, x.number, x.src, x.dst, x.kind] ++ restT [insD x.dep, insC x.dep, insD x.arr, insC x.arr] ++ restT (nS x) := by
  have e : fF x = ([fliS, x.number, x.src, x.dst, x.kind] ++ [insD x.dep, insC x.dep, insD x.arr, insC x.arr]) ++ nS x := rfl
  rw [e, List.cons_append, lineT_rest, ← List.cons_append, lineT_rest]
def need_at (x : GFlight) : Nat → Int
  | 0 => x.n0
  | 1 => x.n1
  | _ => x.n2
theorem nS_snoc (x : GFlight) {j : Nat} (h : j < 3) : restT ((nS x).take (j + 1)) = restT ((nS x).take j) ++ restT [numS (need_at x j)] := by
  have : j = 0 ∨ j = 1 ∨ j = 2 := by omega
  rcases this with rfl | rfl | rfl
  · rfl
  · show restT ([numS x.n0] ++ [numS x.n1]) = _
    rw [restT_app]; rfl
  · show restT ([numS x.n0, numS x.n1] ++ [numS x.n2]) = _
    rw [restT_app]; rfl
theorem nS_up {x : GFlight} (h : FGood x) (j : Nat) : (restT ((nS x).take j)).length ≤ 51 := by
  have h1 := restT_up (c := 16) (l := (nS x).take j) fun y hy => by
    have hy := List.mem_of_mem_take hy
    simp only [nS, List.mem_cons, List.not_mem_nil, or_false] at hy
    rcases hy with rfl | rfl | rfl
    · have := need_le h.n0; omega
    · have := need_le h.n1; omega
    · have := need_le h.n2; omega
  have h2 : ((nS x).take j).length ≤ 3 := by rw [List.length_take]; exact Nat.min_le_right _ _
  omega
theorem need_ok {x : GFlight} (h : FGood x) (j : Nat) : 0 ≤ need_at x j ∧ need_at x j ≤ 8 := by
  unfold need_at
  split
  · exact h.n0
  · exact h.n1
  · exact h.n2
/-- The lines ahead of a place. -/
noncomputable def zL (t : GTT) (k : Nat) : List UInt8 := textT ((t.zones.take k).map zF)
noncomputable def aL (t : GTT) (k : Nat) : List UInt8 := zL t t.zones.length ++ textT ((t.airports.take k).map aF)
noncomputable def fL (t : GTT) (k : Nat) : List UInt8 := aL t t.airports.length ++ textT ((t.flights.take k).map fF)
theorem zL_zero (t : GTT) : zL t 0 = [] := rfl
theorem aL_zero (t : GTT) : aL t 0 = zL t t.zones.length := by unfold aL; simp [textT]
theorem fL_zero (t : GTT) : fL t 0 = aL t t.airports.length := by unfold fL; simp [textT]
theorem zL_succ {t : GTT} {k : Nat} (h : k < t.zones.length) : zL t (k + 1) = zL t k ++ lineT [zoneS, (t.zones.getD k noZone).name, durF (t.zones.getD k noZone).off] ++ restT ((t.zones.getD k noZone).shifts.flatMap sF) ++ [10] := by
  unfold zL
  rw [map_take_snoc _ h noZone, textT_snoc, zF_eq]
  simp only [List.append_assoc]
theorem aL_succ {t : GTT} {k : Nat} (h : k < t.airports.length) : aL t (k + 1) = aL t k ++ (lineT [airS, (t.airports.getD k noAirport).code, (t.airports.getD k noAirport).zone] ++ [10]) := by
  unfold aL
  rw [map_take_snoc _ h noAirport, textT_snoc, List.append_assoc]
  rfl
theorem fL_succ {t : GTT} {k : Nat} (h : k < t.flights.length) : fL t (k + 1) = fL t k ++ lineT [fliS, (t.flights.getD k noFlight).number, (t.flights.getD k noFlight).src, (t.flights.getD k noFlight).dst, (t.flights.getD k noFlight).kind] ++ restT [insD (t.flights.getD k noFlight).dep, insC (t.flights.getD k noFlight).dep, insD (t.flights.getD k noFlight).arr, insC (t.flights.getD k noFlight).arr] ++ restT (nS (t.flights.getD k noFlight)) ++ [10] := by
  unfold fL
  rw [map_take_snoc _ h noFlight, textT_snoc, fF_eq]
  simp only [List.append_assoc]
theorem fL_all (t : GTT) : fL t t.flights.length = textT (ttF t) := by
  unfold fL aL zL ttF
  rw [List.take_length, List.take_length, List.take_length, textT_app, textT_app]
theorem zL_up {t : GTT} (h : TGood t) (k : Nat) : (zL t k).length ≤ 15000 := by
  have h1 := textT_up (c := 900) (l := (t.zones.take k).map zF) fun f hf => by
    obtain ⟨z, hz, rfl⟩ := List.mem_map.1 hf
    exact zF_up (h.z z (List.mem_of_mem_take hz))
  have := h.l1
  rw [List.length_map, List.length_take] at h1
  unfold zL
  omega
theorem aL_up {t : GTT} (h : TGood t) (k : Nat) : (aL t k).length ≤ 20000 := by
  have h1 := textT_up (c := 51) (l := (t.airports.take k).map aF) fun f hf => by
    obtain ⟨z, hz, rfl⟩ := List.mem_map.1 hf
    exact aF_up (h.a z (List.mem_of_mem_take hz))
  have := h.l2
  have := zL_up h t.zones.length
  rw [List.length_map, List.length_take] at h1
  unfold aL
  rw [List.length_append]
  omega
theorem fL_up {t : GTT} (h : TGood t) (k : Nat) : (fL t k).length ≤ 62000 := by
  have h1 := textT_up (c := 204) (l := (t.flights.take k).map fF) fun f hf => by
    obtain ⟨z, hz, rfl⟩ := List.mem_map.1 hf
    exact fF_up (h.f z (List.mem_of_mem_take hz))
  have := h.l3
  have := aL_up h t.airports.length
  rw [List.length_map, List.length_take] at h1
  unfold fL
  rw [List.length_append]
  omega
theorem fhd_up {x : GFlight} (h : FGood x) : (lineT [fliS, x.number, x.src, x.dst, x.kind]).length ≤ 85 := lineT_up (c := 16) (l := [fliS, x.number, x.src, x.dst, x.kind]) fun y hy => by
  simp only [List.mem_cons, List.not_mem_nil, or_false] at hy
  rcases hy with rfl | rfl | rfl | rfl | rfl
  · decide
  · exact code_le h.number
  · have := airport_le h.src; omega
  · have := airport_le h.dst; omega
  · exact name_le h.kind
theorem fin_up {x : GFlight} (h : FGood x) : (restT [insD x.dep, insC x.dep, insD x.arr, insC x.arr]).length ≤ 68 := restT_up (c := 16) (l := [insD x.dep, insC x.dep, insD x.arr, insC x.arr]) fun y hy => by
  simp only [List.mem_cons, List.not_mem_nil, or_false] at hy
  rcases hy with rfl | rfl | rfl | rfl
  · have := (insD_fld h.dep.1 h.dep.2).2; omega
  · have := (insC_fld (t := x.dep)).2; omega
  · have := (insD_fld h.arr.1 h.arr.2).2; omega
  · have := (insC_fld (t := x.arr)).2; omega
/-- The builder in the midst of the walk: its bytes, and what it was laid upon. -/
def FS (w1 wr : World) (v : Value) (L : List UInt8) : Prop := Bld w1.heap.size v L wr ∧ Below w1.heap.size w1 wr
theorem FS.next {w1 wr w' : World} {v : Value} {L : List UInt8} (h : FS w1 wr v L) (hb : Below wr.heap.size wr w') : FS w1 w' v L := ⟨h.1.keep hb, h.2.trans (hb.mono h.2.size)⟩
theorem FS.write {w1 wr : World} {v : Value} {L : List UInt8} (h : FS w1 wr v L) (s : ByteArray) (hl : L.length + s.size ≤ 1000000) : Calls Tryz.prog 35 #[.pointer (some ⟨w1.heap.size, 0, none⟩), .string s] wr fun e w' =>
    e = .returned (.tuple #[.int .i64 s.size, .nilIface]) ∧ (∃ v', FS w1 w' v' (L ++ s.data.toList)) ∧ ∀ x cs T z, T ≠ 5 → x ≠ w1.heap.size → wr.heap[x]? = some (.cells cs T z) → w'.heap[x]? = some (.cells cs T z) := by
  refine (writeStr_any w1.heap.size v L s wr h.1 hl).mono ?_
  rintro e w' ⟨v', rfl, hb, hbel, hbx⟩
  exact ⟨rfl, ⟨v', hb, h.2.trans hbel⟩, hbx⟩
end Go.Proofs.YtldeoaddogifpaaGreatDoor
/-
  Contracts of the reference's FormatDuration and of pairingref9's duration (the text).
  Condition: the number lies within the limits; the table of powers of ten is laid.
-/
namespace Go.Proofs.YtldeoaddogifpaaGreatDoor
set_option linter.unusedSimpArgs false
set_option linter.unusedVariables false
open Go.RowKit

set_option maxHeartbeats 1600000 in
set_option maxRecDepth 100000 in
theorem formatDurationR_any (n : Int) (w : World) (h : -1099511627776 ≤ n ∧ n ≤ 1099511627776) (hp : Pow10 w) : Calls Tryz.prog 71 #[.int .i64 n] w (DurTxtP n w) := by
  obtain ⟨z1, z2⟩ := durF_partsP h
  have HPW : Hid (∀ V, Below w.heap.size w V → Pow10 V) := fun V hV => hp.next hV
  have HF1 : Hid (∀ V, Below w.heap.size w V → Calls Tryz.prog 30 #[.int .i64 ((n.natAbs / 60 : Nat) : Int)] V fun e w' => e = .returned (.string (numS ((n.natAbs / 60 : Nat)))) ∧ Below V.heap.size V w') := fun V hV => formatIntR_any _ V (by omega) (by omega) (HPW.out V hV)
  have hns : ((numS ((n.natAbs % 60 : Nat) : Int)).size : Int) ≥ 1 := by
    rw [numS_nat, bs_size]
    have := dec_pos (n.natAbs % 60)
    omega
  have HF2 : Hid (∀ V, Below w.heap.size w V → Calls Tryz.prog 111 #[.int .i64 ((n.natAbs % 60 : Nat) : Int), .int .i64 2] V (StrB (padB ((n.natAbs % 60 : Nat)) 2) V)) := fun V hV => twoR_any _ 2 V (by omega) (by omega) (by omega) (by omega) (HPW.out V hV)
  unfold StrB at HF2
  have HQ : Hid (durF n = (if n < 0 then dashS else emS) ++ numS ((n.natAbs / 60 : Nat)) ++ colS ++ padB ((n.natAbs % 60 : Nat)) 2) := rfl
  have u0 : ¬ n < -1099511627776 := by omega
  have u1 : ¬ 1099511627776 < n := by omega
  have HDF : Hid ((∀ (x : ByteArray), (⟨#[45]⟩ : ByteArray) = dashS ∧ (⟨#[]⟩ : ByteArray) = emS ∧ (⟨#[58]⟩ : ByteArray) = colS)) := fun _ => ⟨rfl, rfl, rfl⟩
  have HBR := Lib.hid (Below.refl w.heap.size w)
  by_cases hn : n < 0
  · have HR : Hid (durF n = (⟨#[45]⟩ : ByteArray) ++ numS ((n.natAbs / 60 : Nat)) ++ (⟨#[58]⟩ : ByteArray) ++ padB ((n.natAbs % 60 : Nat)) 2) := by show _ = _; rw [HQ.out, if_pos hn]; rfl
    obtain ⟨a, ha⟩ : ∃ a : Nat, n.natAbs = a := ⟨_, rfl⟩
    have hna : n = -(a : Int) := by omega
    rw [ha] at HF1 HF2 HR z1 z2
    have q1 : IntKind.i64.wrap (-n) = (a : Int) := by rw [hna, Int.neg_neg]; exact IntWalk.i64_in _ (by omega)
    have q2 : (a : Int).tdiv 60 = ((a / 60 : Nat) : Int) := by rw [Int.tdiv_eq_ediv_of_nonneg (by omega)]; omega
    have q3 : (a : Int).tmod 60 = ((a % 60 : Nat) : Int) := by rw [Int.tmod_eq_emod_of_nonneg (by omega)]; omega
    have hal : a ≤ 1099511627776 := by omega
    have q4 : IntKind.i64.wrap ((a / 60 : Nat) : Int) = ((a / 60 : Nat) : Int) := IntWalk.i64_in _ (by omega)
    have q5 : IntKind.i64.wrap ((a % 60 : Nat) : Int) = ((a % 60 : Nat) : Int) := IntWalk.i64_in _ (by omega)
    generalize numS ((a / 60 : Nat)) = P1 at *
    generalize padB ((a % 60 : Nat)) 2 = P2 at *
    generalize a / 60 = d1 at *
    generalize a % 60 = d2 at *
    clear HQ ha hna hns
    have qa0a : ¬ 9223372036854775807 < 1 + P1.size := by omega
    have qa0b : ¬ 9223372036854775807 < ((⟨#[45]⟩ : ByteArray)).size + P1.size := by rw [show ((⟨#[45]⟩ : ByteArray)).size = 1 by first | rfl | (simp only [ByteArray.size_append]; rfl)]; omega
    have qa1a : ¬ 9223372036854775807 < 1 + P1.size + 1 := by omega
    have qa1b : ¬ 9223372036854775807 < ((⟨#[45]⟩ : ByteArray) ++ P1).size + 1 := by rw [show ((⟨#[45]⟩ : ByteArray) ++ P1).size = 1 + P1.size by first | rfl | (simp only [ByteArray.size_append]; rfl)]; omega
    have qa2a : ¬ 9223372036854775807 < 1 + P1.size + 1 + P2.size := by omega
    have qa2b : ¬ 9223372036854775807 < ((⟨#[45]⟩ : ByteArray) ++ P1 ++ (⟨#[58]⟩ : ByteArray)).size + P2.size := by rw [show ((⟨#[45]⟩ : ByteArray) ++ P1 ++ (⟨#[58]⟩ : ByteArray)).size = 1 + P1.size + 1 by first | rfl | (simp only [ByteArray.size_append]; rfl)]; omega
    clear hal HDF h
    go_enter Tryz.func71, Tryz.ntmps71
    go_wp2_with fail
    refine (HF1.out _ HBR.out).mono ?_
    rintro e w1 ⟨rfl, hb1⟩
    have HB1 := Lib.hid hb1
    clear hb1
    go_wp2_with fail
    refine (HF2.out _ HB1.out).mono ?_
    rintro e w2 ⟨rfl, hb2⟩
    have HB2 : Hid (Below w.heap.size w w2) := HB1.out.trans (hb2.mono HB1.out.size)
    clear hb2
    go_wp2_with fail
    go_ret2
    exact ⟨by rw [HR.out]; rfl, HB2.out⟩
  · have HR : Hid (durF n = (⟨#[]⟩ : ByteArray) ++ numS ((n.natAbs / 60 : Nat)) ++ (⟨#[58]⟩ : ByteArray) ++ padB ((n.natAbs % 60 : Nat)) 2) := by show _ = _; rw [HQ.out, if_neg hn]; rfl
    obtain ⟨a, ha⟩ : ∃ a : Nat, n.natAbs = a := ⟨_, rfl⟩
    have hna : n = (a : Int) := by omega
    rw [ha] at HF1 HF2 HR z1 z2
    subst hna
    have q2 : (a : Int).tdiv 60 = ((a / 60 : Nat) : Int) := by rw [Int.tdiv_eq_ediv_of_nonneg (by omega)]; omega
    have q3 : (a : Int).tmod 60 = ((a % 60 : Nat) : Int) := by rw [Int.tmod_eq_emod_of_nonneg (by omega)]; omega
    have q4 : IntKind.i64.wrap ((a / 60 : Nat) : Int) = ((a / 60 : Nat) : Int) := IntWalk.i64_in _ (by omega)
    have q5 : IntKind.i64.wrap ((a % 60 : Nat) : Int) = ((a % 60 : Nat) : Int) := IntWalk.i64_in _ (by omega)
    generalize numS ((a / 60 : Nat)) = P1 at *
    generalize padB ((a % 60 : Nat)) 2 = P2 at *
    generalize a / 60 = d1 at *
    generalize a % 60 = d2 at *
    clear HQ ha hns
    have qa0a : ¬ 9223372036854775807 < 0 + P1.size := by omega
    have qa0b : ¬ 9223372036854775807 < ((⟨#[]⟩ : ByteArray)).size + P1.size := by rw [show ((⟨#[]⟩ : ByteArray)).size = 0 by first | rfl | (simp only [ByteArray.size_append]; rfl)]; omega
    have qa1a : ¬ 9223372036854775807 < 0 + P1.size + 1 := by omega
    have qa1b : ¬ 9223372036854775807 < ((⟨#[]⟩ : ByteArray) ++ P1).size + 1 := by rw [show ((⟨#[]⟩ : ByteArray) ++ P1).size = 0 + P1.size by first | rfl | (simp only [ByteArray.size_append]; rfl)]; omega
    have qa2a : ¬ 9223372036854775807 < 0 + P1.size + 1 + P2.size := by omega
    have qa2b : ¬ 9223372036854775807 < ((⟨#[]⟩ : ByteArray) ++ P1 ++ (⟨#[58]⟩ : ByteArray)).size + P2.size := by rw [show ((⟨#[]⟩ : ByteArray) ++ P1 ++ (⟨#[58]⟩ : ByteArray)).size = 0 + P1.size + 1 by first | rfl | (simp only [ByteArray.size_append]; rfl)]; omega
    clear HDF h
    go_enter Tryz.func71, Tryz.ntmps71
    go_wp2_with fail
    refine (HF1.out _ HBR.out).mono ?_
    rintro e w1 ⟨rfl, hb1⟩
    have HB1 := Lib.hid hb1
    clear hb1
    go_wp2_with fail
    refine (HF2.out _ HB1.out).mono ?_
    rintro e w2 ⟨rfl, hb2⟩
    have HB2 : Hid (Below w.heap.size w w2) := HB1.out.trans (hb2.mono HB1.out.size)
    clear hb2
    go_wp2_with fail
    go_ret2
    exact ⟨by rw [HR.out]; rfl, HB2.out⟩
theorem durTxtR_any (n : Int) (w : World) (h : -1099511627776 ≤ n ∧ n ≤ 1099511627776) (hp : Pow10 w) : Calls Tryz.prog 28 #[.int .i64 n] w (StrB (durF n) w) := by
  have HC := Lib.hid (formatDurationR_any n w h hp)
  unfold DurTxtP at HC
  generalize durF n = x at *
  clear h
  go_enter Tryz.func28, Tryz.ntmps28
  go_wp2_with fail
  refine HC.out.mono ?_
  rintro e w1 ⟨rfl, hb1⟩
  go_wp2_with fail
  go_ret
  exact ⟨rfl, hb1⟩
end Go.Proofs.YtldeoaddogifpaaGreatDoor
/-
  Contract of the reference's Format of a timetable.
  Condition: the data are well formed; the table of powers of ten is laid.
-/
namespace Go.Proofs.YtldeoaddogifpaaGreatDoor
set_option linter.unusedSimpArgs false
set_option linter.unusedVariables false
open Go.RowKit

theorem zhdR_eq (s n d : ByteArray) : (s ++ (⟨#[122, 111, 110, 101, 32]⟩ : ByteArray) ++ n ++ (⟨#[32]⟩ : ByteArray) ++ d).data.toList = s.data.toList ++ ((⟨#[122, 111, 110, 101, 32]⟩ : ByteArray) ++ n ++ (⟨#[32]⟩ : ByteArray) ++ d).data.toList := by
  simp only [dataApp, List.append_assoc]
theorem shfR_eq (s i d : ByteArray) : (s ++ (⟨#[32]⟩ : ByteArray) ++ i ++ (⟨#[32]⟩ : ByteArray) ++ d).data.toList = s.data.toList ++ ((⟨#[32]⟩ : ByteArray) ++ i ++ (⟨#[32]⟩ : ByteArray) ++ d).data.toList := by
  simp only [dataApp, List.append_assoc]
theorem nmbR_eq (s n : ByteArray) : (s ++ (⟨#[32]⟩ : ByteArray) ++ n).data.toList = s.data.toList ++ restT [n] := by
  rw [← nmb_eq]
  simp only [dataApp, List.append_assoc]
theorem airR_eq (s c z : ByteArray) : (s ++ (⟨#[97, 105, 114, 112, 111, 114, 116, 32]⟩ : ByteArray) ++ c ++ (⟨#[32]⟩ : ByteArray) ++ z ++ (⟨#[10]⟩ : ByteArray)).data.toList = s.data.toList ++ (lineT [airS, c, z] ++ [10]) := by
  rw [← air_eq]
  simp only [dataApp, List.append_assoc]
theorem fliR_eq (s n a b k i j : ByteArray) : (s ++ (⟨#[102, 108, 105, 103, 104, 116, 32]⟩ : ByteArray) ++ n ++ (⟨#[32]⟩ : ByteArray) ++ a ++ (⟨#[32]⟩ : ByteArray) ++ b ++ (⟨#[32]⟩ : ByteArray) ++ k ++ (⟨#[32]⟩ : ByteArray) ++ i ++ (⟨#[32]⟩ : ByteArray) ++ j).data.toList = s.data.toList ++ lineT [fliS, n, a, b, k] ++ ((⟨#[32]⟩ : ByteArray) ++ i ++ (⟨#[32]⟩ : ByteArray) ++ j).data.toList := by
  rw [← fhd_eq]
  simp only [dataApp, List.append_assoc]
set_option maxRecDepth 100000 in
set_option maxHeartbeats 12800000 in
theorem ttFormatR_ok (t : GTT) (A1 A2 A3 : Option Addr) (n1 n2 n3 c1 c2 c3 : Nat) (w : World) (ht : t.ok) (hv : ttE t = 0) (hs1 : Sl Ty.zone w (all_ w) A1 n1 c1 t.zones) (hs2 : Sl Ty.airport w (all_ w) A2 n2 c2 t.airports) (hs3 : Sl Ty.flight w (all_ w) A3 n3 c3 t.flights) (hp : Pow10 w) :
    Calls Tryz.prog 10 #[.agg #[.slice A1 n1 c1, .slice A2 n2 c2, .slice A3 n3 c3]] w (FmtPost (if 20000 < (ttS t).size then (emS, 10) else (ttS t, 0)) w) := by
  obtain ⟨R, hR⟩ : ∃ R : ByteArray × Int, (if 20000 < (ttS t).size then (emS, 10) else (ttS t, 0)) = R := ⟨_, rfl⟩
  rw [hR]
  have HR := Lib.hid hR
  clear hR
  have hgd := (ttE_zero.1 hv).good
  have e1 : n1 ≤ t.zones.length := Nat.le_of_eq hs1.len
  have e1' : t.zones.length ≤ n1 := Nat.le_of_eq hs1.len.symm
  have e2 : n2 ≤ t.airports.length := Nat.le_of_eq hs2.len
  have e2' : t.airports.length ≤ n2 := Nat.le_of_eq hs2.len.symm
  have e3 : n3 ≤ t.flights.length := Nat.le_of_eq hs3.len
  have e3' : t.flights.length ≤ n3 := Nat.le_of_eq hs3.len.symm
  have b1 := hgd.l1; have b2 := hgd.l2; have b3 := hgd.l3
  have HG := Lib.hid hgd
  have ha : ∀ o, Below w.heap.size w (w.alloc o) := fun o => (Below.refl _ _).alloc (Nat.le_refl _) _
  have HV : Hid (∀ o, Calls Tryz.prog 26 #[.agg #[.slice A1 n1 c1, .slice A2 n2 c2, .slice A3 n3 c3]] (w.alloc o) (ErrPost 0 (w.alloc o))) := fun o => hv ▸ validateR_any t A1 A2 A3 n1 n2 n3 c1 c2 c3 (w.alloc o) ht (hs1.next (ha o)) (hs2.next (ha o)) (hs3.next (ha o))
  have HS := Lib.hid (And.intro hs1 (And.intro hs2 hs3))
  have HPW : Hid (∀ V, Below w.heap.size w V → Pow10 V) := fun V hV => hp.next hV
  have hB0 := ha (.cells #[.slice A1 n1 c1, .slice A2 n2 c2, .slice A3 n3 c3] 27)
  have hX0 := heap_alloc_new w (.cells #[.slice A1 n1 c1, .slice A2 n2 c2, .slice A3 n3 c3] 27)
  have hZ0 : (w.alloc (.cells #[.slice A1 n1 c1, .slice A2 n2 c2, .slice A3 n3 c3] 27)).heap.size = w.heap.size + 1 := by simp
  have HB0 := Lib.hid hB0; have HX0 := Lib.hid hX0; have HZ0 := Lib.hid hZ0
  clear hgd hs1 hs2 hs3 hv ht hp ha hB0 hX0 hZ0
  go_enter Tryz.func10, Tryz.ntmps10
  go_wp2_with fail
  refine (HV.out _).mono ?_
  clear HV
  generalize w.alloc (.cells #[.slice A1 n1 c1, .slice A2 n2 c2, .slice A3 n3 c3] 27) = W at *
  rintro e w1 ⟨rfl, hb1⟩
  have hbw : Below w.heap.size w w1 := HB0.out.trans (hb1.mono HB0.out.size)
  have hsw1 : w.heap.size + 1 ≤ w1.heap.size := by have := hb1.size; have := HZ0.out; omega
  have hxt := (hb1.block w.heap.size (by have := HZ0.out; omega)).trans HX0.out
  have HT1 := Lib.hid (HS.out.1.keep (all_keep hbw))
  have HT2 := Lib.hid (HS.out.2.1.keep (all_keep hbw))
  have HT3 := Lib.hid (HS.out.2.2.keep (all_keep hbw))
  have HXT : Hid (∀ V, Below w1.heap.size w1 V → V.heap[w.heap.size]? = some (.cells #[.slice A1 n1 c1, .slice A2 n2 c2, .slice A3 n3 c3] 27 (0, 0))) := fun V hV => (hV.block _ (by omega)).trans hxt
  have HBW := Lib.hid hbw
  have hsw : w.heap.size ≤ w1.heap.size := by omega
  clear HS HB0 HX0 HZ0 hb1 hbw hxt
  go_wp2_with fail
  go_loopw [5, 6] (fun s i wr => ∃ (k : Nat) (sv : ByteArray), k ≤ n1 ∧ i = .int .i64 k ∧ s = .string sv ∧ Hid (sv.data.toList = zL t k) ∧ Hid (Below w1.heap.size w1 wr)) (fun _ i _ => n1 - (intOf i).toNat)
  case atStart => exact ⟨0, _, Nat.zero_le _, rfl, rfl, rfl, Below.refl _ _⟩
  case round =>
  obtain ⟨k, s, hk, rfl, rfl, HS, HWR⟩ := hrel
  have hlen := zL_up HG.out k
  have hsz : s.size ≤ (zL t k).length := by rw [Lib.size_eq, HS.out]; exact Nat.le_refl _
  have q0 : wr.cell? ⟨w.heap.size, 0, none⟩ = some (.slice A1 n1 c1) := block_cell (HXT.out wr HWR.out) 0
  by_cases hlt : k < n1
  · have hks : k < t.zones.length := by omega
    obtain ⟨b, o, B1, k1, d1, rfl, hbS, y0, y1, y2, hsS⟩ := (HT1.out.keep (w' := wr) fun b hb => HWR.out.block b (by unfold all_ at hb; omega)).zone_at hks
    have hzg := HG.out.z _ (get_mem hks noZone)
    have HSN := Lib.hid (zL_succ hks)
    have hbS' : b < w.heap.size := hbS
    generalize t.zones.getD k noZone = z at *
    have m1 : k1 ≤ z.shifts.length := Nat.le_of_eq hsS.len
    have m1' : z.shifts.length ≤ k1 := Nat.le_of_eq hsS.len.symm
    have m2 := hzg.len
    have HQ : Hid (∀ wq, Below w1.heap.size w1 wq → Sl Ty.shift wq (all_ w) B1 k1 d1 z.shifts) := fun wq hb => hsS.keep fun b hb' => by
      unfold all_ at hb'
      rw [hb.block b (by omega), HWR.out.block b (by omega)]
    generalize zL t k = pre at *
    have hgb : w1.heap.size ≤ wr.heap.size := HWR.out.size
    have HDU : Hid (∀ V, Below w.heap.size w V → Calls Tryz.prog 28 #[.int .i64 z.off] V (StrB (durF z.off) V)) := fun V hV => durTxtR_any z.off V (by have := hzg.off; omega) (HPW.out V hV)
    have hd := dur_le hzg.off
    have hnm := name_le hzg.name
    have hhu := zhd_up hzg
    have HZH : Hid (((⟨#[122, 111, 110, 101, 32]⟩ : ByteArray) ++ z.name ++ (⟨#[32]⟩ : ByteArray) ++ durF z.off).data.toList = lineT [zoneS, z.name, durF z.off]) := zhd_eq _ _
    have HZG := Lib.hid hzg
    obtain ⟨dS, hdS⟩ : ∃ x, x = durF z.off := ⟨_, rfl⟩
    rw [← hdS] at hd HDU HZH HSN hhu
    clear hdS
    have hwa : Below wr.heap.size wr (wr.alloc (.cells #[.string z.name, .int .i64 z.off, .slice B1 k1 d1] 51)) := (Below.refl _ _).alloc (Nat.le_refl _) _
    have hxa := heap_alloc_new wr (.cells #[.string z.name, .int .i64 z.off, .slice B1 k1 d1] 51)
    have hxlt : wr.heap.size < (wr.alloc (.cells #[.string z.name, .int .i64 z.off, .slice B1 k1 d1] 51)).heap.size := by simp
    have HFA : Hid (Below w1.heap.size w1 (wr.alloc (.cells #[.string z.name, .int .i64 z.off, .slice B1 k1 d1] 51))) := HWR.out.trans (hwa.mono HWR.out.size)
    have HXA := Lib.hid hxa
    have HBR : Hid (Below w.heap.size w (wr.alloc (.cells #[.string z.name, .int .i64 z.off, .slice B1 k1 d1] 51))) := HBW.out.trans (HFA.out.mono hsw)
    clear hwa hxa
    clear hbS hsS hzg
    go_upto_region 9 with (fail)
    clear y0 y1 y2 q0
    generalize wr.alloc (.cells #[.string z.name, .int .i64 z.off, .slice B1 k1 d1] 51) = wa at *
    generalize hbx : wr.heap.size = bx at *
    have z0 : wa.cell? ⟨bx, 0, none⟩ = some (.string z.name) := block_cell HXA.out 0
    have z1 : wa.cell? ⟨bx, 1, none⟩ = some (.int .i64 z.off) := block_cell HXA.out 1
    obtain ⟨X1, hX1⟩ : ∃ X, s ++ (⟨#[122, 111, 110, 101, 32]⟩ : ByteArray) = X := ⟨_, rfl⟩
    have uX1 : X1.size ≤ s.size + 5 := by rw [← hX1, ByteArray.size_append]; exact Nat.le_refl _
    have HX1 := Lib.hid hX1
    have vX1 : ¬ 9223372036854775807 < s.size + 5 := by omega
    obtain ⟨X4, hX4⟩ : ∃ X, X1 ++ z.name = X := ⟨_, rfl⟩
    have uX4 : X4.size ≤ X1.size + z.name.size := by rw [← hX4, ByteArray.size_append]; exact Nat.le_refl _
    have HX4 := Lib.hid hX4
    have vX4 : ¬ 9223372036854775807 < X1.size + z.name.size := by omega
    obtain ⟨X5, hX5⟩ : ∃ X, X4 ++ (⟨#[32]⟩ : ByteArray) = X := ⟨_, rfl⟩
    have uX5 : X5.size ≤ X4.size + 1 := by rw [← hX5, ByteArray.size_append]; exact Nat.le_refl _
    have HX5 := Lib.hid hX5
    have vX5 : ¬ 9223372036854775807 < X4.size + 1 := by omega
    obtain ⟨X9, hX9⟩ : ∃ X, X5 ++ dS = X := ⟨_, rfl⟩
    have uX9 : X9.size ≤ X5.size + dS.size := by rw [← hX9, ByteArray.size_append]; exact Nat.le_refl _
    have HX9 := Lib.hid hX9
    have vX9 : ¬ 9223372036854775807 < X5.size + dS.size := by omega
    clear hX1 hX4 hX5 hX9
    have HALL : Hid (s ++ (⟨#[122, 111, 110, 101, 32]⟩ : ByteArray) ++ z.name ++ (⟨#[32]⟩ : ByteArray) ++ dS = X9) := by show _ = _; rw [HX1.out, HX4.out, HX5.out, HX9.out]
    refine wp_region_facts 10 [30, 31, 32, 33, 34, 35, 36, 37, 38, 39] (fun i v x => (([(fun v _ => v = .string s), (fun v _ => v = .string X1), (fun v _ => v = .pointer (some ⟨bx, 0, none⟩)), (fun v _ => v = .string z.name), (fun v _ => v = .string X4), (fun v _ => v = .string X5), (fun v _ => v = .pointer (some ⟨bx, 1, none⟩)), (fun v _ => v = .int .i64 z.off), (fun v _ => v = .string dS), (fun v _ => v = .string X9)] : List (Value → World → Prop)).getD i (fun _ _ => True)) v x) (by kernel_rfl) (by kernel_rfl) (by kernel_rfl) (by kernel_rfl) (by kernel_rfl) ?_ ?_ ?_
    · intro i v x x' h hx
      rcases Nat.lt_or_ge i 10 with hi | hi
      · have hi' : i = 0 ∨ i = 1 ∨ i = 2 ∨ i = 3 ∨ i = 4 ∨ i = 5 ∨ i = 6 ∨ i = 7 ∨ i = 8 ∨ i = 9 := by omega
        rcases hi' with rfl | rfl | rfl | rfl | rfl | rfl | rfl | rfl | rfl | rfl
        · exact h
        · exact h
        · exact h
        · exact h
        · exact h
        · exact h
        · exact h
        · exact h
        · exact h
        · exact h
      · rw [List.getD_eq_getElem?_getD, List.getElem?_eq_none (by simpa using hi)]; trivial
    · intro q o' hq ho a' w' hb' hout hpre K hK
      have hq' : q = 0 ∨ q = 1 ∨ q = 2 ∨ q = 3 ∨ q = 4 ∨ q = 5 ∨ q = 6 ∨ q = 7 ∨ q = 8 ∨ q = 9 := by omega
      rcases hq' with rfl | rfl | rfl | rfl | rfl | rfl | rfl | rfl | rfl | rfl
      · obtain rfl := Option.some.inj ho
        have e5 : a'.tmps[5]? = some (.string s) := hout 5 (by decide)
        go_simp
        exact hK (.string s) w' rfl (Below.refl _ _)
      · obtain rfl := Option.some.inj ho
        have p0 : a'.tmps.getD 30 undef = .string s := hpre ⟨0, .data⟩ (by simp) 30 rfl
        simp only [Array.getD_eq_getD_getElem?] at p0
        go_simp
        exact hK _ _ (congrArg Value.string HX1.out) (Below.refl _ _)
      · obtain rfl := Option.some.inj ho
        have e7 : a'.tmps[7]? = some (.pointer (some ⟨bx, 0, none⟩)) := hout 7 (by decide)
        go_simp
        exact hK (.pointer (some ⟨bx, 0, none⟩)) w' rfl (Below.refl _ _)
      · obtain rfl := Option.some.inj ho
        have p2 : a'.tmps.getD 32 undef = .pointer (some ⟨bx, 0, none⟩) := hpre ⟨2, .data⟩ (by simp) 32 rfl
        simp only [Array.getD_eq_getD_getElem?] at p2
        have c3 := cell_kept z0 hb'
        go_simp
        exact hK (.string z.name) w' rfl (Below.refl _ _)
      · obtain rfl := Option.some.inj ho
        have p1 : a'.tmps.getD 31 undef = .string X1 := hpre ⟨1, .data⟩ (by simp) 31 rfl
        simp only [Array.getD_eq_getD_getElem?] at p1
        have p3 : a'.tmps.getD 33 undef = .string z.name := hpre ⟨3, .data⟩ (by simp) 33 rfl
        simp only [Array.getD_eq_getD_getElem?] at p3
        go_simp
        exact hK _ _ (congrArg Value.string HX4.out) (Below.refl _ _)
      · obtain rfl := Option.some.inj ho
        have p4 : a'.tmps.getD 34 undef = .string X4 := hpre ⟨4, .data⟩ (by simp) 34 rfl
        simp only [Array.getD_eq_getD_getElem?] at p4
        go_simp
        exact hK _ _ (congrArg Value.string HX5.out) (Below.refl _ _)
      · obtain rfl := Option.some.inj ho
        have e7 : a'.tmps[7]? = some (.pointer (some ⟨bx, 0, none⟩)) := hout 7 (by decide)
        go_simp
        exact hK (.pointer (some ⟨bx, 1, none⟩)) w' rfl (Below.refl _ _)
      · obtain rfl := Option.some.inj ho
        have p6 : a'.tmps.getD 36 undef = .pointer (some ⟨bx, 1, none⟩) := hpre ⟨6, .data⟩ (by simp) 36 rfl
        simp only [Array.getD_eq_getD_getElem?] at p6
        have c7 := cell_kept z1 hb'
        go_simp
        exact hK (.int .i64 z.off) w' rfl (Below.refl _ _)
      · obtain rfl := Option.some.inj ho
        have p7 : a'.tmps.getD 37 undef = .int .i64 z.off := hpre ⟨7, .data⟩ (by simp) 37 rfl
        simp only [Array.getD_eq_getD_getElem?] at p7
        go_simp
        go_at_call 28
        refine (HDU.out w' (HBR.out.trans (hb'.mono HBR.out.size))).mono ?_
        rintro e w'' ⟨rfl, hb''⟩
        exact hK _ _ rfl hb''
      · obtain rfl := Option.some.inj ho
        have p5 : a'.tmps.getD 35 undef = .string X5 := hpre ⟨5, .data⟩ (by simp) 35 rfl
        simp only [Array.getD_eq_getD_getElem?] at p5
        have p8 : a'.tmps.getD 38 undef = .string dS := hpre ⟨8, .data⟩ (by simp) 38 rfl
        simp only [Array.getD_eq_getD_getElem?] at p8
        go_simp
        exact hK _ _ (congrArg Value.string HX9.out) (Below.refl _ _)
    · intro us w' hb' hfacts
      have h9 : us 9 = .string X9 := hfacts 9 (by decide)
      simp only [putL, Act.put, List.setIfInBounds_toArray, List.set_cons_zero, List.set_cons_succ, Nat.zero_add, Nat.reduceAdd]
      generalize us 9 = x9 at *
      subst h9
      simp only [List.drop_succ_cons, List.drop_zero]
      clear hfacts
      have HX7 : Hid (w'.heap[bx]? = some (.cells #[.string z.name, .int .i64 z.off, .slice B1 k1 d1] 51 (0, 0))) := (hb'.block bx hxlt).trans HXA.out
      have HF7 : Hid (Below w1.heap.size w1 w') := HFA.out.trans (hb'.mono HFA.out.size)
      have HE : Hid (X9.data.toList = pre ++ lineT [zoneS, z.name, dS]) := by
        show _ = _
        rw [← HALL.out, zhdR_eq, HZH.out, HS.out]
      have hl7 : (pre ++ lineT [zoneS, z.name, dS]).length ≤ 15100 := by rw [List.length_append]; omega
      have HSN3 : Hid (zL t (k + 1) = pre ++ lineT [zoneS, z.name, dS] ++ restT (z.shifts.flatMap sF) ++ [10]) := HSN
      generalize pre ++ lineT [zoneS, z.name, dS] = pre7 at *
      clear hb' HALL HZH HDU HFA HXA HBR HSN HS HWR z0 z1 hhu uX1 vX1 HX1 uX4 vX4 HX4 uX5 vX5 HX5 uX9 vX9 HX9
      have HSN := HSN3
      clear HSN3
      generalize X9 = s7 at *
      go_wp2_with fail
      go_loopw [5, 8] (fun s i wq => ∃ (j : Nat) (sv : ByteArray), j ≤ k1 ∧ i = .int .i64 j ∧ s = .string sv ∧ Hid (sv.data.toList = pre7 ++ restT ((z.shifts.take j).flatMap sF)) ∧ Hid (Below w1.heap.size w1 wq) ∧ Hid (wq.heap[bx]? = some (.cells #[.string z.name, .int .i64 z.off, .slice B1 k1 d1] 51 (0, 0)))) (fun _ i _ => k1 - (intOf i).toNat)
      case atStart => exact ⟨0, s7, Nat.zero_le _, rfl, rfl, Lib.hid (by simpa [restT] using HE.out), HF7, HX7⟩
      case round =>
        clear HE HF7 HX7
        obtain ⟨j, s, hj, rfl, rfl, HS, HWQ, HX⟩ := hrel
        have hlen2 : (pre7 ++ restT ((z.shifts.take j).flatMap sF)).length ≤ 16000 := by
          have := sFs_up HZG.out j
          rw [List.length_append]
          omega
        have hsz : s.size ≤ (pre7 ++ restT ((z.shifts.take j).flatMap sF)).length := by rw [Lib.size_eq, HS.out]; exact Nat.le_refl _
        by_cases hlt2 : j < k1
        · have hjs : j < z.shifts.length := by omega
          obtain ⟨bt, ot, rfl, hbS, y0, y1⟩ := (HQ.out wr HWQ.out).shift_at hjs
          have hsg := HZG.out.s _ (get_mem hjs noShift)
          have HSN2 : Hid (pre7 ++ restT ((z.shifts.take (j + 1)).flatMap sF) = pre7 ++ restT ((z.shifts.take j).flatMap sF) ++ restT (sF (z.shifts.getD j noShift))) := by
            show _ = _
            rw [flat_take_snoc sF hjs noShift, restT_app, List.append_assoc]
          generalize z.shifts.getD j noShift = q at *
          generalize pre7 ++ restT ((z.shifts.take j).flatMap sF) = pre8 at *
          have z2 : wr.cell? ⟨bx, 2, none⟩ = some (.slice (some ⟨bt, ot, none⟩) k1 d1) := block_cell HX.out 2
          have HBR : Hid (Below w.heap.size w wr) := HBW.out.trans (HWQ.out.mono hsw)
          have hbx3 : bx < wr.heap.size := (Array.getElem?_eq_some_iff.1 HX.out).1
          have HIN : Hid (∀ V, Below w.heap.size w V → Calls Tryz.prog 29 #[.int .i64 q.at_] V fun e w' => e = .returned (.string (insD q.at_ ++ blankS ++ insC q.at_)) ∧ Below V.heap.size V w') := fun V hV =>
            (instantTxtR_any q.at_ V hsg.1.1 hsg.1.2 (HPW.out V hV)).mono fun e w' ⟨x, he, hi, hb⟩ => ⟨by rw [he, hi.eqT hsg.1.1 hsg.1.2], hb⟩
          have HDU : Hid (∀ V, Below w.heap.size w V → Calls Tryz.prog 28 #[.int .i64 q.off] V (StrB (durF q.off) V)) := fun V hV => durTxtR_any q.off V (by omega) (HPW.out V hV)
          have hd := dur_le hsg.2
          have hi := ins_le hsg.1
          have HSH : Hid ((((⟨#[32]⟩ : ByteArray) ++ (insD q.at_ ++ blankS ++ insC q.at_) ++ (⟨#[32]⟩ : ByteArray) ++ durF q.off)).data.toList = restT (sF q)) := shf_eq _ _ _
          generalize insD q.at_ ++ blankS ++ insC q.at_ = iS at *
          generalize durF q.off = dS at *
          clear hbS hsg
          obtain ⟨Y1, hY1⟩ : ∃ X, s ++ (⟨#[32]⟩ : ByteArray) = X := ⟨_, rfl⟩
          have uY1 : Y1.size ≤ s.size + 1 := by rw [← hY1, ByteArray.size_append]; exact Nat.le_refl _
          have HY1 := Lib.hid hY1
          have vY1 : ¬ 9223372036854775807 < s.size + 1 := by omega
          obtain ⟨Y9, hY9⟩ : ∃ X, Y1 ++ iS = X := ⟨_, rfl⟩
          have uY9 : Y9.size ≤ Y1.size + iS.size := by rw [← hY9, ByteArray.size_append]; exact Nat.le_refl _
          have HY9 := Lib.hid hY9
          have vY9 : ¬ 9223372036854775807 < Y1.size + iS.size := by omega
          obtain ⟨Y10, hY10⟩ : ∃ X, Y9 ++ (⟨#[32]⟩ : ByteArray) = X := ⟨_, rfl⟩
          have uY10 : Y10.size ≤ Y9.size + 1 := by rw [← hY10, ByteArray.size_append]; exact Nat.le_refl _
          have HY10 := Lib.hid hY10
          have vY10 : ¬ 9223372036854775807 < Y9.size + 1 := by omega
          obtain ⟨Y18, hY18⟩ : ∃ X, Y10 ++ dS = X := ⟨_, rfl⟩
          have uY18 : Y18.size ≤ Y10.size + dS.size := by rw [← hY18, ByteArray.size_append]; exact Nat.le_refl _
          have HY18 := Lib.hid hY18
          have vY18 : ¬ 9223372036854775807 < Y10.size + dS.size := by omega
          clear hY1 hY9 hY10 hY18
          have HALL : Hid (s ++ (⟨#[32]⟩ : ByteArray) ++ iS ++ (⟨#[32]⟩ : ByteArray) ++ dS = Y18) := by show _ = _; rw [HY1.out, HY9.out, HY10.out, HY18.out]
          as_aux_lemma =>
            go_upto_region 13 with (fail)
            refine wp_region_facts 19 [47, 48, 49, 50, 51, 52, 53, 54, 55, 56, 57, 58, 59, 60, 61, 62, 63, 64, 65] (fun i v x => (([(fun v _ => v = .string s), (fun v _ => v = .string Y1), (fun v _ => v = .pointer (some ⟨bx, 2, none⟩)), (fun v _ => v = .slice (some ⟨bt, ot, none⟩) k1 d1), (fun v _ => v = .int .i64 j), (fun v _ => v = .pointer (some ⟨bt, ot + j * 2, none⟩)), (fun v _ => v = .pointer (some ⟨bt, ot + j * 2, none⟩)), (fun v _ => v = .int .i64 q.at_), (fun v _ => v = .string iS), (fun v _ => v = .string Y9), (fun v _ => v = .string Y10), (fun v _ => v = .pointer (some ⟨bx, 2, none⟩)), (fun v _ => v = .slice (some ⟨bt, ot, none⟩) k1 d1), (fun v _ => v = .int .i64 j), (fun v _ => v = .pointer (some ⟨bt, ot + j * 2, none⟩)), (fun v _ => v = .pointer (some ⟨bt, ot + j * 2 + 1, none⟩)), (fun v _ => v = .int .i64 q.off), (fun v _ => v = .string dS), (fun v _ => v = .string Y18)] : List (Value → World → Prop)).getD i (fun _ _ => True)) v x) (by kernel_rfl) (by kernel_rfl) (by kernel_rfl) (by kernel_rfl) (by kernel_rfl) ?_ ?_ ?_
            · intro i v x x' h hx
              rcases Nat.lt_or_ge i 19 with hi | hi
              · have hi' : i = 0 ∨ i = 1 ∨ i = 2 ∨ i = 3 ∨ i = 4 ∨ i = 5 ∨ i = 6 ∨ i = 7 ∨ i = 8 ∨ i = 9 ∨ i = 10 ∨ i = 11 ∨ i = 12 ∨ i = 13 ∨ i = 14 ∨ i = 15 ∨ i = 16 ∨ i = 17 ∨ i = 18 := by omega
                rcases hi' with rfl | rfl | rfl | rfl | rfl | rfl | rfl | rfl | rfl | rfl | rfl | rfl | rfl | rfl | rfl | rfl | rfl | rfl | rfl
                · exact h
                · exact h
                · exact h
                · exact h
                · exact h
                · exact h
                · exact h
                · exact h
                · exact h
                · exact h
                · exact h
                · exact h
                · exact h
                · exact h
                · exact h
                · exact h
                · exact h
                · exact h
                · exact h
              · rw [List.getD_eq_getElem?_getD, List.getElem?_eq_none (by simpa using hi)]; trivial
            · intro q o' hq ho a' w' hb' hout hpre K hK
              have hq' : q = 0 ∨ q = 1 ∨ q = 2 ∨ q = 3 ∨ q = 4 ∨ q = 5 ∨ q = 6 ∨ q = 7 ∨ q = 8 ∨ q = 9 ∨ q = 10 ∨ q = 11 ∨ q = 12 ∨ q = 13 ∨ q = 14 ∨ q = 15 ∨ q = 16 ∨ q = 17 ∨ q = 18 := by omega
              rcases hq' with rfl | rfl | rfl | rfl | rfl | rfl | rfl | rfl | rfl | rfl | rfl | rfl | rfl | rfl | rfl | rfl | rfl | rfl | rfl
              · obtain rfl := Option.some.inj ho
                have e5 : a'.tmps[5]? = some (.string s) := hout 5 (by decide)
                go_simp
                exact hK (.string s) w' rfl (Below.refl _ _)
              · obtain rfl := Option.some.inj ho
                have p0 : a'.tmps.getD 47 undef = .string s := hpre ⟨0, .data⟩ (by simp) 47 rfl
                simp only [Array.getD_eq_getD_getElem?] at p0
                go_simp
                exact hK _ _ (congrArg Value.string HY1.out) (Below.refl _ _)
              · obtain rfl := Option.some.inj ho
                have e7 : a'.tmps[7]? = some (.pointer (some ⟨bx, 0, none⟩)) := hout 7 (by decide)
                go_simp
                exact hK (.pointer (some ⟨bx, 2, none⟩)) w' rfl (Below.refl _ _)
              · obtain rfl := Option.some.inj ho
                have p2 : a'.tmps.getD 49 undef = .pointer (some ⟨bx, 2, none⟩) := hpre ⟨2, .data⟩ (by simp) 49 rfl
                simp only [Array.getD_eq_getD_getElem?] at p2
                have c3 := cell_kept z2 hb'
                go_simp
                exact hK (.slice (some ⟨bt, ot, none⟩) k1 d1) w' rfl (Below.refl _ _)
              · obtain rfl := Option.some.inj ho
                have e8 : a'.tmps[8]? = some (.int .i64 j) := hout 8 (by decide)
                go_simp
                exact hK (.int .i64 j) w' rfl (Below.refl _ _)
              · obtain rfl := Option.some.inj ho
                have p3 : a'.tmps.getD 50 undef = .slice (some ⟨bt, ot, none⟩) k1 d1 := hpre ⟨3, .data⟩ (by simp) 50 rfl
                simp only [Array.getD_eq_getD_getElem?] at p3
                have p4 : a'.tmps.getD 51 undef = .int .i64 j := hpre ⟨4, .data⟩ (by simp) 51 rfl
                simp only [Array.getD_eq_getD_getElem?] at p4
                go_simp
                exact hK (.pointer (some ⟨bt, ot + j * 2, none⟩)) w' rfl (Below.refl _ _)
              · obtain rfl := Option.some.inj ho
                have p5 : a'.tmps.getD 52 undef = .pointer (some ⟨bt, ot + j * 2, none⟩) := hpre ⟨5, .data⟩ (by simp) 52 rfl
                simp only [Array.getD_eq_getD_getElem?] at p5
                go_simp
                exact hK (.pointer (some ⟨bt, ot + j * 2, none⟩)) w' rfl (Below.refl _ _)
              · obtain rfl := Option.some.inj ho
                have p6 : a'.tmps.getD 53 undef = .pointer (some ⟨bt, ot + j * 2, none⟩) := hpre ⟨6, .data⟩ (by simp) 53 rfl
                simp only [Array.getD_eq_getD_getElem?] at p6
                have c7 := cell_kept y0 hb'
                go_simp
                exact hK (.int .i64 q.at_) w' rfl (Below.refl _ _)
              · obtain rfl := Option.some.inj ho
                have p7 : a'.tmps.getD 54 undef = .int .i64 q.at_ := hpre ⟨7, .data⟩ (by simp) 54 rfl
                simp only [Array.getD_eq_getD_getElem?] at p7
                go_simp
                go_at_call 29
                refine (HIN.out w' (HBR.out.trans (hb'.mono HBR.out.size))).mono ?_
                rintro e w'' ⟨rfl, hb''⟩
                exact hK _ _ rfl hb''
              · obtain rfl := Option.some.inj ho
                have p1 : a'.tmps.getD 48 undef = .string Y1 := hpre ⟨1, .data⟩ (by simp) 48 rfl
                simp only [Array.getD_eq_getD_getElem?] at p1
                have p8 : a'.tmps.getD 55 undef = .string iS := hpre ⟨8, .data⟩ (by simp) 55 rfl
                simp only [Array.getD_eq_getD_getElem?] at p8
                go_simp
                exact hK _ _ (congrArg Value.string HY9.out) (Below.refl _ _)
              · obtain rfl := Option.some.inj ho
                have p9 : a'.tmps.getD 56 undef = .string Y9 := hpre ⟨9, .data⟩ (by simp) 56 rfl
                simp only [Array.getD_eq_getD_getElem?] at p9
                go_simp
                exact hK _ _ (congrArg Value.string HY10.out) (Below.refl _ _)
              · obtain rfl := Option.some.inj ho
                have e7 : a'.tmps[7]? = some (.pointer (some ⟨bx, 0, none⟩)) := hout 7 (by decide)
                go_simp
                exact hK (.pointer (some ⟨bx, 2, none⟩)) w' rfl (Below.refl _ _)
              · obtain rfl := Option.some.inj ho
                have p11 : a'.tmps.getD 58 undef = .pointer (some ⟨bx, 2, none⟩) := hpre ⟨11, .data⟩ (by simp) 58 rfl
                simp only [Array.getD_eq_getD_getElem?] at p11
                have c12 := cell_kept z2 hb'
                go_simp
                exact hK (.slice (some ⟨bt, ot, none⟩) k1 d1) w' rfl (Below.refl _ _)
              · obtain rfl := Option.some.inj ho
                have e8 : a'.tmps[8]? = some (.int .i64 j) := hout 8 (by decide)
                go_simp
                exact hK (.int .i64 j) w' rfl (Below.refl _ _)
              · obtain rfl := Option.some.inj ho
                have p12 : a'.tmps.getD 59 undef = .slice (some ⟨bt, ot, none⟩) k1 d1 := hpre ⟨12, .data⟩ (by simp) 59 rfl
                simp only [Array.getD_eq_getD_getElem?] at p12
                have p13 : a'.tmps.getD 60 undef = .int .i64 j := hpre ⟨13, .data⟩ (by simp) 60 rfl
                simp only [Array.getD_eq_getD_getElem?] at p13
                go_simp
                exact hK (.pointer (some ⟨bt, ot + j * 2, none⟩)) w' rfl (Below.refl _ _)
              · obtain rfl := Option.some.inj ho
                have p14 : a'.tmps.getD 61 undef = .pointer (some ⟨bt, ot + j * 2, none⟩) := hpre ⟨14, .data⟩ (by simp) 61 rfl
                simp only [Array.getD_eq_getD_getElem?] at p14
                go_simp
                exact hK (.pointer (some ⟨bt, ot + j * 2 + 1, none⟩)) w' rfl (Below.refl _ _)
              · obtain rfl := Option.some.inj ho
                have p15 : a'.tmps.getD 62 undef = .pointer (some ⟨bt, ot + j * 2 + 1, none⟩) := hpre ⟨15, .data⟩ (by simp) 62 rfl
                simp only [Array.getD_eq_getD_getElem?] at p15
                have c16 := cell_kept y1 hb'
                go_simp
                exact hK (.int .i64 q.off) w' rfl (Below.refl _ _)
              · obtain rfl := Option.some.inj ho
                have p16 : a'.tmps.getD 63 undef = .int .i64 q.off := hpre ⟨16, .data⟩ (by simp) 63 rfl
                simp only [Array.getD_eq_getD_getElem?] at p16
                go_simp
                go_at_call 28
                refine (HDU.out w' (HBR.out.trans (hb'.mono HBR.out.size))).mono ?_
                rintro e w'' ⟨rfl, hb''⟩
                exact hK _ _ rfl hb''
              · obtain rfl := Option.some.inj ho
                have p10 : a'.tmps.getD 57 undef = .string Y10 := hpre ⟨10, .data⟩ (by simp) 57 rfl
                simp only [Array.getD_eq_getD_getElem?] at p10
                have p17 : a'.tmps.getD 64 undef = .string dS := hpre ⟨17, .data⟩ (by simp) 64 rfl
                simp only [Array.getD_eq_getD_getElem?] at p17
                go_simp
                exact hK _ _ (congrArg Value.string HY18.out) (Below.refl _ _)
            · intro us w' hb' hfacts
              have h18 : us 18 = .string Y18 := hfacts 18 (by decide)
              simp only [putL, Act.put, List.setIfInBounds_toArray, List.set_cons_zero, List.set_cons_succ, Nat.zero_add, Nat.reduceAdd]
              generalize us 18 = x18 at *
              subst h18
              simp only [List.drop_succ_cons, List.drop_zero]
              clear hfacts
              have HF9 : Hid (Below w1.heap.size w1 w') := HWQ.out.trans (hb'.mono HWQ.out.size)
              have HX9 : Hid (w'.heap[bx]? = some (.cells #[.string z.name, .int .i64 z.off, .slice (some ⟨bt, ot, none⟩) k1 d1] 51 (0, 0))) := (hb'.block bx hbx3).trans HX.out
              have HE : Hid (Y18.data.toList = pre7 ++ restT ((z.shifts.take (j + 1)).flatMap sF)) := by
                show _ = _
                rw [← HALL.out, shfR_eq, HSH.out, HS.out, HSN2.out]
              clear hb' HALL HS HSN2 HSH HIN HDU HWQ HX HBR y0 y1 z2 uY1 vY1 HY1 uY9 vY9 HY9 uY10 vY10 HY10 uY18 vY18 HY18
              generalize Y18 = s9 at *
              go_wp2_with fail
              go_roundw
              case rel => exact ⟨j + 1, _, by omega, by go_num, rfl, HE, HF9, HX9⟩
              case measure => simp [intOf]; omega
        · rw [List.take_of_length_le (by omega)] at HS hlen2 hsz
          have z2 : wr.cell? ⟨bx, 2, none⟩ = some (.slice B1 k1 d1) := block_cell HX.out 2
          have vN : ¬ 9223372036854775807 < s.size + 1 := by omega
          have HE : Hid ((s ++ (⟨#[10]⟩ : ByteArray)).data.toList = zL t (k + 1)) := by
            show _ = _
            rw [dataApp, HS.out, nl_eq, HSN.out]
          clear HS HSN
          as_aux_lemma =>
            go_wp2_with fail
            go_roundw
            case rel => exact ⟨k + 1, _, by omega, by go_num, rfl, HE, HWQ⟩
            case measure => simp [intOf]; omega
  have HXS : Hid (s.data.toList = aL t 0) := by
    have h9 := HS.out
    rw [show k = t.zones.length by omega, ← aL_zero] at h9
    exact h9
  clear HS hlen hsz
  go_wp2_with fail
  clear q0
  obtain ⟨wo, hwo⟩ : ∃ wo : World, wo = wr := ⟨_, rfl⟩
  go_loopw [5, 9] (fun s i wr => ∃ (k : Nat) (sv : ByteArray), k ≤ n2 ∧ i = .int .i64 k ∧ s = .string sv ∧ Hid (sv.data.toList = aL t k) ∧ Hid (Below w1.heap.size w1 wr)) (fun _ i _ => n2 - (intOf i).toNat)
  case atStart => exact ⟨0, _, Nat.zero_le _, rfl, rfl, HXS, HWR⟩
  case round =>
  clear HXS HWR hwo hlt hk
  obtain ⟨k, s, hk, rfl, rfl, HS, HWR⟩ := hrel
  have hlen := aL_up HG.out k
  have hsz : s.size ≤ (aL t k).length := by rw [Lib.size_eq, HS.out]; exact Nat.le_refl _
  have q0 : wr.cell? ⟨w.heap.size, 1, none⟩ = some (.slice A2 n2 c2) := block_cell (HXT.out wr HWR.out) 1
  by_cases hlt : k < n2
  · have hks : k < t.airports.length := by omega
    obtain ⟨b, o, rfl, hbS, y0, y1⟩ := (HT2.out.keep (w' := wr) fun b hb => HWR.out.block b (by unfold all_ at hb; omega)).airport_at hks
    have hag := HG.out.a _ (get_mem hks noAirport)
    have HSN := Lib.hid (aL_succ hks)
    generalize t.airports.getD k noAirport = z at *
    generalize aL t k = pre at *
    have hd := airport_le hag.code
    have hnm := name_le hag.zone
    have HBR : Hid (Below w.heap.size w wr) := HBW.out.trans (HWR.out.mono hsw)
    clear hbS hag
    obtain ⟨V1, hV1⟩ : ∃ X, s ++ (⟨#[97, 105, 114, 112, 111, 114, 116, 32]⟩ : ByteArray) = X := ⟨_, rfl⟩
    have uV1 : V1.size ≤ s.size + 8 := by rw [← hV1, ByteArray.size_append]; exact Nat.le_refl _
    have HV1 := Lib.hid hV1
    have vV1 : ¬ 9223372036854775807 < s.size + 8 := by omega
    obtain ⟨V8, hV8⟩ : ∃ X, V1 ++ z.code = X := ⟨_, rfl⟩
    have uV8 : V8.size ≤ V1.size + z.code.size := by rw [← hV8, ByteArray.size_append]; exact Nat.le_refl _
    have HV8 := Lib.hid hV8
    have vV8 : ¬ 9223372036854775807 < V1.size + z.code.size := by omega
    obtain ⟨V9, hV9⟩ : ∃ X, V8 ++ (⟨#[32]⟩ : ByteArray) = X := ⟨_, rfl⟩
    have uV9 : V9.size ≤ V8.size + 1 := by rw [← hV9, ByteArray.size_append]; exact Nat.le_refl _
    have HV9 := Lib.hid hV9
    have vV9 : ¬ 9223372036854775807 < V8.size + 1 := by omega
    obtain ⟨V16, hV16⟩ : ∃ X, V9 ++ z.zone = X := ⟨_, rfl⟩
    have uV16 : V16.size ≤ V9.size + z.zone.size := by rw [← hV16, ByteArray.size_append]; exact Nat.le_refl _
    have HV16 := Lib.hid hV16
    have vV16 : ¬ 9223372036854775807 < V9.size + z.zone.size := by omega
    obtain ⟨V17, hV17⟩ : ∃ X, V16 ++ (⟨#[10]⟩ : ByteArray) = X := ⟨_, rfl⟩
    have uV17 : V17.size ≤ V16.size + 1 := by rw [← hV17, ByteArray.size_append]; exact Nat.le_refl _
    have HV17 := Lib.hid hV17
    have vV17 : ¬ 9223372036854775807 < V16.size + 1 := by omega
    clear hV1 hV8 hV9 hV16 hV17
    have HALL : Hid (s ++ (⟨#[97, 105, 114, 112, 111, 114, 116, 32]⟩ : ByteArray) ++ z.code ++ (⟨#[32]⟩ : ByteArray) ++ z.zone ++ (⟨#[10]⟩ : ByteArray) = V17) := by show _ = _; rw [HV1.out, HV8.out, HV9.out, HV16.out, HV17.out]
    as_aux_lemma =>
      go_upto_region 18 with (fail)
      refine wp_region_facts 18 [75, 76, 77, 78, 79, 80, 81, 82, 83, 84, 85, 86, 87, 88, 89, 90, 91, 92] (fun i v x => (([(fun v _ => v = .string s), (fun v _ => v = .string V1), (fun v _ => v = .pointer (some ⟨w.heap.size, 1, none⟩)), (fun v _ => v = .slice (some ⟨b, o, none⟩) n2 c2), (fun v _ => v = .int .i64 k), (fun v _ => v = .pointer (some ⟨b, o + k * 2, none⟩)), (fun v _ => v = .pointer (some ⟨b, o + k * 2, none⟩)), (fun v _ => v = .string z.code), (fun v _ => v = .string V8), (fun v _ => v = .string V9), (fun v _ => v = .pointer (some ⟨w.heap.size, 1, none⟩)), (fun v _ => v = .slice (some ⟨b, o, none⟩) n2 c2), (fun v _ => v = .int .i64 k), (fun v _ => v = .pointer (some ⟨b, o + k * 2, none⟩)), (fun v _ => v = .pointer (some ⟨b, o + k * 2 + 1, none⟩)), (fun v _ => v = .string z.zone), (fun v _ => v = .string V16), (fun v _ => v = .string V17)] : List (Value → World → Prop)).getD i (fun _ _ => True)) v x) (by kernel_rfl) (by kernel_rfl) (by kernel_rfl) (by kernel_rfl) (by kernel_rfl) ?_ ?_ ?_
      · intro i v x x' h hx
        rcases Nat.lt_or_ge i 18 with hi | hi
        · have hi' : i = 0 ∨ i = 1 ∨ i = 2 ∨ i = 3 ∨ i = 4 ∨ i = 5 ∨ i = 6 ∨ i = 7 ∨ i = 8 ∨ i = 9 ∨ i = 10 ∨ i = 11 ∨ i = 12 ∨ i = 13 ∨ i = 14 ∨ i = 15 ∨ i = 16 ∨ i = 17 := by omega
          rcases hi' with rfl | rfl | rfl | rfl | rfl | rfl | rfl | rfl | rfl | rfl | rfl | rfl | rfl | rfl | rfl | rfl | rfl | rfl
          · exact h
          · exact h
          · exact h
          · exact h
          · exact h
          · exact h
          · exact h
          · exact h
          · exact h
          · exact h
          · exact h
          · exact h
          · exact h
          · exact h
          · exact h
          · exact h
          · exact h
          · exact h
        · rw [List.getD_eq_getElem?_getD, List.getElem?_eq_none (by simpa using hi)]; trivial
      · intro q o' hq ho a' w' hb' hout hpre K hK
        have hq' : q = 0 ∨ q = 1 ∨ q = 2 ∨ q = 3 ∨ q = 4 ∨ q = 5 ∨ q = 6 ∨ q = 7 ∨ q = 8 ∨ q = 9 ∨ q = 10 ∨ q = 11 ∨ q = 12 ∨ q = 13 ∨ q = 14 ∨ q = 15 ∨ q = 16 ∨ q = 17 := by omega
        rcases hq' with rfl | rfl | rfl | rfl | rfl | rfl | rfl | rfl | rfl | rfl | rfl | rfl | rfl | rfl | rfl | rfl | rfl | rfl
        · obtain rfl := Option.some.inj ho
          have e5 : a'.tmps[5]? = some (.string s) := hout 5 (by decide)
          go_simp
          exact hK (.string s) w' rfl (Below.refl _ _)
        · obtain rfl := Option.some.inj ho
          have p0 : a'.tmps.getD 75 undef = .string s := hpre ⟨0, .data⟩ (by simp) 75 rfl
          simp only [Array.getD_eq_getD_getElem?] at p0
          go_simp
          exact hK _ _ (congrArg Value.string HV1.out) (Below.refl _ _)
        · obtain rfl := Option.some.inj ho
          have e1 : a'.tmps[1]? = some (.pointer (some ⟨w.heap.size, 0, none⟩)) := hout 1 (by decide)
          go_simp
          exact hK (.pointer (some ⟨w.heap.size, 1, none⟩)) w' rfl (Below.refl _ _)
        · obtain rfl := Option.some.inj ho
          have p2 : a'.tmps.getD 77 undef = .pointer (some ⟨w.heap.size, 1, none⟩) := hpre ⟨2, .data⟩ (by simp) 77 rfl
          simp only [Array.getD_eq_getD_getElem?] at p2
          have c3 := cell_kept q0 hb'
          go_simp
          exact hK (.slice (some ⟨b, o, none⟩) n2 c2) w' rfl (Below.refl _ _)
        · obtain rfl := Option.some.inj ho
          have e9 : a'.tmps[9]? = some (.int .i64 k) := hout 9 (by decide)
          go_simp
          exact hK (.int .i64 k) w' rfl (Below.refl _ _)
        · obtain rfl := Option.some.inj ho
          have p3 : a'.tmps.getD 78 undef = .slice (some ⟨b, o, none⟩) n2 c2 := hpre ⟨3, .data⟩ (by simp) 78 rfl
          simp only [Array.getD_eq_getD_getElem?] at p3
          have p4 : a'.tmps.getD 79 undef = .int .i64 k := hpre ⟨4, .data⟩ (by simp) 79 rfl
          simp only [Array.getD_eq_getD_getElem?] at p4
          go_simp
          exact hK (.pointer (some ⟨b, o + k * 2, none⟩)) w' rfl (Below.refl _ _)
        · obtain rfl := Option.some.inj ho
          have p5 : a'.tmps.getD 80 undef = .pointer (some ⟨b, o + k * 2, none⟩) := hpre ⟨5, .data⟩ (by simp) 80 rfl
          simp only [Array.getD_eq_getD_getElem?] at p5
          go_simp
          exact hK (.pointer (some ⟨b, o + k * 2, none⟩)) w' rfl (Below.refl _ _)
        · obtain rfl := Option.some.inj ho
          have p6 : a'.tmps.getD 81 undef = .pointer (some ⟨b, o + k * 2, none⟩) := hpre ⟨6, .data⟩ (by simp) 81 rfl
          simp only [Array.getD_eq_getD_getElem?] at p6
          have c7 := cell_kept y0 hb'
          go_simp
          exact hK (.string z.code) w' rfl (Below.refl _ _)
        · obtain rfl := Option.some.inj ho
          have p1 : a'.tmps.getD 76 undef = .string V1 := hpre ⟨1, .data⟩ (by simp) 76 rfl
          simp only [Array.getD_eq_getD_getElem?] at p1
          have p7 : a'.tmps.getD 82 undef = .string z.code := hpre ⟨7, .data⟩ (by simp) 82 rfl
          simp only [Array.getD_eq_getD_getElem?] at p7
          go_simp
          exact hK _ _ (congrArg Value.string HV8.out) (Below.refl _ _)
        · obtain rfl := Option.some.inj ho
          have p8 : a'.tmps.getD 83 undef = .string V8 := hpre ⟨8, .data⟩ (by simp) 83 rfl
          simp only [Array.getD_eq_getD_getElem?] at p8
          go_simp
          exact hK _ _ (congrArg Value.string HV9.out) (Below.refl _ _)
        · obtain rfl := Option.some.inj ho
          have e1 : a'.tmps[1]? = some (.pointer (some ⟨w.heap.size, 0, none⟩)) := hout 1 (by decide)
          go_simp
          exact hK (.pointer (some ⟨w.heap.size, 1, none⟩)) w' rfl (Below.refl _ _)
        · obtain rfl := Option.some.inj ho
          have p10 : a'.tmps.getD 85 undef = .pointer (some ⟨w.heap.size, 1, none⟩) := hpre ⟨10, .data⟩ (by simp) 85 rfl
          simp only [Array.getD_eq_getD_getElem?] at p10
          have c11 := cell_kept q0 hb'
          go_simp
          exact hK (.slice (some ⟨b, o, none⟩) n2 c2) w' rfl (Below.refl _ _)
        · obtain rfl := Option.some.inj ho
          have e9 : a'.tmps[9]? = some (.int .i64 k) := hout 9 (by decide)
          go_simp
          exact hK (.int .i64 k) w' rfl (Below.refl _ _)
        · obtain rfl := Option.some.inj ho
          have p11 : a'.tmps.getD 86 undef = .slice (some ⟨b, o, none⟩) n2 c2 := hpre ⟨11, .data⟩ (by simp) 86 rfl
          simp only [Array.getD_eq_getD_getElem?] at p11
          have p12 : a'.tmps.getD 87 undef = .int .i64 k := hpre ⟨12, .data⟩ (by simp) 87 rfl
          simp only [Array.getD_eq_getD_getElem?] at p12
          go_simp
          exact hK (.pointer (some ⟨b, o + k * 2, none⟩)) w' rfl (Below.refl _ _)
        · obtain rfl := Option.some.inj ho
          have p13 : a'.tmps.getD 88 undef = .pointer (some ⟨b, o + k * 2, none⟩) := hpre ⟨13, .data⟩ (by simp) 88 rfl
          simp only [Array.getD_eq_getD_getElem?] at p13
          go_simp
          exact hK (.pointer (some ⟨b, o + k * 2 + 1, none⟩)) w' rfl (Below.refl _ _)
        · obtain rfl := Option.some.inj ho
          have p14 : a'.tmps.getD 89 undef = .pointer (some ⟨b, o + k * 2 + 1, none⟩) := hpre ⟨14, .data⟩ (by simp) 89 rfl
          simp only [Array.getD_eq_getD_getElem?] at p14
          have c15 := cell_kept y1 hb'
          go_simp
          exact hK (.string z.zone) w' rfl (Below.refl _ _)
        · obtain rfl := Option.some.inj ho
          have p9 : a'.tmps.getD 84 undef = .string V9 := hpre ⟨9, .data⟩ (by simp) 84 rfl
          simp only [Array.getD_eq_getD_getElem?] at p9
          have p15 : a'.tmps.getD 90 undef = .string z.zone := hpre ⟨15, .data⟩ (by simp) 90 rfl
          simp only [Array.getD_eq_getD_getElem?] at p15
          go_simp
          exact hK _ _ (congrArg Value.string HV16.out) (Below.refl _ _)
        · obtain rfl := Option.some.inj ho
          have p16 : a'.tmps.getD 91 undef = .string V16 := hpre ⟨16, .data⟩ (by simp) 91 rfl
          simp only [Array.getD_eq_getD_getElem?] at p16
          go_simp
          exact hK _ _ (congrArg Value.string HV17.out) (Below.refl _ _)
      · intro us w' hb' hfacts
        have h17 : us 17 = .string V17 := hfacts 17 (by decide)
        simp only [putL, Act.put, List.setIfInBounds_toArray, List.set_cons_zero, List.set_cons_succ, Nat.zero_add, Nat.reduceAdd]
        generalize us 17 = x17 at *
        subst h17
        simp only [List.drop_succ_cons, List.drop_zero]
        clear hfacts
        have HF9 : Hid (Below w1.heap.size w1 w') := HWR.out.trans (hb'.mono HWR.out.size)
        have HE : Hid (V17.data.toList = aL t (k + 1)) := by
          show _ = _
          rw [← HALL.out, airR_eq, HS.out, HSN.out]
        clear hb' HALL HS HSN HWR HBR y0 y1 q0 uV1 vV1 HV1 uV8 vV8 HV8 uV9 vV9 HV9 uV16 vV16 HV16 uV17 vV17 HV17
        generalize V17 = s9 at *
        go_wp2_with fail
        go_roundw
        case rel => exact ⟨k + 1, _, by omega, by go_num, rfl, HE, HF9⟩
        case measure => simp [intOf]; omega
  have HXS : Hid (s.data.toList = fL t 0) := by
    have h9 := HS.out
    rw [show k = t.airports.length by omega, ← fL_zero] at h9
    exact h9
  clear HS hlen hsz
  go_wp2_with fail
  clear q0
  obtain ⟨wo, hwo⟩ : ∃ wo : World, wo = wr := ⟨_, rfl⟩
  go_loopw [5, 10] (fun s i wr => ∃ (k : Nat) (sv : ByteArray), k ≤ n3 ∧ i = .int .i64 k ∧ s = .string sv ∧ Hid (sv.data.toList = fL t k) ∧ Hid (Below w1.heap.size w1 wr)) (fun _ i _ => n3 - (intOf i).toNat)
  case atStart => exact ⟨0, _, Nat.zero_le _, rfl, rfl, HXS, HWR⟩
  case round =>
  clear HXS HWR hwo hlt hk
  obtain ⟨k, s, hk, rfl, rfl, HS, HWR⟩ := hrel
  have hlen := fL_up HG.out k
  have hsz : s.size ≤ (fL t k).length := by rw [Lib.size_eq, HS.out]; exact Nat.le_refl _
  have q0 : wr.cell? ⟨w.heap.size, 2, none⟩ = some (.slice A3 n3 c3) := block_cell (HXT.out wr HWR.out) 2
  by_cases hlt : k < n3
  · have hks : k < t.flights.length := by omega
    obtain ⟨b, o, rfl, hbS, hat⟩ := (HT3.out.keep (w' := wr) fun b hb => HWR.out.block b (by unfold all_ at hb; omega)).flight_at hks
    have hfg := HG.out.f _ (get_mem hks noFlight)
    have HSN := Lib.hid (fL_succ hks)
    generalize t.flights.getD k noFlight = fx at *
    generalize fL t k = pre at *
    have y0 : wr.cell? ⟨b, o + k * 9, none⟩ = some (.string fx.number) := hat 0 _ rfl
    have y1 := hat 1 _ rfl; have y2 := hat 2 _ rfl; have y3 := hat 3 _ rfl; have y4 := hat 4 _ rfl; have y5 := hat 5 _ rfl; have y6 := hat 6 _ rfl; have y7 := hat 7 _ rfl; have y8 := hat 8 _ rfl
    have hgb : w1.heap.size ≤ wr.heap.size := HWR.out.size
    have t1 := code_le hfg.number; have t2 := airport_le hfg.src; have t3 := airport_le hfg.dst; have t4 := name_le hfg.kind
    have HFG := Lib.hid hfg
    have hhu := fhd_up hfg
    have hfu := fin_up hfg
    have HI1 : Hid (∀ V, Below w.heap.size w V → Calls Tryz.prog 29 #[.int .i64 fx.dep] V fun e w' => e = .returned (.string (insD fx.dep ++ blankS ++ insC fx.dep)) ∧ Below V.heap.size V w') := fun V hV =>
      (instantTxtR_any fx.dep V HFG.out.dep.1 HFG.out.dep.2 (HPW.out V hV)).mono fun e w' ⟨_, he, hi, hb⟩ => ⟨by rw [he, hi.eqT HFG.out.dep.1 HFG.out.dep.2], hb⟩
    have HI2 : Hid (∀ V, Below w.heap.size w V → Calls Tryz.prog 29 #[.int .i64 fx.arr] V fun e w' => e = .returned (.string (insD fx.arr ++ blankS ++ insC fx.arr)) ∧ Below V.heap.size V w') := fun V hV =>
      (instantTxtR_any fx.arr V HFG.out.arr.1 HFG.out.arr.2 (HPW.out V hV)).mono fun e w' ⟨_, he, hi, hb⟩ => ⟨by rw [he, hi.eqT HFG.out.arr.1 HFG.out.arr.2], hb⟩
    have hi1 := ins_le HFG.out.dep
    have hi2 := ins_le HFG.out.arr
    have HIE : Hid (((⟨#[32]⟩ : ByteArray) ++ (insD fx.dep ++ blankS ++ insC fx.dep) ++ (⟨#[32]⟩ : ByteArray) ++ (insD fx.arr ++ blankS ++ insC fx.arr)).data.toList = restT [insD fx.dep, insC fx.dep, insD fx.arr, insC fx.arr]) := fin_eq _ _ _ _
    generalize insD fx.dep ++ blankS ++ insC fx.dep = iS at *
    generalize insD fx.arr ++ blankS ++ insC fx.arr = jS at *
    have hwa : Below wr.heap.size wr (wr.alloc (.cells #[.string fx.number, .string fx.src, .string fx.dst, .int .i64 fx.dep, .int .i64 fx.arr, .string fx.kind, .int .i64 fx.n0, .int .i64 fx.n1, .int .i64 fx.n2] 47)) := (Below.refl _ _).alloc (Nat.le_refl _) _
    have hxa := heap_alloc_new wr (.cells #[.string fx.number, .string fx.src, .string fx.dst, .int .i64 fx.dep, .int .i64 fx.arr, .string fx.kind, .int .i64 fx.n0, .int .i64 fx.n1, .int .i64 fx.n2] 47)
    have hxlt : wr.heap.size < (wr.alloc (.cells #[.string fx.number, .string fx.src, .string fx.dst, .int .i64 fx.dep, .int .i64 fx.arr, .string fx.kind, .int .i64 fx.n0, .int .i64 fx.n1, .int .i64 fx.n2] 47)).heap.size := by simp
    have HFA : Hid (Below w1.heap.size w1 (wr.alloc (.cells #[.string fx.number, .string fx.src, .string fx.dst, .int .i64 fx.dep, .int .i64 fx.arr, .string fx.kind, .int .i64 fx.n0, .int .i64 fx.n1, .int .i64 fx.n2] 47))) := HWR.out.trans (hwa.mono HWR.out.size)
    have HXA := Lib.hid hxa
    have HBR : Hid (Below w.heap.size w (wr.alloc (.cells #[.string fx.number, .string fx.src, .string fx.dst, .int .i64 fx.dep, .int .i64 fx.arr, .string fx.kind, .int .i64 fx.n0, .int .i64 fx.n1, .int .i64 fx.n2] 47))) := HBW.out.trans (HFA.out.mono hsw)
    clear hwa hxa
    clear hbS hat hfg
    go_upto_region 23 with (fail)
    clear y0 y1 y2 y3 y4 y5 y6 y7 y8 q0
    generalize wr.alloc (.cells #[.string fx.number, .string fx.src, .string fx.dst, .int .i64 fx.dep, .int .i64 fx.arr, .string fx.kind, .int .i64 fx.n0, .int .i64 fx.n1, .int .i64 fx.n2] 47) = wa at *
    generalize hbx : wr.heap.size = bx at *
    have z0 : wa.cell? ⟨bx, 0, none⟩ = some (.string fx.number) := block_cell HXA.out 0
    have z1 : wa.cell? ⟨bx, 1, none⟩ = some (.string fx.src) := block_cell HXA.out 1
    have z2 : wa.cell? ⟨bx, 2, none⟩ = some (.string fx.dst) := block_cell HXA.out 2
    have z3 : wa.cell? ⟨bx, 3, none⟩ = some (.int .i64 fx.dep) := block_cell HXA.out 3
    have z4 : wa.cell? ⟨bx, 4, none⟩ = some (.int .i64 fx.arr) := block_cell HXA.out 4
    have z5 : wa.cell? ⟨bx, 5, none⟩ = some (.string fx.kind) := block_cell HXA.out 5
    obtain ⟨Z1, hZ1⟩ : ∃ X, s ++ (⟨#[102, 108, 105, 103, 104, 116, 32]⟩ : ByteArray) = X := ⟨_, rfl⟩
    have uZ1 : Z1.size ≤ s.size + 7 := by rw [← hZ1, ByteArray.size_append]; exact Nat.le_refl _
    have HZ1 := Lib.hid hZ1
    have vZ1 : ¬ 9223372036854775807 < s.size + 7 := by omega
    obtain ⟨Z4, hZ4⟩ : ∃ X, Z1 ++ fx.number = X := ⟨_, rfl⟩
    have uZ4 : Z4.size ≤ Z1.size + fx.number.size := by rw [← hZ4, ByteArray.size_append]; exact Nat.le_refl _
    have HZ4 := Lib.hid hZ4
    have vZ4 : ¬ 9223372036854775807 < Z1.size + fx.number.size := by omega
    obtain ⟨Z5, hZ5⟩ : ∃ X, Z4 ++ (⟨#[32]⟩ : ByteArray) = X := ⟨_, rfl⟩
    have uZ5 : Z5.size ≤ Z4.size + 1 := by rw [← hZ5, ByteArray.size_append]; exact Nat.le_refl _
    have HZ5 := Lib.hid hZ5
    have vZ5 : ¬ 9223372036854775807 < Z4.size + 1 := by omega
    obtain ⟨Z8, hZ8⟩ : ∃ X, Z5 ++ fx.src = X := ⟨_, rfl⟩
    have uZ8 : Z8.size ≤ Z5.size + fx.src.size := by rw [← hZ8, ByteArray.size_append]; exact Nat.le_refl _
    have HZ8 := Lib.hid hZ8
    have vZ8 : ¬ 9223372036854775807 < Z5.size + fx.src.size := by omega
    obtain ⟨Z9, hZ9⟩ : ∃ X, Z8 ++ (⟨#[32]⟩ : ByteArray) = X := ⟨_, rfl⟩
    have uZ9 : Z9.size ≤ Z8.size + 1 := by rw [← hZ9, ByteArray.size_append]; exact Nat.le_refl _
    have HZ9 := Lib.hid hZ9
    have vZ9 : ¬ 9223372036854775807 < Z8.size + 1 := by omega
    obtain ⟨Z12, hZ12⟩ : ∃ X, Z9 ++ fx.dst = X := ⟨_, rfl⟩
    have uZ12 : Z12.size ≤ Z9.size + fx.dst.size := by rw [← hZ12, ByteArray.size_append]; exact Nat.le_refl _
    have HZ12 := Lib.hid hZ12
    have vZ12 : ¬ 9223372036854775807 < Z9.size + fx.dst.size := by omega
    obtain ⟨Z13, hZ13⟩ : ∃ X, Z12 ++ (⟨#[32]⟩ : ByteArray) = X := ⟨_, rfl⟩
    have uZ13 : Z13.size ≤ Z12.size + 1 := by rw [← hZ13, ByteArray.size_append]; exact Nat.le_refl _
    have HZ13 := Lib.hid hZ13
    have vZ13 : ¬ 9223372036854775807 < Z12.size + 1 := by omega
    obtain ⟨Z16, hZ16⟩ : ∃ X, Z13 ++ fx.kind = X := ⟨_, rfl⟩
    have uZ16 : Z16.size ≤ Z13.size + fx.kind.size := by rw [← hZ16, ByteArray.size_append]; exact Nat.le_refl _
    have HZ16 := Lib.hid hZ16
    have vZ16 : ¬ 9223372036854775807 < Z13.size + fx.kind.size := by omega
    obtain ⟨Z17, hZ17⟩ : ∃ X, Z16 ++ (⟨#[32]⟩ : ByteArray) = X := ⟨_, rfl⟩
    have uZ17 : Z17.size ≤ Z16.size + 1 := by rw [← hZ17, ByteArray.size_append]; exact Nat.le_refl _
    have HZ17 := Lib.hid hZ17
    have vZ17 : ¬ 9223372036854775807 < Z16.size + 1 := by omega
    obtain ⟨Z21, hZ21⟩ : ∃ X, Z17 ++ iS = X := ⟨_, rfl⟩
    have uZ21 : Z21.size ≤ Z17.size + iS.size := by rw [← hZ21, ByteArray.size_append]; exact Nat.le_refl _
    have HZ21 := Lib.hid hZ21
    have vZ21 : ¬ 9223372036854775807 < Z17.size + iS.size := by omega
    obtain ⟨Z22, hZ22⟩ : ∃ X, Z21 ++ (⟨#[32]⟩ : ByteArray) = X := ⟨_, rfl⟩
    have uZ22 : Z22.size ≤ Z21.size + 1 := by rw [← hZ22, ByteArray.size_append]; exact Nat.le_refl _
    have HZ22 := Lib.hid hZ22
    have vZ22 : ¬ 9223372036854775807 < Z21.size + 1 := by omega
    obtain ⟨Z26, hZ26⟩ : ∃ X, Z22 ++ jS = X := ⟨_, rfl⟩
    have uZ26 : Z26.size ≤ Z22.size + jS.size := by rw [← hZ26, ByteArray.size_append]; exact Nat.le_refl _
    have HZ26 := Lib.hid hZ26
    have vZ26 : ¬ 9223372036854775807 < Z22.size + jS.size := by omega
    clear hZ1 hZ4 hZ5 hZ8 hZ9 hZ12 hZ13 hZ16 hZ17 hZ21 hZ22 hZ26
    have HALL : Hid (s ++ (⟨#[102, 108, 105, 103, 104, 116, 32]⟩ : ByteArray) ++ fx.number ++ (⟨#[32]⟩ : ByteArray) ++ fx.src ++ (⟨#[32]⟩ : ByteArray) ++ fx.dst ++ (⟨#[32]⟩ : ByteArray) ++ fx.kind ++ (⟨#[32]⟩ : ByteArray) ++ iS ++ (⟨#[32]⟩ : ByteArray) ++ jS = Z26) := by show _ = _; rw [HZ1.out, HZ4.out, HZ5.out, HZ8.out, HZ9.out, HZ12.out, HZ13.out, HZ16.out, HZ17.out, HZ21.out, HZ22.out, HZ26.out]
    refine wp_region_facts 27 [105, 106, 107, 108, 109, 110, 111, 112, 113, 114, 115, 116, 117, 118, 119, 120, 121, 122, 123, 124, 125, 126, 127, 128, 129, 130, 131] (fun i v x => (([(fun v _ => v = .string s), (fun v _ => v = .string Z1), (fun v _ => v = .pointer (some ⟨bx, 0, none⟩)), (fun v _ => v = .string fx.number), (fun v _ => v = .string Z4), (fun v _ => v = .string Z5), (fun v _ => v = .pointer (some ⟨bx, 1, none⟩)), (fun v _ => v = .string fx.src), (fun v _ => v = .string Z8), (fun v _ => v = .string Z9), (fun v _ => v = .pointer (some ⟨bx, 2, none⟩)), (fun v _ => v = .string fx.dst), (fun v _ => v = .string Z12), (fun v _ => v = .string Z13), (fun v _ => v = .pointer (some ⟨bx, 5, none⟩)), (fun v _ => v = .string fx.kind), (fun v _ => v = .string Z16), (fun v _ => v = .string Z17), (fun v _ => v = .pointer (some ⟨bx, 3, none⟩)), (fun v _ => v = .int .i64 fx.dep), (fun v _ => v = .string iS), (fun v _ => v = .string Z21), (fun v _ => v = .string Z22), (fun v _ => v = .pointer (some ⟨bx, 4, none⟩)), (fun v _ => v = .int .i64 fx.arr), (fun v _ => v = .string jS), (fun v _ => v = .string Z26)] : List (Value → World → Prop)).getD i (fun _ _ => True)) v x) (by kernel_rfl) (by kernel_rfl) (by kernel_rfl) (by kernel_rfl) (by kernel_rfl) ?_ ?_ ?_
    · intro i v x x' h hx
      rcases Nat.lt_or_ge i 27 with hi | hi
      · have hi' : i = 0 ∨ i = 1 ∨ i = 2 ∨ i = 3 ∨ i = 4 ∨ i = 5 ∨ i = 6 ∨ i = 7 ∨ i = 8 ∨ i = 9 ∨ i = 10 ∨ i = 11 ∨ i = 12 ∨ i = 13 ∨ i = 14 ∨ i = 15 ∨ i = 16 ∨ i = 17 ∨ i = 18 ∨ i = 19 ∨ i = 20 ∨ i = 21 ∨ i = 22 ∨ i = 23 ∨ i = 24 ∨ i = 25 ∨ i = 26 := by omega
        rcases hi' with rfl | rfl | rfl | rfl | rfl | rfl | rfl | rfl | rfl | rfl | rfl | rfl | rfl | rfl | rfl | rfl | rfl | rfl | rfl | rfl | rfl | rfl | rfl | rfl | rfl | rfl | rfl
        · exact h
        · exact h
        · exact h
        · exact h
        · exact h
        · exact h
        · exact h
        · exact h
        · exact h
        · exact h
        · exact h
        · exact h
        · exact h
        · exact h
        · exact h
        · exact h
        · exact h
        · exact h
        · exact h
        · exact h
        · exact h
        · exact h
        · exact h
        · exact h
        · exact h
        · exact h
        · exact h
      · rw [List.getD_eq_getElem?_getD, List.getElem?_eq_none (by simpa using hi)]; trivial
    · intro q o' hq ho a' w' hb' hout hpre K hK
      have hq' : q = 0 ∨ q = 1 ∨ q = 2 ∨ q = 3 ∨ q = 4 ∨ q = 5 ∨ q = 6 ∨ q = 7 ∨ q = 8 ∨ q = 9 ∨ q = 10 ∨ q = 11 ∨ q = 12 ∨ q = 13 ∨ q = 14 ∨ q = 15 ∨ q = 16 ∨ q = 17 ∨ q = 18 ∨ q = 19 ∨ q = 20 ∨ q = 21 ∨ q = 22 ∨ q = 23 ∨ q = 24 ∨ q = 25 ∨ q = 26 := by omega
      rcases hq' with rfl | rfl | rfl | rfl | rfl | rfl | rfl | rfl | rfl | rfl | rfl | rfl | rfl | rfl | rfl | rfl | rfl | rfl | rfl | rfl | rfl | rfl | rfl | rfl | rfl | rfl | rfl
      · obtain rfl := Option.some.inj ho
        have e5 : a'.tmps[5]? = some (.string s) := hout 5 (by decide)
        go_simp
        exact hK (.string s) w' rfl (Below.refl _ _)
      · obtain rfl := Option.some.inj ho
        have p0 : a'.tmps.getD 105 undef = .string s := hpre ⟨0, .data⟩ (by simp) 105 rfl
        simp only [Array.getD_eq_getD_getElem?] at p0
        go_simp
        exact hK _ _ (congrArg Value.string HZ1.out) (Below.refl _ _)
      · obtain rfl := Option.some.inj ho
        have e11 : a'.tmps[11]? = some (.pointer (some ⟨bx, 0, none⟩)) := hout 11 (by decide)
        go_simp
        exact hK (.pointer (some ⟨bx, 0, none⟩)) w' rfl (Below.refl _ _)
      · obtain rfl := Option.some.inj ho
        have p2 : a'.tmps.getD 107 undef = .pointer (some ⟨bx, 0, none⟩) := hpre ⟨2, .data⟩ (by simp) 107 rfl
        simp only [Array.getD_eq_getD_getElem?] at p2
        have c3 := cell_kept z0 hb'
        go_simp
        exact hK (.string fx.number) w' rfl (Below.refl _ _)
      · obtain rfl := Option.some.inj ho
        have p1 : a'.tmps.getD 106 undef = .string Z1 := hpre ⟨1, .data⟩ (by simp) 106 rfl
        simp only [Array.getD_eq_getD_getElem?] at p1
        have p3 : a'.tmps.getD 108 undef = .string fx.number := hpre ⟨3, .data⟩ (by simp) 108 rfl
        simp only [Array.getD_eq_getD_getElem?] at p3
        go_simp
        exact hK _ _ (congrArg Value.string HZ4.out) (Below.refl _ _)
      · obtain rfl := Option.some.inj ho
        have p4 : a'.tmps.getD 109 undef = .string Z4 := hpre ⟨4, .data⟩ (by simp) 109 rfl
        simp only [Array.getD_eq_getD_getElem?] at p4
        go_simp
        exact hK _ _ (congrArg Value.string HZ5.out) (Below.refl _ _)
      · obtain rfl := Option.some.inj ho
        have e11 : a'.tmps[11]? = some (.pointer (some ⟨bx, 0, none⟩)) := hout 11 (by decide)
        go_simp
        exact hK (.pointer (some ⟨bx, 1, none⟩)) w' rfl (Below.refl _ _)
      · obtain rfl := Option.some.inj ho
        have p6 : a'.tmps.getD 111 undef = .pointer (some ⟨bx, 1, none⟩) := hpre ⟨6, .data⟩ (by simp) 111 rfl
        simp only [Array.getD_eq_getD_getElem?] at p6
        have c7 := cell_kept z1 hb'
        go_simp
        exact hK (.string fx.src) w' rfl (Below.refl _ _)
      · obtain rfl := Option.some.inj ho
        have p5 : a'.tmps.getD 110 undef = .string Z5 := hpre ⟨5, .data⟩ (by simp) 110 rfl
        simp only [Array.getD_eq_getD_getElem?] at p5
        have p7 : a'.tmps.getD 112 undef = .string fx.src := hpre ⟨7, .data⟩ (by simp) 112 rfl
        simp only [Array.getD_eq_getD_getElem?] at p7
        go_simp
        exact hK _ _ (congrArg Value.string HZ8.out) (Below.refl _ _)
      · obtain rfl := Option.some.inj ho
        have p8 : a'.tmps.getD 113 undef = .string Z8 := hpre ⟨8, .data⟩ (by simp) 113 rfl
        simp only [Array.getD_eq_getD_getElem?] at p8
        go_simp
        exact hK _ _ (congrArg Value.string HZ9.out) (Below.refl _ _)
      · obtain rfl := Option.some.inj ho
        have e11 : a'.tmps[11]? = some (.pointer (some ⟨bx, 0, none⟩)) := hout 11 (by decide)
        go_simp
        exact hK (.pointer (some ⟨bx, 2, none⟩)) w' rfl (Below.refl _ _)
      · obtain rfl := Option.some.inj ho
        have p10 : a'.tmps.getD 115 undef = .pointer (some ⟨bx, 2, none⟩) := hpre ⟨10, .data⟩ (by simp) 115 rfl
        simp only [Array.getD_eq_getD_getElem?] at p10
        have c11 := cell_kept z2 hb'
        go_simp
        exact hK (.string fx.dst) w' rfl (Below.refl _ _)
      · obtain rfl := Option.some.inj ho
        have p9 : a'.tmps.getD 114 undef = .string Z9 := hpre ⟨9, .data⟩ (by simp) 114 rfl
        simp only [Array.getD_eq_getD_getElem?] at p9
        have p11 : a'.tmps.getD 116 undef = .string fx.dst := hpre ⟨11, .data⟩ (by simp) 116 rfl
        simp only [Array.getD_eq_getD_getElem?] at p11
        go_simp
        exact hK _ _ (congrArg Value.string HZ12.out) (Below.refl _ _)
      · obtain rfl := Option.some.inj ho
        have p12 : a'.tmps.getD 117 undef = .string Z12 := hpre ⟨12, .data⟩ (by simp) 117 rfl
        simp only [Array.getD_eq_getD_getElem?] at p12
        go_simp
        exact hK _ _ (congrArg Value.string HZ13.out) (Below.refl _ _)
      · obtain rfl := Option.some.inj ho
        have e11 : a'.tmps[11]? = some (.pointer (some ⟨bx, 0, none⟩)) := hout 11 (by decide)
        go_simp
        exact hK (.pointer (some ⟨bx, 5, none⟩)) w' rfl (Below.refl _ _)
      · obtain rfl := Option.some.inj ho
        have p14 : a'.tmps.getD 119 undef = .pointer (some ⟨bx, 5, none⟩) := hpre ⟨14, .data⟩ (by simp) 119 rfl
        simp only [Array.getD_eq_getD_getElem?] at p14
        have c15 := cell_kept z5 hb'
        go_simp
        exact hK (.string fx.kind) w' rfl (Below.refl _ _)
      · obtain rfl := Option.some.inj ho
        have p13 : a'.tmps.getD 118 undef = .string Z13 := hpre ⟨13, .data⟩ (by simp) 118 rfl
        simp only [Array.getD_eq_getD_getElem?] at p13
        have p15 : a'.tmps.getD 120 undef = .string fx.kind := hpre ⟨15, .data⟩ (by simp) 120 rfl
        simp only [Array.getD_eq_getD_getElem?] at p15
        go_simp
        exact hK _ _ (congrArg Value.string HZ16.out) (Below.refl _ _)
      · obtain rfl := Option.some.inj ho
        have p16 : a'.tmps.getD 121 undef = .string Z16 := hpre ⟨16, .data⟩ (by simp) 121 rfl
        simp only [Array.getD_eq_getD_getElem?] at p16
        go_simp
        exact hK _ _ (congrArg Value.string HZ17.out) (Below.refl _ _)
      · obtain rfl := Option.some.inj ho
        have e11 : a'.tmps[11]? = some (.pointer (some ⟨bx, 0, none⟩)) := hout 11 (by decide)
        go_simp
        exact hK (.pointer (some ⟨bx, 3, none⟩)) w' rfl (Below.refl _ _)
      · obtain rfl := Option.some.inj ho
        have p18 : a'.tmps.getD 123 undef = .pointer (some ⟨bx, 3, none⟩) := hpre ⟨18, .data⟩ (by simp) 123 rfl
        simp only [Array.getD_eq_getD_getElem?] at p18
        have c19 := cell_kept z3 hb'
        go_simp
        exact hK (.int .i64 fx.dep) w' rfl (Below.refl _ _)
      · obtain rfl := Option.some.inj ho
        have p19 : a'.tmps.getD 124 undef = .int .i64 fx.dep := hpre ⟨19, .data⟩ (by simp) 124 rfl
        simp only [Array.getD_eq_getD_getElem?] at p19
        go_simp
        go_at_call 29
        refine (HI1.out w' (HBR.out.trans (hb'.mono HBR.out.size))).mono ?_
        rintro e w'' ⟨rfl, hb''⟩
        exact hK _ _ rfl hb''
      · obtain rfl := Option.some.inj ho
        have p17 : a'.tmps.getD 122 undef = .string Z17 := hpre ⟨17, .data⟩ (by simp) 122 rfl
        simp only [Array.getD_eq_getD_getElem?] at p17
        have p20 : a'.tmps.getD 125 undef = .string iS := hpre ⟨20, .data⟩ (by simp) 125 rfl
        simp only [Array.getD_eq_getD_getElem?] at p20
        go_simp
        exact hK _ _ (congrArg Value.string HZ21.out) (Below.refl _ _)
      · obtain rfl := Option.some.inj ho
        have p21 : a'.tmps.getD 126 undef = .string Z21 := hpre ⟨21, .data⟩ (by simp) 126 rfl
        simp only [Array.getD_eq_getD_getElem?] at p21
        go_simp
        exact hK _ _ (congrArg Value.string HZ22.out) (Below.refl _ _)
      · obtain rfl := Option.some.inj ho
        have e11 : a'.tmps[11]? = some (.pointer (some ⟨bx, 0, none⟩)) := hout 11 (by decide)
        go_simp
        exact hK (.pointer (some ⟨bx, 4, none⟩)) w' rfl (Below.refl _ _)
      · obtain rfl := Option.some.inj ho
        have p23 : a'.tmps.getD 128 undef = .pointer (some ⟨bx, 4, none⟩) := hpre ⟨23, .data⟩ (by simp) 128 rfl
        simp only [Array.getD_eq_getD_getElem?] at p23
        have c24 := cell_kept z4 hb'
        go_simp
        exact hK (.int .i64 fx.arr) w' rfl (Below.refl _ _)
      · obtain rfl := Option.some.inj ho
        have p24 : a'.tmps.getD 129 undef = .int .i64 fx.arr := hpre ⟨24, .data⟩ (by simp) 129 rfl
        simp only [Array.getD_eq_getD_getElem?] at p24
        go_simp
        go_at_call 29
        refine (HI2.out w' (HBR.out.trans (hb'.mono HBR.out.size))).mono ?_
        rintro e w'' ⟨rfl, hb''⟩
        exact hK _ _ rfl hb''
      · obtain rfl := Option.some.inj ho
        have p22 : a'.tmps.getD 127 undef = .string Z22 := hpre ⟨22, .data⟩ (by simp) 127 rfl
        simp only [Array.getD_eq_getD_getElem?] at p22
        have p25 : a'.tmps.getD 130 undef = .string jS := hpre ⟨25, .data⟩ (by simp) 130 rfl
        simp only [Array.getD_eq_getD_getElem?] at p25
        go_simp
        exact hK _ _ (congrArg Value.string HZ26.out) (Below.refl _ _)
    · intro us w' hb' hfacts
      have h26 : us 26 = .string Z26 := hfacts 26 (by decide)
      simp only [putL, Act.put, List.setIfInBounds_toArray, List.set_cons_zero, List.set_cons_succ, Nat.zero_add, Nat.reduceAdd]
      generalize us 26 = x26 at *
      subst h26
      simp only [List.drop_succ_cons, List.drop_zero]
      clear hfacts
      have HX7 : Hid (w'.heap[bx]? = some (.cells #[.string fx.number, .string fx.src, .string fx.dst, .int .i64 fx.dep, .int .i64 fx.arr, .string fx.kind, .int .i64 fx.n0, .int .i64 fx.n1, .int .i64 fx.n2] 47 (0, 0))) := (hb'.block bx hxlt).trans HXA.out
      have HF7 : Hid (Below w1.heap.size w1 w') := HFA.out.trans (hb'.mono HFA.out.size)
      have HE : Hid (Z26.data.toList = pre ++ lineT [fliS, fx.number, fx.src, fx.dst, fx.kind] ++ restT [insD fx.dep, insC fx.dep, insD fx.arr, insC fx.arr]) := by
        show _ = _
        rw [← HALL.out, fliR_eq, HIE.out, HS.out]
      have hl7 : (pre ++ lineT [fliS, fx.number, fx.src, fx.dst, fx.kind] ++ restT [insD fx.dep, insC fx.dep, insD fx.arr, insC fx.arr]).length ≤ 62500 := by simp only [List.length_append]; omega
      generalize pre ++ lineT [fliS, fx.number, fx.src, fx.dst, fx.kind] ++ restT [insD fx.dep, insC fx.dep, insD fx.arr, insC fx.arr] = pre9 at *
      clear hb' HALL HIE HI1 HI2 HFA HXA HBR HS HWR z0 z1 z2 z3 z4 z5 hhu hfu uZ1 vZ1 HZ1 uZ4 vZ4 HZ4 uZ5 vZ5 HZ5 uZ8 vZ8 HZ8 uZ9 vZ9 HZ9 uZ12 vZ12 HZ12 uZ13 vZ13 HZ13 uZ16 vZ16 HZ16 uZ17 vZ17 HZ17 uZ21 vZ21 HZ21 uZ22 vZ22 HZ22 uZ26 vZ26 HZ26
      generalize Z26 = s7 at *
      go_wp2_with fail
      go_loopw [5, 12] (fun s i wq => ∃ (j : Nat) (sv : ByteArray), j ≤ 3 ∧ i = .int .i64 j ∧ s = .string sv ∧ Hid (sv.data.toList = pre9 ++ restT ((nS fx).take j)) ∧ Hid (Below w1.heap.size w1 wq) ∧ Hid (wq.heap[bx]? = some (.cells #[.string fx.number, .string fx.src, .string fx.dst, .int .i64 fx.dep, .int .i64 fx.arr, .string fx.kind, .int .i64 fx.n0, .int .i64 fx.n1, .int .i64 fx.n2] 47 (0, 0)))) (fun _ i _ => 3 - (intOf i).toNat)
      case atStart => exact ⟨0, s7, Nat.zero_le _, rfl, rfl, Lib.hid (by simpa [restT] using HE.out), HF7, HX7⟩
      case round =>
        clear HE HF7 HX7
        obtain ⟨j, s, hj, rfl, rfl, HS, HWQ, HX⟩ := hrel
        have hlen2 : (pre9 ++ restT ((nS fx).take j)).length ≤ 63000 := by
          have := nS_up HFG.out j
          rw [List.length_append]
          omega
        have hsz : s.size ≤ (pre9 ++ restT ((nS fx).take j)).length := by rw [Lib.size_eq, HS.out]; exact Nat.le_refl _
        by_cases hlt2 : j < 3
        · have hj3 : (j : Int) < 3 := by omega
          have hc6 : wr.cell? ⟨bx, 6 + j, none⟩ = some (.int .i64 (need_at fx j)) := by
            have : j = 0 ∨ j = 1 ∨ j = 2 := by omega
            rcases this with rfl | rfl | rfl
            · exact block_cell HX.out 6
            · exact block_cell HX.out 7
            · exact block_cell HX.out 8
          have hno := need_ok HFG.out j
          have hne := need_le hno
          have HNI : Hid (Calls Tryz.prog 30 #[.int .i64 (need_at fx j)] wr (StrB (numS (need_at fx j)) wr)) := formatIntR_any (need_at fx j) wr (by omega) (by omega) (HPW.out wr (HBW.out.trans (HWQ.out.mono hsw)))
          have HSN2 : Hid (pre9 ++ restT ((nS fx).take (j + 1)) = pre9 ++ restT ((nS fx).take j) ++ restT [numS (need_at fx j)]) := by
            show _ = _
            rw [nS_snoc fx hlt2, List.append_assoc]
          generalize need_at fx j = nd at *
          generalize pre9 ++ restT ((nS fx).take j) = pre10 at *
          generalize numS nd = ns at *
          unfold StrB at HNI
          have hbx3 : bx < wr.heap.size := (Array.getElem?_eq_some_iff.1 HX.out).1
          have vN : ¬ 9223372036854775807 < s.size + 1 := by omega
          have vM : ¬ 9223372036854775807 < (s ++ (⟨#[32]⟩ : ByteArray)).size + ns.size := by rw [ByteArray.size_append, sz1]; omega
          have vM2 : ¬ 9223372036854775807 < s.size + 1 + ns.size := by omega
          have HE : Hid ((s ++ (⟨#[32]⟩ : ByteArray) ++ ns).data.toList = pre9 ++ restT ((nS fx).take (j + 1))) := by
            show _ = _
            rw [nmbR_eq, HS.out, HSN2.out]
          clear HS HSN2 hno
          as_aux_lemma =>
            go_wp2_with fail
            refine HNI.out.mono ?_
            rintro e w6 ⟨rfl, hb6⟩
            have HF9 : Hid (Below w1.heap.size w1 w6) := HWQ.out.trans (hb6.mono HWQ.out.size)
            have HX9 : Hid (w6.heap[bx]? = some (.cells #[.string fx.number, .string fx.src, .string fx.dst, .int .i64 fx.dep, .int .i64 fx.arr, .string fx.kind, .int .i64 fx.n0, .int .i64 fx.n1, .int .i64 fx.n2] 47 (0, 0))) := (hb6.block bx hbx3).trans HX.out
            clear hb6 hc6 HNI HX HWQ
            go_wp2_with fail
            go_roundw
            case rel => exact ⟨j + 1, _, by omega, by go_num, rfl, HE, HF9, HX9⟩
            case measure => simp [intOf]; omega
        · have hj3 : ¬ (j : Int) < 3 := by omega
          rw [show (nS fx).take j = nS fx from List.take_of_length_le (by show 3 ≤ j; omega)] at HS hlen2 hsz
          have vN : ¬ 9223372036854775807 < s.size + 1 := by omega
          have HE : Hid ((s ++ (⟨#[10]⟩ : ByteArray)).data.toList = fL t (k + 1)) := by
            show _ = _
            rw [dataApp, HS.out, nl_eq, HSN.out]
          clear HS HSN
          as_aux_lemma =>
            go_wp2_with fail
            go_roundw
            case rel => exact ⟨k + 1, _, by omega, by go_num, rfl, HE, HWQ⟩
            case measure => simp [intOf]; omega
  have hse : s = ttS t := by
    have h9 := HS.out
    rw [show k = t.flights.length by omega, fL_all] at h9
    exact ext_bs h9
  have HBE : Hid (Below w.heap.size w wr) := HBW.out.trans (HWR.out.mono hsw)
  by_cases hbig : 20000 < s.size
  · have hbig' : ((20000 : Int) < (s.size : Nat)) := by omega
    have HE : Hid (R = (emS, 10)) := by show _ = _; rw [← HR.out, if_pos (by rw [← hse]; exact hbig)]
    clear hse hsz
    go_wp2_with fail
    go_ret2
    exact ⟨by rw [HE.out]; rfl, HBE.out⟩
  · have hbig' : ¬ ((20000 : Int) < (s.size : Nat)) := by omega
    have HE : Hid (R = (s, 0)) := by show _ = _; rw [← HR.out, if_neg (by rw [← hse]; exact hbig), hse]
    clear hse hsz
    go_wp2_with fail
    go_ret2
    exact ⟨by rw [HE.out]; rfl, HBE.out⟩
set_option maxRecDepth 100000 in
theorem ttFormatR_any (t : GTT) (A1 A2 A3 : Option Addr) (n1 n2 n3 c1 c2 c3 : Nat) (w : World) (ht : t.ok) (hs1 : Sl Ty.zone w (all_ w) A1 n1 c1 t.zones) (hs2 : Sl Ty.airport w (all_ w) A2 n2 c2 t.airports) (hs3 : Sl Ty.flight w (all_ w) A3 n3 c3 t.flights) (hp : Pow10 w) :
    Calls Tryz.prog 10 #[.agg #[.slice A1 n1 c1, .slice A2 n2 c2, .slice A3 n3 c3]] w (FmtPost (fmtT t) w) := by
  by_cases hv : ttE t = 0
  · unfold fmtT
    rw [if_neg (by simpa using hv)]
    exact ttFormatR_ok t A1 A2 A3 n1 n2 n3 c1 c2 c3 w ht hv hs1 hs2 hs3 hp
  · unfold fmtT
    rw [if_pos hv]
    have ha : ∀ o, Below w.heap.size w (w.alloc o) := fun o => (Below.refl _ _).alloc (Nat.le_refl _) _
    have HV : Hid (∀ o, Calls Tryz.prog 26 #[.agg #[.slice A1 n1 c1, .slice A2 n2 c2, .slice A3 n3 c3]] (w.alloc o) (ErrPost (ttE t) (w.alloc o))) := fun o => validateR_any t A1 A2 A3 n1 n2 n3 c1 c2 c3 (w.alloc o) ht (hs1.next (ha o)) (hs2.next (ha o)) (hs3.next (ha o))
    have HB0 := Lib.hid (ha (.cells #[.slice A1 n1 c1, .slice A2 n2 c2, .slice A3 n3 c3] 27))
    generalize ttE t = er at *
    have hv' : (er == 0) = false := by simpa using hv
    clear ha hs1 hs2 hs3 ht hp
    go_enter Tryz.func10, Tryz.ntmps10
    go_wp2_with fail
    refine (HV.out _).mono ?_
    rintro e w1 ⟨rfl, hb1⟩
    have HB1 : Hid (Below w.heap.size w w1) := HB0.out.trans (hb1.mono HB0.out.size)
    clear hb1 HB0 HV
    go_wp2_with fail
    go_ret2
    exact ⟨rfl, HB1.out⟩
end Go.Proofs.YtldeoaddogifpaaGreatDoor
/-
  The plain function of pairingbase.Timetable.
  No condition.
-/
namespace Go.Proofs.YtldeoaddogifpaaGreatDoor
set_option linter.unusedSimpArgs false
set_option linter.unusedVariables false
open Go

def baseGaps : List Int := [30, 45, 45, 60, 90, 150, 600, 780]
def baseTypes : List ByteArray := [⟨#[97, 51, 50, 48]⟩, ⟨#[98, 55, 51, 55]⟩, ⟨#[101, 49, 57, 48]⟩]
def noStr : ByteArray := ⟨#[]⟩
def bAt (n cur : Int) : Int := if n % 7 = 6 then 0 else cur
def bTo (n cur : Int) : Int := if cur = 0 then 1 + n / 8 % 2 else if n % 11 = 10 then 3 - cur else 0
def bDep (n clock : Int) : Int := clock + baseGaps.getD (n / 16 % 8).toNat 0
def bArr (n dep : Int) : Int := dep + 60 + 15 * (n / 128 % 6)
def bKind (n : Int) : ByteArray := baseTypes.getD (n / 1024 % 3).toNat noStr
def bNum (i : Nat) : ByteArray := ⟨#[70, UInt8.ofNat (48 + i)]⟩
def bCode (k : Int) : ByteArray := baseCodes.getD k.toNat noStr
def bFlight (n cur clock : Int) (i : Nat) : GFlight := ⟨bNum i, bCode (bAt n cur), bCode (bTo n (bAt n cur)), bDep n clock, bArr n (bDep n clock), bKind n, 1, 1, 2⟩
def bClock (n clock : Int) : Int := if n % 5 = 4 then bDep n clock + 20 else bArr n (bDep n clock)
/-- Where, when, and the flights so far. -/
def bSt (l : List Int) : Nat → Int × Int × List GFlight
  | 0 => (0, 1440000 + 15 * (atL l 0 % 96), [])
  | i + 1 => (bTo (atL l (2 + i)) (bAt (atL l (2 + i)) (bSt l i).1), bClock (atL l (2 + i)) (bSt l i).2.1, (bSt l i).2.2 ++ [bFlight (atL l (2 + i)) (bSt l i).1 (bSt l i).2.1 i])
def bCount (l : List Int) : Nat := (2 + atL l 1 % 6).toNat
def baseTT (l : List Int) : GTT := ⟨baseZones, baseAirports, (bSt l (bCount l)).2.2⟩
theorem bCount_range (l : List Int) : 2 ≤ bCount l ∧ bCount l ≤ 7 := by unfold bCount; omega
theorem gaps_range (k : Nat) (h : k < 8) : 30 ≤ baseGaps.getD k 0 ∧ baseGaps.getD k 0 ≤ 780 := by
  have : ∀ k : Nat, k < 8 → 30 ≤ baseGaps.getD k 0 ∧ baseGaps.getD k 0 ≤ 780 := by decide
  exact this k h
theorem bDep_range (n clock : Int) : clock + 30 ≤ bDep n clock ∧ bDep n clock ≤ clock + 780 := by
  unfold bDep
  have := gaps_range (n / 16 % 8).toNat (by omega)
  omega
theorem bArr_range (n dep : Int) : dep + 60 ≤ bArr n dep ∧ bArr n dep ≤ dep + 135 := by unfold bArr; omega
theorem bAt_range {n cur : Int} (h : 0 ≤ cur ∧ cur ≤ 2) : 0 ≤ bAt n cur ∧ bAt n cur ≤ 2 := by unfold bAt; split <;> omega
theorem bTo_range {n cur : Int} (h : 0 ≤ cur ∧ cur ≤ 2) : 0 ≤ bTo n cur ∧ bTo n cur ≤ 2 := by unfold bTo; split <;> (try split) <;> omega
theorem bClock_range (n clock : Int) : clock + 50 ≤ bClock n clock ∧ bClock n clock ≤ clock + 915 := by
  have h1 := bDep_range n clock
  have h2 := bArr_range n (bDep n clock)
  unfold bClock
  split <;> omega
theorem bSt_range (l : List Int) : ∀ i, (0 ≤ (bSt l i).1 ∧ (bSt l i).1 ≤ 2) ∧ 1440000 ≤ (bSt l i).2.1 ∧ (bSt l i).2.1 ≤ 1441425 + 915 * i ∧ (bSt l i).2.2.length = i
  | 0 => by simp only [bSt]; simp; omega
  | i + 1 => by
    have h := bSt_range l i
    simp only [bSt]
    have h1 := bTo_range (n := atL l (2 + i)) (bAt_range (n := atL l (2 + i)) h.1)
    have h2 := bClock_range (atL l (2 + i)) (bSt l i).2.1
    refine ⟨h1, by omega, by omega, ?_⟩
    rw [List.length_append, h.2.2.2]
    rfl
end Go.Proofs.YtldeoaddogifpaaGreatDoor
/-
  The built timetable is valid.
  No condition.
-/
namespace Go.Proofs.YtldeoaddogifpaaGreatDoor
set_option linter.unusedSimpArgs false
set_option linter.unusedVariables false
open Go

theorem bSt_get (l : List Int) : ∀ (n i : Nat), i < n → (bSt l n).2.2.getD i noFlight = bFlight (atL l (2 + i)) (bSt l i).1 (bSt l i).2.1 i
  | 0, i, h => absurd h (by omega)
  | n + 1, i, h => by
    have hlen := (bSt_range l n).2.2.2
    have e : (bSt l (n + 1)).2.2 = (bSt l n).2.2 ++ [bFlight (atL l (2 + n)) (bSt l n).1 (bSt l n).2.1 n] := rfl
    rw [e, List.getD_eq_getElem?_getD]
    rcases Nat.lt_or_eq_of_le (Nat.le_of_lt_succ h) with h1 | rfl
    · rw [List.getElem?_append_left (by omega), ← List.getD_eq_getElem?_getD]
      exact bSt_get l n i h1
    · rw [List.getElem?_append_right (by omega), hlen]
      simp
theorem bTo_ne {n cur : Int} (h : 0 ≤ cur ∧ cur ≤ 2) : bTo n cur ≠ cur := by unfold bTo; split <;> (try split) <;> omega
theorem code_cases {k : Int} (h : 0 ≤ k ∧ k ≤ 2) : k = 0 ∨ k = 1 ∨ k = 2 := by omega
theorem bCode_has {k : Int} (h : 0 ≤ k ∧ k ≤ 2) : hasB (aCodes baseAirports) (bCode k) = true := by
  rcases code_cases h with rfl | rfl | rfl <;> decide +kernel
theorem bCode_ne {j k : Int} (hj : 0 ≤ j ∧ j ≤ 2) (hk : 0 ≤ k ∧ k ≤ 2) (h : j ≠ k) : bCode j ≠ bCode k := by
  rcases code_cases hj with rfl | rfl | rfl <;> rcases code_cases hk with rfl | rfl | rfl <;> first | exact absurd rfl h | decide +kernel
theorem bNum_code : ∀ i : Nat, i < 7 → isCodeB (bNum i) = true := by
  intro i hi
  have : i = 0 ∨ i = 1 ∨ i = 2 ∨ i = 3 ∨ i = 4 ∨ i = 5 ∨ i = 6 := by omega
  rcases this with rfl | rfl | rfl | rfl | rfl | rfl | rfl <;> decide +kernel
theorem bKind_name {n : Int} : isNameB (bKind n) = true := by
  unfold bKind
  have h : (n / 1024 % 3).toNat = 0 ∨ (n / 1024 % 3).toNat = 1 ∨ (n / 1024 % 3).toNat = 2 := by omega
  rcases h with h | h | h <;> rw [h] <;> decide +kernel
theorem base_flight (l : List Int) (i : Nat) (hi : i < 7) : flightE (aCodes baseAirports) (bFlight (atL l (2 + i)) (bSt l i).1 (bSt l i).2.1 i) = 0 := by
  obtain ⟨hc, h1, h2, _⟩ := bSt_range l i
  generalize (bSt l i).1 = cur at *
  generalize (bSt l i).2.1 = clock at *
  generalize atL l (2 + i) = n at *
  have ha := bAt_range (n := n) hc
  have hb := bTo_range (n := n) ha
  have hne := bCode_ne ha hb (fun e => bTo_ne ha e.symm)
  have hd := bDep_range n clock
  have hr := bArr_range n (bDep n clock)
  unfold flightE bFlight
  simp only
  rw [if_neg (by rw [bNum_code i hi, bKind_name]; simp), if_neg (by rw [bCode_has ha, bCode_has hb]; simp), if_neg hne, if_neg (by omega), if_neg (by decide)]
theorem bClock_le (n clock : Int) : bDep n clock + 20 ≤ bClock n clock := by
  have h2 := bArr_range n (bDep n clock)
  unfold bClock
  split <;> omega
theorem base_order (l : List Int) (i : Nat) : (bFlight (atL l (2 + i)) (bSt l i).1 (bSt l i).2.1 i).dep < (bFlight (atL l (2 + (i + 1))) (bSt l (i + 1)).1 (bSt l (i + 1)).2.1 (i + 1)).dep := by
  have e : (bSt l (i + 1)).2.1 = bClock (atL l (2 + i)) (bSt l i).2.1 := rfl
  have h1 := bClock_le (atL l (2 + i)) (bSt l i).2.1
  have h2 := bDep_range (atL l (2 + (i + 1))) (bSt l (i + 1)).2.1
  show bDep _ _ < bDep _ _
  rw [e] at h2 ⊢
  omega
theorem base_valid (l : List Int) : (baseTT l).valid := by
  have hc := bCount_range l
  have hlen := (bSt_range l (bCount l)).2.2.2
  refine ⟨by show baseZones.length ≤ 16; decide, by show baseAirports.length ≤ 64; decide, ?_, ?_, ?_, fun i hi => ?_⟩
  · show (bSt l (bCount l)).2.2.length ≤ 200
    omega
  · have : ∀ j : Nat, j < 3 → zErr baseZones j = 0 := by decide +kernel
    exact this
  · have : ∀ j : Nat, j < 3 → aErr baseZones baseAirports j = 0 := by decide +kernel
    exact this
  · have hi' : i < bCount l := by
      have : i < (bSt l (bCount l)).2.2.length := hi
      omega
    unfold fErr
    have g : (baseTT l).flights.getD i noFlight = _ := bSt_get l (bCount l) i hi'
    rw [g]
    have hz := base_flight l i (by omega)
    have hz' : flightE (aCodes (baseTT l).airports) (bFlight (atL l (2 + i)) (bSt l i).1 (bSt l i).2.1 i) = 0 := hz
    rw [if_neg (by rw [hz']; simp), if_neg ?_]
    rintro ⟨h0, h1⟩
    obtain ⟨j, rfl⟩ : ∃ j, i = j + 1 := ⟨i - 1, by omega⟩
    have g2 : (baseTT l).flights.getD j noFlight = _ := bSt_get l (bCount l) j (by omega)
    rw [Nat.add_sub_cancel, g2] at h1
    have ho := base_order l j
    unfold beforeB at h1
    rw [if_neg (by omega)] at h1
    simp at h1
    omega
theorem base_len (l : List Int) : 2 ≤ (baseTT l).flights.length ∧ (baseTT l).flights.length ≤ 7 := by
  have hc := bCount_range l
  have hlen : (baseTT l).flights.length = bCount l := (bSt_range l (bCount l)).2.2.2
  omega
end Go.Proofs.YtldeoaddogifpaaGreatDoor
