/-
  Contract of the reference's flight (package pairingref9): the error of one flight of a timetable.
  Condition: the timetable's data are well formed; the index is one of a flight.
-/
import Derived.Test.YtldeoaddogifpaaGreatDoorIndexRef
import Derived.Test.YtldeoaddogifpaaGreatDoorFlight
import Derived.Sort.Walk0
import Derived.Deep.RegionWith
namespace Go.Proofs.YtldeoaddogifpaaGreatDoor
set_option linter.unusedSimpArgs false
set_option linter.unusedVariables false
open Go.RowKit

theorem getD_mem0 {α : Type} {l : List α} {k : Nat} (h : k < l.length) (d : α) : l.getD k d ∈ l := by
  rw [List.getD_eq_getElem?_getD, List.getElem?_eq_getElem h]
  exact List.getElem_mem h
theorem bytesLess_total (a b : List UInt8) : Op.bytesLess a b = false ↔ Op.bytesLess b a = true ∨ b = a := by
  induction a generalizing b with
  | nil => cases b <;> simp [Op.bytesLess]
  | cons x a ih =>
    cases b with
    | nil => simp [Op.bytesLess]
    | cons y b =>
      simp only [Op.bytesLess, Bool.or_eq_false_iff, decide_eq_false_iff_not, Bool.and_eq_false_iff, beq_eq_false_iff_ne, Bool.or_eq_true, decide_eq_true_eq, Bool.and_eq_true, beq_iff_eq, List.cons.injEq]
      have ih' := ih b
      by_cases hxy : x = y
      · subst hxy
        simp only [UInt8.lt_irrefl, not_false_eq_true, true_and, ne_eq, not_true_eq_false, false_or]
        exact ih'
      · have h1 : x < y ∨ y < x := by
          rcases Nat.lt_trichotomy x.toNat y.toNat with h | h | h
          · left; exact h
          · exact absurd (UInt8.toNat.inj h) hxy
          · right; exact h
        have h2 : ¬ (x < y ∧ y < x) := by
          rintro ⟨h, h'⟩
          have a1 : x.toNat < y.toNat := h
          have a2 : y.toNat < x.toNat := h'
          omega
        constructor
        · rintro ⟨h3, _⟩
          left; left
          rcases h1 with h1 | h1
          · exact absurd h1 h3
          · exact h1
        · rintro ((h3 | ⟨h3, _⟩) | ⟨h3, _⟩)
          · exact ⟨fun h4 => h2 ⟨h4, h3⟩, .inl hxy⟩
          · exact absurd h3.symm hxy
          · exact absurd h3.symm hxy
/-- The order's flaw as the reference asks it. -/
theorem before_ref (g f : GFlight) : beforeB g f = false ↔ f.dep < g.dep ∨ (f.dep = g.dep ∧ (Op.bytesLess f.number.toList g.number.toList = true ∨ f.number.toList = g.number.toList)) := by
  unfold beforeB
  by_cases h : g.dep = f.dep
  · rw [if_pos h, bytesLess_total]
    constructor
    · intro h1; exact .inr ⟨h.symm, h1⟩
    · rintro (h1 | ⟨_, h1⟩)
      · omega
      · exact h1
  · rw [if_neg h, decide_eq_false_iff_not]
    constructor
    · intro h1; left; omega
    · rintro (h1 | ⟨h1, _⟩) <;> omega

set_option maxRecDepth 100000 in
set_option maxHeartbeats 3200000 in
theorem flightR_any (t : GTT) (i : Nat) (A1 A2 A3 : Option Addr) (n1 n2 n3 c1 c2 c3 : Nat) (w : World) (ht : t.ok) (hs2 : Sl Ty.airport w (all_ w) A2 n2 c2 t.airports) (hs3 : Sl Ty.flight w (all_ w) A3 n3 c3 t.flights) (hi : i < n3) :
    Calls Tryz.prog 67 #[.agg #[.slice A1 n1 c1, .slice A2 n2 c2, .slice A3 n3 c3], .int .i64 i] w (ErrPost (fErr (aCodes t.airports) t.flights i) w) := by
  have e3 := hs3.len
  have m3 := hs3.le
  unfold maxLen at m3
  obtain ⟨b, o, rfl, hbS, hat⟩ := hs3.flight_at (k := i) (by omega)
  have hfok := ht.2.2 _ (getD_mem0 (show i < t.flights.length by omega) noFlight)
  have HERR : Hid (fErr (aCodes t.airports) t.flights i = if flightE (aCodes t.airports) (t.flights.getD i noFlight) ≠ 0 then flightE (aCodes t.airports) (t.flights.getD i noFlight) else if 0 < i ∧ beforeB (t.flights.getD (i - 1) noFlight) (t.flights.getD i noFlight) = false then 8 else 0) := rfl
  have hb0 : ∀ o1, Below w.heap.size w (w.alloc o1) := fun o1 => (Below.refl _ _).alloc (Nat.le_refl _) _
  have hb1 : ∀ o1 o2, Below w.heap.size w ((w.alloc o1).alloc o2) := fun o1 o2 => (hb0 o1).alloc (by simp) _
  have HS2 : Hid (∀ o1 o2, Sl Ty.airport ((w.alloc o1).alloc o2) (all_ ((w.alloc o1).alloc o2)) A2 n2 c2 t.airports) := fun o1 o2 => hs2.next (hb1 o1 o2)
  generalize hz : t.flights.getD i noFlight = f at *
  obtain ⟨q1, q2, q3, q4, ⟨d1, d2⟩, ⟨a1, a2⟩, x0, x1, x2⟩ := hfok
  have y0 : w.cell? ⟨b, o + i * 9, none⟩ = some (.string f.number) := hat 0 _ rfl
  have y1 := hat 1 _ rfl; have y2 := hat 2 _ rfl; have y3 := hat 3 _ rfl; have y4 := hat 4 _ rfl; have y5 := hat 5 _ rfl; have y6 := hat 6 _ rfl; have y7 := hat 7 _ rfl; have y8 := hat 8 _ rfl
  have hbl : b < w.heap.size := hbS
  have hbne : b ≠ w.heap.size := by omega
  have Q1 := Lib.hid q1; have Q4 := Lib.hid q4; have HB1 := Lib.hid hb1
  clear q1 q2 q3 q4 x0 x1 x2 hz hat e3 hb0 hb1
  go_enter Tryz.func67, Tryz.ntmps67
  have hsl3 := hs3.next ((Below.refl _ _).alloc (Nat.le_refl _) (.cells #[.slice A1 n1 c1, .slice A2 n2 c2, .slice (some ⟨b, o, none⟩) n3 c3] 27))
  have hz1 : ∀ j, ((w.alloc (.cells #[.slice A1 n1 c1, .slice A2 n2 c2, .slice (some ⟨b, o, none⟩) n3 c3] 27)).alloc (.cells #[.string f.number, .string f.src, .string f.dst, .int .i64 f.dep, .int .i64 f.arr, .string f.kind, .int .i64 f.n0, .int .i64 f.n1, .int .i64 f.n2] 47)).cell? ⟨w.heap.size + 1, j, none⟩ = (#[.string f.number, .string f.src, .string f.dst, .int .i64 f.dep, .int .i64 f.arr, .string f.kind, .int .i64 f.n0, .int .i64 f.n1, .int .i64 f.n2] : Array Value)[j]? := fun j => by rw [World.cell?_alloc_at _ _ _ _ (by simp)]
  have hz2 : ((w.alloc (.cells #[.slice A1 n1 c1, .slice A2 n2 c2, .slice (some ⟨b, o, none⟩) n3 c3] 27)).alloc (.cells #[.string f.number, .string f.src, .string f.dst, .int .i64 f.dep, .int .i64 f.arr, .string f.kind, .int .i64 f.n0, .int .i64 f.n1, .int .i64 f.n2] 47)).cell? ⟨w.heap.size, 1, none⟩ = some (.slice A2 n2 c2) := by rw [World.cell?_alloc_past _ _ _ (by simp), World.cell?_alloc_at _ _ _ _ rfl]; rfl
  have hz3 : ((w.alloc (.cells #[.slice A1 n1 c1, .slice A2 n2 c2, .slice (some ⟨b, o, none⟩) n3 c3] 27)).alloc (.cells #[.string f.number, .string f.src, .string f.dst, .int .i64 f.dep, .int .i64 f.arr, .string f.kind, .int .i64 f.n0, .int .i64 f.n1, .int .i64 f.n2] 47)).cell? ⟨w.heap.size, 2, none⟩ = some (.slice (some ⟨b, o, none⟩) n3 c3) := by rw [World.cell?_alloc_past _ _ _ (by simp), World.cell?_alloc_at _ _ _ _ rfl]; rfl
  have hsw : ((w.alloc (.cells #[.slice A1 n1 c1, .slice A2 n2 c2, .slice (some ⟨b, o, none⟩) n3 c3] 27)).alloc (.cells #[.string f.number, .string f.src, .string f.dst, .int .i64 f.dep, .int .i64 f.arr, .string f.kind, .int .i64 f.n0, .int .i64 f.n1, .int .i64 f.n2] 47)).heap.size = w.heap.size + 2 := by simp
  go_wp2_with fail
  have hbw := HB1.out (.cells #[.slice A1 n1 c1, .slice A2 n2 c2, .slice (some ⟨b, o, none⟩) n3 c3] 27) (.cells #[.string f.number, .string f.src, .string f.dst, .int .i64 f.dep, .int .i64 f.arr, .string f.kind, .int .i64 f.n0, .int .i64 f.n1, .int .i64 f.n2] 47)
  have hs2w := HS2.out (.cells #[.slice A1 n1 c1, .slice A2 n2 c2, .slice (some ⟨b, o, none⟩) n3 c3] 27) (.cells #[.string f.number, .string f.src, .string f.dst, .int .i64 f.dep, .int .i64 f.arr, .string f.kind, .int .i64 f.n0, .int .i64 f.n1, .int .i64 f.n2] 47)
  have hs3w := hs3.next hbw
  generalize hW : ((w.alloc (.cells #[.slice A1 n1 c1, .slice A2 n2 c2, .slice (some ⟨b, o, none⟩) n3 c3] 27)).alloc (.cells #[.string f.number, .string f.src, .string f.dst, .int .i64 f.dep, .int .i64 f.arr, .string f.kind, .int .i64 f.n0, .int .i64 f.n1, .int .i64 f.n2] 47)) = W at *
  have HB := Lib.hid hbw; have HS3 := Lib.hid hs3w; have HA := Lib.hid hs2w
  have z0 := hz1 0; have z1 := hz1 1; have z2 := hz1 2; have z3 := hz1 3; have z4 := hz1 4; have z5 := hz1 5; have z6 := hz1 6; have z7 := hz1 7; have z8 := hz1 8
  simp only [List.getElem?_toArray, List.getElem?_cons_zero, List.getElem?_cons_succ] at z0 z1 z2 z3 z4 z5 z6 z7 z8
  have HSW := Lib.hid hsw
  clear hW hs2 hs3 hsl3 hs2w hs3w hbw hz1 y0 y1 y2 y3 y4 y5 y6 y7 y8 HS2 HB1 hsw hbne
  refine (isCodeR_any f.number _ Q1.out).mono ?_
  rintro e w' ⟨rfl, rfl⟩
  by_cases h1 : isCodeB f.number = true
  case neg =>
    have h1' : isCodeB f.number = false := by simpa using h1
    have HR : Hid (fErr (aCodes t.airports) t.flights i = 1) := by
      have h9 : flightE (aCodes t.airports) f = 1 := by unfold flightE; rw [if_pos (.inl h1')]
      rw [HERR.out, h9]; rfl
    rw [h1']
    clear h1
    go_wp2_with fail
    go_ret
    exact ⟨by rw [HR.out]; rfl, HB.out⟩
  rw [h1]
  go_wp2_with fail
  refine (isNameR_any f.kind _ Q4.out).mono ?_
  rintro e w' ⟨rfl, rfl⟩
  by_cases h2 : isNameB f.kind = true
  case neg =>
    have h2' : isNameB f.kind = false := by simpa using h2
    have HR : Hid (fErr (aCodes t.airports) t.flights i = 1) := by
      have h9 : flightE (aCodes t.airports) f = 1 := by unfold flightE; rw [if_pos (.inr h2')]
      rw [HERR.out, h9]; rfl
    rw [h2']
    clear h2
    go_wp2_with fail
    go_ret
    exact ⟨by rw [HR.out]; rfl, HB.out⟩
  rw [h2]
  go_wp2_with fail
  refine (airportIndex_any t.airports f.src _ _ _ _ _ HA.out).mono ?_
  rintro e w' ⟨rfl, rfl⟩
  by_cases h3 : hasB (aCodes t.airports) f.src = true
  case neg =>
    have h3' : hasB (aCodes t.airports) f.src = false := by simpa using h3
    have HR : Hid (fErr (aCodes t.airports) t.flights i = 6) := by
      have h9 : flightE (aCodes t.airports) f = 6 := by unfold flightE; rw [if_neg (by rw [h1, h2]; simp), if_pos (.inl h3')]
      rw [HERR.out, h9]; rfl
    rw [idxOf_none h3']
    clear h3 h3'
    go_wp2_with fail
    go_ret
    exact ⟨by rw [HR.out]; rfl, HB.out⟩
  have hge3 : 0 ≤ idxOf (aCodes t.airports) f.src := by
    have := idxOf_neg (aCodes t.airports) f.src
    rw [h3] at this
    simpa using this
  generalize idxOf (aCodes t.airports) f.src = ix at *
  go_wp2_with fail
  refine (airportIndex_any t.airports f.dst _ _ _ _ _ HA.out).mono ?_
  rintro e w' ⟨rfl, rfl⟩
  by_cases h4 : hasB (aCodes t.airports) f.dst = true
  case neg =>
    have h4' : hasB (aCodes t.airports) f.dst = false := by simpa using h4
    have HR : Hid (fErr (aCodes t.airports) t.flights i = 6) := by
      have h9 : flightE (aCodes t.airports) f = 6 := by unfold flightE; rw [if_neg (by rw [h1, h2]; simp), if_pos (.inr h4')]
      rw [HERR.out, h9]; rfl
    rw [idxOf_none h4']
    clear h4 h4'
    go_wp2_with fail
    go_ret
    exact ⟨by rw [HR.out]; rfl, HB.out⟩
  have hge4 : 0 ≤ idxOf (aCodes t.airports) f.dst := by
    have := idxOf_neg (aCodes t.airports) f.dst
    rw [h4] at this
    simpa using this
  generalize idxOf (aCodes t.airports) f.dst = iy at *
  by_cases h5 : f.src = f.dst
  case pos =>
    have HR : Hid (fErr (aCodes t.airports) t.flights i = 14) := by
      have h9 : flightE (aCodes t.airports) f = 14 := by unfold flightE; rw [if_neg (by rw [h1, h2]; simp), if_neg (by rw [h3, h4]; simp), if_pos h5]
      rw [HERR.out, h9]; rfl
    have e5 : (f.src.toList == f.dst.toList) = true := by rw [str_beq, decide_eq_true h5]
    clear h5
    go_wp2_with fail
    go_ret
    exact ⟨by rw [HR.out]; rfl, HB.out⟩
  have e5 : (f.src.toList == f.dst.toList) = false := by rw [str_beq, decide_eq_false h5]
  by_cases h6 : f.dep < 2880 ∨ 52593120 < f.arr ∨ f.arr ≤ f.dep ∨ 1440 < f.arr - f.dep
  case pos =>
    have HR : Hid (fErr (aCodes t.airports) t.flights i = 5) := by
      have h9 : flightE (aCodes t.airports) f = 5 := by unfold flightE; rw [if_neg (by rw [h1, h2]; simp), if_neg (by rw [h3, h4]; simp), if_neg h5, if_pos h6]
      rw [HERR.out, h9]; rfl
    have h6' : f.dep < 2880 ∨ (¬ f.dep < 2880 ∧ 52593120 < f.arr) ∨ (¬ f.dep < 2880 ∧ ¬ 52593120 < f.arr ∧ f.arr ≤ f.dep) ∨ (¬ f.dep < 2880 ∧ ¬ 52593120 < f.arr ∧ ¬ f.arr ≤ f.dep ∧ 1440 < f.arr - f.dep) := by omega
    clear h5 h6
    rcases h6' with h | ⟨h, h'⟩ | ⟨h, h', h''⟩ | ⟨h, h', h'', h3'⟩
    all_goals
      go_wp2_with fail
      go_ret
      exact ⟨by rw [HR.out]; rfl, HB.out⟩
  have HFE : Hid (flightE (aCodes t.airports) f = if needOk f.n0 = false ∨ needOk f.n1 = false ∨ needOk f.n2 = false then 5 else 0) := by show _ = _; unfold flightE; rw [if_neg (by rw [h1, h2]; simp), if_neg (by rw [h3, h4]; simp), if_neg h5, if_neg h6]
  have r1 : 2880 ≤ f.dep := by omega
  have r2 : f.arr ≤ 52593120 := by omega
  have r3 : f.dep < f.arr := by omega
  have r4 : f.arr - f.dep ≤ 1440 := by omega
  clear h5 h6
  go_wp2_with fail
  go_loop [4, 6] (fun _ r => ∃ k : Nat, k ≤ 3 ∧ r = .int .i64 k ∧ Hid ((1 ≤ k → needOk f.n0 = true) ∧ (2 ≤ k → needOk f.n1 = true) ∧ (3 ≤ k → needOk f.n2 = true))) (fun _ r => 3 - (intOf r).toNat)
  case atStart => exact ⟨0, by omega, rfl, fun h => absurd h (by omega), fun h => absurd h (by omega), fun h => absurd h (by omega)⟩
  case round =>
    obtain ⟨k, hk, rfl, HK⟩ := hrel
    have hk' : k = 0 ∨ k = 1 ∨ k = 2 ∨ k = 3 := by omega
    rcases hk' with rfl | rfl | rfl | rfl
    · by_cases hn : needOk f.n0 = true
      · have hn' := hn
        unfold needOk at hn'
        simp only [Bool.and_eq_true, decide_eq_true_eq] at hn'
        have HN := Lib.hid hn; clear hn
        obtain ⟨s1, s2⟩ := hn'
        go_wp2_with fail
        go_round
        case rel => exact ⟨0 + 1, by omega, rfl, fun _ => HN.out, fun h => absurd h (by omega), fun h => absurd h (by omega)⟩
        case measure => simp [intOf]
      · have hn' : needOk f.n0 = false := by simpa using hn
        have HR : Hid (fErr (aCodes t.airports) t.flights i = 5) := by
          have h9 : flightE (aCodes t.airports) f = 5 := by rw [HFE.out, if_pos (.inl hn')]
          rw [HERR.out, h9]; rfl
        unfold needOk at hn'
        simp only [Bool.and_eq_false_iff, decide_eq_false_iff_not] at hn'
        clear hn
        have hn2 : f.n0 < 0 ∨ (¬ f.n0 < 0 ∧ 8 < f.n0) := by omega
        clear hn'
        rcases hn2 with h | ⟨h, h'⟩
        all_goals
          go_wp2_with fail
          go_ret
          exact ⟨by rw [HR.out]; rfl, HB.out⟩
    · by_cases hn : needOk f.n1 = true
      · have hn' := hn
        unfold needOk at hn'
        simp only [Bool.and_eq_true, decide_eq_true_eq] at hn'
        have HN := Lib.hid hn; clear hn
        obtain ⟨s1, s2⟩ := hn'
        go_wp2_with fail
        go_round
        case rel => exact ⟨1 + 1, by omega, rfl, fun _ => HK.out.1 (by omega), fun _ => HN.out, fun h => absurd h (by omega)⟩
        case measure => simp [intOf]
      · have hn' : needOk f.n1 = false := by simpa using hn
        have HR : Hid (fErr (aCodes t.airports) t.flights i = 5) := by
          have h9 : flightE (aCodes t.airports) f = 5 := by rw [HFE.out, if_pos (.inr (.inl hn'))]
          rw [HERR.out, h9]; rfl
        unfold needOk at hn'
        simp only [Bool.and_eq_false_iff, decide_eq_false_iff_not] at hn'
        clear hn
        have hn2 : f.n1 < 0 ∨ (¬ f.n1 < 0 ∧ 8 < f.n1) := by omega
        clear hn'
        rcases hn2 with h | ⟨h, h'⟩
        all_goals
          go_wp2_with fail
          go_ret
          exact ⟨by rw [HR.out]; rfl, HB.out⟩
    · by_cases hn : needOk f.n2 = true
      · have hn' := hn
        unfold needOk at hn'
        simp only [Bool.and_eq_true, decide_eq_true_eq] at hn'
        have HN := Lib.hid hn; clear hn
        obtain ⟨s1, s2⟩ := hn'
        go_wp2_with fail
        go_round
        case rel => exact ⟨2 + 1, by omega, rfl, fun _ => HK.out.1 (by omega), fun _ => HK.out.2.1 (by omega), fun _ => HN.out⟩
        case measure => simp [intOf]
      · have hn' : needOk f.n2 = false := by simpa using hn
        have HR : Hid (fErr (aCodes t.airports) t.flights i = 5) := by
          have h9 : flightE (aCodes t.airports) f = 5 := by rw [HFE.out, if_pos (.inr (.inr hn'))]
          rw [HERR.out, h9]; rfl
        unfold needOk at hn'
        simp only [Bool.and_eq_false_iff, decide_eq_false_iff_not] at hn'
        clear hn
        have hn2 : f.n2 < 0 ∨ (¬ f.n2 < 0 ∧ 8 < f.n2) := by omega
        clear hn'
        rcases hn2 with h | ⟨h, h'⟩
        all_goals
          go_wp2_with fail
          go_ret
          exact ⟨by rw [HR.out]; rfl, HB.out⟩
    · have HF0 : Hid (flightE (aCodes t.airports) f = 0) := by
        obtain ⟨g1, g2, g3⟩ := HK.out
        rw [HFE.out, if_neg (by rw [g1 (by omega), g2 (by omega), g3 (by omega)]; simp)]; rfl
      clear HK HFE
      rcases Nat.eq_zero_or_pos i with rfl | hi0
      · have HR : Hid (fErr (aCodes t.airports) t.flights 0 = 0) := by rw [HERR.out, HF0.out]; rfl
        go_wp2_with fail
        go_ret
        exact ⟨by rw [HR.out]; rfl, HB.out⟩
      · obtain ⟨b', o', e', _, hat⟩ := HS3.out.flight_at (k := i - 1) (by have := HS3.out.len; omega)
        simp only [Option.some.injEq, Addr.mk.injEq, and_true] at e'
        obtain ⟨rfl, rfl⟩ := e'
        have HBEF := Lib.hid (before_ref (t.flights.getD (i - 1) noFlight) f)
        generalize hp : t.flights.getD (i - 1) noFlight = p at *
        have y0 : W.cell? ⟨b, o + (i - 1) * 9, none⟩ = some (.string p.number) := hat 0 _ rfl
        have y1 := hat 1 _ rfl; have y2 := hat 2 _ rfl; have y3 := hat 3 _ rfl; have y4 := hat 4 _ rfl; have y5 := hat 5 _ rfl; have y6 := hat 6 _ rfl; have y7 := hat 7 _ rfl; have y8 := hat 8 _ rfl
        have hbl2 : b < W.heap.size := by have := HSW.out; omega
        have hbne2 : b ≠ W.heap.size := by omega
        have hwl : w.heap.size + 1 < W.heap.size := by have := HSW.out; omega
        have zz0 : (W.alloc (.cells #[.string p.number, .string p.src, .string p.dst, .int .i64 p.dep, .int .i64 p.arr, .string p.kind, .int .i64 p.n0, .int .i64 p.n1, .int .i64 p.n2] 47)).cell? ⟨w.heap.size + 1, 0, none⟩ = some (.string f.number) := by rw [World.cell?_alloc_past _ _ _ hwl]; exact z0
        have zz3 : (W.alloc (.cells #[.string p.number, .string p.src, .string p.dst, .int .i64 p.dep, .int .i64 p.arr, .string p.kind, .int .i64 p.n0, .int .i64 p.n1, .int .i64 p.n2] 47)).cell? ⟨w.heap.size + 1, 3, none⟩ = some (.int .i64 f.dep) := by rw [World.cell?_alloc_past _ _ _ hwl]; exact z3
        have HBX : Hid (∀ ob, Below w.heap.size w (W.alloc ob)) := fun ob => HB.out.alloc (by have := HSW.out; omega) _
        clear hp hat
        by_cases hd1 : f.dep < p.dep
        · have HR : Hid (fErr (aCodes t.airports) t.flights i = 8) := by rw [HERR.out, HF0.out, if_neg (by simp), if_pos ⟨hi0, HBEF.out.2 (.inl hd1)⟩]; rfl
          go_wp2_with fail
          go_ret
          exact ⟨by rw [HR.out]; rfl, HBX.out _⟩
        by_cases hd2 : f.dep = p.dep
        · have hdb : (f.dep == p.dep) = true := by simpa using hd2
          have hdl : f.dep ≤ p.dep := by omega
          by_cases hl : Op.bytesLess f.number.toList p.number.toList = true
          · have HR : Hid (fErr (aCodes t.airports) t.flights i = 8) := by rw [HERR.out, HF0.out, if_neg (by simp), if_pos ⟨hi0, HBEF.out.2 (.inr ⟨hd2, .inl hl⟩)⟩]; rfl
            clear hd2
            go_wp2_with fail
            go_ret
            exact ⟨by rw [HR.out]; rfl, HBX.out _⟩
          · have hl' : Op.bytesLess f.number.toList p.number.toList = false := by simpa using hl
            by_cases hq : f.number.toList = p.number.toList
            · have hqb : (f.number.toList == p.number.toList) = true := by simpa using hq
              have HR : Hid (fErr (aCodes t.airports) t.flights i = 8) := by rw [HERR.out, HF0.out, if_neg (by simp), if_pos ⟨hi0, HBEF.out.2 (.inr ⟨hd2, .inr hq⟩)⟩]; rfl
              clear hd2 hl hq
              go_wp2_with fail
              go_ret
              exact ⟨by rw [HR.out]; rfl, HBX.out _⟩
            · have hqb : (f.number.toList == p.number.toList) = false := by simpa using hq
              have HR : Hid (fErr (aCodes t.airports) t.flights i = 0) := by
                rw [HERR.out, HF0.out, if_neg (by simp), if_neg]
                · rfl
                · rintro ⟨_, h⟩
                  rcases HBEF.out.1 h with h | ⟨_, h | h⟩
                  · exact hd1 h
                  · exact hl h
                  · exact hq h
              clear hd2 hl hq
              go_wp2_with fail
              go_ret
              exact ⟨by rw [HR.out]; rfl, HBX.out _⟩
        · have hdb : (f.dep == p.dep) = false := by simpa using hd2
          have HR : Hid (fErr (aCodes t.airports) t.flights i = 0) := by
            rw [HERR.out, HF0.out, if_neg (by simp), if_neg]
            · rfl
            · rintro ⟨_, h⟩
              rcases HBEF.out.1 h with h | ⟨h, _⟩
              · exact hd1 h
              · exact hd2 h
          clear hd2
          go_wp2_with fail
          go_ret
          exact ⟨by rw [HR.out]; rfl, HBX.out _⟩
end Go.Proofs.YtldeoaddogifpaaGreatDoor
