/-
  Contracts of timetable.validateFlight and timetable.before.
  Condition: the flight's data are well formed; the map holds true at the airports' codes.
-/
import Derived.Test.YtifconapjfdkcaaGreatDoorSBF
import Derived.Test.YtifconapjfdkcaaGreatDoorSBG
namespace Go.Proofs.YtifconapjfdkcaaGreatDoor
set_option linter.unusedSimpArgs false
set_option linter.unusedVariables false
open Go.RowKit

theorem zeroBool (w : World) : (zeroValue 4).run Tryz.prog w = .ok (.bool false) w := by kernel_rfl
def flightVal (f : GFlight) : Value := .agg #[.string f.number, .string f.src, .string f.dst, .int .i64 f.dep, .int .i64 f.arr, .string f.kind, .int .i64 f.n0, .int .i64 f.n1, .int .i64 f.n2]
theorem bset_get {w : World} {b : Nat} {keys : List ByteArray} (h : BSet Tryz.prog 9 4 w b keys) (key : ByteArray) (hs : key.size ≤ maxLen) :
    (Instr.lookup 95 (.map (some b)) (.string key) false).run Tryz.prog w = .ok (.bool (hasB keys key)) w :=
  h.lookup Tryz.underlying9 Tryz.underlying95 Tryz.underlying4 (zeroBool w) key hs

theorem before_any (f g : GFlight) (w : World) : Calls Tryz.prog 52 #[flightVal f, flightVal g] w fun e w' => e = .returned (.bool (beforeB f g)) ∧ Below w.heap.size w w' := by
  unfold flightVal
  have hbw : ∀ o1 o2, Below w.heap.size w ((w.alloc o1).alloc o2) := fun o1 o2 => ((Below.refl _ _).alloc (Nat.le_refl _) _).alloc (by simp) _
  by_cases h : f.dep = g.dep
  · have hb : (f.dep != g.dep) = false := by simpa using h
    have HE : Hid (beforeB f g = Op.bytesLess f.number.toList g.number.toList) := by show _ = _; unfold beforeB; rw [if_pos h]
    clear h
    go_enter Tryz.func52, Tryz.ntmps52
    go_wp2_with fail
    go_ret
    exact ⟨ret_bool HE.out.symm, hbw _ _⟩
  · have hb : (f.dep != g.dep) = true := by simpa using h
    have HE : Hid (beforeB f g = decide (f.dep < g.dep)) := by show _ = _; unfold beforeB; rw [if_neg h]
    clear h
    go_enter Tryz.func52, Tryz.ntmps52
    go_wp2_with fail
    go_ret
    exact ⟨ret_bool HE.out.symm, hbw _ _⟩

set_option maxHeartbeats 1600000 in
theorem validateFlight_any (f : GFlight) (b : Nat) (codes : List ByteArray) (w : World) (hf : f.ok) (hset : BSet Tryz.prog 9 4 w b codes) :
    Calls Tryz.prog 51 #[flightVal f, .map (some b)] w (ErrPost (flightE codes f) w) := by
  unfold flightVal
  obtain ⟨q1, q2, q3, q4, ⟨d1, d2⟩, ⟨a1, a2⟩, x0, x1, x2⟩ := hf
  have hbw : ∀ o1, Below w.heap.size w (w.alloc o1) := fun o1 => (Below.refl _ _).alloc (Nat.le_refl _) _
  have hset1 : ∀ o1, BSet Tryz.prog 9 4 (w.alloc o1) b codes := fun o1 => hset.keep ((hbw o1).block b hset.lt)
  have l1 := fun o1 => bset_get (hset1 o1) f.src q2
  have l2 := fun o1 => bset_get (hset1 o1) f.dst q3
  have HB := Lib.hid hbw; clear hbw hset1
  have Q1 := Lib.hid q1; have Q4 := Lib.hid q4
  clear q1 q2 q3 q4 x0 x1 x2 hset
  by_cases h1 : isCodeB f.number = true
  case neg =>
    have h1' : isCodeB f.number = false := by simpa using h1
    have HR : Hid (flightE codes f = 1) := by show _ = _; unfold flightE; rw [if_pos (.inl h1')]
    clear h1
    go_enter Tryz.func51, Tryz.ntmps51
    go_wp2_with (go_at_call 87; refine (isCode_any f.number _ Q1.out).mono ?_; rintro e w' ⟨rfl, rfl⟩; rw [h1'])
    go_ret
    exact ⟨by rw [HR.out]; rfl, HB.out _⟩
  by_cases h2 : isNameB f.kind = true
  case neg =>
    have h2' : isNameB f.kind = false := by simpa using h2
    have HR : Hid (flightE codes f = 1) := by show _ = _; unfold flightE; rw [if_pos (.inr h2')]
    clear h2
    go_enter Tryz.func51, Tryz.ntmps51
    go_wp2_with (first
      | (go_at_call 87; refine (isCode_any f.number _ Q1.out).mono ?_; rintro e w' ⟨rfl, rfl⟩; rw [h1])
      | (go_at_call 67; refine (isName_any f.kind _ Q4.out).mono ?_; rintro e w' ⟨rfl, rfl⟩; rw [h2']))
    go_ret
    exact ⟨by rw [HR.out]; rfl, HB.out _⟩
  by_cases h3 : hasB codes f.src = true
  case neg =>
    have h3' : hasB codes f.src = false := by simpa using h3
    have HR : Hid (flightE codes f = 6) := by show _ = _; unfold flightE; rw [if_neg (by rw [h1, h2]; simp), if_pos (.inl h3')]
    clear h3
    go_enter Tryz.func51, Tryz.ntmps51
    go_wp2_with (first
      | (go_at_call 87; refine (isCode_any f.number _ Q1.out).mono ?_; rintro e w' ⟨rfl, rfl⟩; rw [h1])
      | (go_at_call 67; refine (isName_any f.kind _ Q4.out).mono ?_; rintro e w' ⟨rfl, rfl⟩; rw [h2]))
    go_ret
    exact ⟨by rw [HR.out]; rfl, HB.out _⟩
  by_cases h4 : hasB codes f.dst = true
  case neg =>
    have h4' : hasB codes f.dst = false := by simpa using h4
    have HR : Hid (flightE codes f = 6) := by show _ = _; unfold flightE; rw [if_neg (by rw [h1, h2]; simp), if_pos (.inr h4')]
    clear h4
    go_enter Tryz.func51, Tryz.ntmps51
    go_wp2_with (first
      | (go_at_call 87; refine (isCode_any f.number _ Q1.out).mono ?_; rintro e w' ⟨rfl, rfl⟩; rw [h1])
      | (go_at_call 67; refine (isName_any f.kind _ Q4.out).mono ?_; rintro e w' ⟨rfl, rfl⟩; rw [h2]))
    go_ret
    exact ⟨by rw [HR.out]; rfl, HB.out _⟩
  by_cases h5 : f.src = f.dst
  case pos =>
    have HR : Hid (flightE codes f = 14) := by show _ = _; unfold flightE; rw [if_neg (by rw [h1, h2]; simp), if_neg (by rw [h3, h4]; simp), if_pos h5]
    have e5 : (f.src.toList == f.dst.toList) = true := by rw [str_beq, decide_eq_true h5]
    clear h5
    go_enter Tryz.func51, Tryz.ntmps51
    go_wp2_with (first
      | (go_at_call 87; refine (isCode_any f.number _ Q1.out).mono ?_; rintro e w' ⟨rfl, rfl⟩; rw [h1])
      | (go_at_call 67; refine (isName_any f.kind _ Q4.out).mono ?_; rintro e w' ⟨rfl, rfl⟩; rw [h2]))
    go_ret
    exact ⟨by rw [HR.out]; rfl, HB.out _⟩
  have e5 : (f.src.toList == f.dst.toList) = false := by rw [str_beq, decide_eq_false h5]
  by_cases h6 : f.dep < 2880 ∨ 52593120 < f.arr ∨ f.arr ≤ f.dep ∨ 1440 < f.arr - f.dep
  case pos =>
    have HR : Hid (flightE codes f = 5) := by show _ = _; unfold flightE; rw [if_neg (by rw [h1, h2]; simp), if_neg (by rw [h3, h4]; simp), if_neg h5, if_pos h6]
    have h6' : f.dep < 2880 ∨ (¬ f.dep < 2880 ∧ 52593120 < f.arr) ∨ (¬ f.dep < 2880 ∧ ¬ 52593120 < f.arr ∧ f.arr ≤ f.dep) ∨ (¬ f.dep < 2880 ∧ ¬ 52593120 < f.arr ∧ ¬ f.arr ≤ f.dep ∧ 1440 < f.arr - f.dep) := by omega
    clear h5 h6
    rcases h6' with h | ⟨h, h'⟩ | ⟨h, h', h''⟩ | ⟨h, h', h'', h3'⟩
    all_goals
      go_enter Tryz.func51, Tryz.ntmps51
      go_wp2_with (first
        | (go_at_call 87; refine (isCode_any f.number _ Q1.out).mono ?_; rintro e w' ⟨rfl, rfl⟩; rw [h1])
        | (go_at_call 67; refine (isName_any f.kind _ Q4.out).mono ?_; rintro e w' ⟨rfl, rfl⟩; rw [h2]))
      go_ret
      exact ⟨by rw [HR.out]; rfl, HB.out _⟩
  have r1 : 2880 ≤ f.dep := by omega
  have r2 : f.arr ≤ 52593120 := by omega
  have r3 : f.dep < f.arr := by omega
  have r4 : f.arr - f.dep ≤ 1440 := by omega
  have HR : Hid (flightE codes f = if needOk f.n0 = false ∨ needOk f.n1 = false ∨ needOk f.n2 = false then 5 else 0) := by show _ = _; unfold flightE; rw [if_neg (by rw [h1, h2]; simp), if_neg (by rw [h3, h4]; simp), if_neg h5, if_neg h6]
  clear h5 h6
  have i0 : ∀ w, (Instr.index 60 (.agg #[.int .i64 f.n0, .int .i64 f.n1, .int .i64 f.n2]) (.int .i64 0)).run Tryz.prog w = .ok (.int .i64 f.n0) w := fun _ => by kernel_rfl
  have i1 : ∀ w, (Instr.index 60 (.agg #[.int .i64 f.n0, .int .i64 f.n1, .int .i64 f.n2]) (.int .i64 1)).run Tryz.prog w = .ok (.int .i64 f.n1) w := fun _ => by kernel_rfl
  have i2 : ∀ w, (Instr.index 60 (.agg #[.int .i64 f.n0, .int .i64 f.n1, .int .i64 f.n2]) (.int .i64 2)).run Tryz.prog w = .ok (.int .i64 f.n2) w := fun _ => by kernel_rfl
  go_enter Tryz.func51, Tryz.ntmps51
  go_wp2_with (first
    | (go_at_call 87; refine (isCode_any f.number _ Q1.out).mono ?_; rintro e w' ⟨rfl, rfl⟩; rw [h1])
    | (go_at_call 67; refine (isName_any f.kind _ Q4.out).mono ?_; rintro e w' ⟨rfl, rfl⟩; rw [h2]))
  go_loop [4, 6, 63] (fun _ _ i => ∃ k : Nat, k ≤ 3 ∧ i = .int .i64 k ∧ Hid ((1 ≤ k → needOk f.n0 = true) ∧ (2 ≤ k → needOk f.n1 = true) ∧ (3 ≤ k → needOk f.n2 = true))) (fun _ _ i => 3 - (intOf i).toNat)
  case atStart => exact ⟨0, by omega, rfl, fun h => absurd h (by omega), fun h => absurd h (by omega), fun h => absurd h (by omega)⟩
  case round =>
    obtain ⟨k, hk, rfl, HK⟩ := hrel
    have hk' : k = 0 ∨ k = 1 ∨ k = 2 ∨ k = 3 := by omega
    rcases hk' with rfl | rfl | rfl | rfl
    · by_cases hn : needOk f.n0 = true
      · have hn' := hn
        unfold needOk at hn'
        simp only [Bool.and_eq_true, decide_eq_true_eq] at hn'
        have HN := Lib.hid hn; clear hn
        obtain ⟨s1, s2⟩ := hn'
        go_wp2_with fail
        go_round
        case rel => exact ⟨0 + 1, by omega, rfl, fun _ => HN.out, fun h => absurd h (by omega), fun h => absurd h (by omega)⟩
        case measure => simp [intOf]
      · have hn' : needOk f.n0 = false := by simpa using hn
        have HR2 : Hid (flightE codes f = 5) := by rw [HR.out, if_pos (.inl hn')]; rfl
        unfold needOk at hn'
        simp only [Bool.and_eq_false_iff, decide_eq_false_iff_not] at hn'
        clear hn
        have hn2 : f.n0 < 0 ∨ (¬ f.n0 < 0 ∧ 8 < f.n0) := by omega
        clear hn'
        rcases hn2 with h | ⟨h, h'⟩
        all_goals
          go_wp2_with fail
          go_ret
          exact ⟨by rw [HR2.out]; rfl, HB.out _⟩
    · by_cases hn : needOk f.n1 = true
      · have hn' := hn
        unfold needOk at hn'
        simp only [Bool.and_eq_true, decide_eq_true_eq] at hn'
        have HN := Lib.hid hn; clear hn
        obtain ⟨s1, s2⟩ := hn'
        go_wp2_with fail
        go_round
        case rel => exact ⟨1 + 1, by omega, rfl, fun _ => HK.out.1 (by omega), fun _ => HN.out, fun h => absurd h (by omega)⟩
        case measure => simp [intOf]
      · have hn' : needOk f.n1 = false := by simpa using hn
        have HR2 : Hid (flightE codes f = 5) := by rw [HR.out, if_pos (.inr (.inl hn'))]; rfl
        unfold needOk at hn'
        simp only [Bool.and_eq_false_iff, decide_eq_false_iff_not] at hn'
        clear hn
        have hn2 : f.n1 < 0 ∨ (¬ f.n1 < 0 ∧ 8 < f.n1) := by omega
        clear hn'
        rcases hn2 with h | ⟨h, h'⟩
        all_goals
          go_wp2_with fail
          go_ret
          exact ⟨by rw [HR2.out]; rfl, HB.out _⟩
    · by_cases hn : needOk f.n2 = true
      · have hn' := hn
        unfold needOk at hn'
        simp only [Bool.and_eq_true, decide_eq_true_eq] at hn'
        have HN := Lib.hid hn; clear hn
        obtain ⟨s1, s2⟩ := hn'
        go_wp2_with fail
        go_round
        case rel => exact ⟨2 + 1, by omega, rfl, fun _ => HK.out.1 (by omega), fun _ => HK.out.2.1 (by omega), fun _ => HN.out⟩
        case measure => simp [intOf]
      · have hn' : needOk f.n2 = false := by simpa using hn
        have HR2 : Hid (flightE codes f = 5) := by rw [HR.out, if_pos (.inr (.inr hn'))]; rfl
        unfold needOk at hn'
        simp only [Bool.and_eq_false_iff, decide_eq_false_iff_not] at hn'
        clear hn
        have hn2 : f.n2 < 0 ∨ (¬ f.n2 < 0 ∧ 8 < f.n2) := by omega
        clear hn'
        rcases hn2 with h | ⟨h, h'⟩
        all_goals
          go_wp2_with fail
          go_ret
          exact ⟨by rw [HR2.out]; rfl, HB.out _⟩
    · have HR2 : Hid (flightE codes f = 0) := by
        obtain ⟨g1, g2, g3⟩ := HK.out
        rw [HR.out, if_neg (by rw [g1 (by omega), g2 (by omega), g3 (by omega)]; simp)]; rfl
      go_wp2_with fail
      go_ret
      exact ⟨by rw [HR2.out]; rfl, HB.out _⟩
end Go.Proofs.YtifconapjfdkcaaGreatDoor
