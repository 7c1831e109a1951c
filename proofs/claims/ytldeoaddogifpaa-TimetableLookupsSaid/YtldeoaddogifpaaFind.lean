/-
  Contract of timetable.FindFlight.
  Condition: the timetable's data are well formed.
-/
import Derived.Test.YtldeoaddogifpaaValidate
import Derived.Test.YtldeoaddogifpaaTTBody
namespace Go.Proofs.Ytldeoaddogifpaa
set_option linter.unusedSimpArgs false
set_option linter.unusedVariables false
open Go.RowKit

def fMatch (num : ByteArray) (dep : Int) (f : GFlight) : Bool := decide (f.number = num) && decide (f.dep = dep)
/-- The first place that fits. -/
def firstHit (p : Nat → Bool) (n : Nat) : Option Nat := (List.range n).find? p
theorem firstHit_none {p : Nat → Bool} {n : Nat} (h : ∀ j, j < n → p j = false) : firstHit p n = none := by
  unfold firstHit
  rw [List.find?_eq_none]
  intro x hx
  rw [h x (List.mem_range.1 hx)]
  simp
theorem firstHit_some {p : Nat → Bool} {n k : Nat} (hk : k < n) (h : ∀ j, j < k → p j = false) (hp : p k = true) : firstHit p n = some k := by
  unfold firstHit
  rw [List.find?_range_eq_some]
  exact ⟨hp, List.mem_range.2 hk, fun j hj => by rw [h j hj]; rfl⟩
def findR (t : GTT) (num : ByteArray) (dep : Int) : Int × Int :=
  if ttE t ≠ 0 then (0, ttE t) else match firstHit (fun i => fMatch num dep (t.flights.getD i noFlight)) t.flights.length with
    | some i => ((i : Int), 0)
    | none => (0, 6)
def PairPost (r : Int × Int) (w : World) (e : Ending) (w' : World) : Prop := e = .returned (.tuple #[.int .i64 r.1, .int .i64 r.2]) ∧ Below w.heap.size w w'

set_option maxRecDepth 100000 in
set_option maxHeartbeats 800000 in
theorem findFlight_any (t : GTT) (A1 A2 A3 : Option Addr) (n1 n2 n3 c1 c2 c3 : Nat) (num : ByteArray) (dep : Int) (w : World) (ht : t.ok) (hs1 : Sl Ty.zone w (all_ w) A1 n1 c1 t.zones) (hs2 : Sl Ty.airport w (all_ w) A2 n2 c2 t.airports) (hs3 : Sl Ty.flight w (all_ w) A3 n3 c3 t.flights) :
    Calls Try.prog 19 #[.agg #[.slice A1 n1 c1, .slice A2 n2 c2, .slice A3 n3 c3], .string num, .int .i64 dep] w (PairPost (findR t num dep) w) := by
  have hn1 : n3 ≤ t.flights.length := Nat.le_of_eq hs3.len
  have hn2 : t.flights.length ≤ n3 := Nat.le_of_eq hs3.len.symm
  have hle := hs3.le
  unfold maxLen at hle
  have hb0 := (Below.refl w.heap.size w).alloc (Nat.le_refl _) (.cells #[.slice A1 n1 c1, .slice A2 n2 c2, .slice A3 n3 c3] 26)
  have hx0 : (w.alloc (.cells #[.slice A1 n1 c1, .slice A2 n2 c2, .slice A3 n3 c3] 26)).cell? ⟨w.heap.size, 2, none⟩ = some (.slice A3 n3 c3) := World.cell?_alloc_at _ _ _ _ rfl
  have hz0 : w.heap.size + 1 ≤ (w.alloc (.cells #[.slice A1 n1 c1, .slice A2 n2 c2, .slice A3 n3 c3] 26)).heap.size := by simp
  have HV := Lib.hid (validate_any t A1 A2 A3 n1 n2 n3 c1 c2 c3 _ ht (hs1.next hb0) (hs2.next hb0) (hs3.next hb0))
  have HS : Hid (∀ V, Below w.heap.size w V → Sl Ty.flight V (all_ w) A3 n3 c3 t.flights) := fun V hV => hs3.keep (all_keep hV)
  have HB0 := Lib.hid hb0; have HX0 := Lib.hid hx0; have HZ0 := Lib.hid hz0
  have HR : Hid (findR t num dep = if ttE t ≠ 0 then (0, ttE t) else match firstHit (fun i => fMatch num dep (t.flights.getD i noFlight)) t.flights.length with
    | some i => ((i : Int), 0)
    | none => (0, 6)) := rfl
  clear hs1 hs2 hs3 hb0 hx0 hz0 ht
  generalize ttE t = ev at *
  go_enter Try.func19, Try.ntmps19
  go_wp2_with fail
  generalize w.alloc (.cells #[.slice A1 n1 c1, .slice A2 n2 c2, .slice A3 n3 c3] 26) = W at *
  refine HV.out.mono ?_
  clear HV
  rintro e w1 ⟨rfl, hb1⟩
  have hw1 : Below w.heap.size w w1 := HB0.out.trans (hb1.mono HB0.out.size)
  by_cases hev : ev = 0
  case neg =>
    have hev' : (ev != 0) = true := by simpa using hev
    have HF : Hid (findR t num dep = (0, ev)) := by show _ = _; rw [HR.out, if_pos hev]
    clear HR hev
    go_wp2_with fail
    go_ret2
    exact ⟨by rw [HF.out]; rfl, hw1⟩
  subst hev
  rw [if_neg (by simp)] at HR
  have x2 : w1.cell? ⟨w.heap.size, 2, none⟩ = some (.slice A3 n3 c3) := (hb1.cell (by have := HZ0.out; show w.heap.size < _; omega)).trans HX0.out
  clear HX0 HZ0 HB0
  go_wp2_with fail
  go_loopw [19] (fun s wr => ∃ k : Nat, k ≤ n3 ∧ s = .int .i64 k ∧ Below w.heap.size w wr ∧ Hid (∀ j, j < k → fMatch num dep (t.flights.getD j noFlight) = false)) (fun s _ => n3 - (intOf s).toNat)
  case atStart => exact ⟨0, Nat.zero_le _, rfl, hw1, fun j hj => absurd hj (by omega)⟩
  case round =>
    obtain ⟨k, hk, rfl, hbr, HK⟩ := hrel
    clear x2
    by_cases hlt : k < n3
    · have hks : k < t.flights.length := by omega
      obtain ⟨b, o, rfl, hbS, hat⟩ := (HS.out wr hbr).flight_at hks
      have HFM : Hid (fMatch num dep (t.flights.getD k noFlight) = (decide ((t.flights.getD k noFlight).number = num) && decide ((t.flights.getD k noFlight).dep = dep))) := rfl
      have HHIT : Hid (fMatch num dep (t.flights.getD k noFlight) = true → findR t num dep = ((k : Int), 0)) := fun h => by
        rw [HR.out, firstHit_some hks HK.out h]
      have HMISS : Hid (fMatch num dep (t.flights.getD k noFlight) = false → ∀ j, j < k + 1 → fMatch num dep (t.flights.getD j noFlight) = false) := fun h j hj => by
        rcases Nat.lt_or_eq_of_le (Nat.le_of_lt_succ hj) with h1 | rfl
        · exact HK.out j h1
        · exact h
      generalize t.flights.getD k noFlight = f at *
      have y0 : wr.cell? ⟨b, o + k * 9, none⟩ = some (.string f.number) := hat 0 _ rfl
      have y1 := hat 1 _ rfl; have y2 := hat 2 _ rfl; have y3 := hat 3 _ rfl; have y4 := hat 4 _ rfl; have y5 := hat 5 _ rfl; have y6 := hat 6 _ rfl; have y7 := hat 7 _ rfl; have y8 := hat 8 _ rfl
      have HSB := Lib.hid (str_beq f.number num)
      have HA : Hid (∀ o, Below w.heap.size w (wr.alloc o)) := fun o => hbr.alloc hbr.size o
      clear hat
      by_cases hnum : f.number = num
      · have hs' : (f.number.toList == num.toList) = true := by rw [HSB.out]; simpa using hnum
        by_cases hd : f.dep = dep
        · have hd' : (f.dep == dep) = true := by simpa using hd
          have HF := Lib.hid (HHIT.out (by rw [HFM.out, hnum, hd]; simp))
          clear hd hnum
          go_wp2_with fail
          go_ret2
          exact ⟨by rw [HF.out]; rfl, HA.out _⟩
        · have hd' : (f.dep == dep) = false := by simpa using hd
          have HM : Hid (∀ j, j < k + 1 → fMatch num dep (t.flights.getD j noFlight) = false) := HMISS.out (by rw [HFM.out]; simp [hd])
          clear hd hnum
          go_wp2_with fail
          go_roundw
          case rel => exact ⟨k + 1, by omega, by go_num, HA.out _, HM⟩
          case measure => simp [intOf]; omega
      · have hs' : (f.number.toList == num.toList) = false := by rw [HSB.out]; simpa using hnum
        have HM : Hid (∀ j, j < k + 1 → fMatch num dep (t.flights.getD j noFlight) = false) := HMISS.out (by rw [HFM.out]; simp [hnum])
        clear hnum
        go_wp2_with fail
        go_roundw
        case rel => exact ⟨k + 1, by omega, by go_num, HA.out _, HM⟩
        case measure => simp [intOf]; omega
    · have HF : Hid (findR t num dep = (0, 6)) := by
        show _ = _
        rw [HR.out, firstHit_none (fun j hj => HK.out j (by omega))]
      go_wp2_with fail
      go_ret2
      exact ⟨by rw [HF.out]; rfl, hbr⟩
end Go.Proofs.Ytldeoaddogifpaa
