/-
  The walk of pairinglaw9.TimetableValid.
  Condition: the timetable's data are well formed.
-/
import Derived.Test.YtldeoaddogifpaaAwake
import Derived.Test.YtldeoaddogifpaaValidateRef
import Derived.Test.YtldeoaddogifpaaLight
import Derived.Deep.RegionLaw
namespace Go.Proofs.Ytldeoaddogifpaa
set_option linter.unusedSimpArgs false
set_option linter.unusedVariables false
open Go.RowKit

set_option maxRecDepth 100000 in
set_option maxHeartbeats 800000 in
theorem lawValid_any (t : GTT) (A1 A2 A3 : Option Addr) (n1 n2 n3 c1 c2 c3 : Nat) (w : World) (ht : t.ok) (hs1 : Sl Ty.zone w (all_ w) A1 n1 c1 t.zones) (hs2 : Sl Ty.airport w (all_ w) A2 n2 c2 t.airports) (hs3 : Sl Ty.flight w (all_ w) A3 n3 c3 t.flights) :
    Calls Try.prog 3 #[.agg #[.slice A1 n1 c1, .slice A2 n2 c2, .slice A3 n3 c3]] w (AwPost w) := by
  have hb0 := (Below.refl w.heap.size w).alloc (Nat.le_refl _) (.cells #[.slice A1 n1 c1, .slice A2 n2 c2, .slice A3 n3 c3] 26)
  have hx0 : ∀ j, (w.alloc (.cells #[.slice A1 n1 c1, .slice A2 n2 c2, .slice A3 n3 c3] 26)).cell? ⟨w.heap.size, j, none⟩ = (#[Value.slice A1 n1 c1, .slice A2 n2 c2, .slice A3 n3 c3])[j]? := fun j => World.cell?_alloc_at _ _ _ _ rfl
  have hz0 : w.heap.size + 1 ≤ (w.alloc (.cells #[.slice A1 n1 c1, .slice A2 n2 c2, .slice A3 n3 c3] 26)).heap.size := by simp
  have HB0 := Lib.hid hb0; have HX0 := Lib.hid hx0; have HZ0 := Lib.hid hz0
  have HS : Hid (∀ V, Below w.heap.size w V → Sl Ty.zone V (all_ V) A1 n1 c1 t.zones ∧ Sl Ty.airport V (all_ V) A2 n2 c2 t.airports ∧ Sl Ty.flight V (all_ V) A3 n3 c3 t.flights) := fun V hV => ⟨hs1.next hV, hs2.next hV, hs3.next hV⟩
  have HT := Lib.hid ht
  clear hs1 hs2 hs3 hb0 hx0 hz0 ht
  go_enter Try.func3, Try.ntmps3
  go_wp2_with fail
  generalize w.alloc (.cells #[.slice A1 n1 c1, .slice A2 n2 c2, .slice A3 n3 c3] 26) = W at *
  refine (light_any t A1 A2 A3 n1 n2 n3 c1 c2 c3 W (HS.out W HB0.out).1).mono ?_
  rintro e w1 ⟨b, rfl, hb1⟩
  have hw1 : Below w.heap.size w w1 := HB0.out.trans (hb1.mono HB0.out.size)
  have hx1 : ∀ j, w1.cell? ⟨w.heap.size, j, none⟩ = (#[Value.slice A1 n1 c1, .slice A2 n2 c2, .slice A3 n3 c3])[j]? := fun j => (hb1.cell (by have := HZ0.out; show w.heap.size < _; omega)).trans (HX0.out j)
  have hz1 : w.heap.size + 1 ≤ w1.heap.size := Nat.le_trans HZ0.out hb1.size
  cases b with
  | false =>
    go_wp2_with fail
    refine (awake_any w1).mono ?_
    rintro e w2 ⟨rfl, hb2⟩
    go_wp2_with fail
    go_ret
    exact ⟨rfl, hw1.trans (hb2.mono hw1.size)⟩
  | true =>
    have HX1 := Lib.hid hx1
    have x0 : w1.cell? ⟨w.heap.size, 0, none⟩ = some (.slice A1 n1 c1) := hx1 0
    have x1 : w1.cell? ⟨w.heap.size, 1, none⟩ = some (.slice A2 n2 c2) := hx1 1
    have x2 : w1.cell? ⟨w.heap.size, 2, none⟩ = some (.slice A3 n3 c3) := hx1 2
    have HW1 : Hid (∀ q, Below w.heap.size w (w1.drewN q)) := fun q => below_drewN hw1 q
    clear hx1
    go_wp2_with fail
    have heq : (ttE t == ttE t) = true := by simp
    go_region_law (first
      | (go_simp; go_at_call 11; refine (validate_any t A1 A2 A3 n1 n2 n3 c1 c2 c3 _ HT.out (HS.out _ (HW1.out 1)).1 (HS.out _ (HW1.out 1)).2.1 (HS.out _ (HW1.out 1)).2.2).mono ?_; rintro e w2 ⟨rfl, hb2⟩; have hw2 : Below w.heap.size w w2 := (HW1.out 1).trans (hb2.mono (HW1.out 1).size); have x0' : w2.cell? ⟨w.heap.size, 0, none⟩ = some (.slice A1 n1 c1) := (hb2.cell (by show w.heap.size < _; simp; omega)).trans x0; have x1' : w2.cell? ⟨w.heap.size, 1, none⟩ = some (.slice A2 n2 c2) := (hb2.cell (by show w.heap.size < _; simp; omega)).trans x1; have x2' : w2.cell? ⟨w.heap.size, 2, none⟩ = some (.slice A3 n3 c3) := (hb2.cell (by show w.heap.size < _; simp; omega)).trans x2)
      | (go_simp; go_at_call 12; refine (validateR_any t A1 A2 A3 n1 n2 n3 c1 c2 c3 _ HT.out (HS.out _ hw2).1 (HS.out _ hw2).2.1 (HS.out _ hw2).2.2).mono ?_; rintro e w3 ⟨rfl, hb3⟩; have hw3 : Below w.heap.size w w3 := hw2.trans (hb3.mono hw2.size))
      | (go_simp; go_at_call 10; refine (awake_any _).mono ?_; rintro e w4 ⟨rfl, hb4⟩; have hw4 : Below w.heap.size w w4 := hw3.trans (hb4.mono hw3.size))
      | fail)
    all_goals
      go_wp2_with fail
      go_ret
      exact ⟨rfl, hw4⟩
end Go.Proofs.Ytldeoaddogifpaa
