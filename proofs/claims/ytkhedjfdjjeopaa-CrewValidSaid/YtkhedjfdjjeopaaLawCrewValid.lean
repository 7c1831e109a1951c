/-
  The walk of pairinglaw10.CrewValid.
  Condition: the data are well formed.
-/
import Derived.Test.YtkhedjfdjjeopaaCrewAwake
import Derived.Test.YtkhedjfdjjeopaaCrewVR
import Derived.Deep.RegionLaw
namespace Go.Proofs.Ytkhedjfdjjeopaa
set_option linter.unusedSimpArgs false
set_option linter.unusedVariables false
open Go.RowKit

set_option maxRecDepth 100000 in
set_option maxHeartbeats 800000 in
theorem lawCrewValid_any (t : GTT) (l : List GPerson) (A1 A2 A3 A4 : Option Addr) (n1 n2 n3 n4 c1 c2 c3 c4 : Nat) (w : World) (ht : t.ok) (hl : ∀ p ∈ l, p.ok) (hs1 : Sl Ty.zone w (all_ w) A1 n1 c1 t.zones) (hs2 : Sl Ty.airport w (all_ w) A2 n2 c2 t.airports) (hs3 : Sl Ty.flight w (all_ w) A3 n3 c3 t.flights) (hs4 : Sl Ty.person w (all_ w) A4 n4 c4 l) :
    Calls Try.prog 3 #[.agg #[.slice A1 n1 c1, .slice A2 n2 c2, .slice A3 n3 c3], .slice A4 n4 c4] w (CAwPost w) := by
  have hb0 := (Below.refl w.heap.size w).alloc (Nat.le_refl _) (.cells #[.slice A1 n1 c1, .slice A2 n2 c2, .slice A3 n3 c3] 26)
  have hx0 := heap_alloc_new w (.cells #[.slice A1 n1 c1, .slice A2 n2 c2, .slice A3 n3 c3] 26)
  have hz0 : w.heap.size + 1 ≤ (w.alloc (.cells #[.slice A1 n1 c1, .slice A2 n2 c2, .slice A3 n3 c3] 26)).heap.size := by simp
  have HB0 := Lib.hid hb0; have HX0 := Lib.hid hx0; have HZ0 := Lib.hid hz0
  have HS : Hid (∀ V, Below w.heap.size w V → Sl Ty.zone V (all_ V) A1 n1 c1 t.zones ∧ Sl Ty.airport V (all_ V) A2 n2 c2 t.airports ∧ Sl Ty.flight V (all_ V) A3 n3 c3 t.flights ∧ Sl Ty.person V (all_ V) A4 n4 c4 l) := fun V hV => ⟨hs1.next hV, hs2.next hV, hs3.next hV, hs4.next hV⟩
  have HT := Lib.hid ht; have HL := Lib.hid hl
  clear hs1 hs2 hs3 hs4 hb0 hx0 hz0 ht hl
  go_enter Try.func3, Try.ntmps3
  go_wp2_with fail
  generalize w.alloc (.cells #[.slice A1 n1 c1, .slice A2 n2 c2, .slice A3 n3 c3] 26) = W at *
  refine (light_any t A1 A2 A3 n1 n2 n3 c1 c2 c3 W (HS.out W HB0.out).1).mono ?_
  rintro e w1 ⟨b, rfl, hb1⟩
  have hw1 : Below w.heap.size w w1 := HB0.out.trans (hb1.mono HB0.out.size)
  have hx1 := (hb1.block w.heap.size (by have := HZ0.out; omega)).trans HX0.out
  have hz1 : w.heap.size + 1 ≤ w1.heap.size := Nat.le_trans HZ0.out hb1.size
  clear hb1
  cases b with
  | false =>
    go_wp2_with fail
    refine (crewAwake_any w1).mono ?_
    rintro e w2 ⟨rfl, hb2⟩
    go_wp2_with fail
    go_ret
    exact ⟨rfl, hw1.trans (hb2.mono hw1.size)⟩
  | true =>
    go_wp2_with fail
    refine (crewLight_any l A4 n4 c4 w1 (HS.out w1 hw1).2.2.2).mono ?_
    rintro e w2 ⟨b, rfl, hb2⟩
    have hw2 : Below w.heap.size w w2 := hw1.trans (hb2.mono hw1.size)
    have hx2 := (hb2.block w.heap.size (by omega)).trans hx1
    have hz2 : w.heap.size + 1 ≤ w2.heap.size := Nat.le_trans hz1 hb2.size
    clear hb2 hx1 hw1
    cases b with
    | false =>
      go_wp2_with fail
      refine (crewAwake_any w2).mono ?_
      rintro e w3 ⟨rfl, hb3⟩
      go_wp2_with fail
      go_ret
      exact ⟨rfl, hw2.trans (hb3.mono hw2.size)⟩
    | true =>
      have x0 : w2.cell? ⟨w.heap.size, 0, none⟩ = some (.slice A1 n1 c1) := block_cell hx2 0
      have x1 : w2.cell? ⟨w.heap.size, 1, none⟩ = some (.slice A2 n2 c2) := block_cell hx2 1
      have x2 : w2.cell? ⟨w.heap.size, 2, none⟩ = some (.slice A3 n3 c3) := block_cell hx2 2
      have HW1 : Hid (∀ q, Below w.heap.size w (w2.drewN q)) := fun q => below_drewN hw2 q
      clear hx2
      go_wp2_with fail
      have heq : (crewE t l == crewE t l) = true := by simp
      go_region_law (first
        | (go_simp; go_at_call 10; refine (crewValidate_any t l A1 A2 A3 A4 n1 n2 n3 n4 c1 c2 c3 c4 _ HT.out HL.out (HS.out _ (HW1.out 1)).1 (HS.out _ (HW1.out 1)).2.1 (HS.out _ (HW1.out 1)).2.2.1 (HS.out _ (HW1.out 1)).2.2.2).mono ?_; rintro e w3 ⟨rfl, hb3⟩; have hw3 : Below w.heap.size w w3 := (HW1.out 1).trans (hb3.mono (HW1.out 1).size); have x0' : w3.cell? ⟨w.heap.size, 0, none⟩ = some (.slice A1 n1 c1) := (hb3.cell (by show w.heap.size < _; simp; omega)).trans x0; have x1' : w3.cell? ⟨w.heap.size, 1, none⟩ = some (.slice A2 n2 c2) := (hb3.cell (by show w.heap.size < _; simp; omega)).trans x1; have x2' : w3.cell? ⟨w.heap.size, 2, none⟩ = some (.slice A3 n3 c3) := (hb3.cell (by show w.heap.size < _; simp; omega)).trans x2)
        | (go_simp; go_at_call 11; refine (validateCrewR_any t l A1 A2 A3 A4 n1 n2 n3 n4 c1 c2 c3 c4 _ HT.out HL.out (HS.out _ hw3).1 (HS.out _ hw3).2.1 (HS.out _ hw3).2.2.1 (HS.out _ hw3).2.2.2).mono ?_; rintro e w4 ⟨rfl, hb4⟩; have hw4 : Below w.heap.size w w4 := hw3.trans (hb4.mono hw3.size))
        | (go_simp; go_at_call 9; refine (crewAwake_any _).mono ?_; rintro e w5 ⟨rfl, hb5⟩; have hw5 : Below w.heap.size w w5 := hw4.trans (hb5.mono hw4.size))
        | fail)
      all_goals
        go_wp2_with fail
        go_ret
        exact ⟨rfl, hw5⟩
end Go.Proofs.Ytkhedjfdjjeopaa
