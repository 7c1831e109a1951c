/-
  Contract of the reference's ValidateCrew (package pairingref9).
  Condition: the data are well formed.
-/
import Derived.Test.YtkhedjfdjjeopaaGreatDoorCrewRef
namespace Go.Proofs.YtkhedjfdjjeopaaGreatDoor
set_option linter.unusedSimpArgs false
set_option linter.unusedVariables false
open Go.RowKit

set_option maxRecDepth 100000 in
set_option maxHeartbeats 800000 in
theorem validateCrewR_any (t : GTT) (l : List GPerson) (A1 A2 A3 A4 : Option Addr) (n1 n2 n3 n4 c1 c2 c3 c4 : Nat) (w : World) (ht : t.ok) (hl : ∀ p ∈ l, p.ok) (hs1 : Sl Ty.zone w (all_ w) A1 n1 c1 t.zones) (hs2 : Sl Ty.airport w (all_ w) A2 n2 c2 t.airports) (hs3 : Sl Ty.flight w (all_ w) A3 n3 c3 t.flights) (hs4 : Sl Ty.person w (all_ w) A4 n4 c4 l) :
    Calls Tryz.prog 31 #[.agg #[.slice A1 n1 c1, .slice A2 n2 c2, .slice A3 n3 c3], .slice A4 n4 c4] w (ErrPost (crewE t l) w) := by
  have l4 : n4 ≤ l.length := Nat.le_of_eq hs4.len
  have l4' : l.length ≤ n4 := Nat.le_of_eq hs4.len.symm
  have m4 := hs4.le
  unfold maxLen at m4
  have HS : Hid (∀ V, Below w.heap.size w V → Sl Ty.zone V (all_ V) A1 n1 c1 t.zones ∧ Sl Ty.airport V (all_ V) A2 n2 c2 t.airports ∧ Sl Ty.flight V (all_ V) A3 n3 c3 t.flights ∧ Sl Ty.person V (all_ V) A4 n4 c4 l) := fun V hV => ⟨hs1.next hV, hs2.next hV, hs3.next hV, hs4.next hV⟩
  have ha := (Below.refl w.heap.size w).alloc (Nat.le_refl _) (.cells #[.slice A1 n1 c1, .slice A2 n2 c2, .slice A3 n3 c3] 26)
  have hx0 := heap_alloc_new w (.cells #[.slice A1 n1 c1, .slice A2 n2 c2, .slice A3 n3 c3] 26)
  have hz0 : (w.alloc (.cells #[.slice A1 n1 c1, .slice A2 n2 c2, .slice A3 n3 c3] 26)).heap.size = w.heap.size + 1 := by simp
  have HA := Lib.hid ha; have HX0 := Lib.hid hx0; have HZ0 := Lib.hid hz0
  have HTO := Lib.hid ht; have HLO := Lib.hid hl
  have HR : Hid (crewE t l = if ttE t ≠ 0 then ttE t else if 64 < l.length then 10 else firstErr (pErr (aCodes t.airports) l) l.length) := rfl
  clear hs1 hs2 hs3 hs4 ha hx0 hz0 ht hl
  go_enter Tryz.func31, Tryz.ntmps31
  go_wp2_with fail
  generalize w.alloc (.cells #[.slice A1 n1 c1, .slice A2 n2 c2, .slice A3 n3 c3] 26) = W at *
  refine (validateR_any t A1 A2 A3 n1 n2 n3 c1 c2 c3 W HTO.out (HS.out W HA.out).1 (HS.out W HA.out).2.1 (HS.out W HA.out).2.2.1).mono ?_
  rintro e w1 ⟨rfl, hb1⟩
  have hbw1 : Below w.heap.size w w1 := HA.out.trans (hb1.mono HA.out.size)
  by_cases h0 : ttE t = 0
  case neg =>
    have hne : (ttE t != 0) = true := by simpa using h0
    have HF : Hid (crewE t l = ttE t) := by show _ = _; rw [HR.out, if_pos h0]
    clear h0
    go_wp2_with fail
    go_ret
    exact ⟨by rw [HF.out]; rfl, hbw1⟩
  rw [h0]
  by_cases hbig : 64 < n4
  · have HF : Hid (crewE t l = 10) := by show _ = _; rw [HR.out, if_neg (fun h => h h0), if_pos (by omega)]
    go_wp2_with fail
    go_ret
    exact ⟨by rw [HF.out]; rfl, hbw1⟩
  have HRR : Hid (crewE t l = firstErr (pErr (aCodes t.airports) l) l.length) := by show _ = _; rw [HR.out, if_neg (fun h => h h0), if_neg (by omega)]
  have b4 : n4 ≤ 64 := by omega
  have HX1 : Hid (w1.heap[w.heap.size]? = some (.cells #[.slice A1 n1 c1, .slice A2 n2 c2, .slice A3 n3 c3] 26)) := (hb1.block _ (by have := HZ0.out; omega)).trans HX0.out
  have hz1 : w.heap.size + 1 ≤ w1.heap.size := by have := hb1.size; have := HZ0.out; omega
  have HB1 := Lib.hid hbw1
  clear hb1 HX0 HZ0 HA h0 hbig HR hbw1
  go_wp2_with fail
  go_loopw [4, 6, 7] (fun _ i _ wr => ∃ k : Nat, k ≤ n4 ∧ i = .int .i64 k ∧ Below (w.heap.size + 1) w1 wr ∧ Hid (zeroTo (pErr (aCodes t.airports) l) k)) (fun _ i _ _ => n4 - (intOf i).toNat)
  case atStart => exact ⟨0, Nat.zero_le _, rfl, Below.refl _ _, zeroTo_zero _⟩
  case round =>
    obtain ⟨k, hk, rfl, hbr, HK⟩ := hrel
    have hbw : Below w.heap.size w wr := HB1.out.trans (hbr.mono (by omega))
    have hX := (hbr.block w.heap.size (by omega)).trans HX1.out
    have x0 : wr.cell? ⟨w.heap.size, 0, none⟩ = some (.slice A1 n1 c1) := block_cell hX 0
    have x1 : wr.cell? ⟨w.heap.size, 1, none⟩ = some (.slice A2 n2 c2) := block_cell hX 1
    have x2 : wr.cell? ⟨w.heap.size, 2, none⟩ = some (.slice A3 n3 c3) := block_cell hX 2
    have hwl := hbr.size
    by_cases hlt : k < n4
    · have HP := Lib.hid (personR_any t l k A1 A2 A3 A4 n1 n2 n3 n4 c1 c2 c3 c4 wr HLO.out (HS.out wr hbw).2.1 (HS.out wr hbw).2.2.2 hlt)
      clear hX
      go_wp2_with fail
      refine HP.out.mono ?_
      rintro e w2 ⟨rfl, hb2⟩
      have hb3 : Below (w.heap.size + 1) w1 w2 := hbr.trans (hb2.mono (by omega))
      have hb4 : Below w.heap.size w w2 := hbw.trans (hb2.mono (by omega))
      clear x0 x1 x2 HP hb2
      by_cases he : pErr (aCodes t.airports) l k = 0
      · have HZ : Hid (zeroTo (pErr (aCodes t.airports) l) (k + 1)) := zeroTo_succ HK.out he
        rw [he]
        clear he
        go_wp2_with fail
        go_roundw
        case rel => exact ⟨k + 1, by omega, by go_num, hb3, HZ⟩
        case measure => simp [intOf]; omega
      · have hne : (pErr (aCodes t.airports) l k != 0) = true := by simpa using he
        have HF : Hid (crewE t l = pErr (aCodes t.airports) l k) := by
          show _ = _
          rw [HRR.out, firstErr_hit HK.out he (by omega)]
        clear he
        go_wp2_with fail
        go_ret
        exact ⟨by rw [HF.out]; rfl, hb4⟩
    · have HF : Hid (crewE t l = 0) := by
        have h8 : firstErr (pErr (aCodes t.airports) l) l.length = 0 := firstErr_none (by rw [show l.length = k by omega]; exact HK.out)
        show _ = _
        rw [HRR.out, h8]
      clear hX x0 x1 x2
      go_wp2_with fail
      go_ret
      exact ⟨by rw [HF.out]; rfl, hbw⟩
end Go.Proofs.YtkhedjfdjjeopaaGreatDoor
