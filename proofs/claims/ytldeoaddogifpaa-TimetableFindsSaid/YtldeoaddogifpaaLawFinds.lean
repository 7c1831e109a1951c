/-
  The walk of pairinglaw9.TimetableFinds.
  Condition: none but that the list reads as integers.
-/
import Derived.Test.YtldeoaddogifpaaAwake
import Derived.Test.YtldeoaddogifpaaBaseTT
import Derived.Test.YtldeoaddogifpaaFindsPlain
namespace Go.Proofs.Ytldeoaddogifpaa
set_option linter.unusedSimpArgs false
set_option linter.unusedVariables false
open Go.RowKit

set_option maxRecDepth 100000 in
set_option maxHeartbeats 1600000 in
theorem lawFinds_any (l : List Int) (A : Option Addr) (n c : Nat) (w : World) (h : Sl (Ty.int .i64) w (all_ w) A n c l) :
    Calls Try.prog 7 #[.slice A n c] w (AwPost w) := by
  have HT := Lib.hid (baseTT_any l A n c w h)
  have hval := base_valid l
  have HOK := Lib.hid hval.fine.ok
  have hl7 := base_len l
  have HFI := Lib.hid hval.fine
  have HFB : Hid (∀ i, i < (baseTT l).flights.length → findR (baseTT l) ((baseTT l).flights.getD i noFlight).number ((baseTT l).flights.getD i noFlight).dep = ((i : Int), 0)) := fun i hi => find_base l hi
  have HDB : Hid (∀ i, i < (baseTT l).flights.length → ∃ d, depR (baseTT l) ((baseTT l).flights.getD i noFlight).src ((baseTT l).flights.getD i noFlight).dep (((baseTT l).flights.getD i noFlight).dep + 1) = (d, 0) ∧ (i : Int) ∈ d) := fun i hi => dep_base l hi
  have HW : Hid (∀ i, i < (baseTT l).flights.length → wrap64 (((baseTT l).flights.getD i noFlight).dep + 1) = ((baseTT l).flights.getD i noFlight).dep + 1) := fun i hi => by
    have hok := (fErr_zero (hval.f i hi)).1
    have := hok.dep; have := hok.arr; have := hok.lt
    unfold wrap64; omega
  generalize baseTT l = t at *
  clear h hval
  go_enter Try.func7, Try.ntmps7
  go_wp2_with fail
  refine HT.out.mono ?_
  clear HT
  rintro e w1 ⟨A1, n1, c1, A2, n2, c2, A3, n3, c3, rfl, hs1, hs2, hs3, hb1⟩
  have hn1 : n3 ≤ t.flights.length := Nat.le_of_eq hs3.len
  have hn2 : t.flights.length ≤ n3 := Nat.le_of_eq hs3.len.symm
  have HS : Hid (∀ V, Below w1.heap.size w1 V → Sl Ty.zone V (all_ V) A1 n1 c1 t.zones ∧ Sl Ty.airport V (all_ V) A2 n2 c2 t.airports ∧ Sl Ty.flight V (all_ V) A3 n3 c3 t.flights) := fun V hV => ⟨(hs1.more fun b hb => hb.2).next hV, (hs2.more fun b hb => hb.2).next hV, (hs3.more fun b hb => hb.2).next hV⟩
  have HX : Hid (∀ V, Below (w1.heap.size + 1) (w1.alloc (.cells #[.slice A1 n1 c1, .slice A2 n2 c2, .slice A3 n3 c3] 26)) V → V.heap[w1.heap.size]? = some (.cells #[.slice A1 n1 c1, .slice A2 n2 c2, .slice A3 n3 c3] 26 (0, 0)) ∧ Below w1.heap.size w1 V) := fun V hV => ⟨(hV.block _ (by omega)).trans (heap_alloc_new _ _), ((Below.refl _ _).alloc (Nat.le_refl _) _).trans (hV.mono (by omega))⟩
  have HB1 : Hid (∀ V, Below w1.heap.size w1 V → Below w.heap.size w V) := fun V hV => hb1.trans (hV.mono hb1.size)
  clear hs1 hs2 hs3
  go_wp2_with fail
  have hBW := Below.refl (w1.heap.size + 1) (w1.alloc (.cells #[.slice A1 n1 c1, .slice A2 n2 c2, .slice A3 n3 c3] 26))
  have hWs : w1.heap.size + 1 ≤ (w1.alloc (.cells #[.slice A1 n1 c1, .slice A2 n2 c2, .slice A3 n3 c3] 26)).heap.size := by simp
  generalize w1.alloc (.cells #[.slice A1 n1 c1, .slice A2 n2 c2, .slice A3 n3 c3] 26) = W at *
  go_loopw [4] (fun s wr => ∃ i : Nat, i ≤ n3 ∧ s = .int .i64 i ∧ Below (w1.heap.size + 1) W wr) (fun s _ => n3 - (intOf s).toNat)
  case atStart => exact ⟨0, Nat.zero_le _, rfl, hBW⟩
  case round =>
    obtain ⟨i, hi, rfl, hbr⟩ := hrel
    obtain ⟨hx0, hbw⟩ := HX.out wr hbr
    have hX0 := Lib.hid hx0
    clear hx0
    have hsr := hbr.size
    by_cases hlt : i < n3
    · have hif : i < t.flights.length := by omega
      obtain ⟨bb, o, rfl, hbS, hat⟩ := ((HS.out wr hbw).2.2).flight_at hif
      have x2 : wr.cell? ⟨w1.heap.size, 2, none⟩ = some (.slice (some ⟨bb, o, none⟩) n3 c3) := block_cell hX0.out 2
      have HF := Lib.hid (HFB.out i hif)
      have HD := Lib.hid (HDB.out i hif)
      have HWF := Lib.hid (HW.out i hif)
      generalize t.flights.getD i noFlight = f at *
      have y0 : wr.cell? ⟨bb, o + i * 9, none⟩ = some (.string f.number) := hat 0 _ rfl
      have y1 := hat 1 _ rfl; have y2 := hat 2 _ rfl; have y3 := hat 3 _ rfl; have y4 := hat 4 _ rfl; have y5 := hat 5 _ rfl; have y6 := hat 6 _ rfl; have y7 := hat 7 _ rfl; have y8 := hat 8 _ rfl
      clear hat
      have hm : w1.heap.size < wr.heap.size := by omega
      have q0 : ∀ oo, (wr.alloc oo).cell? ⟨w1.heap.size, 0, none⟩ = some (.slice A1 n1 c1) := fun oo => (World.cell?_alloc_past _ _ _ hm).trans (block_cell hX0.out 0)
      have q1 : ∀ oo, (wr.alloc oo).cell? ⟨w1.heap.size, 1, none⟩ = some (.slice A2 n2 c2) := fun oo => (World.cell?_alloc_past _ _ _ hm).trans (block_cell hX0.out 1)
      have q2 : ∀ oo, (wr.alloc oo).cell? ⟨w1.heap.size, 2, none⟩ = some (.slice (some ⟨bb, o, none⟩) n3 c3) := fun oo => (World.cell?_alloc_past _ _ _ hm).trans (block_cell hX0.out 2)
      go_wp2_with fail
      have hA := hbr.alloc (by omega) (.cells #[.string f.number, .string f.src, .string f.dst, .int .i64 f.dep, .int .i64 f.arr, .string f.kind, .int .i64 f.n0, .int .i64 f.n1, .int .i64 f.n2] 36)
      have hB := heap_alloc_new wr (.cells #[.string f.number, .string f.src, .string f.dst, .int .i64 f.dep, .int .i64 f.arr, .string f.kind, .int .i64 f.n0, .int .i64 f.n1, .int .i64 f.n2] 36)
      have hZ : (wr.alloc (.cells #[.string f.number, .string f.src, .string f.dst, .int .i64 f.dep, .int .i64 f.arr, .string f.kind, .int .i64 f.n0, .int .i64 f.n1, .int .i64 f.n2] 36)).heap.size = wr.heap.size + 1 := by simp
      clear q0 q1 q2 y0 y1 y2 y3 y4 y5 y6 y7 y8 x2
      generalize wr.alloc (.cells #[.string f.number, .string f.src, .string f.dst, .int .i64 f.dep, .int .i64 f.arr, .string f.kind, .int .i64 f.n0, .int .i64 f.n1, .int .i64 f.n2] 36) = V at *
      have HBV := Lib.hid hB
      clear hB
      have hs := HS.out V (HX.out V hA).2
      refine (findFlight_any t A1 A2 _ n1 n2 n3 c1 c2 c3 f.number f.dep V HOK.out hs.1 hs.2.1 hs.2.2).mono ?_
      rw [HF.out]
      clear hs HF
      rintro e V1 ⟨rfl, hv1⟩
      have hA1 : Below (w1.heap.size + 1) W V1 := hA.trans (hv1.mono (by omega))
      have hz1 := hv1.size
      have HX1 := Lib.hid (HX.out V1 hA1).1
      have HB1' : Hid (V1.heap[wr.heap.size]? = _) := (hv1.block _ (by omega)).trans HBV.out
      have q0 : V1.cell? ⟨w1.heap.size, 0, none⟩ = some (.slice A1 n1 c1) := block_cell HX1.out 0
      have q1 : V1.cell? ⟨w1.heap.size, 1, none⟩ = some (.slice A2 n2 c2) := block_cell HX1.out 1
      have q2 : V1.cell? ⟨w1.heap.size, 2, none⟩ = some (.slice (some ⟨bb, o, none⟩) n3 c3) := block_cell HX1.out 2
      have y1 : V1.cell? ⟨wr.heap.size, 1, none⟩ = some (.string f.src) := block_cell HB1'.out 1
      have y3 : V1.cell? ⟨wr.heap.size, 3, none⟩ = some (.int .i64 f.dep) := block_cell HB1'.out 3
      clear hv1 HBV hA
      go_wp2_with fail
      rw [HWF.out]
      obtain ⟨d, hd, hmem⟩ := HD.out
      have hs := HS.out V1 (HX.out V1 hA1).2
      refine (departures_any t A1 A2 _ n1 n2 n3 c1 c2 c3 f.src f.dep (f.dep + 1) V1 HOK.out hs.1 hs.2.1 hs.2.2).mono ?_
      rw [hd]
      clear hs HD hd q0 q1 q2 y1 y3 HX1 HB1'
      rintro e V2 ⟨A8, n8, c8, rfl, hs8, hv2⟩
      have hA2 : Below (w1.heap.size + 1) W V2 := hA1.trans (hv2.mono (by omega))
      have hz2 := hv2.size
      have HS8 := Lib.hid hs8
      have hn8 : n8 ≤ d.length := Nat.le_of_eq hs8.len
      have hm8 : d.length ≤ n8 := Nat.le_of_eq hs8.len.symm
      have hle8 := hs8.le
      unfold maxLen at hle8
      have hii : ((i : Int) != (i : Int)) = false := by simp
      clear hs8
      go_wp2_with fail
      go_loopw [10, 11] (fun sf sj wq => ∃ (j : Nat) (bv : Bool), j ≤ n8 ∧ sj = .int .i64 j ∧ sf = .bool bv ∧ (bv = true ∨ (i : Int) ∈ d.drop j) ∧ wq = V2) (fun _ s _ => n8 - (intOf s).toNat)
      case atStart => exact ⟨0, false, Nat.zero_le _, rfl, rfl, Or.inr hmem, rfl⟩
      case round =>
        obtain ⟨j, bv, hj, rfl, rfl, hbv, rfl⟩ := hrel
        by_cases hlj : j < n8
        · have hjd : j < d.length := by omega
          rw [List.drop_eq_getElem_cons hjd, List.mem_cons] at hbv
          cases bv with
          | true =>
            go_wp2_with fail
            go_roundw
            case rel => exact ⟨j + 1, true, by omega, by go_num, rfl, by simp⟩
            case measure => simp [intOf]; omega
          | false =>
            obtain ⟨b8, o8, rfl, _, hc8⟩ := HS8.out.int_at hjd
            generalize hx : d[j] = x at *
            by_cases hxi : x = (i : Int)
            · have hxe : (x == (i : Int)) = true := by simpa using hxi
              clear hxi hx
              go_wp2_with fail
              go_roundw
              case rel => exact ⟨j + 1, true, by omega, by go_num, rfl, by simp⟩
              case measure => simp [intOf]; omega
            · have hxe : (x == (i : Int)) = false := by simpa using hxi
              have hdr : (i : Int) ∈ d.drop (j + 1) := by
                rcases hbv with h | h | h
                · cases h
                · exact absurd h.symm hxi
                · exact h
              clear hxi hx hbv
              go_wp2_with fail
              go_roundw
              case rel => exact ⟨j + 1, false, by omega, by go_num, rfl, by simp [hdr]⟩
              case measure => simp [intOf]; omega
        · have hbt : bv = true := by
            rcases hbv with h | h
            · exact h
            · rw [List.drop_eq_nil_of_le (by omega)] at h; cases h
          subst hbt
          go_wp2_with fail
          go_roundw
          case rel => exact ⟨i + 1, by omega, by go_num, hA2⟩
          case measure => simp [intOf]; omega
    · have x2 : wr.cell? ⟨w1.heap.size, 2, none⟩ = some (.slice A3 n3 c3) := block_cell hX0.out 2
      go_wp2_with fail
      refine (awake_any wr).mono ?_
      rintro e w9 ⟨rfl, hb9⟩
      go_wp2_with fail
      go_ret
      exact ⟨rfl, (HB1.out wr hbw).trans (hb9.mono (HB1.out wr hbw).size)⟩
end Go.Proofs.Ytldeoaddogifpaa
