/-
  The walk of pairinglaw9.TimetableLookups.
  Condition: the timetable's data are well formed.
-/
import Derived.Test.YtldeoaddogifpaaAwake
import Derived.Test.YtldeoaddogifpaaLookRef
import Derived.Test.YtldeoaddogifpaaLight
import Derived.BigQuiet
import Derived.Deep.QuietTactic
namespace Go.Proofs.Ytldeoaddogifpaa
set_option linter.unusedSimpArgs false
set_option linter.unusedVariables false
open Go.RowKit

set_option maxRecDepth 100000 in
set_option maxHeartbeats 1600000 in
theorem lawLookups_any (t : GTT) (A1 A2 A3 : Option Addr) (n1 n2 n3 c1 c2 c3 : Nat) (code number : ByteArray) (dep a b : Int) (w : World) (ht : t.ok) (hs1 : Sl Ty.zone w (all_ w) A1 n1 c1 t.zones) (hs2 : Sl Ty.airport w (all_ w) A2 n2 c2 t.airports) (hs3 : Sl Ty.flight w (all_ w) A3 n3 c3 t.flights) :
    Calls Try.prog 8 #[.agg #[.slice A1 n1 c1, .slice A2 n2 c2, .slice A3 n3 c3], .string code, .string number, .int .i64 dep, .agg #[.int .i64 a, .int .i64 b]] w (AwPost w) := by
  have HB0 : Hid (∀ o1 o2, Below w.heap.size w ((w.alloc o1).alloc o2)) := fun o1 o2 => below_alloc2 _ _ _
  have HH0 : Hid (∀ o1 o2, ((w.alloc o1).alloc o2).heap[w.heap.size]? = some o1) := fun o1 o2 => alloc2_0 _ _ _
  have HH1 : Hid (∀ o1 o2, ((w.alloc o1).alloc o2).heap[w.heap.size + 1]? = some o2) := fun o1 o2 => heap_alloc2_new _ _ _
  have HHZ : Hid (∀ o1 o2, ((w.alloc o1).alloc o2).heap.size = w.heap.size + 2) := fun o1 o2 => by simp
  have HS : Hid (∀ V, Below w.heap.size w V → Sl Ty.zone V (all_ V) A1 n1 c1 t.zones ∧ Sl Ty.airport V (all_ V) A2 n2 c2 t.airports ∧ Sl Ty.flight V (all_ V) A3 n3 c3 t.flights) := fun V hV => ⟨hs1.next hV, hs2.next hV, hs3.next hV⟩
  have HT := Lib.hid ht
  clear hs1 hs2 hs3 ht
  go_enter Try.func8, Try.ntmps8
  go_wp2_with fail
  have hb0 := HB0.out (.cells #[.slice A1 n1 c1, .slice A2 n2 c2, .slice A3 n3 c3] 26) (.cells #[.int .i64 a, .int .i64 b] 59)
  have h0 := HH0.out (.cells #[.slice A1 n1 c1, .slice A2 n2 c2, .slice A3 n3 c3] 26) (.cells #[.int .i64 a, .int .i64 b] 59)
  have h1 := HH1.out (.cells #[.slice A1 n1 c1, .slice A2 n2 c2, .slice A3 n3 c3] 26) (.cells #[.int .i64 a, .int .i64 b] 59)
  have hz := HHZ.out (.cells #[.slice A1 n1 c1, .slice A2 n2 c2, .slice A3 n3 c3] 26) (.cells #[.int .i64 a, .int .i64 b] 59)
  generalize (w.alloc (.cells #[.slice A1 n1 c1, .slice A2 n2 c2, .slice A3 n3 c3] 26)).alloc (.cells #[.int .i64 a, .int .i64 b] 59) = W at *
  -- what every later world keeps
  have HX : Hid (∀ V, Below (w.heap.size + 2) W V → V.heap[w.heap.size]? = some (.cells #[.slice A1 n1 c1, .slice A2 n2 c2, .slice A3 n3 c3] 26 (0, 0)) ∧ V.heap[w.heap.size + 1]? = some (.cells #[.int .i64 a, .int .i64 b] 59 (0, 0)) ∧ Below w.heap.size w V ∧ w.heap.size + 2 ≤ V.heap.size) := fun V hV =>
    ⟨(hV.block _ (by omega)).trans h0, (hV.block _ (by omega)).trans h1, hb0.trans (hV.mono (by omega)), by have := hV.size; omega⟩
  have hBW := Below.refl (w.heap.size + 2) W
  have hWs : w.heap.size + 2 ≤ W.heap.size := by omega
  clear HB0 HH0 HH1 HHZ h0 h1 hz
  refine (light_any t A1 A2 A3 n1 n2 n3 c1 c2 c3 W (HS.out W hb0).1).mono ?_
  clear hb0
  rintro e w1 ⟨bl, rfl, hb1⟩
  have hk1 : Below (w.heap.size + 2) W w1 := hb1.mono hWs
  cases bl with
  | false =>
    go_wp2_with fail
    refine (awake_any w1).mono ?_
    rintro e w2 ⟨rfl, hb2⟩
    go_wp2_with fail
    go_ret
    exact ⟨rfl, (HX.out w1 hk1).2.2.1.trans (hb2.mono (HX.out w1 hk1).2.2.1.size)⟩
  | true =>
    have x0 : w1.cell? ⟨w.heap.size, 0, none⟩ = some (.slice A1 n1 c1) := block_cell (HX.out w1 hk1).1 0
    have x1 : w1.cell? ⟨w.heap.size, 1, none⟩ = some (.slice A2 n2 c2) := block_cell (HX.out w1 hk1).1 1
    have x2 : w1.cell? ⟨w.heap.size, 2, none⟩ = some (.slice A3 n3 c3) := block_cell (HX.out w1 hk1).1 2
    go_wp2_with fail
    have hs := HS.out w1 (HX.out w1 hk1).2.2.1
    refine (zoneOf_any t A1 A2 A3 n1 n2 n3 c1 c2 c3 code w1 HT.out hs.1 hs.2.1 hs.2.2).mono ?_
    clear x0 x1 x2 hs hb1
    generalize hr1 : zoneR t code = r1 at *
    rintro e w2 ⟨B1, m1, d1, rfl, hsh1, hb2⟩
    have hk2 : Below (w.heap.size + 2) W w2 := hk1.trans (hb2.mono (HX.out w1 hk1).2.2.2)
    obtain rfl := hsh1.len
    clear hb2 hsh1
    have hz2 := (HX.out w2 hk2).2.2.2
    have hk3 := hk2.alloc hz2 (.cells #[.string r1.1.name, .int .i64 r1.1.off, .slice B1 r1.1.shifts.length d1] 42)
    have HG3 := Lib.hid (heap_alloc_new w2 (.cells #[.string r1.1.name, .int .i64 r1.1.off, .slice B1 r1.1.shifts.length d1] 42))
    have HZ3 : Hid ((w2.alloc (.cells #[.string r1.1.name, .int .i64 r1.1.off, .slice B1 r1.1.shifts.length d1] 42)).heap.size = w2.heap.size + 1) := by show _ = _; simp
    have x0 : (w2.alloc (.cells #[.string r1.1.name, .int .i64 r1.1.off, .slice B1 r1.1.shifts.length d1] 42)).cell? ⟨w.heap.size, 0, none⟩ = some (.slice A1 n1 c1) := block_cell (HX.out _ hk3).1 0
    have x1 : (w2.alloc (.cells #[.string r1.1.name, .int .i64 r1.1.off, .slice B1 r1.1.shifts.length d1] 42)).cell? ⟨w.heap.size, 1, none⟩ = some (.slice A2 n2 c2) := block_cell (HX.out _ hk3).1 1
    have x2 : (w2.alloc (.cells #[.string r1.1.name, .int .i64 r1.1.off, .slice B1 r1.1.shifts.length d1] 42)).cell? ⟨w.heap.size, 2, none⟩ = some (.slice A3 n3 c3) := block_cell (HX.out _ hk3).1 2
    go_wp2_with fail
    generalize w2.alloc (.cells #[.string r1.1.name, .int .i64 r1.1.off, .slice B1 r1.1.shifts.length d1] 42) = w3 at *
    have hs := HS.out w3 (HX.out w3 hk3).2.2.1
    have HC := Lib.hid (zoneOfR_any t A1 A2 A3 n1 n2 n3 c1 c2 c3 code w3 HT.out hs.1 hs.2.1 hs.2.2)
    rw [hr1] at HC
    refine HC.out.mono ?_
    clear x0 x1 x2 hs HC
    rintro e w4 ⟨B2, m2, d2, rfl, hsh2, hb4⟩
    have hk4 : Below (w.heap.size + 2) W w4 := hk3.trans (hb4.mono (HX.out w3 hk3).2.2.2)
    obtain rfl := hsh2.len
    have hz4 := hb4.size
    have HG4 : Hid (w4.heap[w2.heap.size]? = _) := (hb4.block _ (by have := HZ3.out; omega)).trans HG3.out
    have hw24 : w2.heap.size + 1 ≤ w4.heap.size := by have := HZ3.out; omega
    clear hsh2 hb4 HG3 HZ3 hz4
    have hz4 := (HX.out w4 hk4).2.2.2
    have hk5 := hk4.alloc hz4 (.cells #[.string r1.1.name, .int .i64 r1.1.off, .slice B2 r1.1.shifts.length d2] 42)
    have hb5 := (Below.refl w4.heap.size w4).alloc (Nat.le_refl _) (.cells #[.string r1.1.name, .int .i64 r1.1.off, .slice B2 r1.1.shifts.length d2] 42)
    have HG5 := Lib.hid (heap_alloc_new w4 (.cells #[.string r1.1.name, .int .i64 r1.1.off, .slice B2 r1.1.shifts.length d2] 42))
    have HG5' : Hid ((w4.alloc (.cells #[.string r1.1.name, .int .i64 r1.1.off, .slice B2 r1.1.shifts.length d2] 42)).heap[w2.heap.size]? = _) := (hb5.block _ (by omega)).trans HG4.out
    have HZ5 : Hid ((w4.alloc (.cells #[.string r1.1.name, .int .i64 r1.1.off, .slice B2 r1.1.shifts.length d2] 42)).heap.size = w4.heap.size + 1) := by show _ = _; simp
    have x0 : (w4.alloc (.cells #[.string r1.1.name, .int .i64 r1.1.off, .slice B2 r1.1.shifts.length d2] 42)).cell? ⟨w.heap.size, 0, none⟩ = some (.slice A1 n1 c1) := block_cell (HX.out _ hk5).1 0
    have x1 : (w4.alloc (.cells #[.string r1.1.name, .int .i64 r1.1.off, .slice B2 r1.1.shifts.length d2] 42)).cell? ⟨w.heap.size, 1, none⟩ = some (.slice A2 n2 c2) := block_cell (HX.out _ hk5).1 1
    have x2 : (w4.alloc (.cells #[.string r1.1.name, .int .i64 r1.1.off, .slice B2 r1.1.shifts.length d2] 42)).cell? ⟨w.heap.size, 2, none⟩ = some (.slice A3 n3 c3) := block_cell (HX.out _ hk5).1 2
    clear hb5 HG4
    go_wp2_with fail
    generalize w4.alloc (.cells #[.string r1.1.name, .int .i64 r1.1.off, .slice B2 r1.1.shifts.length d2] 42) = w5 at *
    -- what every later world keeps of the two zones
    have HY : Hid (∀ V, Below w5.heap.size w5 V → V.heap[w2.heap.size]? = some (.cells #[.string r1.1.name, .int .i64 r1.1.off, .slice B1 r1.1.shifts.length d1] 42 (0, 0)) ∧ V.heap[w4.heap.size]? = some (.cells #[.string r1.1.name, .int .i64 r1.1.off, .slice B2 r1.1.shifts.length d2] 42 (0, 0)) ∧ Below (w.heap.size + 2) W V) := fun V hV =>
      ⟨(hV.block _ (by have := HZ5.out; omega)).trans HG5'.out, (hV.block _ (by have := HZ5.out; omega)).trans HG5.out, hk5.trans (hV.mono (HX.out w5 hk5).2.2.2)⟩
    have hs := HS.out w5 (HX.out w5 hk5).2.2.1
    have HC := Lib.hid (findFlight_any t A1 A2 A3 n1 n2 n3 c1 c2 c3 number dep w5 HT.out hs.1 hs.2.1 hs.2.2)
    clear HG5 HG5' HZ5 hr1
    generalize hr2 : findR t number dep = r2 at *
    refine HC.out.mono ?_
    clear x0 x1 x2 hs HC
    rintro e w6 ⟨rfl, hb6⟩
    have hk6 := (HY.out w6 hb6).2.2
    have x0 : w6.cell? ⟨w.heap.size, 0, none⟩ = some (.slice A1 n1 c1) := block_cell (HX.out _ hk6).1 0
    have x1 : w6.cell? ⟨w.heap.size, 1, none⟩ = some (.slice A2 n2 c2) := block_cell (HX.out _ hk6).1 1
    have x2 : w6.cell? ⟨w.heap.size, 2, none⟩ = some (.slice A3 n3 c3) := block_cell (HX.out _ hk6).1 2
    go_wp2_with fail
    have hs := HS.out w6 (HX.out w6 hk6).2.2.1
    have HC := Lib.hid (findFlightR_any t A1 A2 A3 n1 n2 n3 c1 c2 c3 number dep w6 HT.out hs.1 hs.2.1 hs.2.2)
    rw [hr2] at HC
    refine HC.out.mono ?_
    clear x0 x1 x2 hs HC hr2
    rintro e w7 ⟨rfl, hb7⟩
    have hb7' : Below w5.heap.size w5 w7 := hb6.trans (hb7.mono hb6.size)
    have hk7 := (HY.out w7 hb7').2.2
    have x0 : w7.cell? ⟨w.heap.size, 0, none⟩ = some (.slice A1 n1 c1) := block_cell (HX.out _ hk7).1 0
    have x1 : w7.cell? ⟨w.heap.size, 1, none⟩ = some (.slice A2 n2 c2) := block_cell (HX.out _ hk7).1 1
    have x2 : w7.cell? ⟨w.heap.size, 2, none⟩ = some (.slice A3 n3 c3) := block_cell (HX.out _ hk7).1 2
    have s0 : w7.cell? ⟨w.heap.size + 1, 0, none⟩ = some (.int .i64 a) := block_cell (HX.out _ hk7).2.1 0
    have s1 : w7.cell? ⟨w.heap.size + 1, 1, none⟩ = some (.int .i64 b) := block_cell (HX.out _ hk7).2.1 1
    clear hb7 hb6
    go_wp2_with fail
    have hs := HS.out w7 (HX.out w7 hk7).2.2.1
    have HC := Lib.hid (departures_any t A1 A2 A3 n1 n2 n3 c1 c2 c3 code a b w7 HT.out hs.1 hs.2.1 hs.2.2)
    generalize hr3 : depR t code a b = r3 at *
    refine HC.out.mono ?_
    clear x0 x1 x2 s0 s1 hs HC
    rintro e w8 ⟨B8, m8, d8, rfl, hs8, hb8⟩
    obtain rfl := hs8.len
    have hb8' : Below w5.heap.size w5 w8 := hb7'.trans (hb8.mono hb7'.size)
    have hk8 := (HY.out w8 hb8').2.2
    have x0 : w8.cell? ⟨w.heap.size, 0, none⟩ = some (.slice A1 n1 c1) := block_cell (HX.out _ hk8).1 0
    have x1 : w8.cell? ⟨w.heap.size, 1, none⟩ = some (.slice A2 n2 c2) := block_cell (HX.out _ hk8).1 1
    have x2 : w8.cell? ⟨w.heap.size, 2, none⟩ = some (.slice A3 n3 c3) := block_cell (HX.out _ hk8).1 2
    have s0 : w8.cell? ⟨w.heap.size + 1, 0, none⟩ = some (.int .i64 a) := block_cell (HX.out _ hk8).2.1 0
    have s1 : w8.cell? ⟨w.heap.size + 1, 1, none⟩ = some (.int .i64 b) := block_cell (HX.out _ hk8).2.1 1
    have HS8 := Lib.hid hs8
    have hle8 := hs8.le
    unfold maxLen at hle8
    clear hs8
    go_wp2_with fail
    have hs := HS.out w8 (HX.out w8 hk8).2.2.1
    have HC := Lib.hid (departuresR_any t A1 A2 A3 n1 n2 n3 c1 c2 c3 code a b w8 HT.out hs.1 hs.2.1 hs.2.2)
    rw [hr3] at HC
    refine HC.out.mono ?_
    clear x0 x1 x2 s0 s1 hs HC hr3
    rintro e w9 ⟨B9, m9, d9, rfl, hs9, hb9⟩
    obtain rfl := hs9.len
    have hb9' : Below w5.heap.size w5 w9 := hb8'.trans (hb9.mono hb8'.size)
    obtain ⟨g1, g2, hk9⟩ := HY.out w9 hb9'
    have HS8' := Lib.hid (HS8.out.keep (w' := w9) (fun q hq => hb9.block q hq.2))
    have HS9 := Lib.hid hs9
    have hz89 := hb9.size
    have y0 : w9.cell? ⟨w2.heap.size, 0, none⟩ = some (.string r1.1.name) := block_cell g1 0
    have y1 : w9.cell? ⟨w2.heap.size, 1, none⟩ = some (.int .i64 r1.1.off) := block_cell g1 1
    have y2 : w9.cell? ⟨w2.heap.size, 2, none⟩ = some (.slice B1 r1.1.shifts.length d1) := block_cell g1 2
    have u0 : w9.cell? ⟨w4.heap.size, 0, none⟩ = some (.string r1.1.name) := block_cell g2 0
    have u1 : w9.cell? ⟨w4.heap.size, 1, none⟩ = some (.int .i64 r1.1.off) := block_cell g2 1
    have u2 : w9.cell? ⟨w4.heap.size, 2, none⟩ = some (.slice B2 r1.1.shifts.length d2) := block_cell g2 2
    have e1 : (r1.1.name.toList == r1.1.name.toList) = true := by simp
    have HW9 := Lib.hid (HX.out w9 hk9).2.2.1
    generalize hn9 : r1.1.shifts.length = ns at *
    generalize r1.1.name = nm at *
    generalize r1.1.off = off at *
    generalize r1.2 = er1 at *
    generalize r2.1 = fi at *
    generalize r2.2 = er2 at *
    generalize r3.2 = er3 at *
    have hn8 : r3.1.length ≤ r3.1.length := Nat.le_refl _
    clear g1 g2 hs9 HS8 hn9 HY HX hb9 hb9' hk9 hb8 hb8' hk8 hb7' hk7 hk6 hk5 hk4 hk3 hk2 hk1
    go_wp2_with fail
    generalize r3.1 = l3 at *
    go_loopw [23] (fun s wr => ∃ k : Nat, k ≤ l3.length ∧ s = .int .i64 k ∧ Below w9.heap.size w9 wr) (fun s _ => l3.length - (intOf s).toNat)
    case atStart => exact ⟨0, Nat.zero_le _, rfl, Below.refl _ _⟩
    case round =>
      obtain ⟨k, hk, rfl, hbr⟩ := hrel
      by_cases hlt : k < l3.length
      · obtain ⟨b8, o8, rfl, _, v8⟩ := (HS8'.out.keep (w' := wr) (fun q hq => hbr.block q (Nat.lt_of_lt_of_le hq.2 hz89))).int_at hlt
        obtain ⟨b9, o9, rfl, _, v9⟩ := (HS9.out.keep (w' := wr) (fun q hq => hbr.block q hq.2)).int_at hlt
        generalize l3[k] = x at *
        have hxx : (x != x) = false := by simp
        have hk0 : (0 : Int) ≤ (k : Int) := by omega
        have hkl : (k : Int) < (l3.length : Int) := by omega
        go_wp2_with fail
        go_quiet (fail)
        go_wp2_with fail
        go_roundw
        case rel => exact ⟨k + 1, by omega, by go_num, below_drewN hbr _⟩
        case measure => simp [intOf]; omega
      · go_wp2_with fail
        refine (awake_any wr).mono ?_
        rintro e w10 ⟨rfl, hb10⟩
        go_wp2_with fail
        go_ret
        have h9 := HW9.out.trans (hbr.mono HW9.out.size)
        exact ⟨rfl, h9.trans (hb10.mono h9.size)⟩
end Go.Proofs.Ytldeoaddogifpaa
