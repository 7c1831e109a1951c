/-
  Contract of pairinglaw9.example.
  No condition.
-/
import Derived.Test.YtldeoaddogifpaaBase
import Derived.Deep.RegionHeld3
import Derived.Deep.RegionLaw
namespace Go.Proofs.Ytldeoaddogifpaa
set_option linter.unusedSimpArgs false
set_option linter.unusedVariables false
open Go.RowKit

def sSK1 : ByteArray := ⟨#[83, 75, 49]⟩
def sB737 : ByteArray := ⟨#[98, 55, 51, 55]⟩
def exFlight : GFlight := ⟨sSK1, sAAA, sBBB, 3000, 3060, sB737, 1, 1, 2⟩
def exTT : GTT := ⟨baseZones, baseAirports, [exFlight]⟩
/-- A new timetable is handed back. -/
def TTPost (t : GTT) (w : World) (e : Ending) (w' : World) : Prop :=
  ∃ A1 n1 c1 A2 n2 c2 A3 n3 c3, e = .returned (.agg #[.slice A1 n1 c1, .slice A2 n2 c2, .slice A3 n3 c3]) ∧
    Sl Ty.zone w' (fun b => w.heap.size ≤ b ∧ b < w'.heap.size) A1 n1 c1 t.zones ∧ Sl Ty.airport w' (fun b => w.heap.size ≤ b ∧ b < w'.heap.size) A2 n2 c2 t.airports ∧ Sl Ty.flight w' (fun b => w.heap.size ≤ b ∧ b < w'.heap.size) A3 n3 c3 t.flights ∧ Below w.heap.size w w'

theorem ex_fin {w V : World} {A1 A2 : Option Addr} {n1 c1 n2 c2 : Nat} (F : Nat) (hZ : Sl Ty.zone V (fun b => w.heap.size < b ∧ b < V.heap.size) A1 n1 c1 baseZones) (hA : Sl Ty.airport V (fun b => w.heap.size < b ∧ b < V.heap.size) A2 n2 c2 baseAirports)
    (hF : V.heap[F]? = some (.cells #[.string ⟨#[83, 75, 49]⟩, .string ⟨#[65, 65, 65]⟩, .string ⟨#[66, 66, 66]⟩, .int .i64 3000, .int .i64 3060, .string ⟨#[98, 55, 51, 55]⟩, .int .i64 1, .int .i64 1, .int .i64 2] 36 (0, 0))) (hl : w.heap.size < F) (hb : Below w.heap.size w V) (a b c : Value) :
    TTPost exTT w (.returned (.agg #[.slice A1 n1 c1, .slice A2 n2 c2, .slice (some ⟨F, 0, none⟩) 1 1])) (((V.setCell ⟨w.heap.size, 0, none⟩ a).setCell ⟨w.heap.size, 1, none⟩ b).setCell ⟨w.heap.size, 2, none⟩ c) := by
  have hk : ∀ q, w.heap.size < q → (((V.setCell ⟨w.heap.size, 0, none⟩ a).setCell ⟨w.heap.size, 1, none⟩ b).setCell ⟨w.heap.size, 2, none⟩ c).heap[q]? = V.heap[q]? := fun q hq => by
    rw [heap_setCell_other _ _ _ _ (by simp; omega), heap_setCell_other _ _ _ _ (by simp; omega), heap_setCell_other _ _ _ _ (by simp; omega)]
  refine ⟨_, _, _, _, _, _, _, _, _, rfl, ?_, ?_, ?_, ((hb.setCell (Nat.le_refl _) _).setCell (Nat.le_refl _) _).setCell (Nat.le_refl _) _⟩
  · exact (hZ.keep fun q hq => hk q hq.1).more fun q hq => ⟨by omega, by simpa using hq.2⟩
  · exact (hA.keep fun q hq => hk q hq.1).more fun q hq => ⟨by omega, by simpa using hq.2⟩
  · refine Sl.block (xs := [exFlight]) (t := Ty.flight) ((hk F hl).trans hF) ⟨by omega, by simpa using (Array.getElem?_eq_some_iff.1 hF).1⟩ (by decide) fun i x hi => ?_
    rcases i with _ | i
    · simp at hi; subst hi; rfl
    · simp at hi
set_option maxRecDepth 100000 in
set_option maxHeartbeats 1600000 in
theorem example_any (w : World) : Calls Try.prog 25 #[] w (TTPost exTT w) := by
  have HB0 : Hid (∀ o1 o2, Below w.heap.size w ((w.alloc o1).alloc o2)) := fun o1 o2 => ((Below.refl _ _).alloc (Nat.le_refl _) _).alloc (by simp) _
  have HR0 : Hid (∀ o1 o2, ((w.alloc o1).alloc o2).heap[w.heap.size]? = some o1) := fun o1 o2 => heap_alloc2_old _ _ _
  have HR1 : Hid (∀ o1 o2, ((w.alloc o1).alloc o2).heap[w.heap.size + 1]? = some o2) := fun o1 o2 => heap_alloc2_new _ _ _
  have HZ0 : Hid (∀ o1 o2, ((w.alloc o1).alloc o2).heap.size = w.heap.size + 2) := fun o1 o2 => by simp
  go_enter Try.func25, Try.ntmps25
  go_wp2_with fail
  have hb0 := HB0.out (.cells #[.slice none 0 0, .slice none 0 0, .slice none 0 0] 26) (.cells #[.string sSK1, .string sAAA, .string sBBB, .int .i64 3000, .int .i64 3060, .string sB737, .int .i64 1, .int .i64 1, .int .i64 2] 36)
  have hr0 := HR0.out (.cells #[.slice none 0 0, .slice none 0 0, .slice none 0 0] 26) (.cells #[.string sSK1, .string sAAA, .string sBBB, .int .i64 3000, .int .i64 3060, .string sB737, .int .i64 1, .int .i64 1, .int .i64 2] 36)
  have hr1 := HR1.out (.cells #[.slice none 0 0, .slice none 0 0, .slice none 0 0] 26) (.cells #[.string sSK1, .string sAAA, .string sBBB, .int .i64 3000, .int .i64 3060, .string sB737, .int .i64 1, .int .i64 1, .int .i64 2] 36)
  have hz0 := HZ0.out (.cells #[.slice none 0 0, .slice none 0 0, .slice none 0 0] 26) (.cells #[.string sSK1, .string sAAA, .string sBBB, .int .i64 3000, .int .i64 3060, .string sB737, .int .i64 1, .int .i64 1, .int .i64 2] 36)
  unfold sSK1 sAAA sBBB sB737 at hb0 hr0 hr1 hz0
  generalize (w.alloc (.cells #[.slice none 0 0, .slice none 0 0, .slice none 0 0] 26)).alloc (.cells #[.string ⟨#[83, 75, 49]⟩, .string ⟨#[65, 65, 65]⟩, .string ⟨#[66, 66, 66]⟩, .int .i64 3000, .int .i64 3060, .string ⟨#[98, 55, 51, 55]⟩, .int .i64 1, .int .i64 1, .int .i64 2] 36) = W at *
  clear HB0 HR0 HR1 HZ0
  have hyW : ∀ j, W.cell? ⟨w.heap.size + 1, j, none⟩ = (#[.string ⟨#[83, 75, 49]⟩, .string ⟨#[65, 65, 65]⟩, .string ⟨#[66, 66, 66]⟩, .int .i64 3000, .int .i64 3060, .string ⟨#[98, 55, 51, 55]⟩, .int .i64 1, .int .i64 1, .int .i64 2] : Array Value)[j]? := fun j => block_cell hr1 j
  have hzz : w.heap.size + 2 ≤ W.heap.size := by omega
  have HB0 := Lib.hid hb0; have HR0 := Lib.hid hr0
  clear hb0 hr0 hr1 hz0
  have HD : Hid (∀ q, Below W.heap.size W (W.drewN q)) := fun q => below_drewN (Below.refl _ _) q
  have HDA : Hid (∀ q o, Below W.heap.size W ((W.drewN q).alloc o)) := fun q o => (below_drewN (Below.refl _ _) q).alloc (by simp) o
  go_region_law (first
    | (go_simp; go_at_call 35; refine (zones_any _).mono ?_; rintro e w4 ⟨Az, nz, cz, rfl, hslz, hbz⟩; have hW4 : Below W.heap.size W w4 := (by first | exact (HD.out 1).trans (hbz.mono (HD.out 1).size) | exact (HDA.out 1 _).trans (hbz.mono (HDA.out 1 _).size)); have hs4 := hW4.size; have hy4 : ∀ j, w4.cell? ⟨w.heap.size + 1, j, none⟩ = (#[.string ⟨#[83, 75, 49]⟩, .string ⟨#[65, 65, 65]⟩, .string ⟨#[66, 66, 66]⟩, .int .i64 3000, .int .i64 3060, .string ⟨#[98, 55, 51, 55]⟩, .int .i64 1, .int .i64 1, .int .i64 2] : Array Value)[j]? := fun j => (hW4.cell (by simp; omega)).trans (hyW j); have HZ4 : Hid (∀ V, Below w4.heap.size w4 V → Sl Ty.zone V (fun b => w.heap.size < b ∧ b < V.heap.size) Az nz cz baseZones) := fun V hV => (hslz.keep fun b hb => hV.block b hb.2).more fun b hb => ⟨by have := hb.1; simp at this; omega, by have := hV.size; omega⟩; clear hslz)
    | (go_simp; go_at_call 36; refine (airports_any _).mono ?_; rintro e w5 ⟨Aa, na, ca, rfl, hsla, hba⟩; have h45 : Below w4.heap.size w4 w5 := (by first | exact hba | exact ((Below.refl _ _).alloc (Nat.le_refl _) _).trans (hba.mono (by simp))); have hs5 := h45.size; have hy5 : ∀ j, w5.cell? ⟨w.heap.size + 1, j, none⟩ = (#[.string ⟨#[83, 75, 49]⟩, .string ⟨#[65, 65, 65]⟩, .string ⟨#[66, 66, 66]⟩, .int .i64 3000, .int .i64 3060, .string ⟨#[98, 55, 51, 55]⟩, .int .i64 1, .int .i64 1, .int .i64 2] : Array Value)[j]? := fun j => (h45.cell (by simp; omega)).trans (hy4 j); have HA5 : Hid (∀ V, Below w5.heap.size w5 V → Sl Ty.airport V (fun b => w.heap.size < b ∧ b < V.heap.size) Aa na ca baseAirports) := fun V hV => (hsla.keep fun b hb => hV.block b hb.2).more fun b hb => ⟨by have := hb.1; (try simp at this); omega, by have := hV.size; omega⟩; have hz5 : ∀ j, w5.cell? ⟨w.heap.size, j, none⟩ = (#[.slice none 0 0, .slice none 0 0, .slice none 0 0] : Array Value)[j]? := fun j => ((h45.cell (by simp; omega)).trans (hW4.cell (by simp; omega))).trans (block_cell HR0.out j); have hf5 : ∀ j, w5.frozen? ⟨w.heap.size, j, none⟩ = false := fun j => ((h45.frozen (by simp; omega)).trans (hW4.frozen (by simp; omega))).trans (block_free HR0.out j); have hz6 : ∀ o j, (w5.alloc o).cell? ⟨w.heap.size, j, none⟩ = (#[.slice none 0 0, .slice none 0 0, .slice none 0 0] : Array Value)[j]? := fun o j => (World.cell?_alloc_past _ _ _ (by omega)).trans (hz5 j); have hf6 : ∀ o j, (w5.alloc o).frozen? ⟨w.heap.size, j, none⟩ = false := fun o j => (((Below.refl _ _).alloc (Nat.le_refl _) o).frozen (by simp; omega)).trans (hf5 j); clear hsla)
    | fail)
  · have hwV : ∀ V, Below w5.heap.size w5 V → Below w.heap.size w V := fun V hV => HB0.out.trans ((hW4.mono (by omega)).trans ((h45.mono (by omega)).trans (hV.mono (by omega))))
    have hA : ∀ o, Below w5.heap.size w5 (w5.alloc o) := fun o => (Below.refl _ _).alloc (Nat.le_refl _) o
    have HFIN := Lib.hid (ex_fin (w := w) (V := w5.alloc (.cells #[.string ⟨#[83, 75, 49]⟩, .string ⟨#[65, 65, 65]⟩, .string ⟨#[66, 66, 66]⟩, .int .i64 3000, .int .i64 3060, .string ⟨#[98, 55, 51, 55]⟩, .int .i64 1, .int .i64 1, .int .i64 2] 36)) w5.heap.size (HZ4.out _ (h45.trans ((hA _).mono hs5))) (HA5.out _ (hA _)) (heap_alloc_new _ _) (by omega) (hwV _ (hA _)))
    go_wp2_with fail
    refine bodyPost_ret (v := .agg #[.slice Az nz cz, .slice Aa na ca, .slice (some ⟨w5.heap.size, 0, none⟩) 1 1]) ?_ rfl (HFIN.out _ _ _)
    simp [results, Try.results25, go_sem, hz6]
  · have hwV : ∀ V, Below w5.heap.size w5 V → Below w.heap.size w V := fun V hV => HB0.out.trans ((hW4.mono (by omega)).trans ((h45.mono (by omega)).trans (hV.mono (by omega))))
    have hA : ∀ o, Below w5.heap.size w5 (w5.alloc o) := fun o => (Below.refl _ _).alloc (Nat.le_refl _) o
    have HFIN := Lib.hid (ex_fin (w := w) (V := w5.alloc (.cells #[.string ⟨#[83, 75, 49]⟩, .string ⟨#[65, 65, 65]⟩, .string ⟨#[66, 66, 66]⟩, .int .i64 3000, .int .i64 3060, .string ⟨#[98, 55, 51, 55]⟩, .int .i64 1, .int .i64 1, .int .i64 2] 36)) w5.heap.size (HZ4.out _ (h45.trans ((hA _).mono hs5))) (HA5.out _ (hA _)) (heap_alloc_new _ _) (by omega) (hwV _ (hA _)))
    go_wp2_with fail
    refine bodyPost_ret (v := .agg #[.slice Az nz cz, .slice Aa na ca, .slice (some ⟨w5.heap.size, 0, none⟩) 1 1]) ?_ rfl (HFIN.out _ _ _)
    simp [results, Try.results25, go_sem, hz6]
  · have hwV : ∀ V, Below w5.heap.size w5 V → Below w.heap.size w V := fun V hV => HB0.out.trans ((hW4.mono (by omega)).trans ((h45.mono (by omega)).trans (hV.mono (by omega))))
    have hA : ∀ o, Below w5.heap.size w5 (w5.alloc o) := fun o => (Below.refl _ _).alloc (Nat.le_refl _) o
    have HFIN := Lib.hid (ex_fin (w := w) (V := w5) w4.heap.size (HZ4.out _ h45) (HA5.out _ (Below.refl _ _)) ((hba.block _ (by simp)).trans (heap_alloc_new _ _)) (by omega) (hwV _ (Below.refl _ _)))
    go_wp2_with fail
    refine bodyPost_ret (v := .agg #[.slice Az nz cz, .slice Aa na ca, .slice (some ⟨w4.heap.size, 0, none⟩) 1 1]) ?_ rfl (HFIN.out _ _ _)
    simp [results, Try.results25, go_sem, hz5]
  · have hwV : ∀ V, Below w5.heap.size w5 V → Below w.heap.size w V := fun V hV => HB0.out.trans ((hW4.mono (by omega)).trans ((h45.mono (by omega)).trans (hV.mono (by omega))))
    have hA : ∀ o, Below w5.heap.size w5 (w5.alloc o) := fun o => (Below.refl _ _).alloc (Nat.le_refl _) o
    have HFIN := Lib.hid (ex_fin (w := w) (V := w5.alloc (.cells #[.string ⟨#[83, 75, 49]⟩, .string ⟨#[65, 65, 65]⟩, .string ⟨#[66, 66, 66]⟩, .int .i64 3000, .int .i64 3060, .string ⟨#[98, 55, 51, 55]⟩, .int .i64 1, .int .i64 1, .int .i64 2] 36)) w5.heap.size (HZ4.out _ (h45.trans ((hA _).mono hs5))) (HA5.out _ (hA _)) (heap_alloc_new _ _) (by omega) (hwV _ (hA _)))
    go_wp2_with fail
    refine bodyPost_ret (v := .agg #[.slice Az nz cz, .slice Aa na ca, .slice (some ⟨w5.heap.size, 0, none⟩) 1 1]) ?_ rfl (HFIN.out _ _ _)
    simp [results, Try.results25, go_sem, hz6]
  · have hwV : ∀ V, Below w5.heap.size w5 V → Below w.heap.size w V := fun V hV => HB0.out.trans ((hW4.mono (by omega)).trans ((h45.mono (by omega)).trans (hV.mono (by omega))))
    have hA : ∀ o, Below w5.heap.size w5 (w5.alloc o) := fun o => (Below.refl _ _).alloc (Nat.le_refl _) o
    have HFIN := Lib.hid (ex_fin (w := w) (V := w5) w4.heap.size (HZ4.out _ h45) (HA5.out _ (Below.refl _ _)) ((hba.block _ (by simp)).trans (heap_alloc_new _ _)) (by omega) (hwV _ (Below.refl _ _)))
    go_wp2_with fail
    refine bodyPost_ret (v := .agg #[.slice Az nz cz, .slice Aa na ca, .slice (some ⟨w4.heap.size, 0, none⟩) 1 1]) ?_ rfl (HFIN.out _ _ _)
    simp [results, Try.results25, go_sem, hz5]
  · have hwV : ∀ V, Below w5.heap.size w5 V → Below w.heap.size w V := fun V hV => HB0.out.trans ((hW4.mono (by omega)).trans ((h45.mono (by omega)).trans (hV.mono (by omega))))
    have hA : ∀ o, Below w5.heap.size w5 (w5.alloc o) := fun o => (Below.refl _ _).alloc (Nat.le_refl _) o
    have HFIN := Lib.hid (ex_fin (w := w) (V := w5) W.heap.size (HZ4.out _ h45) (HA5.out _ (Below.refl _ _)) ((h45.block _ (by have := hbz.size; simp at this; omega)).trans ((hbz.block _ (by simp)).trans (heap_alloc_new W.drew _))) (by omega) (hwV _ (Below.refl _ _)))
    go_wp2_with fail
    refine bodyPost_ret (v := .agg #[.slice Az nz cz, .slice Aa na ca, .slice (some ⟨W.heap.size, 0, none⟩) 1 1]) ?_ rfl (HFIN.out _ _ _)
    simp [results, Try.results25, go_sem, hz5]
end Go.Proofs.Ytldeoaddogifpaa
