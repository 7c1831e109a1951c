/-
  Joined texts: Example; Awake; LawTimetableParses; CardTimetableParses. What each proves stands ahead of it, with its conditions.
-/
import Derived.Test.YtldeoaddogifpaaGreatDoorBase
import Derived.Deep.RegionHeld3
import Derived.Deep.RegionLaw
import Derived.Test.YtldeoaddogifpaaGreatDoorTTEncode
import Derived.Test.YtldeoaddogifpaaGreatDoorMPE
import Derived.Test.YtldeoaddogifpaaGreatDoorMPD
/-
  Contract of pairinglaw9.example.
  No condition.
-/
namespace Go.Proofs.YtldeoaddogifpaaGreatDoor
set_option linter.unusedSimpArgs false
set_option linter.unusedVariables false
open Go.RowKit

def sSK1 : ByteArray := ⟨#[83, 75, 49]⟩
def sB737 : ByteArray := ⟨#[98, 55, 51, 55]⟩
def exFlight : GFlight := ⟨sSK1, sAAA, sBBB, 3000, 3060, sB737, 1, 1, 2⟩
def exTT : GTT := ⟨baseZones, baseAirports, [exFlight]⟩
/-- A new timetable is handed back. -/
def TTPost (t : GTT) (w : World) (e : Ending) (w' : World) : Prop :=
  ∃ A1 n1 c1 A2 n2 c2 A3 n3 c3, e = .returned (.agg #[.slice A1 n1 c1, .slice A2 n2 c2, .slice A3 n3 c3]) ∧
    Sl Ty.zone w' (fun b => w.heap.size ≤ b ∧ b < w'.heap.size) A1 n1 c1 t.zones ∧ Sl Ty.airport w' (fun b => w.heap.size ≤ b ∧ b < w'.heap.size) A2 n2 c2 t.airports ∧ Sl Ty.flight w' (fun b => w.heap.size ≤ b ∧ b < w'.heap.size) A3 n3 c3 t.flights ∧ Below w.heap.size w w'

theorem ex_fin {w V : World} {A1 A2 : Option Addr} {n1 c1 n2 c2 : Nat} (F : Nat) (hZ : Sl Ty.zone V (fun b => w.heap.size < b ∧ b < V.heap.size) A1 n1 c1 baseZones) (hA : Sl Ty.airport V (fun b => w.heap.size < b ∧ b < V.heap.size) A2 n2 c2 baseAirports)
    (hF : V.heap[F]? = some (.cells #[.string ⟨#[83, 75, 49]⟩, .string ⟨#[65, 65, 65]⟩, .string ⟨#[66, 66, 66]⟩, .int .i64 3000, .int .i64 3060, .string ⟨#[98, 55, 51, 55]⟩, .int .i64 1, .int .i64 1, .int .i64 2] 47 (0, 0))) (hl : w.heap.size < F) (hb : Below w.heap.size w V) (a b c : Value) :
    TTPost exTT w (.returned (.agg #[.slice A1 n1 c1, .slice A2 n2 c2, .slice (some ⟨F, 0, none⟩) 1 1])) (((V.setCell ⟨w.heap.size, 0, none⟩ a).setCell ⟨w.heap.size, 1, none⟩ b).setCell ⟨w.heap.size, 2, none⟩ c) := by
  have hk : ∀ q, w.heap.size < q → (((V.setCell ⟨w.heap.size, 0, none⟩ a).setCell ⟨w.heap.size, 1, none⟩ b).setCell ⟨w.heap.size, 2, none⟩ c).heap[q]? = V.heap[q]? := fun q hq => by
    rw [heap_setCell_other _ _ _ _ (by simp; omega), heap_setCell_other _ _ _ _ (by simp; omega), heap_setCell_other _ _ _ _ (by simp; omega)]
  refine ⟨_, _, _, _, _, _, _, _, _, rfl, ?_, ?_, ?_, ((hb.setCell (Nat.le_refl _) _).setCell (Nat.le_refl _) _).setCell (Nat.le_refl _) _⟩
  · exact (hZ.keep fun q hq => hk q hq.1).more fun q hq => ⟨by omega, by simpa using hq.2⟩
  · exact (hA.keep fun q hq => hk q hq.1).more fun q hq => ⟨by omega, by simpa using hq.2⟩
  · refine Sl.block (xs := [exFlight]) (t := Ty.flight) ((hk F hl).trans hF) ⟨by omega, by simpa using (Array.getElem?_eq_some_iff.1 hF).1⟩ (by decide) fun i x hi => ?_
    rcases i with _ | i
    · simp at hi; subst hi; rfl
    · simp at hi
set_option maxRecDepth 100000 in
set_option maxHeartbeats 1600000 in
theorem example_any (w : World) : Calls Tryz.prog 15 #[] w (TTPost exTT w) := by
  have HB0 : Hid (∀ o1 o2, Below w.heap.size w ((w.alloc o1).alloc o2)) := fun o1 o2 => ((Below.refl _ _).alloc (Nat.le_refl _) _).alloc (by simp) _
  have HR0 : Hid (∀ o1 o2, ((w.alloc o1).alloc o2).heap[w.heap.size]? = some o1) := fun o1 o2 => heap_alloc2_old _ _ _
  have HR1 : Hid (∀ o1 o2, ((w.alloc o1).alloc o2).heap[w.heap.size + 1]? = some o2) := fun o1 o2 => heap_alloc2_new _ _ _
  have HZ0 : Hid (∀ o1 o2, ((w.alloc o1).alloc o2).heap.size = w.heap.size + 2) := fun o1 o2 => by simp
  go_enter Tryz.func15, Tryz.ntmps15
  go_wp2_with fail
  have hb0 := HB0.out (.cells #[.slice none 0 0, .slice none 0 0, .slice none 0 0] 27) (.cells #[.string sSK1, .string sAAA, .string sBBB, .int .i64 3000, .int .i64 3060, .string sB737, .int .i64 1, .int .i64 1, .int .i64 2] 47)
  have hr0 := HR0.out (.cells #[.slice none 0 0, .slice none 0 0, .slice none 0 0] 27) (.cells #[.string sSK1, .string sAAA, .string sBBB, .int .i64 3000, .int .i64 3060, .string sB737, .int .i64 1, .int .i64 1, .int .i64 2] 47)
  have hr1 := HR1.out (.cells #[.slice none 0 0, .slice none 0 0, .slice none 0 0] 27) (.cells #[.string sSK1, .string sAAA, .string sBBB, .int .i64 3000, .int .i64 3060, .string sB737, .int .i64 1, .int .i64 1, .int .i64 2] 47)
  have hz0 := HZ0.out (.cells #[.slice none 0 0, .slice none 0 0, .slice none 0 0] 27) (.cells #[.string sSK1, .string sAAA, .string sBBB, .int .i64 3000, .int .i64 3060, .string sB737, .int .i64 1, .int .i64 1, .int .i64 2] 47)
  unfold sSK1 sAAA sBBB sB737 at hb0 hr0 hr1 hz0
  generalize (w.alloc (.cells #[.slice none 0 0, .slice none 0 0, .slice none 0 0] 27)).alloc (.cells #[.string ⟨#[83, 75, 49]⟩, .string ⟨#[65, 65, 65]⟩, .string ⟨#[66, 66, 66]⟩, .int .i64 3000, .int .i64 3060, .string ⟨#[98, 55, 51, 55]⟩, .int .i64 1, .int .i64 1, .int .i64 2] 47) = W at *
  clear HB0 HR0 HR1 HZ0
  have hyW : ∀ j, W.cell? ⟨w.heap.size + 1, j, none⟩ = (#[.string ⟨#[83, 75, 49]⟩, .string ⟨#[65, 65, 65]⟩, .string ⟨#[66, 66, 66]⟩, .int .i64 3000, .int .i64 3060, .string ⟨#[98, 55, 51, 55]⟩, .int .i64 1, .int .i64 1, .int .i64 2] : Array Value)[j]? := fun j => block_cell hr1 j
  have hzz : w.heap.size + 2 ≤ W.heap.size := by omega
  have HB0 := Lib.hid hb0; have HR0 := Lib.hid hr0
  clear hb0 hr0 hr1 hz0
  have HD : Hid (∀ q, Below W.heap.size W (W.drewN q)) := fun q => below_drewN (Below.refl _ _) q
  have HDA : Hid (∀ q o, Below W.heap.size W ((W.drewN q).alloc o)) := fun q o => (below_drewN (Below.refl _ _) q).alloc (by simp) o
  go_region_law (first
    | (go_simp; go_at_call 31; refine (zones_any _).mono ?_; rintro e w4 ⟨Az, nz, cz, rfl, hslz, hbz⟩; have hW4 : Below W.heap.size W w4 := (by first | exact (HD.out 1).trans (hbz.mono (HD.out 1).size) | exact (HDA.out 1 _).trans (hbz.mono (HDA.out 1 _).size)); have hs4 := hW4.size; have hy4 : ∀ j, w4.cell? ⟨w.heap.size + 1, j, none⟩ = (#[.string ⟨#[83, 75, 49]⟩, .string ⟨#[65, 65, 65]⟩, .string ⟨#[66, 66, 66]⟩, .int .i64 3000, .int .i64 3060, .string ⟨#[98, 55, 51, 55]⟩, .int .i64 1, .int .i64 1, .int .i64 2] : Array Value)[j]? := fun j => (hW4.cell (by simp; omega)).trans (hyW j); have HZ4 : Hid (∀ V, Below w4.heap.size w4 V → Sl Ty.zone V (fun b => w.heap.size < b ∧ b < V.heap.size) Az nz cz baseZones) := fun V hV => (hslz.keep fun b hb => hV.block b hb.2).more fun b hb => ⟨by have := hb.1; simp at this; omega, by have := hV.size; omega⟩; clear hslz)
    | (go_simp; go_at_call 32; refine (airports_any _).mono ?_; rintro e w5 ⟨Aa, na, ca, rfl, hsla, hba⟩; have h45 : Below w4.heap.size w4 w5 := (by first | exact hba | exact ((Below.refl _ _).alloc (Nat.le_refl _) _).trans (hba.mono (by simp))); have hs5 := h45.size; have hy5 : ∀ j, w5.cell? ⟨w.heap.size + 1, j, none⟩ = (#[.string ⟨#[83, 75, 49]⟩, .string ⟨#[65, 65, 65]⟩, .string ⟨#[66, 66, 66]⟩, .int .i64 3000, .int .i64 3060, .string ⟨#[98, 55, 51, 55]⟩, .int .i64 1, .int .i64 1, .int .i64 2] : Array Value)[j]? := fun j => (h45.cell (by simp; omega)).trans (hy4 j); have HA5 : Hid (∀ V, Below w5.heap.size w5 V → Sl Ty.airport V (fun b => w.heap.size < b ∧ b < V.heap.size) Aa na ca baseAirports) := fun V hV => (hsla.keep fun b hb => hV.block b hb.2).more fun b hb => ⟨by have := hb.1; (try simp at this); omega, by have := hV.size; omega⟩; have hz5 : ∀ j, w5.cell? ⟨w.heap.size, j, none⟩ = (#[.slice none 0 0, .slice none 0 0, .slice none 0 0] : Array Value)[j]? := fun j => ((h45.cell (by simp; omega)).trans (hW4.cell (by simp; omega))).trans (block_cell HR0.out j); have hf5 : ∀ j, w5.frozen? ⟨w.heap.size, j, none⟩ = false := fun j => ((h45.frozen (by simp; omega)).trans (hW4.frozen (by simp; omega))).trans (block_free HR0.out j); have hz6 : ∀ o j, (w5.alloc o).cell? ⟨w.heap.size, j, none⟩ = (#[.slice none 0 0, .slice none 0 0, .slice none 0 0] : Array Value)[j]? := fun o j => (World.cell?_alloc_past _ _ _ (by omega)).trans (hz5 j); have hf6 : ∀ o j, (w5.alloc o).frozen? ⟨w.heap.size, j, none⟩ = false := fun o j => (((Below.refl _ _).alloc (Nat.le_refl _) o).frozen (by simp; omega)).trans (hf5 j); clear hsla)
    | fail)
  · have hwV : ∀ V, Below w5.heap.size w5 V → Below w.heap.size w V := fun V hV => HB0.out.trans ((hW4.mono (by omega)).trans ((h45.mono (by omega)).trans (hV.mono (by omega))))
    have hA : ∀ o, Below w5.heap.size w5 (w5.alloc o) := fun o => (Below.refl _ _).alloc (Nat.le_refl _) o
    have HFIN := Lib.hid (ex_fin (w := w) (V := w5.alloc (.cells #[.string ⟨#[83, 75, 49]⟩, .string ⟨#[65, 65, 65]⟩, .string ⟨#[66, 66, 66]⟩, .int .i64 3000, .int .i64 3060, .string ⟨#[98, 55, 51, 55]⟩, .int .i64 1, .int .i64 1, .int .i64 2] 47)) w5.heap.size (HZ4.out _ (h45.trans ((hA _).mono hs5))) (HA5.out _ (hA _)) (heap_alloc_new _ _) (by omega) (hwV _ (hA _)))
    go_wp2_with fail
    refine bodyPost_ret (v := .agg #[.slice Az nz cz, .slice Aa na ca, .slice (some ⟨w5.heap.size, 0, none⟩) 1 1]) ?_ rfl (HFIN.out _ _ _)
    simp [results, Tryz.results15, go_sem, hz6]
  · have hwV : ∀ V, Below w5.heap.size w5 V → Below w.heap.size w V := fun V hV => HB0.out.trans ((hW4.mono (by omega)).trans ((h45.mono (by omega)).trans (hV.mono (by omega))))
    have hA : ∀ o, Below w5.heap.size w5 (w5.alloc o) := fun o => (Below.refl _ _).alloc (Nat.le_refl _) o
    have HFIN := Lib.hid (ex_fin (w := w) (V := w5.alloc (.cells #[.string ⟨#[83, 75, 49]⟩, .string ⟨#[65, 65, 65]⟩, .string ⟨#[66, 66, 66]⟩, .int .i64 3000, .int .i64 3060, .string ⟨#[98, 55, 51, 55]⟩, .int .i64 1, .int .i64 1, .int .i64 2] 47)) w5.heap.size (HZ4.out _ (h45.trans ((hA _).mono hs5))) (HA5.out _ (hA _)) (heap_alloc_new _ _) (by omega) (hwV _ (hA _)))
    go_wp2_with fail
    refine bodyPost_ret (v := .agg #[.slice Az nz cz, .slice Aa na ca, .slice (some ⟨w5.heap.size, 0, none⟩) 1 1]) ?_ rfl (HFIN.out _ _ _)
    simp [results, Tryz.results15, go_sem, hz6]
  · have hwV : ∀ V, Below w5.heap.size w5 V → Below w.heap.size w V := fun V hV => HB0.out.trans ((hW4.mono (by omega)).trans ((h45.mono (by omega)).trans (hV.mono (by omega))))
    have hA : ∀ o, Below w5.heap.size w5 (w5.alloc o) := fun o => (Below.refl _ _).alloc (Nat.le_refl _) o
    have HFIN := Lib.hid (ex_fin (w := w) (V := w5) w4.heap.size (HZ4.out _ h45) (HA5.out _ (Below.refl _ _)) ((hba.block _ (by simp)).trans (heap_alloc_new _ _)) (by omega) (hwV _ (Below.refl _ _)))
    go_wp2_with fail
    refine bodyPost_ret (v := .agg #[.slice Az nz cz, .slice Aa na ca, .slice (some ⟨w4.heap.size, 0, none⟩) 1 1]) ?_ rfl (HFIN.out _ _ _)
    simp [results, Tryz.results15, go_sem, hz5]
  · have hwV : ∀ V, Below w5.heap.size w5 V → Below w.heap.size w V := fun V hV => HB0.out.trans ((hW4.mono (by omega)).trans ((h45.mono (by omega)).trans (hV.mono (by omega))))
    have hA : ∀ o, Below w5.heap.size w5 (w5.alloc o) := fun o => (Below.refl _ _).alloc (Nat.le_refl _) o
    have HFIN := Lib.hid (ex_fin (w := w) (V := w5.alloc (.cells #[.string ⟨#[83, 75, 49]⟩, .string ⟨#[65, 65, 65]⟩, .string ⟨#[66, 66, 66]⟩, .int .i64 3000, .int .i64 3060, .string ⟨#[98, 55, 51, 55]⟩, .int .i64 1, .int .i64 1, .int .i64 2] 47)) w5.heap.size (HZ4.out _ (h45.trans ((hA _).mono hs5))) (HA5.out _ (hA _)) (heap_alloc_new _ _) (by omega) (hwV _ (hA _)))
    go_wp2_with fail
    refine bodyPost_ret (v := .agg #[.slice Az nz cz, .slice Aa na ca, .slice (some ⟨w5.heap.size, 0, none⟩) 1 1]) ?_ rfl (HFIN.out _ _ _)
    simp [results, Tryz.results15, go_sem, hz6]
  · have hwV : ∀ V, Below w5.heap.size w5 V → Below w.heap.size w V := fun V hV => HB0.out.trans ((hW4.mono (by omega)).trans ((h45.mono (by omega)).trans (hV.mono (by omega))))
    have hA : ∀ o, Below w5.heap.size w5 (w5.alloc o) := fun o => (Below.refl _ _).alloc (Nat.le_refl _) o
    have HFIN := Lib.hid (ex_fin (w := w) (V := w5) w4.heap.size (HZ4.out _ h45) (HA5.out _ (Below.refl _ _)) ((hba.block _ (by simp)).trans (heap_alloc_new _ _)) (by omega) (hwV _ (Below.refl _ _)))
    go_wp2_with fail
    refine bodyPost_ret (v := .agg #[.slice Az nz cz, .slice Aa na ca, .slice (some ⟨w4.heap.size, 0, none⟩) 1 1]) ?_ rfl (HFIN.out _ _ _)
    simp [results, Tryz.results15, go_sem, hz5]
  · have hwV : ∀ V, Below w5.heap.size w5 V → Below w.heap.size w V := fun V hV => HB0.out.trans ((hW4.mono (by omega)).trans ((h45.mono (by omega)).trans (hV.mono (by omega))))
    have hA : ∀ o, Below w5.heap.size w5 (w5.alloc o) := fun o => (Below.refl _ _).alloc (Nat.le_refl _) o
    have HFIN := Lib.hid (ex_fin (w := w) (V := w5) W.heap.size (HZ4.out _ h45) (HA5.out _ (Below.refl _ _)) ((h45.block _ (by have := hbz.size; simp at this; omega)).trans ((hbz.block _ (by simp)).trans (heap_alloc_new W.drew _))) (by omega) (hwV _ (Below.refl _ _)))
    go_wp2_with fail
    refine bodyPost_ret (v := .agg #[.slice Az nz cz, .slice Aa na ca, .slice (some ⟨W.heap.size, 0, none⟩) 1 1]) ?_ rfl (HFIN.out _ _ _)
    simp [results, Tryz.results15, go_sem, hz5]
end Go.Proofs.YtldeoaddogifpaaGreatDoor
/-
  Contract of pairinglaw9.awake: it returns true.
  No condition.
-/
namespace Go.Proofs.YtldeoaddogifpaaGreatDoor
set_option linter.unusedSimpArgs false
set_option linter.unusedVariables false
open Go.RowKit

theorem ex_zero : ttE exTT = 0 := by decide +kernel
def emptyZone : GZone := ⟨⟨#[]⟩, 0, []⟩
def emptyTT : GTT := ⟨[emptyZone], [], []⟩
theorem empty_one : ttE emptyTT = 1 := by decide +kernel
theorem len16 {n : Nat} (h : n ≤ 16) : n ≤ maxLen := by unfold maxLen; omega
theorem GTT.fine.ok {t : GTT} (h : t.fine) : t.ok := by
  refine ⟨fun z hz => ?_, fun a ha => ?_, fun f hf => ?_⟩
  · obtain ⟨h1, h2, h3, h4⟩ := h.z z hz
    exact ⟨len16 h1, by omega, fun s hs => by obtain ⟨g1, g2⟩ := h4 s hs; exact ⟨by omega, by omega⟩⟩
  · obtain ⟨h1, h2⟩ := h.a a ha
    exact ⟨len16 h1, len16 h2⟩
  · obtain ⟨h1, h2, h3, h4, h5, h6, h7, h8, h9⟩ := h.f f hf
    exact ⟨len16 h1, len16 h2, len16 h3, len16 h4, by omega, by omega, by omega, by omega, by omega⟩
theorem ex_ok : exTT.ok := (ttE_zero.1 ex_zero).fine.ok
theorem empty_ok : emptyTT.ok := by
  refine ⟨fun z hz => ?_, fun a ha => (by cases ha), fun f hf => (by cases hf)⟩
  simp [emptyTT] at hz
  subst hz
  exact ⟨len16 (by decide), by decide, fun s hs => by cases hs⟩
def AwPost (w : World) (e : Ending) (w' : World) : Prop := e = .returned (.bool true) ∧ Below w.heap.size w w'
def exBytes : List Int := frameB 1 (bodyB exTT)
theorem ex_bytes : bytesL exBytes := frameB_bytes ⟨by decide, by decide⟩ (bodyB_bytes (ttE_zero.1 ex_zero).fine)
theorem ex_dec : decTT exBytes = (exTT, 0) := decTT_back exTT (ttE_zero.1 ex_zero)

set_option maxRecDepth 100000 in
set_option maxHeartbeats 1600000 in
theorem awake_any (w : World) : Calls Tryz.prog 6 #[] w (AwPost w) := by
  have HE := Lib.hid (example_any w)
  go_enter Tryz.func6, Tryz.ntmps6
  go_wp2_with fail
  refine HE.out.mono ?_
  rintro e w1 ⟨A1, n1, c1, A2, n2, c2, A3, n3, c3, rfl, hs1, hs2, hs3, hb1⟩
  clear HE
  have HEN := Lib.hid (ttEncode_ok exTT A1 A2 A3 n1 n2 n3 c1 c2 c3 w1 ex_ok ex_zero (hs1.more fun b hb => hb.2) (hs2.more fun b hb => hb.2) (hs3.more fun b hb => hb.2))
  clear hs1 hs2 hs3
  go_wp2_with fail
  refine HEN.out.mono ?_
  clear HEN
  rintro e w2 ⟨v2, rfl, hown2, hb2⟩
  obtain ⟨Ab, cb, rfl, hslb⟩ := hown2.sl
  have HD := Lib.hid (ttDecode_any exBytes Ab _ cb w2 (hslb.more fun b hb => hb.2) ex_bytes)
  rw [ex_dec] at HD
  have hlb : (frameB 1 (bodyB exTT)).length = exBytes.length := rfl
  rw [hlb]
  clear hown2 hslb hlb
  go_wp2_with fail
  refine HD.out.mono ?_
  clear HD
  rintro e w3 ⟨B1, m1, d1, B2, m2, d2, B3, m3, d3, rfl, ht1, ht2, ht3, hb3⟩
  have hm3 : m3 = 1 := ht3.len
  subst hm3
  obtain ⟨b, o, rfl, hbS, hat⟩ := ht3.flight_at (k := 0) (by decide)
  have y0 : w3.cell? ⟨b, o, none⟩ = some (.string ⟨#[83, 75, 49]⟩) := hat 0 _ rfl
  have hbl : b < w3.heap.size := hbS.2
  have hy : ∀ o1, (w3.alloc o1).cell? ⟨b, o, none⟩ = some (.string ⟨#[83, 75, 49]⟩) := fun o1 => (World.cell?_alloc_past _ _ _ hbl).trans y0
  have hbF : ∀ o1 o2, Below w.heap.size w ((w3.alloc o1).alloc o2) := fun o1 o2 => by
    have s1 := hb1.size; have s2 := hb2.size; have s3 := hb3.size
    have h3 : Below w.heap.size w w3 := hb1.trans ((hb2.mono s1).trans (hb3.mono (by omega)))
    exact (h3.alloc (by omega) o1).alloc (by simp; omega) o2
  have HBF := Lib.hid hbF
  have HV : Hid (∀ o1, Calls Tryz.prog 17 #[.agg #[.slice (some ⟨w3.heap.size + 1, 0, none⟩) 1 1, .slice none 0 0, .slice none 0 0]] ((w3.alloc o1).alloc (.cells #[.string ⟨#[]⟩, .int .i64 0, .slice none 0 0] 51)) (ErrPost 1 ((w3.alloc o1).alloc (.cells #[.string ⟨#[]⟩, .int .i64 0, .slice none 0 0] 51)))) := fun o1 => by
    have := validate_any emptyTT (some ⟨w3.heap.size + 1, 0, none⟩) none none 1 0 0 1 0 0 ((w3.alloc o1).alloc (.cells #[.string ⟨#[]⟩, .int .i64 0, .slice none 0 0] 51)) empty_ok (Sl.block (xs := [emptyZone]) (t := Ty.zone) (heap_alloc2_new _ _ _) (by show _ < _; simp) (by decide) fun i x hi => by
      rcases i with _ | i
      · simp at hi; subst hi; exact ⟨none, 0, 0, rfl, Sl.nil0⟩
      · simp at hi) Sl.nil0 Sl.nil0
    rw [empty_one] at this
    exact this
  clear ht1 ht2 ht3 hat hbS hbF
  go_wp2_with fail
  refine (HV.out _).mono ?_
  rintro e w4 ⟨rfl, hb4⟩
  have hbf := (HBF.out _ _).trans (hb4.mono (HBF.out _ _).size)
  go_wp2_with fail
  go_ret
  exact ⟨rfl, hbf⟩
end Go.Proofs.YtldeoaddogifpaaGreatDoor
/-
  The walk of pairinglaw9.TimetableParses.
  Condition: the string's length fits an int; the tables of the words are laid.
-/
namespace Go.Proofs.YtldeoaddogifpaaGreatDoor
set_option linter.unusedSimpArgs false
set_option linter.unusedVariables false
open Go.RowKit

theorem emTT_fine : emTT.fine := (ttE_zero.1 (show ttE emTT = 0 by decide)).fine
theorem parseT_fine (s : ByteArray) : (parseT s).1.fine := by
  unfold parseT
  split
  · exact emTT_fine
  split
  · exact emTT_fine
  split
  · exact emTT_fine
  · rename_i h
    exact (ttE_zero.1 (Classical.not_not.1 h)).fine
set_option maxRecDepth 100000 in
set_option maxHeartbeats 3200000 in
theorem lawTimetableParses_any (s : ByteArray) (w : World) (hz : s.size ≤ maxLen) (hg : Glo w) :
    Calls Tryz.prog 3 #[.string s] w (AwPost w) := by
  have HG : Hid (∀ V, Below w.heap.size w V → Glo V) := fun V hV => hg.next hV
  have HZ := Lib.hid hz
  have hBW := Below.refl w.heap.size w
  clear hg hz
  by_cases hbig : (5000 : Int) < s.size
  · go_enter Tryz.func3, Tryz.ntmps3
    go_wp2_with fail
    refine (awake_any w).mono ?_
    rintro e w2 ⟨rfl, hb2⟩
    go_wp2_with fail
    go_ret
    exact ⟨rfl, hb2⟩
  have HP := Lib.hid (ttParse_any s w HZ.out (HG.out w hBW))
  have HFN := Lib.hid (parseT_fine s)
  have HPR : Hid (∀ V, Calls Tryz.prog 8 #[.string s] V (TParPost (parseT s) V)) := fun V => ttParseR_any s V HZ.out
  generalize parseT s = r at *
  obtain ⟨t, ln, er⟩ := r
  unfold TParPost at HP HPR
  simp only at HP HPR HFN
  go_enter Tryz.func3, Tryz.ntmps3
  go_wp2_with fail
  refine HP.out.mono ?_
  clear HP
  rintro e w2 ⟨A1, n1, c1, A2, n2, c2, A3, n3, c3, rfl, s1, s2, s3, hb2⟩
  have hx2 := heap_alloc_new w2 (.cells #[.slice A1 n1 c1, .slice A2 n2 c2, .slice A3 n3 c3] 27)
  have hba : Below w2.heap.size w2 (w2.alloc (.cells #[.slice A1 n1 c1, .slice A2 n2 c2, .slice A3 n3 c3] 27)) := (Below.refl _ _).alloc (Nat.le_refl _) _
  have hza : (w2.alloc (.cells #[.slice A1 n1 c1, .slice A2 n2 c2, .slice A3 n3 c3] 27)).heap.size = w2.heap.size + 1 := by simp
  have HX2 := Lib.hid hx2; have HBA := Lib.hid hba; have HZA := Lib.hid hza
  have HS := Lib.hid (And.intro s1 (And.intro s2 s3))
  have HB2 := Lib.hid hb2
  clear hx2 hba hza s1 s2 s3 hb2
  go_wp2_with fail
  generalize w2.alloc (.cells #[.slice A1 n1 c1, .slice A2 n2 c2, .slice A3 n3 c3] 27) = W2 at *
  refine (HPR.out W2).mono ?_
  clear HPR
  rintro e w3 ⟨B1, m1, d1, B2, m2, d2, B3, m3, d3, rfl, s1, s2, s3, hb3⟩
  have hz3 := hb3.size
  have hzz := HZA.out
  have hx3 := (hb3.block w2.heap.size (by omega)).trans HX2.out
  have hbb : Below w3.heap.size w3 (w3.alloc (.cells #[.slice B1 m1 d1, .slice B2 m2 d2, .slice B3 m3 d3] 27)) := (Below.refl _ _).alloc (Nat.le_refl _) _
  have hx4 : (w3.alloc (.cells #[.slice B1 m1 d1, .slice B2 m2 d2, .slice B3 m3 d3] 27)).heap[w2.heap.size]? = some (.cells #[.slice A1 n1 c1, .slice A2 n2 c2, .slice A3 n3 c3] 27 (0, 0)) := (hbb.block w2.heap.size (by omega)).trans hx3
  have hy4 := heap_alloc_new w3 (.cells #[.slice B1 m1 d1, .slice B2 m2 d2, .slice B3 m3 d3] 27)
  have hb4 : Below w2.heap.size w2 (w3.alloc (.cells #[.slice B1 m1 d1, .slice B2 m2 d2, .slice B3 m3 d3] 27)) := HBA.out.trans ((hb3.mono (by omega)).trans (hbb.mono (by omega)))
  have hbw : Below w.heap.size w (w3.alloc (.cells #[.slice B1 m1 d1, .slice B2 m2 d2, .slice B3 m3 d3] 27)) := HB2.out.trans (hb4.mono HB2.out.size)
  have HSM := Lib.hid (same_any t A1 A2 A3 B1 B2 B3 n1 n2 n3 c1 c2 c3 m1 m2 m3 d1 d2 d3 _ HFN.out (HS.out.1.next hb4) (HS.out.2.1.next hb4) (HS.out.2.2.next hb4) (s1.next hbb) (s2.next hbb) (s3.next hbb))
  have x0 := block_cell hx4 0; have x1 := block_cell hx4 1; have x2 := block_cell hx4 2
  have y0 := block_cell hy4 0; have y1 := block_cell hy4 1; have y2 := block_cell hy4 2
  have e1 : (er == er) = true := by simp
  have e2 : (ln == ln) = true := by simp
  have HBW := Lib.hid hbw
  clear hz3 hzz hx3 hbb hx4 hy4 hb4 hbw hb3 s1 s2 s3
  go_wp2_with fail
  generalize w3.alloc (.cells #[.slice B1 m1 d1, .slice B2 m2 d2, .slice B3 m3 d3] 27) = W4 at *
  refine HSM.out.mono ?_
  clear HSM
  rintro e w5 ⟨rfl, hb5⟩
  have hbw5 : Below w.heap.size w w5 := HBW.out.trans (hb5.mono HBW.out.size)
  clear x0 x1 x2 y0 y1 y2 hb5
  go_wp2_with fail
  refine (awake_any w5).mono ?_
  rintro e w6 ⟨rfl, hb6⟩
  go_wp2_with fail
  go_ret
  exact ⟨rfl, hbw5.trans (hb6.mono hbw5.size)⟩
end Go.Proofs.YtldeoaddogifpaaGreatDoor
/-
  The card of TimetableParses: for every string the law returns true, and the argument reads as before. No condition.
-/
namespace Go.Proofs.YtldeoaddogifpaaGreatDoor.timetableParses
set_option linter.unusedSimpArgs false
set_option linter.unusedVariables false
open Go.ChangeShapes Go.WideShapes Go.ChangeAt Go.RowKit
open Go.ChangeMaps (open_string shut_string)
theorem reads_all : (Tryz.f3.params.toList.all fun t => Tryz.prog.readableRec t && decide (t < Tryz.prog.types.size)) = true := by kernel_rfl
theorem reads_ok : ∀ t ∈ Tryz.f3.params.toList, Tryz.prog.readableRec t = true := fun t ht => by
  have h := List.all_eq_true.1 reads_all t ht
  rw [Bool.and_eq_true] at h
  exact h.1
theorem reads_lt : ∀ t ∈ Tryz.f3.params.toList, t < Tryz.prog.types.size := fun t ht => by
  have h := List.all_eq_true.1 reads_all t ht
  rw [Bool.and_eq_true] at h
  exact of_decide_eq_true h.2
set_option maxRecDepth 100000 in
theorem contract (H : Type) (enc : TypeId × Value → H) (W : World) (base : Nat) (args : Array Value) (ds gs : List (DataW H)) (before : List MemPlace)
    (hval : ∀ (j : Nat) t v, Tryz.f3.params[j]? = some t → args[j]? = some v → Value.okWide Tryz.prog W .any base t v)
    (hW : DataW.Whole enc Tryz.prog Tryz.f3.params.toList Rows.timetableParsesSpec.vars false W args.toList ds gs before) (hL : laidMetH Tryz.prog Rows.timetableParsesRow.laid W) (hsh : W.ShapedOpen Tryz.prog)
    (hreach : (DataW.weightsEach Tryz.prog (Tryz.f3.params.toList ++ (OpenSpec.ofChange Rows.timetableParsesSpec).bare.plain.varTypes Tryz.prog) (ds ++ gs)).all (· ≤ reachBytes) = true) :
    Calls Tryz.prog 3 args W fun e W' => ∃ v, e = .returned v ∧ Rows.timetableParsesSpec.post enc Tryz.prog Tryz.f3 false true false false W args v W' := by
  have hW' := hW
  obtain ⟨p, q, hA0, hV, rfl, hfz, hnd⟩ := hW
  have hA : DataW.TrodAll enc Tryz.prog W 0 (fun _ => true) true Tryz.f3.params.toList args.toList ds p := hA0
  rw [Tryz.params3] at hA hval
  obtain ⟨v0, vs0, d0, ds0, p0, q0, hargs, rfl, rfl, h0, r0⟩ := trodAll_cons hA
  obtain ⟨rfl, rfl, rfl⟩ := trodAll_nil r0
  obtain rfl : args = #[v0] := by cases args; simp_all
  obtain ⟨rfl, rfl⟩ := trodVars_none hV
  obtain ⟨s, rfl, rfl, rfl, ws⟩ := open_string Tryz.underlying9 (hval 0 9 v0 rfl rfl) h0
  refine (lawTimetableParses_any s W ws (glo_of_shaped hsh)).mono fun e W' ⟨he, hb⟩ => ?_
  subst he
  exact ⟨_, rfl, law_post laidOut_true Tryz.underlying4 rfl rfl (fun t ht => ⟨by revert t; exact reads_ok, by revert t; exact reads_lt⟩) ⟨rfl, rfl, rfl⟩ hW' hb⟩
theorem reads (os : Os) {H : Type} (enc : TypeId × Value → H) : ∃ places, DataW.whole enc Tryz.prog ((World.laidAll Tryz.prog os Rows.timetableParsesRow.laid).forCall (fun _ _ => 0) ⟨#[], #[.string ⟨#[]⟩], []⟩).memory Tryz.f3.params.toList Rows.timetableParsesSpec.vars false (#[.string ⟨#[]⟩] : Array Value).toList 8 = some ([.lit (.string [])], [], places) :=
  ⟨[], by kernel_rfl⟩
theorem laid_met (os : Os) : laidMetH Tryz.prog Rows.timetableParsesRow.laid ((World.laidAll Tryz.prog os Rows.timetableParsesRow.laid).forCall (fun _ _ => 0) ⟨#[], #[.string ⟨#[]⟩], []⟩).memory := by
  rw [MakeChecks.laidMetH_plain _ _ _ (by kernel_rfl)]
  exact laidMet_laidAll _ (by kernel_rfl) (by kernel_rfl)
set_option maxRecDepth 100000 in
theorem lifted (os : Os) (started : os.Started) (H : Type) (enc : TypeId × Value → H) (F : Stop.Interp) :
    ReturnsInHanded {} Tryz.checked os 3 .any ((OpenSpec.ofChange Rows.timetableParsesSpec).preRow enc Tryz.prog Tryz.f3 Rows.timetableParsesRow.domain false Rows.timetableParsesRow.laid) (((OpenSpec.ofChange Rows.timetableParsesSpec).at F).post enc Tryz.prog Tryz.f3 false true false false) := by
  obtain ⟨places, hx⟩ := reads os enc
  refine returnsInHanded_of_row (C := Tryz.checked) (s := OpenSpec.ofChange Rows.timetableParsesSpec) ownKnob_none started (by kernel_rfl) Tryz.func3
    (witness_row_shaped (enc := enc) (C := Tryz.checked) false (World.laidAll Tryz.prog os Rows.timetableParsesRow.laid) #[.string ⟨#[]⟩] (World.laidAll_os _ _ _) (World.shaped_of_ZipB (by kernel_rfl) (by kernel_rfl)) (by kernel_rfl)
      (OpenSpec.preRow_of_cond 8 hx (by kernel_rfl) (fun k hk => by cases hk) (by kernel_rfl) (laid_met os))) ?_
  intro W base args ds gs before hval hW _ hcond hreach hL hsh _
  exact contract H enc W base args ds gs before hval hW hL hsh hreach
theorem said : Rows.TimetableParsesSaid :=
  OpenClaim.holds_of_cond 3 Tryz.f3 rfl rfl rfl rfl rfl rfl rfl ⟨rfl, rfl, rfl, rfl, rfl⟩ rfl rfl rfl rfl rfl (by kernel_rfl) Tryz.func3 (by kernel_rfl)
    (of_decide_eq_true (by kernel_rfl)) (by unfold Func.isWrapper; first | (rw [if_pos (by decide +kernel)]; kernel_rfl) | (rw [if_neg (by decide +kernel)]; exact ⟨rfl, rfl⟩))
    (fun os started H enc _ F => by rw [OpenClaim.pre_eq_preRow]; exact lifted os started H enc F)
theorem plain (f : FuncId) (fn : Func) (hf : Tryz.pinned.checked.prog.funcNamed Rows.timetableParsesRow.func = some f) (hfn : Tryz.pinned.checked.prog.funcs[f]? = some fn) :
    false = Tryz.pinned.checked.prog.looks [] ∧ ∀ (j : Nat) t, fn.params[j]? = some t → Tryz.pinned.checked.prog.wantsStandIn t = false := by
  obtain rfl : f = 3 := Option.some.inj ((show Tryz.prog.funcNamed Rows.timetableParsesRow.func = some 3 by kernel_rfl).symm.trans hf) |>.symm
  obtain rfl : fn = Tryz.f3 := (Option.some.inj (Tryz.func3.symm.trans hfn)).symm
  refine ⟨by kernel_rfl, fun j t ht => ?_⟩
  have hall : (Tryz.f3.params.toList.all fun u => !Tryz.prog.wantsStandIn u) = true := by kernel_rfl
  have hm : t ∈ Tryz.f3.params.toList := by simpa using Array.mem_of_getElem? ht
  have h := List.all_eq_true.1 hall t hm
  exact (show Tryz.prog.wantsStandIn t = false by simpa using h)
theorem card : Rows.TimetableParsesCardSaid :=
  Claim7.holds_tied_plain_at .later [] _ _ _ _ said (fun _ h => by cases h) (by kernel_rfl) (fun _ h => by cases h) timetableParses_row_tie rfl ⟨rfl, rfl⟩ (by kernel_rfl) rfl plain (by kernel_rfl)
end Go.Proofs.YtldeoaddogifpaaGreatDoor.timetableParses
