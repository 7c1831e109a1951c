/-
  Contracts of pairingbase.Zones and pairingbase.Airports, of the example of pairinglaw9.
  No condition.
-/
import Derived.Test.YtldeoaddogifpaaTTMem
import Derived.Test.YtldeoaddogifpaaCrc
import Derived.Deep.RegionWith
namespace Go.Proofs.Ytldeoaddogifpaa
set_option linter.unusedSimpArgs false
set_option linter.unusedVariables false
open Go.RowKit

def sUtc : ByteArray := ⟨#[117, 116, 99]⟩
def sOslo : ByteArray := ⟨#[111, 115, 108, 111]⟩
def sYork : ByteArray := ⟨#[121, 111, 114, 107]⟩
def sAAA : ByteArray := ⟨#[65, 65, 65]⟩
def sBBB : ByteArray := ⟨#[66, 66, 66]⟩
def sCCC : ByteArray := ⟨#[67, 67, 67]⟩
def baseZones : List GZone := [⟨sUtc, 0, []⟩, ⟨sOslo, 60, [⟨1441500, 120⟩, ⟨1444000, 60⟩]⟩, ⟨sYork, -300, [⟨1442900, -240⟩]⟩]
def baseAirports : List GAirport := [⟨sAAA, sUtc⟩, ⟨sBBB, sOslo⟩, ⟨sCCC, sYork⟩]

/-- A new slice is handed back. -/
def SlPost {α : Type} (t : Ty α) (xs : List α) (w : World) (e : Ending) (w' : World) : Prop :=
  ∃ A n c, e = .returned (.slice A n c) ∧ Sl t w' (fun b => w.heap.size ≤ b ∧ b < w'.heap.size) A n c xs ∧ Below w.heap.size w w'
/-- A whole block as a slice. -/
theorem Sl.block {α : Type} {t : Ty α} {w : World} {S : Nat → Prop} {b : Nat} {cs : Array Value} {T : TypeId} {xs : List α} (h : w.heap[b]? = some (.cells cs T (0, 0))) (hS : S b) (hl : xs.length ≤ maxLen)
    (hx : ∀ i x, xs[i]? = some x → t.rep w S ((cs.toList.drop (i * t.size)).take t.size) x) : Sl t w S (some ⟨b, 0, none⟩) xs.length xs.length xs := by
  refine ⟨rfl, Nat.le_refl _, hl, fun _ => ⟨b, 0, rfl, hS, fun i x hi => ⟨_, hx i x hi, fun j u hu => ?_⟩⟩⟩
  rw [block_cell h]
  rw [List.getElem?_take] at hu
  split at hu
  · rw [List.getElem?_drop] at hu
    rw [Nat.zero_add]
    simpa using hu
  · cases hu
theorem alloc3_0 (w : World) (a b c : Obj) : (((w.alloc a).alloc b).alloc c).heap[w.heap.size]? = some a := by
  rw [Below.heap_alloc _ _ _ (by simp; omega)]; exact heap_alloc2_old _ _ _
theorem alloc3_1 (w : World) (a b c : Obj) : (((w.alloc a).alloc b).alloc c).heap[w.heap.size + 1]? = some b := by
  rw [Below.heap_alloc _ _ _ (by simp)]; exact heap_alloc2_new _ _ _
theorem alloc3_2 (w : World) (a b c : Obj) : (((w.alloc a).alloc b).alloc c).heap[w.heap.size + 2]? = some c := by
  have := heap_alloc2_new (w.alloc a) b c
  simpa using this
theorem below_alloc3 (w : World) (a b c : Obj) : Below w.heap.size w (((w.alloc a).alloc b).alloc c) := (((Below.refl _ _).alloc (Nat.le_refl _) _).alloc (by simp) _).alloc (by simp; omega) _

set_option maxRecDepth 100000 in
theorem zones_any (w : World) : Calls Try.prog 35 #[] w (SlPost Ty.zone baseZones w) := by
  go_enter Try.func35, Try.ntmps35
  go_wp2_with fail
  go_ret
  refine ⟨_, _, _, rfl, ?_, below_alloc3 _ _ _ _⟩
  have hs : (w.heap.size : Nat) ≤ w.heap.size + 2 := by omega
  refine Sl.block (xs := baseZones) (t := Ty.zone) (alloc3_2 _ _ _ _) ⟨by omega, by simp⟩ (by decide) fun i x hi => ?_
  have h1 : Sl Ty.shift (((w.alloc (.cells #[.int .i64 1441500, .int .i64 120, .int .i64 1444000, .int .i64 60] 44)).alloc (.cells #[.int .i64 1442900, .int .i64 (-240)] 44)).alloc (.cells #[.string sUtc, .int .i64 0, .slice none 0 0, .string sOslo, .int .i64 60, .slice (some ⟨w.heap.size, 0, none⟩) 2 2, .string sYork, .int .i64 (-300), .slice (some ⟨w.heap.size + 1, 0, none⟩) 1 1] 42)) (fun b => w.heap.size ≤ b ∧ b < (((w.alloc (.cells #[.int .i64 1441500, .int .i64 120, .int .i64 1444000, .int .i64 60] 44)).alloc (.cells #[.int .i64 1442900, .int .i64 (-240)] 44)).alloc (.cells #[.string sUtc, .int .i64 0, .slice none 0 0, .string sOslo, .int .i64 60, .slice (some ⟨w.heap.size, 0, none⟩) 2 2, .string sYork, .int .i64 (-300), .slice (some ⟨w.heap.size + 1, 0, none⟩) 1 1] 42)).heap.size) (some ⟨w.heap.size, 0, none⟩) 2 2 [⟨1441500, 120⟩, ⟨1444000, 60⟩] :=
    Sl.block (xs := [⟨1441500, 120⟩, ⟨1444000, 60⟩]) (t := Ty.shift) (alloc3_0 _ _ _ _) ⟨by omega, by first | (simp; done) | (simp; omega)⟩ (by decide) fun i x hi => by
      rcases i with _ | _ | i
      · simp at hi; subst hi; rfl
      · simp at hi; subst hi; rfl
      · simp at hi
  have h2 : Sl Ty.shift (((w.alloc (.cells #[.int .i64 1441500, .int .i64 120, .int .i64 1444000, .int .i64 60] 44)).alloc (.cells #[.int .i64 1442900, .int .i64 (-240)] 44)).alloc (.cells #[.string sUtc, .int .i64 0, .slice none 0 0, .string sOslo, .int .i64 60, .slice (some ⟨w.heap.size, 0, none⟩) 2 2, .string sYork, .int .i64 (-300), .slice (some ⟨w.heap.size + 1, 0, none⟩) 1 1] 42)) (fun b => w.heap.size ≤ b ∧ b < (((w.alloc (.cells #[.int .i64 1441500, .int .i64 120, .int .i64 1444000, .int .i64 60] 44)).alloc (.cells #[.int .i64 1442900, .int .i64 (-240)] 44)).alloc (.cells #[.string sUtc, .int .i64 0, .slice none 0 0, .string sOslo, .int .i64 60, .slice (some ⟨w.heap.size, 0, none⟩) 2 2, .string sYork, .int .i64 (-300), .slice (some ⟨w.heap.size + 1, 0, none⟩) 1 1] 42)).heap.size) (some ⟨w.heap.size + 1, 0, none⟩) 1 1 [⟨1442900, -240⟩] :=
    Sl.block (xs := [⟨1442900, -240⟩]) (t := Ty.shift) (alloc3_1 _ _ _ _) ⟨by omega, by first | (simp; done) | (simp; omega)⟩ (by decide) fun i x hi => by
      rcases i with _ | i
      · simp at hi; subst hi; rfl
      · simp at hi
  rcases i with _ | _ | _ | i
  · simp [baseZones] at hi; subst hi; exact ⟨none, 0, 0, rfl, Sl.nil0⟩
  · simp [baseZones] at hi; subst hi; exact ⟨_, 2, 2, rfl, h1⟩
  · simp [baseZones] at hi; subst hi; exact ⟨_, 1, 1, rfl, h2⟩
  · simp [baseZones] at hi
set_option maxRecDepth 100000 in
theorem airports_any (w : World) : Calls Try.prog 36 #[] w (SlPost Ty.airport baseAirports w) := by
  go_enter Try.func36, Try.ntmps36
  go_wp2_with fail
  go_ret
  refine ⟨_, _, _, rfl, ?_, (Below.refl _ _).alloc (Nat.le_refl _) _⟩
  refine Sl.block (xs := baseAirports) (t := Ty.airport) (heap_alloc_new _ _) ⟨by omega, by simp⟩ (by decide) fun i x hi => ?_
  rcases i with _ | _ | _ | i
  · simp [baseAirports] at hi; subst hi; rfl
  · simp [baseAirports] at hi; subst hi; rfl
  · simp [baseAirports] at hi; subst hi; rfl
  · simp [baseAirports] at hi
end Go.Proofs.Ytldeoaddogifpaa
