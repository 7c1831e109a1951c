/-
  Contracts of pairingbase.Zones and pairingbase.Airports, of the example of pairinglaw9.
  No condition.
-/
import Derived.Test.YtldeoaddogifpaaGreatDoorTTMem
import Derived.Test.YtldeoaddogifpaaGreatDoorCrc
import Derived.Deep.RegionWith
namespace Go.Proofs.YtldeoaddogifpaaGreatDoor
set_option linter.unusedSimpArgs false
set_option linter.unusedVariables false
open Go.RowKit

def sUtc : ByteArray := ⟨#[117, 116, 99]⟩
def sOslo : ByteArray := ⟨#[111, 115, 108, 111]⟩
def sYork : ByteArray := ⟨#[121, 111, 114, 107]⟩
def sAAA : ByteArray := ⟨#[65, 65, 65]⟩
def sBBB : ByteArray := ⟨#[66, 66, 66]⟩
def sCCC : ByteArray := ⟨#[67, 67, 67]⟩
def baseZones : List GZone := [⟨sUtc, 0, []⟩, ⟨sOslo, 60, [⟨1441500, 120⟩, ⟨1444000, 60⟩]⟩, ⟨sYork, -300, [⟨1442900, -240⟩]⟩]
def baseAirports : List GAirport := [⟨sAAA, sUtc⟩, ⟨sBBB, sOslo⟩, ⟨sCCC, sYork⟩]

/-- A new slice is handed back. -/
def SlPost {α : Type} (t : Ty α) (xs : List α) (w : World) (e : Ending) (w' : World) : Prop :=
  ∃ A n c, e = .returned (.slice A n c) ∧ Sl t w' (fun b => w.heap.size ≤ b ∧ b < w'.heap.size) A n c xs ∧ Below w.heap.size w w'
/-- A whole block as a slice. -/
theorem Sl.block {α : Type} {t : Ty α} {w : World} {S : Nat → Prop} {b : Nat} {cs : Array Value} {T : TypeId} {xs : List α} (h : w.heap[b]? = some (.cells cs T (0, 0))) (hS : S b) (hl : xs.length ≤ maxLen)
    (hx : ∀ i x, xs[i]? = some x → t.rep w S ((cs.toList.drop (i * t.size)).take t.size) x) : Sl t w S (some ⟨b, 0, none⟩) xs.length xs.length xs := by
  refine ⟨rfl, Nat.le_refl _, hl, fun _ => ⟨b, 0, rfl, hS, fun i x hi => ⟨_, hx i x hi, fun j u hu => ?_⟩⟩⟩
  rw [block_cell h]
  rw [List.getElem?_take] at hu
  split at hu
  · rw [List.getElem?_drop] at hu
    rw [Nat.zero_add]
    simpa using hu
  · cases hu
theorem alloc3_0 (w : World) (a b c : Obj) : (((w.alloc a).alloc b).alloc c).heap[w.heap.size]? = some a := by
  rw [Below.heap_alloc _ _ _ (by simp; omega)]; exact heap_alloc2_old _ _ _
theorem alloc3_1 (w : World) (a b c : Obj) : (((w.alloc a).alloc b).alloc c).heap[w.heap.size + 1]? = some b := by
  rw [Below.heap_alloc _ _ _ (by simp)]; exact heap_alloc2_new _ _ _
theorem alloc3_2 (w : World) (a b c : Obj) : (((w.alloc a).alloc b).alloc c).heap[w.heap.size + 2]? = some c := by
  have := heap_alloc2_new (w.alloc a) b c
  simpa using this
theorem below_alloc3 (w : World) (a b c : Obj) : Below w.heap.size w (((w.alloc a).alloc b).alloc c) := (((Below.refl _ _).alloc (Nat.le_refl _) _).alloc (by simp) _).alloc (by simp; omega) _

/-- What the built zones hold, in three blocks. -/
structure ZData where
  n0 : ByteArray
  n1 : ByteArray
  n2 : ByteArray
  o0 : Int
  o1 : Int
  o2 : Int
  a : Int
  b : Int
  c : Int
  d : Int
  e : Int
  f : Int
def ZData.zones (z : ZData) : List GZone := [⟨z.n0, z.o0, []⟩, ⟨z.n1, z.o1, [⟨z.a, z.b⟩, ⟨z.c, z.d⟩]⟩, ⟨z.n2, z.o2, [⟨z.e, z.f⟩]⟩]
def ZData.arr (z : ZData) (s1 s2 : Nat) : Array Value := #[.string z.n0, .int .i64 z.o0, .slice none 0 0, .string z.n1, .int .i64 z.o1, .slice (some ⟨s1, 0, none⟩) 2 2, .string z.n2, .int .i64 z.o2, .slice (some ⟨s2, 0, none⟩) 1 1]
def ZData.arr1 (z : ZData) : Array Value := #[.int .i64 z.a, .int .i64 z.b, .int .i64 z.c, .int .i64 z.d]
def ZData.arr2 (z : ZData) : Array Value := #[.int .i64 z.e, .int .i64 z.f]
def baseZD : ZData := ⟨sUtc, sOslo, sYork, 0, 60, -300, 1441500, 120, 1444000, 60, 1442900, -240⟩
theorem baseZD_zones : baseZD.zones = baseZones := rfl
/-- The zones z lie in three blocks of S. -/
def ZMem (w : World) (S : Nat → Prop) (v : Value) (z : ZData) : Prop :=
  ∃ zb s1 s2, v = .slice (some ⟨zb, 0, none⟩) 3 3 ∧ (S zb ∧ S s1 ∧ S s2) ∧ (zb ≠ s1 ∧ zb ≠ s2 ∧ s1 ≠ s2) ∧ w.heap[zb]? = some (.cells (z.arr s1 s2) 51 (0, 0)) ∧ w.heap[s1]? = some (.cells z.arr1 64 (0, 0)) ∧ w.heap[s2]? = some (.cells z.arr2 64 (0, 0))
theorem ZMem.keep {w w' : World} {S : Nat → Prop} {v : Value} {z : ZData} (h : ZMem w S v z) (hk : ∀ b, S b → w'.heap[b]? = w.heap[b]?) : ZMem w' S v z := by
  obtain ⟨zb, s1, s2, e, hS, hd, h0, h1, h2⟩ := h
  exact ⟨zb, s1, s2, e, hS, hd, (hk _ hS.1).trans h0, (hk _ hS.2.1).trans h1, (hk _ hS.2.2).trans h2⟩
theorem ZMem.more {w : World} {S S' : Nat → Prop} {v : Value} {z : ZData} (h : ZMem w S v z) (hk : ∀ b, S b → S' b) : ZMem w S' v z := by
  obtain ⟨zb, s1, s2, e, hS, hd, r⟩ := h
  exact ⟨zb, s1, s2, e, ⟨hk _ hS.1, hk _ hS.2.1, hk _ hS.2.2⟩, hd, r⟩
theorem ZMem.sl {w : World} {S : Nat → Prop} {v : Value} {z : ZData} (h : ZMem w S v z) : ∃ A n c, v = .slice A n c ∧ Sl Ty.zone w S A n c z.zones := by
  obtain ⟨zb, s1, s2, e, hS, hd, h0, h1, h2⟩ := h
  refine ⟨_, _, _, e, ?_⟩
  have k1 : Sl Ty.shift w S (some ⟨s1, 0, none⟩) 2 2 [⟨z.a, z.b⟩, ⟨z.c, z.d⟩] := Sl.block (xs := [⟨z.a, z.b⟩, ⟨z.c, z.d⟩]) (t := Ty.shift) h1 hS.2.1 (show 2 ≤ maxLen by decide) fun i x hi => by
    rcases i with _ | _ | i
    · simp at hi; subst hi; rfl
    · simp at hi; subst hi; rfl
    · simp at hi
  have k2 : Sl Ty.shift w S (some ⟨s2, 0, none⟩) 1 1 [⟨z.e, z.f⟩] := Sl.block (xs := [⟨z.e, z.f⟩]) (t := Ty.shift) h2 hS.2.2 (show 1 ≤ maxLen by decide) fun i x hi => by
    rcases i with _ | i
    · simp at hi; subst hi; rfl
    · simp at hi
  refine Sl.block (xs := z.zones) (t := Ty.zone) h0 hS.1 (show 3 ≤ maxLen by decide) fun i x hi => ?_
  rcases i with _ | _ | _ | i
  · simp [ZData.zones] at hi; subst hi; exact ⟨none, 0, 0, rfl, Sl.nil0⟩
  · simp [ZData.zones] at hi; subst hi; exact ⟨_, 2, 2, rfl, k1⟩
  · simp [ZData.zones] at hi; subst hi; exact ⟨_, 1, 1, rfl, k2⟩
  · simp [ZData.zones] at hi
/-- What the built airports hold, in one block. -/
structure AData where
  c0 : ByteArray
  z0 : ByteArray
  c1 : ByteArray
  z1 : ByteArray
  c2 : ByteArray
  z2 : ByteArray
def AData.airports (a : AData) : List GAirport := [⟨a.c0, a.z0⟩, ⟨a.c1, a.z1⟩, ⟨a.c2, a.z2⟩]
def AData.arr (a : AData) : Array Value := #[.string a.c0, .string a.z0, .string a.c1, .string a.z1, .string a.c2, .string a.z2]
def baseAD : AData := ⟨sAAA, sUtc, sBBB, sOslo, sCCC, sYork⟩
theorem baseAD_airports : baseAD.airports = baseAirports := rfl
def AMem (w : World) (S : Nat → Prop) (v : Value) (a : AData) : Prop :=
  ∃ ab, v = .slice (some ⟨ab, 0, none⟩) 3 3 ∧ S ab ∧ w.heap[ab]? = some (.cells a.arr 66 (0, 0))
theorem AMem.keep {w w' : World} {S : Nat → Prop} {v : Value} {a : AData} (h : AMem w S v a) (hk : ∀ b, S b → w'.heap[b]? = w.heap[b]?) : AMem w' S v a := by
  obtain ⟨ab, e, hS, h0⟩ := h
  exact ⟨ab, e, hS, (hk _ hS).trans h0⟩
theorem AMem.more {w : World} {S S' : Nat → Prop} {v : Value} {a : AData} (h : AMem w S v a) (hk : ∀ b, S b → S' b) : AMem w S' v a := by
  obtain ⟨ab, e, hS, h0⟩ := h
  exact ⟨ab, e, hk _ hS, h0⟩
theorem AMem.sl {w : World} {S : Nat → Prop} {v : Value} {a : AData} (h : AMem w S v a) : ∃ A n c, v = .slice A n c ∧ Sl Ty.airport w S A n c a.airports := by
  obtain ⟨ab, e, hS, h0⟩ := h
  refine ⟨_, _, _, e, ?_⟩
  refine Sl.block (xs := a.airports) (t := Ty.airport) h0 hS (show 3 ≤ maxLen by decide) fun i x hi => ?_
  rcases i with _ | _ | _ | i
  · simp [AData.airports] at hi; subst hi; rfl
  · simp [AData.airports] at hi; subst hi; rfl
  · simp [AData.airports] at hi; subst hi; rfl
  · simp [AData.airports] at hi
def ZMemPost (w : World) (e : Ending) (w' : World) : Prop := ∃ v, e = .returned v ∧ ZMem w' (fun b => w.heap.size ≤ b ∧ b < w'.heap.size) v baseZD ∧ Below w.heap.size w w'
def AMemPost (w : World) (e : Ending) (w' : World) : Prop := ∃ v, e = .returned v ∧ AMem w' (fun b => w.heap.size ≤ b ∧ b < w'.heap.size) v baseAD ∧ Below w.heap.size w w'
set_option maxRecDepth 100000 in
theorem zonesMem_any (w : World) : Calls Tryz.prog 31 #[] w (ZMemPost w) := by
  go_enter Tryz.func31, Tryz.ntmps31
  go_wp2_with fail
  go_ret
  refine ⟨_, rfl, ⟨w.heap.size + 2, w.heap.size, w.heap.size + 1, rfl, ⟨⟨by omega, by simp⟩, ⟨by omega, by simp <;> omega⟩, ⟨by omega, by simp <;> omega⟩⟩, ⟨by omega, by omega, by omega⟩, alloc3_2 _ _ _ _, alloc3_0 _ _ _ _, alloc3_1 _ _ _ _⟩, below_alloc3 _ _ _ _⟩
theorem zones_any (w : World) : Calls Tryz.prog 31 #[] w (SlPost Ty.zone baseZones w) :=
  (zonesMem_any w).mono fun e w' ⟨v, he, hz, hb⟩ => by
    obtain ⟨A, n, c, rfl, hs⟩ := hz.sl
    exact ⟨A, n, c, he, hs, hb⟩
set_option maxRecDepth 100000 in
theorem airportsMem_any (w : World) : Calls Tryz.prog 32 #[] w (AMemPost w) := by
  go_enter Tryz.func32, Tryz.ntmps32
  go_wp2_with fail
  go_ret
  exact ⟨_, rfl, ⟨w.heap.size, rfl, ⟨by omega, by simp⟩, heap_alloc_new _ _⟩, (Below.refl _ _).alloc (Nat.le_refl _) _⟩
theorem airports_any (w : World) : Calls Tryz.prog 32 #[] w (SlPost Ty.airport baseAirports w) :=
  (airportsMem_any w).mono fun e w' ⟨v, he, hz, hb⟩ => by
    obtain ⟨A, n, c, rfl, hs⟩ := hz.sl
    exact ⟨A, n, c, he, hs, hb⟩
end Go.Proofs.YtldeoaddogifpaaGreatDoor
