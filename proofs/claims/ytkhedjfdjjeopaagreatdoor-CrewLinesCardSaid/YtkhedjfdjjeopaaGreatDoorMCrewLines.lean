/-
  Joined texts: LawCrewParses; LawCrewLines; CardCrewLines. What each proves stands ahead of it, with its conditions.
-/
import Derived.Test.YtkhedjfdjjeopaaGreatDoorMF
import Derived.Test.YtkhedjfdjjeopaaGreatDoorMG
import Derived.Test.YtkhedjfdjjeopaaGreatDoorBaseAt
/-
  The walk of pairinglaw10.CrewParses.
  Condition: the timetable is well formed; the string's length fits an int.
-/
namespace Go.Proofs.YtkhedjfdjjeopaaGreatDoor
set_option linter.unusedSimpArgs false
set_option linter.unusedVariables false
open Go.RowKit

theorem parseC_fine (t : GTT) (s : ByteArray) : (parseC t s).1.length ≤ 64 ∧ ∀ p ∈ (parseC t s).1, p.fine := by
  have h0 : ([] : List GPerson).length ≤ 64 ∧ ∀ p ∈ ([] : List GPerson), p.fine := ⟨Nat.zero_le _, fun _ h => (by cases h)⟩
  unfold parseC
  split
  · exact h0
  split
  · exact h0
  split
  · exact h0
  split
  · exact h0
  · rename_i h
    have hk := crewE_zero.1 (Classical.not_not.1 h)
    exact ⟨hk.len, hk.fine⟩
set_option maxRecDepth 100000 in
set_option maxHeartbeats 3200000 in
theorem lawCrewParses_any (t : GTT) (s : ByteArray) (A1 A2 A3 : Option Addr) (n1 n2 n3 c1 c2 c3 : Nat) (w : World) (ht : t.ok) (hs1 : Sl Ty.zone w (all_ w) A1 n1 c1 t.zones) (hs2 : Sl Ty.airport w (all_ w) A2 n2 c2 t.airports) (hs3 : Sl Ty.flight w (all_ w) A3 n3 c3 t.flights) (hz : s.size ≤ maxLen) (hg : Glo w) :
    Calls Tryz.prog 3 #[.agg #[.slice A1 n1 c1, .slice A2 n2 c2, .slice A3 n3 c3], .string s] w (CAwPost w) := by
  have hb0 := (Below.refl w.heap.size w).alloc (Nat.le_refl _) (.cells #[.slice A1 n1 c1, .slice A2 n2 c2, .slice A3 n3 c3] 26)
  have hx0 := heap_alloc_new w (.cells #[.slice A1 n1 c1, .slice A2 n2 c2, .slice A3 n3 c3] 26)
  have hz0 : (w.alloc (.cells #[.slice A1 n1 c1, .slice A2 n2 c2, .slice A3 n3 c3] 26)).heap.size = w.heap.size + 1 := by simp
  have HS : Hid (∀ V, Below w.heap.size w V → (Sl Ty.zone V (all_ V) A1 n1 c1 t.zones ∧ Sl Ty.airport V (all_ V) A2 n2 c2 t.airports ∧ Sl Ty.flight V (all_ V) A3 n3 c3 t.flights) ∧ Glo V) := fun V hV => ⟨⟨hs1.next hV, hs2.next hV, hs3.next hV⟩, hg.next hV⟩
  have HT := Lib.hid ht; have HZ := Lib.hid hz
  have HX : Hid (∀ V, Below (w.heap.size + 1) (w.alloc (.cells #[.slice A1 n1 c1, .slice A2 n2 c2, .slice A3 n3 c3] 26)) V → V.heap[w.heap.size]? = some (.cells #[.slice A1 n1 c1, .slice A2 n2 c2, .slice A3 n3 c3] 26 (0, 0)) ∧ Below w.heap.size w V ∧ w.heap.size + 1 ≤ V.heap.size) := fun V hV => ⟨(hV.block _ (by omega)).trans hx0, hb0.trans (hV.mono (by omega)), by have := hV.size; omega⟩
  have hBW := Below.refl (w.heap.size + 1) (w.alloc (.cells #[.slice A1 n1 c1, .slice A2 n2 c2, .slice A3 n3 c3] 26))
  clear hs1 hs2 hs3 hb0 hx0 hz0 ht hz hg
  go_enter Tryz.func3, Tryz.ntmps3
  go_wp2_with fail
  generalize w.alloc (.cells #[.slice A1 n1 c1, .slice A2 n2 c2, .slice A3 n3 c3] 26) = W at *
  refine (light_any t A1 A2 A3 n1 n2 n3 c1 c2 c3 W (HS.out W (HX.out W hBW).2.1).1.1).mono ?_
  rintro e w1 ⟨bl, rfl, hb1⟩
  have hk1 : Below (w.heap.size + 1) W w1 := hb1.mono (HX.out W hBW).2.2
  clear hb1
  have hnot : bl = false ∨ (bl = true ∧ (5000 : Int) < s.size) ∨ (bl = true ∧ ¬ (5000 : Int) < s.size) := by
    cases bl with
    | false => exact .inl rfl
    | true =>
      by_cases h : (5000 : Int) < s.size
      · exact .inr (.inl ⟨rfl, h⟩)
      · exact .inr (.inr ⟨rfl, h⟩)
  rcases hnot with rfl | ⟨rfl, hbig⟩ | ⟨rfl, hbig⟩
  · go_wp2_with fail
    refine (crewAwake_any w1).mono ?_
    rintro e w2 ⟨rfl, hb2⟩
    go_wp2_with fail
    go_ret
    exact ⟨rfl, (HX.out w1 hk1).2.1.trans (hb2.mono (HX.out w1 hk1).2.1.size)⟩
  · go_wp2_with fail
    refine (crewAwake_any w1).mono ?_
    rintro e w2 ⟨rfl, hb2⟩
    go_wp2_with fail
    go_ret
    exact ⟨rfl, (HX.out w1 hk1).2.1.trans (hb2.mono (HX.out w1 hk1).2.1.size)⟩
  · have x0 : w1.cell? ⟨w.heap.size, 0, none⟩ = some (.slice A1 n1 c1) := block_cell (HX.out w1 hk1).1 0
    have x1 : w1.cell? ⟨w.heap.size, 1, none⟩ = some (.slice A2 n2 c2) := block_cell (HX.out w1 hk1).1 1
    have x2 : w1.cell? ⟨w.heap.size, 2, none⟩ = some (.slice A3 n3 c3) := block_cell (HX.out w1 hk1).1 2
    have hs := HS.out w1 (HX.out w1 hk1).2.1
    have HP := Lib.hid (crewParse_any t s A1 A2 A3 n1 n2 n3 c1 c2 c3 w1 HT.out hs.1.1 hs.1.2.1 hs.1.2.2 HZ.out hs.2)
    have HFN := Lib.hid (parseC_fine t s)
    have HPR : Hid (∀ V, Below w.heap.size w V → Calls Tryz.prog 9 #[.agg #[.slice A1 n1 c1, .slice A2 n2 c2, .slice A3 n3 c3], .string s] V (CParPost (parseC t s) V)) := fun V hV => parseCrewR_any t s A1 A2 A3 n1 n2 n3 c1 c2 c3 V HT.out (HS.out V hV).1.1 (HS.out V hV).1.2.1 (HS.out V hV).1.2.2 HZ.out
    clear hs
    generalize parseC t s = r at *
    obtain ⟨l, ln, er⟩ := r
    unfold CParPost at HP HPR
    simp only at HP HPR HFN
    go_wp2_with fail
    refine HP.out.mono ?_
    clear x0 x1 x2 HP
    rintro e w2 ⟨Xa, nx, cx, rfl, hsx, hb2⟩
    have hk2 : Below (w.heap.size + 1) W w2 := hk1.trans (hb2.mono (HX.out w1 hk1).2.2)
    have HSX := Lib.hid hsx
    clear hb2 hsx
    have x0 : w2.cell? ⟨w.heap.size, 0, none⟩ = some (.slice A1 n1 c1) := block_cell (HX.out w2 hk2).1 0
    have x1 : w2.cell? ⟨w.heap.size, 1, none⟩ = some (.slice A2 n2 c2) := block_cell (HX.out w2 hk2).1 1
    have x2 : w2.cell? ⟨w.heap.size, 2, none⟩ = some (.slice A3 n3 c3) := block_cell (HX.out w2 hk2).1 2
    have HP2 := Lib.hid (HPR.out w2 (HX.out w2 hk2).2.1)
    go_wp2_with fail
    refine HP2.out.mono ?_
    clear x0 x1 x2 HP2 HPR
    rintro e w3 ⟨Ya, ny, cy, rfl, hsy, hb3⟩
    have hk3 : Below (w.heap.size + 1) W w3 := hk2.trans (hb3.mono (HX.out w2 hk2).2.2)
    have HSM := Lib.hid (crewSame_any l Xa Ya nx cx ny cy w3 HFN.out.1 HFN.out.2 (HSX.out.next hb3) hsy)
    clear hb3 hsy
    have e1 : (er == er) = true := by simp
    have e2 : (ln == ln) = true := by simp
    go_wp2_with fail
    refine HSM.out.mono ?_
    clear HSM
    rintro e w4 ⟨rfl, hb4⟩
    have hk4 : Below (w.heap.size + 1) W w4 := hk3.trans (hb4.mono (HX.out w3 hk3).2.2)
    clear hb4
    go_wp2_with fail
    refine (crewAwake_any w4).mono ?_
    rintro e w5 ⟨rfl, hb5⟩
    go_wp2_with fail
    go_ret
    exact ⟨rfl, (HX.out w4 hk4).2.1.trans (hb5.mono (HX.out w4 hk4).2.1.size)⟩
end Go.Proofs.YtkhedjfdjjeopaaGreatDoor
/-
  The walk of pairinglaw10.CrewLines.
  Condition: the list reads as integers.
-/
namespace Go.Proofs.YtkhedjfdjjeopaaGreatDoor
set_option linter.unusedSimpArgs false
set_option linter.unusedVariables false
open Go.RowKit

def crewLs : List ByteArray := [⟨#[112, 101, 114, 115, 111, 110, 32, 55, 32, 97, 110, 110, 97, 32, 65, 65, 65, 32, 99, 97, 112, 116, 97, 105, 110, 32, 51]⟩, ⟨#[112, 101, 114, 115, 111, 110, 32, 56, 32, 98, 111, 32, 66, 66, 66, 32, 99, 97, 98, 105, 110, 32, 52]⟩, ⟨#[112, 101, 114, 115, 111, 110, 32, 55, 32, 99, 121, 32, 65, 65, 65, 32, 111, 102, 102, 105, 99, 101, 114, 32, 53]⟩, ⟨#[116, 121, 112, 101, 32, 55, 32, 98, 55, 51, 55]⟩, ⟨#[116, 121, 112, 101, 32, 55, 32, 97, 51, 50, 48]⟩, ⟨#[116, 121, 112, 101, 32, 57, 32, 97, 51, 50, 48]⟩, ⟨#[116, 121, 112, 101, 32, 56, 32, 101, 49, 57, 48]⟩, ⟨#[118, 97, 99, 97, 116, 105, 111, 110, 32, 55, 32, 50, 48, 48, 50, 45, 49, 48, 45, 48, 49, 32, 48, 48, 58, 48, 48, 32, 50, 48, 48, 50, 45, 49, 48, 45, 48, 50, 32, 50, 51, 58, 53, 57]⟩, ⟨#[118, 97, 99, 97, 116, 105, 111, 110, 32, 56, 32, 50, 48, 48, 50, 45, 49, 48, 45, 48, 49, 32, 48, 48, 58, 48, 48, 32, 50, 48, 48, 50, 45, 48, 57, 45, 48, 49, 32, 50, 51, 58, 53, 57]⟩, ⟨#[112, 101, 114, 115, 111, 110, 32, 48, 56, 32, 120, 32, 65, 65, 65, 32, 99, 97, 112, 116, 97, 105, 110, 32, 51]⟩, ⟨#[112, 101, 114, 115, 111, 110, 32, 57, 32, 100, 101, 101, 32, 90, 90, 90, 32, 99, 97, 112, 116, 97, 105, 110, 32, 57]⟩, ⟨#[118, 97, 99, 97, 116, 105, 111, 110, 32, 55, 32, 50, 48, 48, 50, 45, 49, 51, 45, 48, 49, 32, 48, 48, 58, 48, 48, 32, 50, 48, 48, 50, 45, 49, 48, 45, 48, 50, 32, 50, 51, 58, 53, 57]⟩, ⟨#[35, 32, 110, 111, 98, 111, 100, 121]⟩, ⟨#[]⟩, ⟨#[116, 121, 112, 101, 32, 55]⟩, ⟨#[112, 101, 114, 115, 111, 110, 32, 49, 48, 32, 101, 118, 101, 32, 65, 65, 65, 32, 112, 105, 108, 111, 116, 32, 51]⟩, ⟨#[112, 101, 114, 115, 111, 110, 32, 49, 49, 32, 102, 97, 121, 32, 67, 67, 67, 32, 99, 97, 112, 116, 97, 105, 110, 32, 51]⟩]
def lineCells : Array Value := (crewLs.map Value.string).toArray
theorem crewLs_sz : ∀ s ∈ crewLs, s.size ≤ 60 := by decide +kernel
theorem crewLs_len : crewLs.length = 17 := rfl
theorem lineCells_at {k : Nat} (hk : k < 17) : lineCells[k]? = some (.string (crewLs.getD k noStr)) ∧ (crewLs.getD k noStr).size ≤ 60 := by
  have hl : k < crewLs.length := hk
  have e : crewLs.getD k noStr = crewLs[k] := by rw [List.getD_eq_getElem?_getD, List.getElem?_eq_getElem hl]; rfl
  refine ⟨?_, by rw [e]; exact crewLs_sz _ (List.getElem_mem hl)⟩
  rw [e]
  unfold lineCells
  rw [List.getElem?_toArray, List.getElem?_map, List.getElem?_eq_getElem hl]
  rfl
set_option maxRecDepth 100000 in
set_option maxHeartbeats 3200000 in
theorem lawCrewLines_any (l : List Int) (A : Option Addr) (n c : Nat) (w : World) (hl : Sl (Ty.int .i64) w (all_ w) A n c l) (hg : Glo w) :
    Calls Tryz.prog 4 #[.slice A n c] w (CAwPost w) := by
  have hle := hl.le
  unfold maxLen at hle
  have hb0 := (Below.refl w.heap.size w).alloc (Nat.le_refl _) (.cells lineCells 9)
  have hx0 := heap_alloc_new w (.cells lineCells 9)
  have HS : Hid (∀ V, Below w.heap.size w V → Sl (Ty.int .i64) V (all_ V) A n c l ∧ Glo V) := fun V hV => ⟨hl.next hV, hg.next hV⟩
  obtain ⟨W, hW⟩ : ∃ W, W = w.alloc (.cells #[.string ⟨#[112, 101, 114, 115, 111, 110, 32, 55, 32, 97, 110, 110, 97, 32, 65, 65, 65, 32, 99, 97, 112, 116, 97, 105, 110, 32, 51]⟩, .string ⟨#[112, 101, 114, 115, 111, 110, 32, 56, 32, 98, 111, 32, 66, 66, 66, 32, 99, 97, 98, 105, 110, 32, 52]⟩, .string ⟨#[112, 101, 114, 115, 111, 110, 32, 55, 32, 99, 121, 32, 65, 65, 65, 32, 111, 102, 102, 105, 99, 101, 114, 32, 53]⟩, .string ⟨#[116, 121, 112, 101, 32, 55, 32, 98, 55, 51, 55]⟩, .string ⟨#[116, 121, 112, 101, 32, 55, 32, 97, 51, 50, 48]⟩, .string ⟨#[116, 121, 112, 101, 32, 57, 32, 97, 51, 50, 48]⟩, .string ⟨#[116, 121, 112, 101, 32, 56, 32, 101, 49, 57, 48]⟩, .string ⟨#[118, 97, 99, 97, 116, 105, 111, 110, 32, 55, 32, 50, 48, 48, 50, 45, 49, 48, 45, 48, 49, 32, 48, 48, 58, 48, 48, 32, 50, 48, 48, 50, 45, 49, 48, 45, 48, 50, 32, 50, 51, 58, 53, 57]⟩, .string ⟨#[118, 97, 99, 97, 116, 105, 111, 110, 32, 56, 32, 50, 48, 48, 50, 45, 49, 48, 45, 48, 49, 32, 48, 48, 58, 48, 48, 32, 50, 48, 48, 50, 45, 48, 57, 45, 48, 49, 32, 50, 51, 58, 53, 57]⟩, .string ⟨#[112, 101, 114, 115, 111, 110, 32, 48, 56, 32, 120, 32, 65, 65, 65, 32, 99, 97, 112, 116, 97, 105, 110, 32, 51]⟩, .string ⟨#[112, 101, 114, 115, 111, 110, 32, 57, 32, 100, 101, 101, 32, 90, 90, 90, 32, 99, 97, 112, 116, 97, 105, 110, 32, 57]⟩, .string ⟨#[118, 97, 99, 97, 116, 105, 111, 110, 32, 55, 32, 50, 48, 48, 50, 45, 49, 51, 45, 48, 49, 32, 48, 48, 58, 48, 48, 32, 50, 48, 48, 50, 45, 49, 48, 45, 48, 50, 32, 50, 51, 58, 53, 57]⟩, .string ⟨#[35, 32, 110, 111, 98, 111, 100, 121]⟩, .string ⟨#[]⟩, .string ⟨#[116, 121, 112, 101, 32, 55]⟩, .string ⟨#[112, 101, 114, 115, 111, 110, 32, 49, 48, 32, 101, 118, 101, 32, 65, 65, 65, 32, 112, 105, 108, 111, 116, 32, 51]⟩, .string ⟨#[112, 101, 114, 115, 111, 110, 32, 49, 49, 32, 102, 97, 121, 32, 67, 67, 67, 32, 99, 97, 112, 116, 97, 105, 110, 32, 51]⟩] 9) := ⟨_, rfl⟩
  have HB0 : Hid (Below w.heap.size w W) := hW ▸ hb0
  have HC : Hid (∀ V, Below W.heap.size W V → ∀ k : Nat, k < 17 → ∃ nm, V.cell? ⟨w.heap.size, k, none⟩ = some (.string nm) ∧ nm.size ≤ 60) := fun V hV k hk => by
    have hx : W.heap[w.heap.size]? = some (.cells lineCells 9 (0, 0)) := hW ▸ hx0
    have hx2 := (hV.block _ (Array.getElem?_eq_some_iff.1 hx).1).trans hx
    exact ⟨_, (block_cell hx2 k).trans (lineCells_at hk).1, (lineCells_at hk).2⟩
  clear hb0 hx0 hl hg
  go_enter Tryz.func4, Tryz.ntmps4
  go_wp2_with fail
  rw [← hW]
  clear hW
  go_loopw [4, 5] (fun sv i wr => Below W.heap.size W wr ∧ ∃ (k : Nat) (s : ByteArray), k ≤ 8 ∧ i = .int .i64 k ∧ sv = .string s ∧ s.size ≤ 61 * k) (fun _ i _ => 8 - (intOf i).toNat)
  case atStart => exact ⟨Below.refl _ _, 0, _, Nat.zero_le _, rfl, rfl, Nat.le_refl _⟩
  case round =>
    obtain ⟨hbr, k, s, hk, rfl, rfl, hsz⟩ := hrel
    have hbw : Below w.heap.size w wr := HB0.out.trans (hbr.mono HB0.out.size)
    by_cases hlt : k < n ∧ k < 8
    · obtain ⟨hlt1, hlt2⟩ := hlt
      have hlt1' : (k : Int) < (n : Int) := by omega
      have hlt2' : (k : Int) < 8 := by omega
      have HA := Lib.hid (at_any l A n c k wr (HS.out wr hbw).1 (by omega))
      have hr := atL_range l k
      unfold IntPost at HA
      generalize atL l k = x at *
      have q1 : x.tmod 17 = x % 17 := Int.tmod_eq_emod_of_nonneg (by omega)
      have q2 : IntKind.i64.wrap (x % 17) = x % 17 := IntWalk.i64_in _ (by omega)
      have q3 : 0 ≤ x % 17 := by omega
      have q4 : x % 17 < 17 := by omega
      have q5 : ¬ x % 17 < 0 := by omega
      go_wp2_with fail
      refine HA.out.mono ?_
      rintro e w1 ⟨rfl, hb1⟩
      have hbr1 : Below W.heap.size W w1 := hbr.trans (hb1.mono hbr.size)
      obtain ⟨nm, hc, hnm⟩ := HC.out w1 hbr1 (x % 17).toNat (by omega)
      have q6 : ¬ 9223372036854775807 < s.size + nm.size := by omega
      have q7 : ¬ 9223372036854775807 < s.size + nm.size + 1 := by omega
      have q8 : ¬ 9223372036854775807 < (s ++ nm).size + 1 := by rw [ByteArray.size_append]; omega
      go_wp2_with fail
      go_roundw
      case rel => exact ⟨hbr1, k + 1, _, by omega, by go_num, rfl, by rw [ByteArray.size_append, ByteArray.size_append, show (⟨#[10]⟩ : ByteArray).size = 1 from rfl]; omega⟩
      case measure => simp [intOf]; omega
    · have hnl : (k : Int) < (n : Int) ∧ ¬ (k : Int) < 8 ∨ ¬ (k : Int) < (n : Int) := by omega
      have HZ : Hid (s.size ≤ maxLen) := by show _ ≤ _; unfold maxLen; omega
      have HFN := Lib.hid (parseC_fine baseTbl s)
      have HP : Hid (∀ V, Below w.heap.size w V → ∀ A1 n1 c1 A2 n2 c2, Sl Ty.zone V (all_ V) A1 n1 c1 baseTbl.zones → Sl Ty.airport V (all_ V) A2 n2 c2 baseTbl.airports → Calls Tryz.prog 8 #[.agg #[.slice A1 n1 c1, .slice A2 n2 c2, .slice none 0 0], .string s] V (CParPost (parseC baseTbl s) V)) := fun V hV A1 n1 c1 A2 n2 c2 h1 h2 => crewParse_any baseTbl s A1 A2 none n1 n2 0 c1 c2 0 V tbl_ok h1 h2 Sl.nil0 HZ.out (HS.out V hV).2
      have HPR : Hid (∀ V, Below w.heap.size w V → ∀ A1 n1 c1 A2 n2 c2, Sl Ty.zone V (all_ V) A1 n1 c1 baseTbl.zones → Sl Ty.airport V (all_ V) A2 n2 c2 baseTbl.airports → Calls Tryz.prog 9 #[.agg #[.slice A1 n1 c1, .slice A2 n2 c2, .slice none 0 0], .string s] V (CParPost (parseC baseTbl s) V)) := fun V hV A1 n1 c1 A2 n2 c2 h1 h2 => parseCrewR_any baseTbl s A1 A2 none n1 n2 0 c1 c2 0 V tbl_ok h1 h2 Sl.nil0 HZ.out
      generalize parseC baseTbl s = r at *
      obtain ⟨ls, ln, er⟩ := r
      unfold CParPost at HP HPR
      simp only at HP HPR HFN
      rcases hnl with ⟨hn1, hn2⟩ | hn1
      all_goals
        go_wp2_with fail
        refine (crewTable_any wr).mono ?_
        rintro e w1 ⟨A1, n1, c1, A2, n2, c2, rfl, hs1, hs2, hb1⟩
        have hk1 : Below w.heap.size w w1 := hbw.trans (hb1.mono hbw.size)
        have HC1 := Lib.hid (HP.out w1 hk1 A1 n1 c1 A2 n2 c2 (hs1.more fun b hb => hb.2) (hs2.more fun b hb => hb.2))
        clear hs1 hs2 hb1
        go_wp2_with fail
        refine HC1.out.mono ?_
        clear HC1
        rintro e w2 ⟨Xa, nx, cx, rfl, hsx, hb2⟩
        have hk2 : Below w.heap.size w w2 := hk1.trans (hb2.mono hk1.size)
        have HSX := Lib.hid hsx
        clear hsx hb2 hk1
        go_wp2_with fail
        refine (crewTable_any w2).mono ?_
        rintro e w3 ⟨B1, m1, d1, B2, m2, d2, rfl, hs1, hs2, hb3⟩
        have hk3 : Below w.heap.size w w3 := hk2.trans (hb3.mono hk2.size)
        have HC2 := Lib.hid (HPR.out w3 hk3 B1 m1 d1 B2 m2 d2 (hs1.more fun b hb => hb.2) (hs2.more fun b hb => hb.2))
        have HSX3 := Lib.hid (HSX.out.next hb3)
        clear hs1 hs2 hb3 HSX hk2
        go_wp2_with fail
        refine HC2.out.mono ?_
        clear HC2
        rintro e w4 ⟨Ya, ny, cy, rfl, hsy, hb4⟩
        have hk4 : Below w.heap.size w w4 := hk3.trans (hb4.mono hk3.size)
        have HSM := Lib.hid (crewSame_any ls Xa Ya nx cx ny cy w4 HFN.out.1 HFN.out.2 (HSX3.out.next hb4) hsy)
        clear hb4 hsy hk3
        have e1 : (er == er) = true := by simp
        have e2 : (ln == ln) = true := by simp
        go_wp2_with fail
        refine HSM.out.mono ?_
        clear HSM
        rintro e w5 ⟨rfl, hb5⟩
        have hk5 : Below w.heap.size w w5 := hk4.trans (hb5.mono hk4.size)
        clear hb5 hk4
        go_wp2_with fail
        refine (crewAwake_any w5).mono ?_
        rintro e w6 ⟨rfl, hb6⟩
        go_wp2_with fail
        go_ret
        exact ⟨rfl, hk5.trans (hb6.mono hk5.size)⟩
end Go.Proofs.YtkhedjfdjjeopaaGreatDoor
/-
  The card of CrewLines: for every list of ints the law returns true, and the argument reads as before. No condition.
-/
namespace Go.Proofs.YtkhedjfdjjeopaaGreatDoor.crewLines
set_option linter.unusedSimpArgs false
set_option linter.unusedVariables false
open Go.ChangeShapes Go.WideShapes Go.ChangeAt Go.RowKit
open Go.ChangeMaps (open_string shut_string)
theorem reads_all : (Tryz.f4.params.toList.all fun t => Tryz.prog.readableRec t && decide (t < Tryz.prog.types.size)) = true := by kernel_rfl
theorem reads_ok : ∀ t ∈ Tryz.f4.params.toList, Tryz.prog.readableRec t = true := fun t ht => by
  have h := List.all_eq_true.1 reads_all t ht
  rw [Bool.and_eq_true] at h
  exact h.1
theorem reads_lt : ∀ t ∈ Tryz.f4.params.toList, t < Tryz.prog.types.size := fun t ht => by
  have h := List.all_eq_true.1 reads_all t ht
  rw [Bool.and_eq_true] at h
  exact of_decide_eq_true h.2
set_option maxRecDepth 100000 in
theorem contract (H : Type) (enc : TypeId × Value → H) (W : World) (base : Nat) (args : Array Value) (ds gs : List (DataW H)) (before : List MemPlace)
    (hval : ∀ (j : Nat) t v, Tryz.f4.params[j]? = some t → args[j]? = some v → Value.okWide Tryz.prog W .any base t v)
    (hW : DataW.Whole enc Tryz.prog Tryz.f4.params.toList Rows.crewLinesSpec.vars false W args.toList ds gs before) (hL : laidMetH Tryz.prog Rows.crewLinesRow.laid W) (hsh : W.ShapedOpen Tryz.prog)
    (hreach : (DataW.weightsEach Tryz.prog (Tryz.f4.params.toList ++ (OpenSpec.ofChange Rows.crewLinesSpec).bare.plain.varTypes Tryz.prog) (ds ++ gs)).all (· ≤ reachBytes) = true) :
    Calls Tryz.prog 4 args W fun e W' => ∃ v, e = .returned v ∧ Rows.crewLinesSpec.post enc Tryz.prog Tryz.f4 false true false false W args v W' := by
  have hW' := hW
  obtain ⟨p, q, hA0, hV, rfl, hfz, hnd⟩ := hW
  have hA : DataW.TrodAll enc Tryz.prog W 0 (fun _ => true) true Tryz.f4.params.toList args.toList ds p := hA0
  rw [Tryz.params4] at hA hval
  obtain ⟨v0, vs0, d0, ds0, p0, q0, hargs, rfl, rfl, h0, r0⟩ := trodAll_cons hA
  obtain ⟨rfl, rfl, rfl⟩ := trodAll_nil r0
  obtain rfl : args = #[v0] := by cases args; simp_all
  obtain ⟨rfl, rfl⟩ := trodVars_none hV
  have hlt : ∀ x ∈ p0, x.block < W.heap.size := fun x hx => hW'.lt x (by simp [hx])
  obtain ⟨A0, n0, c0, l0, rfl, s0, _⟩ := open_fits_slice Tryz.underlying35 (by kernel_rfl) fits_i64 (hval 0 35 v0 rfl rfl) h0 hlt
  refine (lawCrewLines_any l0 A0 n0 c0 W s0 (glo_of_shaped hsh)).mono fun e W' ⟨he, hb⟩ => ?_
  subst he
  exact ⟨_, rfl, law_post laidOut_true Tryz.underlying4 rfl rfl (fun t ht => ⟨by revert t; exact reads_ok, by revert t; exact reads_lt⟩) ⟨rfl, rfl, rfl⟩ hW' hb⟩
theorem reads (os : Os) {H : Type} (enc : TypeId × Value → H) : ∃ places, DataW.whole enc Tryz.prog ((World.laidAll Tryz.prog os Rows.crewLinesRow.laid).forCall (fun _ _ => 0) ⟨#[], #[.slice none 0 0], []⟩).memory Tryz.f4.params.toList Rows.crewLinesSpec.vars false (#[.slice none 0 0] : Array Value).toList 8 = some ([.nil], [], places) :=
  ⟨[], by kernel_rfl⟩
theorem laid_met (os : Os) : laidMetH Tryz.prog Rows.crewLinesRow.laid ((World.laidAll Tryz.prog os Rows.crewLinesRow.laid).forCall (fun _ _ => 0) ⟨#[], #[.slice none 0 0], []⟩).memory := by
  rw [MakeChecks.laidMetH_plain _ _ _ (by kernel_rfl)]
  exact laidMet_laidAll _ (by kernel_rfl) (by kernel_rfl)
set_option maxRecDepth 100000 in
theorem lifted (os : Os) (started : os.Started) (H : Type) (enc : TypeId × Value → H) (F : Stop.Interp) :
    ReturnsInHanded {} Tryz.checked os 4 .any ((OpenSpec.ofChange Rows.crewLinesSpec).preRow enc Tryz.prog Tryz.f4 Rows.crewLinesRow.domain false Rows.crewLinesRow.laid) (((OpenSpec.ofChange Rows.crewLinesSpec).at F).post enc Tryz.prog Tryz.f4 false true false false) := by
  obtain ⟨places, hx⟩ := reads os enc
  refine returnsInHanded_of_row (C := Tryz.checked) (s := OpenSpec.ofChange Rows.crewLinesSpec) ownKnob_none started (by kernel_rfl) Tryz.func4
    (witness_row_shaped (enc := enc) (C := Tryz.checked) false (World.laidAll Tryz.prog os Rows.crewLinesRow.laid) #[.slice none 0 0] (World.laidAll_os _ _ _) (World.shaped_of_ZipB (by kernel_rfl) (by kernel_rfl)) (by kernel_rfl)
      (OpenSpec.preRow_of_cond 8 hx (by kernel_rfl) (fun k hk => by cases hk) (by kernel_rfl) (laid_met os))) ?_
  intro W base args ds gs before hval hW _ hcond hreach hL hsh _
  exact contract H enc W base args ds gs before hval hW hL hsh hreach
theorem said : Rows.CrewLinesSaid :=
  OpenClaim.holds_of_cond 4 Tryz.f4 rfl rfl rfl rfl rfl rfl rfl ⟨rfl, rfl, rfl, rfl, rfl⟩ rfl rfl rfl rfl rfl (by kernel_rfl) Tryz.func4 (by kernel_rfl)
    (of_decide_eq_true (by kernel_rfl)) (by unfold Func.isWrapper; first | (rw [if_pos (by decide +kernel)]; kernel_rfl) | (rw [if_neg (by decide +kernel)]; exact ⟨rfl, rfl⟩))
    (fun os started H enc _ F => by rw [OpenClaim.pre_eq_preRow]; exact lifted os started H enc F)
theorem plain (f : FuncId) (fn : Func) (hf : Tryz.pinned.checked.prog.funcNamed Rows.crewLinesRow.func = some f) (hfn : Tryz.pinned.checked.prog.funcs[f]? = some fn) :
    false = Tryz.pinned.checked.prog.looks [] ∧ ∀ (j : Nat) t, fn.params[j]? = some t → Tryz.pinned.checked.prog.wantsStandIn t = false := by
  obtain rfl : f = 4 := Option.some.inj ((show Tryz.prog.funcNamed Rows.crewLinesRow.func = some 4 by kernel_rfl).symm.trans hf) |>.symm
  obtain rfl : fn = Tryz.f4 := (Option.some.inj (Tryz.func4.symm.trans hfn)).symm
  refine ⟨by kernel_rfl, fun j t ht => ?_⟩
  have hall : (Tryz.f4.params.toList.all fun u => !Tryz.prog.wantsStandIn u) = true := by kernel_rfl
  have hm : t ∈ Tryz.f4.params.toList := by simpa using Array.mem_of_getElem? ht
  have h := List.all_eq_true.1 hall t hm
  exact (show Tryz.prog.wantsStandIn t = false by simpa using h)
theorem card : Rows.CrewLinesCardSaid :=
  Claim7.holds_tied_plain_at .later [] _ _ _ _ said (fun _ h => by cases h) (by kernel_rfl) (fun _ h => by cases h) crewLines_row_tie rfl ⟨rfl, rfl⟩ (by kernel_rfl) rfl plain (by kernel_rfl)
end Go.Proofs.YtkhedjfdjjeopaaGreatDoor.crewLines
