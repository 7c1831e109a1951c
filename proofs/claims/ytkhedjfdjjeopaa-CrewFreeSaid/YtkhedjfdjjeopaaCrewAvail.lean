/-
  Contract of crew.Available, and what it says minute by minute.
  Condition: the slices read as lists.
-/
import Derived.Test.YtkhedjfdjjeopaaCrewPlain
import Derived.Test.YtkhedjfdjjeopaaCrc
import Derived.Test.YtkhedjfdjjeopaaCrewSmall
namespace Go.Proofs.Ytkhedjfdjjeopaa
set_option linter.unusedSimpArgs false
set_option linter.unusedVariables false
open Go.RowKit

def hitB (v : GShift) (a b : Int) : Bool := decide (max v.at_ a < min v.off b)
def availB (vs : List GShift) (a b : Int) : Bool := allTo (fun i => !hitB (vs.getD i noShift) a b) vs.length
/-- Minute t lies outside of the first k vacations. -/
def okAt (vs : List GShift) (t : Int) (k : Nat) : Bool := allTo (fun i => decide (t < (vs.getD i noShift).at_) || decide ((vs.getD i noShift).off ≤ t)) k
def freeTo (vs : List GShift) (a : Int) (n : Nat) : Bool := allTo (fun j => okAt vs (a + j) vs.length) n
theorem free_avail (vs : List GShift) (a : Int) (n : Nat) : freeTo vs a n = availB vs a (a + n) := by
  rw [Bool.eq_iff_iff]
  unfold freeTo availB okAt hitB
  simp only [allTo_iff, Bool.or_eq_true, decide_eq_true_eq, Bool.not_eq_true', decide_eq_false_iff_not]
  constructor
  · intro h i hi hlt
    have h1 := h (max (vs.getD i noShift).at_ a - a).toNat (by omega) i hi
    omega
  · intro h j hj i hi
    have := h i hi
    omega
set_option maxRecDepth 100000 in
theorem available_any (p : GPerson) (s0 s1 : Int) (A1 A2 : Option Addr) (n1 n2 c1 c2 : Nat) (w : World) (hs2 : Sl Ty.shift w (all_ w) A2 n2 c2 p.vacs) :
    Calls Try.prog 19 #[.agg #[.int .i64 p.id, .string p.name, .string p.base, .int .i64 p.rank, .int .i64 p.sen, .slice A1 n1 c1, .slice A2 n2 c2], .agg #[.int .i64 s0, .int .i64 s1]] w (BoolPost (availB p.vacs s0 s1) w) := by
  have l2 : n2 ≤ p.vacs.length := Nat.le_of_eq hs2.len
  have l2' : p.vacs.length ≤ n2 := Nat.le_of_eq hs2.len.symm
  have hle := hs2.le
  unfold maxLen at hle
  have hW1 := heap_alloc2_old w (.cells #[.int .i64 p.id, .string p.name, .string p.base, .int .i64 p.rank, .int .i64 p.sen, .slice A1 n1 c1, .slice A2 n2 c2] 40) (.cells #[.int .i64 s0, .int .i64 s1] 42)
  have hW2 := heap_alloc2_new w (.cells #[.int .i64 p.id, .string p.name, .string p.base, .int .i64 p.rank, .int .i64 p.sen, .slice A1 n1 c1, .slice A2 n2 c2] 40) (.cells #[.int .i64 s0, .int .i64 s1] 42)
  have hWb : Below w.heap.size w ((w.alloc (.cells #[.int .i64 p.id, .string p.name, .string p.base, .int .i64 p.rank, .int .i64 p.sen, .slice A1 n1 c1, .slice A2 n2 c2] 40)).alloc (.cells #[.int .i64 s0, .int .i64 s1] 42)) := ((Below.refl _ _).alloc (Nat.le_refl _) _).alloc (by simp) _
  have hWs : ((w.alloc (.cells #[.int .i64 p.id, .string p.name, .string p.base, .int .i64 p.rank, .int .i64 p.sen, .slice A1 n1 c1, .slice A2 n2 c2] 40)).alloc (.cells #[.int .i64 s0, .int .i64 s1] 42)).heap.size = w.heap.size + 2 := by simp
  have HW1 := Lib.hid hW1; have HW2 := Lib.hid hW2; have HWB := Lib.hid hWb; have HWS := Lib.hid hWs; have HS2 := Lib.hid hs2
  clear hs2 hW1 hW2 hWb hWs
  go_enter Try.func19, Try.ntmps19
  go_wp2_with fail
  generalize ((w.alloc (.cells #[.int .i64 p.id, .string p.name, .string p.base, .int .i64 p.rank, .int .i64 p.sen, .slice A1 n1 c1, .slice A2 n2 c2] 40)).alloc (.cells #[.int .i64 s0, .int .i64 s1] 42)) = W at *
  have HAV : Hid (availB p.vacs s0 s1 = allTo (fun i => !hitB (p.vacs.getD i noShift) s0 s1) p.vacs.length) := rfl
  go_loopw [10] (fun i wr => ∃ k : Nat, k ≤ n2 ∧ i = .int .i64 k ∧ Below (w.heap.size + 2) W wr ∧ Hid (allTo (fun i => !hitB (p.vacs.getD i noShift) s0 s1) k = true)) (fun i _ => n2 - (intOf i).toNat)
  case atStart => exact ⟨0, Nat.zero_le _, rfl, Below.refl _ _, allTo_zero _⟩
  case round =>
    obtain ⟨k, hk, rfl, hbr, HK⟩ := hrel
    have hbw : Below w.heap.size w wr := HWB.out.trans (hbr.mono (by omega))
    have hsz := hbr.size
    have hws := HWS.out
    by_cases hlt : k < n2
    · obtain ⟨b, o, rfl, hbS, y0, y1⟩ := (HS2.out.keep (w' := wr) (all_keep hbw)).shift_at (k := k) (by omega)
      have hbl : b < wr.heap.size := by unfold all_ at hbS; omega
      have hbne : b ≠ wr.heap.size := by omega
      have hx := (hbr.block (w.heap.size + 1) (by omega)).trans HW2.out
      have x0 : wr.cell? ⟨w.heap.size + 1, 0, none⟩ = some (.int .i64 s0) := block_cell hx 0
      have x1 : wr.cell? ⟨w.heap.size + 1, 1, none⟩ = some (.int .i64 s1) := block_cell hx 1
      have hwl : w.heap.size + 1 < wr.heap.size := by omega
      have HE : Hid (hitB (p.vacs.getD k noShift) s0 s1 = decide (max (p.vacs.getD k noShift).at_ s0 < min (p.vacs.getD k noShift).off s1)) := rfl
      have HKL : Hid (k < p.vacs.length) := by show _ < _; omega
      have HB1 : Hid (∀ o, Below (w.heap.size + 2) W (wr.alloc o) ∧ Below w.heap.size w (wr.alloc o)) := fun o => ⟨hbr.alloc (by omega) o, hbw.alloc (by omega) o⟩
      have HGE := Lib.hid (show (p.vacs.getD k noShift) = p.vacs.getD k noShift from rfl)
      have HN : Hid (hitB (p.vacs.getD k noShift) s0 s1 = false → allTo (fun i => !hitB (p.vacs.getD i noShift) s0 s1) (k + 1) = true) := fun h => by rw [allTo_succ, HK.out, h]; rfl
      have HH : Hid (hitB (p.vacs.getD k noShift) s0 s1 = true → availB p.vacs s0 s1 = false) := fun h => by rw [HAV.out]; exact allTo_false HKL.out (by rw [h]; rfl)
      generalize p.vacs.getD k noShift = s at *
      clear hx hbS hws HGE
      obtain ⟨m1, e1⟩ : ∃ m, (if s.at_ < s0 then s0 else s.at_) = m := ⟨_, rfl⟩
      obtain ⟨m2, e2⟩ : ∃ m, (if s1 < s.off then s1 else s.off) = m := ⟨_, rfl⟩
      have HM1 : Hid (max s.at_ s0 = m1) := by show _ = _; rw [← e1]; split <;> omega
      have HM2 : Hid (min s.off s1 = m2) := by show _ = _; rw [← e2]; split <;> omega
      rw [HM1.out, HM2.out] at HE
      by_cases hh : m1 < m2
      · have HF := Lib.hid (HH.out (by rw [HE.out]; exact decide_eq_true hh))
        go_wp2_with fail
        go_ret
        exact ⟨ret_bool HF.out.symm, (HB1.out _).2⟩
      · have HF := Lib.hid (HN.out (by rw [HE.out]; exact decide_eq_false hh))
        go_wp2_with fail
        go_roundw
        case rel => exact ⟨k + 1, by omega, by go_num, (HB1.out _).1, HF⟩
        case measure => simp [intOf]; omega
    · have HF : Hid (availB p.vacs s0 s1 = true) := by
        show _ = _
        rw [HAV.out, show p.vacs.length = k by omega]
        exact HK.out
      go_wp2_with fail
      go_ret
      exact ⟨ret_bool HF.out.symm, hbw⟩
end Go.Proofs.Ytkhedjfdjjeopaa
