/-
  Contracts of wire.table and wire.Checksum.
  No condition.
-/
import Derived.Test.YtldeoaddogifpaaGreatDoorWriter
import Derived.Test.YtldeoaddogifpaaGreatDoorCrcPlain
import Derived.Laws.Rows
import Derived.Laws.Tables
namespace Go.Proofs.YtldeoaddogifpaaGreatDoor
set_option linter.unusedSimpArgs false
set_option linter.unusedVariables false
open Go.RowKit

theorem tab_zero : Tryz.zeroCells146 = tabCells 0 := by kernel_rfl
theorem tab_info (k : Nat) : (Tryz.prog.info? 146).map (·.size) = some (tabCells k).size := by rw [tabCells_size]; kernel_rfl
theorem block_cell {w : World} {g : Nat} {cs : Array Value} {t : TypeId} (h : w.heap[g]? = some (.cells cs t (0, 0))) (j : Nat) : w.cell? ⟨g, j, none⟩ = cs[j]? := by
  unfold World.cell?
  simp [h]
theorem block_free {w : World} {g : Nat} {cs : Array Value} {t : TypeId} (h : w.heap[g]? = some (.cells cs t (0, 0))) (j : Nat) : w.frozen? ⟨g, j, none⟩ = false := by
  unfold World.frozen?
  simp [h]
def TabPost (w : World) (e : Ending) (w' : World) : Prop := e = .returned (.agg (tabCells 256)) ∧ Below w.heap.size w w'
set_option maxRecDepth 100000 in
theorem table_any (w : World) : Calls Tryz.prog 123 #[] w (TabPost w) := by
  have hb0 : Below w.heap.size w ((w.alloc (.cells Tryz.zeroCells146 146)).alloc (.cells Tryz.zeroCells146 146)) := ((Below.refl _ _).alloc (Nat.le_refl _) _).alloc (by simp) _
  have hz : ((w.alloc (.cells Tryz.zeroCells146 146)).alloc (.cells Tryz.zeroCells146 146)).heap.size = w.heap.size + 2 := by simp
  have h1 : ((w.alloc (.cells Tryz.zeroCells146 146)).alloc (.cells Tryz.zeroCells146 146)).heap[w.heap.size + 1]? = some (.cells (tabCells 0) 146 (0, 0)) := by
    rw [← tab_zero]; exact heap_alloc2_new _ _ _
  have h2 : ((w.alloc (.cells Tryz.zeroCells146 146)).alloc (.cells Tryz.zeroCells146 146)).heap[w.heap.size]? = some (.cells (tabCells 0) 146 (0, 0)) := by
    rw [← tab_zero]; exact heap_alloc2_old _ _ _
  have HB := Lib.hid hb0; have HZ := Lib.hid hz; have H1 := Lib.hid h1; have H2 := Lib.hid h2
  clear hb0 hz h1 h2
  go_enter Tryz.func123, Tryz.ntmps123
  go_wp2_with fail
  generalize hW : (w.alloc (.cells Tryz.zeroCells146 146)).alloc (.cells Tryz.zeroCells146 146) = W at *
  clear hW
  go_loopw [2, 3, 4, 5] (fun _ _ i _ wr => ∃ k : Nat, k ≤ 256 ∧ i = .int .i64 k ∧ Hid (wr.heap[w.heap.size + 1]? = some (.cells (tabCells k) 146 (0, 0))) ∧ Hid (wr.heap[w.heap.size]? = some (.cells (tabCells 0) 146 (0, 0))) ∧ Below w.heap.size w wr) (fun _ _ i _ _ => 256 - (intOf i).toNat)
  case atStart => exact ⟨0, Nat.zero_le _, rfl, H1, H2, HB.out⟩
  case round =>
    obtain ⟨k, hk, rfl, HT, HT0, hbr⟩ := hrel
    by_cases hlt : k < 256
    · have HU := Lib.hid (ofNat_of_int k hlt)
      have hwr : IntKind.u32.wrap (k : Int) = (k : Int) := by rw [IntKind.wrap_u32]; omega
      have hcell : wr.cell? ⟨w.heap.size + 1, k, none⟩ = some (.int .u32 0) := by rw [block_cell HT.out, tabCells_get hlt, if_neg (by omega)]
      have hfz : wr.frozen? ⟨w.heap.size + 1, k, none⟩ = false := block_free HT.out k
      go_wp2_with fail
      go_loop [3, 9] (fun r i => ∃ (j : Nat), j ≤ 8 ∧ i = .int .i64 j ∧ r = .int .u32 (u32 (shN j (BitVec.ofNat 32 k)))) (fun _ i => 8 - (intOf i).toNat)
      case atStart => exact ⟨0, Nat.zero_le _, rfl, by rw [← hwr, HU.out]; rfl⟩
      case round =>
        obtain ⟨j, hj, rfl, rfl⟩ := hrel
        by_cases hl2 : j < 8
        · have HL := Lib.hid (low_bit (shN j (BitVec.ofNat 32 k)))
          have HS : Hid (shN (j + 1) (BitVec.ofNat 32 k) = sh1 (shN j (BitVec.ofNat 32 k))) := rfl
          generalize shN j (BitVec.ofNat 32 k) = x at *
          rcases Bool.eq_false_or_eq_true (lowB x) with hb | hb
          · have hbb : (bits .and .u32 (u32 x) 1 != 0) = true := by rw [HL.out, hb]
            have HE := Lib.hid (sh1_yes hb)
            clear hb
            go_wp2_with fail
            go_round
            case rel => exact ⟨j + 1, by omega, by go_num, by rw [HS.out, HE.out]⟩
            case measure => simp [intOf]; omega
          · have hbb : (bits .and .u32 (u32 x) 1 != 0) = false := by rw [HL.out, hb]
            have HE := Lib.hid (sh1_no hb)
            clear hb
            go_wp2_with fail
            go_round
            case rel => exact ⟨j + 1, by omega, by go_num, by rw [HS.out, HE.out]⟩
            case measure => simp [intOf]; omega
        · have hj8 : j = 8 := by omega
          subst hj8
          have HN : Hid ((wr.setCell ⟨w.heap.size + 1, k, none⟩ (.int .u32 (u32 (shN 8 (BitVec.ofNat 32 k))))).heap[w.heap.size + 1]? = some (.cells (tabCells (k + 1)) 146 (0, 0))) := by
            have := heap_setCell_same wr (w.heap.size + 1) k (tabCells k) _ (.int .u32 (u32 (tabN k))) HT.out
            rw [tabCells_set hlt] at this
            exact this
          have HN0 : Hid ((wr.setCell ⟨w.heap.size + 1, k, none⟩ (.int .u32 (u32 (shN 8 (BitVec.ofNat 32 k))))).heap[w.heap.size]? = some (.cells (tabCells 0) 146 (0, 0))) := by
            show _ = _
            rw [heap_setCell_other _ _ _ _ (by simp)]
            exact HT0.out
          have HBN : Hid (Below w.heap.size w (wr.setCell ⟨w.heap.size + 1, k, none⟩ (.int .u32 (u32 (shN 8 (BitVec.ofNat 32 k)))))) := hbr.setCell (by simp) _
          generalize shN 8 (BitVec.ofNat 32 k) = x at *
          go_wp2_with fail
          go_roundw
          case rel => exact ⟨k + 1, by omega, by go_num, HN, HN0, HBN.out⟩
          case measure => simp [intOf]; omega
    · have hk8 : k = 256 := by omega
      subst hk8
      go_wp2_with (first | (refine wpList_load_row rfl _ _ rfl (w.heap.size + 1) rfl _ (tabCells 256) _ _ HT.out Tryz.underlying146 rfl (tab_info _) ?_) | (refine wpList_store_row rfl _ _ _ rfl w.heap.size (tabCells 256) rfl rfl _ (tabCells 0) HT0.out (tab_info _) (by rw [tabCells_size, tabCells_size]) (tabCells_one _) ?_))
      refine bodyPost_ret (v := .agg (tabCells 256)) ?_ rfl ⟨rfl, ?_⟩
      · have hl := run_loadVar_row (P := Tryz.prog) (wr.setRow w.heap.size (tabCells 256)) w.heap.size _ 146 (tabCells 256) (0, 0) _ (setRow_heap wr _ _ (tabCells 256) _ _ HT0.out) Tryz.underlying146 rfl (tab_info _)
        unfold results
        rw [Tryz.results123]
        simp [hl, Act.put, asAddr]
      · exact ⟨hbr.os, hbr.tape, hbr.output, by simpa using hbr.size, fun b hb => (setRow_other _ _ _ _ (by omega)).trans (hbr.block b hb)⟩

theorem not_u32 (x : BitVec 32) : bits .xor .u32 IntKind.u32.max (u32 x) = u32 (~~~ x) := by
  have e : IntKind.u32.max = u32 (BitVec.allOnes 32) := by decide
  rw [e, bits_xor_u32, BitVec.xor_comm, BitVec.xor_allOnes]
def SumPost (x : BitVec 32) (w : World) (e : Ending) (w' : World) : Prop := e = .returned (.int .u32 (u32 x)) ∧ Below w.heap.size w w'
set_option maxRecDepth 100000 in
theorem checksum_any (bs : List Int) (A : Option Addr) (n c : Nat) (w : World) (h : Sl (Ty.int .u8) w (all_ w) A n c bs) :
    Calls Tryz.prog 81 #[.slice A n c] w (SumPost (crc bs) w) := by
  have hle := h.le
  unfold maxLen at hle
  have hn1 : n ≤ bs.length := Nat.le_of_eq h.len
  have hn2 : bs.length ≤ n := Nat.le_of_eq h.len.symm
  have H := Lib.hid h
  have HC := Lib.hid (table_any w)
  clear h
  go_enter Tryz.func81, Tryz.ntmps81
  go_wp2_with fail
  refine HC.out.mono ?_
  rintro e w1 ⟨rfl, hb1⟩
  clear HC
  have HN : Hid ((w1.alloc (.cells Tryz.zeroCells146 146)).heap[w1.heap.size]? = some (.cells (tabCells 0) 146 (0, 0))) := by
    show _ = _
    rw [← tab_zero]; exact heap_alloc_new _ _
  go_wp2_with (refine wpList_store_row rfl _ _ _ rfl w1.heap.size (tabCells 256) rfl rfl _ (tabCells 0) HN.out (tab_info _) (by rw [tabCells_size, tabCells_size]) (tabCells_one _) ?_)
  have hN : ((w1.alloc (.cells Tryz.zeroCells146 146)).setRow w1.heap.size (tabCells 256)).heap[w1.heap.size]? = some (.cells (tabCells 256) 146 (0, 0)) := setRow_heap _ _ _ _ _ _ HN.out
  have hb2 : Below w.heap.size w ((w1.alloc (.cells Tryz.zeroCells146 146)).setRow w1.heap.size (tabCells 256)) := by
    have h9 := hb1.alloc hb1.size (.cells Tryz.zeroCells146 146)
    exact ⟨h9.os, h9.tape, h9.output, by simpa using h9.size, fun b hb => (setRow_other _ _ _ _ (by have := hb1.size; omega)).trans (h9.block b hb)⟩
  generalize (w1.alloc (.cells Tryz.zeroCells146 146)).setRow w1.heap.size (tabCells 256) = W at *
  have HT := Lib.hid hN
  clear HN hN
  have HS := Lib.hid (H.out.keep (all_keep hb2))
  go_wp2_with fail
  go_loop [4, 6, 10] (fun s _ i => ∃ k : Nat, k ≤ n ∧ i = .int .i64 k ∧ s = .int .u32 (u32 (crcTo (bs.take k)))) (fun _ _ i => n - (intOf i).toNat)
  case atStart => exact ⟨0, Nat.zero_le _, rfl, by rw [List.take_zero]; rfl⟩
  case round =>
    obtain ⟨k, hk, rfl, rfl⟩ := hrel
    by_cases hlt : k < n
    · have hkl : k < bs.length := by omega
      obtain ⟨b, o, rfl, hbS, hcell⟩ := HS.out.int_at hkl
      have HX : Hid (crcTo (bs.take (k + 1)) = crcStep (crcTo (bs.take k)) bs[k]) := by
        show _ = _
        rw [List.take_succ_eq_append_getElem hkl, crcTo_snoc]
      generalize crcTo (bs.take k) = x at *
      generalize bs[k] = y at *
      have hix := ix_lt x y
      have HI := Lib.hid (ix_eq x y)
      have HE := Lib.hid (crcStep_eq x y)
      have e1 : bits .xor .u8 (u32 x % 256) y = (ix x y : Int) := by rw [← IntKind.wrap_u8]; exact HI.out
      have hct : W.cell? ⟨w1.heap.size, ix x y, none⟩ = some (.int .u32 (u32 (tabN (ix x y)))) := by rw [block_cell HT.out, tabCells_get hix, if_pos hix]
      go_wp2_with fail
      go_round
      case rel => exact ⟨k + 1, by omega, by go_num, by rw [HX.out, ← HE.out]⟩
      case measure => simp [intOf]; omega
    · have hkn : k = n := by omega
      have HF : Hid (crcTo (bs.take k) = crcTo bs) := by show _ = _; rw [List.take_of_length_le (by omega)]
      generalize crcTo (bs.take k) = x at *
      go_wp2_with fail
      go_ret
      exact ⟨ret_int (by rw [not_u32, HF.out]; rfl), hb2⟩
end Go.Proofs.YtldeoaddogifpaaGreatDoor
