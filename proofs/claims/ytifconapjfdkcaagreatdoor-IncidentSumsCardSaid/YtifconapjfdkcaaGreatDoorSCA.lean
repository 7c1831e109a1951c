/-
  Joined texts: DataCon; Prob; CardLib; PeopleMem; People; Fmt; Fmt2; IncFormat; Lines; IncParse. What each proves stands ahead of it, with its conditions.
-/
import Derived.Test.YtifconapjfdkcaaGreatDoorSBZ
import Derived.Deep.DeepCutAuto
import Derived.Deep.CutBlock
import Derived.Laws.Tables
import Derived.Laws.Rows
import Derived.Deep.QuietTactic
import Derived.Test.YtifconapjfdkcaaGreatDoorCards
import Derived.Test.YtifconapjfdkcaaGreatDoorTie
import Derived.WalkKit
import Derived.ProofKit
import Derived.OpenShut
import Derived.Deep.DeepHandedRow
import Derived.Lib.LaidTab
import Derived.PinnedBridge
import Derived.Lay
import Derived.Test.YtifconapjfdkcaaGreatDoorSAO
import Derived.Test.YtifconapjfdkcaaGreatDoorSAV
import Derived.Test.YtifconapjfdkcaaGreatDoorSBW
import Derived.Test.YtifconapjfdkcaaGreatDoorSBO
import Derived.Test.YtifconapjfdkcaaGreatDoorSBP
import Derived.Test.YtifconapjfdkcaaGreatDoorSBE
import Derived.Test.YtifconapjfdkcaaGreatDoorSBV
import Derived.Test.YtifconapjfdkcaaGreatDoorSBN
import Derived.Test.YtifconapjfdkcaaGreatDoorSBY
import Derived.OwnWalk
/-
  Contract of pairingdata.Contract: some contract.
  Condition: the number is not negative.
-/
namespace Go.Proofs.YtifconapjfdkcaaGreatDoor
set_option linter.unusedSimpArgs false
set_option linter.unusedVariables false
open Go.RowKit

theorem below_setRowC {w w' : World} {n b : Nat} {cs : Array Value} (h : Below n w w') (hb : n ≤ b) : Below n w (w'.setRow b cs) :=
  ⟨h.os, h.tape, h.output, by simpa using h.size, fun q hq => (setRow_other _ _ _ _ (by omega)).trans (h.block q hq)⟩
def ConPost (w : World) (e : Ending) (w' : World) : Prop := ∃ cs, ConCells cs ∧ e = .returned (.agg cs.toArray) ∧ Below w.heap.size w w'
set_option maxRecDepth 100000 in
set_option maxHeartbeats 3200000 in
theorem dataContract_any (n : Int) (w : World) (h0 : 0 ≤ n) (h1 : n ≤ 9223372036854775807) : Calls Tryz.prog 34 #[.int .i64 n] w (ConPost w) := by
  have hr : n % 6 = 0 ∨ n % 6 = 1 ∨ n % 6 = 2 ∨ n % 6 = 3 ∨ n % 6 = 4 ∨ n % 6 = 5 := by omega
  rcases hr with hr | hr | hr | hr | hr | hr
  · have h8 : n.tmod 6 = 0 := by rw [Int.tmod_eq_emod_of_nonneg h0]; exact hr
    have hq : IntKind.i64.wrap (0 : Int) = 0 := IntWalk.i64_in _ (by omega)
    clear hr h0
    go_enter Tryz.func34, Tryz.ntmps34
    go_upto_region 1 with (fail)
    have HA : Hid (Below w.heap.size w (w.alloc (.cells #[.int .i64 0, .int .i64 0, .int .i64 0, .int .i64 0, .int .i64 0, .int .i64 0, .int .i64 0, .slice none 0 0, .slice none 0 0, .slice none 0 0, .slice none 0 0, .slice none 0 0, .slice none 0 0, .int .i64 0] 35))) := (Below.refl _ _).alloc (Nat.le_refl _) _
    have HR : Hid ((w.alloc (.cells #[.int .i64 0, .int .i64 0, .int .i64 0, .int .i64 0, .int .i64 0, .int .i64 0, .int .i64 0, .slice none 0 0, .slice none 0 0, .slice none 0 0, .slice none 0 0, .slice none 0 0, .slice none 0 0, .int .i64 0] 35)).heap[w.heap.size]? = some (.cells #[.int .i64 0, .int .i64 0, .int .i64 0, .int .i64 0, .int .i64 0, .int .i64 0, .int .i64 0, .slice none 0 0, .slice none 0 0, .slice none 0 0, .slice none 0 0, .slice none 0 0, .slice none 0 0, .int .i64 0] 35 (0, 0))) := heap_alloc_new _ _
    generalize w.alloc (.cells #[.int .i64 0, .int .i64 0, .int .i64 0, .int .i64 0, .int .i64 0, .int .i64 0, .int .i64 0, .slice none 0 0, .slice none 0 0, .slice none 0 0, .slice none 0 0, .slice none 0 0, .slice none 0 0, .int .i64 0] 35) = W at *
    go_cut [3] (fun s wx => s = .string conS0 ∧ wx = W)
    case first =>
      go_wp2_with fail
      go_meet
      exact ⟨congrArg Value.string (by kernel_rfl), rfl⟩
    case rest =>
    obtain ⟨rfl, rfl⟩ := hcut
    go_upto_region 13 with (fail)
    refine wp_region_lit ?_
    refine wpList_plain rfl fun K9 hK9 => ?_
    go_simp
    refine hK9 _ _ ?_
    clear hK9
    refine wpList_plain rfl fun K9 hK9 => ?_
    go_simp
    go_at_call 66
    refine (con_read0 _).mono ?_
    rintro e w2 ⟨cs, hcs, rfl, hb2⟩
    refine hK9 _ _ ?_
    clear hK9
    have HA2 : Hid (Below w.heap.size w w2) := HA.out.trans (hb2.mono HA.out.size)
    have hwl := (Array.getElem?_eq_some_iff.1 HR.out).1
    have HR2 : Hid (w2.heap[w.heap.size]? = _) := (hb2.block _ hwl).trans HR.out
    have hwl2 : w.heap.size < w2.heap.size := by have := hb2.size; omega
    clear hb2 HA HR hwl
    refine wpList_plain rfl fun K9 hK9 => ?_
    go_simp
    refine hK9 _ _ ?_
    clear hK9
    refine wpList_plain rfl fun K9 hK9 => ?_
    go_simp
    refine hK9 _ _ ?_
    clear hK9
    refine wpList_plain rfl fun K9 hK9 => ?_
    go_simp
    refine hK9 _ _ ?_
    clear hK9
    refine wpList_plain rfl fun K9 hK9 => ?_
    go_simp
    refine hK9 _ _ ?_
    clear hK9
    refine wpList_plain rfl fun K9 hK9 => ?_
    go_simp
    refine hK9 _ _ ?_
    clear hK9
    have HX3 := Lib.hid (heap_alloc_new w2 (.cells #[.int .i64 0, .int .i64 0, .int .i64 0, .int .i64 0, .int .i64 0, .int .i64 0, .int .i64 0, .slice none 0 0, .slice none 0 0, .slice none 0 0, .slice none 0 0, .slice none 0 0, .slice none 0 0, .int .i64 0] 35))
    have HA3 : Hid (Below w.heap.size w (w2.alloc (.cells #[.int .i64 0, .int .i64 0, .int .i64 0, .int .i64 0, .int .i64 0, .int .i64 0, .int .i64 0, .slice none 0 0, .slice none 0 0, .slice none 0 0, .slice none 0 0, .slice none 0 0, .slice none 0 0, .int .i64 0] 35))) := HA2.out.alloc HA2.out.size _
    have HR3 : Hid ((w2.alloc (.cells #[.int .i64 0, .int .i64 0, .int .i64 0, .int .i64 0, .int .i64 0, .int .i64 0, .int .i64 0, .slice none 0 0, .slice none 0 0, .slice none 0 0, .slice none 0 0, .slice none 0 0, .slice none 0 0, .int .i64 0] 35)).heap[w.heap.size]? = _) := (Below.heap_alloc _ _ _ hwl2).trans HR2.out
    generalize w2.alloc (.cells #[.int .i64 0, .int .i64 0, .int .i64 0, .int .i64 0, .int .i64 0, .int .i64 0, .int .i64 0, .slice none 0 0, .slice none 0 0, .slice none 0 0, .slice none 0 0, .slice none 0 0, .slice none 0 0, .int .i64 0] 35) = w3 at *
    generalize w2.heap.size = bc at *
    have HCS := Lib.hid hcs
    have hone : cs.toArray.all (·.oneCell') = true := by
      rw [Array.all_eq_true]
      intro i hi
      exact hcs.2 _ (by simp)
    have hlen : cs.toArray.size = 14 := by simpa using hcs.1
    clear hcs HA2 HR2
    refine wpList_store_row rfl _ _ _ rfl bc cs.toArray (by simp [Act.eval, Act.put]) (by simp [Act.eval, Act.put]) _ _ HX3.out (by rw [hlen]; kernel_rfl) (by rw [hlen]; rfl) hone ?_
    have HX4 := Lib.hid (setRow_heap _ _ _ cs.toArray _ _ HX3.out)
    have HA4 := Lib.hid (below_setRowC HA3.out (b := bc) (cs := cs.toArray) (by omega))
    have HR4 := Lib.hid ((setRow_other w3 bc w.heap.size cs.toArray (by omega)).trans HR3.out)
    generalize w3.setRow bc cs.toArray = w4 at *
    clear HX3 HA3 HR3
    go_upto_region 14 with (fail)
    refine wp_region_lit ?_
    refine wpList_load_row rfl _ _ rfl bc (by simp [Act.eval]) _ _ _ _ HX4.out Tryz.underlying35 rfl (by rw [hlen]; kernel_rfl) ?_
    refine wpList_store_row rfl _ _ _ rfl w.heap.size cs.toArray (by simp [Act.eval, Act.put]) (by simp [Act.eval, Act.put]) _ _ HR4.out (by rw [hlen]; kernel_rfl) (by rw [hlen]; rfl) hone ?_
    have HX5 := Lib.hid (setRow_heap _ _ _ cs.toArray _ _ HR4.out)
    have HA5 := Lib.hid (below_setRowC HA4.out (b := w.heap.size) (cs := cs.toArray) (Nat.le_refl _))
    generalize w4.setRow w.heap.size cs.toArray = w5 at *
    clear HX4 HA4 HR4
    go_wp2_with fail
    refine bodyPost_ret (v := .agg cs.toArray) (results_cell_row Tryz.results34 _ _ w.heap.size _ _ _ _ (by simp [Act.put]) HX5.out Tryz.underlying35 rfl (by rw [hlen]; kernel_rfl)) rfl ?_
    exact ⟨cs, HCS.out, rfl, HA5.out⟩
  · have h8 : n.tmod 6 = 1 := by rw [Int.tmod_eq_emod_of_nonneg h0]; exact hr
    have hq : IntKind.i64.wrap (1 : Int) = 1 := IntWalk.i64_in _ (by omega)
    clear hr h0
    go_enter Tryz.func34, Tryz.ntmps34
    go_upto_region 1 with (fail)
    have HA : Hid (Below w.heap.size w (w.alloc (.cells #[.int .i64 0, .int .i64 0, .int .i64 0, .int .i64 0, .int .i64 0, .int .i64 0, .int .i64 0, .slice none 0 0, .slice none 0 0, .slice none 0 0, .slice none 0 0, .slice none 0 0, .slice none 0 0, .int .i64 0] 35))) := (Below.refl _ _).alloc (Nat.le_refl _) _
    have HR : Hid ((w.alloc (.cells #[.int .i64 0, .int .i64 0, .int .i64 0, .int .i64 0, .int .i64 0, .int .i64 0, .int .i64 0, .slice none 0 0, .slice none 0 0, .slice none 0 0, .slice none 0 0, .slice none 0 0, .slice none 0 0, .int .i64 0] 35)).heap[w.heap.size]? = some (.cells #[.int .i64 0, .int .i64 0, .int .i64 0, .int .i64 0, .int .i64 0, .int .i64 0, .int .i64 0, .slice none 0 0, .slice none 0 0, .slice none 0 0, .slice none 0 0, .slice none 0 0, .slice none 0 0, .int .i64 0] 35 (0, 0))) := heap_alloc_new _ _
    generalize w.alloc (.cells #[.int .i64 0, .int .i64 0, .int .i64 0, .int .i64 0, .int .i64 0, .int .i64 0, .int .i64 0, .slice none 0 0, .slice none 0 0, .slice none 0 0, .slice none 0 0, .slice none 0 0, .slice none 0 0, .int .i64 0] 35) = W at *
    go_cut [3] (fun s wx => s = .string conS0 ∧ wx = W)
    case first =>
      go_wp2_with fail
      go_meet
      exact ⟨congrArg Value.string (by kernel_rfl), rfl⟩
    case rest =>
    obtain ⟨rfl, rfl⟩ := hcut
    go_upto_block 0 with (fail)
    go_cut [3] (fun s wx => s = .string conS1 ∧ wx = wc)
    case first =>
      go_wp2_with fail
      go_meet
      exact ⟨congrArg Value.string (by kernel_rfl), rfl⟩
    case rest =>
    obtain ⟨rfl, rfl⟩ := hcut
    go_upto_region 13 with (fail)
    refine wp_region_lit ?_
    refine wpList_plain rfl fun K9 hK9 => ?_
    go_simp
    refine hK9 _ _ ?_
    clear hK9
    refine wpList_plain rfl fun K9 hK9 => ?_
    go_simp
    go_at_call 66
    refine (con_read1 _).mono ?_
    rintro e w2 ⟨cs, hcs, rfl, hb2⟩
    refine hK9 _ _ ?_
    clear hK9
    have HA2 : Hid (Below w.heap.size w w2) := HA.out.trans (hb2.mono HA.out.size)
    have hwl := (Array.getElem?_eq_some_iff.1 HR.out).1
    have HR2 : Hid (w2.heap[w.heap.size]? = _) := (hb2.block _ hwl).trans HR.out
    have hwl2 : w.heap.size < w2.heap.size := by have := hb2.size; omega
    clear hb2 HA HR hwl
    refine wpList_plain rfl fun K9 hK9 => ?_
    go_simp
    refine hK9 _ _ ?_
    clear hK9
    refine wpList_plain rfl fun K9 hK9 => ?_
    go_simp
    refine hK9 _ _ ?_
    clear hK9
    refine wpList_plain rfl fun K9 hK9 => ?_
    go_simp
    refine hK9 _ _ ?_
    clear hK9
    refine wpList_plain rfl fun K9 hK9 => ?_
    go_simp
    refine hK9 _ _ ?_
    clear hK9
    refine wpList_plain rfl fun K9 hK9 => ?_
    go_simp
    refine hK9 _ _ ?_
    clear hK9
    have HX3 := Lib.hid (heap_alloc_new w2 (.cells #[.int .i64 0, .int .i64 0, .int .i64 0, .int .i64 0, .int .i64 0, .int .i64 0, .int .i64 0, .slice none 0 0, .slice none 0 0, .slice none 0 0, .slice none 0 0, .slice none 0 0, .slice none 0 0, .int .i64 0] 35))
    have HA3 : Hid (Below w.heap.size w (w2.alloc (.cells #[.int .i64 0, .int .i64 0, .int .i64 0, .int .i64 0, .int .i64 0, .int .i64 0, .int .i64 0, .slice none 0 0, .slice none 0 0, .slice none 0 0, .slice none 0 0, .slice none 0 0, .slice none 0 0, .int .i64 0] 35))) := HA2.out.alloc HA2.out.size _
    have HR3 : Hid ((w2.alloc (.cells #[.int .i64 0, .int .i64 0, .int .i64 0, .int .i64 0, .int .i64 0, .int .i64 0, .int .i64 0, .slice none 0 0, .slice none 0 0, .slice none 0 0, .slice none 0 0, .slice none 0 0, .slice none 0 0, .int .i64 0] 35)).heap[w.heap.size]? = _) := (Below.heap_alloc _ _ _ hwl2).trans HR2.out
    generalize w2.alloc (.cells #[.int .i64 0, .int .i64 0, .int .i64 0, .int .i64 0, .int .i64 0, .int .i64 0, .int .i64 0, .slice none 0 0, .slice none 0 0, .slice none 0 0, .slice none 0 0, .slice none 0 0, .slice none 0 0, .int .i64 0] 35) = w3 at *
    generalize w2.heap.size = bc at *
    have HCS := Lib.hid hcs
    have hone : cs.toArray.all (·.oneCell') = true := by
      rw [Array.all_eq_true]
      intro i hi
      exact hcs.2 _ (by simp)
    have hlen : cs.toArray.size = 14 := by simpa using hcs.1
    clear hcs HA2 HR2
    refine wpList_store_row rfl _ _ _ rfl bc cs.toArray (by simp [Act.eval, Act.put]) (by simp [Act.eval, Act.put]) _ _ HX3.out (by rw [hlen]; kernel_rfl) (by rw [hlen]; rfl) hone ?_
    have HX4 := Lib.hid (setRow_heap _ _ _ cs.toArray _ _ HX3.out)
    have HA4 := Lib.hid (below_setRowC HA3.out (b := bc) (cs := cs.toArray) (by omega))
    have HR4 := Lib.hid ((setRow_other w3 bc w.heap.size cs.toArray (by omega)).trans HR3.out)
    generalize w3.setRow bc cs.toArray = w4 at *
    clear HX3 HA3 HR3
    go_upto_region 14 with (fail)
    refine wp_region_lit ?_
    refine wpList_load_row rfl _ _ rfl bc (by simp [Act.eval]) _ _ _ _ HX4.out Tryz.underlying35 rfl (by rw [hlen]; kernel_rfl) ?_
    refine wpList_store_row rfl _ _ _ rfl w.heap.size cs.toArray (by simp [Act.eval, Act.put]) (by simp [Act.eval, Act.put]) _ _ HR4.out (by rw [hlen]; kernel_rfl) (by rw [hlen]; rfl) hone ?_
    have HX5 := Lib.hid (setRow_heap _ _ _ cs.toArray _ _ HR4.out)
    have HA5 := Lib.hid (below_setRowC HA4.out (b := w.heap.size) (cs := cs.toArray) (Nat.le_refl _))
    generalize w4.setRow w.heap.size cs.toArray = w5 at *
    clear HX4 HA4 HR4
    go_wp2_with fail
    refine bodyPost_ret (v := .agg cs.toArray) (results_cell_row Tryz.results34 _ _ w.heap.size _ _ _ _ (by simp [Act.put]) HX5.out Tryz.underlying35 rfl (by rw [hlen]; kernel_rfl)) rfl ?_
    exact ⟨cs, HCS.out, rfl, HA5.out⟩
  · have h8 : n.tmod 6 = 2 := by rw [Int.tmod_eq_emod_of_nonneg h0]; exact hr
    have hq : IntKind.i64.wrap (2 : Int) = 2 := IntWalk.i64_in _ (by omega)
    clear hr h0
    go_enter Tryz.func34, Tryz.ntmps34
    go_upto_region 1 with (fail)
    have HA : Hid (Below w.heap.size w (w.alloc (.cells #[.int .i64 0, .int .i64 0, .int .i64 0, .int .i64 0, .int .i64 0, .int .i64 0, .int .i64 0, .slice none 0 0, .slice none 0 0, .slice none 0 0, .slice none 0 0, .slice none 0 0, .slice none 0 0, .int .i64 0] 35))) := (Below.refl _ _).alloc (Nat.le_refl _) _
    have HR : Hid ((w.alloc (.cells #[.int .i64 0, .int .i64 0, .int .i64 0, .int .i64 0, .int .i64 0, .int .i64 0, .int .i64 0, .slice none 0 0, .slice none 0 0, .slice none 0 0, .slice none 0 0, .slice none 0 0, .slice none 0 0, .int .i64 0] 35)).heap[w.heap.size]? = some (.cells #[.int .i64 0, .int .i64 0, .int .i64 0, .int .i64 0, .int .i64 0, .int .i64 0, .int .i64 0, .slice none 0 0, .slice none 0 0, .slice none 0 0, .slice none 0 0, .slice none 0 0, .slice none 0 0, .int .i64 0] 35 (0, 0))) := heap_alloc_new _ _
    generalize w.alloc (.cells #[.int .i64 0, .int .i64 0, .int .i64 0, .int .i64 0, .int .i64 0, .int .i64 0, .int .i64 0, .slice none 0 0, .slice none 0 0, .slice none 0 0, .slice none 0 0, .slice none 0 0, .slice none 0 0, .int .i64 0] 35) = W at *
    go_cut [3] (fun s wx => s = .string conS0 ∧ wx = W)
    case first =>
      go_wp2_with fail
      go_meet
      exact ⟨congrArg Value.string (by kernel_rfl), rfl⟩
    case rest =>
    obtain ⟨rfl, rfl⟩ := hcut
    have hsz : conS0.size = 186 := by kernel_rfl
    go_upto_block 0 with (fail)
    go_cut [3] (fun s wx => s = .string conS2 ∧ wx = wc)
    case first =>
      go_wp2_with fail
      go_meet
      exact ⟨congrArg Value.string (by kernel_rfl), rfl⟩
    case rest =>
    obtain ⟨rfl, rfl⟩ := hcut
    go_upto_region 13 with (fail)
    refine wp_region_lit ?_
    refine wpList_plain rfl fun K9 hK9 => ?_
    go_simp
    refine hK9 _ _ ?_
    clear hK9
    refine wpList_plain rfl fun K9 hK9 => ?_
    go_simp
    go_at_call 66
    refine (con_read2 _).mono ?_
    rintro e w2 ⟨cs, hcs, rfl, hb2⟩
    refine hK9 _ _ ?_
    clear hK9
    have HA2 : Hid (Below w.heap.size w w2) := HA.out.trans (hb2.mono HA.out.size)
    have hwl := (Array.getElem?_eq_some_iff.1 HR.out).1
    have HR2 : Hid (w2.heap[w.heap.size]? = _) := (hb2.block _ hwl).trans HR.out
    have hwl2 : w.heap.size < w2.heap.size := by have := hb2.size; omega
    clear hb2 HA HR hwl
    refine wpList_plain rfl fun K9 hK9 => ?_
    go_simp
    refine hK9 _ _ ?_
    clear hK9
    refine wpList_plain rfl fun K9 hK9 => ?_
    go_simp
    refine hK9 _ _ ?_
    clear hK9
    refine wpList_plain rfl fun K9 hK9 => ?_
    go_simp
    refine hK9 _ _ ?_
    clear hK9
    refine wpList_plain rfl fun K9 hK9 => ?_
    go_simp
    refine hK9 _ _ ?_
    clear hK9
    refine wpList_plain rfl fun K9 hK9 => ?_
    go_simp
    refine hK9 _ _ ?_
    clear hK9
    have HX3 := Lib.hid (heap_alloc_new w2 (.cells #[.int .i64 0, .int .i64 0, .int .i64 0, .int .i64 0, .int .i64 0, .int .i64 0, .int .i64 0, .slice none 0 0, .slice none 0 0, .slice none 0 0, .slice none 0 0, .slice none 0 0, .slice none 0 0, .int .i64 0] 35))
    have HA3 : Hid (Below w.heap.size w (w2.alloc (.cells #[.int .i64 0, .int .i64 0, .int .i64 0, .int .i64 0, .int .i64 0, .int .i64 0, .int .i64 0, .slice none 0 0, .slice none 0 0, .slice none 0 0, .slice none 0 0, .slice none 0 0, .slice none 0 0, .int .i64 0] 35))) := HA2.out.alloc HA2.out.size _
    have HR3 : Hid ((w2.alloc (.cells #[.int .i64 0, .int .i64 0, .int .i64 0, .int .i64 0, .int .i64 0, .int .i64 0, .int .i64 0, .slice none 0 0, .slice none 0 0, .slice none 0 0, .slice none 0 0, .slice none 0 0, .slice none 0 0, .int .i64 0] 35)).heap[w.heap.size]? = _) := (Below.heap_alloc _ _ _ hwl2).trans HR2.out
    generalize w2.alloc (.cells #[.int .i64 0, .int .i64 0, .int .i64 0, .int .i64 0, .int .i64 0, .int .i64 0, .int .i64 0, .slice none 0 0, .slice none 0 0, .slice none 0 0, .slice none 0 0, .slice none 0 0, .slice none 0 0, .int .i64 0] 35) = w3 at *
    generalize w2.heap.size = bc at *
    have HCS := Lib.hid hcs
    have hone : cs.toArray.all (·.oneCell') = true := by
      rw [Array.all_eq_true]
      intro i hi
      exact hcs.2 _ (by simp)
    have hlen : cs.toArray.size = 14 := by simpa using hcs.1
    clear hcs HA2 HR2
    refine wpList_store_row rfl _ _ _ rfl bc cs.toArray (by simp [Act.eval, Act.put]) (by simp [Act.eval, Act.put]) _ _ HX3.out (by rw [hlen]; kernel_rfl) (by rw [hlen]; rfl) hone ?_
    have HX4 := Lib.hid (setRow_heap _ _ _ cs.toArray _ _ HX3.out)
    have HA4 := Lib.hid (below_setRowC HA3.out (b := bc) (cs := cs.toArray) (by omega))
    have HR4 := Lib.hid ((setRow_other w3 bc w.heap.size cs.toArray (by omega)).trans HR3.out)
    generalize w3.setRow bc cs.toArray = w4 at *
    clear HX3 HA3 HR3
    go_upto_region 14 with (fail)
    refine wp_region_lit ?_
    refine wpList_load_row rfl _ _ rfl bc (by simp [Act.eval]) _ _ _ _ HX4.out Tryz.underlying35 rfl (by rw [hlen]; kernel_rfl) ?_
    refine wpList_store_row rfl _ _ _ rfl w.heap.size cs.toArray (by simp [Act.eval, Act.put]) (by simp [Act.eval, Act.put]) _ _ HR4.out (by rw [hlen]; kernel_rfl) (by rw [hlen]; rfl) hone ?_
    have HX5 := Lib.hid (setRow_heap _ _ _ cs.toArray _ _ HR4.out)
    have HA5 := Lib.hid (below_setRowC HA4.out (b := w.heap.size) (cs := cs.toArray) (Nat.le_refl _))
    generalize w4.setRow w.heap.size cs.toArray = w5 at *
    clear HX4 HA4 HR4
    go_wp2_with fail
    refine bodyPost_ret (v := .agg cs.toArray) (results_cell_row Tryz.results34 _ _ w.heap.size _ _ _ _ (by simp [Act.put]) HX5.out Tryz.underlying35 rfl (by rw [hlen]; kernel_rfl)) rfl ?_
    exact ⟨cs, HCS.out, rfl, HA5.out⟩
  · have h8 : n.tmod 6 = 3 := by rw [Int.tmod_eq_emod_of_nonneg h0]; exact hr
    have hq : IntKind.i64.wrap (3 : Int) = 3 := IntWalk.i64_in _ (by omega)
    clear hr h0
    go_enter Tryz.func34, Tryz.ntmps34
    go_upto_region 1 with (fail)
    have HA : Hid (Below w.heap.size w (w.alloc (.cells #[.int .i64 0, .int .i64 0, .int .i64 0, .int .i64 0, .int .i64 0, .int .i64 0, .int .i64 0, .slice none 0 0, .slice none 0 0, .slice none 0 0, .slice none 0 0, .slice none 0 0, .slice none 0 0, .int .i64 0] 35))) := (Below.refl _ _).alloc (Nat.le_refl _) _
    have HR : Hid ((w.alloc (.cells #[.int .i64 0, .int .i64 0, .int .i64 0, .int .i64 0, .int .i64 0, .int .i64 0, .int .i64 0, .slice none 0 0, .slice none 0 0, .slice none 0 0, .slice none 0 0, .slice none 0 0, .slice none 0 0, .int .i64 0] 35)).heap[w.heap.size]? = some (.cells #[.int .i64 0, .int .i64 0, .int .i64 0, .int .i64 0, .int .i64 0, .int .i64 0, .int .i64 0, .slice none 0 0, .slice none 0 0, .slice none 0 0, .slice none 0 0, .slice none 0 0, .slice none 0 0, .int .i64 0] 35 (0, 0))) := heap_alloc_new _ _
    generalize w.alloc (.cells #[.int .i64 0, .int .i64 0, .int .i64 0, .int .i64 0, .int .i64 0, .int .i64 0, .int .i64 0, .slice none 0 0, .slice none 0 0, .slice none 0 0, .slice none 0 0, .slice none 0 0, .slice none 0 0, .int .i64 0] 35) = W at *
    go_cut [3] (fun s wx => s = .string conS0 ∧ wx = W)
    case first =>
      go_wp2_with fail
      go_meet
      exact ⟨congrArg Value.string (by kernel_rfl), rfl⟩
    case rest =>
    obtain ⟨rfl, rfl⟩ := hcut
    have hsz : conS0.size = 186 := by kernel_rfl
    go_upto_block 0 with (fail)
    go_cut [3] (fun s wx => s = .string conS3 ∧ wx = wc)
    case first =>
      go_wp2_with fail
      go_meet
      exact ⟨congrArg Value.string (by kernel_rfl), rfl⟩
    case rest =>
    obtain ⟨rfl, rfl⟩ := hcut
    go_upto_region 13 with (fail)
    refine wp_region_lit ?_
    refine wpList_plain rfl fun K9 hK9 => ?_
    go_simp
    refine hK9 _ _ ?_
    clear hK9
    refine wpList_plain rfl fun K9 hK9 => ?_
    go_simp
    go_at_call 66
    refine (con_read3 _).mono ?_
    rintro e w2 ⟨cs, hcs, rfl, hb2⟩
    refine hK9 _ _ ?_
    clear hK9
    have HA2 : Hid (Below w.heap.size w w2) := HA.out.trans (hb2.mono HA.out.size)
    have hwl := (Array.getElem?_eq_some_iff.1 HR.out).1
    have HR2 : Hid (w2.heap[w.heap.size]? = _) := (hb2.block _ hwl).trans HR.out
    have hwl2 : w.heap.size < w2.heap.size := by have := hb2.size; omega
    clear hb2 HA HR hwl
    refine wpList_plain rfl fun K9 hK9 => ?_
    go_simp
    refine hK9 _ _ ?_
    clear hK9
    refine wpList_plain rfl fun K9 hK9 => ?_
    go_simp
    refine hK9 _ _ ?_
    clear hK9
    refine wpList_plain rfl fun K9 hK9 => ?_
    go_simp
    refine hK9 _ _ ?_
    clear hK9
    refine wpList_plain rfl fun K9 hK9 => ?_
    go_simp
    refine hK9 _ _ ?_
    clear hK9
    refine wpList_plain rfl fun K9 hK9 => ?_
    go_simp
    refine hK9 _ _ ?_
    clear hK9
    have HX3 := Lib.hid (heap_alloc_new w2 (.cells #[.int .i64 0, .int .i64 0, .int .i64 0, .int .i64 0, .int .i64 0, .int .i64 0, .int .i64 0, .slice none 0 0, .slice none 0 0, .slice none 0 0, .slice none 0 0, .slice none 0 0, .slice none 0 0, .int .i64 0] 35))
    have HA3 : Hid (Below w.heap.size w (w2.alloc (.cells #[.int .i64 0, .int .i64 0, .int .i64 0, .int .i64 0, .int .i64 0, .int .i64 0, .int .i64 0, .slice none 0 0, .slice none 0 0, .slice none 0 0, .slice none 0 0, .slice none 0 0, .slice none 0 0, .int .i64 0] 35))) := HA2.out.alloc HA2.out.size _
    have HR3 : Hid ((w2.alloc (.cells #[.int .i64 0, .int .i64 0, .int .i64 0, .int .i64 0, .int .i64 0, .int .i64 0, .int .i64 0, .slice none 0 0, .slice none 0 0, .slice none 0 0, .slice none 0 0, .slice none 0 0, .slice none 0 0, .int .i64 0] 35)).heap[w.heap.size]? = _) := (Below.heap_alloc _ _ _ hwl2).trans HR2.out
    generalize w2.alloc (.cells #[.int .i64 0, .int .i64 0, .int .i64 0, .int .i64 0, .int .i64 0, .int .i64 0, .int .i64 0, .slice none 0 0, .slice none 0 0, .slice none 0 0, .slice none 0 0, .slice none 0 0, .slice none 0 0, .int .i64 0] 35) = w3 at *
    generalize w2.heap.size = bc at *
    have HCS := Lib.hid hcs
    have hone : cs.toArray.all (·.oneCell') = true := by
      rw [Array.all_eq_true]
      intro i hi
      exact hcs.2 _ (by simp)
    have hlen : cs.toArray.size = 14 := by simpa using hcs.1
    clear hcs HA2 HR2
    refine wpList_store_row rfl _ _ _ rfl bc cs.toArray (by simp [Act.eval, Act.put]) (by simp [Act.eval, Act.put]) _ _ HX3.out (by rw [hlen]; kernel_rfl) (by rw [hlen]; rfl) hone ?_
    have HX4 := Lib.hid (setRow_heap _ _ _ cs.toArray _ _ HX3.out)
    have HA4 := Lib.hid (below_setRowC HA3.out (b := bc) (cs := cs.toArray) (by omega))
    have HR4 := Lib.hid ((setRow_other w3 bc w.heap.size cs.toArray (by omega)).trans HR3.out)
    generalize w3.setRow bc cs.toArray = w4 at *
    clear HX3 HA3 HR3
    go_upto_region 14 with (fail)
    refine wp_region_lit ?_
    refine wpList_load_row rfl _ _ rfl bc (by simp [Act.eval]) _ _ _ _ HX4.out Tryz.underlying35 rfl (by rw [hlen]; kernel_rfl) ?_
    refine wpList_store_row rfl _ _ _ rfl w.heap.size cs.toArray (by simp [Act.eval, Act.put]) (by simp [Act.eval, Act.put]) _ _ HR4.out (by rw [hlen]; kernel_rfl) (by rw [hlen]; rfl) hone ?_
    have HX5 := Lib.hid (setRow_heap _ _ _ cs.toArray _ _ HR4.out)
    have HA5 := Lib.hid (below_setRowC HA4.out (b := w.heap.size) (cs := cs.toArray) (Nat.le_refl _))
    generalize w4.setRow w.heap.size cs.toArray = w5 at *
    clear HX4 HA4 HR4
    go_wp2_with fail
    refine bodyPost_ret (v := .agg cs.toArray) (results_cell_row Tryz.results34 _ _ w.heap.size _ _ _ _ (by simp [Act.put]) HX5.out Tryz.underlying35 rfl (by rw [hlen]; kernel_rfl)) rfl ?_
    exact ⟨cs, HCS.out, rfl, HA5.out⟩
  · have h8 : n.tmod 6 = 4 := by rw [Int.tmod_eq_emod_of_nonneg h0]; exact hr
    have hq : IntKind.i64.wrap (4 : Int) = 4 := IntWalk.i64_in _ (by omega)
    clear hr h0
    go_enter Tryz.func34, Tryz.ntmps34
    go_upto_region 1 with (fail)
    have HA : Hid (Below w.heap.size w (w.alloc (.cells #[.int .i64 0, .int .i64 0, .int .i64 0, .int .i64 0, .int .i64 0, .int .i64 0, .int .i64 0, .slice none 0 0, .slice none 0 0, .slice none 0 0, .slice none 0 0, .slice none 0 0, .slice none 0 0, .int .i64 0] 35))) := (Below.refl _ _).alloc (Nat.le_refl _) _
    have HR : Hid ((w.alloc (.cells #[.int .i64 0, .int .i64 0, .int .i64 0, .int .i64 0, .int .i64 0, .int .i64 0, .int .i64 0, .slice none 0 0, .slice none 0 0, .slice none 0 0, .slice none 0 0, .slice none 0 0, .slice none 0 0, .int .i64 0] 35)).heap[w.heap.size]? = some (.cells #[.int .i64 0, .int .i64 0, .int .i64 0, .int .i64 0, .int .i64 0, .int .i64 0, .int .i64 0, .slice none 0 0, .slice none 0 0, .slice none 0 0, .slice none 0 0, .slice none 0 0, .slice none 0 0, .int .i64 0] 35 (0, 0))) := heap_alloc_new _ _
    generalize w.alloc (.cells #[.int .i64 0, .int .i64 0, .int .i64 0, .int .i64 0, .int .i64 0, .int .i64 0, .int .i64 0, .slice none 0 0, .slice none 0 0, .slice none 0 0, .slice none 0 0, .slice none 0 0, .slice none 0 0, .int .i64 0] 35) = W at *
    go_cut [3] (fun s wx => s = .string conS0 ∧ wx = W)
    case first =>
      go_wp2_with fail
      go_meet
      exact ⟨congrArg Value.string (by kernel_rfl), rfl⟩
    case rest =>
    obtain ⟨rfl, rfl⟩ := hcut
    go_upto_block 0 with (fail)
    go_cut [3] (fun s wx => s = .string conS4 ∧ wx = wc)
    case first =>
      go_wp2_with fail
      go_meet
      exact ⟨congrArg Value.string (by kernel_rfl), rfl⟩
    case rest =>
    obtain ⟨rfl, rfl⟩ := hcut
    go_upto_region 13 with (fail)
    refine wp_region_lit ?_
    refine wpList_plain rfl fun K9 hK9 => ?_
    go_simp
    refine hK9 _ _ ?_
    clear hK9
    refine wpList_plain rfl fun K9 hK9 => ?_
    go_simp
    go_at_call 66
    refine (con_read4 _).mono ?_
    rintro e w2 ⟨cs, hcs, rfl, hb2⟩
    refine hK9 _ _ ?_
    clear hK9
    have HA2 : Hid (Below w.heap.size w w2) := HA.out.trans (hb2.mono HA.out.size)
    have hwl := (Array.getElem?_eq_some_iff.1 HR.out).1
    have HR2 : Hid (w2.heap[w.heap.size]? = _) := (hb2.block _ hwl).trans HR.out
    have hwl2 : w.heap.size < w2.heap.size := by have := hb2.size; omega
    clear hb2 HA HR hwl
    refine wpList_plain rfl fun K9 hK9 => ?_
    go_simp
    refine hK9 _ _ ?_
    clear hK9
    refine wpList_plain rfl fun K9 hK9 => ?_
    go_simp
    refine hK9 _ _ ?_
    clear hK9
    refine wpList_plain rfl fun K9 hK9 => ?_
    go_simp
    refine hK9 _ _ ?_
    clear hK9
    refine wpList_plain rfl fun K9 hK9 => ?_
    go_simp
    refine hK9 _ _ ?_
    clear hK9
    refine wpList_plain rfl fun K9 hK9 => ?_
    go_simp
    refine hK9 _ _ ?_
    clear hK9
    have HX3 := Lib.hid (heap_alloc_new w2 (.cells #[.int .i64 0, .int .i64 0, .int .i64 0, .int .i64 0, .int .i64 0, .int .i64 0, .int .i64 0, .slice none 0 0, .slice none 0 0, .slice none 0 0, .slice none 0 0, .slice none 0 0, .slice none 0 0, .int .i64 0] 35))
    have HA3 : Hid (Below w.heap.size w (w2.alloc (.cells #[.int .i64 0, .int .i64 0, .int .i64 0, .int .i64 0, .int .i64 0, .int .i64 0, .int .i64 0, .slice none 0 0, .slice none 0 0, .slice none 0 0, .slice none 0 0, .slice none 0 0, .slice none 0 0, .int .i64 0] 35))) := HA2.out.alloc HA2.out.size _
    have HR3 : Hid ((w2.alloc (.cells #[.int .i64 0, .int .i64 0, .int .i64 0, .int .i64 0, .int .i64 0, .int .i64 0, .int .i64 0, .slice none 0 0, .slice none 0 0, .slice none 0 0, .slice none 0 0, .slice none 0 0, .slice none 0 0, .int .i64 0] 35)).heap[w.heap.size]? = _) := (Below.heap_alloc _ _ _ hwl2).trans HR2.out
    generalize w2.alloc (.cells #[.int .i64 0, .int .i64 0, .int .i64 0, .int .i64 0, .int .i64 0, .int .i64 0, .int .i64 0, .slice none 0 0, .slice none 0 0, .slice none 0 0, .slice none 0 0, .slice none 0 0, .slice none 0 0, .int .i64 0] 35) = w3 at *
    generalize w2.heap.size = bc at *
    have HCS := Lib.hid hcs
    have hone : cs.toArray.all (·.oneCell') = true := by
      rw [Array.all_eq_true]
      intro i hi
      exact hcs.2 _ (by simp)
    have hlen : cs.toArray.size = 14 := by simpa using hcs.1
    clear hcs HA2 HR2
    refine wpList_store_row rfl _ _ _ rfl bc cs.toArray (by simp [Act.eval, Act.put]) (by simp [Act.eval, Act.put]) _ _ HX3.out (by rw [hlen]; kernel_rfl) (by rw [hlen]; rfl) hone ?_
    have HX4 := Lib.hid (setRow_heap _ _ _ cs.toArray _ _ HX3.out)
    have HA4 := Lib.hid (below_setRowC HA3.out (b := bc) (cs := cs.toArray) (by omega))
    have HR4 := Lib.hid ((setRow_other w3 bc w.heap.size cs.toArray (by omega)).trans HR3.out)
    generalize w3.setRow bc cs.toArray = w4 at *
    clear HX3 HA3 HR3
    go_upto_region 14 with (fail)
    refine wp_region_lit ?_
    refine wpList_load_row rfl _ _ rfl bc (by simp [Act.eval]) _ _ _ _ HX4.out Tryz.underlying35 rfl (by rw [hlen]; kernel_rfl) ?_
    refine wpList_store_row rfl _ _ _ rfl w.heap.size cs.toArray (by simp [Act.eval, Act.put]) (by simp [Act.eval, Act.put]) _ _ HR4.out (by rw [hlen]; kernel_rfl) (by rw [hlen]; rfl) hone ?_
    have HX5 := Lib.hid (setRow_heap _ _ _ cs.toArray _ _ HR4.out)
    have HA5 := Lib.hid (below_setRowC HA4.out (b := w.heap.size) (cs := cs.toArray) (Nat.le_refl _))
    generalize w4.setRow w.heap.size cs.toArray = w5 at *
    clear HX4 HA4 HR4
    go_wp2_with fail
    refine bodyPost_ret (v := .agg cs.toArray) (results_cell_row Tryz.results34 _ _ w.heap.size _ _ _ _ (by simp [Act.put]) HX5.out Tryz.underlying35 rfl (by rw [hlen]; kernel_rfl)) rfl ?_
    exact ⟨cs, HCS.out, rfl, HA5.out⟩
  · have h8 : n.tmod 6 = 5 := by rw [Int.tmod_eq_emod_of_nonneg h0]; exact hr
    have hq : IntKind.i64.wrap (5 : Int) = 5 := IntWalk.i64_in _ (by omega)
    clear hr h0
    go_enter Tryz.func34, Tryz.ntmps34
    go_upto_region 1 with (fail)
    have HA : Hid (Below w.heap.size w (w.alloc (.cells #[.int .i64 0, .int .i64 0, .int .i64 0, .int .i64 0, .int .i64 0, .int .i64 0, .int .i64 0, .slice none 0 0, .slice none 0 0, .slice none 0 0, .slice none 0 0, .slice none 0 0, .slice none 0 0, .int .i64 0] 35))) := (Below.refl _ _).alloc (Nat.le_refl _) _
    have HR : Hid ((w.alloc (.cells #[.int .i64 0, .int .i64 0, .int .i64 0, .int .i64 0, .int .i64 0, .int .i64 0, .int .i64 0, .slice none 0 0, .slice none 0 0, .slice none 0 0, .slice none 0 0, .slice none 0 0, .slice none 0 0, .int .i64 0] 35)).heap[w.heap.size]? = some (.cells #[.int .i64 0, .int .i64 0, .int .i64 0, .int .i64 0, .int .i64 0, .int .i64 0, .int .i64 0, .slice none 0 0, .slice none 0 0, .slice none 0 0, .slice none 0 0, .slice none 0 0, .slice none 0 0, .int .i64 0] 35 (0, 0))) := heap_alloc_new _ _
    generalize w.alloc (.cells #[.int .i64 0, .int .i64 0, .int .i64 0, .int .i64 0, .int .i64 0, .int .i64 0, .int .i64 0, .slice none 0 0, .slice none 0 0, .slice none 0 0, .slice none 0 0, .slice none 0 0, .slice none 0 0, .int .i64 0] 35) = W at *
    go_cut [3] (fun s wx => s = .string conS0 ∧ wx = W)
    case first =>
      go_wp2_with fail
      go_meet
      exact ⟨congrArg Value.string (by kernel_rfl), rfl⟩
    case rest =>
    obtain ⟨rfl, rfl⟩ := hcut
    go_upto_block 0 with (fail)
    go_cut [3] (fun s wx => s = .string conS5 ∧ wx = wc)
    case first =>
      go_wp2_with fail
      go_meet
      exact ⟨congrArg Value.string (by kernel_rfl), rfl⟩
    case rest =>
    obtain ⟨rfl, rfl⟩ := hcut
    go_upto_region 13 with (fail)
    refine wp_region_lit ?_
    refine wpList_plain rfl fun K9 hK9 => ?_
    go_simp
    refine hK9 _ _ ?_
    clear hK9
    refine wpList_plain rfl fun K9 hK9 => ?_
    go_simp
    go_at_call 66
    refine (con_read5 _).mono ?_
    rintro e w2 ⟨cs, hcs, rfl, hb2⟩
    refine hK9 _ _ ?_
    clear hK9
    have HA2 : Hid (Below w.heap.size w w2) := HA.out.trans (hb2.mono HA.out.size)
    have hwl := (Array.getElem?_eq_some_iff.1 HR.out).1
    have HR2 : Hid (w2.heap[w.heap.size]? = _) := (hb2.block _ hwl).trans HR.out
    have hwl2 : w.heap.size < w2.heap.size := by have := hb2.size; omega
    clear hb2 HA HR hwl
    refine wpList_plain rfl fun K9 hK9 => ?_
    go_simp
    refine hK9 _ _ ?_
    clear hK9
    refine wpList_plain rfl fun K9 hK9 => ?_
    go_simp
    refine hK9 _ _ ?_
    clear hK9
    refine wpList_plain rfl fun K9 hK9 => ?_
    go_simp
    refine hK9 _ _ ?_
    clear hK9
    refine wpList_plain rfl fun K9 hK9 => ?_
    go_simp
    refine hK9 _ _ ?_
    clear hK9
    refine wpList_plain rfl fun K9 hK9 => ?_
    go_simp
    refine hK9 _ _ ?_
    clear hK9
    have HX3 := Lib.hid (heap_alloc_new w2 (.cells #[.int .i64 0, .int .i64 0, .int .i64 0, .int .i64 0, .int .i64 0, .int .i64 0, .int .i64 0, .slice none 0 0, .slice none 0 0, .slice none 0 0, .slice none 0 0, .slice none 0 0, .slice none 0 0, .int .i64 0] 35))
    have HA3 : Hid (Below w.heap.size w (w2.alloc (.cells #[.int .i64 0, .int .i64 0, .int .i64 0, .int .i64 0, .int .i64 0, .int .i64 0, .int .i64 0, .slice none 0 0, .slice none 0 0, .slice none 0 0, .slice none 0 0, .slice none 0 0, .slice none 0 0, .int .i64 0] 35))) := HA2.out.alloc HA2.out.size _
    have HR3 : Hid ((w2.alloc (.cells #[.int .i64 0, .int .i64 0, .int .i64 0, .int .i64 0, .int .i64 0, .int .i64 0, .int .i64 0, .slice none 0 0, .slice none 0 0, .slice none 0 0, .slice none 0 0, .slice none 0 0, .slice none 0 0, .int .i64 0] 35)).heap[w.heap.size]? = _) := (Below.heap_alloc _ _ _ hwl2).trans HR2.out
    generalize w2.alloc (.cells #[.int .i64 0, .int .i64 0, .int .i64 0, .int .i64 0, .int .i64 0, .int .i64 0, .int .i64 0, .slice none 0 0, .slice none 0 0, .slice none 0 0, .slice none 0 0, .slice none 0 0, .slice none 0 0, .int .i64 0] 35) = w3 at *
    generalize w2.heap.size = bc at *
    have HCS := Lib.hid hcs
    have hone : cs.toArray.all (·.oneCell') = true := by
      rw [Array.all_eq_true]
      intro i hi
      exact hcs.2 _ (by simp)
    have hlen : cs.toArray.size = 14 := by simpa using hcs.1
    clear hcs HA2 HR2
    refine wpList_store_row rfl _ _ _ rfl bc cs.toArray (by simp [Act.eval, Act.put]) (by simp [Act.eval, Act.put]) _ _ HX3.out (by rw [hlen]; kernel_rfl) (by rw [hlen]; rfl) hone ?_
    have HX4 := Lib.hid (setRow_heap _ _ _ cs.toArray _ _ HX3.out)
    have HA4 := Lib.hid (below_setRowC HA3.out (b := bc) (cs := cs.toArray) (by omega))
    have HR4 := Lib.hid ((setRow_other w3 bc w.heap.size cs.toArray (by omega)).trans HR3.out)
    generalize w3.setRow bc cs.toArray = w4 at *
    clear HX3 HA3 HR3
    go_upto_region 14 with (fail)
    refine wp_region_lit ?_
    refine wpList_load_row rfl _ _ rfl bc (by simp [Act.eval]) _ _ _ _ HX4.out Tryz.underlying35 rfl (by rw [hlen]; kernel_rfl) ?_
    refine wpList_store_row rfl _ _ _ rfl w.heap.size cs.toArray (by simp [Act.eval, Act.put]) (by simp [Act.eval, Act.put]) _ _ HR4.out (by rw [hlen]; kernel_rfl) (by rw [hlen]; rfl) hone ?_
    have HX5 := Lib.hid (setRow_heap _ _ _ cs.toArray _ _ HR4.out)
    have HA5 := Lib.hid (below_setRowC HA4.out (b := w.heap.size) (cs := cs.toArray) (Nat.le_refl _))
    generalize w4.setRow w.heap.size cs.toArray = w5 at *
    clear HX4 HA4 HR4
    go_wp2_with fail
    refine bodyPost_ret (v := .agg cs.toArray) (results_cell_row Tryz.results34 _ _ w.heap.size _ _ _ _ (by simp [Act.put]) HX5.out Tryz.underlying35 rfl (by rw [hlen]; kernel_rfl)) rfl ?_
    exact ⟨cs, HCS.out, rfl, HA5.out⟩
end Go.Proofs.YtifconapjfdkcaaGreatDoor
/-
  Contract of pairingdata.Problem: its timetable is that of the plain function; its contract is some contract, its bases and operated flights some lists.
  Condition: the numbers read as a list.
-/
namespace Go.Proofs.YtifconapjfdkcaaGreatDoor
set_option linter.unusedSimpArgs false
set_option linter.unusedVariables false
open Go.RowKit

theorem wpList_builtP {P : Program} {ops : Array Oper} {rest : List Oper} {o : Oper} {a : Act} {Q : Exit → Act → World → Prop} {w : World} (hgd : o.guard = none) (T : TypeId) (parts : Array (Nat × Operand)) (vals : List (Nat × Value)) (ho : o.op = .build T parts) (he : (parts.map fun (i, x) => (i, a.eval x)).toList = vals) (cells : Array Value)
    (hb : P.built T vals = some cells) (h : wpList P ops Q rest (a.put o.dst (.agg cells)) w) : wpList P ops Q (o :: rest) a w :=
  wpList_plain hgd fun _ hK => wp_build T parts ho (by rw [he, hb]; rfl) (by rw [he, hb]; exact hK _ _ h)
set_option maxRecDepth 100000 in
set_option maxHeartbeats 800000 in
theorem problem_any (l : List Int) (A : Option Addr) (n c : Nat) (w : World) (h : Sl (Ty.int .i64) w (all_ w) A n c l) :
    Calls Tryz.prog 11 #[.slice A n c] w (ProbPost (probTT l) w) := by
  have HNL : Hid (n = l.length ∧ n ≤ maxLen ∧ n ≤ c) := ⟨h.len, h.le, h.2.1⟩
  have HS : Hid (∀ V, Below w.heap.size w V → Sl (Ty.int .i64) V (all_ V) A n c l) := fun V hV => h.next hV
  have HRG : Hid (∀ i, 0 ≤ atL l i ∧ atL l i ≤ 65535 + i) := fun i => atL_range l i
  have HCN : Hid (((dCount l : Nat) : Int) = 2 + atL l 0 % 4) := by show _ = _; unfold dCount; omega
  have HDC := Lib.hid (dCount_range l)
  have HX0 : Hid (_ = some (Obj.cells #[.slice none 0 0, .slice none 0 0, .slice none 0 0, .int .i64 0, .int .i64 0, .int .i64 0, .int .i64 0, .int .i64 0, .int .i64 0, .int .i64 0, .slice none 0 0, .slice none 0 0, .slice none 0 0, .slice none 0 0, .slice none 0 0, .slice none 0 0, .int .i64 0, .slice none 0 0, .slice none 0 0, .int .i64 0, .int .i64 0] 38 (0, 0))) := heap_alloc_new w (.cells #[.slice none 0 0, .slice none 0 0, .slice none 0 0, .int .i64 0, .int .i64 0, .int .i64 0, .int .i64 0, .int .i64 0, .int .i64 0, .int .i64 0, .slice none 0 0, .slice none 0 0, .slice none 0 0, .slice none 0 0, .slice none 0 0, .slice none 0 0, .int .i64 0, .slice none 0 0, .slice none 0 0, .int .i64 0, .int .i64 0] 38)
  have HA0 : Hid (Below w.heap.size w _) := (Below.refl _ _).alloc (Nat.le_refl _) (.cells #[.slice none 0 0, .slice none 0 0, .slice none 0 0, .int .i64 0, .int .i64 0, .int .i64 0, .int .i64 0, .int .i64 0, .int .i64 0, .int .i64 0, .slice none 0 0, .slice none 0 0, .slice none 0 0, .slice none 0 0, .slice none 0 0, .slice none 0 0, .int .i64 0, .slice none 0 0, .slice none 0 0, .int .i64 0, .int .i64 0] 38)
  clear h
  go_enter Tryz.func11, Tryz.ntmps11
  go_upto_region 1 with (fail)
  generalize w.alloc (.cells #[.slice none 0 0, .slice none 0 0, .slice none 0 0, .int .i64 0, .int .i64 0, .int .i64 0, .int .i64 0, .int .i64 0, .int .i64 0, .int .i64 0, .slice none 0 0, .slice none 0 0, .slice none 0 0, .slice none 0 0, .slice none 0 0, .slice none 0 0, .int .i64 0, .slice none 0 0, .slice none 0 0, .int .i64 0, .int .i64 0] 38) = W0 at *
  have HC0 := Lib.hid (dataAt_any l A n c 0 W0 (HS.out W0 HA0.out) (by decide))
  have hz0 := (HRG.out 0).1
  have q1 : (atL l 0).tmod 4 = atL l 0 % 4 := Int.tmod_eq_emod_of_nonneg hz0
  have q2 : IntKind.i64.wrap (atL l 0 % 4) = atL l 0 % 4 := IntWalk.i64_in _ (by omega)
  have q3 : IntKind.i64.wrap (2 + atL l 0 % 4) = 2 + atL l 0 % 4 := IntWalk.i64_in _ (by omega)
  clear hz0
  generalize atL l 0 = a0 at *
  go_upto_region 2 with (go_at_call 32; refine HC0.out.mono ?_; rintro e w1 ⟨rfl, hb1⟩)
  rw [← HCN.out]
  clear q1 q2 q3
  have HB1 : Hid (Below w.heap.size w w1) := HA0.out.trans (hb1.mono HA0.out.size)
  have HR1 : Hid (w1.heap[w.heap.size]? = some (.cells zProb 38 (0, 0))) := (hb1.block _ (Array.getElem?_eq_some_iff.1 HX0.out).1).trans HX0.out
  clear hb1 HC0 HA0 HX0
  go_cut [4] (fun s wx => ∃ P v cs bv pen, s = .pointer (some ⟨P, 0, none⟩) ∧ PL (probTT l) w wx P (P + 1) v cs bv (.slice none 0 0) 0 pen [])
  case first =>
    rcases Nat.eq_zero_or_pos n with rfl | hp
    · have hmin : min ((0 : Nat) : Int) 1 = 0 := rfl
      have hmin2 : min (0 : Int) 1 = 0 := rfl
      have HSD : Hid (∀ V, Below w.heap.size w V → Sl (Ty.int .i64) V (all_ V) A 0 c (l.drop 1)) := fun V hV => by
        have e : l = [] := List.eq_nil_of_length_eq_zero HNL.out.1.symm
        have := HS.out V hV
        rw [e] at this ⊢
        exact this
      refine wp_region_lit ?_
      refine wpList_plain rfl fun K9 hK9 => ?_

      go_simp
      refine hK9 _ _ ?_
      clear hK9
      refine wpList_plain rfl fun K9 hK9 => ?_

      go_simp
      refine hK9 _ _ ?_
      clear hK9
      refine wpList_plain rfl fun K9 hK9 => ?_

      go_simp
      refine hK9 _ _ ?_
      clear hK9
      refine wpList_plain rfl fun K9 hK9 => ?_

      go_simp
      refine hK9 _ _ ?_
      clear hK9
      refine wpList_plain rfl fun K9 hK9 => ?_

      go_simp
      refine hK9 _ _ ?_
      clear hK9
      refine wpList_plain rfl fun K9 hK9 => ?_

      go_simp
      refine hK9 _ _ ?_
      clear hK9
      refine wpList_plain rfl fun K9 hK9 => ?_
      go_simp
      go_at_call 33
      refine (dataTT_any (l.drop 1) A 0 c (dCount l) w1 (HSD.out w1 HB1.out) (by have := HDC.out; omega)).mono ?_
      rintro e w2 ⟨v, rfl, htt, hb2⟩
      obtain ⟨A1, n1, d1, A2, n2, d2, A3, n3, d3, rfl, ht1, ht2, ht3⟩ := htt
      have HT2 : Hid (TTIs w2 (fun b => w1.heap.size < b ∧ b < w2.heap.size) [.slice A1 n1 d1, .slice A2 n2 d2, .slice A3 n3 d3] (probTT l)) := ⟨_, _, _, _, _, _, _, _, _, rfl, ht1, ht2, ht3⟩
      have HB2 : Hid (Below w.heap.size w w2) := HB1.out.trans (hb2.mono HB1.out.size)
      have HR2 : Hid (w2.heap[w.heap.size]? = some (.cells zProb 38 (0, 0))) := (hb2.block _ (Array.getElem?_eq_some_iff.1 HR1.out).1).trans HR1.out
      have hl12 := hb2.size
      clear ht1 ht2 ht3 hb2
      refine hK9 _ _ ?_
      clear hK9
      refine wpList_plain rfl fun K9 hK9 => ?_

      go_simp
      refine hK9 _ _ ?_
      clear hK9
      refine wpList_plain rfl fun K9 hK9 => ?_
      go_simp
      go_at_call 32
      refine (dataAt_any l A 0 c 9 w2 (HS.out w2 HB2.out) (by decide)).mono ?_
      rintro e w3 ⟨rfl, hb3⟩
      have hz9 := (HRG.out 9).1
      have hz9' := (HRG.out 9).2
      refine hK9 _ _ ?_
      clear hK9
      refine wpList_plain rfl fun K9 hK9 => ?_
      go_simp
      go_at_call 34
      refine (dataContract_any (atL l 9) w3 hz9 (by omega)).mono ?_
      rintro e w4 ⟨cs, hcs, rfl, hb4⟩
      obtain ⟨k0, k1, k2, k3, k4, k5, k6, k7, k8, k9, k10, k11, k12, k13, rfl⟩ := list14 hcs.1
      have HCS := Lib.hid hcs
      have hb24 : Below w2.heap.size w2 w4 := hb3.trans (hb4.mono hb3.size)
      have HB4 : Hid (Below w.heap.size w w4) := HB2.out.trans (hb24.mono HB2.out.size)
      have HB24 := Lib.hid hb24
      have hl24 := hb24.size
      clear hcs hb3 hb4 hz9 hz9' hb24
      refine hK9 _ _ ?_
      clear hK9
      refine wpList_plain rfl fun K9 hK9 => ?_

      go_simp
      refine hK9 _ _ ?_
      clear hK9
      refine wpList_plain rfl fun K9 hK9 => ?_

      go_simp
      refine hK9 _ _ ?_
      clear hK9
      refine wpList_plain rfl fun K9 hK9 => ?_
      go_simp
      go_at_call 32
      refine (dataAt_any l A 0 c 10 _ (HS.out _ (HB4.out.alloc HB4.out.size _)) (by decide)).mono ?_
      rintro e w6 ⟨rfl, hb6⟩
      have HX4 : Hid (w6.heap[w4.heap.size]? = some (.cells #[.string ⟨#[65, 65, 65]⟩] 9 (0, 0))) := (hb6.block _ (by simp)).trans (heap_alloc_new _ _)
      have hl46 : w4.heap.size < w6.heap.size := by have := hb6.size; simp at this; omega
      have HB26 : Hid (Below w2.heap.size w2 w6) := HB24.out.trans (((Below.refl _ _).alloc (Nat.le_refl _) _).trans (hb6.mono (by simp)) |>.mono hl24)
      have hz10 := (HRG.out 10).1
      have hz10' := (HRG.out 10).2
      have g1 : (atL l 10).tmod 60 = atL l 10 % 60 := Int.tmod_eq_emod_of_nonneg hz10
      have g2 : IntKind.i64.wrap (atL l 10 % 60) = atL l 10 % 60 := IntWalk.i64_in _ (by omega)
      have g3 : IntKind.i64.wrap (20 + atL l 10 % 60) = 20 + atL l 10 % 60 := IntWalk.i64_in _ (by omega)
      clear hb6 hz10 hz10'
      refine hK9 _ _ ?_
      clear hK9
      refine wpList_plain rfl fun K9 hK9 => ?_

      go_simp
      refine hK9 _ _ ?_
      clear hK9
      refine wpList_plain rfl fun K9 hK9 => ?_

      go_simp
      refine hK9 _ _ ?_
      clear hK9

      generalize 20 + atL l 10 % 60 = pen at *
      clear g1 g2 g3
      refine wpList_builtP rfl _ _ [(0, .agg #[.slice A1 n1 d1, .slice A2 n2 d2, .slice A3 n3 d3]), (1, .agg #[k0, k1, k2, k3, k4, k5, k6, k7, k8, k9, k10, k11, k12, k13]), (2, .slice (some ⟨w4.heap.size, 0, none⟩) 1 1), (5, .int .i64 pen)] rfl (by simp [Act.eval, Act.put]) #[.slice A1 n1 d1, .slice A2 n2 d2, .slice A3 n3 d3, k0, k1, k2, k3, k4, k5, k6, k7, k8, k9, k10, k11, k12, k13, .slice (some ⟨w4.heap.size, 0, none⟩) 1 1, .slice none 0 0, .int .i64 0, .int .i64 pen] (by kernel_rfl) ?_
      refine wpList_plain rfl fun K9 hK9 => ?_

      go_simp
      refine hK9 _ _ ?_
      clear hK9

      have HXP := Lib.hid (heap_alloc_new w6 (.cells zProb 38))
      have HK6 : Hid (∀ q, q < w6.heap.size → (w6.alloc (.cells zProb 38)).heap[q]? = w6.heap[q]?) := fun q hq => Below.heap_alloc _ _ _ hq
      have HB7 : Hid (Below w.heap.size w (w6.alloc (.cells zProb 38))) := (HB2.out.trans (HB26.out.mono HB2.out.size)).alloc (by have := HB2.out.size; have := HB26.out.size; omega) _
      have hz7 : (w6.alloc (.cells zProb 38)).heap.size = w6.heap.size + 1 := by simp
      have hone : ((#[.slice A1 n1 d1, .slice A2 n2 d2, .slice A3 n3 d3, k0, k1, k2, k3, k4, k5, k6, k7, k8, k9, k10, k11, k12, k13, .slice (some ⟨w4.heap.size, 0, none⟩) 1 1, .slice none 0 0, .int .i64 0, .int .i64 pen] : Array Value)).all (·.oneCell') = true := by
        have h14 := HCS.out.2
        rw [Array.all_eq_true]
        intro i hi
        have hmem : ((#[.slice A1 n1 d1, .slice A2 n2 d2, .slice A3 n3 d3, k0, k1, k2, k3, k4, k5, k6, k7, k8, k9, k10, k11, k12, k13, .slice (some ⟨w4.heap.size, 0, none⟩) 1 1, .slice none 0 0, .int .i64 0, .int .i64 pen] : Array Value))[i] ∈ (#[.slice A1 n1 d1, .slice A2 n2 d2, .slice A3 n3 d3, k0, k1, k2, k3, k4, k5, k6, k7, k8, k9, k10, k11, k12, k13, .slice (some ⟨w4.heap.size, 0, none⟩) 1 1, .slice none 0 0, .int .i64 0, .int .i64 pen] : Array Value).toList := by simp
        have hcs2 : ∀ u ∈ ([.slice A1 n1 d1, .slice A2 n2 d2, .slice A3 n3 d3] ++ ([k0, k1, k2, k3, k4, k5, k6, k7, k8, k9, k10, k11, k12, k13] ++ [.slice (some ⟨w4.heap.size, 0, none⟩) 1 1, .slice none 0 0, .int .i64 0, .int .i64 pen]) : List Value), u.oneCell' = true := fun u hu => by
          rcases List.mem_append.1 hu with h | h
          · simp at h; rcases h with rfl | rfl | rfl <;> rfl
          · rcases List.mem_append.1 h with h | h
            · exact h14 u h
            · simp at h; rcases h with rfl | rfl | rfl | rfl <;> rfl
        exact hcs2 _ hmem
      change wpList _ _ _ _ _ (w6.alloc (.cells zProb 38)) 
      generalize w6.alloc (.cells zProb 38) = w7 at *
      refine wpList_store_row rfl _ _ _ rfl w6.heap.size #[.slice A1 n1 d1, .slice A2 n2 d2, .slice A3 n3 d3, k0, k1, k2, k3, k4, k5, k6, k7, k8, k9, k10, k11, k12, k13, .slice (some ⟨w4.heap.size, 0, none⟩) 1 1, .slice none 0 0, .int .i64 0, .int .i64 pen] (by simp [Act.eval, Act.put]) (by simp [Act.eval, Act.put]) _ _ HXP.out (by kernel_rfl) rfl hone ?_
      clear hone
      go_wp2_with fail
      go_meet
      have hk : ∀ q, q < w6.heap.size → (w7.setRow w6.heap.size #[.slice A1 n1 d1, .slice A2 n2 d2, .slice A3 n3 d3, k0, k1, k2, k3, k4, k5, k6, k7, k8, k9, k10, k11, k12, k13, .slice (some ⟨w4.heap.size, 0, none⟩) 1 1, .slice none 0 0, .int .i64 0, .int .i64 pen]).heap[q]? = w6.heap[q]? := fun q hq => (setRow_other _ _ _ _ (by omega)).trans (HK6.out q hq)
      have hk2 : ∀ q, q < w2.heap.size → (w7.setRow w6.heap.size #[.slice A1 n1 d1, .slice A2 n2 d2, .slice A3 n3 d3, k0, k1, k2, k3, k4, k5, k6, k7, k8, k9, k10, k11, k12, k13, .slice (some ⟨w4.heap.size, 0, none⟩) 1 1, .slice none 0 0, .int .i64 0, .int .i64 pen]).heap[q]? = w2.heap[q]? := fun q hq => (hk q (by omega)).trans (HB26.out.block q hq)
      have hw1 := HB1.out.size
      have hww := (Array.getElem?_eq_some_iff.1 HR1.out).1
      refine ⟨w6.heap.size, [.slice A1 n1 d1, .slice A2 n2 d2, .slice A3 n3 d3], [k0, k1, k2, k3, k4, k5, k6, k7, k8, k9, k10, k11, k12, k13], .slice (some ⟨w4.heap.size, 0, none⟩) 1 1, pen, rfl, ⟨(hk2 _ (by omega)).trans HR2.out, setRow_heap _ _ _ _ _ _ HXP.out, ⟨by omega, by omega, by simp; omega⟩, (HT2.out.keep fun b hb => hk2 b hb.2).more fun b hb => by omega, HCS.out, ⟨_, _, _, [dCode 0], rfl, ?_, by decide⟩, Own.nil, below_setRowD HB7.out (by omega)⟩⟩
      refine Sl.block (xs := [dCode 0]) ((hk _ (by omega)).trans HX4.out) ⟨by omega, by omega, by omega⟩ (by decide) fun i x hi => ?_
      have : i = 0 := by
        have := (List.getElem?_eq_some_iff.1 hi).1
        have : i < 1 := this
        omega
      subst this
      injection hi with hi
      subst hi
      rfl
    · have hsn := HNL.out
      obtain ⟨hcn, hcc⟩ := hsn.2
      have hn0 : (0 : Int) < (n : Int) := by omega
      have hn1 : ¬ (n : Int) < 1 := by omega
      have hn2 : (1 : Int) ≤ (n : Int) := by omega
      have hn3 : 1 ≤ n := hp
      have hmin : min (n : Int) 1 = 1 := by omega
      obtain ⟨b, o, rfl, -, -⟩ := (HS.out w1 HB1.out).int_at (k := 0) (by omega)
      have HSD : Hid (∀ V, Below w.heap.size w V → Sl (Ty.int .i64) V (all_ V) (if c = 1 then some ⟨b, o, none⟩ else some ⟨b, o + 1, none⟩) (n - 1) (c - 1) (l.drop 1)) := fun V hV => by
        have h9 := HS.out V hV
        have e : (l.drop 1).take (n - 1) = l.drop 1 := List.take_of_length_le (by rw [List.length_drop]; omega)
        by_cases hc1 : c = 1
        · have hn9 : n = 1 := by omega
          subst hn9
          subst hc1
          have e0 : l.drop 1 = [] := List.drop_of_length_le (by omega)
          rw [e0]
          exact Sl.nil _ (by decide)
        · rw [if_neg hc1, ← e]
          exact h9.sub 1 (n - 1) (by omega) b (o + 1) fun _ => ⟨rfl, by show o + 1 = o + 1 * 1; omega⟩
      clear hsn hcn
      refine wp_region_lit ?_
      refine wpList_plain rfl fun K9 hK9 => ?_

      go_simp
      refine hK9 _ _ ?_
      clear hK9
      refine wpList_plain rfl fun K9 hK9 => ?_

      go_simp
      refine hK9 _ _ ?_
      clear hK9
      refine wpList_plain rfl fun K9 hK9 => ?_

      go_simp
      refine hK9 _ _ ?_
      clear hK9
      refine wpList_plain rfl fun K9 hK9 => ?_

      go_simp
      refine hK9 _ _ ?_
      clear hK9
      refine wpList_plain rfl fun K9 hK9 => ?_

      go_simp
      refine hK9 _ _ ?_
      clear hK9
      generalize (if c = 1 then some (⟨b, o, none⟩ : Addr) else some ⟨b, o + 1, none⟩) = AA at *
      refine wpList_plain rfl fun K9 hK9 => ?_

      go_simp
      refine hK9 _ _ ?_
      clear hK9
      refine wpList_plain rfl fun K9 hK9 => ?_
      go_simp
      go_at_call 33
      refine (dataTT_any (l.drop 1) AA (n - 1) (c - 1) (dCount l) w1 (HSD.out w1 HB1.out) (by have := HDC.out; omega)).mono ?_
      rintro e w2 ⟨v, rfl, htt, hb2⟩
      obtain ⟨A1, n1, d1, A2, n2, d2, A3, n3, d3, rfl, ht1, ht2, ht3⟩ := htt
      have HT2 : Hid (TTIs w2 (fun b => w1.heap.size < b ∧ b < w2.heap.size) [.slice A1 n1 d1, .slice A2 n2 d2, .slice A3 n3 d3] (probTT l)) := ⟨_, _, _, _, _, _, _, _, _, rfl, ht1, ht2, ht3⟩
      have HB2 : Hid (Below w.heap.size w w2) := HB1.out.trans (hb2.mono HB1.out.size)
      have HR2 : Hid (w2.heap[w.heap.size]? = some (.cells zProb 38 (0, 0))) := (hb2.block _ (Array.getElem?_eq_some_iff.1 HR1.out).1).trans HR1.out
      have hl12 := hb2.size
      clear ht1 ht2 ht3 hb2
      refine hK9 _ _ ?_
      clear hK9
      refine wpList_plain rfl fun K9 hK9 => ?_

      go_simp
      refine hK9 _ _ ?_
      clear hK9
      refine wpList_plain rfl fun K9 hK9 => ?_
      go_simp
      go_at_call 32
      refine (dataAt_any l (some ⟨b, o, none⟩) n c 9 w2 (HS.out w2 HB2.out) (by decide)).mono ?_
      rintro e w3 ⟨rfl, hb3⟩
      have hz9 := (HRG.out 9).1
      have hz9' := (HRG.out 9).2
      refine hK9 _ _ ?_
      clear hK9
      refine wpList_plain rfl fun K9 hK9 => ?_
      go_simp
      go_at_call 34
      refine (dataContract_any (atL l 9) w3 hz9 (by omega)).mono ?_
      rintro e w4 ⟨cs, hcs, rfl, hb4⟩
      obtain ⟨k0, k1, k2, k3, k4, k5, k6, k7, k8, k9, k10, k11, k12, k13, rfl⟩ := list14 hcs.1
      have HCS := Lib.hid hcs
      have hb24 : Below w2.heap.size w2 w4 := hb3.trans (hb4.mono hb3.size)
      have HB4 : Hid (Below w.heap.size w w4) := HB2.out.trans (hb24.mono HB2.out.size)
      have HB24 := Lib.hid hb24
      have hl24 := hb24.size
      clear hcs hb3 hb4 hz9 hz9' hb24
      refine hK9 _ _ ?_
      clear hK9
      refine wpList_plain rfl fun K9 hK9 => ?_

      go_simp
      refine hK9 _ _ ?_
      clear hK9
      refine wpList_plain rfl fun K9 hK9 => ?_

      go_simp
      refine hK9 _ _ ?_
      clear hK9
      refine wpList_plain rfl fun K9 hK9 => ?_
      go_simp
      go_at_call 32
      refine (dataAt_any l (some ⟨b, o, none⟩) n c 10 _ (HS.out _ (HB4.out.alloc HB4.out.size _)) (by decide)).mono ?_
      rintro e w6 ⟨rfl, hb6⟩
      have HX4 : Hid (w6.heap[w4.heap.size]? = some (.cells #[.string ⟨#[65, 65, 65]⟩] 9 (0, 0))) := (hb6.block _ (by simp)).trans (heap_alloc_new _ _)
      have hl46 : w4.heap.size < w6.heap.size := by have := hb6.size; simp at this; omega
      have HB26 : Hid (Below w2.heap.size w2 w6) := HB24.out.trans (((Below.refl _ _).alloc (Nat.le_refl _) _).trans (hb6.mono (by simp)) |>.mono hl24)
      have hz10 := (HRG.out 10).1
      have hz10' := (HRG.out 10).2
      have g1 : (atL l 10).tmod 60 = atL l 10 % 60 := Int.tmod_eq_emod_of_nonneg hz10
      have g2 : IntKind.i64.wrap (atL l 10 % 60) = atL l 10 % 60 := IntWalk.i64_in _ (by omega)
      have g3 : IntKind.i64.wrap (20 + atL l 10 % 60) = 20 + atL l 10 % 60 := IntWalk.i64_in _ (by omega)
      clear hb6 hz10 hz10'
      refine hK9 _ _ ?_
      clear hK9
      refine wpList_plain rfl fun K9 hK9 => ?_

      go_simp
      refine hK9 _ _ ?_
      clear hK9
      refine wpList_plain rfl fun K9 hK9 => ?_

      go_simp
      refine hK9 _ _ ?_
      clear hK9

      generalize 20 + atL l 10 % 60 = pen at *
      clear g1 g2 g3
      refine wpList_builtP rfl _ _ [(0, .agg #[.slice A1 n1 d1, .slice A2 n2 d2, .slice A3 n3 d3]), (1, .agg #[k0, k1, k2, k3, k4, k5, k6, k7, k8, k9, k10, k11, k12, k13]), (2, .slice (some ⟨w4.heap.size, 0, none⟩) 1 1), (5, .int .i64 pen)] rfl (by simp [Act.eval, Act.put]) #[.slice A1 n1 d1, .slice A2 n2 d2, .slice A3 n3 d3, k0, k1, k2, k3, k4, k5, k6, k7, k8, k9, k10, k11, k12, k13, .slice (some ⟨w4.heap.size, 0, none⟩) 1 1, .slice none 0 0, .int .i64 0, .int .i64 pen] (by kernel_rfl) ?_
      refine wpList_plain rfl fun K9 hK9 => ?_

      go_simp
      refine hK9 _ _ ?_
      clear hK9

      have HXP := Lib.hid (heap_alloc_new w6 (.cells zProb 38))
      have HK6 : Hid (∀ q, q < w6.heap.size → (w6.alloc (.cells zProb 38)).heap[q]? = w6.heap[q]?) := fun q hq => Below.heap_alloc _ _ _ hq
      have HB7 : Hid (Below w.heap.size w (w6.alloc (.cells zProb 38))) := (HB2.out.trans (HB26.out.mono HB2.out.size)).alloc (by have := HB2.out.size; have := HB26.out.size; omega) _
      have hz7 : (w6.alloc (.cells zProb 38)).heap.size = w6.heap.size + 1 := by simp
      have hone : ((#[.slice A1 n1 d1, .slice A2 n2 d2, .slice A3 n3 d3, k0, k1, k2, k3, k4, k5, k6, k7, k8, k9, k10, k11, k12, k13, .slice (some ⟨w4.heap.size, 0, none⟩) 1 1, .slice none 0 0, .int .i64 0, .int .i64 pen] : Array Value)).all (·.oneCell') = true := by
        have h14 := HCS.out.2
        rw [Array.all_eq_true]
        intro i hi
        have hmem : ((#[.slice A1 n1 d1, .slice A2 n2 d2, .slice A3 n3 d3, k0, k1, k2, k3, k4, k5, k6, k7, k8, k9, k10, k11, k12, k13, .slice (some ⟨w4.heap.size, 0, none⟩) 1 1, .slice none 0 0, .int .i64 0, .int .i64 pen] : Array Value))[i] ∈ (#[.slice A1 n1 d1, .slice A2 n2 d2, .slice A3 n3 d3, k0, k1, k2, k3, k4, k5, k6, k7, k8, k9, k10, k11, k12, k13, .slice (some ⟨w4.heap.size, 0, none⟩) 1 1, .slice none 0 0, .int .i64 0, .int .i64 pen] : Array Value).toList := by simp
        have hcs2 : ∀ u ∈ ([.slice A1 n1 d1, .slice A2 n2 d2, .slice A3 n3 d3] ++ ([k0, k1, k2, k3, k4, k5, k6, k7, k8, k9, k10, k11, k12, k13] ++ [.slice (some ⟨w4.heap.size, 0, none⟩) 1 1, .slice none 0 0, .int .i64 0, .int .i64 pen]) : List Value), u.oneCell' = true := fun u hu => by
          rcases List.mem_append.1 hu with h | h
          · simp at h; rcases h with rfl | rfl | rfl <;> rfl
          · rcases List.mem_append.1 h with h | h
            · exact h14 u h
            · simp at h; rcases h with rfl | rfl | rfl | rfl <;> rfl
        exact hcs2 _ hmem
      change wpList _ _ _ _ _ (w6.alloc (.cells zProb 38)) 
      generalize w6.alloc (.cells zProb 38) = w7 at *
      refine wpList_store_row rfl _ _ _ rfl w6.heap.size #[.slice A1 n1 d1, .slice A2 n2 d2, .slice A3 n3 d3, k0, k1, k2, k3, k4, k5, k6, k7, k8, k9, k10, k11, k12, k13, .slice (some ⟨w4.heap.size, 0, none⟩) 1 1, .slice none 0 0, .int .i64 0, .int .i64 pen] (by simp [Act.eval, Act.put]) (by simp [Act.eval, Act.put]) _ _ HXP.out (by kernel_rfl) rfl hone ?_
      clear hone
      go_wp2_with fail
      go_meet
      have hk : ∀ q, q < w6.heap.size → (w7.setRow w6.heap.size #[.slice A1 n1 d1, .slice A2 n2 d2, .slice A3 n3 d3, k0, k1, k2, k3, k4, k5, k6, k7, k8, k9, k10, k11, k12, k13, .slice (some ⟨w4.heap.size, 0, none⟩) 1 1, .slice none 0 0, .int .i64 0, .int .i64 pen]).heap[q]? = w6.heap[q]? := fun q hq => (setRow_other _ _ _ _ (by omega)).trans (HK6.out q hq)
      have hk2 : ∀ q, q < w2.heap.size → (w7.setRow w6.heap.size #[.slice A1 n1 d1, .slice A2 n2 d2, .slice A3 n3 d3, k0, k1, k2, k3, k4, k5, k6, k7, k8, k9, k10, k11, k12, k13, .slice (some ⟨w4.heap.size, 0, none⟩) 1 1, .slice none 0 0, .int .i64 0, .int .i64 pen]).heap[q]? = w2.heap[q]? := fun q hq => (hk q (by omega)).trans (HB26.out.block q hq)
      have hw1 := HB1.out.size
      have hww := (Array.getElem?_eq_some_iff.1 HR1.out).1
      refine ⟨w6.heap.size, [.slice A1 n1 d1, .slice A2 n2 d2, .slice A3 n3 d3], [k0, k1, k2, k3, k4, k5, k6, k7, k8, k9, k10, k11, k12, k13], .slice (some ⟨w4.heap.size, 0, none⟩) 1 1, pen, rfl, ⟨(hk2 _ (by omega)).trans HR2.out, setRow_heap _ _ _ _ _ _ HXP.out, ⟨by omega, by omega, by simp; omega⟩, (HT2.out.keep fun b hb => hk2 b hb.2).more fun b hb => by omega, HCS.out, ⟨_, _, _, [dCode 0], rfl, ?_, by decide⟩, Own.nil, below_setRowD HB7.out (by omega)⟩⟩
      refine Sl.block (xs := [dCode 0]) ((hk _ (by omega)).trans HX4.out) ⟨by omega, by omega, by omega⟩ (by decide) fun i x hi => ?_
      have : i = 0 := by
        have := (List.getElem?_eq_some_iff.1 hi).1
        have : i < 1 := this
        omega
      subst this
      injection hi with hi
      subst hi
      rfl
  case rest =>
  obtain ⟨P, v, cs, bv, pen, rfl, hpl⟩ := hcut
  obtain ⟨A1, n1, d1, A2, n2, d2, A3, n3, d3, rfl, -, -, -⟩ := hpl.tt
  obtain ⟨k0, k1, k2, k3, k4, k5, k6, k7, k8, k9, k10, k11, k12, k13, rfl⟩ := list14 hpl.con.1
  obtain ⟨Ab, nb, cb, lb, rfl, -, -⟩ := hpl.bs
  have hfl := hpl.tt.fl.2.2
  have hn3 : dCount l = n3 := by rw [hfl.len, probTT_len]
  rw [hn3] at HDC
  rw [hn3]
  have HPL := Lib.hid hpl
  have HA11 := Lib.hid (dataAt_any l A n c 11 wc (HS.out wc hpl.bel) (by decide))
  have hz11 := (HRG.out 11).1
  have g11 : (atL l 11).tmod 3 = atL l 11 % 3 := Int.tmod_eq_emod_of_nonneg hz11
  have g11' : IntKind.i64.wrap (atL l 11 % 3) = atL l 11 % 3 := IntWalk.i64_in _ (by omega)
  have hz12 := (HRG.out 12).1
  have g12 : (atL l 12).tmod 4 = atL l 12 % 4 := Int.tmod_eq_emod_of_nonneg hz12
  have g12' : IntKind.i64.wrap (atL l 12 % 4) = atL l 12 % 4 := IntWalk.i64_in _ (by omega)
  clear hpl hfl hz11 hz12 HB1 HR1 hn3 HCN
  generalize atL l 11 % 3 = a11 at *
  generalize atL l 12 % 4 = a12 at *
  by_cases h11 : a11 = 0
  · go_upto_region 4 with (go_at_call 32; refine HA11.out.mono ?_; rintro e wa ⟨rfl, hba⟩)
    have hp1 := (HPL.out.next hba).next ((Below.refl wa.heap.size wa).alloc (Nat.le_refl _) (.cells #[.string ⟨#[65, 65, 65]⟩, .string ⟨#[66, 66, 66]⟩] 9))
    have y17 : (wa.alloc (.cells #[.string ⟨#[65, 65, 65]⟩, .string ⟨#[66, 66, 66]⟩] 9)).cell? ⟨P, 17, none⟩ = some (.slice Ab nb cb) := block_cell hp1.box 17
    have f17 := block_free hp1.box 17
    have hl1 := hp1.lt
    have hz1 : (wa.alloc (.cells #[.string ⟨#[65, 65, 65]⟩, .string ⟨#[66, 66, 66]⟩] 9)).heap.size = wa.heap.size + 1 := by simp
    have hPa : P < wa.heap.size := by have := HPL.out.lt; have := hba.size; omega
    have hbl := Sl.block (t := Ty.str) (S := fun b => w.heap.size < b ∧ b < wa.heap.size + 1 ∧ b ≠ P) (xs := [dCode 0, dCode 1]) (heap_alloc_new wa (.cells #[.string ⟨#[65, 65, 65]⟩, .string ⟨#[66, 66, 66]⟩] 9)) ⟨by omega, by omega, by omega⟩ (by decide) fun i x hi => by
      have : i = 0 ∨ i = 1 := by
        have := (List.getElem?_eq_some_iff.1 hi).1
        have : i < 2 := this
        omega
      rcases this with rfl | rfl
      all_goals
        injection hi with hi
        subst hi
        rfl
    have hp2 : PL (probTT l) w ((wa.alloc (.cells #[.string ⟨#[65, 65, 65]⟩, .string ⟨#[66, 66, 66]⟩] 9)).setCell ⟨P, 17, none⟩ (.slice (some ⟨wa.heap.size, 0, none⟩) 2 2)) P (wa.heap.size + 1) [.slice A1 n1 d1, .slice A2 n2 d2, .slice A3 n3 d3] [k0, k1, k2, k3, k4, k5, k6, k7, k8, k9, k10, k11, k12, k13] (.slice (some ⟨wa.heap.size, 0, none⟩) 2 2) (.slice none 0 0) 0 pen [] := (hp1.raise (B' := wa.heap.size + 1) (by omega) (by omega)).setB hbl (by decide)
    rw [World.setCell_alloc_past _ P 17 _ hPa] at hp2
    have HP2 := Lib.hid hp2
    clear hp1 hp2 hl1 hz1 hbl HA11 HPL
    go_upto_region 5 with (fail)
    generalize (wa.setCell ⟨P, 17, none⟩ (.slice (some ⟨wa.heap.size, 0, none⟩) 2 2)).alloc (.cells #[.string ⟨#[65, 65, 65]⟩, .string ⟨#[66, 66, 66]⟩] 9) = wb at *
    generalize (some (⟨wa.heap.size, 0, none⟩ : Addr)) = Ab2 at *
    generalize wa.heap.size + 1 = B at *
    clear y17 f17 hba hPa g11 g11' h11
    have HA12 := Lib.hid (dataAt_any l A n c 12 wb (HS.out wb HP2.out.bel) (by decide))
    by_cases h12 : a12 = 0
    · go_upto_region 6 with (go_at_call 32; refine HA12.out.mono ?_; rintro e wd ⟨rfl, hbd⟩)
      have hp2 := HP2.out.next hbd
      have y19 : wd.cell? ⟨P, 19, none⟩ = some (.int .i64 0) := block_cell hp2.box 19
      have f19 := block_free hp2.box 19
      have HP3 := Lib.hid (hp2.setH 1)
      clear hp2 HP2 HA12 hbd g12 g12' h12
      go_upto_region 7 with (fail)
      generalize wd.setCell ⟨P, 19, none⟩ (.int .i64 1) = we at *
      clear y19 f19
      go_wp2_with fail
      go_loopw [5] (fun s wr => ∃ (k : Nat) (ov : Value) (os : List Int), k ≤ n3 ∧ s = .int .i64 k ∧ PL (probTT l) w wr P B [.slice A1 n1 d1, .slice A2 n2 d2, .slice A3 n3 d3] [k0, k1, k2, k3, k4, k5, k6, k7, k8, k9, k10, k11, k12, k13] (.slice Ab2 2 2) ov 1 pen os ∧ (k = 0 ∨ 0 < os.length) ∧ os.length ≤ k) (fun s _ => n3 - (intOf s).toNat)
      case atStart => exact ⟨0, _, [], Nat.zero_le _, rfl, HP3.out, .inl rfl, Nat.le_refl _⟩
      case round =>
        obtain ⟨k, ov, os, hk, rfl, hpl, ho, hok⟩ := hrel
        clear HP3
        have hn35 := HDC.out.2
        by_cases hlt : k < n3
        · have hfl := hpl.tt.fl.2.2
          have hfn := hfl.len
          obtain ⟨fb, o, rfl, hS1, hat⟩ := hfl.flight_at (k := k) (by omega)
          obtain ⟨fb', o', e0, hS2, hat0⟩ := hfl.flight_at (k := 0) (by omega)
          injection e0 with e0
          injection e0 with e1 e2
          subst e1 e2
          have HK0 : Hid (k = 0 → ((probTT l).flights.getD k noFlight) = ((probTT l).flights.getD 0 noFlight)) := fun e => by rw [e]
          have y6 := hat 6 _ rfl; have y7 := hat 7 _ rfl; have y8 := hat 8 _ rfl
          have z6 := hat0 6 _ rfl; have z7 := hat0 7 _ rfl; have z8 := hat0 8 _ rfl
          rw [Nat.zero_mul, Nat.add_zero] at z6 z7 z8
          generalize (probTT l).flights.getD k noFlight = fk at *
          generalize (probTT l).flights.getD 0 noFlight = f0 at *
          have y2 : wr.cell? ⟨P, 2, none⟩ = some (.slice (some ⟨fb, o, none⟩) n3 d3) := block_cell hpl.box 2
          have hlt' : (k : Int) < (n3 : Int) := by omega
          have hp0 : (0 : Int) < (n3 : Int) := by omega
          have HPL := Lib.hid hpl
          have HO := Lib.hid ho
          have hNE := need_any fk.n0 fk.n1 fk.n2 f0.n0 f0.n1 f0.n2
          have HBQ : Hid (k = 0 → (decide (fk.n0 = f0.n0) && (decide (fk.n1 = f0.n1) && decide (fk.n2 = f0.n2))) = true) := fun e => by rw [HK0.out e]; simp
          generalize fk.n0 = a0' at *; generalize fk.n1 = a1' at *; generalize fk.n2 = a2' at *
          generalize f0.n0 = b0' at *; generalize f0.n1 = b1' at *; generalize f0.n2 = b2' at *
          generalize (decide (a0' = b0') && (decide (a1' = b1') && decide (a2' = b2'))) = bq at *
          clear hpl hfl hfn hS1 hS2 hat hat0 ho HK0
          cases bq with
          | true =>
            obtain ⟨Ao, co, e9, hso⟩ := HPL.out.own.sl
            subst e9
            generalize hmoe : os.length = mo at *
            have HMO := Lib.hid hmoe
            clear hmoe
            have y18 : wr.cell? ⟨P, 18, none⟩ = some (.slice Ao mo co) := block_cell HPL.out.box 18
            have HPD : Hid (PL (probTT l) w wr.drew P B [.slice A1 n1 d1, .slice A2 n2 d2, .slice (some ⟨fb, o, none⟩) n3 d3] [k0, k1, k2, k3, k4, k5, k6, k7, k8, k9, k10, k11, k12, k13] (.slice Ab2 2 2) (.slice Ao mo co) 1 pen os) := HPL.out.next (below_drewN (Below.refl _ _) 1)
            clear hso
            go_upto_region 10 with (fail)
            go_quiet (fail)
            have HPQ := Lib.hid (HPL.out.next (below_drewN (Below.refl wr.heap.size wr) nq))
            have y18 : (wr.drewN nq).cell? ⟨P, 18, none⟩ = some (.slice Ao mo co) := block_cell HPQ.out.box 18
            have hl2 := HPQ.out.lt
            have hl3 := HPQ.out.own
            clear y2 y6 y7 y8 z6 z7 z8 hNE HPD
            generalize wr.drewN nq = wq at *
            have HAL : Hid (Own (Ty.int .i64) 3 (wq.alloc (.cells #[.int .i64 k] 3)) B (.slice Ao mo co) os) := hl3.alloc _
            clear hl3
            go_wp2_with (at_builtin; refine wpList_push (t := Ty.int .i64) rfl _ _ _ rfl 8 elem_ints rfl HAL.out wq.heap.size (k : Int) (fun _ => False) rfl ⟨[.int .i64 k], rfl, at_ofBlock (heap_alloc_new _ _)⟩ (fun _ h => h.elim) ?c1 (by decide) ?c2 ?_)
            case c1 => have := HMO.out; have := HDC.out; omega
            case c2 => first | omega | (simp; omega)
            intro v' w9 hown9 hgr9
            have hp9 := HPQ.out.next ((Below.refl wq.heap.size wq).alloc (Nat.le_refl _) (.cells #[.int .i64 k] 3))
            obtain ⟨A9, c9, rfl, -⟩ := hown9.sl
            have y18' : w9.cell? ⟨P, 18, none⟩ = some (.slice Ao mo co) := block_cell (hp9.box8 hgr9) 18
            have f18 := block_free (hp9.box8 hgr9) 18
            have HP10 := Lib.hid (hp9.push hgr9 hown9)
            have HL9 : Hid ((os ++ [(k : Int)]).length = mo + 1) := by show _ = _; rw [List.length_append, HMO.out]; rfl
            generalize os ++ [(k : Int)] = os9 at *
            generalize hm9e : os9.length = m9 at *
            have HM9 := Lib.hid hm9e
            clear hm9e
            clear hown9 hgr9 HAL HPQ hp9
            go_wp2_with fail
            go_roundw
            case rel => exact ⟨k + 1, _, os9, by omega, by go_num, HP10.out, .inr (by have := HM9.out; have := HL9.out; omega), by have := HM9.out; have := HL9.out; omega⟩
            case measure => simp [intOf]; omega
          | false =>
            have hk0 : k ≠ 0 := fun e => by have := HBQ.out e; cases this
            go_upto_region 10 with (fail)
            go_quiet (fail)
            go_wp2_with fail
            go_roundw
            case rel => exact ⟨k + 1, ov, os, by omega, by go_num, HPL.out.next (below_drewN (Below.refl wr.heap.size wr) _), .inr (by have := HO.out; omega), by omega⟩
            case measure => simp [intOf]; omega
        · have hkn : n3 = k := by omega
          subst hkn
          obtain ⟨Ao, co, rfl, hso⟩ := hpl.own.sl
          have hol : 0 < os.length := by have := HDC.out; omega
          have HDN := Lib.hid (hpl.done hol (by have := HDC.out; omega))
          have HBL : Hid (Below w.heap.size w (wr.setRow w.heap.size (PRow [.slice A1 n1 d1, .slice A2 n2 d2, .slice A3 n3 d3] [k0, k1, k2, k3, k4, k5, k6, k7, k8, k9, k10, k11, k12, k13] (.slice Ab2 2 2) (.slice Ao os.length co) 1 pen))) := below_setRowD hpl.bel (Nat.le_refl _)
          have HBX : Hid (wr.heap[P]? = some (.cells #[.slice A1 n1 d1, .slice A2 n2 d2, .slice A3 n3 d3, k0, k1, k2, k3, k4, k5, k6, k7, k8, k9, k10, k11, k12, k13, .slice Ab2 2 2, .slice Ao os.length co, .int .i64 1, .int .i64 pen] 38 (0, 0))) := hpl.box
          have HRS := Lib.hid hpl.res
          have HCO := Lib.hid hpl.con
          generalize os.length = mo at *
          clear hpl hso hol ho hok
          go_upto_region 12 with (fail)
          refine wp_region_lit ?_
          refine wpList_load_row rfl _ _ rfl P (by simp [Act.eval]) _ _ _ _ HBX.out Tryz.underlying38 rfl (by kernel_rfl) ?_
          have hone : ((#[.slice A1 n1 d1, .slice A2 n2 d2, .slice A3 n3 d3, k0, k1, k2, k3, k4, k5, k6, k7, k8, k9, k10, k11, k12, k13, .slice Ab2 2 2, .slice Ao mo co, .int .i64 1, .int .i64 pen] : Array Value)).all (·.oneCell') = true := by
            have h14 := HCO.out.2
            rw [Array.all_eq_true]
            intro i hi
            have hmem : ((#[.slice A1 n1 d1, .slice A2 n2 d2, .slice A3 n3 d3, k0, k1, k2, k3, k4, k5, k6, k7, k8, k9, k10, k11, k12, k13, .slice Ab2 2 2, .slice Ao mo co, .int .i64 1, .int .i64 pen] : Array Value))[i] ∈ (#[.slice A1 n1 d1, .slice A2 n2 d2, .slice A3 n3 d3, k0, k1, k2, k3, k4, k5, k6, k7, k8, k9, k10, k11, k12, k13, .slice Ab2 2 2, .slice Ao mo co, .int .i64 1, .int .i64 pen] : Array Value).toList := by simp
            have hcs2 : ∀ u ∈ ([.slice A1 n1 d1, .slice A2 n2 d2, .slice A3 n3 d3] ++ ([k0, k1, k2, k3, k4, k5, k6, k7, k8, k9, k10, k11, k12, k13] ++ [(.slice Ab2 2 2), .slice Ao mo co, .int .i64 1, .int .i64 pen]) : List Value), u.oneCell' = true := fun u hu => by
              rcases List.mem_append.1 hu with h | h
              · simp at h; rcases h with rfl | rfl | rfl <;> rfl
              · rcases List.mem_append.1 h with h | h
                · exact h14 u h
                · simp at h; rcases h with rfl | rfl | rfl | rfl <;> rfl
            exact hcs2 _ hmem
          refine wpList_store_row rfl _ _ _ rfl w.heap.size #[.slice A1 n1 d1, .slice A2 n2 d2, .slice A3 n3 d3, k0, k1, k2, k3, k4, k5, k6, k7, k8, k9, k10, k11, k12, k13, .slice Ab2 2 2, .slice Ao mo co, .int .i64 1, .int .i64 pen] (by simp [Act.eval, Act.put]) (by simp [Act.eval, Act.put]) _ _ HRS.out (by kernel_rfl) rfl hone ?_
          have HX5 : Hid ((wr.setRow w.heap.size #[.slice A1 n1 d1, .slice A2 n2 d2, .slice A3 n3 d3, k0, k1, k2, k3, k4, k5, k6, k7, k8, k9, k10, k11, k12, k13, .slice Ab2 2 2, .slice Ao mo co, .int .i64 1, .int .i64 pen]).heap[w.heap.size]? = _) := setRow_heap _ _ _ _ _ _ HRS.out
          change Hid (ProbIs (wr.setRow w.heap.size #[.slice A1 n1 d1, .slice A2 n2 d2, .slice A3 n3 d3, k0, k1, k2, k3, k4, k5, k6, k7, k8, k9, k10, k11, k12, k13, .slice Ab2 2 2, .slice Ao mo co, .int .i64 1, .int .i64 pen]) (all_ (wr.setRow w.heap.size #[.slice A1 n1 d1, .slice A2 n2 d2, .slice A3 n3 d3, k0, k1, k2, k3, k4, k5, k6, k7, k8, k9, k10, k11, k12, k13, .slice Ab2 2 2, .slice Ao mo co, .int .i64 1, .int .i64 pen])) _ _) at HDN
          change Hid (Below w.heap.size w (wr.setRow w.heap.size #[.slice A1 n1 d1, .slice A2 n2 d2, .slice A3 n3 d3, k0, k1, k2, k3, k4, k5, k6, k7, k8, k9, k10, k11, k12, k13, .slice Ab2 2 2, .slice Ao mo co, .int .i64 1, .int .i64 pen])) at HBL
          generalize wr.setRow w.heap.size #[.slice A1 n1 d1, .slice A2 n2 d2, .slice A3 n3 d3, k0, k1, k2, k3, k4, k5, k6, k7, k8, k9, k10, k11, k12, k13, .slice Ab2 2 2, .slice Ao mo co, .int .i64 1, .int .i64 pen] = wz at *
          clear hone HBX HRS
          go_wp2_with fail
          refine bodyPost_ret (v := .agg #[.slice A1 n1 d1, .slice A2 n2 d2, .slice A3 n3 d3, k0, k1, k2, k3, k4, k5, k6, k7, k8, k9, k10, k11, k12, k13, .slice Ab2 2 2, .slice Ao mo co, .int .i64 1, .int .i64 pen]) (results_cell_row Tryz.results11 _ _ w.heap.size _ _ _ _ (by simp [Act.put]) HX5.out Tryz.underlying38 rfl (by kernel_rfl)) rfl ?_
          exact ⟨_, rfl, HDN.out, HBL.out⟩
    · have h12' : (a12 == 0) = false := by simpa using h12
      go_upto_region 7 with (go_at_call 32; refine HA12.out.mono ?_; rintro e we ⟨rfl, hbd⟩)
      have HP3 := Lib.hid (HP2.out.next hbd)
      clear HP2 HA12 hbd g12 g12' h12 h12'
      go_wp2_with fail
      go_loopw [5] (fun s wr => ∃ (k : Nat) (ov : Value) (os : List Int), k ≤ n3 ∧ s = .int .i64 k ∧ PL (probTT l) w wr P B [.slice A1 n1 d1, .slice A2 n2 d2, .slice A3 n3 d3] [k0, k1, k2, k3, k4, k5, k6, k7, k8, k9, k10, k11, k12, k13] (.slice Ab2 2 2) ov 0 pen os ∧ (k = 0 ∨ 0 < os.length) ∧ os.length ≤ k) (fun s _ => n3 - (intOf s).toNat)
      case atStart => exact ⟨0, _, [], Nat.zero_le _, rfl, HP3.out, .inl rfl, Nat.le_refl _⟩
      case round =>
        obtain ⟨k, ov, os, hk, rfl, hpl, ho, hok⟩ := hrel
        clear HP3
        have hn35 := HDC.out.2
        by_cases hlt : k < n3
        · have hfl := hpl.tt.fl.2.2
          have hfn := hfl.len
          obtain ⟨fb, o, rfl, hS1, hat⟩ := hfl.flight_at (k := k) (by omega)
          obtain ⟨fb', o', e0, hS2, hat0⟩ := hfl.flight_at (k := 0) (by omega)
          injection e0 with e0
          injection e0 with e1 e2
          subst e1 e2
          have HK0 : Hid (k = 0 → ((probTT l).flights.getD k noFlight) = ((probTT l).flights.getD 0 noFlight)) := fun e => by rw [e]
          have y6 := hat 6 _ rfl; have y7 := hat 7 _ rfl; have y8 := hat 8 _ rfl
          have z6 := hat0 6 _ rfl; have z7 := hat0 7 _ rfl; have z8 := hat0 8 _ rfl
          rw [Nat.zero_mul, Nat.add_zero] at z6 z7 z8
          generalize (probTT l).flights.getD k noFlight = fk at *
          generalize (probTT l).flights.getD 0 noFlight = f0 at *
          have y2 : wr.cell? ⟨P, 2, none⟩ = some (.slice (some ⟨fb, o, none⟩) n3 d3) := block_cell hpl.box 2
          have hlt' : (k : Int) < (n3 : Int) := by omega
          have hp0 : (0 : Int) < (n3 : Int) := by omega
          have HPL := Lib.hid hpl
          have HO := Lib.hid ho
          have hNE := need_any fk.n0 fk.n1 fk.n2 f0.n0 f0.n1 f0.n2
          have HBQ : Hid (k = 0 → (decide (fk.n0 = f0.n0) && (decide (fk.n1 = f0.n1) && decide (fk.n2 = f0.n2))) = true) := fun e => by rw [HK0.out e]; simp
          generalize fk.n0 = a0' at *; generalize fk.n1 = a1' at *; generalize fk.n2 = a2' at *
          generalize f0.n0 = b0' at *; generalize f0.n1 = b1' at *; generalize f0.n2 = b2' at *
          generalize (decide (a0' = b0') && (decide (a1' = b1') && decide (a2' = b2'))) = bq at *
          clear hpl hfl hfn hS1 hS2 hat hat0 ho HK0
          cases bq with
          | true =>
            obtain ⟨Ao, co, e9, hso⟩ := HPL.out.own.sl
            subst e9
            generalize hmoe : os.length = mo at *
            have HMO := Lib.hid hmoe
            clear hmoe
            have y18 : wr.cell? ⟨P, 18, none⟩ = some (.slice Ao mo co) := block_cell HPL.out.box 18
            have HPD : Hid (PL (probTT l) w wr.drew P B [.slice A1 n1 d1, .slice A2 n2 d2, .slice (some ⟨fb, o, none⟩) n3 d3] [k0, k1, k2, k3, k4, k5, k6, k7, k8, k9, k10, k11, k12, k13] (.slice Ab2 2 2) (.slice Ao mo co) 0 pen os) := HPL.out.next (below_drewN (Below.refl _ _) 1)
            clear hso
            go_upto_region 10 with (fail)
            go_quiet (fail)
            have HPQ := Lib.hid (HPL.out.next (below_drewN (Below.refl wr.heap.size wr) nq))
            have y18 : (wr.drewN nq).cell? ⟨P, 18, none⟩ = some (.slice Ao mo co) := block_cell HPQ.out.box 18
            have hl2 := HPQ.out.lt
            have hl3 := HPQ.out.own
            clear y2 y6 y7 y8 z6 z7 z8 hNE HPD
            generalize wr.drewN nq = wq at *
            have HAL : Hid (Own (Ty.int .i64) 3 (wq.alloc (.cells #[.int .i64 k] 3)) B (.slice Ao mo co) os) := hl3.alloc _
            clear hl3
            go_wp2_with (at_builtin; refine wpList_push (t := Ty.int .i64) rfl _ _ _ rfl 8 elem_ints rfl HAL.out wq.heap.size (k : Int) (fun _ => False) rfl ⟨[.int .i64 k], rfl, at_ofBlock (heap_alloc_new _ _)⟩ (fun _ h => h.elim) ?c1 (by decide) ?c2 ?_)
            case c1 => have := HMO.out; have := HDC.out; omega
            case c2 => first | omega | (simp; omega)
            intro v' w9 hown9 hgr9
            have hp9 := HPQ.out.next ((Below.refl wq.heap.size wq).alloc (Nat.le_refl _) (.cells #[.int .i64 k] 3))
            obtain ⟨A9, c9, rfl, -⟩ := hown9.sl
            have y18' : w9.cell? ⟨P, 18, none⟩ = some (.slice Ao mo co) := block_cell (hp9.box8 hgr9) 18
            have f18 := block_free (hp9.box8 hgr9) 18
            have HP10 := Lib.hid (hp9.push hgr9 hown9)
            have HL9 : Hid ((os ++ [(k : Int)]).length = mo + 1) := by show _ = _; rw [List.length_append, HMO.out]; rfl
            generalize os ++ [(k : Int)] = os9 at *
            generalize hm9e : os9.length = m9 at *
            have HM9 := Lib.hid hm9e
            clear hm9e
            clear hown9 hgr9 HAL HPQ hp9
            go_wp2_with fail
            go_roundw
            case rel => exact ⟨k + 1, _, os9, by omega, by go_num, HP10.out, .inr (by have := HM9.out; have := HL9.out; omega), by have := HM9.out; have := HL9.out; omega⟩
            case measure => simp [intOf]; omega
          | false =>
            have hk0 : k ≠ 0 := fun e => by have := HBQ.out e; cases this
            go_upto_region 10 with (fail)
            go_quiet (fail)
            go_wp2_with fail
            go_roundw
            case rel => exact ⟨k + 1, ov, os, by omega, by go_num, HPL.out.next (below_drewN (Below.refl wr.heap.size wr) _), .inr (by have := HO.out; omega), by omega⟩
            case measure => simp [intOf]; omega
        · have hkn : n3 = k := by omega
          subst hkn
          obtain ⟨Ao, co, rfl, hso⟩ := hpl.own.sl
          have hol : 0 < os.length := by have := HDC.out; omega
          have HDN := Lib.hid (hpl.done hol (by have := HDC.out; omega))
          have HBL : Hid (Below w.heap.size w (wr.setRow w.heap.size (PRow [.slice A1 n1 d1, .slice A2 n2 d2, .slice A3 n3 d3] [k0, k1, k2, k3, k4, k5, k6, k7, k8, k9, k10, k11, k12, k13] (.slice Ab2 2 2) (.slice Ao os.length co) 0 pen))) := below_setRowD hpl.bel (Nat.le_refl _)
          have HBX : Hid (wr.heap[P]? = some (.cells #[.slice A1 n1 d1, .slice A2 n2 d2, .slice A3 n3 d3, k0, k1, k2, k3, k4, k5, k6, k7, k8, k9, k10, k11, k12, k13, .slice Ab2 2 2, .slice Ao os.length co, .int .i64 0, .int .i64 pen] 38 (0, 0))) := hpl.box
          have HRS := Lib.hid hpl.res
          have HCO := Lib.hid hpl.con
          generalize os.length = mo at *
          clear hpl hso hol ho hok
          go_upto_region 12 with (fail)
          refine wp_region_lit ?_
          refine wpList_load_row rfl _ _ rfl P (by simp [Act.eval]) _ _ _ _ HBX.out Tryz.underlying38 rfl (by kernel_rfl) ?_
          have hone : ((#[.slice A1 n1 d1, .slice A2 n2 d2, .slice A3 n3 d3, k0, k1, k2, k3, k4, k5, k6, k7, k8, k9, k10, k11, k12, k13, .slice Ab2 2 2, .slice Ao mo co, .int .i64 0, .int .i64 pen] : Array Value)).all (·.oneCell') = true := by
            have h14 := HCO.out.2
            rw [Array.all_eq_true]
            intro i hi
            have hmem : ((#[.slice A1 n1 d1, .slice A2 n2 d2, .slice A3 n3 d3, k0, k1, k2, k3, k4, k5, k6, k7, k8, k9, k10, k11, k12, k13, .slice Ab2 2 2, .slice Ao mo co, .int .i64 0, .int .i64 pen] : Array Value))[i] ∈ (#[.slice A1 n1 d1, .slice A2 n2 d2, .slice A3 n3 d3, k0, k1, k2, k3, k4, k5, k6, k7, k8, k9, k10, k11, k12, k13, .slice Ab2 2 2, .slice Ao mo co, .int .i64 0, .int .i64 pen] : Array Value).toList := by simp
            have hcs2 : ∀ u ∈ ([.slice A1 n1 d1, .slice A2 n2 d2, .slice A3 n3 d3] ++ ([k0, k1, k2, k3, k4, k5, k6, k7, k8, k9, k10, k11, k12, k13] ++ [(.slice Ab2 2 2), .slice Ao mo co, .int .i64 0, .int .i64 pen]) : List Value), u.oneCell' = true := fun u hu => by
              rcases List.mem_append.1 hu with h | h
              · simp at h; rcases h with rfl | rfl | rfl <;> rfl
              · rcases List.mem_append.1 h with h | h
                · exact h14 u h
                · simp at h; rcases h with rfl | rfl | rfl | rfl <;> rfl
            exact hcs2 _ hmem
          refine wpList_store_row rfl _ _ _ rfl w.heap.size #[.slice A1 n1 d1, .slice A2 n2 d2, .slice A3 n3 d3, k0, k1, k2, k3, k4, k5, k6, k7, k8, k9, k10, k11, k12, k13, .slice Ab2 2 2, .slice Ao mo co, .int .i64 0, .int .i64 pen] (by simp [Act.eval, Act.put]) (by simp [Act.eval, Act.put]) _ _ HRS.out (by kernel_rfl) rfl hone ?_
          have HX5 : Hid ((wr.setRow w.heap.size #[.slice A1 n1 d1, .slice A2 n2 d2, .slice A3 n3 d3, k0, k1, k2, k3, k4, k5, k6, k7, k8, k9, k10, k11, k12, k13, .slice Ab2 2 2, .slice Ao mo co, .int .i64 0, .int .i64 pen]).heap[w.heap.size]? = _) := setRow_heap _ _ _ _ _ _ HRS.out
          change Hid (ProbIs (wr.setRow w.heap.size #[.slice A1 n1 d1, .slice A2 n2 d2, .slice A3 n3 d3, k0, k1, k2, k3, k4, k5, k6, k7, k8, k9, k10, k11, k12, k13, .slice Ab2 2 2, .slice Ao mo co, .int .i64 0, .int .i64 pen]) (all_ (wr.setRow w.heap.size #[.slice A1 n1 d1, .slice A2 n2 d2, .slice A3 n3 d3, k0, k1, k2, k3, k4, k5, k6, k7, k8, k9, k10, k11, k12, k13, .slice Ab2 2 2, .slice Ao mo co, .int .i64 0, .int .i64 pen])) _ _) at HDN
          change Hid (Below w.heap.size w (wr.setRow w.heap.size #[.slice A1 n1 d1, .slice A2 n2 d2, .slice A3 n3 d3, k0, k1, k2, k3, k4, k5, k6, k7, k8, k9, k10, k11, k12, k13, .slice Ab2 2 2, .slice Ao mo co, .int .i64 0, .int .i64 pen])) at HBL
          generalize wr.setRow w.heap.size #[.slice A1 n1 d1, .slice A2 n2 d2, .slice A3 n3 d3, k0, k1, k2, k3, k4, k5, k6, k7, k8, k9, k10, k11, k12, k13, .slice Ab2 2 2, .slice Ao mo co, .int .i64 0, .int .i64 pen] = wz at *
          clear hone HBX HRS
          go_wp2_with fail
          refine bodyPost_ret (v := .agg #[.slice A1 n1 d1, .slice A2 n2 d2, .slice A3 n3 d3, k0, k1, k2, k3, k4, k5, k6, k7, k8, k9, k10, k11, k12, k13, .slice Ab2 2 2, .slice Ao mo co, .int .i64 0, .int .i64 pen]) (results_cell_row Tryz.results11 _ _ w.heap.size _ _ _ _ (by simp [Act.put]) HX5.out Tryz.underlying38 rfl (by kernel_rfl)) rfl ?_
          exact ⟨_, rfl, HDN.out, HBL.out⟩
  · have h11' : (a11 == 0) = false := by simpa using h11
    go_upto_region 5 with (go_at_call 32; refine HA11.out.mono ?_; rintro e wb ⟨rfl, hba⟩)
    have HP2 := Lib.hid (HPL.out.next hba)
    clear HA11 HPL g11 g11' h11 h11' hba
    generalize P + 1 = B at *
    have HA12 := Lib.hid (dataAt_any l A n c 12 wb (HS.out wb HP2.out.bel) (by decide))
    by_cases h12 : a12 = 0
    · go_upto_region 6 with (go_at_call 32; refine HA12.out.mono ?_; rintro e wd ⟨rfl, hbd⟩)
      have hp2 := HP2.out.next hbd
      have y19 : wd.cell? ⟨P, 19, none⟩ = some (.int .i64 0) := block_cell hp2.box 19
      have f19 := block_free hp2.box 19
      have HP3 := Lib.hid (hp2.setH 1)
      clear hp2 HP2 HA12 hbd g12 g12' h12
      go_upto_region 7 with (fail)
      generalize wd.setCell ⟨P, 19, none⟩ (.int .i64 1) = we at *
      clear y19 f19
      go_wp2_with fail
      go_loopw [5] (fun s wr => ∃ (k : Nat) (ov : Value) (os : List Int), k ≤ n3 ∧ s = .int .i64 k ∧ PL (probTT l) w wr P B [.slice A1 n1 d1, .slice A2 n2 d2, .slice A3 n3 d3] [k0, k1, k2, k3, k4, k5, k6, k7, k8, k9, k10, k11, k12, k13] (.slice Ab nb cb) ov 1 pen os ∧ (k = 0 ∨ 0 < os.length) ∧ os.length ≤ k) (fun s _ => n3 - (intOf s).toNat)
      case atStart => exact ⟨0, _, [], Nat.zero_le _, rfl, HP3.out, .inl rfl, Nat.le_refl _⟩
      case round =>
        obtain ⟨k, ov, os, hk, rfl, hpl, ho, hok⟩ := hrel
        clear HP3
        have hn35 := HDC.out.2
        by_cases hlt : k < n3
        · have hfl := hpl.tt.fl.2.2
          have hfn := hfl.len
          obtain ⟨fb, o, rfl, hS1, hat⟩ := hfl.flight_at (k := k) (by omega)
          obtain ⟨fb', o', e0, hS2, hat0⟩ := hfl.flight_at (k := 0) (by omega)
          injection e0 with e0
          injection e0 with e1 e2
          subst e1 e2
          have HK0 : Hid (k = 0 → ((probTT l).flights.getD k noFlight) = ((probTT l).flights.getD 0 noFlight)) := fun e => by rw [e]
          have y6 := hat 6 _ rfl; have y7 := hat 7 _ rfl; have y8 := hat 8 _ rfl
          have z6 := hat0 6 _ rfl; have z7 := hat0 7 _ rfl; have z8 := hat0 8 _ rfl
          rw [Nat.zero_mul, Nat.add_zero] at z6 z7 z8
          generalize (probTT l).flights.getD k noFlight = fk at *
          generalize (probTT l).flights.getD 0 noFlight = f0 at *
          have y2 : wr.cell? ⟨P, 2, none⟩ = some (.slice (some ⟨fb, o, none⟩) n3 d3) := block_cell hpl.box 2
          have hlt' : (k : Int) < (n3 : Int) := by omega
          have hp0 : (0 : Int) < (n3 : Int) := by omega
          have HPL := Lib.hid hpl
          have HO := Lib.hid ho
          have hNE := need_any fk.n0 fk.n1 fk.n2 f0.n0 f0.n1 f0.n2
          have HBQ : Hid (k = 0 → (decide (fk.n0 = f0.n0) && (decide (fk.n1 = f0.n1) && decide (fk.n2 = f0.n2))) = true) := fun e => by rw [HK0.out e]; simp
          generalize fk.n0 = a0' at *; generalize fk.n1 = a1' at *; generalize fk.n2 = a2' at *
          generalize f0.n0 = b0' at *; generalize f0.n1 = b1' at *; generalize f0.n2 = b2' at *
          generalize (decide (a0' = b0') && (decide (a1' = b1') && decide (a2' = b2'))) = bq at *
          clear hpl hfl hfn hS1 hS2 hat hat0 ho HK0
          cases bq with
          | true =>
            obtain ⟨Ao, co, e9, hso⟩ := HPL.out.own.sl
            subst e9
            generalize hmoe : os.length = mo at *
            have HMO := Lib.hid hmoe
            clear hmoe
            have y18 : wr.cell? ⟨P, 18, none⟩ = some (.slice Ao mo co) := block_cell HPL.out.box 18
            have HPD : Hid (PL (probTT l) w wr.drew P B [.slice A1 n1 d1, .slice A2 n2 d2, .slice (some ⟨fb, o, none⟩) n3 d3] [k0, k1, k2, k3, k4, k5, k6, k7, k8, k9, k10, k11, k12, k13] (.slice Ab nb cb) (.slice Ao mo co) 1 pen os) := HPL.out.next (below_drewN (Below.refl _ _) 1)
            clear hso
            go_upto_region 10 with (fail)
            go_quiet (fail)
            have HPQ := Lib.hid (HPL.out.next (below_drewN (Below.refl wr.heap.size wr) nq))
            have y18 : (wr.drewN nq).cell? ⟨P, 18, none⟩ = some (.slice Ao mo co) := block_cell HPQ.out.box 18
            have hl2 := HPQ.out.lt
            have hl3 := HPQ.out.own
            clear y2 y6 y7 y8 z6 z7 z8 hNE HPD
            generalize wr.drewN nq = wq at *
            have HAL : Hid (Own (Ty.int .i64) 3 (wq.alloc (.cells #[.int .i64 k] 3)) B (.slice Ao mo co) os) := hl3.alloc _
            clear hl3
            go_wp2_with (at_builtin; refine wpList_push (t := Ty.int .i64) rfl _ _ _ rfl 8 elem_ints rfl HAL.out wq.heap.size (k : Int) (fun _ => False) rfl ⟨[.int .i64 k], rfl, at_ofBlock (heap_alloc_new _ _)⟩ (fun _ h => h.elim) ?c1 (by decide) ?c2 ?_)
            case c1 => have := HMO.out; have := HDC.out; omega
            case c2 => first | omega | (simp; omega)
            intro v' w9 hown9 hgr9
            have hp9 := HPQ.out.next ((Below.refl wq.heap.size wq).alloc (Nat.le_refl _) (.cells #[.int .i64 k] 3))
            obtain ⟨A9, c9, rfl, -⟩ := hown9.sl
            have y18' : w9.cell? ⟨P, 18, none⟩ = some (.slice Ao mo co) := block_cell (hp9.box8 hgr9) 18
            have f18 := block_free (hp9.box8 hgr9) 18
            have HP10 := Lib.hid (hp9.push hgr9 hown9)
            have HL9 : Hid ((os ++ [(k : Int)]).length = mo + 1) := by show _ = _; rw [List.length_append, HMO.out]; rfl
            generalize os ++ [(k : Int)] = os9 at *
            generalize hm9e : os9.length = m9 at *
            have HM9 := Lib.hid hm9e
            clear hm9e
            clear hown9 hgr9 HAL HPQ hp9
            go_wp2_with fail
            go_roundw
            case rel => exact ⟨k + 1, _, os9, by omega, by go_num, HP10.out, .inr (by have := HM9.out; have := HL9.out; omega), by have := HM9.out; have := HL9.out; omega⟩
            case measure => simp [intOf]; omega
          | false =>
            have hk0 : k ≠ 0 := fun e => by have := HBQ.out e; cases this
            go_upto_region 10 with (fail)
            go_quiet (fail)
            go_wp2_with fail
            go_roundw
            case rel => exact ⟨k + 1, ov, os, by omega, by go_num, HPL.out.next (below_drewN (Below.refl wr.heap.size wr) _), .inr (by have := HO.out; omega), by omega⟩
            case measure => simp [intOf]; omega
        · have hkn : n3 = k := by omega
          subst hkn
          obtain ⟨Ao, co, rfl, hso⟩ := hpl.own.sl
          have hol : 0 < os.length := by have := HDC.out; omega
          have HDN := Lib.hid (hpl.done hol (by have := HDC.out; omega))
          have HBL : Hid (Below w.heap.size w (wr.setRow w.heap.size (PRow [.slice A1 n1 d1, .slice A2 n2 d2, .slice A3 n3 d3] [k0, k1, k2, k3, k4, k5, k6, k7, k8, k9, k10, k11, k12, k13] (.slice Ab nb cb) (.slice Ao os.length co) 1 pen))) := below_setRowD hpl.bel (Nat.le_refl _)
          have HBX : Hid (wr.heap[P]? = some (.cells #[.slice A1 n1 d1, .slice A2 n2 d2, .slice A3 n3 d3, k0, k1, k2, k3, k4, k5, k6, k7, k8, k9, k10, k11, k12, k13, .slice Ab nb cb, .slice Ao os.length co, .int .i64 1, .int .i64 pen] 38 (0, 0))) := hpl.box
          have HRS := Lib.hid hpl.res
          have HCO := Lib.hid hpl.con
          generalize os.length = mo at *
          clear hpl hso hol ho hok
          go_upto_region 12 with (fail)
          refine wp_region_lit ?_
          refine wpList_load_row rfl _ _ rfl P (by simp [Act.eval]) _ _ _ _ HBX.out Tryz.underlying38 rfl (by kernel_rfl) ?_
          have hone : ((#[.slice A1 n1 d1, .slice A2 n2 d2, .slice A3 n3 d3, k0, k1, k2, k3, k4, k5, k6, k7, k8, k9, k10, k11, k12, k13, .slice Ab nb cb, .slice Ao mo co, .int .i64 1, .int .i64 pen] : Array Value)).all (·.oneCell') = true := by
            have h14 := HCO.out.2
            rw [Array.all_eq_true]
            intro i hi
            have hmem : ((#[.slice A1 n1 d1, .slice A2 n2 d2, .slice A3 n3 d3, k0, k1, k2, k3, k4, k5, k6, k7, k8, k9, k10, k11, k12, k13, .slice Ab nb cb, .slice Ao mo co, .int .i64 1, .int .i64 pen] : Array Value))[i] ∈ (#[.slice A1 n1 d1, .slice A2 n2 d2, .slice A3 n3 d3, k0, k1, k2, k3, k4, k5, k6, k7, k8, k9, k10, k11, k12, k13, .slice Ab nb cb, .slice Ao mo co, .int .i64 1, .int .i64 pen] : Array Value).toList := by simp
            have hcs2 : ∀ u ∈ ([.slice A1 n1 d1, .slice A2 n2 d2, .slice A3 n3 d3] ++ ([k0, k1, k2, k3, k4, k5, k6, k7, k8, k9, k10, k11, k12, k13] ++ [(.slice Ab nb cb), .slice Ao mo co, .int .i64 1, .int .i64 pen]) : List Value), u.oneCell' = true := fun u hu => by
              rcases List.mem_append.1 hu with h | h
              · simp at h; rcases h with rfl | rfl | rfl <;> rfl
              · rcases List.mem_append.1 h with h | h
                · exact h14 u h
                · simp at h; rcases h with rfl | rfl | rfl | rfl <;> rfl
            exact hcs2 _ hmem
          refine wpList_store_row rfl _ _ _ rfl w.heap.size #[.slice A1 n1 d1, .slice A2 n2 d2, .slice A3 n3 d3, k0, k1, k2, k3, k4, k5, k6, k7, k8, k9, k10, k11, k12, k13, .slice Ab nb cb, .slice Ao mo co, .int .i64 1, .int .i64 pen] (by simp [Act.eval, Act.put]) (by simp [Act.eval, Act.put]) _ _ HRS.out (by kernel_rfl) rfl hone ?_
          have HX5 : Hid ((wr.setRow w.heap.size #[.slice A1 n1 d1, .slice A2 n2 d2, .slice A3 n3 d3, k0, k1, k2, k3, k4, k5, k6, k7, k8, k9, k10, k11, k12, k13, .slice Ab nb cb, .slice Ao mo co, .int .i64 1, .int .i64 pen]).heap[w.heap.size]? = _) := setRow_heap _ _ _ _ _ _ HRS.out
          change Hid (ProbIs (wr.setRow w.heap.size #[.slice A1 n1 d1, .slice A2 n2 d2, .slice A3 n3 d3, k0, k1, k2, k3, k4, k5, k6, k7, k8, k9, k10, k11, k12, k13, .slice Ab nb cb, .slice Ao mo co, .int .i64 1, .int .i64 pen]) (all_ (wr.setRow w.heap.size #[.slice A1 n1 d1, .slice A2 n2 d2, .slice A3 n3 d3, k0, k1, k2, k3, k4, k5, k6, k7, k8, k9, k10, k11, k12, k13, .slice Ab nb cb, .slice Ao mo co, .int .i64 1, .int .i64 pen])) _ _) at HDN
          change Hid (Below w.heap.size w (wr.setRow w.heap.size #[.slice A1 n1 d1, .slice A2 n2 d2, .slice A3 n3 d3, k0, k1, k2, k3, k4, k5, k6, k7, k8, k9, k10, k11, k12, k13, .slice Ab nb cb, .slice Ao mo co, .int .i64 1, .int .i64 pen])) at HBL
          generalize wr.setRow w.heap.size #[.slice A1 n1 d1, .slice A2 n2 d2, .slice A3 n3 d3, k0, k1, k2, k3, k4, k5, k6, k7, k8, k9, k10, k11, k12, k13, .slice Ab nb cb, .slice Ao mo co, .int .i64 1, .int .i64 pen] = wz at *
          clear hone HBX HRS
          go_wp2_with fail
          refine bodyPost_ret (v := .agg #[.slice A1 n1 d1, .slice A2 n2 d2, .slice A3 n3 d3, k0, k1, k2, k3, k4, k5, k6, k7, k8, k9, k10, k11, k12, k13, .slice Ab nb cb, .slice Ao mo co, .int .i64 1, .int .i64 pen]) (results_cell_row Tryz.results11 _ _ w.heap.size _ _ _ _ (by simp [Act.put]) HX5.out Tryz.underlying38 rfl (by kernel_rfl)) rfl ?_
          exact ⟨_, rfl, HDN.out, HBL.out⟩
    · have h12' : (a12 == 0) = false := by simpa using h12
      go_upto_region 7 with (go_at_call 32; refine HA12.out.mono ?_; rintro e we ⟨rfl, hbd⟩)
      have HP3 := Lib.hid (HP2.out.next hbd)
      clear HP2 HA12 hbd g12 g12' h12 h12'
      go_wp2_with fail
      go_loopw [5] (fun s wr => ∃ (k : Nat) (ov : Value) (os : List Int), k ≤ n3 ∧ s = .int .i64 k ∧ PL (probTT l) w wr P B [.slice A1 n1 d1, .slice A2 n2 d2, .slice A3 n3 d3] [k0, k1, k2, k3, k4, k5, k6, k7, k8, k9, k10, k11, k12, k13] (.slice Ab nb cb) ov 0 pen os ∧ (k = 0 ∨ 0 < os.length) ∧ os.length ≤ k) (fun s _ => n3 - (intOf s).toNat)
      case atStart => exact ⟨0, _, [], Nat.zero_le _, rfl, HP3.out, .inl rfl, Nat.le_refl _⟩
      case round =>
        obtain ⟨k, ov, os, hk, rfl, hpl, ho, hok⟩ := hrel
        clear HP3
        have hn35 := HDC.out.2
        by_cases hlt : k < n3
        · have hfl := hpl.tt.fl.2.2
          have hfn := hfl.len
          obtain ⟨fb, o, rfl, hS1, hat⟩ := hfl.flight_at (k := k) (by omega)
          obtain ⟨fb', o', e0, hS2, hat0⟩ := hfl.flight_at (k := 0) (by omega)
          injection e0 with e0
          injection e0 with e1 e2
          subst e1 e2
          have HK0 : Hid (k = 0 → ((probTT l).flights.getD k noFlight) = ((probTT l).flights.getD 0 noFlight)) := fun e => by rw [e]
          have y6 := hat 6 _ rfl; have y7 := hat 7 _ rfl; have y8 := hat 8 _ rfl
          have z6 := hat0 6 _ rfl; have z7 := hat0 7 _ rfl; have z8 := hat0 8 _ rfl
          rw [Nat.zero_mul, Nat.add_zero] at z6 z7 z8
          generalize (probTT l).flights.getD k noFlight = fk at *
          generalize (probTT l).flights.getD 0 noFlight = f0 at *
          have y2 : wr.cell? ⟨P, 2, none⟩ = some (.slice (some ⟨fb, o, none⟩) n3 d3) := block_cell hpl.box 2
          have hlt' : (k : Int) < (n3 : Int) := by omega
          have hp0 : (0 : Int) < (n3 : Int) := by omega
          have HPL := Lib.hid hpl
          have HO := Lib.hid ho
          have hNE := need_any fk.n0 fk.n1 fk.n2 f0.n0 f0.n1 f0.n2
          have HBQ : Hid (k = 0 → (decide (fk.n0 = f0.n0) && (decide (fk.n1 = f0.n1) && decide (fk.n2 = f0.n2))) = true) := fun e => by rw [HK0.out e]; simp
          generalize fk.n0 = a0' at *; generalize fk.n1 = a1' at *; generalize fk.n2 = a2' at *
          generalize f0.n0 = b0' at *; generalize f0.n1 = b1' at *; generalize f0.n2 = b2' at *
          generalize (decide (a0' = b0') && (decide (a1' = b1') && decide (a2' = b2'))) = bq at *
          clear hpl hfl hfn hS1 hS2 hat hat0 ho HK0
          cases bq with
          | true =>
            obtain ⟨Ao, co, e9, hso⟩ := HPL.out.own.sl
            subst e9
            generalize hmoe : os.length = mo at *
            have HMO := Lib.hid hmoe
            clear hmoe
            have y18 : wr.cell? ⟨P, 18, none⟩ = some (.slice Ao mo co) := block_cell HPL.out.box 18
            have HPD : Hid (PL (probTT l) w wr.drew P B [.slice A1 n1 d1, .slice A2 n2 d2, .slice (some ⟨fb, o, none⟩) n3 d3] [k0, k1, k2, k3, k4, k5, k6, k7, k8, k9, k10, k11, k12, k13] (.slice Ab nb cb) (.slice Ao mo co) 0 pen os) := HPL.out.next (below_drewN (Below.refl _ _) 1)
            clear hso
            go_upto_region 10 with (fail)
            go_quiet (fail)
            have HPQ := Lib.hid (HPL.out.next (below_drewN (Below.refl wr.heap.size wr) nq))
            have y18 : (wr.drewN nq).cell? ⟨P, 18, none⟩ = some (.slice Ao mo co) := block_cell HPQ.out.box 18
            have hl2 := HPQ.out.lt
            have hl3 := HPQ.out.own
            clear y2 y6 y7 y8 z6 z7 z8 hNE HPD
            generalize wr.drewN nq = wq at *
            have HAL : Hid (Own (Ty.int .i64) 3 (wq.alloc (.cells #[.int .i64 k] 3)) B (.slice Ao mo co) os) := hl3.alloc _
            clear hl3
            go_wp2_with (at_builtin; refine wpList_push (t := Ty.int .i64) rfl _ _ _ rfl 8 elem_ints rfl HAL.out wq.heap.size (k : Int) (fun _ => False) rfl ⟨[.int .i64 k], rfl, at_ofBlock (heap_alloc_new _ _)⟩ (fun _ h => h.elim) ?c1 (by decide) ?c2 ?_)
            case c1 => have := HMO.out; have := HDC.out; omega
            case c2 => first | omega | (simp; omega)
            intro v' w9 hown9 hgr9
            have hp9 := HPQ.out.next ((Below.refl wq.heap.size wq).alloc (Nat.le_refl _) (.cells #[.int .i64 k] 3))
            obtain ⟨A9, c9, rfl, -⟩ := hown9.sl
            have y18' : w9.cell? ⟨P, 18, none⟩ = some (.slice Ao mo co) := block_cell (hp9.box8 hgr9) 18
            have f18 := block_free (hp9.box8 hgr9) 18
            have HP10 := Lib.hid (hp9.push hgr9 hown9)
            have HL9 : Hid ((os ++ [(k : Int)]).length = mo + 1) := by show _ = _; rw [List.length_append, HMO.out]; rfl
            generalize os ++ [(k : Int)] = os9 at *
            generalize hm9e : os9.length = m9 at *
            have HM9 := Lib.hid hm9e
            clear hm9e
            clear hown9 hgr9 HAL HPQ hp9
            go_wp2_with fail
            go_roundw
            case rel => exact ⟨k + 1, _, os9, by omega, by go_num, HP10.out, .inr (by have := HM9.out; have := HL9.out; omega), by have := HM9.out; have := HL9.out; omega⟩
            case measure => simp [intOf]; omega
          | false =>
            have hk0 : k ≠ 0 := fun e => by have := HBQ.out e; cases this
            go_upto_region 10 with (fail)
            go_quiet (fail)
            go_wp2_with fail
            go_roundw
            case rel => exact ⟨k + 1, ov, os, by omega, by go_num, HPL.out.next (below_drewN (Below.refl wr.heap.size wr) _), .inr (by have := HO.out; omega), by omega⟩
            case measure => simp [intOf]; omega
        · have hkn : n3 = k := by omega
          subst hkn
          obtain ⟨Ao, co, rfl, hso⟩ := hpl.own.sl
          have hol : 0 < os.length := by have := HDC.out; omega
          have HDN := Lib.hid (hpl.done hol (by have := HDC.out; omega))
          have HBL : Hid (Below w.heap.size w (wr.setRow w.heap.size (PRow [.slice A1 n1 d1, .slice A2 n2 d2, .slice A3 n3 d3] [k0, k1, k2, k3, k4, k5, k6, k7, k8, k9, k10, k11, k12, k13] (.slice Ab nb cb) (.slice Ao os.length co) 0 pen))) := below_setRowD hpl.bel (Nat.le_refl _)
          have HBX : Hid (wr.heap[P]? = some (.cells #[.slice A1 n1 d1, .slice A2 n2 d2, .slice A3 n3 d3, k0, k1, k2, k3, k4, k5, k6, k7, k8, k9, k10, k11, k12, k13, .slice Ab nb cb, .slice Ao os.length co, .int .i64 0, .int .i64 pen] 38 (0, 0))) := hpl.box
          have HRS := Lib.hid hpl.res
          have HCO := Lib.hid hpl.con
          generalize os.length = mo at *
          clear hpl hso hol ho hok
          go_upto_region 12 with (fail)
          refine wp_region_lit ?_
          refine wpList_load_row rfl _ _ rfl P (by simp [Act.eval]) _ _ _ _ HBX.out Tryz.underlying38 rfl (by kernel_rfl) ?_
          have hone : ((#[.slice A1 n1 d1, .slice A2 n2 d2, .slice A3 n3 d3, k0, k1, k2, k3, k4, k5, k6, k7, k8, k9, k10, k11, k12, k13, .slice Ab nb cb, .slice Ao mo co, .int .i64 0, .int .i64 pen] : Array Value)).all (·.oneCell') = true := by
            have h14 := HCO.out.2
            rw [Array.all_eq_true]
            intro i hi
            have hmem : ((#[.slice A1 n1 d1, .slice A2 n2 d2, .slice A3 n3 d3, k0, k1, k2, k3, k4, k5, k6, k7, k8, k9, k10, k11, k12, k13, .slice Ab nb cb, .slice Ao mo co, .int .i64 0, .int .i64 pen] : Array Value))[i] ∈ (#[.slice A1 n1 d1, .slice A2 n2 d2, .slice A3 n3 d3, k0, k1, k2, k3, k4, k5, k6, k7, k8, k9, k10, k11, k12, k13, .slice Ab nb cb, .slice Ao mo co, .int .i64 0, .int .i64 pen] : Array Value).toList := by simp
            have hcs2 : ∀ u ∈ ([.slice A1 n1 d1, .slice A2 n2 d2, .slice A3 n3 d3] ++ ([k0, k1, k2, k3, k4, k5, k6, k7, k8, k9, k10, k11, k12, k13] ++ [(.slice Ab nb cb), .slice Ao mo co, .int .i64 0, .int .i64 pen]) : List Value), u.oneCell' = true := fun u hu => by
              rcases List.mem_append.1 hu with h | h
              · simp at h; rcases h with rfl | rfl | rfl <;> rfl
              · rcases List.mem_append.1 h with h | h
                · exact h14 u h
                · simp at h; rcases h with rfl | rfl | rfl | rfl <;> rfl
            exact hcs2 _ hmem
          refine wpList_store_row rfl _ _ _ rfl w.heap.size #[.slice A1 n1 d1, .slice A2 n2 d2, .slice A3 n3 d3, k0, k1, k2, k3, k4, k5, k6, k7, k8, k9, k10, k11, k12, k13, .slice Ab nb cb, .slice Ao mo co, .int .i64 0, .int .i64 pen] (by simp [Act.eval, Act.put]) (by simp [Act.eval, Act.put]) _ _ HRS.out (by kernel_rfl) rfl hone ?_
          have HX5 : Hid ((wr.setRow w.heap.size #[.slice A1 n1 d1, .slice A2 n2 d2, .slice A3 n3 d3, k0, k1, k2, k3, k4, k5, k6, k7, k8, k9, k10, k11, k12, k13, .slice Ab nb cb, .slice Ao mo co, .int .i64 0, .int .i64 pen]).heap[w.heap.size]? = _) := setRow_heap _ _ _ _ _ _ HRS.out
          change Hid (ProbIs (wr.setRow w.heap.size #[.slice A1 n1 d1, .slice A2 n2 d2, .slice A3 n3 d3, k0, k1, k2, k3, k4, k5, k6, k7, k8, k9, k10, k11, k12, k13, .slice Ab nb cb, .slice Ao mo co, .int .i64 0, .int .i64 pen]) (all_ (wr.setRow w.heap.size #[.slice A1 n1 d1, .slice A2 n2 d2, .slice A3 n3 d3, k0, k1, k2, k3, k4, k5, k6, k7, k8, k9, k10, k11, k12, k13, .slice Ab nb cb, .slice Ao mo co, .int .i64 0, .int .i64 pen])) _ _) at HDN
          change Hid (Below w.heap.size w (wr.setRow w.heap.size #[.slice A1 n1 d1, .slice A2 n2 d2, .slice A3 n3 d3, k0, k1, k2, k3, k4, k5, k6, k7, k8, k9, k10, k11, k12, k13, .slice Ab nb cb, .slice Ao mo co, .int .i64 0, .int .i64 pen])) at HBL
          generalize wr.setRow w.heap.size #[.slice A1 n1 d1, .slice A2 n2 d2, .slice A3 n3 d3, k0, k1, k2, k3, k4, k5, k6, k7, k8, k9, k10, k11, k12, k13, .slice Ab nb cb, .slice Ao mo co, .int .i64 0, .int .i64 pen] = wz at *
          clear hone HBX HRS
          go_wp2_with fail
          refine bodyPost_ret (v := .agg #[.slice A1 n1 d1, .slice A2 n2 d2, .slice A3 n3 d3, k0, k1, k2, k3, k4, k5, k6, k7, k8, k9, k10, k11, k12, k13, .slice Ab nb cb, .slice Ao mo co, .int .i64 0, .int .i64 pen]) (results_cell_row Tryz.results11 _ _ w.heap.size _ _ _ _ (by simp [Act.put]) HX5.out Tryz.underlying38 rfl (by kernel_rfl)) rfl ?_
          exact ⟨_, rfl, HDN.out, HBL.out⟩
end Go.Proofs.YtifconapjfdkcaaGreatDoor
/-
  What every card of this seat needs: a witness over laid tables, the arguments read again behind a call that changes nothing below the old heap, and the law's post out of 'returned true' and 'Below'.
  No condition.
-/
namespace Go.Proofs.YtifconapjfdkcaaGreatDoor
set_option linter.unusedSimpArgs false
set_option linter.unusedVariables false
open Go.ChangeShapes Go.WideShapes Go.ChangeAt Go.RowKit

theorem ownKnob_none : ownKnob Tryz.prog.godebug = none := by kernel_rfl
theorem laidOut_true : laidOutB Tryz.prog = true := by kernel_rfl

section
variable {H : Type} {enc : TypeId × Value → H} {P : Program}
theorem witness_row_shaped {C : Checked} {os : Os} {f : FuncId} {fn : Func} {s : OpenSpec} {conds : List PathCond} {apart : Bool} {laid : List (String × DataW Unit)} (modest : Bool) (w0 : World) (args : Array Value) (hos : w0.os = os)
    (hsh : (w0.forCall (fun _ _ => 0) ⟨#[], args, []⟩).Shaped C.prog)
    (hok : Input.okWideB C.prog (w0.forCall (fun _ _ => 0) ⟨#[], args, []⟩) f ⟨#[], args, []⟩ = true)
    (hrow : s.preRow enc C.prog fn conds apart laid (w0.forCall (fun _ _ => 0) ⟨#[], args, []⟩).memory args) :
    ∃ (w : World) (tape : Tape) (i : Input), w.os = os ∧ (w.forCall tape i).Shaped C.prog ∧ i.vars = [] ∧ Input.okWide C.prog (w.forCall tape i) .any w.heap.size f i ∧
      s.preRow enc C.prog fn conds apart laid (w.forCall tape i).memory i.args ∧ ({ modest := modest } : Assume).holds C.prog (lone (Frame.enter C.prog f i.args .normal) [] (w.forCall tape i)) :=
  ⟨w0, fun _ _ => 0, ⟨#[], args, []⟩, hos, hsh, (Input.okWide_of_okWideB (base := 0) hok).1, (Input.okWide_of_okWideB hok).2, hrow, by
    simp only [Assume.holds]
    exact ⟨by simp, by simp, fun _ => Modest.zero, by simp, by simp⟩⟩

theorem trodAll_below (hl : laidOutB P = true) {W W' : World} (hb : Below W.heap.size W W') : ∀ {ts : List TypeId} {vs : List Value} {ds : List (DataW H)} {ps : List MemPlace},
    (∀ t ∈ ts, P.readableRec t = true ∧ t < P.types.size) → DataW.TrodAll enc P W 0 (fun _ => true) true ts vs ds ps → (∀ x ∈ ps, x.block < W.heap.size) →
    DataW.TrodAll enc P W' 0 (fun b => decide (b < W.heap.size)) true ts vs ds ps
  | [], [], [], _, _, h, _ => h
  | t :: ts, v :: vs, d :: ds, ps, hr, h, hlt => by
    obtain ⟨p, q, h1, h2, rfl⟩ := h
    exact ⟨p, q, Below.trod hl (hr t (.head _)).1 (hr t (.head _)).2 h1 hb (fun x hx => hlt x (List.mem_append.2 (.inl hx))),
      trodAll_below hl hb (fun t ht => hr t (.tail _ ht)) h2 (fun x hx => hlt x (List.mem_append.2 (.inr hx))), rfl⟩
  | [], [], _ :: _, _, _, h, _ => h.elim
  | [], _ :: _, _, _, _, h, _ => h.elim
  | _ :: _, [], _, _, _, h, _ => h.elim
  | _ :: _, _ :: _, [], _, _, h, _ => h.elim

/-- A law's end: it has returned true, and nothing below the old heap has turned. -/
theorem law_post (hl : laidOutB P = true) {f : Func} {s : ChangeSpec} {apart : Bool} {W W' : World} {args : Array Value} {ds gs : List (DataW H)} {before : List MemPlace} {tb : TypeId}
    (hbool : P.underlying tb = some .bool) (hrt : f.resultTypes = #[tb]) (hv : s.vars = []) (hr : ∀ t ∈ f.params.toList, P.readableRec t = true ∧ t < P.types.size)
    (hfn : (s.fn H ds).results = [.lit (.bool true)] ∧ (s.fn H ds).args = ds ∧ (s.fn H ds).vars = [])
    (hW : DataW.Whole enc P f.params.toList s.vars apart W args.toList ds gs before) (hb : Below W.heap.size W W') :
    s.post enc P f apart true false false W args (.bool true) W' := by
  have hW' := hW
  obtain ⟨p, q, hA, hV, rfl, _, _⟩ := hW
  have hV' := hV
  rw [hv] at hV'
  obtain ⟨rfl, rfl⟩ := trodVars_none hV'
  have e0 : ds ++ [] = ds := List.append_nil _
  refine ⟨ds, [], p ++ [], [], p, [], hW', ?_, ?_, ?_, hb.frame _, fun h => by cases h⟩
  · rw [e0, hfn.1, hrt]
    exact trodAll_mk1 (shut_bool hbool _)
  · rw [e0, hfn.2.1]
    exact trodAll_below hl hb hr hA (fun x hx => hW'.lt x (by simpa using hx))
  · rw [e0, hfn.2.2, hv]
    rfl
end
end Go.Proofs.YtifconapjfdkcaaGreatDoor
/-
  What holds while pairingdata.People runs.
  No condition.
-/
namespace Go.Proofs.YtifconapjfdkcaaGreatDoor
set_option linter.unusedSimpArgs false
set_option linter.unusedVariables false
open Go.RowKit Go

/-- A person while it is put together in block g. -/
def PX (W : World) (g : Nat) (p : GPerson) (wx : World) : Prop :=
  ∃ cs, wx.heap[g]? = some (.cells cs.toArray 75 (0, 0)) ∧ PIs wx (fun b => W.heap.size ≤ b ∧ b < wx.heap.size ∧ b ≠ g) cs p ∧ W.heap.size ≤ g ∧ Below W.heap.size W wx
section
variable {W wx w' : World} {g : Nat} {p : GPerson}
theorem PX.next (h : PX W g p wx) (hb : Below wx.heap.size wx w') : PX W g p w' := by
  obtain ⟨cs, h1, h2, h3, h4⟩ := h
  have hl := (Array.getElem?_eq_some_iff.1 h1).1
  have hs := hb.size
  obtain ⟨A1, n1, c1, A2, n2, c2, rfl, hs1, hs2⟩ := h2
  exact ⟨_, (hb.block _ hl).trans h1, ⟨A1, n1, c1, A2, n2, c2, rfl, (hs1.keep fun b hb' => hb.block b hb'.2.1).more fun b hb' => by omega, (hs2.keep fun b hb' => hb.block b hb'.2.1).more fun b hb' => by omega⟩, h3, h4.trans (hb.mono h4.size)⟩
theorem PX.setBase (h : PX W g p wx) (b : ByteArray) : PX W g ⟨p.id, p.name, b, p.rank, p.sen, p.types, p.vacs⟩ (wx.setCell ⟨g, 2, none⟩ (.string b)) := by
  obtain ⟨cs, h1, h2, h3, h4⟩ := h
  obtain ⟨A1, n1, c1, A2, n2, c2, rfl, hs1, hs2⟩ := h2
  have hk : ∀ q, q ≠ g → (wx.setCell ⟨g, 2, none⟩ (.string b)).heap[q]? = wx.heap[q]? := fun q hq => heap_setCell_other _ _ _ _ hq
  exact ⟨_, heap_setCell_same _ _ _ _ _ _ h1, ⟨A1, n1, c1, A2, n2, c2, rfl, (hs1.keep fun b hb' => hk b hb'.2.2).more fun b hb' => by simp; omega, (hs2.keep fun b hb' => hk b hb'.2.2).more fun b hb' => by simp; omega⟩, h3, h4.setCell (show W.heap.size ≤ g from h3) _⟩
theorem PX.setTypes (h : PX W g p wx) {A : Option Addr} {n c : Nat} {l : List ByteArray} (hs : Sl Ty.str wx (fun b => W.heap.size ≤ b ∧ b < wx.heap.size ∧ b ≠ g) A n c l) : PX W g ⟨p.id, p.name, p.base, p.rank, p.sen, l, p.vacs⟩ (wx.setCell ⟨g, 5, none⟩ (.slice A n c)) := by
  obtain ⟨cs, h1, h2, h3, h4⟩ := h
  obtain ⟨A1, n1, c1, A2, n2, c2, rfl, hs1, hs2⟩ := h2
  have hk : ∀ q, q ≠ g → (wx.setCell ⟨g, 5, none⟩ (.slice A n c)).heap[q]? = wx.heap[q]? := fun q hq => heap_setCell_other _ _ _ _ hq
  exact ⟨_, heap_setCell_same _ _ _ _ _ _ h1, ⟨A, n, c, A2, n2, c2, rfl, (hs.keep fun b hb' => hk b hb'.2.2).more fun b hb' => by simp; omega, (hs2.keep fun b hb' => hk b hb'.2.2).more fun b hb' => by simp; omega⟩, h3, h4.setCell (show W.heap.size ≤ g from h3) _⟩
theorem PX.setVacs (h : PX W g p wx) {A : Option Addr} {n c : Nat} {l : List GShift} (hs : Sl Ty.shift wx (fun b => W.heap.size ≤ b ∧ b < wx.heap.size ∧ b ≠ g) A n c l) : PX W g ⟨p.id, p.name, p.base, p.rank, p.sen, p.types, l⟩ (wx.setCell ⟨g, 6, none⟩ (.slice A n c)) := by
  obtain ⟨cs, h1, h2, h3, h4⟩ := h
  obtain ⟨A1, n1, c1, A2, n2, c2, rfl, hs1, hs2⟩ := h2
  have hk : ∀ q, q ≠ g → (wx.setCell ⟨g, 6, none⟩ (.slice A n c)).heap[q]? = wx.heap[q]? := fun q hq => heap_setCell_other _ _ _ _ hq
  exact ⟨_, heap_setCell_same _ _ _ _ _ _ h1, ⟨A1, n1, c1, A, n, c, rfl, (hs1.keep fun b hb' => hk b hb'.2.2).more fun b hb' => by simp; omega, (hs.keep fun b hb' => hk b hb'.2.2).more fun b hb' => by simp; omega⟩, h3, h4.setCell (show W.heap.size ≤ g from h3) _⟩
end
def pers (l : List Int) (m : Nat) (sv : Nat → Int) : List GPerson := (List.range m).map fun j => dPerson (atL l (1 + j)) j (sv j)
theorem pers_len (l : List Int) (m : Nat) (sv : Nat → Int) : (pers l m sv).length = m := by simp [pers]
theorem pers_get (l : List Int) {m j : Nat} (sv : Nat → Int) (h : j < m) : (pers l m sv).getD j noPerson = dPerson (atL l (1 + j)) j (sv j) := by
  unfold pers
  rw [List.getD_eq_getElem?_getD, List.getElem?_map, List.getElem?_range h]
  rfl
def sen0 (l : List Int) (j : Nat) : Int := dSen0 (atL l (1 + j)) j
theorem pers_succ (l : List Int) (m : Nat) (sv : Nat → Int) : pers l (m + 1) sv = pers l m sv ++ [dPerson (atL l (1 + m)) m (sv m)] := by
  unfold pers
  rw [List.range_succ, List.map_append]
  rfl
theorem range_setG {α : Type} (n i : Nat) (g h : Nat → α) (x : α) (hx : h i = x) (hh : ∀ j, j < n → j ≠ i → h j = g j) : ((List.range n).map g).set i x = (List.range n).map h := by
  apply List.ext_getElem?
  intro j
  rw [List.getElem?_set, List.getElem?_map, List.getElem?_map]
  by_cases hj : j < n
  · rw [List.getElem?_range hj]
    by_cases hij : i = j
    · subst hij
      rw [if_pos rfl, if_pos (by simpa using hj)]
      simp [hx]
    · rw [if_neg hij]
      simp [hh j hj (fun e => hij e.symm)]
  · rw [List.getElem?_eq_none (l := List.range n) (by simpa using hj)]
    by_cases hij : i = j
    · subst hij
      rw [if_pos rfl, if_neg (by simpa using hj)]
      rfl
    · rw [if_neg hij]
      rfl
theorem pers_set (l : List Int) (m i : Nat) (sv sv' : Nat → Int) (s : Int) (hi : sv' i = s) (h : ∀ j, j < m → j ≠ i → sv' j = sv j) : (pers l m sv).set i (dPerson (atL l (1 + i)) i s) = pers l m sv' := by
  unfold pers
  exact range_setG m i (fun j => dPerson (atL l (1 + j)) j (sv j)) (fun j => dPerson (atL l (1 + j)) j (sv' j)) _ (by rw [hi]) (fun j hj hji => by rw [h j hj hji])
/-- The seniorities after i persons; while the i-th is compared with the first k. -/
def svO (l : List Int) (m i : Nat) (j : Nat) : Int := if j < i then (dSens l m).getD j 0 else sen0 l j
def cur (l : List Int) (m i k : Nat) : Int := if hasI ((dSens l m).take k) (sen0 l i) = true then 20 + (i : Int) else sen0 l i
def svI (l : List Int) (m i k : Nat) (j : Nat) : Int := if j < i then (dSens l m).getD j 0 else if j = i then cur l m i k else sen0 l j
theorem svI_zero (l : List Int) (m i : Nat) : svI l m i 0 = svO l m i := by
  funext j
  unfold svI svO cur
  simp only [List.take_zero]
  by_cases h : j < i
  · rw [if_pos h, if_pos h]
  · rw [if_neg h, if_neg h]
    by_cases e : j = i
    · rw [if_pos e, e]; rfl
    · rw [if_neg e]
theorem svI_all (l : List Int) {m i : Nat} (hi : i < m) : svI l m i i = svO l m (i + 1) := by
  have e1 : cur l m i i = (dSens l m).getD i 0 := by
    unfold cur
    rw [dSens_take l (by omega), dSens_get l hi]
    rfl
  funext j
  unfold svI svO
  by_cases h : j < i
  · rw [if_pos h, if_pos (by omega)]
  · rw [if_neg h]
    by_cases e : j = i
    · subst e
      rw [if_pos rfl, if_pos (by omega), e1]
    · rw [if_neg e, if_neg (by omega)]
theorem svO_zero (l : List Int) (m : Nat) : svO l m 0 = sen0 l := by
  funext j
  unfold svO
  rw [if_neg (by omega)]
theorem pers_all (l : List Int) (m : Nat) : pers l m (svO l m m) = dPeopleN l m := by
  unfold pers dPeopleN
  refine List.map_congr_left fun j hj => ?_
  rw [List.mem_range] at hj
  unfold svO
  rw [if_pos hj]
/-- One comparison. -/
theorem cur_hit (l : List Int) {m i k : Nat} (hi : i < m) (hk : k < i) (h : (dSens l m).getD k 0 = cur l m i k) : cur l m i (k + 1) = 20 + (i : Int) := by
  have hkl : k < (dSens l m).length := by rw [dSens_len]; omega
  have hr := dSen0_range (atL l (1 + i)) i
  unfold cur at h ⊢
  rw [List.take_succ_eq_append_getElem hkl, hasI_snoc]
  have e : (dSens l m)[k] = (dSens l m).getD k 0 := by rw [List.getD_eq_getElem?_getD, List.getElem?_eq_getElem hkl]; rfl
  rw [e]
  by_cases hh : hasI ((dSens l m).take k) (sen0 l i) = true
  · rw [hh]; rfl
  · rw [if_neg hh] at h
    rw [← h]
    simp
theorem cur_miss (l : List Int) {m i k : Nat} (hi : i < m) (hk : k < i) (h : (dSens l m).getD k 0 ≠ cur l m i k) : cur l m i (k + 1) = cur l m i k := by
  have hkl : k < (dSens l m).length := by rw [dSens_len]; omega
  unfold cur at h ⊢
  rw [List.take_succ_eq_append_getElem hkl, hasI_snoc]
  have e : (dSens l m)[k] = (dSens l m).getD k 0 := by rw [List.getD_eq_getElem?_getD, List.getElem?_eq_getElem hkl]; rfl
  rw [e]
  by_cases hh : hasI ((dSens l m).take k) (sen0 l i) = true
  · rw [hh]; rfl
  · rw [if_neg hh] at h
    have hne : decide (sen0 l i = (dSens l m).getD k 0) = false := decide_eq_false fun e => h e.symm
    rw [hne, Bool.or_false]
theorem svI_set (l : List Int) (m i k : Nat) (x : Int) (h : cur l m i (k + 1) = x) : (pers l m (svI l m i k)).set i (dPerson (atL l (1 + i)) i x) = pers l m (svI l m i (k + 1)) := by
  refine pers_set l m i _ _ x ?_ fun j hj hji => ?_
  · unfold svI
    rw [if_neg (by omega), if_pos rfl, h]
  · unfold svI
    rw [if_neg hji, if_neg hji]
theorem svI_same (l : List Int) (m i k : Nat) (h : cur l m i (k + 1) = cur l m i k) : svI l m i (k + 1) = svI l m i k := by
  funext j
  unfold svI
  rw [h]
theorem svI_at (l : List Int) (m i k : Nat) : svI l m i k i = cur l m i k := by unfold svI; rw [if_neg (by omega), if_pos rfl]
theorem svI_low (l : List Int) (m : Nat) {i k j : Nat} (h : j < i) : svI l m i k j = (dSens l m).getD j 0 := by unfold svI; rw [if_pos h]
/-- The parts of a person. -/
def pA (a : Int) (k : Nat) (s : Int) : GPerson := ⟨1 + 3 * k + a % 2, dName k, dCode 0, (k : Int) % 2, s, [b737S], []⟩
def pB (a : Int) (k : Nat) (s : Int) : GPerson := ⟨1 + 3 * k + a % 2, dName k, if a / 8 % 8 = 7 then dCode 1 else dCode 0, (k : Int) % 2, s, [b737S], []⟩
def pC (a : Int) (k : Nat) (s : Int) : GPerson := ⟨1 + 3 * k + a % 2, dName k, if a / 8 % 8 = 7 then dCode 1 else dCode 0, (k : Int) % 2, s, if a / 64 % 4 = 3 then [a320S, b737S] else [b737S], []⟩
def pD (a : Int) (k : Nat) (s : Int) : GPerson := ⟨1 + 3 * k + a % 2, dName k, if a / 8 % 8 = 7 then dCode 1 else dCode 0, (k : Int) % 2, s, dTypes a, []⟩
end Go.Proofs.YtifconapjfdkcaaGreatDoor
/-
  Contract of pairingdata.People: the persons of the plain function.
  Condition: the numbers read as a list.
-/
namespace Go.Proofs.YtifconapjfdkcaaGreatDoor
set_option linter.unusedSimpArgs false
set_option linter.unusedVariables false
open Go.RowKit

theorem below_setRowP {n : Nat} {w w' : World} {b : Nat} {cs : Array Value} (h : Below n w w') (hb : n ≤ b) : Below n w (w'.setRow b cs) :=
  ⟨h.os, h.tape, h.output, by simpa using h.size, fun q hq => (setRow_other _ _ _ _ (by omega)).trans (h.block q hq)⟩
theorem dName_cell (k : Nat) (hk : k < 4) (V : World) (g : Nat) (h : V.heap[g]? = some (.cells #[.string ⟨#[97, 110, 110, 97]⟩, .string ⟨#[98, 111]⟩, .string ⟨#[99, 108, 101, 111]⟩, .string ⟨#[100, 97, 110]⟩] 9 (0, 0))) : V.cell? ⟨g, k, none⟩ = some (.string (dName k)) := by
  have : k = 0 ∨ k = 1 ∨ k = 2 ∨ k = 3 := by omega
  rcases this with rfl | rfl | rfl | rfl
  all_goals exact block_cell h _
theorem dSen_cell (r : Nat) (hr : r < 4) (V : World) (g : Nat) (h : V.heap[g]? = some (.cells #[.int .i64 4, .int .i64 2, .int .i64 9, .int .i64 1] 3 (0, 0))) : V.cell? ⟨g, r, none⟩ = some (.int .i64 ([4, 2, 9, 1].getD r 0)) := by
  have : r = 0 ∨ r = 1 ∨ r = 2 ∨ r = 3 := by omega
  rcases this with rfl | rfl | rfl | rfl
  all_goals exact block_cell h _
theorem OwnS.freeP {α : Type} {t : Ty α} {el : TypeId} {w : World} {S : Nat → Prop} {base g n c : Nat} {xs : List α} (h : OwnS t el w S base (.slice (some ⟨g, 0, none⟩) n c) xs) (j : Nat) : w.frozen? ⟨g, j, none⟩ = false := by
  obtain ⟨cur, hb⟩ := h.block (k := g) rfl
  exact block_free hb j
theorem OwnS.sen_at {el : TypeId} {w : World} {S : Nat → Prop} {base g n c : Nat} {xs : List GPerson} (h : OwnS Ty.person el w S base (.slice (some ⟨g, 0, none⟩) n c) xs) {k : Nat} (hk : k < xs.length) : w.cell? ⟨g, k * 7 + 4, none⟩ = some (.int .i64 (xs.getD k noPerson).sen) := by
  obtain ⟨A, c', e, hs⟩ := h.sl
  injection e with e1 _ _
  subst e1
  obtain ⟨b, o, A1, n1, c1, A2, n2, c2, e, -, hat, -, -⟩ := hs.person_at hk
  injection e with e
  injection e with e1 e2
  subst e1 e2
  have := hat 4 _ rfl
  rw [Nat.zero_add] at this
  exact this
set_option maxRecDepth 100000 in
set_option maxHeartbeats 1600000 in
theorem people_any (l : List Int) (A : Option Addr) (n c : Nat) (w : World) (h : Sl (Ty.int .i64) w (all_ w) A n c l) :
    Calls Tryz.prog 12 #[.slice A n c] w (fun e w' => ∃ A' n' c', e = .returned (.slice A' n' c') ∧ Sl Ty.person w' (all_ w') A' n' c' (dPeople l) ∧ Below w.heap.size w w') := by
  have HS : Hid (∀ V, Below w.heap.size w V → Sl (Ty.int .i64) V (all_ V) A n c l) := fun V hV => h.next hV
  have HCN : Hid (((pCount l : Nat) : Int) = 2 + atL l 0 % 3) := by show _ = _; unfold pCount; have := (atL_range l 0).1; omega
  have HPC := Lib.hid (pCount_range l)
  have hz0 := (atL_range l 0).1
  have g1 : (atL l 0).tmod 3 = atL l 0 % 3 := Int.tmod_eq_emod_of_nonneg hz0
  have g2 : IntKind.i64.wrap (atL l 0 % 3) = atL l 0 % 3 := IntWalk.i64_in _ (by omega)
  have g3 : IntKind.i64.wrap (2 + atL l 0 % 3) = 2 + atL l 0 % 3 := IntWalk.i64_in _ (by omega)
  obtain ⟨m, hm⟩ : ∃ m, pCount l = m := ⟨_, rfl⟩
  have HM := Lib.hid hm
  rw [hm] at HCN HPC
  have hm4 := HPC.out.2
  clear h hz0 hm
  have hcn := HCN.out.symm
  rw [hcn] at g3
  go_enter Tryz.func12, Tryz.ntmps12
  go_wp2_with fail
  go_loopw [3, 4] (fun s3 s4 wr => ∃ (k : Nat), k ≤ m ∧ s4 = .int .i64 k ∧ Own Ty.person 75 wr w.heap.size s3 (pers l k (sen0 l)) ∧ Below w.heap.size w wr) (fun _ s4 _ => m - (intOf s4).toNat)
  case atStart => exact ⟨0, Nat.zero_le _, rfl, Own.nil, Below.refl _ _⟩
  case round =>
    obtain ⟨k, hk, rfl, hown, hbr⟩ := hrel
    have HA0 := Lib.hid (dataAt_any l A n c 0 wr (HS.out wr hbr) (by decide))
    have HOW := Lib.hid hown
    have HBR := Lib.hid hbr
    clear hown hbr
    by_cases hlt : k < m
    · have hlt' : (k : Int) < (m : Int) := by omega
      go_upto_region 5 with (go_at_call 32; refine HA0.out.mono ?_; rintro e w1 ⟨rfl, hb1⟩)
      have HB1 : Hid (Below w.heap.size w w1) := HBR.out.trans (hb1.mono HBR.out.size)
      have HO1 := Lib.hid (HOW.out.next hb1)
      have HA1 : Hid (Calls Tryz.prog 32 #[.slice A n c, .int .i64 (1 + (k : Int))] w1 (IntPost (atL l (1 + k)) w1)) := dataAt_any l A n c (1 + k) w1 (HS.out w1 HB1.out) (by omega)
      have HPS : Hid (pers l (k + 1) (sen0 l) = pers l k (sen0 l) ++ [dPerson (atL l (1 + k)) k (sen0 l k)]) := pers_succ l k (sen0 l)
      have HSN0 : Hid (sen0 l k = dSen0 (atL l (1 + k)) k) := rfl
      have hat := atL_range l (1 + k)
      have hg1 : IntKind.i64.wrap (1 + (k : Int)) = 1 + (k : Int) := IntWalk.i64_in _ (by omega)
      clear hb1 HA0 HBR HOW
      generalize atL l (1 + k) = a at *
      go_upto_region 6 with (go_at_call 32; refine HA1.out.mono ?_; rintro e W ⟨rfl, hb2⟩)
      have HBW : Hid (Below w.heap.size w W) := HB1.out.trans (hb2.mono HB1.out.size)
      have HOW := Lib.hid (HO1.out.next hb2)
      clear hb2 HB1 HO1 HA1 hg1
      obtain ⟨r, hr⟩ : ∃ r : Nat, r = (k + (a / 2 % 4).toNat) % 4 := ⟨_, rfl⟩
      have hr4 : r < 4 := by omega
      have HQ18 : Hid (((k : Int) + a / 2 % 4).tmod 4 = (r : Int)) := by
        show _ = _
        rw [Int.tmod_eq_emod_of_nonneg (by omega)]
        omega
      have HQ18' : Hid (IntKind.i64.wrap (r : Int) = (r : Int)) := IntWalk.i64_in _ (by omega)
      have HSNE : Hid (sen0 l k = [4, 2, 9, 1].getD r 0) := by
        show _ = _
        rw [HSN0.out, hr]
        rfl
      have HSN : Hid (∀ (V : World) (g : Nat), V.heap[g]? = some (.cells #[.int .i64 4, .int .i64 2, .int .i64 9, .int .i64 1] 3 (0, 0)) → V.cell? ⟨g, r, none⟩ = some (.int .i64 ([4, 2, 9, 1].getD r 0))) := fun V g h => dSen_cell r hr4 V g h
      rw [← HSNE.out] at HSN
      clear hr HSNE HSN0
      generalize sen0 l k = sn at *
      have HNM : Hid (∀ (V : World) (g : Nat), V.heap[g]? = some (.cells #[.string ⟨#[97, 110, 110, 97]⟩, .string ⟨#[98, 111]⟩, .string ⟨#[99, 108, 101, 111]⟩, .string ⟨#[100, 97, 110]⟩] 9 (0, 0)) → V.cell? ⟨g, k, none⟩ = some (.string (dName k))) := fun V g h => dName_cell k (by omega) V g h
      have HQ1 : Hid (IntKind.i64.wrap (3 * (k : Int)) = 3 * k) := IntWalk.i64_in _ (by omega)
      have HQ2 : Hid (IntKind.i64.wrap (1 + 3 * (k : Int)) = 1 + 3 * k) := IntWalk.i64_in _ (by omega)
      have HQ4 := Lib.hid (and1 a)
      have HQ5 : Hid (IntKind.i64.wrap (1 + 3 * (k : Int) + a % 2) = 1 + 3 * k + a % 2) := IntWalk.i64_in _ (by omega)
      have HQ11 := Lib.hid (and1 (k : Int))
      have HQ16 := Lib.hid (and_3 (a / 2))
      have HQ17 : Hid (IntKind.i64.wrap ((k : Int) + a / 2 % 4) = k + a / 2 % 4) := IntWalk.i64_in _ (by omega)
      refine wp_region_factsB 24 [21, 22, 23, 24, 25, 26, 27, 28, 29, 30, 31, 32, 33, 34, 35, 36, 37, 38, 39, 40, 41, 42, 43, 6] (fun i v x => (([(fun v x => v = .int .i64 k), (fun v x => v = .int .i64 (3 * k)), (fun v x => v = .int .i64 (1 + 3 * k)), (fun v x => v = .int .i64 a), (fun v x => v = .int .i64 (a % 2)), (fun v x => v = .int .i64 (1 + 3 * k + a % 2)), (fun v x => ∃ g, v = .slice (some ⟨g, 0, none⟩) 4 4 ∧ x.heap[g]? = some (.cells #[.string ⟨#[97, 110, 110, 97]⟩, .string ⟨#[98, 111]⟩, .string ⟨#[99, 108, 101, 111]⟩, .string ⟨#[100, 97, 110]⟩] 9 (0, 0))), (fun v x => v = .int .i64 k), (fun v x => ∃ g, v = .pointer (some ⟨g, k, none⟩) ∧ x.cell? ⟨g, k, none⟩ = some (.string (dName k))), (fun v x => v = .string (dName k)), (fun v x => v = .int .i64 k), (fun v x => v = .int .i64 ((k : Int) % 2)), (fun v x => ∃ g, v = .slice (some ⟨g, 0, none⟩) 4 4 ∧ x.heap[g]? = some (.cells #[.int .i64 4, .int .i64 2, .int .i64 9, .int .i64 1] 3 (0, 0))), (fun v x => v = .int .i64 k), (fun v x => v = .int .i64 a), (fun v x => v = .int .i64 (a / 2)), (fun v x => v = .int .i64 (a / 2 % 4)), (fun v x => v = .int .i64 (k + a / 2 % 4)), (fun v x => v = .int .i64 (r : Int)), (fun v x => ∃ g, v = .pointer (some ⟨g, r, none⟩) ∧ x.cell? ⟨g, r, none⟩ = some (.int .i64 sn)), (fun v x => v = .int .i64 sn), (fun v x => ∃ g, v = .slice (some ⟨g, 0, none⟩) 1 1 ∧ W.heap.size ≤ g ∧ x.heap[g]? = some (.cells #[.string ⟨#[98, 55, 51, 55]⟩] 9 (0, 0))), (fun v x => ∃ tb, v = .agg #[.int .i64 (1 + 3 * k + a % 2), .string (dName k), .string ⟨#[65, 65, 65]⟩, .int .i64 ((k : Int) % 2), .int .i64 sn, .slice (some ⟨tb, 0, none⟩) 1 1, .slice none 0 0] ∧ W.heap.size ≤ tb ∧ x.heap[tb]? = some (.cells #[.string ⟨#[98, 55, 51, 55]⟩] 9 (0, 0))), (fun v x => ∃ g, v = .pointer (some ⟨g, 0, none⟩) ∧ W.heap.size ≤ g ∧ x.heap[g]? = some (.cells #[.int .i64 0, .string ⟨#[]⟩, .string ⟨#[]⟩, .int .i64 0, .int .i64 0, .slice none 0 0, .slice none 0 0] 75 (0, 0)))] : List (Value → World → Prop)).getD i (fun _ _ => True)) v x) (by kernel_rfl) (by kernel_rfl) (by kernel_rfl) (by kernel_rfl) (by kernel_rfl) ?_ ?_ ?_
      · intro i v x x' h hx
        rcases Nat.lt_or_ge i 24 with hi | hi
        · have hi' : i = 0 ∨ i = 1 ∨ i = 2 ∨ i = 3 ∨ i = 4 ∨ i = 5 ∨ i = 6 ∨ i = 7 ∨ i = 8 ∨ i = 9 ∨ i = 10 ∨ i = 11 ∨ i = 12 ∨ i = 13 ∨ i = 14 ∨ i = 15 ∨ i = 16 ∨ i = 17 ∨ i = 18 ∨ i = 19 ∨ i = 20 ∨ i = 21 ∨ i = 22 ∨ i = 23 := by omega
          rcases hi' with rfl | rfl | rfl | rfl | rfl | rfl | rfl | rfl | rfl | rfl | rfl | rfl | rfl | rfl | rfl | rfl | rfl | rfl | rfl | rfl | rfl | rfl | rfl | rfl
          · exact h
          · exact h
          · exact h
          · exact h
          · exact h
          · exact h
          · exact (by obtain ⟨g, e, h1⟩ := h; exact ⟨g, e, (hx.block g (Array.getElem?_eq_some_iff.1 h1).1).trans h1⟩)
          · exact h
          · exact (by obtain ⟨g, e, h1⟩ := h; exact ⟨g, e, cell_kept h1 hx⟩)
          · exact h
          · exact h
          · exact h
          · exact (by obtain ⟨g, e, h1⟩ := h; exact ⟨g, e, (hx.block g (Array.getElem?_eq_some_iff.1 h1).1).trans h1⟩)
          · exact h
          · exact h
          · exact h
          · exact h
          · exact h
          · exact h
          · exact (by obtain ⟨g, e, h1⟩ := h; exact ⟨g, e, cell_kept h1 hx⟩)
          · exact h
          · exact (by obtain ⟨g, e, h1, h2⟩ := h; exact ⟨g, e, h1, (hx.block g (Array.getElem?_eq_some_iff.1 h2).1).trans h2⟩)
          · exact (by obtain ⟨g, e, h1, h2⟩ := h; exact ⟨g, e, h1, (hx.block g (Array.getElem?_eq_some_iff.1 h2).1).trans h2⟩)
          · exact (by obtain ⟨g, e, h1, h2⟩ := h; exact ⟨g, e, h1, (hx.block g (Array.getElem?_eq_some_iff.1 h2).1).trans h2⟩)
        · rw [List.getD_eq_getElem?_getD, List.getElem?_eq_none (by simpa using hi)]; trivial
      · intro q o' hq ho a' w' hb' hout hpre K hK
        have hq' : q = 0 ∨ q = 1 ∨ q = 2 ∨ q = 3 ∨ q = 4 ∨ q = 5 ∨ q = 6 ∨ q = 7 ∨ q = 8 ∨ q = 9 ∨ q = 10 ∨ q = 11 ∨ q = 12 ∨ q = 13 ∨ q = 14 ∨ q = 15 ∨ q = 16 ∨ q = 17 ∨ q = 18 ∨ q = 19 ∨ q = 20 ∨ q = 21 ∨ q = 22 ∨ q = 23 := by omega
        rcases hq' with rfl | rfl | rfl | rfl | rfl | rfl | rfl | rfl | rfl | rfl | rfl | rfl | rfl | rfl | rfl | rfl | rfl | rfl | rfl | rfl | rfl | rfl | rfl | rfl
        · obtain rfl := Option.some.inj ho
          have e4 : a'.tmps[4]? = some (.int .i64 k) := hout 4 (by decide)
          go_simp
          exact hK (.int .i64 k) w' rfl (Below.refl _ _)
        · obtain rfl := Option.some.inj ho
          have p0 : a'.tmps.getD 21 undef = .int .i64 k := hpre ⟨0, .data⟩ (by simp) 21 rfl
          simp only [Array.getD_eq_getD_getElem?] at p0
          have q1 := HQ1.out
          go_simp
          exact hK (.int .i64 (3 * k)) w' rfl (Below.refl _ _)
        · obtain rfl := Option.some.inj ho
          have p1 : a'.tmps.getD 22 undef = .int .i64 (3 * k) := hpre ⟨1, .data⟩ (by simp) 22 rfl
          simp only [Array.getD_eq_getD_getElem?] at p1
          have q1 := HQ2.out
          go_simp
          exact hK (.int .i64 (1 + 3 * k)) w' rfl (Below.refl _ _)
        · obtain rfl := Option.some.inj ho
          have e5 : a'.tmps[5]? = some (.int .i64 a) := hout 5 (by decide)
          go_simp
          exact hK (.int .i64 a) w' rfl (Below.refl _ _)
        · obtain rfl := Option.some.inj ho
          have p3 : a'.tmps.getD 24 undef = .int .i64 a := hpre ⟨3, .data⟩ (by simp) 24 rfl
          simp only [Array.getD_eq_getD_getElem?] at p3
          have q1 := HQ4.out
          go_simp
          exact hK (.int .i64 (a % 2)) w' rfl (Below.refl _ _)
        · obtain rfl := Option.some.inj ho
          have p2 : a'.tmps.getD 23 undef = .int .i64 (1 + 3 * k) := hpre ⟨2, .data⟩ (by simp) 23 rfl
          simp only [Array.getD_eq_getD_getElem?] at p2
          have p4 : a'.tmps.getD 25 undef = .int .i64 (a % 2) := hpre ⟨4, .data⟩ (by simp) 25 rfl
          simp only [Array.getD_eq_getD_getElem?] at p4
          have q1 := HQ5.out
          go_simp
          exact hK (.int .i64 (1 + 3 * k + a % 2)) w' rfl (Below.refl _ _)
        · obtain rfl := Option.some.inj ho
          go_simp
          exact hK _ _ ⟨w'.heap.size, rfl, heap_alloc_new _ _⟩ ((Below.refl _ _).alloc (Nat.le_refl _) _)
        · obtain rfl := Option.some.inj ho
          have e4 : a'.tmps[4]? = some (.int .i64 k) := hout 4 (by decide)
          go_simp
          exact hK (.int .i64 k) w' rfl (Below.refl _ _)
        · obtain rfl := Option.some.inj ho
          have p6 := hpre ⟨6, .data⟩ (by simp) 27 rfl
          simp only [Array.getD_eq_getD_getElem?] at p6
          have p7 : a'.tmps.getD 28 undef = .int .i64 k := hpre ⟨7, .data⟩ (by simp) 28 rfl
          simp only [Array.getD_eq_getD_getElem?] at p7
          obtain ⟨g, p6, hg⟩ := p6
          have q3 : (0 : Int) ≤ (k : Int) := by omega
          have q4 : (k : Int) < 4 := by omega
          have hc := HNM.out w' g hg
          go_simp
          exact hK _ _ ⟨g, rfl, hc⟩ (Below.refl _ _)
        · obtain rfl := Option.some.inj ho
          have p8 := hpre ⟨8, .data⟩ (by simp) 29 rfl
          simp only [Array.getD_eq_getD_getElem?] at p8
          obtain ⟨g, p8, hc⟩ := p8
          go_simp
          exact hK (.string (dName k)) w' rfl (Below.refl _ _)
        · obtain rfl := Option.some.inj ho
          have e4 : a'.tmps[4]? = some (.int .i64 k) := hout 4 (by decide)
          go_simp
          exact hK (.int .i64 k) w' rfl (Below.refl _ _)
        · obtain rfl := Option.some.inj ho
          have p10 : a'.tmps.getD 31 undef = .int .i64 k := hpre ⟨10, .data⟩ (by simp) 31 rfl
          simp only [Array.getD_eq_getD_getElem?] at p10
          have q1 := HQ11.out
          go_simp
          exact hK (.int .i64 ((k : Int) % 2)) w' rfl (Below.refl _ _)
        · obtain rfl := Option.some.inj ho
          go_simp
          exact hK _ _ ⟨w'.heap.size, rfl, heap_alloc_new _ _⟩ ((Below.refl _ _).alloc (Nat.le_refl _) _)
        · obtain rfl := Option.some.inj ho
          have e4 : a'.tmps[4]? = some (.int .i64 k) := hout 4 (by decide)
          go_simp
          exact hK (.int .i64 k) w' rfl (Below.refl _ _)
        · obtain rfl := Option.some.inj ho
          have e5 : a'.tmps[5]? = some (.int .i64 a) := hout 5 (by decide)
          go_simp
          exact hK (.int .i64 a) w' rfl (Below.refl _ _)
        · obtain rfl := Option.some.inj ho
          have p14 : a'.tmps.getD 35 undef = .int .i64 a := hpre ⟨14, .data⟩ (by simp) 35 rfl
          simp only [Array.getD_eq_getD_getElem?] at p14
          go_simp
          exact hK _ _ rfl (Below.refl _ _)
        · obtain rfl := Option.some.inj ho
          have p15 : a'.tmps.getD 36 undef = .int .i64 (a / 2) := hpre ⟨15, .data⟩ (by simp) 36 rfl
          simp only [Array.getD_eq_getD_getElem?] at p15
          have q1 := HQ16.out
          go_simp
          exact hK (.int .i64 (a / 2 % 4)) w' rfl (Below.refl _ _)
        · obtain rfl := Option.some.inj ho
          have p13 : a'.tmps.getD 34 undef = .int .i64 k := hpre ⟨13, .data⟩ (by simp) 34 rfl
          simp only [Array.getD_eq_getD_getElem?] at p13
          have p16 : a'.tmps.getD 37 undef = .int .i64 (a / 2 % 4) := hpre ⟨16, .data⟩ (by simp) 37 rfl
          simp only [Array.getD_eq_getD_getElem?] at p16
          have q1 := HQ17.out
          go_simp
          exact hK (.int .i64 (k + a / 2 % 4)) w' rfl (Below.refl _ _)
        · obtain rfl := Option.some.inj ho
          have p17 : a'.tmps.getD 38 undef = .int .i64 (k + a / 2 % 4) := hpre ⟨17, .data⟩ (by simp) 38 rfl
          simp only [Array.getD_eq_getD_getElem?] at p17
          have q1 := HQ18.out
          have q2 := HQ18'.out
          go_simp
          exact hK (.int .i64 (r : Int)) w' rfl (Below.refl _ _)
        · obtain rfl := Option.some.inj ho
          have p12 := hpre ⟨12, .data⟩ (by simp) 33 rfl
          simp only [Array.getD_eq_getD_getElem?] at p12
          have p18 : a'.tmps.getD 39 undef = .int .i64 (r : Int) := hpre ⟨18, .data⟩ (by simp) 39 rfl
          simp only [Array.getD_eq_getD_getElem?] at p18
          obtain ⟨g, p12, hg⟩ := p12
          have q3 : (0 : Int) ≤ (r : Int) := by omega
          have q4 : (r : Int) < 4 := by omega
          have hc := HSN.out w' g hg
          go_simp
          exact hK _ _ ⟨g, rfl, hc⟩ (Below.refl _ _)
        · obtain rfl := Option.some.inj ho
          have p19 := hpre ⟨19, .data⟩ (by simp) 40 rfl
          simp only [Array.getD_eq_getD_getElem?] at p19
          obtain ⟨g, p19, hc⟩ := p19
          go_simp
          exact hK (.int .i64 sn) w' rfl (Below.refl _ _)
        · obtain rfl := Option.some.inj ho
          go_simp
          exact hK _ _ ⟨w'.heap.size, rfl, hb'.size, heap_alloc_new _ _⟩ ((Below.refl _ _).alloc (Nat.le_refl _) _)
        · obtain rfl := Option.some.inj ho
          have p5 : a'.tmps.getD 26 undef = .int .i64 (1 + 3 * k + a % 2) := hpre ⟨5, .data⟩ (by simp) 26 rfl
          simp only [Array.getD_eq_getD_getElem?] at p5
          have p9 : a'.tmps.getD 30 undef = .string (dName k) := hpre ⟨9, .data⟩ (by simp) 30 rfl
          simp only [Array.getD_eq_getD_getElem?] at p9
          have p11 : a'.tmps.getD 32 undef = .int .i64 ((k : Int) % 2) := hpre ⟨11, .data⟩ (by simp) 32 rfl
          simp only [Array.getD_eq_getD_getElem?] at p11
          have p20 : a'.tmps.getD 41 undef = .int .i64 sn := hpre ⟨20, .data⟩ (by simp) 41 rfl
          simp only [Array.getD_eq_getD_getElem?] at p20
          have p21 := hpre ⟨21, .data⟩ (by simp) 42 rfl
          simp only [Array.getD_eq_getD_getElem?] at p21
          obtain ⟨tb, p21, ht1, ht2⟩ := p21
          go_simp
          exact hK _ _ ⟨tb, rfl, ht1, ht2⟩ (Below.refl _ _)
        · obtain rfl := Option.some.inj ho
          go_simp
          exact hK _ _ ⟨w'.heap.size, rfl, hb'.size, heap_alloc_new _ _⟩ ((Below.refl _ _).alloc (Nat.le_refl _) _)
      · intro us w7 hb' hfacts
        obtain ⟨g, h23, hg, hgc⟩ := hfacts 23 (by decide)
        obtain ⟨tb, h22, htb, htc⟩ := hfacts 22 (by decide)
        clear hfacts
        simp only [putL, Act.put, List.setIfInBounds_toArray, List.set_cons_zero, List.set_cons_succ, Nat.zero_add, Nat.reduceAdd]
        generalize us 23 = x23 at *
        generalize us 22 = x22 at *
        subst h23
        subst h22
        simp only [List.drop_succ_cons, List.drop_zero]
        refine wpList_store_row rfl _ _ _ rfl g #[.int .i64 (1 + 3 * k + a % 2), .string (dName k), .string ⟨#[65, 65, 65]⟩, .int .i64 ((k : Int) % 2), .int .i64 sn, .slice (some ⟨tb, 0, none⟩) 1 1, .slice none 0 0] (by simp [Act.eval, Act.put]) (by simp [Act.eval, Act.put]) _ _ hgc (by kernel_rfl) rfl (by simp [Value.oneCell']) ?_
        have hne : tb ≠ g := fun e => by rw [e, hgc] at htc; cases htc
        have HPX : Hid (PX W g (pA a k sn) (w7.setRow g #[.int .i64 (1 + 3 * k + a % 2), .string (dName k), .string ⟨#[65, 65, 65]⟩, .int .i64 ((k : Int) % 2), .int .i64 sn, .slice (some ⟨tb, 0, none⟩) 1 1, .slice none 0 0])) := by
          refine ⟨[.int .i64 (1 + 3 * k + a % 2), .string (dName k), .string ⟨#[65, 65, 65]⟩, .int .i64 ((k : Int) % 2), .int .i64 sn, .slice (some ⟨tb, 0, none⟩) 1 1, .slice none 0 0], setRow_heap _ _ _ _ _ _ hgc, ⟨_, _, _, _, _, _, rfl, ?_, Sl.nil0⟩, hg, below_setRowP hb' hg⟩
          refine Sl.block (xs := [b737S]) ((setRow_other _ _ _ _ hne).trans htc) ⟨htb, ?_, hne⟩ (by decide) fun i x hi => ?_
          · have := (Array.getElem?_eq_some_iff.1 htc).1
            simpa using this
          · have : i = 0 := by
              have := (List.getElem?_eq_some_iff.1 hi).1
              have : i < 1 := this
              omega
            subst this
            injection hi with hi
            subst hi
            rfl
        generalize w7.setRow g #[.int .i64 (1 + 3 * k + a % 2), .string (dName k), .string ⟨#[65, 65, 65]⟩, .int .i64 ((k : Int) % 2), .int .i64 sn, .slice (some ⟨tb, 0, none⟩) 1 1, .slice none 0 0] = w8 at *
        clear hb' hgc htc htb hne
        have g8 : bits .and .i64 (a / 8) 7 = a / 8 % 8 := and_7 _
        go_upto_if 47 with (fail)
        go_cut [] (fun wx => PX W g (pB a k sn) wx)
        case first =>
          by_cases hc : a / 8 % 8 = 7
          · obtain ⟨cs, h1, h2, -, -⟩ := HPX.out
            obtain ⟨A1, n1, c1, A2, n2, c2, rfl, -, -⟩ := h2
            have y2 := block_cell h1 2
            have f2 := block_free h1 2
            have HZ := Lib.hid (HPX.out.setBase ⟨#[66, 66, 66]⟩)
            have HE : Hid (pB a k sn = ⟨(pA a k sn).id, (pA a k sn).name, ⟨#[66, 66, 66]⟩, (pA a k sn).rank, (pA a k sn).sen, (pA a k sn).types, (pA a k sn).vacs⟩) := by show _ = _; unfold pB; rw [if_pos hc]; rfl
            clear h1
            go_wp2_with fail
            go_meet
            rw [HE.out]
            exact HZ.out
          · have hc' : (a / 8 % 8 == 7) = false := by simpa using hc
            have e : pB a k sn = pA a k sn := by unfold pB pA; rw [if_neg hc]
            rw [← e] at HPX
            clear hc e
            go_wp2_with fail
            go_meet
            exact HPX.out
        case rest =>
        have HPX := Lib.hid hcut
        clear hcut
        have g8 : bits .and .i64 (a / 64) 3 = a / 64 % 4 := and_3 _
        go_upto_if 52 with (fail)
        go_cut [] (fun wx => PX W g (pC a k sn) wx)
        case first =>
          by_cases hc : a / 64 % 4 = 3
          · have hpx := HPX.out.next ((Below.refl wc.heap.size wc).alloc (Nat.le_refl _) (.cells #[.string ⟨#[97, 51, 50, 48]⟩, .string ⟨#[98, 55, 51, 55]⟩] 9))
            have hgw : g < wc.heap.size := by
              obtain ⟨cs, h1, -⟩ := HPX.out
              exact (Array.getElem?_eq_some_iff.1 h1).1
            have hWw : W.heap.size ≤ wc.heap.size := by
              obtain ⟨cs, h1, h2, h3, h4⟩ := HPX.out
              exact h4.size
            have hz1 : (wc.alloc (.cells #[.string ⟨#[97, 51, 50, 48]⟩, .string ⟨#[98, 55, 51, 55]⟩] 9)).heap.size = wc.heap.size + 1 := by simp
            have hbl := Sl.block (t := Ty.str) (S := fun b => W.heap.size ≤ b ∧ b < (wc.alloc (.cells #[.string ⟨#[97, 51, 50, 48]⟩, .string ⟨#[98, 55, 51, 55]⟩] 9)).heap.size ∧ b ≠ g) (xs := [a320S, b737S]) (heap_alloc_new wc (.cells #[.string ⟨#[97, 51, 50, 48]⟩, .string ⟨#[98, 55, 51, 55]⟩] 9)) ⟨hWw, by omega, by omega⟩ (by decide) fun i x hi => by
              have : i = 0 ∨ i = 1 := by
                have := (List.getElem?_eq_some_iff.1 hi).1
                have : i < 2 := this
                omega
              rcases this with rfl | rfl
              all_goals
                injection hi with hi
                subst hi
                rfl
            have hz9 : PX W g ⟨(pB a k sn).id, (pB a k sn).name, (pB a k sn).base, (pB a k sn).rank, (pB a k sn).sen, [a320S, b737S], (pB a k sn).vacs⟩ ((wc.alloc (.cells #[.string ⟨#[97, 51, 50, 48]⟩, .string ⟨#[98, 55, 51, 55]⟩] 9)).setCell ⟨g, 5, none⟩ (.slice (some ⟨wc.heap.size, 0, none⟩) 2 2)) := hpx.setTypes hbl
            rw [World.setCell_alloc_past _ g 5 _ hgw] at hz9
            obtain ⟨cs, h1, h2, -, -⟩ := hpx
            obtain ⟨A1, n1, c1, A2, n2, c2, rfl, -, -⟩ := h2
            have y5 : (wc.alloc (.cells #[.string ⟨#[97, 51, 50, 48]⟩, .string ⟨#[98, 55, 51, 55]⟩] 9)).cell? ⟨g, 5, none⟩ = some (.slice A1 n1 c1) := block_cell h1 5
            have f5 := block_free h1 5
            have HZ := Lib.hid hz9
            have HE : Hid (pC a k sn = ⟨(pB a k sn).id, (pB a k sn).name, (pB a k sn).base, (pB a k sn).rank, (pB a k sn).sen, [a320S, b737S], (pB a k sn).vacs⟩) := by show _ = _; unfold pC; rw [if_pos hc]; rfl
            clear h1 hbl hz9 hWw hz1
            go_wp2_with fail
            go_meet
            rw [HE.out]
            exact HZ.out
          · have hc' : (a / 64 % 4 == 3) = false := by simpa using hc
            have e : pC a k sn = pB a k sn := by unfold pC pB; rw [if_neg hc]
            rw [← e] at HPX
            clear hc e
            go_wp2_with fail
            go_meet
            exact HPX.out
        case rest =>
        have HPX := Lib.hid hcut
        clear hcut
        have g8 : bits .and .i64 (a / 256) 7 = a / 256 % 8 := and_7 _
        go_upto_if 58 with (fail)
        go_cut [] (fun wx => PX W g (pD a k sn) wx)
        case first =>
          by_cases hc : a / 256 % 8 = 7
          · have hz9 : PX W g ⟨(pC a k sn).id, (pC a k sn).name, (pC a k sn).base, (pC a k sn).rank, (pC a k sn).sen, [], (pC a k sn).vacs⟩ (wc.setCell ⟨g, 5, none⟩ (.slice none 0 0)) := HPX.out.setTypes Sl.nil0
            obtain ⟨cs, h1, h2, -, -⟩ := HPX.out
            obtain ⟨A1, n1, c1, A2, n2, c2, rfl, -, -⟩ := h2
            have y5 := block_cell h1 5
            have f5 := block_free h1 5
            have HZ := Lib.hid hz9
            have HE : Hid (pD a k sn = ⟨(pC a k sn).id, (pC a k sn).name, (pC a k sn).base, (pC a k sn).rank, (pC a k sn).sen, [], (pC a k sn).vacs⟩) := by show _ = _; unfold pD dTypes; rw [if_pos hc]; rfl
            clear h1 hz9
            go_wp2_with fail
            go_meet
            rw [HE.out]
            exact HZ.out
          · have hc' : (a / 256 % 8 == 7) = false := by simpa using hc
            have e : pD a k sn = pC a k sn := by unfold pD pC dTypes; rw [if_neg hc]
            rw [← e] at HPX
            clear hc e
            go_wp2_with fail
            go_meet
            exact HPX.out
        case rest =>
        have HPX := Lib.hid hcut
        clear hcut
        have g8 : bits .and .i64 (a / 2048) 3 = a / 2048 % 4 := and_3 _
        go_upto_if 63 with (fail)
        go_cut [] (fun wx => PX W g (dPerson a k sn) wx)
        case first =>
          by_cases hc : a / 2048 % 4 = 3
          · have hpx := HPX.out.next ((Below.refl wc.heap.size wc).alloc (Nat.le_refl _) (.cells #[.int .i64 (12960360 + 60 * (a % 16)), .int .i64 (12960360 + 60 * (a % 16) + 300)] 57))
            have hgw : g < wc.heap.size := by
              obtain ⟨cs, h1, -⟩ := HPX.out
              exact (Array.getElem?_eq_some_iff.1 h1).1
            have hWw : W.heap.size ≤ wc.heap.size := by
              obtain ⟨cs, h1, h2, h3, h4⟩ := HPX.out
              exact h4.size
            have hz1 : (wc.alloc (.cells #[.int .i64 (12960360 + 60 * (a % 16)), .int .i64 (12960360 + 60 * (a % 16) + 300)] 57)).heap.size = wc.heap.size + 1 := by simp
            have hbl := Sl.block (t := Ty.shift) (S := fun b => W.heap.size ≤ b ∧ b < (wc.alloc (.cells #[.int .i64 (12960360 + 60 * (a % 16)), .int .i64 (12960360 + 60 * (a % 16) + 300)] 57)).heap.size ∧ b ≠ g) (xs := [(⟨12960360 + 60 * (a % 16), 12960360 + 60 * (a % 16) + 300⟩ : GShift)]) (heap_alloc_new wc (.cells #[.int .i64 (12960360 + 60 * (a % 16)), .int .i64 (12960360 + 60 * (a % 16) + 300)] 57)) ⟨hWw, by omega, by omega⟩ (show 1 ≤ maxLen by decide) fun i x hi => by
              have : i = 0 := by
                have := (List.getElem?_eq_some_iff.1 hi).1
                have : i < 1 := this
                omega
              subst this
              injection hi with hi
              subst hi
              rfl
            have hz9 : PX W g ⟨(pD a k sn).id, (pD a k sn).name, (pD a k sn).base, (pD a k sn).rank, (pD a k sn).sen, (pD a k sn).types, [⟨12960360 + 60 * (a % 16), 12960360 + 60 * (a % 16) + 300⟩]⟩ ((wc.alloc (.cells #[.int .i64 (12960360 + 60 * (a % 16)), .int .i64 (12960360 + 60 * (a % 16) + 300)] 57)).setCell ⟨g, 6, none⟩ (.slice (some ⟨wc.heap.size, 0, none⟩) 1 1)) := hpx.setVacs hbl
            rw [World.setCell_alloc_past _ g 6 _ hgw] at hz9
            obtain ⟨cs, h1, h2, -, -⟩ := hpx
            obtain ⟨A1, n1, c1, A2, n2, c2, rfl, -, -⟩ := h2
            have y6 : (wc.alloc (.cells #[.int .i64 (12960360 + 60 * (a % 16)), .int .i64 (12960360 + 60 * (a % 16) + 300)] 57)).cell? ⟨g, 6, none⟩ = some (.slice A2 n2 c2) := block_cell h1 6
            have f6 := block_free h1 6
            have HZ := Lib.hid hz9
            have HE : Hid (dPerson a k sn = ⟨(pD a k sn).id, (pD a k sn).name, (pD a k sn).base, (pD a k sn).rank, (pD a k sn).sen, (pD a k sn).types, [⟨12960360 + 60 * (a % 16), 12960360 + 60 * (a % 16) + 300⟩]⟩) := by show _ = _; unfold dPerson dVacs; rw [if_pos hc]; rfl
            have v0 := and_15 a
            have v1 : IntKind.i64.wrap (60 * (a % 16)) = 60 * (a % 16) := IntWalk.i64_in _ (by omega)
            have v2 : IntKind.i64.wrap (12960360 + 60 * (a % 16)) = 12960360 + 60 * (a % 16) := IntWalk.i64_in _ (by omega)
            have v3 : IntKind.i64.wrap (12960360 + 60 * (a % 16) + 300) = 12960360 + 60 * (a % 16) + 300 := IntWalk.i64_in _ (by omega)
            clear h1 hbl hz9 hWw hz1
            go_wp2_with fail
            go_meet
            rw [HE.out]
            exact HZ.out
          · have hc' : (a / 2048 % 4 == 3) = false := by simpa using hc
            have e : dPerson a k sn = pD a k sn := by unfold dPerson pD dVacs; rw [if_neg hc]
            rw [← e] at HPX
            clear hc e
            go_wp2_with fail
            go_meet
            exact HPX.out
        case rest =>
        have HPX := Lib.hid hcut
        clear hcut
        obtain ⟨cs, h1, ⟨A1, n1, c1, A2, n2, c2, rfl, hs1, hs2⟩, h3, h4⟩ := HPX.out
        have hgl := (Array.getElem?_eq_some_iff.1 h1).1
        have y0 := block_cell h1 0; have y1 := block_cell h1 1; have y2 := block_cell h1 2; have y3 := block_cell h1 3; have y4 := block_cell h1 4; have y5 := block_cell h1 5; have y6 := block_cell h1 6
        have HO9 := Lib.hid (HOW.out.next h4)
        have hbw9 := HBW.out.trans (h4.mono HBW.out.size)
        have HB9 := Lib.hid hbw9
        have hsz9 := hbw9.size
        have HLE : Hid ((pers l k (sen0 l)).length = k) := pers_len l k _
        have HWS : Hid (∀ q, u3.ownBlock = some q → q < W.heap.size) := fun q hq => (HOW.out.lt q hq).2
        have HSL : Hid (Sl Ty.str wc (fun b => W.heap.size ≤ b ∧ b < wc.heap.size ∧ b ≠ g) A1 n1 c1 (dPerson a k sn).types ∧ Sl Ty.shift wc (fun b => W.heap.size ≤ b ∧ b < wc.heap.size ∧ b ≠ g) A2 n2 c2 (dPerson a k sn).vacs) := ⟨hs1, hs2⟩
        have hWl := h4.size
        have hwW := HBW.out.size
        generalize dPerson a k sn = pp at *
        have HREP : Hid (Ty.person.rep (wc.alloc (.cells #[.int .i64 pp.id, .string pp.name, .string pp.base, .int .i64 pp.rank, .int .i64 pp.sen, .slice A1 n1 c1, .slice A2 n2 c2] 75)) (fun b => W.heap.size ≤ b ∧ b < wc.heap.size ∧ b ≠ g) [.int .i64 pp.id, .string pp.name, .string pp.base, .int .i64 pp.rank, .int .i64 pp.sen, .slice A1 n1 c1, .slice A2 n2 c2] pp ∧ At (wc.alloc (.cells #[.int .i64 pp.id, .string pp.name, .string pp.base, .int .i64 pp.rank, .int .i64 pp.sen, .slice A1 n1 c1, .slice A2 n2 c2] 75)) wc.heap.size 0 [.int .i64 pp.id, .string pp.name, .string pp.base, .int .i64 pp.rank, .int .i64 pp.sen, .slice A1 n1 c1, .slice A2 n2 c2]) :=
          ⟨⟨A1, n1, c1, A2, n2, c2, rfl, HSL.out.1.keep fun b hb => Below.heap_alloc _ _ _ hb.2.1, HSL.out.2.keep fun b hb => Below.heap_alloc _ _ _ hb.2.1⟩, at_ofBlock (heap_alloc_new _ _)⟩
        have HSEP : Hid (∀ b, (W.heap.size ≤ b ∧ b < wc.heap.size ∧ b ≠ g) → w.heap.size ≤ b ∧ b < (wc.alloc (.cells #[.int .i64 pp.id, .string pp.name, .string pp.base, .int .i64 pp.rank, .int .i64 pp.sen, .slice A1 n1 c1, .slice A2 n2 c2] 75)).heap.size ∧ some b ≠ u3.ownBlock) := fun b hb => by
          refine ⟨by omega, by simp; omega, fun e => ?_⟩
          have := HWS.out b e.symm
          omega
        have HOA : Hid (Own Ty.person 75 (wc.alloc (.cells #[.int .i64 pp.id, .string pp.name, .string pp.base, .int .i64 pp.rank, .int .i64 pp.sen, .slice A1 n1 c1, .slice A2 n2 c2] 75)) w.heap.size u3 (pers l k (sen0 l))) := HO9.out.alloc _
        clear h1 hs1 hs2 h3 h4 HPX hbw9 HOW hgl
        go_wp2_with (at_builtin; refine wpList_push (t := Ty.person) rfl _ _ _ rfl 104 elem_person rfl HOA.out wc.heap.size pp _ rfl ⟨_, HREP.out⟩ HSEP.out ?c1 (by decide) ?c2 ?_)
        case c1 => rw [HLE.out]; omega
        case c2 => simp; omega
        intro v' w9 hown9 hgr9
        rw [← HPS.out] at hown9
        have HON := Lib.hid hown9
        have HBN : Hid (Below w.heap.size w w9) := (HB9.out.alloc hsz9 _).grown hgr9 (by simp; omega) fun j hj => (HO9.out.lt j hj).1
        clear hown9 hgr9 y0 y1 y2 y3 y4 y5 y6 HO9 HB9 HLE HWS HSL HREP HSEP HOA
        go_wp2_with fail
        go_roundw
        case rel => exact ⟨k + 1, by omega, by go_num, HON.out, HBN.out⟩
        case measure => simp [intOf]; omega
    · have hkm : k = m := by omega
      subst hkm
      have hge : ¬ (k : Int) < (k : Int) := by omega
      go_wp2_with (go_at_call 32; refine HA0.out.mono ?_; rintro e w1 ⟨rfl, hb1⟩)
      have hown := HOW.out.next hb1
      have HBW : Hid (Below w.heap.size w w1) := HBR.out.trans (hb1.mono HBR.out.size)
      obtain ⟨g, cp, cur9, e9, hg9, hl9, -⟩ := OwnS.ownAt (S := fun b => w.heap.size ≤ b ∧ b < w1.heap.size ∧ some b ≠ u3.ownBlock) hown (by rw [pers_len]; have := HPC.out; omega)
      rw [pers_len] at e9
      subst e9
      have HOS : Hid (OwnS Ty.person 75 w1 (fun b => w.heap.size ≤ b ∧ b < w1.heap.size ∧ b ≠ g) w.heap.size (.slice (some ⟨g, 0, none⟩) k cp) (pers l k (svO l k 0))) := by
        show OwnS _ _ _ _ _ _ _
        rw [svO_zero]
        exact OwnS.more (S := fun b => w.heap.size ≤ b ∧ b < w1.heap.size ∧ some b ≠ (Value.slice (some ⟨g, 0, none⟩) k cp).ownBlock) hown fun b hb => ⟨hb.1, hb.2.1, fun e => hb.2.2 (by rw [e]; rfl)⟩
      clear hown hb1 hg9 HA0 HOW HBR hlt hge hk g1 g2 g3 hcn HCN
      go_loopw [7] (fun s7 wr => ∃ i : Nat, i ≤ k ∧ s7 = .int .i64 i ∧ OwnS Ty.person 75 wr (fun b => w.heap.size ≤ b ∧ b < w1.heap.size ∧ b ≠ g) w.heap.size (.slice (some ⟨g, 0, none⟩) k cp) (pers l k (svO l k i)) ∧ Below w.heap.size w wr ∧ w1.heap.size ≤ wr.heap.size) (fun s7 _ => k - (intOf s7).toNat)
      case atStart => exact ⟨0, Nat.zero_le _, rfl, HOS.out, HBW.out, Nat.le_refl _⟩
      case round =>
        obtain ⟨i, hi, rfl, hos, hbr, hsz⟩ := hrel
        clear HOS HBW
        by_cases hlti : i < k
        · have hlti' : (i : Int) < (k : Int) := by omega
          have HOI : Hid (OwnS Ty.person 75 wr (fun b => w.heap.size ≤ b ∧ b < w1.heap.size ∧ b ≠ g) w.heap.size (.slice (some ⟨g, 0, none⟩) k cp) (pers l k (svI l k i 0))) := by
            show OwnS _ _ _ _ _ _ _
            rw [svI_zero]
            exact hos
          have HBI := Lib.hid hbr
          clear hos hbr
          go_wp2_with fail
          go_loopw [8] (fun s8 wx => ∃ j : Nat, j ≤ i ∧ s8 = .int .i64 j ∧ OwnS Ty.person 75 wx (fun b => w.heap.size ≤ b ∧ b < w1.heap.size ∧ b ≠ g) w.heap.size (.slice (some ⟨g, 0, none⟩) k cp) (pers l k (svI l k i j)) ∧ Below w.heap.size w wx ∧ w1.heap.size ≤ wx.heap.size) (fun s8 _ => i - (intOf s8).toNat)
          case atStart => exact ⟨0, Nat.zero_le _, rfl, HOI.out, HBI.out, hsz⟩
          case round =>
            obtain ⟨j, hj, rfl, hos, hbx, hsx⟩ := hrel
            clear HOI HBI
            by_cases hltj : j < i
            · have hltj' : (j : Int) < (i : Int) := by omega
              have y0 := hos.sen_at (k := j) (by rw [pers_len]; omega)
              have y1 := hos.sen_at (k := i) (by rw [pers_len]; omega)
              rw [pers_get l _ (by omega)] at y0 y1
              have e0 : (dPerson (atL l (1 + j)) j (svI l k i j j)).sen = (dSens l k).getD j 0 := svI_low l k hltj
              have e1 : (dPerson (atL l (1 + i)) i (svI l k i j i)).sen = cur l k i j := svI_at l k i j
              rw [e0] at y0
              rw [e1] at y1
              have HOX := Lib.hid hos
              have HBX := Lib.hid hbx
              have hjk : (j : Int) < (k : Int) := by omega
              by_cases heq : (dSens l k).getD j 0 = cur l k i j
              · have HS9 : Hid ((pers l k (svI l k i j)).set i (dPerson (atL l (1 + i)) i (20 + (i : Int))) = pers l k (svI l k i (j + 1))) := svI_set l k i j _ (cur_hit l hlti hltj heq)
                have HGE : Hid ((pers l k (svI l k i j)).getD i (dPerson (atL l (1 + i)) i (20 + (i : Int))) = dPerson (atL l (1 + i)) i (svI l k i j i)) := by
                  have hil : i < (pers l k (svI l k i j)).length := by rw [pers_len]; exact hlti
                  have := pers_get l (svI l k i j) hlti
                  rw [List.getD_eq_getElem?_getD, List.getElem?_eq_getElem hil] at this ⊢
                  exact this
                rw [heq] at y0
                clear e0 e1 heq hos hbx
                generalize cur l k i j = cu at *
                have hq : IntKind.i64.wrap (20 + (i : Int)) = 20 + (i : Int) := IntWalk.i64_in _ (by omega)
                go_upto_region 22 with (fail)
                go_quiet (fail)
                go_upto_region 23 with (fail)
                have hbd := below_drewN (Below.refl wr.heap.size wr) nq
                have HOD := Lib.hid (HOX.out.next hbd fun b hb => by omega)
                have hzd : (wr.drewN nq).heap.size = wr.heap.size := rfl
                have HBD : Hid (Below w.heap.size w (wr.drewN nq)) := HBX.out.trans (hbd.mono HBX.out.size)
                have y1 : (wr.drewN nq).cell? ⟨g, i * 7 + 4, none⟩ = some (.int .i64 cu) := y1
                have f1 := HOD.out.freeP (i * 7 + 4)
                clear y0
                generalize wr.drewN nq = wy at *
                have hgw := (HOD.out.lt g rfl).1
                have HON : Hid (OwnS Ty.person 75 (wy.setCell ⟨g, i * 7 + 4, none⟩ (.int .i64 (20 + (i : Int)))) (fun b => w.heap.size ≤ b ∧ b < w1.heap.size ∧ b ≠ g) w.heap.size (.slice (some ⟨g, 0, none⟩) k cp) (pers l k (svI l k i (j + 1)))) := by
                  show OwnS _ _ _ _ _ _ _
                  rw [← HS9.out]
                  refine HOD.out.setAt (t := Ty.person) (k := i) (j := 4) (by rw [pers_len]; omega) (show 4 < 7 by decide) (fun h => h.2.2 rfl) fun cs hr => ?_
                  rw [HGE.out] at hr
                  obtain ⟨A1, n1, c1, A2, n2, c2, rfl, h1, h2⟩ := hr
                  exact ⟨A1, n1, c1, A2, n2, c2, rfl, h1, h2⟩
                have HBN : Hid (Below w.heap.size w (wy.setCell ⟨g, i * 7 + 4, none⟩ (.int .i64 (20 + (i : Int))))) := HBD.out.setCell (show w.heap.size ≤ g from hgw) _
                go_wp2_with fail
                go_roundw
                case rel => exact ⟨j + 1, by omega, by go_num, HON.out, HBN.out, by simp; omega⟩
                case measure => simp [intOf]; omega
              · have HS9 : Hid (svI l k i (j + 1) = svI l k i j) := svI_same l k i j (cur_miss l hlti hltj heq)
                have heq' : ((dSens l k).getD j 0 == cur l k i j) = false := by simpa using heq
                clear e0 e1 heq hos hbx
                generalize cur l k i j = cu at *
                generalize (dSens l k).getD j 0 = du at *
                go_upto_region 22 with (fail)
                go_quiet (fail)
                go_wp2_with fail
                go_roundw
                case rel => exact ⟨j + 1, by omega, by go_num, by rw [HS9.out]; exact HOX.out.next (below_drewN (Below.refl wr.heap.size wr) _) fun b hb => by omega, HBX.out.trans ((below_drewN (Below.refl wr.heap.size wr) _).mono HBX.out.size), hsx⟩
                case measure => simp [intOf]; omega
            · have hji : i = j := by omega
              subst hji
              have HON : Hid (OwnS Ty.person 75 wr (fun b => w.heap.size ≤ b ∧ b < w1.heap.size ∧ b ≠ g) w.heap.size (.slice (some ⟨g, 0, none⟩) k cp) (pers l k (svO l k (i + 1)))) := by
                show OwnS _ _ _ _ _ _ _
                rw [← svI_all l hlti]
                exact hos
              have HBX := Lib.hid hbx
              have hge : ¬ (i : Int) < (i : Int) := by omega
              clear hos hbx
              go_wp2_with fail
              go_roundw
              case rel => exact ⟨i + 1, by omega, by go_num, HON.out, HBX.out, hsx⟩
              case measure => simp [intOf]; omega
        · have hik : k = i := by omega
          subst hik
          rw [pers_all, ← HM.out] at hos
          obtain ⟨A9, c9, e9, hsl⟩ := hos.sl
          have hlen : (dPeopleN l (pCount l)).length = k := by rw [dPeopleN_len, HM.out]
          rw [hlen] at e9 hsl
          injection e9 with e1 e2 e3
          subst e1 e3
          have hgl := hos.lt g rfl
          have HSL : Hid (Sl Ty.person wr (all_ wr) (some ⟨g, 0, none⟩) k cp (dPeople l)) := hsl.more fun b hb => by
            show b < _
            rcases hb with hb | hb
            · omega
            · have hb9 : some g = some b := hb
              injection hb9 with hb9
              omega
          have HBX := Lib.hid hbr
          have hge : ¬ (k : Int) < (k : Int) := by omega
          clear hos hsl hlen hbr
          go_wp2_with fail
          go_ret
          exact ⟨_, _, _, rfl, HSL.out, HBX.out⟩
end Go.Proofs.YtifconapjfdkcaaGreatDoor
/-
  Contracts of calendar.padded, SplitMinute, DateOf.
  Condition: the numbers are small and not negative; the table of powers of ten is laid.
-/
namespace Go.Proofs.YtifconapjfdkcaaGreatDoor
set_option linter.unusedSimpArgs false
set_option linter.unusedVariables false
open Go.RowKit

def StrB (s : ByteArray) (w : World) (e : Ending) (w' : World) : Prop := e = .returned (.string s) ∧ Below w.heap.size w w'
theorem numS_size {n : Int} (h0 : 0 ≤ n) (h1 : n ≤ 9999) : 1 ≤ (numS n).size ∧ (numS n).size ≤ 21 := by
  unfold numS
  rw [bs_size]
  rw [Lib.itoa, if_neg (by omega)]
  refine ⟨dec_pos _, ?_⟩
  have := (nDigits_ten n.toNat).2 (by omega)
  rw [Lib.decDigits_length]
  omega
set_option maxRecDepth 100000 in
set_option maxHeartbeats 800000 in
theorem padded_any (n d : Int) (w : World) (h0 : 0 ≤ n) (h1 : n ≤ 9999) (hd : d ≤ ((numS n).size : Int) + 1) (hd0 : 0 ≤ d) (hp : Pow10 w) :
    Calls Tryz.prog 120 #[.int .i64 n, .int .i64 d] w (StrB (padB n d.toNat) w) := by
  have HF : Hid (Calls Tryz.prog 55 #[.int .i64 n] w fun e w' => e = .returned (.string (numS n)) ∧ Below w.heap.size w w') := formatInt_any n w (by omega) (by omega) hp
  have hz := numS_size h0 h1
  have HP : Hid (padB n d.toNat = if (numS n).size < d.toNat then zS ++ numS n else numS n) := rfl
  generalize numS n = s at *
  go_enter Tryz.func120, Tryz.ntmps120
  go_wp2_with fail
  refine HF.out.mono ?_
  rintro e w1 ⟨rfl, hb1⟩
  by_cases hlt : (s.size : Int) < d
  · have HR : Hid (padB n d.toNat = zS ++ s) := by show _ = _; rw [HP.out, if_pos (by omega)]
    have q1 : d - (s.size : Int) = 1 := by omega
    have q2 : IntKind.i64.wrap (d - (s.size : Int)) = 1 := by rw [q1]; decide
    have q3 : ¬ 9223372036854775807 < 1 + s.size := by omega
    have HRO : Hid (Calls Tryz.prog 160 #[.string ⟨#[48]⟩, .int .i64 1] w1 fun e w' => e = .returned (.string ⟨#[48]⟩) ∧ w' = w1) := Tryz.strings_Repeat_one ⟨#[48]⟩ w1
    clear q1
    go_wp2_with fail
    refine HRO.out.mono ?_
    rintro e w' ⟨rfl, rfl⟩
    go_wp2_with fail
    go_ret
    exact ⟨by rw [HR.out]; rfl, hb1⟩
  · have HR : Hid (padB n d.toNat = s) := by show _ = _; rw [HP.out, if_neg (by omega)]
    go_wp2_with fail
    go_ret
    exact ⟨by rw [HR.out]; rfl, hb1⟩
theorem splitMinute_any (t : Int) (w : World) (h0 : 0 ≤ t) (h1 : t < 52596000) : Calls Tryz.prog 88 #[.int .i64 t] w fun e w' => e = .returned (.tuple #[.int .i64 (t / 1440), .int .i64 (t % 1440)]) ∧ w = w' := by
  have q1 : t.tdiv 1440 = t / 1440 := Int.tdiv_eq_ediv_of_nonneg h0
  have q2 : t.tmod 1440 = t % 1440 := Int.tmod_eq_emod_of_nonneg h0
  have q3 : IntKind.i64.wrap (t / 1440) = t / 1440 := IntWalk.i64_in _ (by omega)
  have q4 : IntKind.i64.wrap (t % 1440) = t % 1440 := IntWalk.i64_in _ (by omega)
  have q5 : ¬ t % 1440 < 0 := by omega
  go_enter Tryz.func88, Tryz.ntmps88
  go_wp2_with fail
  go_ret2
  exact ⟨rfl, rfl⟩
theorem yearSum_last : yearSum 102 = 37255 := by decide +kernel
/-- The date of a day is handed back. -/
def DayPost (day : Int) (w : World) (e : Ending) (w' : World) : Prop := ∃ y m d : Int, e = .returned (.tuple #[.agg #[.int .i64 y, .int .i64 m, .int .i64 d], .int .i64 0]) ∧ validB y m d = true ∧ dayB y m d = day ∧ Below w.heap.size w w'
set_option maxRecDepth 100000 in
set_option maxHeartbeats 1600000 in
theorem dateOf_any (day : Int) (w : World) (h0 : 0 ≤ day) (h1 : day ≤ 36889) : Calls Tryz.prog 89 #[.int .i64 day] w (DayPost day w) := by
  have hb0 := (Below.refl w.heap.size w).alloc (Nat.le_refl _) (.cells #[.int .i64 0, .int .i64 0, .int .i64 0] 145)
  have hr0 := heap_alloc_new w (.cells #[.int .i64 0, .int .i64 0, .int .i64 0] 145)
  have hz0 : w.heap.size < (w.alloc (.cells #[.int .i64 0, .int .i64 0, .int .i64 0] 145)).heap.size := by simp
  have HB0 := Lib.hid hb0; have HR0 := Lib.hid hr0; have HZ0 := Lib.hid hz0
  clear hb0 hr0 hz0
  have c1 : ¬ day < -365 := by omega
  have c2 : ¬ (36889 : Int) < day := by omega
  have c3 : IntKind.i64.wrap (day - -365) = day + 365 := by rw [Int.sub_neg]; exact IntWalk.i64_in _ (by omega)
  go_enter Tryz.func89, Tryz.ntmps89
  go_wp2_with fail
  generalize w.alloc (.cells #[.int .i64 0, .int .i64 0, .int .i64 0] 145) = W at *
  go_loop [4, 5] (fun r y => ∃ k : Nat, k ≤ 101 ∧ r = .int .i64 (day + 365 - yearSum k) ∧ y = .int .i64 (1999 + k) ∧ 0 ≤ day + 365 - yearSum k) (fun _ y => 2200 - (intOf y).toNat)
  case atStart => exact ⟨0, by omega, by simp [yearSum, sumTo], rfl, by simp [yearSum, sumTo]; omega⟩
  case round =>
    obtain ⟨k, hk, rfl, rfl, hr⟩ := hrel
    have HY : Hid (Calls Tryz.prog 117 #[.int .i64 (1999 + k)] W fun e w' => e = .returned (.int .i64 (yDays (1999 + k))) ∧ W = w') := yearDays_any (1999 + k) W (by omega) (by omega)
    have HS : Hid (yearSum (k + 1) = yearSum k + yDays (1999 + k)) := rfl
    have hbs := yearSum_bd k
    have hyd := yDays_bd (1999 + k)
    by_cases hge : yDays (1999 + k) ≤ day + 365 - yearSum k
    · have hk2 : k < 101 := by
        rcases Nat.lt_or_ge k 101 with h | h
        · exact h
        · exfalso
          have e : k = 101 := by omega
          subst e
          have := HS.out
          rw [yearSum_last] at this
          omega
      have q1 : IntKind.i64.wrap (day + 365 - yearSum k - yDays (1999 + k)) = day + 365 - yearSum k - yDays (1999 + k) := IntWalk.i64_in _ (by omega)
      have q2 : IntKind.i64.wrap (1999 + (k : Int) + 1) = 1999 + (k : Int) + 1 := IntWalk.i64_in _ (by omega)
      have HE : Hid (day + 365 - yearSum k - yDays (1999 + k) = day + 365 - yearSum (k + 1)) := by show _ = _; rw [HS.out]; omega
      generalize yDays (1999 + k) = yd at *
      generalize hys : yearSum k = ys at *
      go_wp2_with fail
      refine HY.out.mono ?_
      rintro e w' ⟨rfl, rfl⟩
      go_wp2_with fail
      refine HY.out.mono ?_
      rintro e w' ⟨rfl, rfl⟩
      go_wp2_with fail
      go_round
      case rel => exact ⟨k + 1, by omega, by rw [HE.out], by go_num, by rw [← HE.out]; omega⟩
      case measure => simp [intOf]; omega
    · have hlt : day + 365 - yearSum k < yDays (1999 + k) := by omega
      have HYV : Hid (yDays (1999 + k) = monSum (1999 + k) 12) := (monSum_year _).symm
      have HDB : Hid (∀ (j : Nat) (d : Int), 1999 ≤ 1999 + (k : Int) → dayB (1999 + k) (1 + j) d = -365 + yearSum k + monSum (1999 + k) j + d - 1) := fun j d _ => by
        unfold dayB
        have e1 : (1999 + (k : Int) - 1999).toNat = k := by omega
        have e2 : (1 + (j : Int) - 1).toNat = j := by omega
        rw [e1, e2]
      have HVB : Hid (∀ (j : Nat) (d : Int), j ≤ 11 → 1 ≤ d → d ≤ mDays (1999 + k) (1 + j) → validB (1999 + k) (1 + j) d = true) := fun j d hj a b => validB_iff.2 ⟨⟨by omega, by omega⟩, ⟨by omega, by omega⟩, a, b⟩
      have hyb : 0 ≤ (1999 : Int) + k ∧ (1999 : Int) + k ≤ 100000 := by omega
      generalize hyd2 : yDays (1999 + k) = yd at *
      obtain ⟨ys, hys⟩ : ∃ ys, yearSum k = ys := ⟨_, rfl⟩
      rw [hys] at hr hlt hbs HDB hge ⊢
      obtain ⟨yy, hyy⟩ : ∃ yy : Int, 1999 + (k : Int) = yy := ⟨_, rfl⟩
      rw [hyy] at HDB HVB HY HYV hyb ⊢
      clear hys hyd2 hge HS
      go_wp2_with fail
      refine HY.out.mono ?_
      rintro e w' ⟨rfl, rfl⟩
      clear HY
      go_wp2_with fail
      go_loopw [4, 6] (fun r m wr => ∃ j : Nat, j ≤ 11 ∧ r = .int .i64 (day + 365 - ys - monSum yy j) ∧ m = .int .i64 (1 + j) ∧ 0 ≤ day + 365 - ys - monSum yy j ∧ Below W.heap.size W wr) (fun _ m _ => 100 - (intOf m).toNat)
      case atStart => exact ⟨0, by omega, by simp [monSum, sumTo], rfl, by simp [monSum, sumTo]; omega, Below.refl _ _⟩
      case round =>
        obtain ⟨j, hj, rfl, rfl, hr2, hbr⟩ := hrel
        have HM : Hid (∀ V : World, Calls Tryz.prog 118 #[.int .i64 yy, .int .i64 (1 + j)] V (IntPost (mDays yy (1 + j)) V)) := fun V => monthDays_any yy (1 + j) V hyb.1 hyb.2 (by omega) (by omega)
        have HS : Hid (monSum yy (j + 1) = monSum yy j + mDays yy (1 + j)) := rfl
        have hmb := monSum_bd yy j
        have hmd := mDays_bd yy (1 + j)
        unfold IntPost at HM
        have HDB2 := Lib.hid (HDB.out j (day + 365 - ys - monSum yy j + 1) (by omega))
        have HVB2 := Lib.hid (HVB.out j (day + 365 - ys - monSum yy j + 1) hj)
        by_cases hge : mDays yy (1 + j) ≤ day + 365 - ys - monSum yy j
        · have hj2 : j < 11 := by
            rcases Nat.lt_or_ge j 11 with h | h
            · exact h
            · exfalso
              have e : j = 11 := by omega
              subst e
              have h9 := HS.out
              have h8 := HYV.out
              rw [h9] at h8
              omega
          have q1 : IntKind.i64.wrap (day + 365 - ys - monSum yy j - mDays yy (1 + j)) = day + 365 - ys - monSum yy j - mDays yy (1 + j) := IntWalk.i64_in _ (by omega)
          have q2 : IntKind.i64.wrap (1 + (j : Int) + 1) = 1 + (j : Int) + 1 := IntWalk.i64_in _ (by omega)
          have HE : Hid (day + 365 - ys - monSum yy j - mDays yy (1 + j) = day + 365 - ys - monSum yy (j + 1)) := by show _ = _; rw [HS.out]; omega
          generalize mDays yy (1 + j) = md at *
          generalize hms : monSum yy j = ms at *
          go_wp2_with fail
          refine (HM.out _).mono ?_
          rintro e w3 ⟨rfl, hb3⟩
          go_wp2_with fail
          refine (HM.out _).mono ?_
          rintro e w4 ⟨rfl, hb4⟩
          have HB4 : Hid (Below W.heap.size W w4) := hbr.trans ((hb3.trans (hb4.mono hb3.size)).mono hbr.size)
          clear hb3 hb4
          go_wp2_with fail
          go_roundw
          case rel => exact ⟨j + 1, by omega, by rw [HE.out], by go_num, by rw [← HE.out]; omega, HB4.out⟩
          case measure => simp [intOf]; omega
        · have q1 : IntKind.i64.wrap (day + 365 - ys - monSum yy j + 1) = day + 365 - ys - monSum yy j + 1 := IntWalk.i64_in _ (by omega)
          have hlt2 : day + 365 - ys - monSum yy j < mDays yy (1 + j) := by omega
          have HV3 : Hid (validB yy (1 + j) (day + 365 - ys - monSum yy j + 1) = true) := HVB2.out (by omega) (by omega)
          have HD3 : Hid (dayB yy (1 + j) (day + 365 - ys - monSum yy j + 1) = day) := by show _ = _; rw [HDB2.out]; omega
          clear HVB HDB HVB2 HDB2 HYV HS
          generalize mDays yy (1 + j) = md at *
          generalize hms : monSum yy j = ms at *
          obtain ⟨dd, hdd⟩ : ∃ dd : Int, day + 365 - ys - ms + 1 = dd := ⟨_, rfl⟩
          rw [hdd] at q1 HV3 HD3
          clear hms hge
          go_wp2_with fail
          refine (HM.out _).mono ?_
          rintro e w3 ⟨rfl, hb3⟩
          have hb5 : Below W.heap.size W w3 := hbr.trans (hb3.mono hbr.size)
          have hbw : Below w.heap.size w w3 := HB0.out.trans (hb5.mono HB0.out.size)
          have hr3 := (hb5.block w.heap.size HZ0.out).trans HR0.out
          have z0 := block_cell hr3 0; have z1 := block_cell hr3 1; have z2 := block_cell hr3 2
          have f0 := block_free hr3 0; have f1 := block_free hr3 1; have f2 := block_free hr3 2
          clear hr3 hb3 hb5
          go_wp2_with fail
          refine bodyPost_ret (v := .tuple #[.agg #[.int .i64 yy, .int .i64 (1 + j), .int .i64 dd], .int .i64 0]) (by simp [results, Tryz.results89, go_sem, z0, z1, z2]) rfl ?_
          exact ⟨yy, 1 + j, dd, rfl, HV3.out, HD3.out, ((hbw.setCell (Nat.le_refl _) _).setCell (Nat.le_refl _) _).setCell (Nat.le_refl _) _⟩
end Go.Proofs.YtifconapjfdkcaaGreatDoor
/-
  Contracts of calendar.FormatDate, FormatClock and FormatInstant.
  Condition: the date is valid, the instant lies in the calendar; the table of powers of ten is laid.
-/
namespace Go.Proofs.YtifconapjfdkcaaGreatDoor
set_option linter.unusedSimpArgs false
set_option linter.unusedVariables false
open Go.RowKit

def TxtB (s : ByteArray) (w : World) (e : Ending) (w' : World) : Prop := e = .returned (.tuple #[.string s, .int .i64 0]) ∧ Below w.heap.size w w'
theorem padB_size {n : Int} {d : Nat} (h0 : 0 ≤ n) (h1 : n ≤ 9999) : (padB n d).size ≤ 22 := by
  have := numS_size h0 h1
  unfold padB
  split
  · rw [ByteArray.size_append, show zS.size = 1 from rfl]; omega
  · omega
set_option maxRecDepth 100000 in
set_option maxHeartbeats 1600000 in
theorem formatDate_any (y m d : Int) (w : World) (hv : validB y m d = true) (hp : Pow10 w) : Calls Tryz.prog 90 #[.agg #[.int .i64 y, .int .i64 m, .int .i64 d]] w (TxtB (fmtDate y m d) w) := by
  obtain ⟨v1, v2, v3, v4⟩ := validB_iff.1 hv
  have v5 := mDays_bd y m
  have hb0 := (Below.refl w.heap.size w).alloc (Nat.le_refl _) (.cells #[.int .i64 y, .int .i64 m, .int .i64 d] 145)
  have hr0 := heap_alloc_new w (.cells #[.int .i64 y, .int .i64 m, .int .i64 d] 145)
  have HB0 := Lib.hid hb0; have HR0 := Lib.hid hr0
  have HPW : Hid (∀ V, Below w.heap.size w V → Pow10 V) := fun V hV => hp.next hV
  have n1 : ((numS y).size : Int) = 4 := by
    have e := numS_four (n := y.toNat) (by omega) (by omega)
    rw [show ((y.toNat : Nat) : Int) = y by omega] at e
    rw [e, bs_size]; rfl
  have n2 := numS_size (n := m) (by omega) (by omega)
  have n3 := numS_size (n := d) (by omega) (by omega)
  have HP1 : Hid (∀ V, Below w.heap.size w V → Calls Tryz.prog 120 #[.int .i64 y, .int .i64 4] V (StrB (padB y 4) V)) := fun V hV => padded_any y 4 V (by omega) (by omega) (by omega) (by omega) (HPW.out V hV)
  have HP2 : Hid (∀ V, Below w.heap.size w V → Calls Tryz.prog 120 #[.int .i64 m, .int .i64 2] V (StrB (padB m 2) V)) := fun V hV => padded_any m 2 V (by omega) (by omega) (by omega) (by omega) (HPW.out V hV)
  have HP3 : Hid (∀ V, Below w.heap.size w V → Calls Tryz.prog 120 #[.int .i64 d, .int .i64 2] V (StrB (padB d 2) V)) := fun V hV => padded_any d 2 V (by omega) (by omega) (by omega) (by omega) (HPW.out V hV)
  have s1 := padB_size (n := y) (d := 4) (by omega) (by omega)
  have s2 := padB_size (n := m) (d := 2) (by omega) (by omega)
  have s3 := padB_size (n := d) (d := 2) (by omega) (by omega)
  have HQ : Hid (fmtDate y m d = padB y 4 ++ dashS ++ padB m 2 ++ dashS ++ padB d 2) := rfl
  rw [HQ.out]
  have HV := Lib.hid hv
  generalize padB y 4 = P1 at *
  generalize padB m 2 = P2 at *
  generalize padB d 2 = P3 at *
  obtain ⟨X3, hX3⟩ : ∃ X, P1 ++ dashS = X := ⟨_, rfl⟩
  obtain ⟨X7, hX7⟩ : ∃ X, X3 ++ P2 = X := ⟨_, rfl⟩
  obtain ⟨X8, hX8⟩ : ∃ X, X7 ++ dashS = X := ⟨_, rfl⟩
  obtain ⟨X12, hX12⟩ : ∃ X, X8 ++ P3 = X := ⟨_, rfl⟩
  have t3 : X3.size ≤ 30 := by rw [← hX3, ByteArray.size_append, show dashS.size = 1 from rfl]; omega
  have t7 : X7.size ≤ 60 := by rw [← hX7, ByteArray.size_append]; omega
  have t8 : X8.size ≤ 61 := by rw [← hX8, ByteArray.size_append, show dashS.size = 1 from rfl]; omega
  rw [hX3, hX7, hX8, hX12]
  have HX3 := Lib.hid hX3; have HX7 := Lib.hid hX7; have HX8 := Lib.hid hX8; have HX12 := Lib.hid hX12
  have q1 : ¬ 9223372036854775807 < P1.size + 1 := by omega
  have q2 : ¬ 9223372036854775807 < X3.size + P2.size := by omega
  have q3 : ¬ 9223372036854775807 < X7.size + 1 := by omega
  have q4 : ¬ 9223372036854775807 < X8.size + P3.size := by omega
  clear hb0 hr0 hX3 hX7 hX8 hX12 hv HQ v1 v2 v3 v4 v5 n1 n2 n3
  go_enter Tryz.func90, Tryz.ntmps90
  go_wp2_with fail
  generalize w.alloc (.cells #[.int .i64 y, .int .i64 m, .int .i64 d] 145) = W at *
  refine (valid_any y m d W).mono ?_
  rw [HV.out]
  rintro e w1 ⟨rfl, hb1⟩
  have hWp : Below w.heap.size w w1 := HB0.out.trans (hb1.mono HB0.out.size)
  have hr1 := (hb1.block w.heap.size (Array.getElem?_eq_some_iff.1 HR0.out).1).trans HR0.out
  obtain ⟨B, hB⟩ : ∃ B, w.heap.size = B := ⟨_, rfl⟩
  rw [hB] at hr1
  have z0 := block_cell hr1 0; have z1 := block_cell hr1 1; have z2 := block_cell hr1 2
  rw [hB]
  clear hr1 hb1 hB
  go_upto_region 3 with (fail)
  refine wp_region_facts 13 [7, 8, 9, 10, 11, 12, 13, 14, 15, 16, 17, 18, 19] (fun i v _ => ([(.pointer (some ⟨B, 0, none⟩) : Value), (.int .i64 y : Value), (.string P1 : Value), (.string X3 : Value), (.pointer (some ⟨B, 1, none⟩) : Value), (.int .i64 m : Value), (.string P2 : Value), (.string X7 : Value), (.string X8 : Value), (.pointer (some ⟨B, 2, none⟩) : Value), (.int .i64 d : Value), (.string P3 : Value), (.string X12 : Value)] : List Value)[i]? = some v) (by kernel_rfl) (by kernel_rfl) (by kernel_rfl) (by kernel_rfl) (by kernel_rfl) (fun _ _ _ _ h _ => h) ?_ ?_
  · intro q o' hq ho a' w' hb' hout hpre K hK
    have hq' : q = 0 ∨ q = 1 ∨ q = 2 ∨ q = 3 ∨ q = 4 ∨ q = 5 ∨ q = 6 ∨ q = 7 ∨ q = 8 ∨ q = 9 ∨ q = 10 ∨ q = 11 ∨ q = 12 := by omega
    rcases hq' with rfl | rfl | rfl | rfl | rfl | rfl | rfl | rfl | rfl | rfl | rfl | rfl | rfl
    · obtain rfl := Option.some.inj ho
      have e1 : a'.tmps[1]? = some (.pointer (some ⟨B, 0, none⟩)) := hout 1 (by decide)
      go_simp
      exact hK (.pointer (some ⟨B, 0, none⟩)) w' rfl (Below.refl _ _)
    · obtain rfl := Option.some.inj ho
      have p0 : a'.tmps.getD 7 undef = .pointer (some ⟨B, 0, none⟩) := (Option.some.inj (hpre ⟨0, .data⟩ (by simp) 7 rfl)).symm
      simp only [Array.getD_eq_getD_getElem?] at p0
      have c0 := cell_kept z0 hb'
      go_simp
      exact hK (.int .i64 y) w' rfl (Below.refl _ _)
    · obtain rfl := Option.some.inj ho
      have p1 : a'.tmps.getD 8 undef = .int .i64 y := (Option.some.inj (hpre ⟨1, .data⟩ (by simp) 8 rfl)).symm
      simp only [Array.getD_eq_getD_getElem?] at p1
      go_simp
      go_at_call 120
      refine (HP1.out w' (hWp.trans (hb'.mono hWp.size))).mono ?_
      rintro e w'' ⟨rfl, hb''⟩
      exact hK _ _ rfl hb''
    · obtain rfl := Option.some.inj ho
      have p2 : a'.tmps.getD 9 undef = .string P1 := (Option.some.inj (hpre ⟨2, .data⟩ (by simp) 9 rfl)).symm
      simp only [Array.getD_eq_getD_getElem?] at p2
      go_simp
      exact hK _ _ (congrArg (fun x => some (Value.string x)) HX3.out.symm) (Below.refl _ _)
    · obtain rfl := Option.some.inj ho
      have e1 : a'.tmps[1]? = some (.pointer (some ⟨B, 0, none⟩)) := hout 1 (by decide)
      go_simp
      exact hK (.pointer (some ⟨B, 1, none⟩)) w' rfl (Below.refl _ _)
    · obtain rfl := Option.some.inj ho
      have p4 : a'.tmps.getD 11 undef = .pointer (some ⟨B, 1, none⟩) := (Option.some.inj (hpre ⟨4, .data⟩ (by simp) 11 rfl)).symm
      simp only [Array.getD_eq_getD_getElem?] at p4
      have c1 := cell_kept z1 hb'
      go_simp
      exact hK (.int .i64 m) w' rfl (Below.refl _ _)
    · obtain rfl := Option.some.inj ho
      have p5 : a'.tmps.getD 12 undef = .int .i64 m := (Option.some.inj (hpre ⟨5, .data⟩ (by simp) 12 rfl)).symm
      simp only [Array.getD_eq_getD_getElem?] at p5
      go_simp
      go_at_call 120
      refine (HP2.out w' (hWp.trans (hb'.mono hWp.size))).mono ?_
      rintro e w'' ⟨rfl, hb''⟩
      exact hK _ _ rfl hb''
    · obtain rfl := Option.some.inj ho
      have p3 : a'.tmps.getD 10 undef = .string X3 := (Option.some.inj (hpre ⟨3, .data⟩ (by simp) 10 rfl)).symm
      simp only [Array.getD_eq_getD_getElem?] at p3
      have p6 : a'.tmps.getD 13 undef = .string P2 := (Option.some.inj (hpre ⟨6, .data⟩ (by simp) 13 rfl)).symm
      simp only [Array.getD_eq_getD_getElem?] at p6
      go_simp
      exact hK _ _ (congrArg (fun x => some (Value.string x)) HX7.out.symm) (Below.refl _ _)
    · obtain rfl := Option.some.inj ho
      have p7 : a'.tmps.getD 14 undef = .string X7 := (Option.some.inj (hpre ⟨7, .data⟩ (by simp) 14 rfl)).symm
      simp only [Array.getD_eq_getD_getElem?] at p7
      go_simp
      exact hK _ _ (congrArg (fun x => some (Value.string x)) HX8.out.symm) (Below.refl _ _)
    · obtain rfl := Option.some.inj ho
      have e1 : a'.tmps[1]? = some (.pointer (some ⟨B, 0, none⟩)) := hout 1 (by decide)
      go_simp
      exact hK (.pointer (some ⟨B, 2, none⟩)) w' rfl (Below.refl _ _)
    · obtain rfl := Option.some.inj ho
      have p9 : a'.tmps.getD 16 undef = .pointer (some ⟨B, 2, none⟩) := (Option.some.inj (hpre ⟨9, .data⟩ (by simp) 16 rfl)).symm
      simp only [Array.getD_eq_getD_getElem?] at p9
      have c2 := cell_kept z2 hb'
      go_simp
      exact hK (.int .i64 d) w' rfl (Below.refl _ _)
    · obtain rfl := Option.some.inj ho
      have p10 : a'.tmps.getD 17 undef = .int .i64 d := (Option.some.inj (hpre ⟨10, .data⟩ (by simp) 17 rfl)).symm
      simp only [Array.getD_eq_getD_getElem?] at p10
      go_simp
      go_at_call 120
      refine (HP3.out w' (hWp.trans (hb'.mono hWp.size))).mono ?_
      rintro e w'' ⟨rfl, hb''⟩
      exact hK _ _ rfl hb''
    · obtain rfl := Option.some.inj ho
      have p8 : a'.tmps.getD 15 undef = .string X8 := (Option.some.inj (hpre ⟨8, .data⟩ (by simp) 15 rfl)).symm
      simp only [Array.getD_eq_getD_getElem?] at p8
      have p11 : a'.tmps.getD 18 undef = .string P3 := (Option.some.inj (hpre ⟨11, .data⟩ (by simp) 18 rfl)).symm
      simp only [Array.getD_eq_getD_getElem?] at p11
      go_simp
      exact hK _ _ (congrArg (fun x => some (Value.string x)) HX12.out.symm) (Below.refl _ _)
  · intro us w' hb' hfacts
    have h12 : us 12 = .string X12 := (Option.some.inj (hfacts 12 (by decide))).symm
    have hfin : Below w.heap.size w w' := hWp.trans (hb'.mono hWp.size)
    simp only [putL, Act.put, List.setIfInBounds_toArray, List.set_cons_zero, List.set_cons_succ]
    generalize us 12 = x12 at *
    subst h12
    simp only [List.drop_succ_cons, List.drop_zero]
    clear hb' hfacts
    go_wp2_with fail
    go_ret2
    exact ⟨rfl, hfin⟩
set_option maxRecDepth 100000 in
set_option maxHeartbeats 1600000 in
theorem formatClock_any (c : Int) (w : World) (h0 : 0 ≤ c) (h1 : c < 1440) (hp : Pow10 w) : Calls Tryz.prog 91 #[.int .i64 c] w (TxtB (fmtClock c) w) := by
  have HPW : Hid (∀ V, Below w.heap.size w V → Pow10 V) := fun V hV => hp.next hV
  have n2 := numS_size (n := c / 60) (by omega) (by omega)
  have n3 := numS_size (n := c % 60) (by omega) (by omega)
  have HP2 : Hid (∀ V, Below w.heap.size w V → Calls Tryz.prog 120 #[.int .i64 (c / 60), .int .i64 2] V (StrB (padB (c / 60) 2) V)) := fun V hV => padded_any (c / 60) 2 V (by omega) (by omega) (by omega) (by omega) (HPW.out V hV)
  have HP3 : Hid (∀ V, Below w.heap.size w V → Calls Tryz.prog 120 #[.int .i64 (c % 60), .int .i64 2] V (StrB (padB (c % 60) 2) V)) := fun V hV => padded_any (c % 60) 2 V (by omega) (by omega) (by omega) (by omega) (HPW.out V hV)
  have s2 := padB_size (n := c / 60) (d := 2) (by omega) (by omega)
  have s3 := padB_size (n := c % 60) (d := 2) (by omega) (by omega)
  have HQ : Hid (fmtClock c = padB (c / 60) 2 ++ colS ++ padB (c % 60) 2) := rfl
  rw [HQ.out]
  generalize padB (c / 60) 2 = P2 at *
  generalize padB (c % 60) 2 = P3 at *
  have u1 : c.tdiv 60 = c / 60 := Int.tdiv_eq_ediv_of_nonneg h0
  have u2 : c.tmod 60 = c % 60 := Int.tmod_eq_emod_of_nonneg h0
  have u3 : IntKind.i64.wrap (c / 60) = c / 60 := IntWalk.i64_in _ (by omega)
  have u4 : IntKind.i64.wrap (c % 60) = c % 60 := IntWalk.i64_in _ (by omega)
  have u5 : ¬ c < 0 := by omega
  have u6 : ¬ (1440 : Int) ≤ c := by omega
  have u7 : ¬ (1439 : Int) < c := by omega
  have q1 : ¬ 9223372036854775807 < P2.size + 1 := by omega
  have q2 : ¬ 9223372036854775807 < P2.size + 1 + P3.size := by omega
  have q3 : ¬ 9223372036854775807 < (P2 ++ (⟨#[58]⟩ : ByteArray)).size + P3.size := by rw [ByteArray.size_append, show (⟨#[58]⟩ : ByteArray).size = 1 from rfl]; omega
  go_enter Tryz.func91, Tryz.ntmps91
  go_wp2_with fail
  refine (HP2.out w (Below.refl _ _)).mono ?_
  rintro e w1 ⟨rfl, hb1⟩
  go_wp2_with fail
  refine (HP3.out w1 hb1).mono ?_
  rintro e w2 ⟨rfl, hb2⟩
  have hfin : Below w.heap.size w w2 := hb1.trans (hb2.mono hb1.size)
  go_wp2_with fail
  go_ret2
  exact ⟨rfl, hfin⟩

/-- The text of an instant is handed back. -/
def InsPost (t : Int) (w : World) (e : Ending) (w' : World) : Prop := ∃ s, e = .returned (.tuple #[.string s, .int .i64 0]) ∧ IsIns t s ∧ Below w.heap.size w w'
theorem fmtDate_size {y m d : Int} (hv : validB y m d = true) : (fmtDate y m d).size ≤ 100 := by
  obtain ⟨v1, v2, v3, v4⟩ := validB_iff.1 hv
  have v5 := mDays_bd y m
  have s1 := padB_size (n := y) (d := 4) (by omega) (by omega)
  have s2 := padB_size (n := m) (d := 2) (by omega) (by omega)
  have s3 := padB_size (n := d) (d := 2) (by omega) (by omega)
  unfold fmtDate
  simp only [ByteArray.size_append]
  have : dashS.size = 1 := rfl
  omega
theorem fmtClock_size {c : Int} (h0 : 0 ≤ c) (h1 : c < 1440) : (fmtClock c).size ≤ 100 := by
  have s2 := padB_size (n := c / 60) (d := 2) (by omega) (by omega)
  have s3 := padB_size (n := c % 60) (d := 2) (by omega) (by omega)
  unfold fmtClock
  simp only [ByteArray.size_append]
  have : colS.size = 1 := rfl
  omega
set_option maxRecDepth 100000 in
set_option maxHeartbeats 1600000 in
theorem formatInstant_any (t : Int) (w : World) (h0 : 0 ≤ t) (h1 : t < 52596000) (hp : Pow10 w) : Calls Tryz.prog 53 #[.int .i64 t] w (InsPost t w) := by
  have HPW : Hid (∀ V, Below w.heap.size w V → Pow10 V) := fun V hV => hp.next hV
  have u5 : ¬ t < 0 := by omega
  have u6 : ¬ (52596000 : Int) ≤ t := by omega
  have HSP := Lib.hid (splitMinute_any t w h0 h1)
  have HDO := Lib.hid (dateOf_any (t / 1440) w (by omega) (by omega))
  have HCL : Hid (∀ V, Below w.heap.size w V → Calls Tryz.prog 91 #[.int .i64 (t % 1440)] V (TxtB (fmtClock (t % 1440)) V)) := fun V hV => formatClock_any (t % 1440) V (by omega) (by omega) (HPW.out V hV)
  have hcs := fmtClock_size (c := t % 1440) (by omega) (by omega)
  have HIS : Hid (∀ y m d, validB y m d = true → dayB y m d = t / 1440 → IsIns t (fmtDate y m d ++ blankS ++ fmtClock (t % 1440))) := fun y m d a b => ⟨y, m, d, a, b, rfl⟩
  generalize fmtClock (t % 1440) = C at *
  go_enter Tryz.func53, Tryz.ntmps53
  go_wp2_with fail
  refine HSP.out.mono ?_
  rintro e w' ⟨rfl, rfl⟩
  go_wp2_with fail
  refine HDO.out.mono ?_
  rintro e w1 ⟨y, m, d, rfl, hv, hd, hb1⟩
  have HI := Lib.hid (HIS.out y m d hv hd)
  have hds := fmtDate_size hv
  have hb2 : Below w.heap.size w (w1.alloc (.cells #[.int .i64 y, .int .i64 m, .int .i64 d] 145)) := hb1.alloc hb1.size _
  have hr2 := heap_alloc_new w1 (.cells #[.int .i64 y, .int .i64 m, .int .i64 d] 145)
  have HFD := Lib.hid (formatDate_any y m d (w1.alloc (.cells #[.int .i64 y, .int .i64 m, .int .i64 d] 145)) hv (HPW.out _ hb2))
  have HB2 := Lib.hid hb2
  generalize fmtDate y m d = D at *
  have q1 : ¬ 9223372036854775807 < D.size + 1 := by omega
  have q2 : ¬ 9223372036854775807 < D.size + 1 + C.size := by omega
  have q3 : ¬ 9223372036854775807 < (D ++ (⟨#[32]⟩ : ByteArray)).size + C.size := by rw [ByteArray.size_append, show (⟨#[32]⟩ : ByteArray).size = 1 from rfl]; omega
  have z0 := block_cell hr2 0; have z1 := block_cell hr2 1; have z2 := block_cell hr2 2
  clear hb1 hv hd hb2 hr2 HIS HSP HDO
  go_wp2_with fail
  refine HFD.out.mono ?_
  rintro e w2 ⟨rfl, hb3⟩
  have hb4 : Below w.heap.size w w2 := HB2.out.trans (hb3.mono HB2.out.size)
  clear HFD hb3 z0 z1 z2
  go_wp2_with fail
  refine (HCL.out w2 hb4).mono ?_
  rintro e w3 ⟨rfl, hb5⟩
  have HB6 : Hid (Below w.heap.size w w3) := hb4.trans (hb5.mono hb4.size)
  clear hb4 hb5
  go_wp2_with fail
  go_ret2
  exact ⟨_, rfl, HI.out, HB6.out⟩
end Go.Proofs.YtifconapjfdkcaaGreatDoor
/-
  Contract of incident.Format.
  Condition: the data are well formed; the table of powers of ten is laid.
-/
namespace Go.Proofs.YtifconapjfdkcaaGreatDoor
set_option linter.unusedSimpArgs false
set_option linter.unusedVariables false
open Go.RowKit

theorem World.cell?_block_at {w w' : World} {b o : Nat} (h : w'.heap[b]? = w.heap[b]?) : w'.cell? ⟨b, o, none⟩ = w.cell? ⟨b, o, none⟩ := by
  simp only [World.cell?, h]
theorem insTxt_any (t : Int) (w : World) (h0 : 0 ≤ t) (h1 : t < 52596000) (hp : Pow10 w) : Calls Tryz.prog 53 #[.int .i64 t] w (TxtB (insD t ++ blankS ++ insC t) w) :=
  (formatInstant_any t w h0 h1 hp).mono fun e w' ⟨s, he, hi, hb⟩ => ⟨by rw [he, hi.eqT h0 h1], hb⟩
set_option maxRecDepth 100000 in
set_option maxHeartbeats 12800000 in
theorem incFormat_ok (t : GTT) (ps : List GPerson) (l : List GInc) (A1 A2 A3 A4 A5 : Option Addr) (n1 n2 n3 n4 n5 c1 c2 c3 c4 c5 : Nat) (w : World) (ht : t.ok) (hp : ∀ p ∈ ps, p.ok) (hs1 : Sl Ty.zone w (all_ w) A1 n1 c1 t.zones) (hs2 : Sl Ty.airport w (all_ w) A2 n2 c2 t.airports) (hs3 : Sl Ty.flight w (all_ w) A3 n3 c3 t.flights) (hs4 : Sl Ty.person w (all_ w) A4 n4 c4 ps) (hs5 : Sl Ty.inc w (all_ w) A5 n5 c5 l) (hv : incE t ps l = 0) (hpw : Pow10 w) :
    Calls Tryz.prog 24 #[.agg #[.slice A1 n1 c1, .slice A2 n2 c2, .slice A3 n3 c3], .slice A4 n4 c4, .slice A5 n5 c5] w (FmtPost (incS t l, 0) w) := by
  obtain ⟨hl32, hgood⟩ := incE_good hv
  have HG := Lib.hid hgood
  have e5 : n5 ≤ l.length := Nat.le_of_eq hs5.len
  have e5' : l.length ≤ n5 := Nat.le_of_eq hs5.len.symm
  have e3 : t.flights.length ≤ n3 := Nat.le_of_eq hs3.len.symm
  have ha : ∀ o, Below w.heap.size w (w.alloc o) := fun o => (Below.refl _ _).alloc (Nat.le_refl _) _
  have HV : Hid (∀ o, Calls Tryz.prog 16 #[.agg #[.slice A1 n1 c1, .slice A2 n2 c2, .slice A3 n3 c3], .slice A4 n4 c4, .slice A5 n5 c5] (w.alloc o) (ErrPost 0 (w.alloc o))) := fun o => hv ▸ incValidate_any t ps l A1 A2 A3 A4 A5 n1 n2 n3 n4 n5 c1 c2 c3 c4 c5 (w.alloc o) ht hp (hs1.next (ha o)) (hs2.next (ha o)) (hs3.next (ha o)) (hs4.next (ha o)) (hs5.next (ha o))
  have HS := Lib.hid (And.intro hs3 hs5)
  have HPW : Hid (∀ V, Below w.heap.size w V → Pow10 V) := fun V hV => hpw.next hV
  have hB0 := ha (.cells #[.slice A1 n1 c1, .slice A2 n2 c2, .slice A3 n3 c3] 27)
  have hX0 := heap_alloc_new w (.cells #[.slice A1 n1 c1, .slice A2 n2 c2, .slice A3 n3 c3] 27)
  have hZ0 : (w.alloc (.cells #[.slice A1 n1 c1, .slice A2 n2 c2, .slice A3 n3 c3] 27)).heap.size = w.heap.size + 1 := by simp
  have HB0 := Lib.hid hB0; have HX0 := Lib.hid hX0; have HZ0 := Lib.hid hZ0
  clear hgood hs1 hs2 hs3 hs4 hs5 hv ht hp hpw ha hB0 hX0 hZ0
  go_enter Tryz.func24, Tryz.ntmps24
  go_wp2_with fail
  refine (HV.out _).mono ?_
  clear HV
  generalize w.alloc (.cells #[.slice A1 n1 c1, .slice A2 n2 c2, .slice A3 n3 c3] 27) = W at *
  rintro e w1 ⟨rfl, hb1⟩
  have hbw : Below w.heap.size w w1 := HB0.out.trans (hb1.mono HB0.out.size)
  have hsw : w.heap.size + 1 ≤ w1.heap.size := by have := hb1.size; have := HZ0.out; omega
  have hxt := (hb1.block w.heap.size (by have := HZ0.out; omega)).trans HX0.out
  have HS3 := Lib.hid (HS.out.1.keep (all_keep hbw))
  have HS5 := Lib.hid (HS.out.2.keep (all_keep hbw))
  have HXT : Hid (∀ V, Below w1.heap.size w1 V → V.heap[w.heap.size]? = some (.cells #[.slice A1 n1 c1, .slice A2 n2 c2, .slice A3 n3 c3] 27 (0, 0))) := fun V hV => (hV.block _ (by omega)).trans hxt
  have HBW := Lib.hid hbw
  have hsw' := hsw
  replace hsw : w.heap.size ≤ w1.heap.size := by omega
  clear HS HB0 HX0 HZ0 hb1 hbw hxt
  have hfs0 : FS w1 (w1.alloc (.cells #[.pointer none, .slice none 0 0] 107)) (.slice none 0 0) [] :=
    ⟨⟨⟨_, .inl rfl, heap_alloc_new _ _⟩, World.ownsRow_nil _ _ _ _, by simp [Value.ownBlock]⟩, (Below.refl _ _).alloc (Nat.le_refl _) _⟩
  have HFS0 := Lib.hid hfs0
  clear hfs0
  go_wp2_with fail
  go_loopw [29] (fun i wr => ∃ (k : Nat) (v : Value), k ≤ n5 ∧ i = .int .i64 k ∧ Hid (FS w1 wr v (textT ((l.take k).map (incF t))))) (fun i _ => n5 - (intOf i).toNat)
  case atStart => exact ⟨0, _, Nat.zero_le _, rfl, HFS0⟩
  case round =>
    obtain ⟨k, v, hk, rfl, HFS⟩ := hrel
    clear HFS0
    have hlen : (textT ((l.take k).map (incF t))).length ≤ 2560 := by
      have := incs_up (l := l.take k) fun x hx => HG.out x (List.mem_of_mem_take hx)
      rw [List.length_take] at this
      omega
    by_cases hlt : k < n5
    · have hks : k < l.length := by omega
      obtain ⟨b, o, rfl, hbS, hat⟩ := (HS5.out.keep (w' := wr) fun b hb => HFS.out.2.block b (by unfold all_ at hb; omega)).inc_at hks
      have hg := HG.out _ (getD_in hks noInc)
      have HSN : Hid (textT ((l.take (k + 1)).map (incF t)) = textT ((l.take k).map (incF t)) ++ (lineT (incF t (l.getD k noInc)) ++ [10])) := by
        show _ = _
        rw [map_take_snoc _ hks noInc, textT_snoc]
      generalize l.getD k noInc = x at *
      generalize textT ((l.take k).map (incF t)) = pre at *
      obtain ⟨kind, fl, mi, ai, pe, ⟨s1, s2⟩⟩ := x
      have y0 : wr.cell? ⟨b, o + k * 7, none⟩ = some (.int .i64 kind) := hat 0 _ rfl
      have y1 := hat 1 _ rfl; have y2 := hat 2 _ rfl; have y3 := hat 3 _ rfl; have y4 := hat 4 _ rfl; have y5 := hat 5 _ rfl; have y6 := hat 6 _ rfl
      simp only at y1 y2 y3 y4 y5 y6
      have hkd := hg.kind
      simp only at hkd
      clear hat
      rcases hkd with rfl | rfl | rfl | rfl
      · as_aux_lemma =>
          obtain ⟨⟨hf0, hf1⟩, hn, hd0, hd1⟩ := hg.fl (show ¬ ((1 : Int) = 4) by decide)
          have hmi := hg.min
          have hai := hg.air
          simp only at hf0 hf1 hn hd0 hd1 hmi hai
          have HL : Hid (lineT (incF t ⟨1, fl, mi, ai, pe, ⟨s1, s2⟩⟩) = lineT [delayS, (t.flights.getD fl.toNat noFlight).number, insD (t.flights.getD fl.toNat noFlight).dep, insC (t.flights.getD fl.toNat noFlight).dep, numS mi]) := rfl
          obtain ⟨bf, of_, rfl, hbF, hat2⟩ := (HS3.out.keep (w' := wr) fun b hb => HFS.out.2.block b (by unfold all_ at hb; omega)).flight_at hf1
          have hbF' : bf < w.heap.size := hbF
          generalize t.flights.getD fl.toNat noFlight = fx at *
          have HI1 : Hid (∀ V, Below w.heap.size w V → Calls Tryz.prog 53 #[.int .i64 fx.dep] V (TxtB (insD fx.dep ++ blankS ++ insC fx.dep) V)) := fun V hV => insTxt_any fx.dep V (hd0) (hd1) (HPW.out V hV)
          have HN : Hid (∀ V, Below w.heap.size w V → Calls Tryz.prog 55 #[.int .i64 mi] V (StrB (numS mi) V)) := fun V hV => formatInt_any mi V (by omega) (by omega) (HPW.out V hV)
          have d3 := num_le (n := mi) (by omega)
          have HE := Lib.hid (delay_eq fx.number (insD fx.dep) (insC fx.dep) (numS mi))
          have d1 := ins_le (t := fx.dep) ⟨hd0, hd1⟩
          rw [← HL.out] at HE
          clear HL
          generalize numS mi = nS at *
          generalize insD fx.dep ++ blankS ++ insC fx.dep = iS at *
          have hwa : Below wr.heap.size wr (wr.alloc (.cells #[.int .i64 1, .int .i64 fl, .int .i64 mi, .string ai, .int .i64 pe, .int .i64 s1, .int .i64 s2] 59)) := (Below.refl _ _).alloc (Nat.le_refl _) _
          have hxa := heap_alloc_new wr (.cells #[.int .i64 1, .int .i64 fl, .int .i64 mi, .string ai, .int .i64 pe, .int .i64 s1, .int .i64 s2] 59)
          have hxlt : wr.heap.size < (wr.alloc (.cells #[.int .i64 1, .int .i64 fl, .int .i64 mi, .string ai, .int .i64 pe, .int .i64 s1, .int .i64 s2] 59)).heap.size := by simp
          have hgb : w1.heap.size < wr.heap.size := HFS.out.1.lt
          have HFA := Lib.hid (HFS.out.next hwa)
          have HXA := Lib.hid hxa
          have HFL : Hid (∀ V, Below wr.heap.size wr V → At V bf (of_ + fl.toNat * 9) (flightCells fx)) := fun V hV j u hu => by
            rw [World.cell?_block_at (hV.block bf (by have := HFS.out.2.size; omega))]
            exact hat2 j u hu
          have hwa2 := hwa
          clear hbS hxa hbF hat2
          go_upto_region 12 with (fail)
          clear y0 y1 y2 y3 y4 y5 y6
          have HXT2 := Lib.hid (HXT.out _ HFA.out.2)
          have hat := HFL.out _ hwa2
          generalize wr.alloc (.cells #[.int .i64 1, .int .i64 fl, .int .i64 mi, .string ai, .int .i64 pe, .int .i64 s1, .int .i64 s2] 59) = wa at *
          generalize hbx : wr.heap.size = bx at *
          have z1 : wa.cell? ⟨bx, 1, none⟩ = some (.int .i64 fl) := block_cell HXA.out 1
          have q2 : wa.cell? ⟨w.heap.size, 2, none⟩ = some (.slice (some ⟨bf, of_, none⟩) n3 c3) := block_cell HXT2.out 2
          have y0 : wa.cell? ⟨bf, of_ + fl.toNat * 9, none⟩ = some (.string fx.number) := hat 0 _ rfl
          have y1 := hat 1 _ rfl; have y2 := hat 2 _ rfl; have y3 := hat 3 _ rfl; have y4 := hat 4 _ rfl; have y5 := hat 5 _ rfl; have y6 := hat 6 _ rfl; have y7 := hat 7 _ rfl; have y8 := hat 8 _ rfl
          have hwb : Below wa.heap.size wa (wa.alloc (.cells #[.string fx.number, .string fx.src, .string fx.dst, .int .i64 fx.dep, .int .i64 fx.arr, .string fx.kind, .int .i64 fx.n0, .int .i64 fx.n1, .int .i64 fx.n2] 62)) := (Below.refl _ _).alloc (Nat.le_refl _) _
          have hyb := heap_alloc_new wa (.cells #[.string fx.number, .string fx.src, .string fx.dst, .int .i64 fx.dep, .int .i64 fx.arr, .string fx.kind, .int .i64 fx.n0, .int .i64 fx.n1, .int .i64 fx.n2] 62)
          have hylt : wa.heap.size < (wa.alloc (.cells #[.string fx.number, .string fx.src, .string fx.dst, .int .i64 fx.dep, .int .i64 fx.arr, .string fx.kind, .int .i64 fx.n0, .int .i64 fx.n1, .int .i64 fx.n2] 62)).heap.size := by simp
          have HFB := Lib.hid (HFA.out.next hwb)
          have HXB := Lib.hid ((hwb.block bx hxlt).trans HXA.out)
          have HYB := Lib.hid hyb
          have hxltb : bx < (wa.alloc (.cells #[.string fx.number, .string fx.src, .string fx.dst, .int .i64 fx.dep, .int .i64 fx.arr, .string fx.kind, .int .i64 fx.n0, .int .i64 fx.n1, .int .i64 fx.n2] 62)).heap.size := by simp; omega
          clear hat hwa hwa2 hwb hyb HFL HXT2 HFS
          go_upto_region 13 with (fail)
          clear y0 y1 y2 y3 y4 y5 y6 y7 y8 z1 q2
          generalize wa.alloc (.cells #[.string fx.number, .string fx.src, .string fx.dst, .int .i64 fx.dep, .int .i64 fx.arr, .string fx.kind, .int .i64 fx.n0, .int .i64 fx.n1, .int .i64 fx.n2] 62) = wb at *
          generalize hby : wa.heap.size = by_ at *
          have z3 : wb.cell? ⟨by_, 3, none⟩ = some (.int .i64 fx.dep) := block_cell HYB.out 3
          go_wp2_with fail
          refine (HI1.out wb (HBW.out.trans (HFB.out.2.mono hsw))).mono ?_
          rintro e w2 ⟨rfl, hb2⟩
          have HF2 := Lib.hid (HFB.out.next hb2)
          have hx2 := (hb2.block bx hxltb).trans HXB.out
          have hy2 := (hb2.block by_ hylt).trans HYB.out
          have HX2 := Lib.hid hx2
          have u0 : w2.cell? ⟨by_, 0, none⟩ = some (.string fx.number) := block_cell hy2 0
          have z0 : w2.cell? ⟨bx, 0, none⟩ = some (.int .i64 1) := block_cell hx2 0
          have hxlt2 := (Array.getElem?_eq_some_iff.1 hx2).1
          have HBR : Hid (Below w.heap.size w w2) := HBW.out.trans (HF2.out.2.mono hsw)
          clear hb2 hx2 hy2 z3 HI1 HFA HFB HXA HXB HYB hxlt hylt hxltb
          have qm0a : ¬ 9223372036854775807 < fx.number.size + 1 := by omega
          have qm0b : ¬ 9223372036854775807 < (fx.number).size + 1 := by rw [show (fx.number).size = fx.number.size by first | rfl | (simp only [ByteArray.size_append]; rfl)]; omega
          have qm1a : ¬ 9223372036854775807 < fx.number.size + 1 + iS.size := by omega
          have qm1b : ¬ 9223372036854775807 < (fx.number ++ (⟨#[32]⟩ : ByteArray)).size + iS.size := by rw [show (fx.number ++ (⟨#[32]⟩ : ByteArray)).size = fx.number.size + 1 by first | rfl | (simp only [ByteArray.size_append]; rfl)]; omega
          go_upto_region 15 with (fail)
          have hnmz : (fx.number ++ (⟨#[32]⟩ : ByteArray) ++ iS).size ≤ 16 + 1 + 16 := by simp only [ByteArray.size_append, sz1]; omega
          generalize fx.number ++ (⟨#[32]⟩ : ByteArray) ++ iS = nm at *
          clear u0 qm0a qm0b qm1a qm1b
          have hl5 : (pre ++ lineT (incF t ⟨1, fl, mi, ai, pe, ⟨s1, s2⟩⟩)).length ≤ 3000 := by have h9 := incF_up hg; rw [List.length_append] at h9 ⊢; omega
          have z2 : w2.cell? ⟨bx, 2, none⟩ = some (.int .i64 mi) := block_cell HX2.out 2
          have qb0a : ¬ 9223372036854775807 < 6 + nm.size := by omega
          have qb0b : ¬ 9223372036854775807 < ((⟨#[100, 101, 108, 97, 121, 32]⟩ : ByteArray)).size + nm.size := by rw [show ((⟨#[100, 101, 108, 97, 121, 32]⟩ : ByteArray)).size = 6 by first | rfl | (simp only [ByteArray.size_append]; rfl)]; omega
          have qb1a : ¬ 9223372036854775807 < 6 + nm.size + 1 := by omega
          have qb1b : ¬ 9223372036854775807 < ((⟨#[100, 101, 108, 97, 121, 32]⟩ : ByteArray) ++ nm).size + 1 := by rw [show ((⟨#[100, 101, 108, 97, 121, 32]⟩ : ByteArray) ++ nm).size = 6 + nm.size by first | rfl | (simp only [ByteArray.size_append]; rfl)]; omega
          have qb2a : ¬ 9223372036854775807 < 6 + nm.size + 1 + nS.size := by omega
          have qb2b : ¬ 9223372036854775807 < ((⟨#[100, 101, 108, 97, 121, 32]⟩ : ByteArray) ++ nm ++ (⟨#[32]⟩ : ByteArray)).size + nS.size := by rw [show ((⟨#[100, 101, 108, 97, 121, 32]⟩ : ByteArray) ++ nm ++ (⟨#[32]⟩ : ByteArray)).size = 6 + nm.size + 1 by first | rfl | (simp only [ByteArray.size_append]; rfl)]; omega
          clear hg
          go_wp2_with fail
          refine (HN.out w2 HBR.out).mono ?_
          rintro e w3 ⟨rfl, hb3⟩
          have HF3 := Lib.hid (HF2.out.next hb3)
          have HW := Lib.hid (HF3.out.write ((⟨#[100, 101, 108, 97, 121, 32]⟩ : ByteArray) ++ nm ++ (⟨#[32]⟩ : ByteArray) ++ nS) (by simp only [ByteArray.size_append, sz1, szSick, szDelay, szCancel, szDivert]; omega))
          clear hb3 z2 HN HF2 HX2 HBR
          go_wp2_with fail
          refine HW.out.mono ?_
          rintro e w5 ⟨rfl, ⟨v5, hf5⟩, -⟩
          rw [HE.out] at hf5
          have HF5 := Lib.hid hf5
          clear hf5 HW HE HF3 qb0a qb0b qb1a qb1b qb2a qb2b
          have HWN := Lib.hid (HF5.out.write (⟨#[10]⟩ : ByteArray) (by show _ + 1 ≤ _; omega))
          go_wp2_with fail
          refine HWN.out.mono ?_
          rintro e w8 ⟨rfl, ⟨v8, hf8⟩, -⟩
          try rw [nl_eq] at hf8
          rw [List.append_assoc, ← HSN.out] at hf8
          have HF8 := Lib.hid hf8
          clear hf8 HWN HSN HF5
          go_wp2_with fail
          go_roundw
          case rel => exact ⟨k + 1, v8, by omega, by go_num, HF8⟩
          case measure => simp [intOf]; omega
      · as_aux_lemma =>
          obtain ⟨⟨hf0, hf1⟩, hn, hd0, hd1⟩ := hg.fl (show ¬ ((2 : Int) = 4) by decide)
          have hmi := hg.min
          have hai := hg.air
          simp only at hf0 hf1 hn hd0 hd1 hmi hai
          have HL : Hid (lineT (incF t ⟨2, fl, mi, ai, pe, ⟨s1, s2⟩⟩) = lineT [cancelS, (t.flights.getD fl.toNat noFlight).number, insD (t.flights.getD fl.toNat noFlight).dep, insC (t.flights.getD fl.toNat noFlight).dep]) := rfl
          obtain ⟨bf, of_, rfl, hbF, hat2⟩ := (HS3.out.keep (w' := wr) fun b hb => HFS.out.2.block b (by unfold all_ at hb; omega)).flight_at hf1
          have hbF' : bf < w.heap.size := hbF
          generalize t.flights.getD fl.toNat noFlight = fx at *
          have HI1 : Hid (∀ V, Below w.heap.size w V → Calls Tryz.prog 53 #[.int .i64 fx.dep] V (TxtB (insD fx.dep ++ blankS ++ insC fx.dep) V)) := fun V hV => insTxt_any fx.dep V (hd0) (hd1) (HPW.out V hV)

          have HE := Lib.hid (cancel_eq fx.number (insD fx.dep) (insC fx.dep))
          have d1 := ins_le (t := fx.dep) ⟨hd0, hd1⟩
          rw [← HL.out] at HE
          clear HL

          generalize insD fx.dep ++ blankS ++ insC fx.dep = iS at *
          have hwa : Below wr.heap.size wr (wr.alloc (.cells #[.int .i64 2, .int .i64 fl, .int .i64 mi, .string ai, .int .i64 pe, .int .i64 s1, .int .i64 s2] 59)) := (Below.refl _ _).alloc (Nat.le_refl _) _
          have hxa := heap_alloc_new wr (.cells #[.int .i64 2, .int .i64 fl, .int .i64 mi, .string ai, .int .i64 pe, .int .i64 s1, .int .i64 s2] 59)
          have hxlt : wr.heap.size < (wr.alloc (.cells #[.int .i64 2, .int .i64 fl, .int .i64 mi, .string ai, .int .i64 pe, .int .i64 s1, .int .i64 s2] 59)).heap.size := by simp
          have hgb : w1.heap.size < wr.heap.size := HFS.out.1.lt
          have HFA := Lib.hid (HFS.out.next hwa)
          have HXA := Lib.hid hxa
          have HFL : Hid (∀ V, Below wr.heap.size wr V → At V bf (of_ + fl.toNat * 9) (flightCells fx)) := fun V hV j u hu => by
            rw [World.cell?_block_at (hV.block bf (by have := HFS.out.2.size; omega))]
            exact hat2 j u hu
          have hwa2 := hwa
          clear hbS hxa hbF hat2
          go_upto_region 12 with (fail)
          clear y0 y1 y2 y3 y4 y5 y6
          have HXT2 := Lib.hid (HXT.out _ HFA.out.2)
          have hat := HFL.out _ hwa2
          generalize wr.alloc (.cells #[.int .i64 2, .int .i64 fl, .int .i64 mi, .string ai, .int .i64 pe, .int .i64 s1, .int .i64 s2] 59) = wa at *
          generalize hbx : wr.heap.size = bx at *
          have z1 : wa.cell? ⟨bx, 1, none⟩ = some (.int .i64 fl) := block_cell HXA.out 1
          have q2 : wa.cell? ⟨w.heap.size, 2, none⟩ = some (.slice (some ⟨bf, of_, none⟩) n3 c3) := block_cell HXT2.out 2
          have y0 : wa.cell? ⟨bf, of_ + fl.toNat * 9, none⟩ = some (.string fx.number) := hat 0 _ rfl
          have y1 := hat 1 _ rfl; have y2 := hat 2 _ rfl; have y3 := hat 3 _ rfl; have y4 := hat 4 _ rfl; have y5 := hat 5 _ rfl; have y6 := hat 6 _ rfl; have y7 := hat 7 _ rfl; have y8 := hat 8 _ rfl
          have hwb : Below wa.heap.size wa (wa.alloc (.cells #[.string fx.number, .string fx.src, .string fx.dst, .int .i64 fx.dep, .int .i64 fx.arr, .string fx.kind, .int .i64 fx.n0, .int .i64 fx.n1, .int .i64 fx.n2] 62)) := (Below.refl _ _).alloc (Nat.le_refl _) _
          have hyb := heap_alloc_new wa (.cells #[.string fx.number, .string fx.src, .string fx.dst, .int .i64 fx.dep, .int .i64 fx.arr, .string fx.kind, .int .i64 fx.n0, .int .i64 fx.n1, .int .i64 fx.n2] 62)
          have hylt : wa.heap.size < (wa.alloc (.cells #[.string fx.number, .string fx.src, .string fx.dst, .int .i64 fx.dep, .int .i64 fx.arr, .string fx.kind, .int .i64 fx.n0, .int .i64 fx.n1, .int .i64 fx.n2] 62)).heap.size := by simp
          have HFB := Lib.hid (HFA.out.next hwb)
          have HXB := Lib.hid ((hwb.block bx hxlt).trans HXA.out)
          have HYB := Lib.hid hyb
          have hxltb : bx < (wa.alloc (.cells #[.string fx.number, .string fx.src, .string fx.dst, .int .i64 fx.dep, .int .i64 fx.arr, .string fx.kind, .int .i64 fx.n0, .int .i64 fx.n1, .int .i64 fx.n2] 62)).heap.size := by simp; omega
          clear hat hwa hwa2 hwb hyb HFL HXT2 HFS
          go_upto_region 13 with (fail)
          clear y0 y1 y2 y3 y4 y5 y6 y7 y8 z1 q2
          generalize wa.alloc (.cells #[.string fx.number, .string fx.src, .string fx.dst, .int .i64 fx.dep, .int .i64 fx.arr, .string fx.kind, .int .i64 fx.n0, .int .i64 fx.n1, .int .i64 fx.n2] 62) = wb at *
          generalize hby : wa.heap.size = by_ at *
          have z3 : wb.cell? ⟨by_, 3, none⟩ = some (.int .i64 fx.dep) := block_cell HYB.out 3
          go_wp2_with fail
          refine (HI1.out wb (HBW.out.trans (HFB.out.2.mono hsw))).mono ?_
          rintro e w2 ⟨rfl, hb2⟩
          have HF2 := Lib.hid (HFB.out.next hb2)
          have hx2 := (hb2.block bx hxltb).trans HXB.out
          have hy2 := (hb2.block by_ hylt).trans HYB.out
          have HX2 := Lib.hid hx2
          have u0 : w2.cell? ⟨by_, 0, none⟩ = some (.string fx.number) := block_cell hy2 0
          have z0 : w2.cell? ⟨bx, 0, none⟩ = some (.int .i64 2) := block_cell hx2 0
          have hxlt2 := (Array.getElem?_eq_some_iff.1 hx2).1
          have HBR : Hid (Below w.heap.size w w2) := HBW.out.trans (HF2.out.2.mono hsw)
          clear hb2 hx2 hy2 z3 HI1 HFA HFB HXA HXB HYB hxlt hylt hxltb
          have qm0a : ¬ 9223372036854775807 < fx.number.size + 1 := by omega
          have qm0b : ¬ 9223372036854775807 < (fx.number).size + 1 := by rw [show (fx.number).size = fx.number.size by first | rfl | (simp only [ByteArray.size_append]; rfl)]; omega
          have qm1a : ¬ 9223372036854775807 < fx.number.size + 1 + iS.size := by omega
          have qm1b : ¬ 9223372036854775807 < (fx.number ++ (⟨#[32]⟩ : ByteArray)).size + iS.size := by rw [show (fx.number ++ (⟨#[32]⟩ : ByteArray)).size = fx.number.size + 1 by first | rfl | (simp only [ByteArray.size_append]; rfl)]; omega
          go_upto_region 15 with (fail)
          have hnmz : (fx.number ++ (⟨#[32]⟩ : ByteArray) ++ iS).size ≤ 16 + 1 + 16 := by simp only [ByteArray.size_append, sz1]; omega
          generalize fx.number ++ (⟨#[32]⟩ : ByteArray) ++ iS = nm at *
          clear u0 qm0a qm0b qm1a qm1b
          have hl5 : (pre ++ lineT (incF t ⟨2, fl, mi, ai, pe, ⟨s1, s2⟩⟩)).length ≤ 3000 := by have h9 := incF_up hg; rw [List.length_append] at h9 ⊢; omega
          have qb0a : ¬ 9223372036854775807 < 7 + nm.size := by omega
          have qb0b : ¬ 9223372036854775807 < ((⟨#[99, 97, 110, 99, 101, 108, 32]⟩ : ByteArray)).size + nm.size := by rw [show ((⟨#[99, 97, 110, 99, 101, 108, 32]⟩ : ByteArray)).size = 7 by first | rfl | (simp only [ByteArray.size_append]; rfl)]; omega
          have HW := Lib.hid (HF2.out.write ((⟨#[99, 97, 110, 99, 101, 108, 32]⟩ : ByteArray) ++ nm) (by simp only [ByteArray.size_append, sz1, szSick, szDelay, szCancel, szDivert]; omega))
          clear hg
          go_wp2_with fail
          refine HW.out.mono ?_
          rintro e w5 ⟨rfl, ⟨v5, hf5⟩, -⟩
          rw [HE.out] at hf5
          have HF5 := Lib.hid hf5
          clear hf5 HW HE HF2 HX2 HBR qb0a qb0b
          have HWN := Lib.hid (HF5.out.write (⟨#[10]⟩ : ByteArray) (by show _ + 1 ≤ _; omega))
          go_wp2_with fail
          refine HWN.out.mono ?_
          rintro e w8 ⟨rfl, ⟨v8, hf8⟩, -⟩
          try rw [nl_eq] at hf8
          rw [List.append_assoc, ← HSN.out] at hf8
          have HF8 := Lib.hid hf8
          clear hf8 HWN HSN HF5
          go_wp2_with fail
          go_roundw
          case rel => exact ⟨k + 1, v8, by omega, by go_num, HF8⟩
          case measure => simp [intOf]; omega
      · as_aux_lemma =>
          obtain ⟨⟨hf0, hf1⟩, hn, hd0, hd1⟩ := hg.fl (show ¬ ((3 : Int) = 4) by decide)
          have hmi := hg.min
          have hai := hg.air
          simp only at hf0 hf1 hn hd0 hd1 hmi hai
          have HL : Hid (lineT (incF t ⟨3, fl, mi, ai, pe, ⟨s1, s2⟩⟩) = lineT [divertS, (t.flights.getD fl.toNat noFlight).number, insD (t.flights.getD fl.toNat noFlight).dep, insC (t.flights.getD fl.toNat noFlight).dep, ai, numS mi]) := rfl
          obtain ⟨bf, of_, rfl, hbF, hat2⟩ := (HS3.out.keep (w' := wr) fun b hb => HFS.out.2.block b (by unfold all_ at hb; omega)).flight_at hf1
          have hbF' : bf < w.heap.size := hbF
          generalize t.flights.getD fl.toNat noFlight = fx at *
          have HI1 : Hid (∀ V, Below w.heap.size w V → Calls Tryz.prog 53 #[.int .i64 fx.dep] V (TxtB (insD fx.dep ++ blankS ++ insC fx.dep) V)) := fun V hV => insTxt_any fx.dep V (hd0) (hd1) (HPW.out V hV)
          have HN : Hid (∀ V, Below w.heap.size w V → Calls Tryz.prog 55 #[.int .i64 mi] V (StrB (numS mi) V)) := fun V hV => formatInt_any mi V (by omega) (by omega) (HPW.out V hV)
          have d3 := num_le (n := mi) (by omega)
          have HE := Lib.hid (divert_eq fx.number (insD fx.dep) (insC fx.dep) ai (numS mi))
          have d1 := ins_le (t := fx.dep) ⟨hd0, hd1⟩
          rw [← HL.out] at HE
          clear HL
          generalize numS mi = nS at *
          generalize insD fx.dep ++ blankS ++ insC fx.dep = iS at *
          have hwa : Below wr.heap.size wr (wr.alloc (.cells #[.int .i64 3, .int .i64 fl, .int .i64 mi, .string ai, .int .i64 pe, .int .i64 s1, .int .i64 s2] 59)) := (Below.refl _ _).alloc (Nat.le_refl _) _
          have hxa := heap_alloc_new wr (.cells #[.int .i64 3, .int .i64 fl, .int .i64 mi, .string ai, .int .i64 pe, .int .i64 s1, .int .i64 s2] 59)
          have hxlt : wr.heap.size < (wr.alloc (.cells #[.int .i64 3, .int .i64 fl, .int .i64 mi, .string ai, .int .i64 pe, .int .i64 s1, .int .i64 s2] 59)).heap.size := by simp
          have hgb : w1.heap.size < wr.heap.size := HFS.out.1.lt
          have HFA := Lib.hid (HFS.out.next hwa)
          have HXA := Lib.hid hxa
          have HFL : Hid (∀ V, Below wr.heap.size wr V → At V bf (of_ + fl.toNat * 9) (flightCells fx)) := fun V hV j u hu => by
            rw [World.cell?_block_at (hV.block bf (by have := HFS.out.2.size; omega))]
            exact hat2 j u hu
          have hwa2 := hwa
          clear hbS hxa hbF hat2
          go_upto_region 12 with (fail)
          clear y0 y1 y2 y3 y4 y5 y6
          have HXT2 := Lib.hid (HXT.out _ HFA.out.2)
          have hat := HFL.out _ hwa2
          generalize wr.alloc (.cells #[.int .i64 3, .int .i64 fl, .int .i64 mi, .string ai, .int .i64 pe, .int .i64 s1, .int .i64 s2] 59) = wa at *
          generalize hbx : wr.heap.size = bx at *
          have z1 : wa.cell? ⟨bx, 1, none⟩ = some (.int .i64 fl) := block_cell HXA.out 1
          have q2 : wa.cell? ⟨w.heap.size, 2, none⟩ = some (.slice (some ⟨bf, of_, none⟩) n3 c3) := block_cell HXT2.out 2
          have y0 : wa.cell? ⟨bf, of_ + fl.toNat * 9, none⟩ = some (.string fx.number) := hat 0 _ rfl
          have y1 := hat 1 _ rfl; have y2 := hat 2 _ rfl; have y3 := hat 3 _ rfl; have y4 := hat 4 _ rfl; have y5 := hat 5 _ rfl; have y6 := hat 6 _ rfl; have y7 := hat 7 _ rfl; have y8 := hat 8 _ rfl
          have hwb : Below wa.heap.size wa (wa.alloc (.cells #[.string fx.number, .string fx.src, .string fx.dst, .int .i64 fx.dep, .int .i64 fx.arr, .string fx.kind, .int .i64 fx.n0, .int .i64 fx.n1, .int .i64 fx.n2] 62)) := (Below.refl _ _).alloc (Nat.le_refl _) _
          have hyb := heap_alloc_new wa (.cells #[.string fx.number, .string fx.src, .string fx.dst, .int .i64 fx.dep, .int .i64 fx.arr, .string fx.kind, .int .i64 fx.n0, .int .i64 fx.n1, .int .i64 fx.n2] 62)
          have hylt : wa.heap.size < (wa.alloc (.cells #[.string fx.number, .string fx.src, .string fx.dst, .int .i64 fx.dep, .int .i64 fx.arr, .string fx.kind, .int .i64 fx.n0, .int .i64 fx.n1, .int .i64 fx.n2] 62)).heap.size := by simp
          have HFB := Lib.hid (HFA.out.next hwb)
          have HXB := Lib.hid ((hwb.block bx hxlt).trans HXA.out)
          have HYB := Lib.hid hyb
          have hxltb : bx < (wa.alloc (.cells #[.string fx.number, .string fx.src, .string fx.dst, .int .i64 fx.dep, .int .i64 fx.arr, .string fx.kind, .int .i64 fx.n0, .int .i64 fx.n1, .int .i64 fx.n2] 62)).heap.size := by simp; omega
          clear hat hwa hwa2 hwb hyb HFL HXT2 HFS
          go_upto_region 13 with (fail)
          clear y0 y1 y2 y3 y4 y5 y6 y7 y8 z1 q2
          generalize wa.alloc (.cells #[.string fx.number, .string fx.src, .string fx.dst, .int .i64 fx.dep, .int .i64 fx.arr, .string fx.kind, .int .i64 fx.n0, .int .i64 fx.n1, .int .i64 fx.n2] 62) = wb at *
          generalize hby : wa.heap.size = by_ at *
          have z3 : wb.cell? ⟨by_, 3, none⟩ = some (.int .i64 fx.dep) := block_cell HYB.out 3
          go_wp2_with fail
          refine (HI1.out wb (HBW.out.trans (HFB.out.2.mono hsw))).mono ?_
          rintro e w2 ⟨rfl, hb2⟩
          have HF2 := Lib.hid (HFB.out.next hb2)
          have hx2 := (hb2.block bx hxltb).trans HXB.out
          have hy2 := (hb2.block by_ hylt).trans HYB.out
          have HX2 := Lib.hid hx2
          have u0 : w2.cell? ⟨by_, 0, none⟩ = some (.string fx.number) := block_cell hy2 0
          have z0 : w2.cell? ⟨bx, 0, none⟩ = some (.int .i64 3) := block_cell hx2 0
          have hxlt2 := (Array.getElem?_eq_some_iff.1 hx2).1
          have HBR : Hid (Below w.heap.size w w2) := HBW.out.trans (HF2.out.2.mono hsw)
          clear hb2 hx2 hy2 z3 HI1 HFA HFB HXA HXB HYB hxlt hylt hxltb
          have qm0a : ¬ 9223372036854775807 < fx.number.size + 1 := by omega
          have qm0b : ¬ 9223372036854775807 < (fx.number).size + 1 := by rw [show (fx.number).size = fx.number.size by first | rfl | (simp only [ByteArray.size_append]; rfl)]; omega
          have qm1a : ¬ 9223372036854775807 < fx.number.size + 1 + iS.size := by omega
          have qm1b : ¬ 9223372036854775807 < (fx.number ++ (⟨#[32]⟩ : ByteArray)).size + iS.size := by rw [show (fx.number ++ (⟨#[32]⟩ : ByteArray)).size = fx.number.size + 1 by first | rfl | (simp only [ByteArray.size_append]; rfl)]; omega
          go_upto_region 15 with (fail)
          have hnmz : (fx.number ++ (⟨#[32]⟩ : ByteArray) ++ iS).size ≤ 16 + 1 + 16 := by simp only [ByteArray.size_append, sz1]; omega
          generalize fx.number ++ (⟨#[32]⟩ : ByteArray) ++ iS = nm at *
          clear u0 qm0a qm0b qm1a qm1b
          have hl5 : (pre ++ lineT (incF t ⟨3, fl, mi, ai, pe, ⟨s1, s2⟩⟩)).length ≤ 3000 := by have h9 := incF_up hg; rw [List.length_append] at h9 ⊢; omega
          have z2 : w2.cell? ⟨bx, 2, none⟩ = some (.int .i64 mi) := block_cell HX2.out 2
          have z3 : w2.cell? ⟨bx, 3, none⟩ = some (.string ai) := block_cell HX2.out 3
          clear hg
          go_upto_region 21 with (fail)
          obtain ⟨Xr1, hXr1⟩ : ∃ X, (⟨#[100, 105, 118, 101, 114, 116, 32]⟩ : ByteArray) ++ nm = X := ⟨_, rfl⟩
          have uXr1 : Xr1.size ≤ 7 + nm.size := by rw [← hXr1, ByteArray.size_append]; exact Nat.le_refl _
          have HXr1 := Lib.hid hXr1
          have vXr1 : ¬ 9223372036854775807 < 7 + nm.size := by omega
          obtain ⟨Xr2, hXr2⟩ : ∃ X, Xr1 ++ (⟨#[32]⟩ : ByteArray) = X := ⟨_, rfl⟩
          have uXr2 : Xr2.size ≤ Xr1.size + 1 := by rw [← hXr2, ByteArray.size_append]; exact Nat.le_refl _
          have HXr2 := Lib.hid hXr2
          have vXr2 : ¬ 9223372036854775807 < Xr1.size + 1 := by omega
          obtain ⟨Xr5, hXr5⟩ : ∃ X, Xr2 ++ ai = X := ⟨_, rfl⟩
          have uXr5 : Xr5.size ≤ Xr2.size + ai.size := by rw [← hXr5, ByteArray.size_append]; exact Nat.le_refl _
          have HXr5 := Lib.hid hXr5
          have vXr5 : ¬ 9223372036854775807 < Xr2.size + ai.size := by omega
          obtain ⟨Xr6, hXr6⟩ : ∃ X, Xr5 ++ (⟨#[32]⟩ : ByteArray) = X := ⟨_, rfl⟩
          have uXr6 : Xr6.size ≤ Xr5.size + 1 := by rw [← hXr6, ByteArray.size_append]; exact Nat.le_refl _
          have HXr6 := Lib.hid hXr6
          have vXr6 : ¬ 9223372036854775807 < Xr5.size + 1 := by omega
          obtain ⟨Xr10, hXr10⟩ : ∃ X, Xr6 ++ nS = X := ⟨_, rfl⟩
          have uXr10 : Xr10.size ≤ Xr6.size + nS.size := by rw [← hXr10, ByteArray.size_append]; exact Nat.le_refl _
          have HXr10 := Lib.hid hXr10
          have vXr10 : ¬ 9223372036854775807 < Xr6.size + nS.size := by omega
          clear hXr1 hXr2 hXr5 hXr6 hXr10
          have HALL : Hid ((⟨#[100, 105, 118, 101, 114, 116, 32]⟩ : ByteArray) ++ nm ++ (⟨#[32]⟩ : ByteArray) ++ ai ++ (⟨#[32]⟩ : ByteArray) ++ nS = Xr10) := by show _ = _; rw [HXr1.out, HXr2.out, HXr5.out, HXr6.out, HXr10.out]
          refine wp_region_factsB 11 [99, 100, 101, 102, 103, 104, 105, 106, 107, 108, 109] (fun i v x => (([(fun v _ => v = .string nm), (fun v _ => v = .string Xr1), (fun v _ => v = .string Xr2), (fun v _ => v = .pointer (some ⟨bx, 3, none⟩)), (fun v _ => v = .string ai), (fun v _ => v = .string Xr5), (fun v _ => v = .string Xr6), (fun v _ => v = .pointer (some ⟨bx, 2, none⟩)), (fun v _ => v = .int .i64 mi), (fun v _ => v = .string nS), (fun v _ => v = .string Xr10)] : List (Value → World → Prop)).getD i (fun _ _ => True)) v x) (by kernel_rfl) (by kernel_rfl) (by kernel_rfl) (by kernel_rfl) (by kernel_rfl) ?_ ?_ ?_
          · intro i v x x' h hx
            rcases Nat.lt_or_ge i 11 with hi | hi
            · have hi' : i = 0 ∨ i = 1 ∨ i = 2 ∨ i = 3 ∨ i = 4 ∨ i = 5 ∨ i = 6 ∨ i = 7 ∨ i = 8 ∨ i = 9 ∨ i = 10 := by omega
              rcases hi' with rfl | rfl | rfl | rfl | rfl | rfl | rfl | rfl | rfl | rfl | rfl
              · exact h
              · exact h
              · exact h
              · exact h
              · exact h
              · exact h
              · exact h
              · exact h
              · exact h
              · exact h
              · exact h
            · rw [List.getD_eq_getElem?_getD, List.getElem?_eq_none (by simpa using hi)]; trivial
          · intro q o' hq ho a' w' hb' hout hpre K hK
            have hq' : q = 0 ∨ q = 1 ∨ q = 2 ∨ q = 3 ∨ q = 4 ∨ q = 5 ∨ q = 6 ∨ q = 7 ∨ q = 8 ∨ q = 9 ∨ q = 10 := by omega
            rcases hq' with rfl | rfl | rfl | rfl | rfl | rfl | rfl | rfl | rfl | rfl | rfl
            · obtain rfl := Option.some.inj ho
              have e19 : a'.tmps[19]? = some (.string nm) := hout 19 (by decide)
              go_simp
              exact hK (.string nm) w' rfl (Below.refl _ _)
            · obtain rfl := Option.some.inj ho
              have p0 : a'.tmps.getD 99 undef = .string nm := hpre ⟨0, .data⟩ (by simp) 99 rfl
              simp only [Array.getD_eq_getD_getElem?] at p0
              go_simp
              exact hK _ _ (congrArg Value.string HXr1.out) (Below.refl _ _)
            · obtain rfl := Option.some.inj ho
              have p1 : a'.tmps.getD 100 undef = .string Xr1 := hpre ⟨1, .data⟩ (by simp) 100 rfl
              simp only [Array.getD_eq_getD_getElem?] at p1
              go_simp
              exact hK _ _ (congrArg Value.string HXr2.out) (Below.refl _ _)
            · obtain rfl := Option.some.inj ho
              have e11 : a'.tmps[11]? = some (.pointer (some ⟨bx, 0, none⟩)) := hout 11 (by decide)
              go_simp
              exact hK (.pointer (some ⟨bx, 3, none⟩)) w' rfl (Below.refl _ _)
            · obtain rfl := Option.some.inj ho
              have p3 : a'.tmps.getD 102 undef = .pointer (some ⟨bx, 3, none⟩) := hpre ⟨3, .data⟩ (by simp) 102 rfl
              simp only [Array.getD_eq_getD_getElem?] at p3
              have c4 := cell_kept z3 hb'
              go_simp
              exact hK (.string ai) w' rfl (Below.refl _ _)
            · obtain rfl := Option.some.inj ho
              have p2 : a'.tmps.getD 101 undef = .string Xr2 := hpre ⟨2, .data⟩ (by simp) 101 rfl
              simp only [Array.getD_eq_getD_getElem?] at p2
              have p4 : a'.tmps.getD 103 undef = .string ai := hpre ⟨4, .data⟩ (by simp) 103 rfl
              simp only [Array.getD_eq_getD_getElem?] at p4
              go_simp
              exact hK _ _ (congrArg Value.string HXr5.out) (Below.refl _ _)
            · obtain rfl := Option.some.inj ho
              have p5 : a'.tmps.getD 104 undef = .string Xr5 := hpre ⟨5, .data⟩ (by simp) 104 rfl
              simp only [Array.getD_eq_getD_getElem?] at p5
              go_simp
              exact hK _ _ (congrArg Value.string HXr6.out) (Below.refl _ _)
            · obtain rfl := Option.some.inj ho
              have e11 : a'.tmps[11]? = some (.pointer (some ⟨bx, 0, none⟩)) := hout 11 (by decide)
              go_simp
              exact hK (.pointer (some ⟨bx, 2, none⟩)) w' rfl (Below.refl _ _)
            · obtain rfl := Option.some.inj ho
              have p7 : a'.tmps.getD 106 undef = .pointer (some ⟨bx, 2, none⟩) := hpre ⟨7, .data⟩ (by simp) 106 rfl
              simp only [Array.getD_eq_getD_getElem?] at p7
              have c8 := cell_kept z2 hb'
              go_simp
              exact hK (.int .i64 mi) w' rfl (Below.refl _ _)
            · obtain rfl := Option.some.inj ho
              have p8 : a'.tmps.getD 107 undef = .int .i64 mi := hpre ⟨8, .data⟩ (by simp) 107 rfl
              simp only [Array.getD_eq_getD_getElem?] at p8
              go_simp
              go_at_call 55
              refine (HN.out w' (HBR.out.trans (hb'.mono HBR.out.size))).mono ?_
              rintro e w'' ⟨rfl, hb''⟩
              exact hK _ _ rfl hb''
            · obtain rfl := Option.some.inj ho
              have p6 : a'.tmps.getD 105 undef = .string Xr6 := hpre ⟨6, .data⟩ (by simp) 105 rfl
              simp only [Array.getD_eq_getD_getElem?] at p6
              have p9 : a'.tmps.getD 108 undef = .string nS := hpre ⟨9, .data⟩ (by simp) 108 rfl
              simp only [Array.getD_eq_getD_getElem?] at p9
              go_simp
              exact hK _ _ (congrArg Value.string HXr10.out) (Below.refl _ _)
          · intro us w' hb' hfacts
            have h10 : us 10 = .string Xr10 := hfacts 10 (by decide)
            simp only [putL, Act.put, List.setIfInBounds_toArray, List.set_cons_zero, List.set_cons_succ, Nat.zero_add, Nat.reduceAdd]
            generalize us 10 = x10 at *
            subst h10
            simp only [List.drop_succ_cons, List.drop_zero]
            clear hfacts
            have HF3 := Lib.hid (HF2.out.next hb')
            have HW := Lib.hid (HF3.out.write Xr10 (by omega))
            have HE2 : Hid (Xr10.data.toList = lineT (incF t ⟨3, fl, mi, ai, pe, ⟨s1, s2⟩⟩)) := by
              show _ = _
              rw [← HALL.out, HE.out]
            clear hb' HALL HE HN HF2 HX2 HBR z0 z2 z3 uXr1 vXr1 HXr1 uXr2 vXr2 HXr2 uXr5 vXr5 HXr5 uXr6 vXr6 HXr6 vXr10 HXr10
            generalize Xr10 = s7 at *
            go_wp2_with fail
            refine HW.out.mono ?_
            rintro e w5 ⟨rfl, ⟨v5, hf5⟩, -⟩
            rw [HE2.out] at hf5
            have HF5 := Lib.hid hf5
            clear hf5 HW HE2 HF3
            have HWN := Lib.hid (HF5.out.write (⟨#[10]⟩ : ByteArray) (by show _ + 1 ≤ _; omega))
            go_wp2_with fail
            refine HWN.out.mono ?_
            rintro e w8 ⟨rfl, ⟨v8, hf8⟩, -⟩
            try rw [nl_eq] at hf8
            rw [List.append_assoc, ← HSN.out] at hf8
            have HF8 := Lib.hid hf8
            clear hf8 HWN HSN HF5
            go_wp2_with fail
            go_roundw
            case rel => exact ⟨k + 1, v8, by omega, by go_num, HF8⟩
            case measure => simp [intOf]; omega
      · as_aux_lemma =>
          obtain ⟨hp1, hp2, hp3, hp4⟩ := hg.sick rfl
          simp only at hp1 hp2 hp3 hp4
          have HI1 : Hid (∀ V, Below w.heap.size w V → Calls Tryz.prog 53 #[.int .i64 s1] V (TxtB (insD s1 ++ blankS ++ insC s1) V)) := fun V hV => insTxt_any s1 V (by omega) (by omega) (HPW.out V hV)
          have HI2 : Hid (∀ V, Below w.heap.size w V → Calls Tryz.prog 53 #[.int .i64 (s2 - 1)] V (TxtB (insD (s2 - 1) ++ blankS ++ insC (s2 - 1)) V)) := fun V hV => insTxt_any (s2 - 1) V (by omega) (by omega) (HPW.out V hV)
          have HN : Hid (∀ V, Below w.heap.size w V → Calls Tryz.prog 55 #[.int .i64 pe] V (StrB (numS pe) V)) := fun V hV => formatInt_any pe V (by omega) (by omega) (HPW.out V hV)
          have HE := Lib.hid (sick_eq (numS pe) (insD s1) (insC s1) (insD (s2 - 1)) (insC (s2 - 1)))
          have HL : Hid (lineT (incF t ⟨4, fl, mi, ai, pe, ⟨s1, s2⟩⟩) = lineT [sickS, numS pe, insD s1, insC s1, insD (s2 - 1), insC (s2 - 1)]) := rfl
          have d1 := ins_le (t := s1) (by omega)
          have d2 := ins_le (t := s2 - 1) (by omega)
          have d3 := num_le (n := pe) (by omega)
          have hsub : IntKind.i64.wrap (s2 - 1) = s2 - 1 := IntWalk.i64_in _ (by omega)
          rw [← HL.out] at HE
          clear HL
          generalize numS pe = nS at *
          generalize insD s1 ++ blankS ++ insC s1 = iS at *
          generalize insD (s2 - 1) ++ blankS ++ insC (s2 - 1) = jS at *
          have hwa : Below wr.heap.size wr (wr.alloc (.cells #[.int .i64 4, .int .i64 fl, .int .i64 mi, .string ai, .int .i64 pe, .int .i64 s1, .int .i64 s2] 59)) := (Below.refl _ _).alloc (Nat.le_refl _) _
          have hxa := heap_alloc_new wr (.cells #[.int .i64 4, .int .i64 fl, .int .i64 mi, .string ai, .int .i64 pe, .int .i64 s1, .int .i64 s2] 59)
          have hxlt : wr.heap.size < (wr.alloc (.cells #[.int .i64 4, .int .i64 fl, .int .i64 mi, .string ai, .int .i64 pe, .int .i64 s1, .int .i64 s2] 59)).heap.size := by simp
          have hgb : w1.heap.size < wr.heap.size := HFS.out.1.lt
          have HFA := Lib.hid (HFS.out.next hwa)
          have HXA := Lib.hid hxa
          clear hbS hwa hxa HFS hp1 hp2 hp3 hp4 hg
          go_upto_region 9 with (fail)
          clear y0 y1 y2 y3 y4 y5 y6
          generalize wr.alloc (.cells #[.int .i64 4, .int .i64 fl, .int .i64 mi, .string ai, .int .i64 pe, .int .i64 s1, .int .i64 s2] 59) = wa at *
          generalize hbx : wr.heap.size = bx at *
          have z5 : wa.cell? ⟨bx, 5, none⟩ = some (.int .i64 s1) := block_cell HXA.out 5
          go_wp2_with fail
          refine (HI1.out wa (HBW.out.trans (HFA.out.2.mono hsw))).mono ?_
          rintro e w2 ⟨rfl, hb2⟩
          have HF2 := Lib.hid (HFA.out.next hb2)
          have hx2 := (hb2.block bx hxlt).trans HXA.out
          have HX2 := Lib.hid hx2
          have z6 : w2.cell? ⟨bx, 6, none⟩ = some (.int .i64 s2) := block_cell hx2 6
          have hxlt2 := (Array.getElem?_eq_some_iff.1 hx2).1
          clear hb2 hx2 z5 HI1 HFA HXA hxlt
          go_wp2_with fail
          refine (HI2.out w2 (HBW.out.trans (HF2.out.2.mono hsw))).mono ?_
          rintro e w3 ⟨rfl, hb3⟩
          have HF3 := Lib.hid (HF2.out.next hb3)
          have hx3 := (hb3.block bx hxlt2).trans HX2.out
          have z4 : w3.cell? ⟨bx, 4, none⟩ = some (.int .i64 pe) := block_cell hx3 4
          clear hb3 hx3 z6 HI2 HF2 HX2 hxlt2 hsub
          go_wp2_with fail
          refine (HN.out w3 (HBW.out.trans (HF3.out.2.mono hsw))).mono ?_
          rintro e w4 ⟨rfl, hb4⟩
          have HF4 := Lib.hid (HF3.out.next hb4)
          have HW := Lib.hid (HF4.out.write ((⟨#[115, 105, 99, 107, 32]⟩ : ByteArray) ++ nS ++ (⟨#[32]⟩ : ByteArray) ++ iS ++ (⟨#[32]⟩ : ByteArray) ++ jS ++ (⟨#[10]⟩ : ByteArray)) (by simp only [ByteArray.size_append, sz1, szSick, szDelay, szCancel, szDivert]; omega))
          have qa0a : ¬ 9223372036854775807 < 5 + nS.size := by omega
          have qa0b : ¬ 9223372036854775807 < ((⟨#[115, 105, 99, 107, 32]⟩ : ByteArray)).size + nS.size := by rw [show ((⟨#[115, 105, 99, 107, 32]⟩ : ByteArray)).size = 5 by first | rfl | (simp only [ByteArray.size_append]; rfl)]; omega
          have qa1a : ¬ 9223372036854775807 < 5 + nS.size + 1 := by omega
          have qa1b : ¬ 9223372036854775807 < ((⟨#[115, 105, 99, 107, 32]⟩ : ByteArray) ++ nS).size + 1 := by rw [show ((⟨#[115, 105, 99, 107, 32]⟩ : ByteArray) ++ nS).size = 5 + nS.size by first | rfl | (simp only [ByteArray.size_append]; rfl)]; omega
          have qa2a : ¬ 9223372036854775807 < 5 + nS.size + 1 + iS.size := by omega
          have qa2b : ¬ 9223372036854775807 < ((⟨#[115, 105, 99, 107, 32]⟩ : ByteArray) ++ nS ++ (⟨#[32]⟩ : ByteArray)).size + iS.size := by rw [show ((⟨#[115, 105, 99, 107, 32]⟩ : ByteArray) ++ nS ++ (⟨#[32]⟩ : ByteArray)).size = 5 + nS.size + 1 by first | rfl | (simp only [ByteArray.size_append]; rfl)]; omega
          have qa3a : ¬ 9223372036854775807 < 5 + nS.size + 1 + iS.size + 1 := by omega
          have qa3b : ¬ 9223372036854775807 < ((⟨#[115, 105, 99, 107, 32]⟩ : ByteArray) ++ nS ++ (⟨#[32]⟩ : ByteArray) ++ iS).size + 1 := by rw [show ((⟨#[115, 105, 99, 107, 32]⟩ : ByteArray) ++ nS ++ (⟨#[32]⟩ : ByteArray) ++ iS).size = 5 + nS.size + 1 + iS.size by first | rfl | (simp only [ByteArray.size_append]; rfl)]; omega
          have qa4a : ¬ 9223372036854775807 < 5 + nS.size + 1 + iS.size + 1 + jS.size := by omega
          have qa4b : ¬ 9223372036854775807 < ((⟨#[115, 105, 99, 107, 32]⟩ : ByteArray) ++ nS ++ (⟨#[32]⟩ : ByteArray) ++ iS ++ (⟨#[32]⟩ : ByteArray)).size + jS.size := by rw [show ((⟨#[115, 105, 99, 107, 32]⟩ : ByteArray) ++ nS ++ (⟨#[32]⟩ : ByteArray) ++ iS ++ (⟨#[32]⟩ : ByteArray)).size = 5 + nS.size + 1 + iS.size + 1 by first | rfl | (simp only [ByteArray.size_append]; rfl)]; omega
          have qa5a : ¬ 9223372036854775807 < 5 + nS.size + 1 + iS.size + 1 + jS.size + 1 := by omega
          have qa5b : ¬ 9223372036854775807 < ((⟨#[115, 105, 99, 107, 32]⟩ : ByteArray) ++ nS ++ (⟨#[32]⟩ : ByteArray) ++ iS ++ (⟨#[32]⟩ : ByteArray) ++ jS).size + 1 := by rw [show ((⟨#[115, 105, 99, 107, 32]⟩ : ByteArray) ++ nS ++ (⟨#[32]⟩ : ByteArray) ++ iS ++ (⟨#[32]⟩ : ByteArray) ++ jS).size = 5 + nS.size + 1 + iS.size + 1 + jS.size by first | rfl | (simp only [ByteArray.size_append]; rfl)]; omega
          clear hb4 z4 HN HF3
          go_wp2_with fail
          refine HW.out.mono ?_
          rintro e w8 ⟨rfl, ⟨v8, hf8⟩, -⟩
          rw [HE.out, ← HSN.out] at hf8
          have HF8 := Lib.hid hf8
          clear hf8 HW HE HSN HF4 qa0a qa0b qa1a qa1b qa2a qa2b qa3a qa3b qa4a qa4b qa5a qa5b
          go_wp2_with fail
          go_roundw
          case rel => exact ⟨k + 1, v8, by omega, by go_num, HF8⟩
          case measure => simp [intOf]; omega
    · rw [List.take_of_length_le (by omega)] at HFS hlen
      have HLEN := Lib.hid (bldLen_any _ v _ wr HFS.out.1)
      have HSTR := Lib.hid (bldString_any _ v _ wr HFS.out.1)
      have HBE : Hid (Below w.heap.size w wr) := HBW.out.trans (HFS.out.2.mono hsw)
      have HRS : Hid (bs (textT (l.map (incF t))) = incS t l) := rfl
      generalize textT (l.map (incF t)) = L at *
      go_wp2_with fail
      refine HLEN.out.mono ?_
      rintro e w' ⟨rfl, rfl⟩
      have hbig' : ¬ ((20000 : Int) < (L.length : Nat)) := by omega
      clear HLEN
      go_wp2_with fail
      refine HSTR.out.mono ?_
      rintro e w' ⟨rfl, hb9⟩
      have HB9 : Hid (Below w.heap.size w w') := HBE.out.trans (hb9.mono (by have := HBW.out.size; omega))
      clear hb9
      go_wp2_with fail
      go_ret2
      refine ⟨?_, HB9.out⟩
      rw [HRS.out]
      rfl
set_option maxRecDepth 100000 in
theorem incFormat_any (t : GTT) (ps : List GPerson) (l : List GInc) (A1 A2 A3 A4 A5 : Option Addr) (n1 n2 n3 n4 n5 c1 c2 c3 c4 c5 : Nat) (w : World) (ht : t.ok) (hp : ∀ p ∈ ps, p.ok) (hs1 : Sl Ty.zone w (all_ w) A1 n1 c1 t.zones) (hs2 : Sl Ty.airport w (all_ w) A2 n2 c2 t.airports) (hs3 : Sl Ty.flight w (all_ w) A3 n3 c3 t.flights) (hs4 : Sl Ty.person w (all_ w) A4 n4 c4 ps) (hs5 : Sl Ty.inc w (all_ w) A5 n5 c5 l) (hpw : Pow10 w) :
    Calls Tryz.prog 24 #[.agg #[.slice A1 n1 c1, .slice A2 n2 c2, .slice A3 n3 c3], .slice A4 n4 c4, .slice A5 n5 c5] w (FmtPost (fmtI t ps l) w) := by
  by_cases hv : incE t ps l = 0
  · rw [fmtI_zero hv]
    exact incFormat_ok t ps l A1 A2 A3 A4 A5 n1 n2 n3 n4 n5 c1 c2 c3 c4 c5 w ht hp hs1 hs2 hs3 hs4 hs5 hv hpw
  · unfold fmtI
    rw [if_pos hv]
    have ha : ∀ o, Below w.heap.size w (w.alloc o) := fun o => (Below.refl _ _).alloc (Nat.le_refl _) _
    have HV : Hid (∀ o, Calls Tryz.prog 16 #[.agg #[.slice A1 n1 c1, .slice A2 n2 c2, .slice A3 n3 c3], .slice A4 n4 c4, .slice A5 n5 c5] (w.alloc o) (ErrPost (incE t ps l) (w.alloc o))) := fun o => incValidate_any t ps l A1 A2 A3 A4 A5 n1 n2 n3 n4 n5 c1 c2 c3 c4 c5 (w.alloc o) ht hp (hs1.next (ha o)) (hs2.next (ha o)) (hs3.next (ha o)) (hs4.next (ha o)) (hs5.next (ha o))
    have HB0 := Lib.hid (ha (.cells #[.slice A1 n1 c1, .slice A2 n2 c2, .slice A3 n3 c3] 27))
    generalize incE t ps l = er at *
    have hv' : (er == 0) = false := by simpa using hv
    clear ha hs1 hs2 hs3 hs4 hs5 ht hp hpw
    go_enter Tryz.func24, Tryz.ntmps24
    go_wp2_with fail
    refine (HV.out _).mono ?_
    rintro e w1 ⟨rfl, hb1⟩
    have HB1 : Hid (Below w.heap.size w w1) := HB0.out.trans (hb1.mono HB0.out.size)
    clear hb1 HB0 HV
    go_wp2_with fail
    go_ret2
    exact ⟨rfl, HB1.out⟩
end Go.Proofs.YtifconapjfdkcaaGreatDoor
/-
  Contracts of text.Lines and of the reference's Lines: both return the specified lines or the error's number, in new memory, and change nothing that was there.
  Condition: the string's length fits an int; the library's variable MaxLen holds an int.
-/
namespace Go.Proofs.YtifconapjfdkcaaGreatDoor
set_option linter.unusedSimpArgs false
set_option linter.unusedVariables false
open Go.RowKit

def trimB (s : ByteArray) : ByteArray := bs (Lib.trimSuffix s.data.toList [10])
theorem trimB_size (s : ByteArray) : (trimB s).size ≤ s.size := by
  unfold trimB Lib.trimSuffix
  rw [bs_size, Lib.size_eq]
  split
  · rw [List.length_take]; omega
  · exact Nat.le_refl _
theorem trim_any (s : ByteArray) (w : World) (hs : s.size ≤ 9223372036854775807) :
    Calls Tryz.prog 96 #[.string s, .string ⟨#[10]⟩] w fun e w' => e = .returned (.string (trimB s)) ∧ w = w' := by
  refine (Tryz.strings_TrimSuffix s ⟨#[10]⟩ w hs).mono ?_
  rintro e w' ⟨rfl, rfl⟩
  exact ⟨rfl, rfl⟩
theorem pieces_trim (s : ByteArray) (hne : s.size ≠ 0) : piecesB 10 (trimB s) = (linesL s.data.toList).map bs := by
  unfold piecesB trimB
  rw [bs_data, linesL_trim]
  intro e
  have := Lib.size_eq s
  rw [e] at this
  exact hne this
theorem lines_empty (s : ByteArray) (h : s.size = 0) : linesL s.data.toList = [] := by
  have h2 := Lib.size_eq s
  rw [List.eq_nil_of_length_eq_zero (l := s.data.toList) (by omega)]
  rfl

/-- What Lines hands back: the lines in memory and the error's number. -/
def LinesPost (s : ByteArray) (w : World) (e : Ending) (w' : World) : Prop :=
  ∃ A n c, e = .returned (.tuple #[.slice A n c, .int .i64 (linesB s).2]) ∧ Sl Ty.str w' (all_ w') A n c (linesB s).1 ∧ Below w.heap.size w w'

set_option maxHeartbeats 800000 in
theorem lines_any (s : ByteArray) (w : World) (hs : s.size ≤ maxLen) (hg : Glo w) :
    Calls Tryz.prog 60 #[.string s] w (LinesPost s w) := by
  unfold maxLen at hs
  by_cases hbig : 20000 < s.size
  · have HL : Hid (linesB s = ([], 10)) := by show linesB s = _; unfold linesB; rw [if_pos hbig]
    go_enter Tryz.func60, Tryz.ntmps60
    go_wp2_with fail
    go_ret2
    refine ⟨none, 0, 0, ?_, ?_, Below.refl _ _⟩
    · rw [HL.out]; rfl
    · rw [HL.out]; exact Sl.nil0
  · go_enter Tryz.func60, Tryz.ntmps60
    go_wp2_with fail
    go_loop [11] (fun i => ∃ k : Nat, k ≤ s.size ∧ i = .int .i64 k ∧ Hid (allTo (okByte s) k = true)) (fun i => s.size - (intOf i).toNat)
    case atStart => exact ⟨0, Nat.zero_le _, rfl, rfl⟩
    case round =>
      obtain ⟨k, hk, rfl, HA⟩ := hrel
      by_cases hlt : k < s.size
      · have HB := Lib.hid (byteAt_eq s k hlt)
        go_wp2_with fail
        all_goals
          have HB' := HB.out
          first
          | (have hv : okByte s k = true := by unfold okByte; grind
             go_round
             case rel => exact ⟨k + 1, by omega, by go_num, by show allTo _ _ = true; rw [allTo_succ, HA.out, hv]; rfl⟩
             case measure => simp [intOf]; omega)
          | (have hv : okByte s k = false := by unfold okByte; grind
             have HL : Hid (linesB s = ([], 1)) := by show linesB s = _; unfold linesB; rw [if_neg hbig, if_pos (allTo_false hlt hv)]
             go_ret2
             refine ⟨none, 0, 0, ?_, ?_, Below.refl _ _⟩
             · rw [HL.out]; rfl
             · rw [HL.out]; exact Sl.nil0)
      · have hkk : k = s.size := by omega
        have hall : allTo (okByte s) s.size = true := by rw [← hkk]; exact HA.out
        by_cases h0 : s.size = 0
        · have hemp : s.toList.isEmpty = true := by
            rw [ByteArray.toList_eq, List.isEmpty_iff]
            exact List.eq_nil_of_length_eq_zero (by rw [← Lib.size_eq]; exact h0)
          have HL : Hid (linesB s = ([], 0)) := by
            show linesB s = _
            unfold linesB
            rw [if_neg hbig, if_neg (by rw [hall]; decide), lines_empty s h0, if_neg (by decide)]
            rfl
          clear HA hall h0 hkk
          go_wp2_with fail
          go_ret2
          refine ⟨none, 0, 0, ?_, ?_, Below.refl _ _⟩
          · rw [HL.out]; rfl
          · rw [HL.out]; exact Sl.nil0
        · have hemp : s.toList.isEmpty = false := by
            rw [ByteArray.toList_eq, Bool.eq_false_iff]
            intro h
            rw [List.isEmpty_iff] at h
            have := Lib.size_eq s
            rw [h] at this
            exact h0 this
          have HP := Lib.hid (pieces_trim s h0)
          have hpl := piecesB_le 10 (trimB s)
          have htb := trimB_size s
          have HL : Hid (linesB s = if 1000 < (piecesB 10 (trimB s)).length then ([], 10) else (piecesB 10 (trimB s), 0)) := by
            show linesB s = _
            unfold linesB
            rw [if_neg hbig, if_neg (by rw [hall]; decide), HP.out, List.length_map]
          clear HA hall h0 hkk HP
          go_wp2_with fail
          refine (trim_any s _ (by omega)).mono ?_
          rintro e w' ⟨rfl, rfl⟩
          go_wp2_with fail
          refine (split_any _ _ _ (by omega) hg).mono ?_
          rintro e w' ⟨rfl, rfl⟩
          generalize hps : piecesB 10 (trimB s) = ps at *
          clear hps
          have hbl : Below w.heap.size w (w.alloc (.cells (ps.map Value.string).toArray 9)) := (Below.refl _ _).alloc (Nat.le_refl _) _
          have HS : Hid (Sl Ty.str (w.alloc (.cells (ps.map Value.string).toArray 9)) (all_ (w.alloc (.cells (ps.map Value.string).toArray 9))) (some ⟨w.heap.size, 0, none⟩) ps.length ps.length ps) := by
            refine ⟨rfl, Nat.le_refl _, by unfold maxLen; omega, fun _ => ⟨_, _, rfl, by unfold all_; simp, fun i x hi => ⟨[.string x], rfl, fun j u hu => ?_⟩⟩⟩
            rcases j with _ | j
            · simp at hu
              subst hu
              simp only [Ty.str, Nat.zero_add, Nat.mul_one, Nat.add_zero]
              rw [World.cell?_alloc_at _ _ _ _ rfl]
              simp [hi]
            · simp at hu
          by_cases h1000 : 1000 < ps.length
          · go_wp2_with fail
            go_ret2
            refine ⟨none, 0, 0, ?_, ?_, hbl⟩
            · rw [HL.out, if_pos h1000]; rfl
            · rw [HL.out, if_pos h1000]; exact Sl.nil0
          · go_wp2_with fail
            go_ret2
            refine ⟨some ⟨w.heap.size, 0, none⟩, ps.length, ps.length, ?_, ?_, hbl⟩
            · rw [HL.out, if_neg h1000]; rfl
            · rw [HL.out, if_neg h1000]; exact HS.out
end Go.Proofs.YtifconapjfdkcaaGreatDoor
/-
  Contract of incident.Parse: the incidents, line and error of the plain parser (parseI).
  Condition: the data are well formed; the string's length fits an int.
-/
namespace Go.Proofs.YtifconapjfdkcaaGreatDoor
set_option linter.unusedSimpArgs false
set_option linter.unusedVariables false
open Go.RowKit

theorem at_ofBlockI {w : World} {g : Nat} {cs : List Value} {T : TypeId} (h : w.heap[g]? = some (.cells cs.toArray T (0, 0))) : At w g 0 cs := fun j u hu => by
  rw [block_cell h, Nat.zero_add]
  simpa using hu
def IParPost (r : List GInc × Int × Int) (w : World) (e : Ending) (w' : World) : Prop :=
  ∃ A n c, e = .returned (.tuple #[.slice A n c, .int .i64 r.2.1, .int .i64 r.2.2]) ∧ Sl Ty.inc w' (all_ w') A n c r.1 ∧ Below w.heap.size w w'
theorem fieldsB_lenI (s : ByteArray) : (fieldsB s).length ≤ s.size + 1 := by
  unfold fieldsB fieldsL
  rw [List.length_map, Lib.size_eq]
  have h1 := List.length_filter_le (fun f : List UInt8 => !f.isEmpty) (splitL 32 (s.data.toList.takeWhile (fun b => b != 35)))
  have h2 := splitL_length 32 (s.data.toList.takeWhile (fun b => b != 35))
  have h3 : (s.data.toList.takeWhile (fun b => b != 35)).count 32 ≤ (s.data.toList.takeWhile (fun b => b != 35)).length := List.count_le_length
  have h4 := takeWhile_len (fun b => b != 35) s.data.toList
  omega
theorem stepI_nil {t : GTT} {s : ByteArray} {l : List GInc} (h : fieldsB s = []) : stepI t s l = (l, 0) := by unfold stepI; rw [if_pos h]
theorem stepI_bad {t : GTT} {s : ByteArray} {l : List GInc} (h : ¬ fieldsB s = []) (h2 : (lineI t (fieldsB s)).2 ≠ 0) : stepI t s l = (l, (lineI t (fieldsB s)).2) := by unfold stepI; rw [if_neg h, if_pos h2]
theorem stepI_good {t : GTT} {s : ByteArray} {l : List GInc} (h : ¬ fieldsB s = []) (h2 : (lineI t (fieldsB s)).2 = 0) : stepI t s l = (l ++ [(lineI t (fieldsB s)).1], 0) := by unfold stepI; rw [if_neg h, if_neg (by simp [h2])]
theorem incAt_len (t : GTT) (ls : List ByteArray) : ∀ k, (incAt t ls k).length ≤ k
  | 0 => Nat.le_refl _
  | k + 1 => by
    have h := incAt_len t ls k
    show (stepI t (ls.getD k noStr) (incAt t ls k)).1.length ≤ k + 1
    unfold stepI
    split
    · show (incAt t ls k).length ≤ _; omega
    split
    · show (incAt t ls k).length ≤ _; omega
    · show (incAt t ls k ++ [_]).length ≤ _
      rw [List.length_append]; simp; omega
set_option maxRecDepth 100000 in
set_option maxHeartbeats 6400000 in
theorem incParse_any (t : GTT) (ps : List GPerson) (s : ByteArray) (A1 A2 A3 A4 : Option Addr) (n1 n2 n3 n4 c1 c2 c3 c4 : Nat) (w : World) (ht : t.ok) (hp : ∀ p ∈ ps, p.ok) (hs1 : Sl Ty.zone w (all_ w) A1 n1 c1 t.zones) (hs2 : Sl Ty.airport w (all_ w) A2 n2 c2 t.airports) (hs3 : Sl Ty.flight w (all_ w) A3 n3 c3 t.flights) (hs4 : Sl Ty.person w (all_ w) A4 n4 c4 ps) (hs : s.size ≤ maxLen) (hg : Glo w) :
    Calls Tryz.prog 26 #[.agg #[.slice A1 n1 c1, .slice A2 n2 c2, .slice A3 n3 c3], .slice A4 n4 c4, .string s] w (IParPost (parseI t ps s) w) := by
  have HGL : Hid (∀ V, Below w.heap.size w V → Glo V) := fun V hV => hg.next hV
  have HSS := Lib.hid hs
  have ha := (Below.refl w.heap.size w).alloc (Nat.le_refl _) (.cells #[.slice A1 n1 c1, .slice A2 n2 c2, .slice A3 n3 c3] 27)
  have hx0 := heap_alloc_new w (.cells #[.slice A1 n1 c1, .slice A2 n2 c2, .slice A3 n3 c3] 27)
  have hz0 : (w.alloc (.cells #[.slice A1 n1 c1, .slice A2 n2 c2, .slice A3 n3 c3] 27)).heap.size = w.heap.size + 1 := by simp
  have HA := Lib.hid ha; have HX0 := Lib.hid hx0; have HZ0 := Lib.hid hz0
  have HS3 : Hid (∀ V, Below w.heap.size w V → Sl Ty.flight V (all_ V) A3 n3 c3 t.flights) := fun V hV => hs3.next hV
  have HV0 : Hid (∀ V, Below w.heap.size w V → Calls Tryz.prog 35 #[.agg #[.slice A1 n1 c1, .slice A2 n2 c2, .slice A3 n3 c3], .slice A4 n4 c4] V (ErrPost (crewE t ps) V)) := fun V hV => crewValidate_any t ps A1 A2 A3 A4 n1 n2 n3 n4 c1 c2 c3 c4 V ht hp (hs1.next hV) (hs2.next hV) (hs3.next hV) (hs4.next hV)
  have HVI : Hid (∀ (l : List GInc) (A5 : Option Addr) (n5 c5 : Nat) (V : World), Below w.heap.size w V → Sl Ty.inc V (all_ V) A5 n5 c5 l → Calls Tryz.prog 16 #[.agg #[.slice A1 n1 c1, .slice A2 n2 c2, .slice A3 n3 c3], .slice A4 n4 c4, .slice A5 n5 c5] V (ErrPost (incE t ps l) V)) := fun l A5 n5 c5 V hV h5 => incValidate_any t ps l A1 A2 A3 A4 A5 n1 n2 n3 n4 n5 c1 c2 c3 c4 c5 V ht hp (hs1.next hV) (hs2.next hV) (hs3.next hV) (hs4.next hV) h5
  have HBAD : Hid (∀ (W' : World) (ln x : Int), parseI t ps s = ([], ln, x) → Below w.heap.size w W' → IParPost (parseI t ps s) w (.returned (.tuple #[.slice none 0 0, .int .i64 ln, .int .i64 x])) W') := fun W' ln x he hb => by
    rw [he]
    exact ⟨none, 0, 0, rfl, Sl.nil0, hb⟩
  have HT1 : Hid (crewE t ps ≠ 0 → parseI t ps s = ([], 0, crewE t ps)) := fun h => by show _ = _; unfold parseI; rw [if_pos h]
  have HT2 : Hid (crewE t ps = 0 → (linesB s).2 ≠ 0 → parseI t ps s = ([], 0, (linesB s).2)) := fun h0 h => by show _ = _; unfold parseI; rw [if_neg (by simp [h0]), if_pos h]
  have HPE0 : Hid (crewE t ps = 0 → (linesB s).2 = 0 → ∀ k : Nat, k < (linesB s).1.length → incErr t (linesB s).1 k ≠ 0 → (∀ j, j < k → incErr t (linesB s).1 j = 0) → parseI t ps s = ([], (k : Int) + 1, incErr t (linesB s).1 k)) := fun h0 h k h1 h2 h3 => parseI_err h0 h h1 h2 h3
  have HPA0 : Hid (crewE t ps = 0 → (linesB s).2 = 0 → (∀ j, j < (linesB s).1.length → incErr t (linesB s).1 j = 0) → parseI t ps s = if incE t ps (incAt t (linesB s).1 (linesB s).1.length) ≠ 0 then ([], 0, incE t ps (incAt t (linesB s).1 (linesB s).1.length)) else (incAt t (linesB s).1 (linesB s).1.length, 0, 0)) := fun h0 h hn => parseI_all h0 h hn
  clear ha hx0 hz0 hg hs hs1 hs2 hs3 hs4 ht hp
  generalize parseI t ps s = R at *
  go_enter Tryz.func26, Tryz.ntmps26
  go_upto_region 1 with (fail)
  generalize w.alloc (.cells #[.slice A1 n1 c1, .slice A2 n2 c2, .slice A3 n3 c3] 27) = W at *
  have t0 := block_cell HX0.out 0; have t1 := block_cell HX0.out 1; have t2 := block_cell HX0.out 2
  go_wp2_with fail
  refine (HV0.out W HA.out).mono ?_
  rintro e w1 ⟨rfl, hb1⟩
  have HB1 : Hid (Below w.heap.size w w1) := HA.out.trans (hb1.mono HA.out.size)
  have HX1 : Hid (w1.heap[w.heap.size]? = _) := (hb1.block _ (by have := HZ0.out; omega)).trans HX0.out
  have hz1 : w.heap.size + 1 ≤ w1.heap.size := by have := hb1.size; have := HZ0.out; omega
  clear t0 t1 t2 hb1 HX0 HZ0 HA HV0
  by_cases hc : crewE t ps = 0
  case neg =>
    have hc' : (crewE t ps == 0) = false := by simpa using hc
    have HR := Lib.hid (HT1.out hc)
    generalize crewE t ps = er at *
    clear hc
    go_wp2_with fail
    go_ret3
    exact HBAD.out _ _ _ HR.out HB1.out
  have HT2 := Lib.hid (HT2.out hc); have HPE0 := Lib.hid (HPE0.out hc); have HPA0 := Lib.hid (HPA0.out hc)
  rw [hc]
  clear hc HT1
  go_wp2_with fail
  refine (lines_any s w1 HSS.out (HGL.out w1 HB1.out)).mono ?_
  rintro e w2 ⟨Al, nl, cl, rfl, hsl, hb2⟩
  have hbw2 : Below w.heap.size w w2 := HB1.out.trans (hb2.mono HB1.out.size)
  have hx2 := (hb2.block w.heap.size (by omega)).trans HX1.out
  have hz2 : w.heap.size + 1 ≤ w2.heap.size := by have := hb2.size; omega
  have HX2 : Hid (∀ V, Below w2.heap.size w2 V → V.heap[w.heap.size]? = some (.cells #[.slice A1 n1 c1, .slice A2 n2 c2, .slice A3 n3 c3] 27 (0, 0))) := fun V hV => (hV.block _ (by omega)).trans hx2
  have HBW2 := Lib.hid hbw2
  clear hb2 hbw2 hx2 HX1 HB1
  by_cases he : (linesB s).2 = 0
  case neg =>
    have he' : ((linesB s).2 == 0) = false := by simpa using he
    have HR := Lib.hid (HT2.out he)
    generalize (linesB s).2 = er at *
    clear he
    go_wp2_with fail
    go_ret3
    exact HBAD.out _ _ _ HR.out HBW2.out
  have HPE := Lib.hid (HPE0.out he); have HPA := Lib.hid (HPA0.out he)
  rw [he]
  have HLM : Hid (∀ f ∈ (linesB s).1, f.size ≤ 20000) := fun f hf => by have := linesB_mem hf; omega
  have hll := linesB_len s
  clear he HT2 HPE0 HPA0
  generalize (linesB s).1 = ls at *
  have hnl := hsl.len
  subst hnl
  have HSL : Hid (∀ V, Below w2.heap.size w2 V → Sl Ty.str V (all_ V) Al ls.length cl ls) := fun V hV => hsl.next hV
  clear hsl
  go_wp2_with fail
  go_loopw [6, 7, 8, 33] (fun v _ _ i wr => ∃ k : Nat, k ≤ ls.length ∧ i = .int .i64 k ∧ Hid (Own Ty.inc 59 wr w2.heap.size v (incAt t ls k)) ∧ Hid (Below w2.heap.size w2 wr) ∧ Hid (∀ j, j < k → incErr t ls j = 0)) (fun _ _ _ i _ => ls.length - (intOf i).toNat)
  case atStart => exact ⟨0, Nat.zero_le _, rfl, Own.nil, Below.refl _ _, fun j hj => absurd hj (by omega)⟩
  case round =>
    obtain ⟨k, hk, rfl, HOW, HBR, HNE⟩ := hrel
    obtain ⟨A9, c9, rfl, -⟩ := HOW.out.sl
    have hle9 := incAt_len t ls k
    by_cases hlt : k < ls.length
    · have hlt' : (k : Int) < (ls.length : Int) := by omega
      obtain ⟨lb, lo2, rfl, -, hcl⟩ := (HSL.out wr HBR.out).str_at hlt
      have hge : ls[k] = ls.getD k noStr := by rw [List.getD_eq_getElem?_getD, List.getElem?_eq_getElem hlt]; rfl
      rw [hge] at hcl
      have hsz : (ls.getD k noStr).size ≤ 20000 := HLM.out _ (by rw [← hge]; exact List.getElem_mem hlt)
      have HWR : Hid (Below w.heap.size w wr) := HBW2.out.trans (HBR.out.mono (by omega))
      have HFO := Lib.hid (fields_own (ls.getD k noStr) wr (by omega) (HGL.out wr HWR.out))
      have HFM : Hid (∀ x ∈ fieldsB (ls.getD k noStr), x.size ≤ 20000) := fun x hx => by have := fieldsB_mem hx; omega
      have HFL : Hid ((fieldsB (ls.getD k noStr)).length ≤ 100000) := by
        have := fieldsB_lenI (ls.getD k noStr)
        show _ ≤ _
        omega
      have HSU : Hid (incAt t ls (k + 1) = (stepI t (ls.getD k noStr) (incAt t ls k)).1) := rfl
      have HSE : Hid (incErr t ls k = (stepI t (ls.getD k noStr) (incAt t ls k)).2) := rfl
      have HNIL := Lib.hid (stepI_nil (t := t) (s := ls.getD k noStr) (l := incAt t ls k))
      have HSB := Lib.hid (stepI_bad (t := t) (s := ls.getD k noStr) (l := incAt t ls k))
      have HSG := Lib.hid (stepI_good (t := t) (s := ls.getD k noStr) (l := incAt t ls k))
      have HEK := Lib.hid (HPE.out k hlt)
      generalize ls.getD k noStr = ln at *
      generalize incAt t ls k = xs at *
      clear hsz hge
      go_wp2_with fail
      refine HFO.out.mono ?_
      rintro e wf ⟨vf, rfl, hof, hbf⟩
      obtain ⟨Af, cf, rfl, hslf⟩ := hof.sl
      have HOF : Hid (Own Ty.inc 59 wf w2.heap.size (.slice A9 xs.length c9) xs) := HOW.out.next hbf
      have HBF : Hid (Below w2.heap.size w2 wf) := HBR.out.trans (hbf.mono HBR.out.size)
      have HWF : Hid (Below w.heap.size w wf) := HWR.out.trans (hbf.mono HWR.out.size)
      have HSLF : Hid (Sl Ty.str wf (all_ wf) Af (fieldsB ln).length cf (fieldsB ln)) := hslf.more fun q hq => hq.2
      have q0 := HX2.out wf HBF.out
      have t0 := block_cell q0 0; have t1 := block_cell q0 1; have t2 := block_cell q0 2
      clear hof hslf hbf hcl HFO HOW HBR HWR q0
      generalize fieldsB ln = fs at *
      by_cases hfs : fs = []
      · have hl0 : ((fs.length : Int) == 0) = true := by rw [hfs]; rfl
        have HE := Lib.hid (HNIL.out hfs)
        have HN1 : Hid (∀ j, j < k + 1 → incErr t ls j = 0) := fun j hj => by
          rcases Nat.lt_or_eq_of_le (Nat.le_of_lt_succ hj) with h | h
          · exact HNE.out j h
          · subst h; rw [HSE.out, HE.out]
        have HA1 : Hid (incAt t ls (k + 1) = xs) := by show _ = _; rw [HSU.out, HE.out]
        clear hfs
        go_wp2_with fail
        go_roundw
        case rel => exact ⟨k + 1, by omega, by go_num, by rw [HA1.out]; exact HOF, HBF, HN1⟩
        case measure => simp [intOf]; omega
      have hl0 : ((fs.length : Int) == 0) = false := by
        have := List.length_pos_iff.2 hfs
        simp; omega
      have HLN := Lib.hid (incLine_any t fs A1 A2 A3 Af n1 n2 n3 fs.length c1 c2 c3 cf wf (HS3.out wf HWF.out) HSLF.out (List.length_pos_iff.2 hfs) HFM.out)
      have HSB := Lib.hid (HSB.out hfs); have HSG := Lib.hid (HSG.out hfs)
      clear hfs HNIL HSLF
      unfold LinPost incVal at HLN
      generalize lineI t fs = r at *
      obtain ⟨x, er⟩ := r
      simp only at HLN HSB HSG
      go_wp2_with fail
      refine HLN.out.mono ?_
      rintro e w5 ⟨rfl, hb5⟩
      have HO5 : Hid (∀ oo, Own Ty.inc 59 (w5.alloc oo) w2.heap.size (.slice A9 xs.length c9) xs) := fun oo => (HOF.out.next hb5).alloc oo
      have HB5 : Hid (∀ oo, Below w2.heap.size w2 (w5.alloc oo)) := fun oo => (HBF.out.trans (hb5.mono HBF.out.size)).alloc (by have := hb5.size; have := HBF.out.size; omega) oo
      have HW5 : Hid (∀ oo, Below w.heap.size w (w5.alloc oo)) := fun oo => HBW2.out.trans ((HB5.out oo).mono (by omega))
      clear HLN HOF HBF HWF hb5 t0 t1 t2
      by_cases her : er = 0
      · subst her
        have HE := Lib.hid (HSG.out rfl)
        have HN1 : Hid (∀ j, j < k + 1 → incErr t ls j = 0) := fun j hj => by
          rcases Nat.lt_or_eq_of_le (Nat.le_of_lt_succ hj) with h | h
          · exact HNE.out j h
          · subst h; rw [HSE.out, HE.out]
        have HA1 : Hid (incAt t ls (k + 1) = xs ++ [x]) := by show _ = _; rw [HSU.out, HE.out]
        obtain ⟨kd, fl, mi, ai, pe, ⟨s1, s2⟩⟩ := x
        simp only
        have HX5 := Lib.hid (heap_alloc_new w5 (.cells #[.int .i64 kd, .int .i64 fl, .int .i64 mi, .string ai, .int .i64 pe, .int .i64 s1, .int .i64 s2] 59))
        clear HSB HSG
        go_upto_region 15 with (fail)
        have HO6 := Lib.hid (HO5.out (.cells #[.int .i64 kd, .int .i64 fl, .int .i64 mi, .string ai, .int .i64 pe, .int .i64 s1, .int .i64 s2] 59))
        have HB6 := Lib.hid (HB5.out (.cells #[.int .i64 kd, .int .i64 fl, .int .i64 mi, .string ai, .int .i64 pe, .int .i64 s1, .int .i64 s2] 59))
        generalize w5.alloc (.cells #[.int .i64 kd, .int .i64 fl, .int .i64 mi, .string ai, .int .i64 pe, .int .i64 s1, .int .i64 s2] 59) = w6 at *
        have y0 := block_cell HX5.out 0; have y1 := block_cell HX5.out 1; have y2 := block_cell HX5.out 2; have y3 := block_cell HX5.out 3; have y4 := block_cell HX5.out 4; have y5 := block_cell HX5.out 5; have y6 := block_cell HX5.out 6
        have hsz6 := HB6.out.size
        have HO7 : Hid (∀ oo, Own Ty.inc 59 (w6.alloc oo) w2.heap.size (.slice A9 xs.length c9) xs) := fun oo => HO6.out.alloc oo
        have HB7 : Hid (∀ oo, Below w2.heap.size w2 (w6.alloc oo)) := fun oo => HB6.out.alloc hsz6 oo
        have HAT : Hid (At (w6.alloc (.cells #[.int .i64 kd, .int .i64 fl, .int .i64 mi, .string ai, .int .i64 pe, .int .i64 s1, .int .i64 s2] 59)) w6.heap.size 0 (incCells ⟨kd, fl, mi, ai, pe, ⟨s1, s2⟩⟩)) := at_ofBlockI (heap_alloc_new _ _)
        clear HO5 HB5 HW5 HX5 HO6 HB6
        go_wp2_with (at_builtin; refine wpList_push (t := Ty.inc) rfl _ _ _ rfl 64 elem_inc rfl (HO7.out _) w6.heap.size ⟨kd, fl, mi, ai, pe, ⟨s1, s2⟩⟩ (fun _ => False) rfl ⟨_, rfl, HAT.out⟩ (fun _ h => h.elim) ?c1 (by decide) ?c2 ?_)
        case c1 => omega
        case c2 => first | omega | (simp; omega)
        intro v' w7 hown7 hg7
        have hb7 : Hid (Below w2.heap.size w2 w7) := (HB7.out _).grown hg7 (by simp; omega) (fun j hj => (HO7.out (.cells #[] 0)).lt j hj |>.1)
        rw [← HA1.out] at hown7
        have HO9 := Lib.hid hown7
        clear HO7 HB7 HAT hown7 hg7 y0 y1 y2 y3 y4 y5 y6
        go_wp2_with fail
        go_roundw
        case rel => exact ⟨k + 1, by omega, by go_num, HO9, hb7, HN1⟩
        case measure => simp [intOf]; omega
      · have her' : (er == 0) = false := by simpa using her
        have HE := Lib.hid (HSB.out her)
        have HEK2 : Hid (R = ([], (k : Int) + 1, er)) := by
          have h9 : incErr t ls k = er := by rw [HSE.out, HE.out]
          have := HEK.out (by rw [h9]; exact her) HNE.out
          show _ = _
          rw [this, h9]
        have hwrap : IntKind.i64.wrap ((k : Int) + 1) = (k : Int) + 1 := IntWalk.i64_in _ (by omega)
        obtain ⟨kd, fl, mi, ai, pe, ⟨s1, s2⟩⟩ := x
        simp only
        clear her HSB HSG HEK
        go_wp2_with fail
        go_ret3
        exact HBAD.out _ _ _ HEK2.out (HW5.out _)
    · have hkl : k = ls.length := by omega
      subst hkl
      have hge : ¬ (ls.length : Int) < (ls.length : Int) := by omega
      have HPAX := Lib.hid (HPA.out HNE.out)
      obtain ⟨A9', c9', he9, hsl9⟩ := HOW.out.sl
      injection he9 with e1 e2 e3
      subst e1 e3
      have HWR : Hid (Below w.heap.size w wr) := HBW2.out.trans (HBR.out.mono (by omega))
      generalize incAt t ls ls.length = xs at *
      have HV := Lib.hid (HVI.out xs A9 xs.length c9 wr HWR.out (hsl9.more fun q hq => hq.2))
      have HSX : Hid (∀ V, Below wr.heap.size wr V → Sl Ty.inc V (all_ V) A9 xs.length c9 xs) := fun V hV => (hsl9.more fun q hq => hq.2).next hV
      have q0 := HX2.out wr HBR.out
      have t0 := block_cell q0 0; have t1 := block_cell q0 1; have t2 := block_cell q0 2
      clear q0 hsl9 HOW HNE hlt hk
      go_wp2_with fail
      refine HV.out.mono ?_
      rintro e w6 ⟨rfl, hb6⟩
      have HB6 : Hid (Below w.heap.size w w6) := HWR.out.trans (hb6.mono HWR.out.size)
      have HS6 := Lib.hid (HSX.out w6 hb6)
      clear t0 t1 t2 hb6 HV HSX
      generalize incE t ps xs = ce at *
      by_cases hce : ce = 0
      · have HR : Hid (R = (xs, 0, 0)) := by show _ = _; rw [HPAX.out, if_neg (by simp [hce])]
        subst hce
        go_wp2_with fail
        go_ret3
        rw [HR.out]
        exact ⟨_, _, _, rfl, HS6.out, HB6.out⟩
      · have hne : (ce == 0) = false := by simpa using hce
        have HR : Hid (R = ([], 0, ce)) := by show _ = _; rw [HPAX.out, if_pos hce]
        clear hce HPAX
        go_wp2_with fail
        go_ret3
        exact HBAD.out _ _ _ HR.out HB6.out
end Go.Proofs.YtifconapjfdkcaaGreatDoor
