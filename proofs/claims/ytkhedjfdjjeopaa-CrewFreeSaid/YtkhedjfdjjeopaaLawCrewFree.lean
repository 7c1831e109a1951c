/-
  The walk of pairinglaw10.CrewFree.
  Condition: none but that the list reads as integers.
-/
import Derived.Test.YtkhedjfdjjeopaaCrewPersons
import Derived.Test.YtkhedjfdjjeopaaCrewAvail
import Derived.Test.YtkhedjfdjjeopaaCrewAwake
import Derived.Deep.RegionLaw
namespace Go.Proofs.Ytkhedjfdjjeopaa
set_option linter.unusedSimpArgs false
set_option linter.unusedVariables false
open Go.RowKit

theorem and_3fff (n : Int) : bits .and .i64 n 16383 = n % 16384 := by
  show IntKind.i64.wrap ((BitVec.ofInt 64 n &&& BitVec.ofInt 64 16383).toNat : Int) = _
  have e1 : (BitVec.ofInt 64 16383).toNat = 2 ^ 14 - 1 := by decide
  rw [BitVec.toNat_and, e1, Nat.and_two_pow_sub_one_eq_mod, BitVec.toNat_ofInt, IntKind.wrap_i64]
  omega
theorem and_ff (n : Int) : bits .and .i64 n 255 = n % 256 := by
  show IntKind.i64.wrap ((BitVec.ofInt 64 n &&& BitVec.ofInt 64 255).toNat : Int) = _
  have e1 : (BitVec.ofInt 64 255).toNat = 2 ^ 8 - 1 := by decide
  rw [BitVec.toNat_and, e1, Nat.and_two_pow_sub_one_eq_mod, BitVec.toNat_ofInt, IntKind.wrap_i64]
  omega
theorem okAt_succ (vs : List GShift) (t : Int) (q : Nat) : okAt vs t (q + 1) = (okAt vs t q && (decide (t < (vs.getD q noShift).at_) || decide ((vs.getD q noShift).off ≤ t))) := allTo_succ _ _
theorem freeTo_succ (vs : List GShift) (a : Int) (j : Nat) : freeTo vs a (j + 1) = (freeTo vs a j && okAt vs (a + j) vs.length) := allTo_succ _ _
set_option maxRecDepth 100000 in
set_option maxHeartbeats 1600000 in
theorem lawCrewFree_any (l : List Int) (A : Option Addr) (n c : Nat) (fr sz : Int) (w : World) (h : Sl (Ty.int .i64) w (all_ w) A n c l) :
    Calls Try.prog 6 #[.slice A n c, .int .i64 fr, .int .i64 sz] w (CAwPost w) := by
  have HP := Lib.hid (persons_any l A n c w h)
  have a1 := and_3fff fr
  have a2 := and_ff sz
  have r1 : 0 ≤ fr % 16384 ∧ fr % 16384 < 16384 := by omega
  have r2 : 0 ≤ sz % 256 ∧ sz % 256 < 256 := by omega
  generalize fr % 16384 = fm at *
  generalize sz % 256 = sm at *
  obtain ⟨N, rfl⟩ := Int.eq_ofNat_of_zero_le r2.1
  clear h
  go_enter Try.func6, Try.ntmps6
  go_wp2_with fail
  refine HP.out.mono ?_
  rintro e w1 ⟨v, ps, rfl, hcm, hok, hpl, hb1⟩
  obtain ⟨Ap, cp, rfl, hsp⟩ := hcm.sl
  have HSP := Lib.hid hsp
  clear HP hcm hok hsp
  obtain ⟨r1, r1'⟩ := r1
  obtain ⟨r2, r2'⟩ := r2
  have HC := Lib.hid (heap_alloc_new w1 (.cells #[.int .i64 (1439500 + fm), .int .i64 (1439500 + fm + N)] 42))
  have HCB : Hid (Below w1.heap.size w1 (w1.alloc (.cells #[.int .i64 (1439500 + fm), .int .i64 (1439500 + fm + N)] 42))) := (Below.refl _ _).alloc (Nat.le_refl _) _
  have HCS : Hid ((w1.alloc (.cells #[.int .i64 (1439500 + fm), .int .i64 (1439500 + fm + N)] 42)).heap.size = w1.heap.size + 1) := by show _ = _; simp
  go_wp2_with fail
  generalize hW : w1.alloc (.cells #[.int .i64 (1439500 + fm), .int .i64 (1439500 + fm + N)] 42) = W at *
  clear hW
  have ha0 : 0 ≤ 1439500 + fm := by omega
  have ha1 : 1439500 + fm ≤ 1500000 := by omega
  generalize 1439500 + fm = a at *
  go_loopw [9] (fun i wr => ∃ k : Nat, k ≤ ps.length ∧ i = .int .i64 k ∧ Below (w1.heap.size + 1) W wr) (fun i _ => ps.length - (intOf i).toNat)
  case atStart => exact ⟨0, Nat.zero_le _, rfl, Below.refl _ _⟩
  case round =>
    obtain ⟨k, hk, rfl, hbr⟩ := hrel
    have hbw1 : Below w1.heap.size w1 wr := HCB.out.trans (hbr.mono (by omega))
    have hx := (hbr.block w1.heap.size (by omega)).trans HC.out
    have x0 : wr.cell? ⟨w1.heap.size, 0, none⟩ = some (.int .i64 a) := block_cell hx 0
    have x1 : wr.cell? ⟨w1.heap.size, 1, none⟩ = some (.int .i64 (a + N)) := block_cell hx 1
    have hsz := hbr.size
    have hws := HCS.out
    clear hx
    by_cases hlt : k < ps.length
    · have hsr := HSP.out.next hbw1
      obtain ⟨b, o, B1, k1, d1, B2, k2, d2, rfl, hbS, hat, hsT, hsV⟩ := hsr.person_at (k := k) hlt
      have l2 : k2 ≤ (ps.getD k noPerson).vacs.length := Nat.le_of_eq hsV.len
      have l2' : (ps.getD k noPerson).vacs.length ≤ k2 := Nat.le_of_eq hsV.len.symm
      have hle2 := hsV.le
      unfold maxLen at hle2
      generalize ps.getD k noPerson = p at *
      have y0 : wr.cell? ⟨b, o + k * 7, none⟩ = some (.int .i64 p.id) := hat 0 _ rfl
      have y1 := hat 1 _ rfl; have y2 := hat 2 _ rfl; have y3 := hat 3 _ rfl; have y4 := hat 4 _ rfl; have y5 := hat 5 _ rfl; have y6 := hat 6 _ rfl
      have HSV := Lib.hid hsV
      have HBR := Lib.hid hbr
      have Y0 := Lib.hid y0; have Y1 := Lib.hid y1; have Y2 := Lib.hid y2; have Y3 := Lib.hid y3; have Y4 := Lib.hid y4; have Y5 := Lib.hid y5
      have t1 : (0 : Int) ≤ (k : Int) := by omega
      have t2 : (k : Int) < (ps.length : Int) := by omega
      clear hsr hat hsT hsV y0 y1 y2 y3 y4 y5 hbr hbS
      have HF0 : Hid (true = freeTo p.vacs a 0) := rfl
      go_wp2_with fail
      go_loop [10, 11] (fun fv tv => ∃ j : Nat, j ≤ N ∧ tv = .int .i64 (a + j) ∧ fv = .bool (freeTo p.vacs a j)) (fun _ tv => N - (intOf tv - a).toNat)
      case atStart => exact ⟨0, Nat.zero_le _, by simp, by rw [← HF0.out]⟩
      case round =>
        obtain ⟨j, hj, rfl, rfl⟩ := hrel
        by_cases hlj : j < N
        · have HS1 := Lib.hid (freeTo_succ p.vacs a j)
          have HK0 : Hid (freeTo p.vacs a j = (freeTo p.vacs a j && okAt p.vacs (a + j) 0)) := by show _ = _; rw [show okAt p.vacs (a + j) 0 = true from rfl, Bool.and_true]
          have hta : a + j < a + N := by omega
          go_wp2_with fail
          go_loop [10, 12] (fun fv qv => ∃ q : Nat, q ≤ k2 ∧ qv = .int .i64 q ∧ fv = .bool (freeTo p.vacs a j && okAt p.vacs (a + j) q)) (fun _ qv => k2 - (intOf qv).toNat)
          case atStart => exact ⟨0, Nat.zero_le _, rfl, by rw [← HK0.out]⟩
          case round =>
            obtain ⟨q, hq, rfl, rfl⟩ := hrel
            clear HK0
            by_cases hlq : q < k2
            · obtain ⟨bv, ov, rfl, hbv, c0, c1⟩ := HSV.out.shift_at (k := q) (by omega)
              have HN : Hid ((freeTo p.vacs a j && okAt p.vacs (a + j) (q + 1)) = ((freeTo p.vacs a j && okAt p.vacs (a + j) q) && (decide (a + j < (p.vacs.getD q noShift).at_) || decide ((p.vacs.getD q noShift).off ≤ a + j)))) := by
                show _ = _
                rw [okAt_succ, Bool.and_assoc]
              have u1 : (0 : Int) ≤ (q : Int) := by omega
              have u2 : (q : Int) < (k2 : Int) := by omega
              generalize p.vacs.getD q noShift = s at *
              generalize (freeTo p.vacs a j && okAt p.vacs (a + j) q) = F at *
              clear hbv
              cases F with
              | false =>
                rw [Bool.false_and] at HN
                go_wp2_with fail
                go_round
                case rel => exact ⟨q + 1, by omega, by go_num, by rw [HN.out]⟩
                case measure => simp [intOf]; omega
              | true =>
                rw [Bool.true_and] at HN
                by_cases h1 : a + j < s.at_
                · rw [decide_eq_true h1, Bool.true_or] at HN
                  go_wp2_with fail
                  go_round
                  case rel => exact ⟨q + 1, by omega, by go_num, by rw [HN.out]⟩
                  case measure => simp [intOf]; omega
                · rw [decide_eq_false h1, Bool.false_or] at HN
                  by_cases h2 : s.off ≤ a + j
                  · rw [decide_eq_true h2] at HN
                    go_wp2_with fail
                    go_round
                    case rel => exact ⟨q + 1, by omega, by go_num, by rw [HN.out]⟩
                    case measure => simp [intOf]; omega
                  · rw [decide_eq_false h2] at HN
                    go_wp2_with fail
                    go_round
                    case rel => exact ⟨q + 1, by omega, by go_num, by rw [HN.out]⟩
                    case measure => simp [intOf]; omega
            · have HE : Hid ((freeTo p.vacs a j && okAt p.vacs (a + j) q) = freeTo p.vacs a (j + 1)) := by
                show _ = _
                rw [HS1.out, show p.vacs.length = q by omega]
              rw [HE.out]
              generalize hF1 : freeTo p.vacs a (j + 1) = F1 at *
              have HF1 := Lib.hid hF1
              clear hF1
              go_wp2_with fail
              go_round
              case rel => exact ⟨j + 1, by omega, by go_num, by rw [HF1.out]⟩
              case measure => simp [intOf]; omega
        · have hjN : j = N := by omega
          subst hjN
          have HFA := Lib.hid (free_avail p.vacs a j)
          rw [HFA.out]
          have y0 := Y0.out; have y1 := Y1.out; have y2 := Y2.out; have y3 := Y3.out; have y4 := Y4.out; have y5 := Y5.out
          have HW1 : Hid (∀ m, Below (w1.heap.size + 1) W (wr.drewN m)) := fun m => below_drewN HBR.out m
          have hnl : ¬ (a + (j : Int)) < a + j := by omega
          have HAVC : Hid (∀ V, Below wr.heap.size wr V → Calls Try.prog 19 #[.agg #[.int .i64 p.id, .string p.name, .string p.base, .int .i64 p.rank, .int .i64 p.sen, .slice B1 k1 d1, .slice B2 k2 d2], .agg #[.int .i64 a, .int .i64 (a + j)]] V (BoolPost (availB p.vacs a (a + j)) V)) := fun V hV => available_any p a (a + j) B1 B2 k1 k2 d1 d2 V (HSV.out.next hV)
          have HDD : Hid (∀ m, Below wr.heap.size wr (wr.drewN m)) := fun m => below_drewN (Below.refl _ _) m
          generalize availB p.vacs a (a + j) = G at *
          have hGG : (G != G) = false := by cases G <;> rfl
          clear Y0 Y1 Y2 Y3 Y4 Y5
          go_wp2_with fail
          go_region_law (first
            | (go_simp; go_at_call 19; refine (HAVC.out _ (HDD.out 1)).mono ?_; rintro e w5 ⟨rfl, hb5⟩; have hbr5 : Below (w1.heap.size + 1) W w5 := (HW1.out 1).trans (hb5.mono (by simp; omega)))
            | fail)
          all_goals
            go_wp2_with fail
            go_roundw
            case rel => exact ⟨k + 1, by omega, by go_num, hbr5⟩
            case measure => simp [intOf]; omega
    · have hbF : Below w.heap.size w wr := hb1.trans (hbw1.mono hb1.size)
      go_wp2_with fail
      refine (crewAwake_any wr).mono ?_
      rintro e w9 ⟨rfl, hb9⟩
      go_wp2_with fail
      go_ret
      exact ⟨rfl, hbF.trans (hb9.mono hbF.size)⟩
end Go.Proofs.Ytkhedjfdjjeopaa
