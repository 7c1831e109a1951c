/-
  Contract of crew.validateLists.
  Condition: the person's data are well formed.
-/
import Derived.Test.YtifconapjfdkcaaGreatDoorSAL
import Derived.Test.YtifconapjfdkcaaGreatDoorSBF
namespace Go.Proofs.YtifconapjfdkcaaGreatDoor
set_option linter.unusedSimpArgs false
set_option linter.unusedVariables false
open Go.RowKit

set_option maxRecDepth 100000 in
set_option maxHeartbeats 1600000 in
theorem validateLists_any (p : GPerson) (A1 A2 : Option Addr) (n1 n2 c1 c2 : Nat) (w : World) (hp : p.ok) (hs1 : Sl Ty.str w (all_ w) A1 n1 c1 p.types) (hs2 : Sl Ty.shift w (all_ w) A2 n2 c2 p.vacs) :
    Calls Tryz.prog 68 #[.agg #[.int .i64 p.id, .string p.name, .string p.base, .int .i64 p.rank, .int .i64 p.sen, .slice A1 n1 c1, .slice A2 n2 c2]] w (ErrPost (listsE p) w) := by
  obtain ⟨-, -, -, -, -, ok1, ok2⟩ := hp
  have e1 := hs1.len; have e2 := hs2.len
  have m1 := hs1.le; have m2 := hs2.le
  unfold maxLen at m1 m2
  have l1 : n1 ≤ p.types.length := by omega
  have l1' : p.types.length ≤ n1 := by omega
  have l2 : n2 ≤ p.vacs.length := by omega
  have l2' : p.vacs.length ≤ n2 := by omega
  have OK1 := Lib.hid ok1
  have HR : Hid (listsE p = if firstErr (typeErr p.types) p.types.length ≠ 0 then firstErr (typeErr p.types) p.types.length else firstErr (vacErr p.vacs) p.vacs.length) := rfl
  clear ok1 ok2 e1 e2
  go_enter Tryz.func68, Tryz.ntmps68
  go_wp2_with fail
  have hb0 : Below w.heap.size w (w.alloc (.cells #[.int .i64 p.id, .string p.name, .string p.base, .int .i64 p.rank, .int .i64 p.sen, .slice A1 n1 c1, .slice A2 n2 c2] 75)) := (Below.refl _ _).alloc (Nat.le_refl _) _
  have x5 : (w.alloc (.cells #[.int .i64 p.id, .string p.name, .string p.base, .int .i64 p.rank, .int .i64 p.sen, .slice A1 n1 c1, .slice A2 n2 c2] 75)).cell? ⟨w.heap.size, 5, none⟩ = some (.slice A1 n1 c1) := by rw [World.cell?_alloc_at _ _ _ _ rfl]; rfl
  have x6 : (w.alloc (.cells #[.int .i64 p.id, .string p.name, .string p.base, .int .i64 p.rank, .int .i64 p.sen, .slice A1 n1 c1, .slice A2 n2 c2] 75)).cell? ⟨w.heap.size, 6, none⟩ = some (.slice A2 n2 c2) := by rw [World.cell?_alloc_at _ _ _ _ rfl]; rfl
  have hsw : (w.alloc (.cells #[.int .i64 p.id, .string p.name, .string p.base, .int .i64 p.rank, .int .i64 p.sen, .slice A1 n1 c1, .slice A2 n2 c2] 75)).heap.size = w.heap.size + 1 := by simp
  generalize hW : w.alloc (.cells #[.int .i64 p.id, .string p.name, .string p.base, .int .i64 p.rank, .int .i64 p.sen, .slice A1 n1 c1, .slice A2 n2 c2] 75) = W at *
  have HS1 := Lib.hid (hs1.keep (all_keep hb0)); have HS2 := Lib.hid (hs2.keep (all_keep hb0))
  have HW := Lib.hid hsw
  have HB0 := Lib.hid hb0
  clear hs1 hs2 hW hsw hb0
  go_loopw [3, 4, 10] (fun _ _ i wr => ∃ k : Nat, k ≤ n1 ∧ i = .int .i64 k ∧ Hid (W = wr) ∧ Hid (zeroTo (typeErr p.types) k)) (fun _ _ i _ => n1 - (intOf i).toNat)
  case atStart => exact ⟨0, Nat.zero_le _, rfl, rfl, zeroTo_zero _⟩
  case round =>
    obtain ⟨k, hk, rfl, HQ, HK⟩ := hrel
    obtain rfl := HQ.out
    clear HQ
    by_cases hlt : k < n1
    · obtain ⟨b, o, rfl, hbS, hc⟩ := HS1.out.name_at (k := k) (by omega)
      have hsz := OK1.out _ (getD_in (show k < p.types.length by omega) noStr)
      have HERR : Hid (typeErr p.types k = if isNameB (p.types.getD k noStr) = false then 1 else if 0 < k ∧ leB (p.types.getD k noStr) (p.types.getD (k - 1) noStr) = true then 8 else 0) := rfl
      have hprev : 0 < k → W.cell? ⟨b, o + (k - 1), none⟩ = some (.string (p.types.getD (k - 1) noStr)) := fun h0 => by
        obtain ⟨b', o', e', _, hc'⟩ := HS1.out.name_at (k := k - 1) (by omega)
        simp only [Option.some.injEq, Addr.mk.injEq, and_true] at e'
        obtain ⟨rfl, rfl⟩ := e'
        exact hc'
      generalize hz : p.types.getD k noStr = s at *
      generalize hq : p.types.getD (k - 1) noStr = q at *
      have HSZ := Lib.hid hsz
      clear hz hq hsz
      by_cases hn : isNameB s = true
      case neg =>
        have hn' : isNameB s = false := by simpa using hn
        have HF : Hid (listsE p = 1) := by
          have h9 : typeErr p.types k = 1 := by rw [HERR.out, if_pos hn']
          have h8 : firstErr (typeErr p.types) p.types.length = 1 := by rw [firstErr_hit HK.out (by rw [h9]; decide) (by omega), h9]
          rw [HR.out, h8, if_pos (by decide)]; rfl
        clear hn hprev
        go_wp2_with (go_at_call 67; refine (isName_any s _ HSZ.out).mono ?_; rintro e w' ⟨rfl, rfl⟩; rw [hn'])
        go_ret
        exact ⟨by rw [HF.out]; rfl, HB0.out⟩
      rcases Nat.eq_zero_or_pos k with rfl | hk0
      · have HZ : Hid (zeroTo (typeErr p.types) (0 + 1)) := zeroTo_succ HK.out (by rw [HERR.out, if_neg (by rw [hn]; decide), if_neg (fun h => absurd h.1 (by omega))])
        clear hprev
        simp only [Nat.add_zero] at hc
        go_wp2_with (go_at_call 67; refine (isName_any s _ HSZ.out).mono ?_; rintro e w' ⟨rfl, rfl⟩; rw [hn])
        go_roundw
        case rel => exact ⟨0 + 1, by omega, rfl, trivial, HZ⟩
        case measure => simp [intOf]; omega
      · have hq := hprev hk0
        clear hprev
        have wr1 : IntKind.i64.wrap ((k : Int) - 1) = (k : Int) - 1 := IntWalk.i64_in _ (by omega)
        have wr2 : 0 ≤ (k : Int) - 1 := by omega
        have wr3 : (k : Int) - 1 < (n1 : Int) := by omega
        have wr4 : ((k : Int) - 1).toNat = k - 1 := by omega
        by_cases hle : leB s q = true
        · have HF : Hid (listsE p = 8) := by
            have h9 : typeErr p.types k = 8 := by rw [HERR.out, if_neg (by rw [hn]; decide), if_pos ⟨hk0, hle⟩]
            have h8 : firstErr (typeErr p.types) p.types.length = 8 := by rw [firstErr_hit HK.out (by rw [h9]; decide) (by omega), h9]
            rw [HR.out, h8, if_pos (by decide)]; rfl
          rcases leB_true hle with h1 | ⟨h1, h2⟩
          all_goals
            clear hle
            go_wp2_with (go_at_call 67; refine (isName_any s _ HSZ.out).mono ?_; rintro e w' ⟨rfl, rfl⟩; rw [hn])
            go_ret
            exact ⟨by rw [HF.out]; rfl, HB0.out⟩
        · have hle' : leB s q = false := by simpa using hle
          have HZ : Hid (zeroTo (typeErr p.types) (k + 1)) := zeroTo_succ HK.out (by rw [HERR.out, if_neg (by rw [hn]; decide), if_neg (fun h => hle h.2)])
          obtain ⟨h1, h2⟩ := leB_false hle'
          clear hle hle'
          go_wp2_with (go_at_call 67; refine (isName_any s _ HSZ.out).mono ?_; rintro e w' ⟨rfl, rfl⟩; rw [hn])
          go_roundw
          case rel => exact ⟨k + 1, by omega, by go_num, trivial, HZ⟩
          case measure => simp [intOf]; omega
    · have HT0 : Hid (firstErr (typeErr p.types) p.types.length = 0) := firstErr_none (by rw [show p.types.length = k by omega]; exact HK.out)
      clear HK x5
      go_wp2_with fail
      have HX6 := Lib.hid x6
      clear x6
      go_loopw [5, 6, 34] (fun _ _ i wr => ∃ k : Nat, k ≤ n2 ∧ i = .int .i64 k ∧ Below (w.heap.size + 1) W wr ∧ Hid (zeroTo (vacErr p.vacs) k)) (fun _ _ i _ => n2 - (intOf i).toNat)
      case atStart => exact ⟨0, Nat.zero_le _, rfl, Below.refl _ _, zeroTo_zero _⟩
      case round =>
        obtain ⟨r, hr, rfl, hbr, HK⟩ := hrel
        have x6 : wr.cell? ⟨w.heap.size, 6, none⟩ = some (.slice A2 n2 c2) := (hbr.cell (by simp)).trans HX6.out
        have hsl' := HS2.out.keep (w' := wr) fun b hb => hbr.block b (by unfold all_ at hb; omega)
        have hwl : w.heap.size < wr.heap.size := by have := hbr.size; have := HW.out; omega
        by_cases hlt : r < n2
        · obtain ⟨b, o, rfl, hbS, hc0, hc1⟩ := hsl'.shift_at (k := r) (by omega)
          have hbl : b < wr.heap.size := by unfold all_ at hbS; omega
          have hbne : b ≠ wr.heap.size := by omega
          have HERR : Hid (vacErr p.vacs r = if vacOk (p.vacs.getD r noShift) = false then 5 else if 0 < r ∧ (p.vacs.getD r noShift).at_ < (p.vacs.getD (r - 1) noShift).off then 8 else 0) := rfl
          have hprev : 0 < r → wr.cell? ⟨b, o + (r - 1) * 2 + 1, none⟩ = some (.int .i64 (p.vacs.getD (r - 1) noShift).off) := fun h0 => by
            obtain ⟨b', o', e', _, _, hc'⟩ := hsl'.shift_at (k := r - 1) (by omega)
            simp only [Option.some.injEq, Addr.mk.injEq, and_true] at e'
            obtain ⟨rfl, rfl⟩ := e'
            exact hc'
          generalize hz : p.vacs.getD r noShift = s at *
          generalize hq : p.vacs.getD (r - 1) noShift = q at *
          have hbox0 : (wr.alloc (.cells #[.int .i64 s.at_, .int .i64 s.off] 57)).cell? ⟨wr.heap.size, 0, none⟩ = some (.int .i64 s.at_) := by rw [World.cell?_alloc_at _ _ _ _ rfl]; rfl
          have hbox1 : (wr.alloc (.cells #[.int .i64 s.at_, .int .i64 s.off] 57)).cell? ⟨wr.heap.size, 1, none⟩ = some (.int .i64 s.off) := by rw [World.cell?_alloc_at _ _ _ _ rfl]; rfl
          have HBA : Hid (∀ m, Below w.heap.size w ((wr.alloc (.cells #[.int .i64 s.at_, .int .i64 s.off] 57)).drewN m)) := fun m => below_drewN (HB0.out.trans ((hbr.mono (by omega)).alloc (by omega) _)) m
          have HBB : Hid (∀ m, Below (w.heap.size + 1) W ((wr.alloc (.cells #[.int .i64 s.at_, .int .i64 s.off] 57)).drewN m)) := fun m => below_drewN (hbr.alloc (by omega) _) m
          clear hz hq hsl'
          by_cases hv : vacOk s = true
          case neg =>
            have hv' : vacOk s = false := by simpa using hv
            have HF : Hid (listsE p = 5) := by
              have h9 : vacErr p.vacs r = 5 := by rw [HERR.out, if_pos hv']
              have h8 : firstErr (vacErr p.vacs) p.vacs.length = 5 := by rw [firstErr_hit HK.out (by rw [h9]; decide) (by omega), h9]
              rw [HR.out, HT0.out, h8]; rfl
            have h3 : s.at_ < 0 ∨ (¬ s.at_ < 0 ∧ s.off ≤ s.at_) ∨ (¬ s.at_ < 0 ∧ ¬ s.off ≤ s.at_ ∧ 52596000 < s.off) := by
              unfold vacOk at hv'
              simp only [Bool.and_eq_false_iff, decide_eq_false_iff_not] at hv'
              omega
            clear hv hv' hprev
            rcases h3 with h | ⟨h, h'⟩ | ⟨h, h', h''⟩
            all_goals
              go_wp2_with fail
              go_ret
              exact ⟨by rw [HF.out]; rfl, HBA.out 0⟩
          have hv1 : 0 ≤ s.at_ ∧ s.at_ < s.off ∧ s.off ≤ 52596000 := by
            have hv2 := hv
            unfold vacOk at hv2
            simp only [Bool.and_eq_true, decide_eq_true_eq] at hv2
            omega
          obtain ⟨hv1, hv2, hv3⟩ := hv1
          rcases Nat.eq_zero_or_pos r with rfl | hr0
          · have HZ : Hid (zeroTo (vacErr p.vacs) (0 + 1)) := zeroTo_succ HK.out (by rw [HERR.out, if_neg (by rw [hv]; decide), if_neg (fun h => absurd h.1 (by omega))])
            clear hprev hv
            simp only [Nat.zero_mul, Nat.add_zero] at hc0 hc1
            go_wp2_with fail
            go_quiet (fail)
            go_wp2_with fail
            go_roundw
            case rel => exact ⟨0 + 1, by omega, rfl, HBB.out _, HZ⟩
            case measure => simp [intOf]; omega
          · have hq := hprev hr0
            clear hprev
            have wr1 : IntKind.i64.wrap ((r : Int) - 1) = (r : Int) - 1 := IntWalk.i64_in _ (by omega)
            have wr2 : 0 ≤ (r : Int) - 1 := by omega
            have wr3 : (r : Int) - 1 < (n2 : Int) := by omega
            have wr4 : ((r : Int) - 1).toNat = r - 1 := by omega
            go_wp2_with fail
            go_quiet (fail)
            clear wr1 wr2 wr3 wr4
            by_cases hle : s.at_ < q.off
            · have HF : Hid (listsE p = 8) := by
                have h9 : vacErr p.vacs r = 8 := by rw [HERR.out, if_neg (by rw [hv]; decide), if_pos ⟨hr0, hle⟩]
                have h8 : firstErr (vacErr p.vacs) p.vacs.length = 8 := by rw [firstErr_hit HK.out (by rw [h9]; decide) (by omega), h9]
                rw [HR.out, HT0.out, h8]; rfl
              go_wp2_with fail
              go_ret
              exact ⟨by rw [HF.out]; rfl, HBA.out _⟩
            · have HZ : Hid (zeroTo (vacErr p.vacs) (r + 1)) := zeroTo_succ HK.out (by rw [HERR.out, if_neg (by rw [hv]; decide), if_neg (fun h => hle h.2)])
              go_wp2_with fail
              go_roundw
              case rel => exact ⟨r + 1, by omega, by go_num, HBB.out _, HZ⟩
              case measure => simp [intOf]; omega
        · have HF : Hid (listsE p = 0) := by
            have h8 : firstErr (vacErr p.vacs) p.vacs.length = 0 := firstErr_none (by rw [show p.vacs.length = r by omega]; exact HK.out)
            rw [HR.out, HT0.out, h8]; rfl
          clear x6
          go_wp2_with fail
          go_ret
          exact ⟨by rw [HF.out]; rfl, HB0.out.trans (hbr.mono (by omega))⟩
end Go.Proofs.YtifconapjfdkcaaGreatDoor
