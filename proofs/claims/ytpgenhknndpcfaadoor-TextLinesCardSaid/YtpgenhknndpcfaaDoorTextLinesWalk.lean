/-
  Walks of the laws TextLines and TextJoined: whatever the string, the law returns true and changes nothing that was there.
  Condition: the string's length fits an int; the library's variable MaxLen holds an int.
-/
import Derived.Test.YtpgenhknndpcfaaDoorRefLines
import Derived.Test.YtpgenhknndpcfaaDoorLaw5
namespace Go.Proofs.YtpgenhknndpcfaaDoor
set_option linter.unusedSimpArgs false
set_option linter.unusedVariables false
open Go.RowKit

/-- Pieces put together again with the byte 10 between them. -/
def joinL : List (List UInt8) → List UInt8
  | [] => []
  | a :: r => match r with
    | [] => a
    | b :: r => a ++ 10 :: joinL (b :: r)
theorem joinL_cons (a : List UInt8) (r : List (List UInt8)) (h : r ≠ []) : joinL (a :: r) = a ++ 10 :: joinL r := by
  cases r with
  | nil => exact absurd rfl h
  | cons b r => rfl
theorem joinL_snoc (ps : List (List UInt8)) (x : List UInt8) : joinL (ps ++ [x]) = joinL ps ++ (if ps = [] then [] else [10]) ++ x := by
  induction ps with
  | nil => simp [joinL]
  | cons a ps ih =>
    rw [List.cons_append, joinL_cons _ _ (by simp), ih]
    cases ps with
    | nil => simp [joinL]
    | cons b r => rw [joinL_cons a (b :: r) (by simp)]; simp
theorem joinL_split (l : List UInt8) : joinL (splitL 10 l) = l := by
  induction l with
  | nil => rfl
  | cons b l ih =>
    by_cases hb : b = 10
    · subst hb
      rw [splitL, if_pos rfl, joinL_cons _ _ (splitL_ne 10 l), ih]
      rfl
    · rw [splitL, if_neg hb]
      have h2 := splitL_eq 10 l
      cases ht : (splitL 10 l).tail with
      | nil =>
        rw [ht] at h2
        rw [h2] at ih
        simp only [joinL] at ih ⊢
        rw [ih]
      | cons x r =>
        rw [ht] at h2
        rw [h2, joinL_cons _ _ (by simp)] at ih
        rw [joinL_cons _ _ (by simp), List.cons_append, ih]
theorem joinL_lines (l : List UInt8) : joinL (linesL l) = l ∨ joinL (linesL l) ++ [10] = l := by
  obtain ⟨ps, cur, h⟩ := splitL_last 10 l
  have hj := joinL_split l
  rw [h] at hj
  rw [linesL_of h]
  by_cases hc : cur = []
  · rw [if_pos hc]
    subst hc
    rw [joinL_snoc] at hj
    by_cases hp : ps = []
    · left; rw [if_pos hp] at hj; simpa using hj
    · right; rw [if_neg hp] at hj; simpa using hj
  · rw [if_neg hc]
    exact .inl hj
theorem joinL_append_le (a b : List (List UInt8)) : (joinL a).length ≤ (joinL (a ++ b)).length := by
  induction a with
  | nil => simp [joinL]
  | cons x a ih =>
    by_cases hb : b = []
    · subst hb; simp
    · rw [List.cons_append, joinL_cons x (a ++ b) (by simp [hb])]
      cases a with
      | nil => simp [joinL]
      | cons y r =>
        rw [joinL_cons x (y :: r) (by simp)]
        simp only [List.length_append, List.length_cons]
        omega
theorem joinL_take_le (ls : List (List UInt8)) (k : Nat) : (joinL (ls.take k)).length ≤ (joinL ls).length := by
  have := joinL_append_le (ls.take k) (ls.drop k)
  rwa [List.take_append_drop] at this
theorem joinL_take (ls : List (List UInt8)) (k : Nat) (h : k < ls.length) : joinL (ls.take (k + 1)) = joinL (ls.take k) ++ (if 0 < k then [10] else []) ++ ls[k] := by
  rw [List.take_succ_eq_append_getElem h, joinL_snoc]
  congr 2
  rcases Nat.eq_zero_or_pos k with h0 | h0
  · subst h0; simp
  · rw [if_neg (by intro e; have := congrArg List.length e; rw [List.length_take, List.length_nil] at this; omega), if_pos h0]
theorem bs_append (a b : List UInt8) : bs a ++ bs b = bs (a ++ b) := by
  apply Go.WideShapes.bytes_inj
  simp [bs]
def joinTo (ls : List (List UInt8)) (k : Nat) : ByteArray := bs (joinL (ls.take k))
theorem joinTo_size (ls : List (List UInt8)) (k : Nat) : (joinTo ls k).size = (joinL (ls.take k)).length := bs_size _

theorem textLines_walk (s : ByteArray) (w : World) (hs : s.size ≤ maxLen) (hg : Glo w) :
    Calls Tryd.prog 5 #[.string s] w fun e w' => e = .returned (.bool true) ∧ Below w.heap.size w w' := by
  have hs' := hs
  unfold maxLen at hs'
  by_cases hl : 30000 < s.size
  · go_enter Tryd.func5, Tryd.ntmps5
    go_wp2_with fail
    refine (awake_any w hg).mono ?_
    rintro e w1 ⟨rfl, hb⟩
    go_wp2_with fail
    go_ret
    exact ⟨rfl, hb⟩
  · go_enter Tryd.func5, Tryd.ntmps5
    go_wp2_with fail
    refine (lines_any s w hs hg).mono ?_
    rintro e w1 ⟨A, n, c, rfl, hsl, hb⟩
    generalize hls : linesB s = ls at *
    have HLS := Lib.hid hls; clear hls
    go_wp2_with fail
    refine (refLines_any s w1 hs).mono ?_
    rintro e w2 ⟨A2, n2, c2, rfl, hsl2, hb2⟩
    rw [HLS.out] at hsl2 ⊢
    go_wp2_with fail
    refine (same_any _ _ _ _ _ _ _ _ _ _ w2 (hsl.next hb2) hsl2).mono ?_
    rintro e w3 ⟨rfl, n, rfl⟩
    have hb3 : Below w.heap.size w (w2.drewN n) := below_drewN (hb.trans (hb2.mono hb.size)) n
    rw [decide_eq_true rfl]
    go_wp2_with fail
    refine (awake_any (w2.drewN n) (hg.next hb3)).mono ?_
    rintro e w4 ⟨rfl, hb4⟩
    go_wp2_with fail
    go_ret
    exact ⟨rfl, hb3.trans (hb4.mono hb3.size)⟩

set_option maxHeartbeats 800000 in
theorem textJoined_walk (s : ByteArray) (w : World) (hs : s.size ≤ maxLen) (hg : Glo w) :
    Calls Tryd.prog 7 #[.string s] w fun e w' => e = .returned (.bool true) ∧ Below w.heap.size w w' := by
  have hs' := hs
  unfold maxLen at hs'
  by_cases hl : 30000 < s.size
  · go_enter Tryd.func7, Tryd.ntmps7
    go_wp2_with fail
    refine (awake_any w hg).mono ?_
    rintro e w1 ⟨rfl, hb⟩
    go_wp2_with fail
    go_ret
    exact ⟨rfl, hb⟩
  · go_enter Tryd.func7, Tryd.ntmps7
    go_wp2_with fail
    refine (lines_any s w hs hg).mono ?_
    rintro e w1 ⟨A, n, c, rfl, hsl, hb⟩
    by_cases hok : (linesB s).2 = 0
    · have hl1 : (linesB s).1 = (linesL s.data.toList).map bs := by
        revert hok
        unfold linesB
        split
        · intro h; cases h
        · split
          · intro h; cases h
          · split
            · intro h; cases h
            · intro _; rfl
      rw [hok]
      rw [hl1] at hsl
      have hj := joinL_lines s.data.toList
      have hjt := fun k => joinL_take_le (linesL s.data.toList) k
      have hjl : (joinL (linesL s.data.toList)).length ≤ s.size := by
        have h9 := Lib.size_eq s
        rcases hj with h | h <;> have := congrArg List.length h
        · omega
        · simp only [List.length_append, List.length_singleton] at this; omega
      have hstep := fun k h => joinL_take (linesL s.data.toList) k h
      have hst : bs s.data.toList = s := bs_of s
      generalize hls : linesL s.data.toList = ls at *
      have hn := hsl.len
      rw [List.length_map] at hn
      subst hn
      have hlen := hsl.le
      unfold maxLen at hlen
      have HSL := Lib.hid hsl
      have HJ := Lib.hid hj
      have HT := Lib.hid hjt
      have HST := Lib.hid hst
      have HSTEP := Lib.hid hstep
      clear hls hsl hj hjt hst hstep hok hl1
      go_wp2_with fail
      go_loop [5, 6] (fun t i => ∃ k : Nat, k ≤ ls.length ∧ i = .int .i64 k ∧ t = .string (joinTo ls k)) (fun _ i => ls.length - (intOf i).toNat)
      case atStart => exact ⟨0, Nat.zero_le _, rfl, rfl⟩
      case round =>
        obtain ⟨k, hk, rfl, rfl⟩ := hrel
        have hjk := HT.out k
        have hjk1 := HT.out (k + 1)
        have hz := joinTo_size ls k
        by_cases hlt : k < ls.length
        · obtain ⟨b, o, rfl, _, hc⟩ := HSL.out.str_at (k := k) (by rw [List.length_map]; exact hlt)
          simp only [List.getElem_map] at hc
          have hst := HSTEP.out k hlt
          have HS := Lib.hid hst
          rw [hst, List.length_append, List.length_append] at hjk1
          have hz2 := bs_size ls[k]
          clear hst
          rcases Nat.eq_zero_or_pos k with rfl | h0
          · have HS2 : Hid (joinTo ls 0 ++ bs ls[0] = joinTo ls (0 + 1)) := by
              show _ = _
              unfold joinTo
              rw [HS.out, bs_append, if_neg (by omega), List.append_nil]
            have hsum : (joinTo ls 0).size + (bs ls[0]).size ≤ 30000 := by omega
            simp only [Nat.add_zero] at hc
            clear hjk1 hz hz2 hjk
            go_wp2_with fail
            go_round
            case rel => exact ⟨0 + 1, by omega, rfl, by rw [← HS2.out]⟩
            case measure => simp [intOf]; omega
          · have HS2 : Hid (joinTo ls k ++ ⟨#[10]⟩ ++ bs ls[k] = joinTo ls (k + 1)) := by
              show _ = _
              unfold joinTo
              rw [HS.out, ← bs_append, ← bs_append, if_pos h0]
              rfl
            rw [if_pos h0, List.length_singleton] at hjk1
            have hsum1 : (joinTo ls k).size + 1 ≤ 30000 := by omega
            have hsum : (joinTo ls k ++ ⟨#[10]⟩).size + (bs ls[k]).size ≤ 30000 := by rw [ByteArray.size_append]; show (joinTo ls k).size + 1 + _ ≤ _; omega
            clear hjk1 hz hz2 hjk
            go_wp2_with fail
            go_round
            case rel => exact ⟨k + 1, by omega, by go_num, by rw [← HS2.out]⟩
            case measure => simp [intOf]; omega
        · have hkk : k = ls.length := by omega
          have hjf : joinTo ls k = bs (joinL ls) := by unfold joinTo; rw [hkk, List.take_length]
          have hbw : (joinTo ls k).size + 1 ≤ 30001 := by rw [hz]; omega
          have hlt2 : ls.length ≤ k := by omega
          by_cases he : joinTo ls k = s
          · have hbq : ((joinTo ls k).toList == s.toList) = true := by rw [str_beq, decide_eq_true he]
            clear hjk1 hz hjk hkk hjf he
            go_wp2_with fail
            refine (awake_any w1 (hg.next hb)).mono ?_
            rintro e w4 ⟨rfl, hb4⟩
            go_wp2_with fail
            go_ret
            exact ⟨rfl, hb.trans (hb4.mono hb.size)⟩
          · have he2 : joinTo ls k ++ ⟨#[10]⟩ = s := by
              rcases HJ.out with h | h
              · exact absurd (hjf.trans (by rw [h]; exact HST.out)) he
              · rw [hjf, show (⟨#[10]⟩ : ByteArray) = bs [10] from rfl, bs_append, h]
                exact HST.out
            have hbq : ((joinTo ls k).toList == s.toList) = false := by rw [str_beq, decide_eq_false he]
            have hbq2 : ((joinTo ls k ++ ⟨#[10]⟩).toList == s.toList) = true := by rw [str_beq, decide_eq_true he2]
            clear hjk1 hz hjk hkk hjf he he2
            go_wp2_with fail
            refine (awake_any w1 (hg.next hb)).mono ?_
            rintro e w4 ⟨rfl, hb4⟩
            go_wp2_with fail
            go_ret
            exact ⟨rfl, hb.trans (hb4.mono hb.size)⟩
    · have hne : ((linesB s).2 != 0) = true := by simpa using hok
      have hl1 : (linesB s).1 = [] := by
        revert hok
        unfold linesB
        split
        · intro _; rfl
        · split
          · intro _; rfl
          · split
            · intro _; rfl
            · intro h; exact absurd rfl h
      rw [hl1] at hsl
      have hn := hsl.len
      simp only [List.length_nil] at hn
      subst hn
      clear hok hl1 hsl
      go_wp2_with fail
      refine (awake_any w1 (hg.next hb)).mono ?_
      rintro e w4 ⟨rfl, hb4⟩
      go_wp2_with fail
      go_ret
      exact ⟨rfl, hb.trans (hb4.mono hb.size)⟩
end Go.Proofs.YtpgenhknndpcfaaDoor
