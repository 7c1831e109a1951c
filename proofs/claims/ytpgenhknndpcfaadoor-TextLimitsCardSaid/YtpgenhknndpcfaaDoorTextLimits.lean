/-
  Walk of the law TextLimits: whatever the int, the law returns true and changes nothing that was there.
  Condition: the library's variable MaxLen holds an int.
-/
import Derived.Test.YtpgenhknndpcfaaDoorBytes
import Derived.Test.YtpgenhknndpcfaaDoorLines
import Derived.Test.YtpgenhknndpcfaaDoorLaw5
namespace Go.Proofs.YtpgenhknndpcfaaDoor
set_option linter.unusedSimpArgs false
set_option linter.unusedVariables false
open Go.RowKit

theorem byteElem : Elem Tryd.prog 31 5 1 1 := ⟨Tryd.underlying31, by kernel_rfl⟩
theorem byteZero : (Tryd.prog.info? 5).map (fun i => (i.zero, i.size, i.bytes)) = some (some (.int .u8 0), 1, 1) := by kernel_rfl

theorem made_bytes (m : Nat) : (madeCells #[Value.int .u8 0] m).toList = (List.replicate m (0 : Int)).map (Value.int .u8) := by
  rw [List.map_replicate]
  apply List.ext_getElem?
  intro i
  by_cases hi : i < m
  · simp [madeCells, hi, List.getElem?_replicate, Nat.mod_one]
  · simp [madeCells, hi, List.getElem?_replicate]
/-- The first row at step i, and the second at step j. -/
def xsTo (m i : Nat) : List Int := List.replicate i 120 ++ List.replicate (m - i) 0
theorem xsTo_len (m i : Nat) (h : i ≤ m) : (xsTo m i).length = m := by simp [xsTo]; omega
theorem xsTo_set (m i : Nat) (h : i < m) : (xsTo m i).set i 120 = xsTo m (i + 1) := by
  unfold xsTo
  obtain ⟨r, hr⟩ : ∃ r, m - i = r + 1 := ⟨m - i - 1, by omega⟩
  rw [hr, List.set_append_right _ _ (by simp), List.length_replicate, Nat.sub_self, List.replicate_succ, List.set_cons_zero, List.replicate_succ', show m - (i + 1) = r by omega]
  simp
def ysTo (m j : Nat) : List Int := (List.replicate j [121, 10]).flatten ++ List.replicate (2 * m - 2 * j) 0
theorem ys_len (j : Nat) : ((List.replicate j [(121 : Int), 10]).flatten).length = 2 * j := by
  induction j with
  | zero => rfl
  | succ j ih => rw [List.replicate_succ, List.flatten_cons, List.length_append, ih]; simp; omega
theorem ysTo_len (m j : Nat) (h : j ≤ m) : (ysTo m j).length = 2 * m := by
  unfold ysTo
  rw [List.length_append, ys_len, List.length_replicate]
  omega
theorem ysTo_set (m j : Nat) (h : j < m) : ((ysTo m j).set (2 * j) 121).set (2 * j + 1) 10 = ysTo m (j + 1) := by
  unfold ysTo
  obtain ⟨r, hr⟩ : ∃ r, 2 * m - 2 * j = r + 2 := ⟨2 * m - 2 * j - 2, by omega⟩
  rw [hr, List.set_append_right _ _ (by rw [ys_len]; omega), ys_len, Nat.sub_self, List.set_append_right _ _ (by rw [ys_len]; omega), ys_len,
    show 2 * j + 1 - 2 * j = 1 by omega, show 2 * m - 2 * (j + 1) = r by omega]
  have e1 : (List.replicate (j + 1) [(121 : Int), 10]).flatten = (List.replicate j [(121 : Int), 10]).flatten ++ [121, 10] := by
    rw [List.replicate_succ', List.flatten_append]; simp
  rw [e1, List.append_assoc]
  rfl
def xStr (m : Nat) : ByteArray := strOf (xsTo m m)
def yStr (m : Nat) : ByteArray := strOf (ysTo m m)
theorem xStr_data (m : Nat) : (xStr m).data.toList = List.replicate m 120 := by
  unfold xStr strOf xsTo
  rw [bs_data, Nat.sub_self]
  simp
theorem yStr_data (m : Nat) : (yStr m).data.toList = (List.replicate m [(121 : UInt8), 10]).flatten := by
  unfold yStr strOf ysTo
  rw [bs_data, Nat.sub_self]
  simp [List.map_flatten]
theorem splitL_none (c : UInt8) (l : List UInt8) (h : c ∉ l) : splitL c l = [l] := by
  induction l with
  | nil => rfl
  | cons a l ih =>
    have h1 : a ≠ c := fun e => h (by simp [e])
    rw [splitL, if_neg h1, ih (fun e => h (by simp [e]))]
    rfl
theorem lines_x (m : Nat) (h : 0 < m) : linesL (List.replicate m (120 : UInt8)) = [List.replicate m 120] := by
  have h1 : splitL 10 (List.replicate m (120 : UInt8)) = [] ++ [List.replicate m 120] := splitL_none 10 _ (by simp)
  rw [linesL_of h1, if_neg (by intro e; have := congrArg List.length e; simp at this; omega)]
  rfl
theorem split_y (m : Nat) : splitL 10 (List.replicate m [(121 : UInt8), 10]).flatten = List.replicate m [121] ++ [[]] := by
  induction m with
  | zero => rfl
  | succ m ih =>
    rw [List.replicate_succ, List.flatten_cons]
    show splitL 10 (121 :: 10 :: (List.replicate m [(121 : UInt8), 10]).flatten) = _
    rw [splitL, if_neg (by decide), splitL, if_pos rfl, ih, List.replicate_succ]
    rfl
theorem lines_y (m : Nat) : linesL (List.replicate m [(121 : UInt8), 10]).flatten = List.replicate m [121] := by
  rw [linesL_of (split_y m), if_pos rfl]
theorem yflat_len (m : Nat) : ((List.replicate m [(121 : UInt8), 10]).flatten).length = 2 * m := by
  induction m with
  | zero => rfl
  | succ j ih => rw [List.replicate_succ, List.flatten_cons, List.length_append, ih]; simp; omega
theorem xStr_size (m : Nat) : (xStr m).size = m := by rw [Lib.size_eq, xStr_data, List.length_replicate]
theorem yStr_size (m : Nat) : (yStr m).size = 2 * m := by rw [Lib.size_eq, yStr_data, yflat_len]
theorem linesB_x (m : Nat) (h : 0 < m) : linesB (xStr m) = if 20000 < m then ([], 10) else ([xStr m], 0) := by
  unfold linesB
  rw [xStr_size]
  by_cases hb : 20000 < m
  · rw [if_pos hb, if_pos hb]
  · have hall : allTo (okByte (xStr m)) m = true := by
      rw [allTo_iff]
      intro k hk
      have : byteAt (xStr m) k = 120 := by
        unfold byteAt
        rw [xStr_data, List.getD_eq_getElem?_getD, List.getElem?_replicate, if_pos hk]
        rfl
      unfold okByte
      rw [this]
      rfl
    rw [if_neg hb, if_neg hb, if_neg (by rw [hall]; decide), xStr_data, lines_x m h, if_neg (by simp)]
    rw [List.map_singleton, ← xStr_data, bs_of]
theorem linesB_y (m : Nat) (h : m ≤ 10000) : linesB (yStr m) = if 1000 < m then ([], 10) else (List.replicate m (bs [121]), 0) := by
  unfold linesB
  rw [yStr_size]
  have hall : allTo (okByte (yStr m)) (2 * m) = true := by
    rw [allTo_iff]
    intro k hk
    have hmem : (yStr m).data.toList.getD k 0 ∈ (yStr m).data.toList := by
      have hl : k < (yStr m).data.toList.length := by rw [yStr_data, yflat_len]; exact hk
      rw [List.getD_eq_getElem?_getD, List.getElem?_eq_getElem hl]
      exact List.getElem_mem hl
    rw [yStr_data, List.mem_flatten] at hmem
    obtain ⟨l, hl, hm⟩ := hmem
    rw [(List.mem_replicate.1 hl).2] at hm
    have hb : byteAt (yStr m) k = 121 ∨ byteAt (yStr m) k = 10 := by
      unfold byteAt
      rw [yStr_data]
      simp only [List.mem_cons, List.not_mem_nil, or_false] at hm
      rcases hm with hm | hm <;> rw [hm]
      · left; rfl
      · right; rfl
    unfold okByte
    rcases hb with hb | hb <;> rw [hb] <;> rfl
  rw [if_neg (by omega), if_neg (by rw [hall]; decide), yStr_data, lines_y, List.length_replicate]
  split
  · rfl
  · rw [List.map_replicate]

set_option maxRecDepth 100000 in
set_option maxHeartbeats 1600000 in
theorem textLimits_walk (n : Int) (w : World) (hg : Glo w) :
    Calls Tryd.prog 6 #[.int .i64 n] w fun e w' => e = .returned (.bool true) ∧ Below w.heap.size w w' := by
  obtain ⟨k, hk3, hk⟩ := and3 n
  obtain ⟨i0, hi0, hz0, hz1, hz2⟩ := info_parts byteZero
  obtain ⟨m, hm1, hm2⟩ : ∃ m, 19999 + k ≤ m ∧ m ≤ 19999 + k := ⟨_, Nat.le_refl _, Nat.le_refl _⟩
  obtain ⟨q, hq1, hq2⟩ : ∃ q, 999 + k ≤ q ∧ q ≤ 999 + k := ⟨_, Nat.le_refl _, Nat.le_refl _⟩
  have HX := Lib.hid (linesB_x m (by omega))
  have HY := Lib.hid (linesB_y q (by omega))
  have HXS : Hid ((xStr m).size ≤ maxLen) := by show _ ≤ _; rw [xStr_size]; unfold maxLen; omega
  have HYS : Hid ((yStr q).size ≤ maxLen) := by show _ ≤ _; rw [yStr_size]; unfold maxLen; omega
  go_enter Tryd.func6, Tryd.ntmps6
  go_wp2_with (at_make; refine wpList_make_full _ rfl _ _ _ rfl w.heap.size 5 i0 (.int .u8 0) 1 Tryd.underlying31 hi0 hz0 hz1 .i64 .i64 _ _ m rfl rfl ?c1 ?c2 ?c3 ?c4 (Nat.le_refl _) ?_)
  case c1 => omega
  case c2 => omega
  case c3 => rw [hz2]; omega
  case c4 => unfold maxLen; omega
  intro w1 hrow hgr
  have hown : Own (Ty.int .u8) 5 w1 w.heap.size (.slice (some ⟨w.heap.size, 0, none⟩) m m) (xsTo m 0) := by
    rw [own_ints, xsTo_len _ _ (Nat.zero_le _), show xsTo m 0 = List.replicate m 0 from rfl, ← made_bytes]
    exact hrow
  have hb1 : Below w.heap.size w w1 := (Below.refl _ _).grown hgr (Nat.le_refl _) (fun _ h => by cases h)
  clear hrow hgr
  go_wp2_with fail
  go_loopw [5] (fun i wr => ∃ j : Nat, j ≤ m ∧ i = .int .i64 j ∧ Own (Ty.int .u8) 5 wr w.heap.size (.slice (some ⟨w.heap.size, 0, none⟩) m m) (xsTo m j) ∧ Below w.heap.size w wr) (fun i _ => m - (intOf i).toNat)
  case atStart => exact ⟨0, Nat.zero_le _, rfl, hown, hb1⟩
  case round =>
    clear hown hb1
    obtain ⟨j, hj, rfl, hown, hbr⟩ := hrel
    by_cases hlt : j < m
    · obtain ⟨g, c, ev, hg1, hg2, hcell, hfr, hset⟩ := hown.int_at (k := j) (by rw [xsTo_len _ _ hj]; exact hlt)
      have hs2 := hset 120
      rw [xsTo_set _ _ hlt] at hs2
      simp only [Value.slice.injEq, Option.some.injEq, Addr.mk.injEq, and_true] at ev
      obtain ⟨rfl, -⟩ := ev
      have hb2 : Below w.heap.size w (wr.setCell ⟨w.heap.size, j, none⟩ (.int .u8 120)) := hbr.setCell (Nat.le_refl _) _
      clear hset hown
      generalize (xsTo m j)[j]'(by rw [xsTo_len _ _ hj]; exact hlt) = x at hcell
      go_wp2_with fail
      go_roundw
      case rel => exact ⟨j + 1, by omega, by go_num, hs2, hb2⟩
      case measure => simp [intOf]; omega
    · obtain rfl : j = m := by omega
      obtain ⟨A, c, ev, hsl⟩ := hown.sl
      rw [xsTo_len _ _ (Nat.le_refl _)] at ev hsl
      simp only [Value.slice.injEq] at ev
      obtain ⟨rfl, -, rfl⟩ := ev
      have hcv := run_string_of (P := Tryd.prog) (src := 31) (dst := 9) Tryd.underlying31 Tryd.underlying5 Tryd.underlying9 hsl (by simp)
      rw [show strOf (xsTo j j) = xStr j from rfl] at hcv
      clear hown hsl
      go_wp2_with fail
      refine (lines_any _ _ HXS.out (hg.next hbr)).mono ?_
      rintro e w2 ⟨A2, n2, c2, rfl, hsl2, hb2⟩
      have hb3 : Below w.heap.size w w2 := hbr.trans (hb2.mono hbr.size)
      have hn2 := hsl2.len
      have hsz := hb3.size
      clear hcv hb2 hbr
      -- what the first call left, for both kinds of k
      have hx1 : ∃ (n1 : Nat) (e1 : Int), n2 = n1 ∧ (linesB (xStr j)).2 = e1 ∧ ((k ≤ 1 ∧ n1 = 1 ∧ e1 = 0) ∨ (1 < k ∧ n1 = 0 ∧ e1 = 10)) := by
        refine ⟨_, _, rfl, rfl, ?_⟩
        rw [HX.out] at hn2 ⊢
        by_cases hk1 : k ≤ 1
        · rw [if_neg (by omega)] at hn2 ⊢
          exact .inl ⟨hk1, hn2, rfl⟩
        · rw [if_pos (by omega)] at hn2 ⊢
          exact .inr ⟨by omega, hn2, rfl⟩
      obtain ⟨n1, e1, rfl, he1, hcase⟩ := hx1
      rw [he1]
      have HC := Lib.hid hcase
      clear hsl2 hn2 he1 hcase HX HXS
      go_wp2_with (at_make; refine wpList_make_full _ rfl _ _ _ rfl w.heap.size 5 i0 (.int .u8 0) 1 Tryd.underlying31 hi0 hz0 hz1 .i64 .i64 _ _ (2 * q) rfl rfl ?d1 ?d2 ?d3 ?d4 hsz ?_)
      case d1 => omega
      case d2 => omega
      case d3 => rw [hz2]; omega
      case d4 => unfold maxLen; omega
      intro w3 hrow hgr
      have hown : Own (Ty.int .u8) 5 w3 w.heap.size (.slice (some ⟨w2.heap.size, 0, none⟩) (2 * q) (2 * q)) (ysTo q 0) := by
        rw [own_ints, ysTo_len _ _ (Nat.zero_le _), show ysTo q 0 = List.replicate (2 * q) 0 from rfl, ← made_bytes]
        exact hrow
      have hb4 : Below w.heap.size w w3 := hb3.grown hgr hsz (fun _ h => by cases h)
      clear hrow hgr hb3
      generalize hG : w2.heap.size = G at *
      clear hG
      go_wp2_with fail
      go_loopw [9] (fun i wr => ∃ p : Nat, p ≤ q ∧ i = .int .i64 (2 * (p : Int)) ∧ Own (Ty.int .u8) 5 wr w.heap.size (.slice (some ⟨G, 0, none⟩) (2 * q) (2 * q)) (ysTo q p) ∧ Below w.heap.size w wr) (fun i _ => 2 * q - (intOf i).toNat)
      case atStart => exact ⟨0, Nat.zero_le _, rfl, hown, hb4⟩
      case round =>
        clear hown hb4
        rename_i wr0 _ _
        obtain ⟨p, hp, rfl, hown, hbr⟩ := hrel
        by_cases hlt2 : p < q
        · obtain ⟨g, c, ev, hg1, hg2, hcell, hfr, hset⟩ := hown.int_at (k := 2 * p) (by rw [ysTo_len _ _ hp]; omega)
          simp only [Value.slice.injEq, Option.some.injEq, Addr.mk.injEq, and_true] at ev
          obtain ⟨rfl, -⟩ := ev
          obtain ⟨g', c', ev', hg1', hg2', hcell', hfr', hset'⟩ := (hset 121).int_at (k := 2 * p + 1) (by rw [List.length_set, ysTo_len _ _ hp]; omega)
          simp only [Value.slice.injEq, Option.some.injEq, Addr.mk.injEq, and_true] at ev'
          obtain ⟨rfl, -⟩ := ev'
          obtain ⟨g3, c3, ev3, _, _, _, hfr2, _⟩ := hown.int_at (k := 2 * p + 1) (by rw [ysTo_len _ _ hp]; omega)
          simp only [Value.slice.injEq, Option.some.injEq, Addr.mk.injEq, and_true] at ev3
          obtain ⟨rfl, -⟩ := ev3
          have hs2 := hset' 10
          rw [ysTo_set _ _ hlt2] at hs2
          clear hset hset' hown
          generalize (ysTo q p)[2 * p]'(by rw [ysTo_len _ _ hp]; omega) = x1 at hcell
          generalize ((ysTo q p).set (2 * p) 121)[2 * p + 1]'(by rw [List.length_set, ysTo_len _ _ hp]; omega) = x2 at hcell'
          have hb2 : Below w.heap.size w ((wr.setCell ⟨G, 2 * p, none⟩ (.int .u8 121)).setCell ⟨G, 2 * p + 1, none⟩ (.int .u8 10)) := (hbr.setCell hg1 _).setCell hg1 _
          have hcell2 : wr.cell? ⟨G, 2 * p + 1, none⟩ = some (.int .u8 x2) := by
            rw [World.cell?_setCell_other _ _ _ _ (by simp)] at hcell'
            exact hcell'
          go_wp2_with fail
          go_roundw
          case rel => exact ⟨p + 1, by omega, by go_num, hs2, hb2⟩
          case measure => simp [intOf]; omega
        · obtain rfl : p = q := by omega
          obtain ⟨A, c, ev, hsl⟩ := hown.sl
          rw [ysTo_len _ _ (Nat.le_refl _)] at ev hsl
          simp only [Value.slice.injEq] at ev
          obtain ⟨rfl, -, rfl⟩ := ev
          have hcv := run_string_of (P := Tryd.prog) (src := 31) (dst := 9) Tryd.underlying31 Tryd.underlying5 Tryd.underlying9 hsl (by simp)
          rw [show strOf (ysTo p p) = yStr p from rfl] at hcv
          clear hown hsl
          go_wp2_with fail
          refine (lines_any _ _ HYS.out (hg.next hbr)).mono ?_
          rintro e w5 ⟨A5, n5, c5, rfl, hsl5, hb5⟩
          have hb6 : Below w.heap.size w w5 := hbr.trans (hb5.mono hbr.size)
          have hn5 := hsl5.len
          clear hcv
          rcases HC.out with ⟨hk1, rfl, rfl⟩ | ⟨hk1, rfl, rfl⟩
          · rw [HY.out, if_neg (by omega)] at hn5 ⊢
            rw [List.length_replicate] at hn5
            have hk1' : decide ((k : Int) ≤ 1) = true := by simp; omega
            have hq : ((n5 : Int) == 1000 + (k : Int) - 1) = true := by simp; omega
            clear hn5 HC hk HY hsl5
            go_wp2_with fail
            refine (awake_any w5 (hg.next hb6)).mono ?_
            rintro e w7 ⟨rfl, hb7⟩
            go_wp2_with fail
            go_ret
            exact ⟨rfl, hb6.trans (hb7.mono hb6.size)⟩
          · rw [HY.out, if_pos (by omega)] at hn5 ⊢
            have hk1' : decide ((k : Int) ≤ 1) = false := by simp; omega
            simp only [List.length_nil] at hn5
            subst hn5
            clear HC hk HY hsl5
            go_wp2_with fail
            refine (awake_any w5 (hg.next hb6)).mono ?_
            rintro e w7 ⟨rfl, hb7⟩
            go_wp2_with fail
            go_ret
            exact ⟨rfl, hb6.trans (hb7.mono hb6.size)⟩
end Go.Proofs.YtpgenhknndpcfaaDoor
