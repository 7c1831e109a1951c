/-
  Joined texts: Fields; RefFields; Lines; RefLines; NumPlain; Numbers. What each proves stands ahead of it, with its conditions.
-/
import Derived.Test.YtkhedjfdjjeopaaGreatDoorShelf
import Derived.Test.YtkhedjfdjjeopaaGreatDoorLib
import Derived.Test.YtkhedjfdjjeopaaGreatDoorTextPlain
import Derived.Deep.QuietTactic
import Derived.BigQuiet
import Derived.Test.YtkhedjfdjjeopaaGreatDoorNames
import Derived.Lib.ItoaNum
import Derived.Test.YtkhedjfdjjeopaaGreatDoorNamesRef
import Derived.Sort.Grow
/-
  Contract of text.Fields: it returns the specified fields in new memory and changes nothing that was there.
  Condition: the string is shorter than 2^31 bytes; the library's variable MaxLen holds an int.
-/
namespace Go.Proofs.YtkhedjfdjjeopaaGreatDoor
set_option linter.unusedSimpArgs false
set_option linter.unusedVariables false
open Go.RowKit

/-- What is asked of the package-level variables. -/
def Glo (w : World) : Prop := ∃ m, w.cell? ⟨0, 0, none⟩ = some (.int .i64 m)
theorem Glo.next {w w' : World} (h : Glo w) (hb : Below w.heap.size w w') : Glo w' := by
  obtain ⟨m, hm⟩ := h
  exact ⟨m, cell_kept hm hb⟩
theorem glo_of_shaped {w : World} (h : w.ShapedOpen Tryz.prog) : Glo w :=
  Go.Proofs.cell_of_shapedOpen_int (zero := #[.int .i64 0]) (t := 3) h (of_decide_eq_true (by kernel_rfl)) (by kernel_rfl) rfl (by kernel_rfl) (by kernel_rfl) Tryz.underlying3
theorem strElem : Elem Tryz.prog 36 9 1 16 := ⟨Tryz.underlying36, by kernel_rfl⟩

/-- What strings.Cut leaves ahead of the first byte c. -/
def cutB (c : UInt8) (s : ByteArray) : ByteArray := bs (s.data.toList.takeWhile (fun b => b != c))
theorem cutB_size (c : UInt8) (s : ByteArray) : (cutB c s).size ≤ s.size := by
  unfold cutB
  rw [bs_size, Lib.size_eq]
  exact (List.takeWhile_prefix _).length_le
theorem indexByte_take (c : UInt8) (l : List UInt8) : (0 ≤ Lib.indexByte l c → (Lib.indexByte l c).toNat < l.length ∧ l.take (Lib.indexByte l c).toNat = l.takeWhile (fun b => b != c)) ∧ (¬ 0 ≤ Lib.indexByte l c → l = l.takeWhile (fun b => b != c)) := by
  induction l with
  | nil => simp [Lib.indexByte]
  | cons b l ih =>
    rw [Lib.indexByte]
    by_cases hb : b = c
    · subst hb; simp
    · have hge := Lib.indexByte_ge l c
      have hne : (b != c) = true := by simp [hb]
      have hbe : (b == c) = false := by simp [hb]
      rw [hbe]
      simp only [Bool.false_eq_true, if_false]
      by_cases hi : Lib.indexByte l c = -1
      · have := ih.2 (by omega)
        simp only [hi, beq_self_eq_true, if_true]
        refine ⟨fun h => absurd h (by omega), fun _ => ?_⟩
        rw [List.takeWhile_cons, if_pos hne, ← this]
      · have h2 : (Lib.indexByte l c == -1) = false := by simp [hi]
        have := ih.1 (by omega)
        rw [h2]
        simp only [Bool.false_eq_true, if_false]
        refine ⟨fun _ => ?_, fun h => absurd h (by omega)⟩
        rw [List.takeWhile_cons, if_pos hne, ← this.2, show (Lib.indexByte l c + 1).toNat = (Lib.indexByte l c).toNat + 1 by omega]
        exact ⟨by rw [List.length_cons]; omega, rfl⟩

theorem liteCut_one (s : ByteArray) (c : UInt8) (w : World) (hs : s.size ≤ maxLen) :
    Calls Tryz.prog 96 #[.string s, .string ⟨#[c]⟩] w fun e w' => ∃ (b : ByteArray) (x : Bool) (n : Nat), e = .returned (.tuple #[.string (cutB c s), .string b, .bool x]) ∧ w' = w.drewN n := by
  unfold maxLen at hs
  obtain ⟨h1, h2⟩ := indexByte_take c s.data.toList
  have hge := Lib.indexByte_ge s.data.toList c
  have hix := Tryz.stringslite_Index_one s c w
  generalize hi : Lib.indexByte s.data.toList c = i at *
  clear hi
  have HIX := Lib.hid hix; clear hix
  by_cases h0 : 0 ≤ i
  · obtain ⟨h3, h4⟩ := h1 h0
    obtain ⟨k, rfl⟩ := Int.eq_ofNat_of_zero_le h0
    rw [Int.toNat_natCast] at h3 h4
    have HC : Hid (cutB c s = s.extract 0 k) := by show _ = _; rw [extract_take]; unfold cutB; rw [← h4]; rfl
    have hsz := Lib.size_eq s
    have hk : k < s.size := by omega
    clear h1 h2 h3 h4 h0 hsz
    go_enter Tryz.func96, Tryz.ntmps96
    go_wp2_with fail
    refine HIX.out.mono ?_
    rintro e w' ⟨rfl, rfl⟩
    go_wp2_with fail
    go_quiet (fail)
    go_wp2_with fail
    go_ret3
    exact ⟨_, _, _, by rw [HC.out]; rfl, rfl⟩
  · have HC : Hid (cutB c s = s) := by show _ = _; unfold cutB; rw [← h2 h0]; rfl
    have hlt : i < 0 := by omega
    clear h1 h2 h0
    go_enter Tryz.func96, Tryz.ntmps96
    go_wp2_with fail
    refine HIX.out.mono ?_
    rintro e w' ⟨rfl, rfl⟩
    go_wp2_with fail
    go_ret3
    exact ⟨_, _, 0, by rw [HC.out]; rfl, rfl⟩

theorem cut_one_any (s : ByteArray) (c : UInt8) (w : World) (hs : s.size ≤ maxLen) :
    Calls Tryz.prog 58 #[.string s, .string ⟨#[c]⟩] w fun e w' => ∃ (b : ByteArray) (x : Bool) (n : Nat), e = .returned (.tuple #[.string (cutB c s), .string b, .bool x]) ∧ w' = w.drewN n := by
  go_enter Tryz.func58, Tryz.ntmps58
  go_wp2_with fail
  refine (liteCut_one s c w hs).mono ?_
  rintro e w' ⟨b, x, n, rfl, rfl⟩
  go_wp2_with fail
  go_ret3
  exact ⟨b, x, n, rfl, rfl⟩
/-- The pieces that strings.Split makes at the byte c. -/
def piecesB (c : UInt8) (s : ByteArray) : List ByteArray := (splitL c s.data.toList).map bs
theorem split_any (s : ByteArray) (c : UInt8) (w : World) (hs : s.size < 4294967281) (hg : Glo w) :
    Calls Tryz.prog 56 #[.string s, .string ⟨#[c]⟩] w fun e w' => e = .returned (.slice (some ⟨w.heap.size, 0, none⟩) (piecesB c s).length (piecesB c s).length) ∧ w' = w.alloc (.cells ((piecesB c s).map Value.string).toArray 9) := by
  obtain ⟨m, hm⟩ := hg
  have h1 : (1 : Nat) ≤ (⟨#[c]⟩ : ByteArray).size := Nat.le_refl _
  have hlen := Lib.splitB_all ⟨#[c]⟩ h1 0 _ s rfl
  have hsp := splitB_one c s
  refine (Tryz.strings_Split s ⟨#[c]⟩ m w hs hm h1).mono ?_
  rintro e w' ⟨rfl, rfl⟩
  rw [← hlen, hsp]
  exact ⟨rfl, rfl⟩
theorem piecesB_le (c : UInt8) (s : ByteArray) : (piecesB c s).length ≤ s.size + 1 := by
  unfold piecesB
  rw [List.length_map, splitL_length, Lib.size_eq]
  have := List.count_le_length (a := c) (l := s.data.toList)
  omega

/-- The fields among the first k pieces. -/
def keptTo (ps : List ByteArray) (k : Nat) : List ByteArray := (ps.take k).filter (fun f => !f.toList.isEmpty)
theorem keptTo_succ (ps : List ByteArray) (k : Nat) (hk : k < ps.length) : keptTo ps (k + 1) = keptTo ps k ++ (if ps[k].toList.isEmpty then [] else [ps[k]]) := by
  unfold keptTo
  rw [List.take_succ_eq_append_getElem hk, List.filter_append]
  congr 1
  rw [List.filter_cons]
  cases ps[k].toList.isEmpty <;> simp
theorem keptTo_le (ps : List ByteArray) (k : Nat) : (keptTo ps k).length ≤ k := by
  unfold keptTo
  exact Nat.le_trans (List.length_filter_le _ _) (by rw [List.length_take]; omega)
theorem keptTo_all (s : ByteArray) : keptTo (piecesB 32 (cutB 35 s)) (piecesB 32 (cutB 35 s)).length = fieldsB s := by
  unfold keptTo piecesB cutB fieldsB fieldsL
  rw [List.take_length, bs_data, List.filter_map]
  congr 1
  refine List.filter_congr fun f _ => ?_
  show (!(bs f).toList.isEmpty) = _
  rw [ByteArray.toList_eq, bs_data]

set_option maxHeartbeats 400000 in
theorem fields_gen (s : ByteArray) (w : World) (hs : s.size ≤ maxLen) (hsz : (cutB 35 s).size < 2147483648) (hg : Glo w) :
    Calls Tryz.prog 21 #[.string s] w fun e w' => ∃ v, e = .returned v ∧ Own Ty.str 9 w' w.heap.size v (fieldsB s) ∧ Below w.heap.size w w' := by
  have HA := Lib.hid (keptTo_all s)
  go_enter Tryz.func21, Tryz.ntmps21
  go_wp2_with fail
  refine (cut_one_any s 35 w hs).mono ?_
  rintro e w' ⟨b, x, n, rfl, rfl⟩
  go_wp2_with fail
  refine (split_any _ _ _ (by omega) (hg.next (below_drewN (Below.refl _ _) n))).mono ?_
  rintro e w' ⟨rfl, rfl⟩
  have hpl := piecesB_le 32 (cutB 35 s)
  generalize hps : piecesB 32 (cutB 35 s) = ps at *
  clear hps
  have hc : ∀ k (h : k < ps.length), ((w.drewN n).alloc (.cells (ps.map Value.string).toArray 9)).cell? ⟨w.heap.size, k, none⟩ = some (.string ps[k]) := by
    intro k h
    rw [World.cell?_alloc_at _ _ _ _ (show w.heap.size = (w.drewN n).heap.size from rfl)]
    simp [h]
  have hbl : Below w.heap.size w ((w.drewN n).alloc (.cells (ps.map Value.string).toArray 9)) := (below_drewN (Below.refl _ _) n).alloc (Nat.le_refl _) _
  have hws : ((w.drewN n).alloc (.cells (ps.map Value.string).toArray 9)).heap.size = w.heap.size + 1 := by simp
  generalize hW : (w.drewN n).alloc (.cells (ps.map Value.string).toArray 9) = W at *
  clear hW
  have HC := Lib.hid hc; clear hc
  have HWS := Lib.hid hws; clear hws
  go_wp2_with fail
  go_loopw [3, 15] (fun v i wr => ∃ k : Nat, k ≤ ps.length ∧ i = .int .i64 k ∧ Own Ty.str 9 wr (w.heap.size + 1) v (keptTo ps k) ∧ Below (w.heap.size + 1) W wr) (fun _ i _ => ps.length - (intOf i).toNat)
  case atStart => exact ⟨0, Nat.zero_le _, rfl, Own.nil, Below.refl _ _⟩
  case round =>
    obtain ⟨k, hk, rfl, hown, hbr⟩ := hrel
    have hkl := keptTo_le ps k
    have hbs : w.heap.size + 1 ≤ wr.heap.size := by have := hbr.size; have := HWS.out; omega
    by_cases hlt : k < ps.length
    · have hcell : wr.cell? ⟨w.heap.size, k, none⟩ = some (.string ps[k]) := (hbr.cell (by simp)).trans (HC.out k hlt)
      have HK := Lib.hid (keptTo_succ ps k hlt)
      by_cases he : (!ps[k].toList.isEmpty) = true
      · have HE := Lib.hid he
        go_wp2_with (at_builtin; refine wpList_push_str rfl _ _ rfl strElem rfl (hown.alloc _) wr.heap.size ps[k] rfl ?c1 ?c2 ?c3 (Nat.le_refl _) (hbr.alloc hbs _) ?_)
        case c1 => simp
        case c2 => omega
        case c3 => simp; omega
        intro v' w1 hown' hbr2
        have hown2 : Own Ty.str 9 w1 (w.heap.size + 1) v' (keptTo ps (k + 1)) := by
          have hE := HE.out
          simp at hE
          rw [HK.out]
          simpa [hE] using hown'
        clear hown' hown
        go_wp2_with fail
        go_roundw
        case rel => exact ⟨k + 1, by omega, by go_num, hown2, hbr2⟩
        case measure => simp [intOf]; omega
      · have he' : (!ps[k].toList.isEmpty) = false := by simpa using he
        have HE := Lib.hid he'
        clear he
        have hown2 : Own Ty.str 9 wr (w.heap.size + 1) u3 (keptTo ps (k + 1)) := by
          have hE := HE.out
          simp at hE
          rw [HK.out]
          simpa [hE] using hown
        clear hown
        go_wp2_with fail
        go_roundw
        case rel => exact ⟨k + 1, by omega, by go_num, hown2, hbr⟩
        case measure => simp [intOf]; omega
    · go_wp2_with fail
      go_ret
      have e1 : k = ps.length := by omega
      subst e1
      rw [HA.out] at hown
      exact ⟨_, rfl, hown.lower (Nat.le_succ _), hbl.trans (hbr.mono (by omega))⟩
theorem fields_own (s : ByteArray) (w : World) (hs : s.size < 2147483648) (hg : Glo w) :
    Calls Tryz.prog 21 #[.string s] w fun e w' => ∃ v, e = .returned v ∧ Own Ty.str 9 w' w.heap.size v (fieldsB s) ∧ Below w.heap.size w w' :=
  fields_gen s w (by unfold maxLen; omega) (Nat.lt_of_le_of_lt (cutB_size 35 s) hs) hg
theorem fields_any (s : ByteArray) (w : World) (hs : s.size < 2147483648) (hg : Glo w) :
    Calls Tryz.prog 21 #[.string s] w fun e w' => ∃ A c, e = .returned (.slice A (fieldsB s).length c) ∧ Sl Ty.str w' (all_ w') A (fieldsB s).length c (fieldsB s) ∧ Below w.heap.size w w' := by
  refine (fields_own s w hs hg).mono ?_
  rintro e w' ⟨v, rfl, h, hb⟩
  obtain ⟨A, c, rfl, h2⟩ := h.sl
  exact ⟨A, c, rfl, h2.more fun b hb => hb.2, hb⟩
end Go.Proofs.YtkhedjfdjjeopaaGreatDoor
/-
  Contract of the reference's Fields (package pairingref5): it returns the same fields as text.Fields.
  Condition: the string is shorter than 2^31 bytes.
-/
namespace Go.Proofs.YtkhedjfdjjeopaaGreatDoor
set_option linter.unusedSimpArgs false
set_option linter.unusedVariables false
open Go.RowKit

theorem byte_is {s : ByteArray} {k : Nat} (h : k < s.size) (c : UInt8) : ((s[k].toNat : Int) == (c.toNat : Int)) = decide (s[k] = c) := by
  rw [Bool.eq_iff_iff, beq_iff_eq, decide_eq_true_eq]
  refine ⟨fun e => UInt8.toNat.inj (by omega), fun e => by rw [e]⟩

set_option maxHeartbeats 800000 in
theorem refFields_own (s : ByteArray) (w : World) (hs : s.size < 2147483648) :
    Calls Tryz.prog 26 #[.string s] w fun e w' => ∃ v, e = .returned v ∧ Own Ty.str 9 w' w.heap.size v (fieldsB s) ∧ Below w.heap.size w w' := by
  go_enter Tryz.func26, Tryz.ntmps26
  go_wp2_with fail
  go_loopw [3, 4, 5] (fun v f i wr => ∃ (k : Nat) (fr : Int) (l : List ByteArray), i = .int .i64 k ∧ f = .int .i64 fr ∧ Own Ty.str 9 wr w.heap.size v l ∧ Below w.heap.size w wr ∧ Hid (RF s k fr l)) (fun _ _ i _ => s.size + 2 - (intOf i).toNat)
  case atStart => exact ⟨0, -1, [], rfl, rfl, Own.nil, Below.refl _ _, RF.start s⟩
  case round =>
    obtain ⟨k, fr, l, rfl, rfl, hown, hbr, HR⟩ := hrel
    obtain ⟨hb1, hb2, hb3⟩ := HR.out.bd
    have hll := HR.out.len
    have hbs := hbr.size
    by_cases hlt : k < s.size
    · have e1 := byte_is hlt 32
      have e2 := byte_is hlt 35
      simp only [show ((32 : UInt8).toNat : Int) = 32 from rfl, show ((35 : UInt8).toNat : Int) = 35 from rfl] at e1 e2
      have hkk : ((k : Int) == (s.size : Int)) = false := by simp; omega
      by_cases h32 : s[k] = 32
      · have hR := HR.out.blank hlt h32
        rw [decide_eq_true h32] at e1
        rw [h32, decide_eq_false (by decide)] at e2
        have e2' : ((s[k].toNat : Int) == 35) = false := by rw [h32]; rfl
        have H32 := Lib.hid h32; clear h32 e2
        by_cases hfr : 0 ≤ fr
        · rw [if_pos hfr] at hR
          have HR2 := Lib.hid hR; clear hR
          go_wp2_with (at_builtin; refine wpList_push_str rfl _ _ rfl strElem rfl (hown.alloc _) wr.heap.size (s.extract fr.toNat k) rfl ?c1 ?c2 ?c3 (Nat.le_refl _) (hbr.alloc hbs _) ?_)
          case c1 => simp
          case c2 => omega
          case c3 => simp; omega
          intro v' w1 hown2 hbr2
          clear hown
          go_wp2_with fail
          go_roundw
          case rel => exact ⟨k + 1, -1, _, by go_num, rfl, hown2, hbr2, HR2⟩
          case measure => simp [intOf]; omega
        · obtain rfl : fr = -1 := by omega
          rw [if_neg hfr] at hR
          have HR2 := Lib.hid hR; clear hR
          go_wp2_with fail
          go_roundw
          case rel => exact ⟨k + 1, -1, _, by go_num, rfl, hown, hbr, HR2⟩
          case measure => simp [intOf]; omega
      · rw [decide_eq_false h32] at e1
        by_cases h35 : s[k] = 35
        · have hR := HR.out.stop (.inr ⟨hlt, h35⟩)
          rw [decide_eq_true h35] at e2
          have H35 := Lib.hid h35; clear h32 h35
          by_cases hfr : 0 ≤ fr
          · rw [if_pos hfr] at hR
            have HR2 := Lib.hid hR; clear hR
            go_wp2_with (at_builtin; refine wpList_push_str rfl _ _ rfl strElem rfl (hown.alloc _) wr.heap.size (s.extract fr.toNat k) rfl ?c1 ?c2 ?c3 (Nat.le_refl _) (hbr.alloc hbs _) ?_)
            case c1 => simp
            case c2 => omega
            case c3 => simp; omega
            intro v' w1 hown2 hbr2
            clear hown
            go_wp2_with fail
            go_ret
            rw [HR2.out] at hown2
            exact ⟨_, rfl, hown2, hbr2⟩
          · rw [if_neg hfr] at hR
            have HR2 := Lib.hid hR; clear hR
            go_wp2_with fail
            go_ret
            rw [HR2.out] at hown
            exact ⟨_, rfl, hown, hbr⟩
        · have hR := HR.out.byte hlt h32 h35
          rw [decide_eq_false h35] at e2
          have H35 := Lib.hid h35; clear h32 h35
          by_cases hfr : fr < 0
          · rw [if_pos hfr] at hR
            have HR2 := Lib.hid hR; clear hR
            go_wp2_with fail
            go_roundw
            case rel => exact ⟨k + 1, k, _, by go_num, rfl, hown, hbr, HR2⟩
            case measure => simp [intOf]; omega
          · rw [if_neg hfr] at hR
            have HR2 := Lib.hid hR; clear hR
            go_wp2_with fail
            go_roundw
            case rel => exact ⟨k + 1, fr, _, by go_num, rfl, hown, hbr, HR2⟩
            case measure => simp [intOf]; omega
    · by_cases heq : k = s.size
      · have hR := HR.out.stop (.inl heq)
        have hkk : ((k : Int) == (s.size : Int)) = true := by simp; omega
        have hle : k ≤ s.size := by omega
        have HE := Lib.hid heq; clear heq
        by_cases hfr : 0 ≤ fr
        · rw [if_pos hfr] at hR
          have HR2 := Lib.hid hR; clear hR
          go_wp2_with (at_builtin; refine wpList_push_str rfl _ _ rfl strElem rfl (hown.alloc _) wr.heap.size (s.extract fr.toNat k) rfl ?c1 ?c2 ?c3 (Nat.le_refl _) (hbr.alloc hbs _) ?_)
          case c1 => simp
          case c2 => omega
          case c3 => simp; omega
          intro v' w1 hown2 hbr2
          clear hown
          go_wp2_with fail
          go_roundw
          case rel => exact ⟨k + 1, -1, _, by go_num, rfl, hown2, hbr2, by rw [HR2.out, HE.out]; exact RF.done⟩
          case measure => simp [intOf]; omega
        · obtain rfl : fr = -1 := by omega
          rw [if_neg hfr] at hR
          have HR2 := Lib.hid hR; clear hR
          go_wp2_with fail
          go_roundw
          case rel => exact ⟨k + 1, -1, _, by go_num, rfl, hown, hbr, by rw [HR2.out, HE.out]; exact RF.done⟩
          case measure => simp [intOf]; omega
      · have hR := HR.out.end_ (by omega)
        have HR2 := Lib.hid hR; clear hR
        have hgt : s.size < k := by omega
        clear heq
        go_wp2_with fail
        go_ret
        rw [HR2.out] at hown
        exact ⟨_, rfl, hown, hbr⟩
theorem refFields_any (s : ByteArray) (w : World) (hs : s.size < 2147483648) :
    Calls Tryz.prog 26 #[.string s] w fun e w' => ∃ A c, e = .returned (.slice A (fieldsB s).length c) ∧ Sl Ty.str w' (all_ w') A (fieldsB s).length c (fieldsB s) ∧ Below w.heap.size w w' := by
  refine (refFields_own s w hs).mono ?_
  rintro e w' ⟨v, rfl, h, hb⟩
  obtain ⟨A, c, rfl, h2⟩ := h.sl
  exact ⟨A, c, rfl, h2.more fun b hb => hb.2, hb⟩
end Go.Proofs.YtkhedjfdjjeopaaGreatDoor
/-
  Contracts of text.Lines and of the reference's Lines: both return the specified lines or the error's number, in new memory, and change nothing that was there.
  Condition: the string's length fits an int; the library's variable MaxLen holds an int.
-/
namespace Go.Proofs.YtkhedjfdjjeopaaGreatDoor
set_option linter.unusedSimpArgs false
set_option linter.unusedVariables false
open Go.RowKit

def trimB (s : ByteArray) : ByteArray := bs (Lib.trimSuffix s.data.toList [10])
theorem trimB_size (s : ByteArray) : (trimB s).size ≤ s.size := by
  unfold trimB Lib.trimSuffix
  rw [bs_size, Lib.size_eq]
  split
  · rw [List.length_take]; omega
  · exact Nat.le_refl _
theorem trim_any (s : ByteArray) (w : World) (hs : s.size ≤ 9223372036854775807) :
    Calls Tryz.prog 57 #[.string s, .string ⟨#[10]⟩] w fun e w' => e = .returned (.string (trimB s)) ∧ w = w' := by
  refine (Tryz.strings_TrimSuffix s ⟨#[10]⟩ w hs).mono ?_
  rintro e w' ⟨rfl, rfl⟩
  exact ⟨rfl, rfl⟩
theorem pieces_trim (s : ByteArray) (hne : s.size ≠ 0) : piecesB 10 (trimB s) = (linesL s.data.toList).map bs := by
  unfold piecesB trimB
  rw [bs_data, linesL_trim]
  intro e
  have := Lib.size_eq s
  rw [e] at this
  exact hne this
theorem lines_empty (s : ByteArray) (h : s.size = 0) : linesL s.data.toList = [] := by
  have h2 := Lib.size_eq s
  rw [List.eq_nil_of_length_eq_zero (l := s.data.toList) (by omega)]
  rfl

/-- What Lines hands back: the lines in memory and the error's number. -/
def LinesPost (s : ByteArray) (w : World) (e : Ending) (w' : World) : Prop :=
  ∃ A n c, e = .returned (.tuple #[.slice A n c, .int .i64 (linesB s).2]) ∧ Sl Ty.str w' (all_ w') A n c (linesB s).1 ∧ Below w.heap.size w w'

set_option maxHeartbeats 800000 in
theorem lines_any (s : ByteArray) (w : World) (hs : s.size ≤ maxLen) (hg : Glo w) :
    Calls Tryz.prog 20 #[.string s] w (LinesPost s w) := by
  unfold maxLen at hs
  by_cases hbig : 20000 < s.size
  · have HL : Hid (linesB s = ([], 10)) := by show linesB s = _; unfold linesB; rw [if_pos hbig]
    go_enter Tryz.func20, Tryz.ntmps20
    go_wp2_with fail
    go_ret2
    refine ⟨none, 0, 0, ?_, ?_, Below.refl _ _⟩
    · rw [HL.out]; rfl
    · rw [HL.out]; exact Sl.nil0
  · go_enter Tryz.func20, Tryz.ntmps20
    go_wp2_with fail
    go_loop [11] (fun i => ∃ k : Nat, k ≤ s.size ∧ i = .int .i64 k ∧ Hid (allTo (okByte s) k = true)) (fun i => s.size - (intOf i).toNat)
    case atStart => exact ⟨0, Nat.zero_le _, rfl, rfl⟩
    case round =>
      obtain ⟨k, hk, rfl, HA⟩ := hrel
      by_cases hlt : k < s.size
      · have HB := Lib.hid (byteAt_eq s k hlt)
        go_wp2_with fail
        all_goals
          have HB' := HB.out
          first
          | (have hv : okByte s k = true := by unfold okByte; grind
             go_round
             case rel => exact ⟨k + 1, by omega, by go_num, by show allTo _ _ = true; rw [allTo_succ, HA.out, hv]; rfl⟩
             case measure => simp [intOf]; omega)
          | (have hv : okByte s k = false := by unfold okByte; grind
             have HL : Hid (linesB s = ([], 1)) := by show linesB s = _; unfold linesB; rw [if_neg hbig, if_pos (allTo_false hlt hv)]
             go_ret2
             refine ⟨none, 0, 0, ?_, ?_, Below.refl _ _⟩
             · rw [HL.out]; rfl
             · rw [HL.out]; exact Sl.nil0)
      · have hkk : k = s.size := by omega
        have hall : allTo (okByte s) s.size = true := by rw [← hkk]; exact HA.out
        by_cases h0 : s.size = 0
        · have hemp : s.toList.isEmpty = true := by
            rw [ByteArray.toList_eq, List.isEmpty_iff]
            exact List.eq_nil_of_length_eq_zero (by rw [← Lib.size_eq]; exact h0)
          have HL : Hid (linesB s = ([], 0)) := by
            show linesB s = _
            unfold linesB
            rw [if_neg hbig, if_neg (by rw [hall]; decide), lines_empty s h0, if_neg (by decide)]
            rfl
          clear HA hall h0 hkk
          go_wp2_with fail
          go_ret2
          refine ⟨none, 0, 0, ?_, ?_, Below.refl _ _⟩
          · rw [HL.out]; rfl
          · rw [HL.out]; exact Sl.nil0
        · have hemp : s.toList.isEmpty = false := by
            rw [ByteArray.toList_eq, Bool.eq_false_iff]
            intro h
            rw [List.isEmpty_iff] at h
            have := Lib.size_eq s
            rw [h] at this
            exact h0 this
          have HP := Lib.hid (pieces_trim s h0)
          have hpl := piecesB_le 10 (trimB s)
          have htb := trimB_size s
          have HL : Hid (linesB s = if 1000 < (piecesB 10 (trimB s)).length then ([], 10) else (piecesB 10 (trimB s), 0)) := by
            show linesB s = _
            unfold linesB
            rw [if_neg hbig, if_neg (by rw [hall]; decide), HP.out, List.length_map]
          clear HA hall h0 hkk HP
          go_wp2_with fail
          refine (trim_any s _ (by omega)).mono ?_
          rintro e w' ⟨rfl, rfl⟩
          go_wp2_with fail
          refine (split_any _ _ _ (by omega) hg).mono ?_
          rintro e w' ⟨rfl, rfl⟩
          generalize hps : piecesB 10 (trimB s) = ps at *
          clear hps
          have hbl : Below w.heap.size w (w.alloc (.cells (ps.map Value.string).toArray 9)) := (Below.refl _ _).alloc (Nat.le_refl _) _
          have HS : Hid (Sl Ty.str (w.alloc (.cells (ps.map Value.string).toArray 9)) (all_ (w.alloc (.cells (ps.map Value.string).toArray 9))) (some ⟨w.heap.size, 0, none⟩) ps.length ps.length ps) := by
            refine ⟨rfl, Nat.le_refl _, by unfold maxLen; omega, fun _ => ⟨_, _, rfl, by unfold all_; simp, fun i x hi => ⟨[.string x], rfl, fun j u hu => ?_⟩⟩⟩
            rcases j with _ | j
            · simp at hu
              subst hu
              simp only [Ty.str, Nat.zero_add, Nat.mul_one, Nat.add_zero]
              rw [World.cell?_alloc_at _ _ _ _ rfl]
              simp [hi]
            · simp at hu
          by_cases h1000 : 1000 < ps.length
          · go_wp2_with fail
            go_ret2
            refine ⟨none, 0, 0, ?_, ?_, hbl⟩
            · rw [HL.out, if_pos h1000]; rfl
            · rw [HL.out, if_pos h1000]; exact Sl.nil0
          · go_wp2_with fail
            go_ret2
            refine ⟨some ⟨w.heap.size, 0, none⟩, ps.length, ps.length, ?_, ?_, hbl⟩
            · rw [HL.out, if_neg h1000]; rfl
            · rw [HL.out, if_neg h1000]; exact HS.out
end Go.Proofs.YtkhedjfdjjeopaaGreatDoor
/-
  Contract of the reference's Lines (package pairingref5).
  Condition: the string's length fits an int.
-/
namespace Go.Proofs.YtkhedjfdjjeopaaGreatDoor
set_option linter.unusedSimpArgs false
set_option linter.unusedVariables false
open Go.RowKit

set_option maxHeartbeats 800000 in
theorem refLines_any (s : ByteArray) (w : World) (hs : s.size ≤ maxLen) :
    Calls Tryz.prog 25 #[.string s] w (LinesPost s w) := by
  unfold maxLen at hs
  by_cases hbig : 20000 < s.size
  · have HL : Hid (linesB s = ([], 10)) := by show linesB s = _; unfold linesB; rw [if_pos hbig]
    go_enter Tryz.func25, Tryz.ntmps25
    go_wp2_with fail
    go_ret2
    refine ⟨none, 0, 0, ?_, ?_, Below.refl _ _⟩
    · rw [HL.out]; rfl
    · rw [HL.out]; exact Sl.nil0
  · go_enter Tryz.func25, Tryz.ntmps25
    go_wp2_with fail
    go_loop [4] (fun i => ∃ k : Nat, k ≤ s.size ∧ i = .int .i64 k ∧ Hid (allTo (okByte s) k = true)) (fun i => s.size - (intOf i).toNat)
    case atStart => exact ⟨0, Nat.zero_le _, rfl, rfl⟩
    case round =>
      obtain ⟨k, hk, rfl, HA⟩ := hrel
      by_cases hlt : k < s.size
      · have HB := Lib.hid (byteAt_eq s k hlt)
        go_wp2_with fail
        all_goals
          have HB' := HB.out
          first
          | (have hv : okByte s k = true := by unfold okByte; grind
             go_round
             case rel => exact ⟨k + 1, by omega, by go_num, by show allTo _ _ = true; rw [allTo_succ, HA.out, hv]; rfl⟩
             case measure => simp [intOf]; omega)
          | (have hv : okByte s k = false := by unfold okByte; grind
             have HL : Hid (linesB s = ([], 1)) := by show linesB s = _; unfold linesB; rw [if_neg hbig, if_pos (allTo_false hlt hv)]
             go_ret2
             refine ⟨none, 0, 0, ?_, ?_, Below.refl _ _⟩
             · rw [HL.out]; rfl
             · rw [HL.out]; exact Sl.nil0)
      · have hkk : k = s.size := by omega
        have hall : allTo (okByte s) s.size = true := by rw [← hkk]; exact HA.out
        have HL : Hid (linesB s = if 1000 < (linesL s.data.toList).length then ([], 10) else ((linesL s.data.toList).map bs, 0)) := by
          show linesB s = _
          unfold linesB
          rw [if_neg hbig, if_neg (by rw [hall]; decide)]
        have hmx := linesL_length s.data.toList
        rw [← Lib.size_eq] at hmx
        clear HA hall hkk
        go_wp2_with fail
        go_loopw [5, 6, 7] (fun v f i wr => ∃ (k fr : Nat) (l : List ByteArray), k ≤ s.size ∧ fr ≤ k ∧ i = .int .i64 k ∧ f = .int .i64 fr ∧ Own Ty.str 9 wr w.heap.size v l ∧ Below w.heap.size w wr ∧ Hid (RL s k fr l)) (fun _ _ i _ => s.size - (intOf i).toNat)
        case atStart => exact ⟨0, 0, [], Nat.zero_le _, Nat.le_refl _, rfl, rfl, Own.nil, Below.refl _ _, RL.start s⟩
        case round =>
          obtain ⟨k2, fr, l, hk2, hfr, rfl, rfl, hown, hbr, HR⟩ := hrel
          have hll := HR.out.len
          have hbs := hbr.size
          by_cases hlt2 : k2 < s.size
          · have e1 := byte_is hlt2 10
            simp only [show ((10 : UInt8).toNat : Int) = 10 from rfl] at e1
            by_cases h10 : s[k2] = 10
            · have HR2 := Lib.hid (HR.out.line hlt2 h10)
              rw [decide_eq_true h10] at e1
              clear h10 HR
              go_wp2_with (at_builtin; refine wpList_push_str rfl _ _ rfl strElem rfl (hown.alloc _) wr.heap.size (s.extract fr k2) rfl ?c1 ?c2 ?c3 (Nat.le_refl _) (hbr.alloc hbs _) ?_)
              case c1 => simp
              case c2 => omega
              case c3 => simp; omega
              intro v' w1 hown2 hbr2
              clear hown
              go_wp2_with fail
              go_roundw
              case rel => exact ⟨k2 + 1, k2 + 1, _, by omega, by omega, by go_num, by go_num, hown2, hbr2, HR2⟩
              case measure => simp [intOf]; omega
            · have HR2 := Lib.hid (HR.out.byte hlt2 h10)
              rw [decide_eq_false h10] at e1
              clear h10 HR
              go_wp2_with fail
              go_roundw
              case rel => exact ⟨k2 + 1, fr, _, by omega, by omega, by go_num, rfl, hown, hbr, HR2⟩
              case measure => simp [intOf]; omega
          · obtain rfl : k2 = s.size := by omega
            have hst := HR.out.stop
            have HST := Lib.hid hst; clear hst HR
            by_cases hf : fr < s.size
            · have HS2 : Hid (l ++ [s.extract fr s.size] = (linesL s.data.toList).map bs) := by have := HST.out; rw [if_pos hf] at this; exact this
              go_wp2_with (at_builtin; refine wpList_push_str rfl _ _ rfl strElem rfl (hown.alloc _) wr.heap.size (s.extract fr s.size) rfl ?c1 ?c2 ?c3 (Nat.le_refl _) (hbr.alloc hbs _) ?_)
              case c1 => simp
              case c2 => omega
              case c3 => simp; omega
              intro v' w1 hown2 hbr2
              rw [HS2.out] at hown2
              obtain ⟨A, c, rfl, hsl⟩ := hown2.sl
              rw [List.length_map] at hsl
              have HSL := Lib.hid (hsl.more fun b hb => (hb.2 : all_ w1 b))
              clear hown hown2 hsl
              rw [List.length_map]
              by_cases h1000 : 1000 < (linesL s.data.toList).length
              · go_wp2_with fail
                go_ret2
                refine ⟨none, 0, 0, ?_, ?_, hbr2⟩
                · rw [HL.out, if_pos h1000]; rfl
                · rw [HL.out, if_pos h1000]; exact Sl.nil0
              · go_wp2_with fail
                go_ret2
                refine ⟨A, (linesL s.data.toList).length, c, ?_, ?_, hbr2⟩
                · rw [HL.out, if_neg h1000]; rfl
                · rw [HL.out, if_neg h1000]; exact HSL.out
            · have HS2 : Hid (l = (linesL s.data.toList).map bs) := by have := HST.out; rw [if_neg hf] at this; exact this
              rw [HS2.out] at hown
              obtain ⟨A, c, rfl, hsl⟩ := hown.sl
              rw [List.length_map] at hsl
              have HSL := Lib.hid (hsl.more fun b hb => (hb.2 : all_ wr b))
              clear hown hsl HST HS2
              rw [List.length_map]
              by_cases h1000 : 1000 < (linesL s.data.toList).length
              · go_wp2_with fail
                go_ret2
                refine ⟨none, 0, 0, ?_, ?_, hbr⟩
                · rw [HL.out, if_pos h1000]; rfl
                · rw [HL.out, if_pos h1000]; exact Sl.nil0
              · go_wp2_with fail
                go_ret2
                refine ⟨A, (linesL s.data.toList).length, c, ?_, ?_, hbr⟩
                · rw [HL.out, if_neg h1000]; rfl
                · rw [HL.out, if_neg h1000]; exact HSL.out
end Go.Proofs.YtkhedjfdjjeopaaGreatDoor
/-
  Plain facts on decimal numbers in texts: what ParseInt answers, that it inverts the decimal notation of a number of at most ten digits.
  No condition.
-/
namespace Go.Proofs.YtkhedjfdjjeopaaGreatDoor
set_option linter.unusedSimpArgs false
set_option linter.unusedVariables false
open Go

def digAt (s : ByteArray) (i : Nat) : Bool := numberI (byteAt s i)
/-- The number that the first k digits denote. -/
def numTo (s : ByteArray) : Nat → Int
  | 0 => 0
  | k + 1 => 10 * numTo s k + (byteAt s k - 48)
def bnd : Nat → Int
  | 0 => 0
  | k + 1 => 10 * bnd k + 9
theorem numTo_bd (s : ByteArray) : ∀ k, allTo (digAt s) k = true → 0 ≤ numTo s k ∧ numTo s k ≤ bnd k
  | 0, _ => ⟨Int.le_refl _, Int.le_refl _⟩
  | k + 1, h => by
    rw [allTo_succ, Bool.and_eq_true] at h
    have ih := numTo_bd s k h.1
    have h2 := h.2
    unfold digAt numberI at h2
    simp only [Bool.and_eq_true, decide_eq_true_eq] at h2
    simp only [numTo, bnd]
    omega
theorem bnd_mono {j k : Nat} (h : j ≤ k) : bnd j ≤ bnd k := by
  induction k with
  | zero => have : j = 0 := by omega
            subst this; exact Int.le_refl _
  | succ k ih =>
    have hp : ∀ i, 0 ≤ bnd i := fun i => by induction i with
      | zero => exact Int.le_refl _
      | succ i ih => simp only [bnd]; omega
    rcases Nat.lt_or_eq_of_le h with h1 | rfl
    · have := ih (by omega)
      have := hp k
      simp only [bnd]
      omega
    · exact Int.le_refl _
theorem bnd_ten : bnd 10 = 9999999999 := rfl

def stripB (s : ByteArray) : ByteArray := bs (Lib.trimPrefix s.data.toList [45])
theorem stripB_eq (s : ByteArray) : stripB s = if 0 < s.size ∧ byteAt s 0 = 45 then s.extract 1 s.size else s := by
  unfold stripB Lib.trimPrefix Lib.hasPrefix
  obtain ⟨⟨l⟩⟩ := s
  cases l with
  | nil => rfl
  | cons a l =>
    have e1 : (⟨⟨a :: l⟩⟩ : ByteArray).size = l.length + 1 := rfl
    have e2 : byteAt ⟨⟨a :: l⟩⟩ 0 = (a.toNat : Int) := rfl
    have e3 : List.isPrefixOf [45] (a :: l) = decide (a = 45) := by
      simp only [List.isPrefixOf, Bool.and_true]
      by_cases h : a = 45
      · subst h; rfl
      · rw [decide_eq_false h]; simp; exact fun e => h e.symm
    simp only [e1, e2, e3]
    by_cases h : a = 45
    · subst h
      rw [if_pos (decide_eq_true rfl), if_pos ⟨by omega, rfl⟩, extract_take]
      congr 1
      simp
    · rw [if_neg (by simpa using h), if_neg (by
        rintro ⟨_, h2⟩
        exact h (UInt8.toNat.inj (by have : (45 : UInt8).toNat = 45 := rfl; omega)))]
      rfl
theorem stripB_size (s : ByteArray) : (stripB s).size = if 0 < s.size ∧ byteAt s 0 = 45 then s.size - 1 else s.size := by
  rw [stripB_eq]
  split
  · rw [ByteArray.size_extract]; omega
  · rfl
/-- text.ParseInt: the number and the error's number. -/
def parseB (s : ByteArray) : Int × Int :=
  if (stripB s).size < 1 ∨ 10 < (stripB s).size then (0, 1) else
    if byteAt (stripB s) 0 = 48 ∧ (1 < (stripB s).size ∨ (stripB s).size < s.size) then (0, 1) else
      if allTo (digAt (stripB s)) (stripB s).size = false then (0, 1) else
        (if (stripB s).size < s.size then - numTo (stripB s) (stripB s).size else numTo (stripB s) (stripB s).size, 0)
theorem parseB_bd (s : ByteArray) : -9999999999 ≤ (parseB s).1 ∧ (parseB s).1 ≤ 9999999999 := by
  unfold parseB
  split
  · decide
  · split
    · decide
    · split
      · decide
      · rename_i h1 _ h3
        have h := numTo_bd (stripB s) (stripB s).size (by simpa using h3)
        have hb : bnd (stripB s).size ≤ bnd 10 := bnd_mono (by omega)
        rw [bnd_ten] at hb
        dsimp only
        split <;> omega

theorem numTo_bs (l : List UInt8) (k : Nat) (h : k < l.length) : numTo (bs l) (k + 1) = 10 * numTo (bs l) k + ((l[k].toNat : Int) - 48) := by
  simp only [numTo, byteAt, bs_data]
  rw [List.getD_eq_getElem?_getD, List.getElem?_eq_getElem h]
  rfl
theorem numTo_app (a b : List UInt8) : ∀ k, k ≤ a.length → numTo (bs (a ++ b)) k = numTo (bs a) k
  | 0, _ => rfl
  | k + 1, h => by
    have ih := numTo_app a b k (by omega)
    rw [numTo_bs _ _ (by simp; omega), numTo_bs _ _ (by omega), ih, List.getElem_append_left (by omega)]
theorem dec_facts (u : Nat) : (∀ i, i < (Lib.decDigits u).length → digAt (bs (Lib.decDigits u)) i = true) ∧ numTo (bs (Lib.decDigits u)) (Lib.decDigits u).length = u ∧ (byteAt (bs (Lib.decDigits u)) 0 = 48 → u = 0) := by
  induction u using Nat.strongRecOn with
  | _ u ih =>
    by_cases h : u < 10
    · rw [Lib.decDigits_one h]
      have hn : (UInt8.ofNat (48 + u)).toNat = 48 + u := by
        rw [UInt8.toNat_ofNat']; omega
      have hb : byteAt (bs [UInt8.ofNat (48 + u)]) 0 = 48 + u := by
        show (((UInt8.ofNat (48 + u)).toNat : Nat) : Int) = _
        rw [hn]; omega
      refine ⟨fun i hi => ?_, ?_, fun he => ?_⟩
      · have : i = 0 := by simpa using hi
        subst this
        unfold digAt numberI
        rw [hb]
        simp
        omega
      · show 10 * 0 + (byteAt _ 0 - 48) = _
        rw [hb]; omega
      · rw [hb] at he; omega
    · have e : Lib.decDigits u = Lib.decDigits (u / 10) ++ [UInt8.ofNat (48 + u % 10)] := by rw [Lib.decDigits, dif_neg h]
      obtain ⟨i1, i2, i3⟩ := ih (u / 10) (by omega)
      have hn : (UInt8.ofNat (48 + u % 10)).toNat = 48 + u % 10 := by
        rw [UInt8.toNat_ofNat']; omega
      have hpos : 1 ≤ (Lib.decDigits (u / 10)).length := by rw [Lib.decDigits_length]; exact Lib.nDigits_pos _
      rw [e]
      have hbo : ∀ i, i < (Lib.decDigits (u / 10)).length → byteAt (bs (Lib.decDigits (u / 10) ++ [UInt8.ofNat (48 + u % 10)])) i = byteAt (bs (Lib.decDigits (u / 10))) i := by
        intro i hi
        unfold byteAt
        rw [bs_data, bs_data, List.getD_eq_getElem?_getD, List.getD_eq_getElem?_getD, List.getElem?_append_left hi]
      refine ⟨fun i hi => ?_, ?_, fun he => ?_⟩
      · rw [List.length_append, List.length_singleton] at hi
        by_cases hlt : i < (Lib.decDigits (u / 10)).length
        · unfold digAt
          rw [hbo i hlt]
          exact i1 i hlt
        · have : i = (Lib.decDigits (u / 10)).length := by omega
          subst this
          unfold digAt byteAt
          rw [bs_data, List.getD_eq_getElem?_getD, List.getElem?_append_right (Nat.le_refl _), Nat.sub_self]
          show numberI (((UInt8.ofNat (48 + u % 10)).toNat : Nat) : Int) = true
          rw [hn]
          unfold numberI
          simp
          omega
      · rw [List.length_append, List.length_singleton, numTo_bs _ _ (by simp), numTo_app _ _ _ (Nat.le_refl _), i2, List.getElem_append_right (Nat.le_refl _)]
        simp only [Nat.sub_self, List.getElem_singleton]
        rw [hn]
        omega
      · rw [hbo 0 (by omega)] at he
        have := i3 he
        omega
theorem nDigits_ten (u : Nat) : Lib.nDigits u ≤ 10 ↔ u ≤ 9999999999 := by
  refine ⟨fun h => ?_, fun h => ?_⟩
  · have h1 := Lib.lt_pow_nDigits u
    have h2 : 10 ^ Lib.nDigits u ≤ 10 ^ 10 := Nat.pow_le_pow_right (by decide) h
    omega
  · by_cases h1 : u < 10
    · rw [Lib.nDigits_small h1]; decide
    · rcases Nat.lt_or_ge 10 (Lib.nDigits u) with h2 | h2
      · exfalso
        have hk : ∀ k v, k < Lib.nDigits v → 10 ^ k ≤ v ∨ k = 0 := by
          intro k
          induction k with
          | zero => intro v _; exact .inr rfl
          | succ k ih =>
            intro v hv
            left
            by_cases hv1 : v < 10
            · rw [Lib.nDigits_small hv1] at hv; omega
            · rw [Lib.nDigits_big hv1] at hv
              rcases ih (v / 10) (by omega) with h5 | h5
              · rw [Nat.pow_succ]; omega
              · subst h5; omega
        rcases hk 10 u h2 with h3 | h3
        · have : (10 : Nat) ^ 10 = 10000000000 := by decide
          omega
        · cases h3
      · exact h2
theorem dec_pos (u : Nat) : 1 ≤ (Lib.decDigits u).length := by rw [Lib.decDigits_length]; exact Lib.nDigits_pos u
theorem dec_head (u : Nat) : byteAt (bs (Lib.decDigits u)) 0 ≠ 45 := by
  have h := (dec_facts u).1 0 (dec_pos u)
  unfold digAt numberI at h
  simp only [Bool.and_eq_true, decide_eq_true_eq] at h
  omega
theorem parse_format (n : Int) : parseB (bs (Lib.itoa n)) = if -9999999999 ≤ n ∧ n ≤ 9999999999 then (n, 0) else (0, 1) := by
  have key : ∀ u : Nat, ∀ s : ByteArray, stripB s = bs (Lib.decDigits u) → (s.size = (stripB s).size ∨ (s.size = (stripB s).size + 1 ∧ u ≠ 0)) →
      parseB s = if u ≤ 9999999999 then (if (stripB s).size < s.size then -(u : Int) else u, 0) else (0, 1) := by
    intro u s hs hsz
    obtain ⟨h1, h2, h3⟩ := dec_facts u
    have hl := dec_pos u
    have hlen := Lib.decDigits_length u
    have h10 := nDigits_ten u
    unfold parseB
    rw [hs, bs_size]
    rw [hs, bs_size] at hsz
    by_cases hu : u ≤ 9999999999
    · rw [if_neg (by omega), if_pos hu, if_neg, if_neg, h2]
      · have : allTo (digAt (bs (Lib.decDigits u))) (Lib.decDigits u).length = true := allTo_iff.2 h1
        rw [this]; decide
      · rintro ⟨h4, h5⟩
        have h6 := h3 h4
        subst h6
        rcases h5 with h5 | h5
        · have : (Lib.decDigits 0).length = 1 := by rw [Lib.decDigits_one (by decide)]; rfl
          omega
        · rcases hsz with h7 | ⟨_, h7⟩
          · omega
          · exact h7 rfl
    · rw [if_neg hu, if_pos (by omega)]
  unfold Lib.itoa
  by_cases hn : n < 0
  · rw [if_pos hn]
    have e1 : stripB (bs (45 :: Lib.decDigits n.natAbs)) = bs (Lib.decDigits n.natAbs) := by
      rw [stripB_eq, if_pos ⟨by rw [bs_size]; simp, rfl⟩, extract_take, bs_size, bs_data, List.take_length]
      rfl
    have e2 := key n.natAbs _ e1 (.inr ⟨by rw [e1, bs_size, bs_size, List.length_cons], by omega⟩)
    rw [e2, e1, bs_size, bs_size, List.length_cons]
    by_cases h : n.natAbs ≤ 9999999999
    · rw [if_pos h, if_pos (Nat.lt_succ_self _), if_pos (by omega)]
      congr 1
      omega
    · rw [if_neg h, if_neg (by omega)]
  · rw [if_neg hn]
    have e1 : stripB (bs (Lib.decDigits n.toNat)) = bs (Lib.decDigits n.toNat) := by
      rw [stripB_eq, if_neg]
      rintro ⟨_, h⟩
      exact dec_head _ h
    have e2 := key n.toNat _ e1 (.inl (by rw [e1]))
    rw [e2, e1, if_neg (Nat.lt_irrefl _)]
    by_cases h : n.toNat ≤ 9999999999
    · rw [if_pos h, if_pos (by omega)]
      congr 1
      omega
    · rw [if_neg h, if_neg (by omega)]
end Go.Proofs.YtkhedjfdjjeopaaGreatDoor
/-
  Contracts of text.ParseInt, text.FormatInt and of the references' Digits, plain, ParseInt, FormatInt.
  Condition: the string's length fits an int; the library's table of powers of ten holds what its text lays.
-/
namespace Go.Proofs.YtkhedjfdjjeopaaGreatDoor
set_option linter.unusedSimpArgs false
set_option linter.unusedVariables false
open Go.RowKit Go.Sort

theorem trimPrefix_any (s : ByteArray) (w : World) :
    Calls Tryz.prog 128 #[.string s, .string ⟨#[45]⟩] w fun e w' => e = .returned (.string (stripB s)) ∧ w = w' := by
  refine (Tryz.strings_TrimPrefix s ⟨#[45]⟩ w).mono ?_
  rintro e w' ⟨rfl, rfl⟩
  exact ⟨rfl, rfl⟩
def ParsePost (s : ByteArray) (w : World) (e : Ending) (w' : World) : Prop := e = .returned (.tuple #[.int .i64 (parseB s).1, .int .i64 (parseB s).2]) ∧ w = w'

/-- ParseInt behind the sign. -/
def parseD (d : ByteArray) (neg : Prop) [Decidable neg] : Int × Int :=
  if d.size < 1 ∨ 10 < d.size then (0, 1) else
    if byteAt d 0 = 48 ∧ (1 < d.size ∨ neg) then (0, 1) else
      if allTo (digAt d) d.size = false then (0, 1) else (if neg then - numTo d d.size else numTo d d.size, 0)
theorem parseB_D (s : ByteArray) : parseB s = parseD (stripB s) ((stripB s).size < s.size) := rfl

set_option maxHeartbeats 800000 in
theorem parseInt_any (s : ByteArray) (w : World) (hs : s.size ≤ maxLen) : Calls Tryz.prog 97 #[.string s] w (ParsePost s w) := by
  unfold maxLen at hs
  have HP := Lib.hid (parseB_D s)
  have hds : (stripB s).size ≤ s.size := by rw [stripB_size]; split <;> omega
  go_enter Tryz.func97, Tryz.ntmps97
  go_wp2_with fail
  refine (trimPrefix_any s w).mono ?_
  rintro e w' ⟨rfl, rfl⟩
  generalize hd : stripB s = d at *
  clear hd
  by_cases h1 : d.size < 1
  · have HR : Hid (parseB s = (0, 1)) := by rw [HP.out]; show parseD _ _ = _; unfold parseD; rw [if_pos (.inl h1)]
    clear HP
    go_wp2_with fail
    go_ret2
    exact ⟨by rw [HR.out]; rfl, rfl⟩
  by_cases h2 : 10 < d.size
  · have HR : Hid (parseB s = (0, 1)) := by rw [HP.out]; show parseD _ _ = _; unfold parseD; rw [if_pos (.inr h2)]
    clear HP
    go_wp2_with fail
    go_ret2
    exact ⟨by rw [HR.out]; rfl, rfl⟩
  have HB0 := Lib.hid (byteAt_eq d 0 (by omega))
  by_cases h4 : byteAt d 0 = 48 ∧ (1 < d.size ∨ d.size < s.size)
  · have HR : Hid (parseB s = (0, 1)) := by rw [HP.out]; show parseD _ _ = _; unfold parseD; rw [if_neg (by omega), if_pos h4]
    have e0 : ((d[0].toNat : Int) == 48) = true := by rw [HB0.out]; simpa using h4.1
    by_cases h5 : 1 < d.size
    · clear h4 HP
      go_wp2_with fail
      go_ret2
      exact ⟨by rw [HR.out]; rfl, rfl⟩
    · have h6 : d.size < s.size := by omega
      clear h4 HP
      go_wp2_with fail
      go_ret2
      exact ⟨by rw [HR.out]; rfl, rfl⟩
  · have HR : Hid (parseB s = if allTo (digAt d) d.size = false then (0, 1) else (if d.size < s.size then - numTo d d.size else numTo d d.size, 0)) := by
      rw [HP.out]; show parseD _ _ = _; unfold parseD; rw [if_neg (by omega), if_neg h4]
    have hcase : (((d[0].toNat : Int) == 48) = false ∧ d.size < s.size) ∨ (((d[0].toNat : Int) == 48) = false ∧ ¬ d.size < s.size) ∨ (((d[0].toNat : Int) == 48) = true ∧ ¬ d.size < s.size) := by
      rw [HB0.out]
      by_cases h0 : byteAt d 0 = 48
      · right; right; exact ⟨by simpa using h0, by omega⟩
      · by_cases h6 : d.size < s.size
        · left; exact ⟨by simpa using h0, h6⟩
        · right; left; exact ⟨by simpa using h0, h6⟩
    have hle1 : byteAt d 0 = 48 → ¬ 1 < d.size := fun h => by omega
    have h5 : ((d[0].toNat : Int) == 48) = true → ¬ 1 < d.size := fun h => hle1 (by rw [← HB0.out]; simpa using h)
    clear h4 HP hle1
    rcases hcase with ⟨e0, hneg⟩ | ⟨e0, hneg⟩ | ⟨e0, hneg⟩
    case' inr.inr => have h7 := h5 e0
    all_goals
      clear h5
      go_wp2_with fail
      clear e0
      go_loop [2, 3, 6, 7, 36] (fun _ _ n _ i => ∃ k : Nat, k ≤ d.size ∧ n = .int .i64 (numTo d k) ∧ i = .int .i64 k ∧ Hid (allTo (digAt d) k = true)) (fun _ _ _ _ i => d.size - (intOf i).toNat)
      case atStart => exact ⟨0, by omega, rfl, rfl, rfl⟩
      case round =>
        obtain ⟨k, hk, rfl, rfl, HA⟩ := hrel
        obtain ⟨hn1, hn2⟩ := numTo_bd d k HA.out
        have hb : bnd k ≤ 9999999999 := bnd_mono (k := 10) (by omega)
        by_cases hlt : k < d.size
        · have HB := Lib.hid (byteAt_eq d k hlt)
          have hb1 := byteAt_lo d k
          have hb2 := byteAt_hi d k
          by_cases hdg : digAt d k = true
          · have hdd := hdg
            unfold digAt numberI at hdd
            simp only [Bool.and_eq_true, decide_eq_true_eq] at hdd
            have l1 : 48 ≤ (d[k].toNat : Int) := by rw [HB.out]; exact hdd.1
            have l2 : (d[k].toNat : Int) ≤ 57 := by rw [HB.out]; exact hdd.2
            have HA2 : Hid (allTo (digAt d) (k + 1) = true) := by show allTo _ _ = true; rw [allTo_succ, HA.out, hdg]; rfl
            have HN : Hid (numTo d (k + 1) = 10 * numTo d k + ((d[k].toNat : Int) - 48)) := by show _ = _; rw [HB.out]; rfl
            clear hdd hdg HA
            go_wp2_with fail
            go_round
            case rel => exact ⟨k + 1, by omega, by rw [HN.out], by go_num, HA2⟩
            case measure => simp [intOf]; omega
          · have hdd : digAt d k = false := by simpa using hdg
            have HF := Lib.hid (allTo_false hlt hdd)
            unfold digAt numberI at hdd
            rw [← HB.out] at hdd
            have HD := Lib.hid hdd
            clear hdd hdg
            go_wp2_with fail
            all_goals have HD2 := HD.out
            all_goals first
              | (exfalso; simp at HD2; omega)
              | (go_ret2; exact ⟨by rw [HR.out, if_pos HF.out]; rfl, rfl⟩)
        · have hkk : k = d.size := by omega
          subst hkk
          have HT := Lib.hid HA.out
          first
          | (have HR2 : Hid (parseB s = (- numTo d d.size, 0)) := by rw [HR.out, if_neg (by rw [HA.out]; decide), if_pos hneg]; rfl
             go_wp2_with fail
             go_ret2
             exact ⟨by rw [HR2.out]; rfl, rfl⟩)
          | (have HR2 : Hid (parseB s = (numTo d d.size, 0)) := by rw [HR.out, if_neg (by rw [HA.out]; decide), if_neg hneg]; rfl
             go_wp2_with fail
             go_ret2
             exact ⟨by rw [HR2.out]; rfl, rfl⟩)

/-- The reference's Digits: the number and whether there are low to high digits and nothing else. -/
def digitsB (s : ByteArray) (lo hi : Int) : Int × Bool :=
  if (s.size : Int) < lo ∨ hi < (s.size : Int) then (0, false) else if allTo (digAt s) s.size = false then (0, false) else (numTo s s.size, true)
def DigitsPost (s : ByteArray) (lo hi : Int) (w : World) (e : Ending) (w' : World) : Prop := e = .returned (.tuple #[.int .i64 (digitsB s lo hi).1, .bool (digitsB s lo hi).2]) ∧ w = w'
set_option maxHeartbeats 800000 in
theorem digits_any (s : ByteArray) (lo hi : Int) (w : World) (hhi : hi ≤ 16) : Calls Tryz.prog 104 #[.string s, .int .i64 lo, .int .i64 hi] w (DigitsPost s lo hi w) := by
  by_cases h1 : (s.size : Int) < lo
  · have HR : Hid (digitsB s lo hi = (0, false)) := by show digitsB _ _ _ = _; unfold digitsB; rw [if_pos (.inl h1)]
    go_enter Tryz.func104, Tryz.ntmps104
    go_wp2_with fail
    go_ret2
    exact ⟨by rw [HR.out]; rfl, rfl⟩
  by_cases h2 : hi < (s.size : Int)
  · have HR : Hid (digitsB s lo hi = (0, false)) := by show digitsB _ _ _ = _; unfold digitsB; rw [if_pos (.inr h2)]
    go_enter Tryz.func104, Tryz.ntmps104
    go_wp2_with fail
    go_ret2
    exact ⟨by rw [HR.out]; rfl, rfl⟩
  have HR : Hid (digitsB s lo hi = if allTo (digAt s) s.size = false then (0, false) else (numTo s s.size, true)) := by
    show digitsB _ _ _ = _; unfold digitsB; rw [if_neg (by omega)]
  have hsz : s.size ≤ 16 := by omega
  go_enter Tryz.func104, Tryz.ntmps104
  go_wp2_with fail
  go_loop [6, 7, 8, 9] (fun _ _ n i => ∃ k : Nat, k ≤ s.size ∧ n = .int .i64 (numTo s k) ∧ i = .int .i64 k ∧ Hid (allTo (digAt s) k = true)) (fun _ _ _ i => s.size - (intOf i).toNat)
  case atStart => exact ⟨0, by omega, rfl, rfl, rfl⟩
  case round =>
    obtain ⟨k, hk, rfl, rfl, HA⟩ := hrel
    obtain ⟨hn1, hn2⟩ := numTo_bd s k HA.out
    have hb : bnd k ≤ 9999999999999999 := bnd_mono (k := 16) (by omega)
    by_cases hlt : k < s.size
    · have HB := Lib.hid (byteAt_eq s k hlt)
      have hb1 := byteAt_lo s k
      have hb2 := byteAt_hi s k
      by_cases hdg : digAt s k = true
      · have hdd := hdg
        unfold digAt at hdd
        rw [← HB.out] at hdd
        have HD := Lib.hid hdd
        unfold numberI at hdd
        simp only [Bool.and_eq_true, decide_eq_true_eq] at hdd
        have l1 : 48 ≤ (s[k].toNat : Int) := hdd.1
        have l2 : (s[k].toNat : Int) ≤ 57 := hdd.2
        have HA2 : Hid (allTo (digAt s) (k + 1) = true) := by show allTo _ _ = true; rw [allTo_succ, HA.out, hdg]; rfl
        have HN : Hid (numTo s (k + 1) = 10 * numTo s k + ((s[k].toNat : Int) - 48)) := by show _ = _; rw [HB.out]; rfl
        clear hdd hdg HA
        go_wp2_with fail
        refine (number_any _ _).mono ?_
        rintro e w' ⟨rfl, rfl⟩
        rw [HD.out]
        go_wp2_with fail
        go_round
        case rel => exact ⟨k + 1, by omega, by rw [HN.out], by go_num, HA2⟩
        case measure => simp [intOf]; omega
      · have hdd : digAt s k = false := by simpa using hdg
        have HF := Lib.hid (allTo_false hlt hdd)
        unfold digAt at hdd
        rw [← HB.out] at hdd
        have HD := Lib.hid hdd
        clear hdd hdg
        go_wp2_with fail
        refine (number_any _ _).mono ?_
        rintro e w' ⟨rfl, rfl⟩
        rw [HD.out]
        go_wp2_with fail
        go_ret2
        exact ⟨by rw [HR.out, if_pos HF.out]; rfl, rfl⟩
    · obtain rfl : k = s.size := by omega
      have HR2 : Hid (digitsB s lo hi = (numTo s s.size, true)) := by rw [HR.out, if_neg (by rw [HA.out]; decide)]; rfl
      go_wp2_with fail
      go_ret2
      exact ⟨by rw [HR2.out]; rfl, rfl⟩

def plainB (s : ByteArray) : Bool := (s.size == 1) || (decide (1 < s.size) && !(byteAt s 0 == 48))
theorem plain_any (s : ByteArray) (w : World) : Calls Tryz.prog 105 #[.string s] w fun e w' => e = .returned (.bool (plainB s)) ∧ w = w' := by
  by_cases h1 : s.size = 1
  · have hb : ((s.size : Int) == 1) = true := by simp [h1]
    have HR : Hid (plainB s = true) := by show _ = _; unfold plainB; rw [h1]; rfl
    clear h1
    go_enter Tryz.func105, Tryz.ntmps105
    go_wp2_with fail
    go_ret
    exact ⟨ret_bool HR.out.symm, rfl⟩
  · have hb : ((s.size : Int) == 1) = false := by simp; omega
    have hb' : (s.size == 1) = false := by simpa using h1
    by_cases h2 : 1 < s.size
    · have HB := Lib.hid (byteAt_eq s 0 (by omega))
      have HR : Hid (plainB s = !(byteAt s 0 == 48)) := by show _ = _; unfold plainB; rw [hb', decide_eq_true h2]; rfl
      clear h1 hb'
      go_enter Tryz.func105, Tryz.ntmps105
      go_wp2_with fail
      go_ret
      exact ⟨ret_bool (by rw [HR.out, ← HB.out]; rfl), rfl⟩
    · have HR : Hid (plainB s = false) := by show _ = _; unfold plainB; rw [hb', decide_eq_false h2]; rfl
      clear h1 hb'
      go_enter Tryz.func105, Tryz.ntmps105
      go_wp2_with fail
      go_ret
      exact ⟨ret_bool HR.out.symm, rfl⟩

theorem numTo_zero {d : ByteArray} {k : Nat} (h : allTo (digAt d) (k + 1) = true) (h0 : numTo d (k + 1) = 0) : byteAt d 0 = 48 := by
  have h1 := (allTo_iff.1 h) 0 (by omega)
  induction k with
  | zero =>
    simp only [numTo] at h0
    omega
  | succ k ih =>
    have h2 := h
    rw [allTo_succ, Bool.and_eq_true] at h2
    have hb := numTo_bd d (k + 1) h2.1
    have h3 := h2.2
    unfold digAt numberI at h3
    simp only [Bool.and_eq_true, decide_eq_true_eq] at h3
    rw [numTo] at h0
    exact ih h2.1 (by omega)
/-- How the reference parses. -/
theorem parse_ref (d : ByteArray) (neg : Prop) [Decidable neg] : parseD d neg = if (digitsB d 1 10).2 = false ∨ plainB d = false ∨ (neg ∧ (digitsB d 1 10).1 = 0) then (0, 1) else
    (if neg then - (digitsB d 1 10).1 else (digitsB d 1 10).1, 0) := by
  have big : digitsB d 1 10 = if d.size < 1 ∨ 10 < d.size then (0, false) else if allTo (digAt d) d.size = false then (0, false) else (numTo d d.size, true) := by
    unfold digitsB
    by_cases h1 : d.size < 1 ∨ 10 < d.size
    · rw [if_pos h1, if_pos (by omega)]
    · rw [if_neg h1, if_neg (by omega)]
  unfold parseD
  by_cases h1 : d.size < 1 ∨ 10 < d.size
  · rw [if_pos h1] at big ⊢
    rw [big, if_pos (.inl rfl)]
  · rw [if_neg h1] at big ⊢
    by_cases h2 : allTo (digAt d) d.size = false
    · rw [if_pos h2] at big ⊢
      rw [big, ite_self, if_pos (.inl rfl)]
    · have h3 : allTo (digAt d) d.size = true := by simpa using h2
      obtain ⟨k, hk⟩ : ∃ k, d.size = k + 1 := ⟨d.size - 1, by omega⟩
      rw [if_neg h2] at big ⊢
      rw [big]
      dsimp only
      by_cases h4 : byteAt d 0 = 48
      · by_cases h5 : d.size = 1
        · have hp : plainB d = true := by unfold plainB; rw [h5]; rfl
          have hz : numTo d d.size = 0 := by rw [h5]; simp only [numTo]; omega
          by_cases h6 : neg
          · rw [if_pos ⟨h4, .inr h6⟩, if_pos (.inr (.inr ⟨h6, hz⟩))]
          · have c1 : ¬ (byteAt d 0 = 48 ∧ (1 < d.size ∨ neg)) := by
              rintro ⟨_, h | h⟩
              · omega
              · exact h6 h
            have c2 : ¬ (true = false ∨ plainB d = false ∨ neg ∧ numTo d d.size = 0) := by
              rintro (h | h | ⟨h, _⟩)
              · cases h
              · rw [hp] at h; cases h
              · exact h6 h
            rw [if_neg c1, if_neg c2]
        · have hp : plainB d = false := by
            unfold plainB
            rw [h4, show (d.size == 1) = false by simpa using h5]
            simp
          rw [if_pos ⟨h4, .inl (by omega)⟩, if_pos (.inr (.inl hp))]
      · have hp : plainB d = true := by
          unfold plainB
          by_cases h5 : d.size = 1
          · rw [h5]; rfl
          · rw [decide_eq_true (show 1 < d.size by omega)]
            simp [h4]
        have c2 : ¬ (true = false ∨ plainB d = false ∨ neg ∧ numTo d d.size = 0) := by
          rintro (h | h | ⟨_, h⟩)
          · cases h
          · rw [hp] at h; cases h
          · rw [hk] at h h3
            exact h4 (numTo_zero h3 h)
        rw [if_neg (fun h => h4 h.1), if_neg c2]

set_option maxHeartbeats 800000 in
theorem parseIntR_any (s : ByteArray) (w : World) (hs : s.size ≤ maxLen) : Calls Tryz.prog 69 #[.string s] w (ParsePost s w) := by
  unfold maxLen at hs
  have HP := Lib.hid ((parseB_D s).trans (parse_ref _ _))
  have hse := stripB_eq s
  have hds := stripB_size s
  have hdb : 0 ≤ (digitsB (stripB s) 1 10).1 ∧ (digitsB (stripB s) 1 10).1 ≤ 9999999999 := by
    unfold digitsB
    split
    · decide
    · split
      · decide
      · rename_i h1 h2
        have h := numTo_bd (stripB s) (stripB s).size (by simpa using h2)
        have hb : bnd (stripB s).size ≤ bnd 10 := bnd_mono (by omega)
        rw [bnd_ten] at hb
        dsimp only
        omega
  obtain ⟨hd1, hd2⟩ := hdb
  by_cases h0 : 0 < s.size
  · have HB := Lib.hid (byteAt_eq s 0 h0)
    by_cases h45 : byteAt s 0 = 45
    · have e0 : ((s[0].toNat : Int) == 45) = true := by rw [HB.out]; simpa using h45
      rw [if_pos ⟨h0, h45⟩] at hse hds
      have hneg : (stripB s).size < s.size := by omega
      have HSE := Lib.hid hse
      clear h45 hse hds
      go_enter Tryz.func69, Tryz.ntmps69
      go_wp2_with fail
      rw [← HSE.out]
      refine (digits_any (stripB s) 1 10 w (by decide)).mono ?_
      rintro e w' ⟨rfl, rfl⟩
      generalize hn : (digitsB (stripB s) 1 10).1 = n at *
      generalize hok : (digitsB (stripB s) 1 10).2 = ok at *
      clear hn hok
      cases ok
      · have HR : Hid (parseB s = (0, 1)) := by rw [HP.out, if_pos (.inl rfl)]; rfl
        clear HP
        go_wp2_with fail
        go_ret2
        exact ⟨by rw [HR.out]; rfl, rfl⟩
      · go_wp2_with fail
        refine (plain_any (stripB s) w).mono ?_
        rintro e w' ⟨rfl, rfl⟩
        generalize hpl : plainB (stripB s) = pl at *
        clear hpl
        cases pl
        · have HR : Hid (parseB s = (0, 1)) := by rw [HP.out, if_pos (.inr (.inl rfl))]; rfl
          clear HP
          go_wp2_with fail
          go_ret2
          exact ⟨by rw [HR.out]; rfl, rfl⟩
        · by_cases hz : n = 0
          · have HR : Hid (parseB s = (0, 1)) := by rw [HP.out, if_pos (.inr (.inr ⟨hneg, hz⟩))]; rfl
            have hzb : (n == 0) = true := by simpa using hz
            clear HP hz
            go_wp2_with fail
            go_ret2
            exact ⟨by rw [HR.out]; rfl, rfl⟩
          · have HR : Hid (parseB s = (-n, 0)) := by rw [HP.out, if_neg (by rintro (h | h | ⟨_, h⟩); cases h; cases h; exact hz h), if_pos hneg]; rfl
            have hzb : (n == 0) = false := by simpa using hz
            clear HP hz
            go_wp2_with fail
            go_ret2
            exact ⟨by rw [HR.out]; rfl, rfl⟩
    · have e0 : ((s[0].toNat : Int) == 45) = false := by rw [HB.out]; simpa using h45
      rw [if_neg (fun h => h45 h.2)] at hse hds
      have hneg : ¬ (stripB s).size < s.size := by omega
      rw [hse] at HP hd1 hd2 hneg
      clear h45 hse hds
      go_enter Tryz.func69, Tryz.ntmps69
      go_wp2_with fail
      refine (digits_any (s) 1 10 w (by decide)).mono ?_
      rintro e w' ⟨rfl, rfl⟩
      generalize hn : (digitsB (s) 1 10).1 = n at *
      generalize hok : (digitsB (s) 1 10).2 = ok at *
      clear hn hok
      cases ok
      · have HR : Hid (parseB s = (0, 1)) := by rw [HP.out, if_pos (.inl rfl)]; rfl
        clear HP
        go_wp2_with fail
        go_ret2
        exact ⟨by rw [HR.out]; rfl, rfl⟩
      · go_wp2_with fail
        refine (plain_any (s) w).mono ?_
        rintro e w' ⟨rfl, rfl⟩
        generalize hpl : plainB (s) = pl at *
        clear hpl
        cases pl
        · have HR : Hid (parseB s = (0, 1)) := by rw [HP.out, if_pos (.inr (.inl rfl))]; rfl
          clear HP
          go_wp2_with fail
          go_ret2
          exact ⟨by rw [HR.out]; rfl, rfl⟩
        · have HR : Hid (parseB s = (n, 0)) := by rw [HP.out, if_neg (by rintro (h | h | ⟨h, _⟩); cases h; cases h; exact hneg h), if_neg hneg]; rfl
          clear HP
          go_wp2_with fail
          go_ret2
          exact ⟨by rw [HR.out]; rfl, rfl⟩
  · rw [if_neg (fun h => h0 h.1)] at hse hds
    have hneg : ¬ (stripB s).size < s.size := by omega
    rw [hse] at HP hd1 hd2 hneg
    clear hse hds
    go_enter Tryz.func69, Tryz.ntmps69
    go_wp2_with fail
    refine (digits_any (s) 1 10 w (by decide)).mono ?_
    rintro e w' ⟨rfl, rfl⟩
    generalize hn : (digitsB (s) 1 10).1 = n at *
    generalize hok : (digitsB (s) 1 10).2 = ok at *
    clear hn hok
    cases ok
    · have HR : Hid (parseB s = (0, 1)) := by rw [HP.out, if_pos (.inl rfl)]; rfl
      clear HP
      go_wp2_with fail
      go_ret2
      exact ⟨by rw [HR.out]; rfl, rfl⟩
    · go_wp2_with fail
      refine (plain_any (s) w).mono ?_
      rintro e w' ⟨rfl, rfl⟩
      generalize hpl : plainB (s) = pl at *
      clear hpl
      cases pl
      · have HR : Hid (parseB s = (0, 1)) := by rw [HP.out, if_pos (.inr (.inl rfl))]; rfl
        clear HP
        go_wp2_with fail
        go_ret2
        exact ⟨by rw [HR.out]; rfl, rfl⟩
      · have HR : Hid (parseB s = (n, 0)) := by rw [HP.out, if_neg (by rintro (h | h | ⟨h, _⟩); cases h; cases h; exact hneg h), if_neg hneg]; rfl
        clear HP
        go_wp2_with fail
        go_ret2
        exact ⟨by rw [HR.out]; rfl, rfl⟩

theorem grow_below (w : World) (k : Nat) (os : Array Obj) : Below w.heap.size w (grow (w.drewN k) os) := by
  refine ⟨rfl, rfl, rfl, ?_, fun i hi => ?_⟩
  · simp only [grow, World.heap_drewN, Array.size_append]; omega
  · simp only [grow, World.heap_drewN]
    rw [Array.getElem?_append, if_pos hi]
/-- The library's table of powers of ten holds what its text lays. -/
def Pow10 (w : World) : Prop := Lib.TabIs Tryz.prog w "internal/strconv.uint64pow10" .u64 Lib.pow10Tab ∧ 1 < w.heap.size
theorem Pow10.next {w w' : World} (h : Pow10 w) (hb : Below w.heap.size w w') : Pow10 w' :=
  ⟨var?_below hb (by kernel_rfl) h.2 h.1, Nat.lt_of_lt_of_le h.2 hb.size⟩
def fmtB (n : Int) : ByteArray := bs (Lib.itoa n)
theorem itoa_any (n : Int) (w : World) (h0 : -9223372036854775808 ≤ n) (h1 : n ≤ 9223372036854775807) (hp : Pow10 w) :
    Calls Tryz.prog 74 #[.int .i64 n] w fun e w' => e = .returned (.string (fmtB n)) ∧ Below w.heap.size w w' := by
  refine (Tryz.strconv_Itoa n h0 h1 w hp.1).mono ?_
  rintro e w' ⟨rfl, k, os, rfl⟩
  exact ⟨rfl, grow_below w k os⟩
theorem formatInt_any (n : Int) (w : World) (h0 : -9223372036854775808 ≤ n) (h1 : n ≤ 9223372036854775807) (hp : Pow10 w) :
    Calls Tryz.prog 35 #[.int .i64 n] w fun e w' => e = .returned (.string (fmtB n)) ∧ Below w.heap.size w w' := by
  go_enter Tryz.func35, Tryz.ntmps35
  go_wp2_with fail
  refine (itoa_any n w h0 h1 hp).mono ?_
  rintro e w' ⟨rfl, hb⟩
  go_wp2_with fail
  go_ret
  exact ⟨rfl, hb⟩
theorem formatIntR_any (n : Int) (w : World) (h0 : -9223372036854775808 ≤ n) (h1 : n ≤ 9223372036854775807) (hp : Pow10 w) :
    Calls Tryz.prog 41 #[.int .i64 n] w fun e w' => e = .returned (.string (fmtB n)) ∧ Below w.heap.size w w' := by
  go_enter Tryz.func41, Tryz.ntmps41
  go_wp2_with fail
  refine (itoa_any n w h0 h1 hp).mono ?_
  rintro e w' ⟨rfl, hb⟩
  go_wp2_with fail
  go_ret
  exact ⟨rfl, hb⟩
end Go.Proofs.YtkhedjfdjjeopaaGreatDoor
