/-
  Contract of text.Fields: it returns the specified fields in new memory and changes nothing that was there.
  Condition: the string is shorter than 2^31 bytes; the library's variable MaxLen holds an int.
-/
import Derived.Test.YtifconapjfdkcaaGreatDoorSAZ
import Derived.Test.YtifconapjfdkcaaGreatDoorSAA
import Derived.Test.YtifconapjfdkcaaGreatDoorSAE
import Derived.Deep.QuietTactic
import Derived.BigQuiet
namespace Go.Proofs.YtifconapjfdkcaaGreatDoor
set_option linter.unusedSimpArgs false
set_option linter.unusedVariables false
open Go.RowKit

/-- What is asked of the package-level variables. -/
def Glo (w : World) : Prop := ∃ m, w.cell? ⟨0, 0, none⟩ = some (.int .i64 m)
theorem Glo.next {w w' : World} (h : Glo w) (hb : Below w.heap.size w w') : Glo w' := by
  obtain ⟨m, hm⟩ := h
  exact ⟨m, cell_kept hm hb⟩
theorem glo_of_shaped {w : World} (h : w.ShapedOpen Tryz.prog) : Glo w :=
  Go.Proofs.cell_of_shapedOpen_int (zero := #[.int .i64 0]) (t := 3) h (of_decide_eq_true (by kernel_rfl)) (by kernel_rfl) rfl (by kernel_rfl) (by kernel_rfl) Tryz.underlying3
theorem strElem : Elem Tryz.prog 36 9 1 16 := ⟨Tryz.underlying36, by kernel_rfl⟩

/-- What strings.Cut leaves ahead of the first byte c. -/
def cutB (c : UInt8) (s : ByteArray) : ByteArray := bs (s.data.toList.takeWhile (fun b => b != c))
theorem cutB_size (c : UInt8) (s : ByteArray) : (cutB c s).size ≤ s.size := by
  unfold cutB
  rw [bs_size, Lib.size_eq]
  exact (List.takeWhile_prefix _).length_le
theorem indexByte_take (c : UInt8) (l : List UInt8) : (0 ≤ Lib.indexByte l c → (Lib.indexByte l c).toNat < l.length ∧ l.take (Lib.indexByte l c).toNat = l.takeWhile (fun b => b != c)) ∧ (¬ 0 ≤ Lib.indexByte l c → l = l.takeWhile (fun b => b != c)) := by
  induction l with
  | nil => simp [Lib.indexByte]
  | cons b l ih =>
    rw [Lib.indexByte]
    by_cases hb : b = c
    · subst hb; simp
    · have hge := Lib.indexByte_ge l c
      have hne : (b != c) = true := by simp [hb]
      have hbe : (b == c) = false := by simp [hb]
      rw [hbe]
      simp only [Bool.false_eq_true, if_false]
      by_cases hi : Lib.indexByte l c = -1
      · have := ih.2 (by omega)
        simp only [hi, beq_self_eq_true, if_true]
        refine ⟨fun h => absurd h (by omega), fun _ => ?_⟩
        rw [List.takeWhile_cons, if_pos hne, ← this]
      · have h2 : (Lib.indexByte l c == -1) = false := by simp [hi]
        have := ih.1 (by omega)
        rw [h2]
        simp only [Bool.false_eq_true, if_false]
        refine ⟨fun _ => ?_, fun h => absurd h (by omega)⟩
        rw [List.takeWhile_cons, if_pos hne, ← this.2, show (Lib.indexByte l c + 1).toNat = (Lib.indexByte l c).toNat + 1 by omega]
        exact ⟨by rw [List.length_cons]; omega, rfl⟩

theorem liteCut_one (s : ByteArray) (c : UInt8) (w : World) (hs : s.size ≤ maxLen) :
    Calls Tryz.prog 129 #[.string s, .string ⟨#[c]⟩] w fun e w' => ∃ (b : ByteArray) (x : Bool) (n : Nat), e = .returned (.tuple #[.string (cutB c s), .string b, .bool x]) ∧ w' = w.drewN n := by
  unfold maxLen at hs
  obtain ⟨h1, h2⟩ := indexByte_take c s.data.toList
  have hge := Lib.indexByte_ge s.data.toList c
  have hix := Tryz.stringslite_Index_one s c w
  generalize hi : Lib.indexByte s.data.toList c = i at *
  clear hi
  have HIX := Lib.hid hix; clear hix
  by_cases h0 : 0 ≤ i
  · obtain ⟨h3, h4⟩ := h1 h0
    obtain ⟨k, rfl⟩ := Int.eq_ofNat_of_zero_le h0
    rw [Int.toNat_natCast] at h3 h4
    have HC : Hid (cutB c s = s.extract 0 k) := by show _ = _; rw [extract_take]; unfold cutB; rw [← h4]; rfl
    have hsz := Lib.size_eq s
    have hk : k < s.size := by omega
    clear h1 h2 h3 h4 h0 hsz
    go_enter Tryz.func129, Tryz.ntmps129
    go_wp2_with fail
    refine HIX.out.mono ?_
    rintro e w' ⟨rfl, rfl⟩
    go_wp2_with fail
    go_quiet (fail)
    go_wp2_with fail
    go_ret3
    exact ⟨_, _, _, by rw [HC.out]; rfl, rfl⟩
  · have HC : Hid (cutB c s = s) := by show _ = _; unfold cutB; rw [← h2 h0]; rfl
    have hlt : i < 0 := by omega
    clear h1 h2 h0
    go_enter Tryz.func129, Tryz.ntmps129
    go_wp2_with fail
    refine HIX.out.mono ?_
    rintro e w' ⟨rfl, rfl⟩
    go_wp2_with fail
    go_ret3
    exact ⟨_, _, 0, by rw [HC.out]; rfl, rfl⟩

theorem cut_one_any (s : ByteArray) (c : UInt8) (w : World) (hs : s.size ≤ maxLen) :
    Calls Tryz.prog 97 #[.string s, .string ⟨#[c]⟩] w fun e w' => ∃ (b : ByteArray) (x : Bool) (n : Nat), e = .returned (.tuple #[.string (cutB c s), .string b, .bool x]) ∧ w' = w.drewN n := by
  go_enter Tryz.func97, Tryz.ntmps97
  go_wp2_with fail
  refine (liteCut_one s c w hs).mono ?_
  rintro e w' ⟨b, x, n, rfl, rfl⟩
  go_wp2_with fail
  go_ret3
  exact ⟨b, x, n, rfl, rfl⟩
/-- The pieces that strings.Split makes at the byte c. -/
def piecesB (c : UInt8) (s : ByteArray) : List ByteArray := (splitL c s.data.toList).map bs
theorem split_any (s : ByteArray) (c : UInt8) (w : World) (hs : s.size < 4294967281) (hg : Glo w) :
    Calls Tryz.prog 95 #[.string s, .string ⟨#[c]⟩] w fun e w' => e = .returned (.slice (some ⟨w.heap.size, 0, none⟩) (piecesB c s).length (piecesB c s).length) ∧ w' = w.alloc (.cells ((piecesB c s).map Value.string).toArray 9) := by
  obtain ⟨m, hm⟩ := hg
  have h1 : (1 : Nat) ≤ (⟨#[c]⟩ : ByteArray).size := Nat.le_refl _
  have hlen := Lib.splitB_all ⟨#[c]⟩ h1 0 _ s rfl
  have hsp := splitB_one c s
  refine (Tryz.strings_Split s ⟨#[c]⟩ m w hs hm h1).mono ?_
  rintro e w' ⟨rfl, rfl⟩
  rw [← hlen, hsp]
  exact ⟨rfl, rfl⟩
theorem piecesB_le (c : UInt8) (s : ByteArray) : (piecesB c s).length ≤ s.size + 1 := by
  unfold piecesB
  rw [List.length_map, splitL_length, Lib.size_eq]
  have := List.count_le_length (a := c) (l := s.data.toList)
  omega

/-- The fields among the first k pieces. -/
def keptTo (ps : List ByteArray) (k : Nat) : List ByteArray := (ps.take k).filter (fun f => !f.toList.isEmpty)
theorem keptTo_succ (ps : List ByteArray) (k : Nat) (hk : k < ps.length) : keptTo ps (k + 1) = keptTo ps k ++ (if ps[k].toList.isEmpty then [] else [ps[k]]) := by
  unfold keptTo
  rw [List.take_succ_eq_append_getElem hk, List.filter_append]
  congr 1
  rw [List.filter_cons]
  cases ps[k].toList.isEmpty <;> simp
theorem keptTo_le (ps : List ByteArray) (k : Nat) : (keptTo ps k).length ≤ k := by
  unfold keptTo
  exact Nat.le_trans (List.length_filter_le _ _) (by rw [List.length_take]; omega)
theorem keptTo_all (s : ByteArray) : keptTo (piecesB 32 (cutB 35 s)) (piecesB 32 (cutB 35 s)).length = fieldsB s := by
  unfold keptTo piecesB cutB fieldsB fieldsL
  rw [List.take_length, bs_data, List.filter_map]
  congr 1
  refine List.filter_congr fun f _ => ?_
  show (!(bs f).toList.isEmpty) = _
  rw [ByteArray.toList_eq, bs_data]

set_option maxHeartbeats 400000 in
theorem fields_gen (s : ByteArray) (w : World) (hs : s.size ≤ maxLen) (hsz : (cutB 35 s).size < 2147483648) (hg : Glo w) :
    Calls Tryz.prog 61 #[.string s] w fun e w' => ∃ v, e = .returned v ∧ Own Ty.str 9 w' w.heap.size v (fieldsB s) ∧ Below w.heap.size w w' := by
  have HA := Lib.hid (keptTo_all s)
  go_enter Tryz.func61, Tryz.ntmps61
  go_wp2_with fail
  refine (cut_one_any s 35 w hs).mono ?_
  rintro e w' ⟨b, x, n, rfl, rfl⟩
  go_wp2_with fail
  refine (split_any _ _ _ (by omega) (hg.next (below_drewN (Below.refl _ _) n))).mono ?_
  rintro e w' ⟨rfl, rfl⟩
  have hpl := piecesB_le 32 (cutB 35 s)
  generalize hps : piecesB 32 (cutB 35 s) = ps at *
  clear hps
  have hc : ∀ k (h : k < ps.length), ((w.drewN n).alloc (.cells (ps.map Value.string).toArray 9)).cell? ⟨w.heap.size, k, none⟩ = some (.string ps[k]) := by
    intro k h
    rw [World.cell?_alloc_at _ _ _ _ (show w.heap.size = (w.drewN n).heap.size from rfl)]
    simp [h]
  have hbl : Below w.heap.size w ((w.drewN n).alloc (.cells (ps.map Value.string).toArray 9)) := (below_drewN (Below.refl _ _) n).alloc (Nat.le_refl _) _
  have hws : ((w.drewN n).alloc (.cells (ps.map Value.string).toArray 9)).heap.size = w.heap.size + 1 := by simp
  generalize hW : (w.drewN n).alloc (.cells (ps.map Value.string).toArray 9) = W at *
  clear hW
  have HC := Lib.hid hc; clear hc
  have HWS := Lib.hid hws; clear hws
  go_wp2_with fail
  go_loopw [3, 15] (fun v i wr => ∃ k : Nat, k ≤ ps.length ∧ i = .int .i64 k ∧ Own Ty.str 9 wr (w.heap.size + 1) v (keptTo ps k) ∧ Below (w.heap.size + 1) W wr) (fun _ i _ => ps.length - (intOf i).toNat)
  case atStart => exact ⟨0, Nat.zero_le _, rfl, Own.nil, Below.refl _ _⟩
  case round =>
    obtain ⟨k, hk, rfl, hown, hbr⟩ := hrel
    have hkl := keptTo_le ps k
    have hbs : w.heap.size + 1 ≤ wr.heap.size := by have := hbr.size; have := HWS.out; omega
    by_cases hlt : k < ps.length
    · have hcell : wr.cell? ⟨w.heap.size, k, none⟩ = some (.string ps[k]) := (hbr.cell (by simp)).trans (HC.out k hlt)
      have HK := Lib.hid (keptTo_succ ps k hlt)
      by_cases he : (!ps[k].toList.isEmpty) = true
      · have HE := Lib.hid he
        go_wp2_with (at_builtin; refine wpList_push_str rfl _ _ rfl strElem rfl (hown.alloc _) wr.heap.size ps[k] rfl ?c1 ?c2 ?c3 (Nat.le_refl _) (hbr.alloc hbs _) ?_)
        case c1 => simp
        case c2 => omega
        case c3 => simp; omega
        intro v' w1 hown' hbr2
        have hown2 : Own Ty.str 9 w1 (w.heap.size + 1) v' (keptTo ps (k + 1)) := by
          have hE := HE.out
          simp at hE
          rw [HK.out]
          simpa [hE] using hown'
        clear hown' hown
        go_wp2_with fail
        go_roundw
        case rel => exact ⟨k + 1, by omega, by go_num, hown2, hbr2⟩
        case measure => simp [intOf]; omega
      · have he' : (!ps[k].toList.isEmpty) = false := by simpa using he
        have HE := Lib.hid he'
        clear he
        have hown2 : Own Ty.str 9 wr (w.heap.size + 1) u3 (keptTo ps (k + 1)) := by
          have hE := HE.out
          simp at hE
          rw [HK.out]
          simpa [hE] using hown
        clear hown
        go_wp2_with fail
        go_roundw
        case rel => exact ⟨k + 1, by omega, by go_num, hown2, hbr⟩
        case measure => simp [intOf]; omega
    · go_wp2_with fail
      go_ret
      have e1 : k = ps.length := by omega
      subst e1
      rw [HA.out] at hown
      exact ⟨_, rfl, hown.lower (Nat.le_succ _), hbl.trans (hbr.mono (by omega))⟩
theorem fields_own (s : ByteArray) (w : World) (hs : s.size < 2147483648) (hg : Glo w) :
    Calls Tryz.prog 61 #[.string s] w fun e w' => ∃ v, e = .returned v ∧ Own Ty.str 9 w' w.heap.size v (fieldsB s) ∧ Below w.heap.size w w' :=
  fields_gen s w (by unfold maxLen; omega) (Nat.lt_of_le_of_lt (cutB_size 35 s) hs) hg
end Go.Proofs.YtifconapjfdkcaaGreatDoor
