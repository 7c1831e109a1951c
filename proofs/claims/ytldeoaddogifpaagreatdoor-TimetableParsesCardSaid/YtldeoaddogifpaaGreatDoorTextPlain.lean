/-
  Plain facts on splitting lists of bytes at one byte: what strings.Split and strings.Cut hand back, said by structural recursion; the fields and lines of a text.
  No condition.
-/
import Derived.Lib.SplitLaws
import Derived.Lib.IndexMore
import Derived.Lib.Strings
import Derived.Test.YtldeoaddogifpaaGreatDoorLib
namespace Go.Proofs.YtldeoaddogifpaaGreatDoor
set_option linter.unusedSimpArgs false
set_option linter.unusedVariables false
open Go

def bs (l : List UInt8) : ByteArray := ⟨l.toArray⟩
theorem bs_data (l : List UInt8) : (bs l).data.toList = l := rfl
theorem bs_of (s : ByteArray) : bs s.data.toList = s := rfl
theorem bs_size (l : List UInt8) : (bs l).size = l.length := by rw [Lib.size_eq]; rfl
theorem bs_inj {a b : List UInt8} (h : bs a = bs b) : a = b := by rw [← bs_data a, h, bs_data]
theorem map_bs (l : List ByteArray) : (l.map (·.data.toList)).map bs = l := by
  rw [List.map_map]
  exact List.map_id' l

/-- The pieces between the bytes c. -/
def splitL (c : UInt8) : List UInt8 → List (List UInt8)
  | [] => [[]]
  | b :: l => if b = c then [] :: splitL c l else (b :: (splitL c l).headD []) :: (splitL c l).tail
theorem splitL_ne (c : UInt8) (l : List UInt8) : splitL c l ≠ [] := by
  cases l with
  | nil => simp [splitL]
  | cons b l => unfold splitL; split <;> simp
theorem splitL_eq (c : UInt8) (l : List UInt8) : splitL c l = (splitL c l).headD [] :: (splitL c l).tail := by
  have h := splitL_ne c l
  revert h
  cases splitL c l with
  | nil => intro h; exact absurd rfl h
  | cons a r => intro _; rfl
theorem index_one_cons (b c : UInt8) (l : List UInt8) : Lib.index (b :: l) [c] = if b = c then 0 else if Lib.index l [c] == -1 then -1 else Lib.index l [c] + 1 := by
  rw [Lib.index]
  have : List.isPrefixOf [c] (b :: l) = decide (b = c) := by
    simp only [List.isPrefixOf, Bool.and_true]
    by_cases h : b = c
    · subst h; simp
    · simp [h]; exact fun e => h e.symm
  rw [this]
  by_cases h : b = c <;> simp [h]
theorem splitK_one (c : UInt8) : ∀ (l : List UInt8) (k : Nat), l.count c ≤ k → Lib.splitK [c] 0 k l = splitL c l := by
  intro l
  induction l with
  | nil => intro k _; cases k <;> simp [Lib.splitK, splitL, Lib.index]
  | cons b l ih =>
    intro k hk
    by_cases hb : b = c
    · subst hb
      obtain ⟨k, rfl⟩ : ∃ j, k = j + 1 := ⟨k - 1, by simp at hk; omega⟩
      simp only [List.count_cons_self] at hk
      rw [Lib.splitK, index_one_cons]
      simp [splitL, ih k (by omega)]
    · have hk' : l.count c ≤ k := by rwa [List.count_cons_of_ne hb] at hk
      have h1 := ih k hk'
      have hs : splitL c (b :: l) = (b :: (splitL c l).headD []) :: (splitL c l).tail := by rw [splitL, if_neg hb]
      rw [hs, ← h1]
      cases k with
      | zero => simp [Lib.splitK]
      | succ k =>
        rw [Lib.splitK, Lib.splitK, index_one_cons, if_neg hb]
        by_cases hi : Lib.index l [c] = -1
        · simp [hi]
        · have hge := Lib.index_ge l [c]
          have h2 : (Lib.index l [c] == -1) = false := by simp [hi]
          have h3 : (Lib.index l [c] + 1 == -1) = false := by simp; omega
          rw [h2]
          simp only [Bool.false_eq_true, if_false]
          rw [h3]
          simp only [Bool.false_eq_true, if_false, List.headD_cons, List.tail_cons, Nat.add_zero]
          have h4 : (Lib.index l [c] + 1).toNat = (Lib.index l [c]).toNat + 1 := by omega
          rw [h4]
          simp [Nat.add_right_comm]
theorem splitB_one (c : UInt8) (s : ByteArray) : Lib.splitB ⟨#[c]⟩ 0 (Lib.countB s ⟨#[c]⟩) s = (splitL c s.data.toList).map bs := by
  rw [← map_bs (Lib.splitB _ _ _ _), Lib.splitB_data]
  congr 1
  refine splitK_one c _ _ ?_
  show _ ≤ Lib.count s.data.toList [c]
  rw [Lib.count_one]
  exact Nat.le_refl _
theorem splitL_length (c : UInt8) (l : List UInt8) : (splitL c l).length = l.count c + 1 := by
  induction l with
  | nil => rfl
  | cons b l ih =>
    by_cases hb : b = c
    · subst hb; simp [splitL, ih]
    · rw [splitL, if_neg hb, List.count_cons_of_ne hb, ← ih, List.length_cons, List.length_tail]
      have := List.length_pos_iff.2 (splitL_ne c l)
      omega
theorem cut_one (c : UInt8) (l : List UInt8) : (Lib.cut l [c]).1 = l.takeWhile (fun b => b != c) := by
  have key : ∀ l : List UInt8, (0 ≤ Lib.index l [c] → l.take (Lib.index l [c]).toNat = l.takeWhile (fun b => b != c)) ∧ (¬ 0 ≤ Lib.index l [c] → l = l.takeWhile (fun b => b != c)) := by
    intro l
    induction l with
    | nil => simp [Lib.index]
    | cons b l ih =>
      rw [index_one_cons]
      by_cases hb : b = c
      · subst hb; simp
      · rw [if_neg hb]
        have hge := Lib.index_ge l [c]
        have hne : (b != c) = true := by simp [hb]
        by_cases hi : Lib.index l [c] = -1
        · have := ih.2 (by omega)
          simp only [hi, beq_self_eq_true, if_true]
          refine ⟨fun h => absurd h (by omega), fun _ => ?_⟩
          rw [List.takeWhile_cons, if_pos hne, ← this]
        · have h2 : (Lib.index l [c] == -1) = false := by simp [hi]
          have := ih.1 (by omega)
          rw [h2]
          simp only [Bool.false_eq_true, if_false]
          refine ⟨fun _ => ?_, fun h => absurd h (by omega)⟩
          rw [List.takeWhile_cons, if_pos hne, ← this, show (Lib.index l [c] + 1).toNat = (Lib.index l [c]).toNat + 1 by omega]
          rfl
  unfold Lib.cut
  split
  · rename_i h; exact (key l).1 h
  · rename_i h; exact (key l).2 h

/-- The parts of a line without its comment. -/
def fieldsL (l : List UInt8) : List (List UInt8) := (splitL 32 (l.takeWhile (fun b => b != 35))).filter (fun f => !f.isEmpty)
def fieldsB (s : ByteArray) : List ByteArray := (fieldsL s.data.toList).map bs
theorem splitL_snoc {c b : UInt8} {p : List UInt8} {ps : List (List UInt8)} {cur : List UInt8} (h : splitL c p = ps ++ [cur]) :
    splitL c (p ++ [b]) = if b = c then ps ++ [cur] ++ [[]] else ps ++ [cur ++ [b]] := by
  induction p generalizing ps cur with
  | nil =>
    have h' : ps = [] ∧ cur = [] := by
      cases ps with
      | nil => simp [splitL] at h; exact ⟨rfl, h⟩
      | cons q ps => simp [splitL] at h
    obtain ⟨rfl, rfl⟩ := h'
    by_cases hb : b = c <;> simp [splitL, hb]
  | cons a p ih =>
    by_cases ha : a = c
    · subst ha
      rw [splitL, if_pos rfl] at h
      cases ps with
      | nil => simp at h; exact absurd h.2 (splitL_ne a p)
      | cons q ps =>
        simp only [List.cons_append, List.cons.injEq] at h
        obtain ⟨rfl, h⟩ := h
        rw [List.cons_append, splitL, if_pos rfl, ih h]
        split <;> rfl
    · rw [splitL, if_neg ha] at h
      have he := splitL_eq c p
      cases ps with
      | nil =>
        simp only [List.nil_append, List.cons.injEq] at h
        obtain ⟨h1, h2⟩ := h
        rw [h2] at he
        rw [List.cons_append, splitL, if_neg ha, ih (ps := []) he]
        subst h1
        by_cases hb : b = c <;> simp [hb]
      | cons q ps =>
        simp only [List.cons_append, List.cons.injEq] at h
        obtain ⟨h1, h2⟩ := h
        rw [h2] at he
        rw [List.cons_append, splitL, if_neg ha, ih (ps := (splitL c p).headD [] :: ps) (by rw [List.cons_append]; exact he)]
        subst h1
        by_cases hb : b = c <;> simp [hb]
theorem splitL_last (c : UInt8) (l : List UInt8) : ∃ ps cur, splitL c l = ps ++ [cur] :=
  ⟨(splitL c l).dropLast, (splitL c l).getLast (splitL_ne c l), (List.dropLast_concat_getLast (splitL_ne c l)).symm⟩

/-- The lines of a text: the pieces between the bytes 10, without an empty last one. -/
def linesL (l : List UInt8) : List (List UInt8) := if (splitL 10 l).getLast (splitL_ne 10 l) = [] then (splitL 10 l).dropLast else splitL 10 l
theorem linesL_of {l : List UInt8} {ps : List (List UInt8)} {cur : List UInt8} (h : splitL 10 l = ps ++ [cur]) : linesL l = if cur = [] then ps else ps ++ [cur] := by
  have e1 : (splitL 10 l).getLast (splitL_ne 10 l) = cur := by
    simp only [h, List.getLast_append, List.getLast_singleton]
    simp
  unfold linesL
  rw [e1, h, List.dropLast_concat]
theorem linesL_trim (l : List UInt8) (hne : l ≠ []) : splitL 10 (Lib.trimSuffix l [10]) = linesL l := by
  obtain ⟨p, b, rfl⟩ : ∃ p b, l = p ++ [b] := ⟨l.dropLast, l.getLast hne, (List.dropLast_concat_getLast hne).symm⟩
  obtain ⟨ps, cur, h⟩ := splitL_last 10 p
  have h2 := splitL_snoc (b := b) h
  unfold Lib.trimSuffix Lib.hasSuffix
  by_cases hb : b = 10
  · subst hb
    rw [if_pos rfl] at h2
    have h3 : List.isSuffixOf [10] (p ++ [(10 : UInt8)]) = true := by rw [List.isSuffixOf_iff_suffix]; exact List.suffix_append _ _
    rw [h3, if_pos rfl, linesL_of h2, if_pos rfl]
    simpa using h
  · rw [if_neg hb] at h2
    have h3 : List.isSuffixOf [10] (p ++ [b]) = false := by
      rw [Bool.eq_false_iff]
      intro e
      rw [List.isSuffixOf_iff_suffix] at e
      obtain ⟨t, ht⟩ := e
      have := congrArg List.getLast? ht
      simp at this
      exact hb this.symm
    rw [h3, linesL_of h2, if_neg (by simp)]
    simpa using h2
theorem linesL_length (l : List UInt8) : (linesL l).length ≤ l.length + 1 := by
  have h1 := splitL_length 10 l
  have h2 := List.count_le_length (a := (10 : UInt8)) (l := l)
  unfold linesL
  split
  · rw [List.length_dropLast]; omega
  · omega
def okByte (s : ByteArray) (i : Nat) : Bool := (byteAt s i == 10) || (decide (32 ≤ byteAt s i) && decide (byteAt s i ≤ 126))
/-- text.Lines: the lines and the error's number. -/
def linesB (s : ByteArray) : List ByteArray × Int :=
  if 20000 < s.size then ([], 10) else if allTo (okByte s) s.size = false then ([], 1) else
    if 1000 < (linesL s.data.toList).length then ([], 10) else ((linesL s.data.toList).map bs, 0)

/-- What the reference's loop over the bytes of a line holds at byte k: the fields so far, and where the open one began. -/
def RF (s : ByteArray) (k : Nat) (fr : Int) (l : List ByteArray) : Prop :=
  (k ≤ s.size ∧ 35 ∉ s.data.toList.take k ∧ ∃ ps cur, splitL 32 (s.data.toList.take k) = ps ++ [cur] ∧ l = (ps.filter (fun f => !f.isEmpty)).map bs ∧
    ((fr = -1 ∧ cur = []) ∨ (∃ f : Nat, fr = f ∧ f < k ∧ cur = (s.data.toList.take k).drop f))) ∨
  (k = s.size + 1 ∧ fr = -1 ∧ l = fieldsB s)
theorem RF.start (s : ByteArray) : RF s 0 (-1) [] := .inl ⟨Nat.zero_le _, by simp, [], [], rfl, rfl, .inl ⟨rfl, rfl⟩⟩
theorem take_byte (s : ByteArray) (k : Nat) (h : k < s.size) : s.data.toList.take (k + 1) = s.data.toList.take k ++ [s[k]] := by
  rw [List.take_succ_eq_append_getElem (by simpa using h)]; rfl
theorem extract_take (s : ByteArray) (f k : Nat) : s.extract f k = bs ((s.data.toList.take k).drop f) := by
  obtain ⟨⟨l⟩⟩ := s
  rw [ByteArray.extract_mk]
  unfold bs
  congr 1
  simp [List.drop_take]
theorem RF.bd {s : ByteArray} {k : Nat} {fr : Int} {l : List ByteArray} (h : RF s k fr l) : k ≤ s.size + 1 ∧ -1 ≤ fr ∧ fr < k := by
  rcases h with ⟨h1, _, ps, cur, _, _, h2⟩ | ⟨rfl, rfl, _⟩
  · rcases h2 with ⟨rfl, _⟩ | ⟨f, rfl, hf, _⟩ <;> omega
  · omega
theorem RF.len {s : ByteArray} {k : Nat} {fr : Int} {l : List ByteArray} (h : RF s k fr l) : l.length ≤ s.size + 1 := by
  rcases h with ⟨h1, _, ps, cur, h2, rfl, _⟩ | ⟨rfl, rfl, rfl⟩
  · rw [List.length_map]
    refine Nat.le_trans (List.length_filter_le _ _) ?_
    have h3 := congrArg List.length h2
    rw [splitL_length, List.length_append, List.length_singleton] at h3
    have h4 := List.count_le_length (a := (32 : UInt8)) (l := s.data.toList.take k)
    rw [List.length_take] at h4
    omega
  · unfold fieldsB fieldsL
    rw [List.length_map]
    refine Nat.le_trans (List.length_filter_le _ _) ?_
    rw [splitL_length]
    have h4 := List.count_le_length (a := (32 : UInt8)) (l := s.data.toList.takeWhile (fun b => b != 35))
    have h5 := (List.takeWhile_prefix (p := fun b : UInt8 => b != 35) (l := s.data.toList)).length_le
    have h6 := Lib.size_eq s
    omega
/-- A blank ends the open field. -/
theorem RF.blank {s : ByteArray} {k : Nat} {fr : Int} {l : List ByteArray} (h : RF s k fr l) (hk : k < s.size) (hb : s[k] = 32) :
    RF s (k + 1) (-1) (if 0 ≤ fr then l ++ [s.extract fr.toNat k] else l) := by
  rcases h with ⟨h1, h35, ps, cur, h2, rfl, h3⟩ | ⟨h1, _⟩
  · have h4 := splitL_snoc (b := s[k]) h2
    rw [← take_byte s k hk, if_pos hb] at h4
    refine .inl ⟨hk, ?_, ps ++ [cur], [], h4, ?_, .inl ⟨rfl, rfl⟩⟩
    · rw [take_byte s k hk, hb]
      simp [h35]
    · rcases h3 with ⟨rfl, rfl⟩ | ⟨f, rfl, hf, rfl⟩
      · simp
      · have hne : ((List.take k s.data.toList).drop f).isEmpty = false := by
          have : ((List.take k s.data.toList).drop f).length ≠ 0 := by
            rw [List.length_drop, List.length_take]
            have := Lib.size_eq s
            omega
          cases hh : (List.take k s.data.toList).drop f with
          | nil => rw [hh] at this; simp at this
          | cons _ _ => rfl
        rw [if_pos (by omega), List.filter_append, List.map_append, extract_take, Int.toNat_natCast]
        simp [hne]
  · omega
/-- Another byte opens a field, or goes on with it. -/
theorem RF.byte {s : ByteArray} {k : Nat} {fr : Int} {l : List ByteArray} (h : RF s k fr l) (hk : k < s.size) (hb : s[k] ≠ 32) (hb' : s[k] ≠ 35) :
    RF s (k + 1) (if fr < 0 then (k : Int) else fr) l := by
  rcases h with ⟨h1, h35, ps, cur, h2, rfl, h3⟩ | ⟨h1, _⟩
  · have h4 := splitL_snoc (b := s[k]) h2
    rw [← take_byte s k hk, if_neg hb] at h4
    refine .inl ⟨hk, ?_, ps, cur ++ [s[k]], h4, rfl, ?_⟩
    · rw [take_byte s k hk]
      simp only [List.mem_append, List.mem_singleton, not_or]
      exact ⟨h35, fun e => hb' e.symm⟩
    · have hsz := Lib.size_eq s
      rcases h3 with ⟨rfl, rfl⟩ | ⟨f, rfl, hf, rfl⟩
      · refine .inr ⟨k, by rw [if_pos (by omega)], by omega, ?_⟩
        rw [take_byte s k hk, List.drop_append_of_le_length (by rw [List.length_take]; omega), List.drop_eq_nil_of_le (by rw [List.length_take]; omega)]
      · refine .inr ⟨f, by rw [if_neg (by omega)], by omega, ?_⟩
        rw [take_byte s k hk, List.drop_append_of_le_length (by rw [List.length_take]; omega)]
  · omega
theorem takeWhile_of {p : UInt8 → Bool} : ∀ {l : List UInt8} {k : Nat}, (∀ b ∈ l.take k, p b = true) → (∀ b, l[k]? = some b → p b = false) → l.takeWhile p = l.take k := by
  intro l
  induction l with
  | nil => intro k _ _; simp
  | cons a l ih =>
    intro k h1 h2
    cases k with
    | zero => simp only [List.take_zero]; rw [List.takeWhile_cons, if_neg (by simp [h2 a rfl])]
    | succ k =>
      rw [List.takeWhile_cons, if_pos (h1 a (by simp)), List.take_succ_cons, ih (k := k) (fun b hb => h1 b (by simp [hb])) (fun b hb => h2 b (by simpa using hb))]
/-- The end, or a comment. -/
theorem RF.stop {s : ByteArray} {k : Nat} {fr : Int} {l : List ByteArray} (h : RF s k fr l) (hk : k = s.size ∨ ∃ h : k < s.size, s[k] = 35) :
    (if 0 ≤ fr then l ++ [s.extract fr.toNat k] else l) = fieldsB s := by
  have hsz := Lib.size_eq s
  rcases h with ⟨h1, h35, ps, cur, h2, rfl, h3⟩ | ⟨h1, _⟩
  · have ht : s.data.toList.takeWhile (fun b => b != 35) = s.data.toList.take k := by
      refine takeWhile_of (fun b hb => ?_) (fun b hb => ?_)
      · have : b ≠ 35 := fun e => h35 (e ▸ hb)
        simpa using this
      · rcases hk with rfl | ⟨hk, e⟩
        · rw [List.getElem?_eq_none (by omega)] at hb; cases hb
        · rw [List.getElem?_eq_getElem (by omega)] at hb
          have e2 : s.data.toList[k] = s[k] := rfl
          rw [e2, e] at hb
          injection hb with hb
          subst hb
          rfl
    unfold fieldsB fieldsL
    rw [ht, h2]
    rcases h3 with ⟨rfl, rfl⟩ | ⟨f, rfl, hf, rfl⟩
    · simp
    · have hne : ((List.take k s.data.toList).drop f).isEmpty = false := by
        have : ((List.take k s.data.toList).drop f).length ≠ 0 := by
          rw [List.length_drop, List.length_take]
          omega
        cases hh : (List.take k s.data.toList).drop f with
        | nil => rw [hh] at this; simp at this
        | cons _ _ => rfl
      rw [if_pos (by omega), List.filter_append, List.map_append, extract_take, Int.toNat_natCast]
      simp [hne]
  · rcases hk with h | ⟨h, _⟩ <;> omega
theorem RF.done {s : ByteArray} : RF s (s.size + 1) (-1) (fieldsB s) := .inr ⟨rfl, rfl, rfl⟩
theorem RF.end_ {s : ByteArray} {k : Nat} {fr : Int} {l : List ByteArray} (h : RF s k fr l) (hk : s.size < k) : l = fieldsB s := by
  rcases h with ⟨h1, _⟩ | ⟨_, _, h⟩
  · omega
  · exact h
/-- The reference's second loop of Lines at byte k: the lines so far, and where the open one began. -/
def RL (s : ByteArray) (k fr : Nat) (l : List ByteArray) : Prop :=
  k ≤ s.size ∧ fr ≤ k ∧ ∃ ps, splitL 10 (s.data.toList.take k) = ps ++ [(s.data.toList.take k).drop fr] ∧ l = ps.map bs
theorem RL.start (s : ByteArray) : RL s 0 0 [] := ⟨Nat.zero_le _, Nat.le_refl _, [], rfl, rfl⟩
theorem RL.line {s : ByteArray} {k fr : Nat} {l : List ByteArray} (h : RL s k fr l) (hk : k < s.size) (hb : s[k] = 10) : RL s (k + 1) (k + 1) (l ++ [s.extract fr k]) := by
  obtain ⟨h1, h2, ps, h3, rfl⟩ := h
  have h4 := splitL_snoc (b := s[k]) h3
  rw [← take_byte s k hk, if_pos hb] at h4
  refine ⟨hk, Nat.le_refl _, ps ++ [List.drop fr (List.take k s.data.toList)], ?_, ?_⟩
  · rw [h4, List.drop_eq_nil_of_le (as := List.take (k + 1) s.data.toList) (i := k + 1) (by rw [List.length_take]; omega)]
  · rw [List.map_append, extract_take]
    rfl
theorem RL.byte {s : ByteArray} {k fr : Nat} {l : List ByteArray} (h : RL s k fr l) (hk : k < s.size) (hb : s[k] ≠ 10) : RL s (k + 1) fr l := by
  obtain ⟨h1, h2, ps, h3, rfl⟩ := h
  have h4 := splitL_snoc (b := s[k]) h3
  rw [← take_byte s k hk, if_neg hb] at h4
  refine ⟨hk, by omega, ps, ?_, rfl⟩
  have hsz := Lib.size_eq s
  rw [h4]
  congr 2
  conv => rhs; rw [take_byte s k hk]
  rw [List.drop_append_of_le_length (by rw [List.length_take]; omega)]
theorem RL.len {s : ByteArray} {k fr : Nat} {l : List ByteArray} (h : RL s k fr l) : l.length ≤ s.size := by
  obtain ⟨h1, h2, ps, h3, rfl⟩ := h
  have h4 := congrArg List.length h3
  rw [splitL_length, List.length_append, List.length_singleton] at h4
  have h5 := List.count_le_length (a := (10 : UInt8)) (l := s.data.toList.take k)
  rw [List.length_take] at h5
  rw [List.length_map]
  omega
theorem RL.stop {s : ByteArray} {fr : Nat} {l : List ByteArray} (h : RL s s.size fr l) :
    (if fr < s.size then l ++ [s.extract fr s.size] else l) = (linesL s.data.toList).map bs := by
  obtain ⟨h1, h2, ps, h3, rfl⟩ := h
  have hsz := Lib.size_eq s
  rw [hsz, List.take_length] at h3
  rw [linesL_of h3, extract_take, hsz, List.take_length]
  by_cases hf : fr < s.data.toList.length
  · rw [if_pos hf, if_neg (by intro e; have := congrArg List.length e; rw [List.length_drop] at this; simp at this; omega), List.map_append]
    rfl
  · rw [if_neg hf, if_pos (List.drop_eq_nil_of_le (by omega))]
end Go.Proofs.YtldeoaddogifpaaGreatDoor
