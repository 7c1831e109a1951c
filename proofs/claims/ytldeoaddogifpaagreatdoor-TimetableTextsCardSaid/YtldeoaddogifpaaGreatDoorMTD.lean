/-
  Joined texts: Builder2; TFmtPlain; CalRef; FmtRef; FmtRef2; DurFmtR. What each proves stands ahead of it, with its conditions.
-/
import Derived.Test.YtldeoaddogifpaaGreatDoorMTC
import Derived.Test.YtldeoaddogifpaaGreatDoorReader
import Derived.Test.YtldeoaddogifpaaGreatDoorCal3
import Derived.Test.YtldeoaddogifpaaGreatDoorMTA
import Derived.Test.YtldeoaddogifpaaGreatDoorRegion
import Derived.Test.YtldeoaddogifpaaGreatDoorMTB
/-
  (*strings.Builder).WriteString once more: with what it leaves alone (boxes of other types); Len and String at such a builder.
  Condition: the builder lies in block b, its row in blocks from b on; the text takes no more than a million bytes.
-/
namespace Go.Proofs.YtldeoaddogifpaaGreatDoor
set_option linter.unusedSimpArgs false
set_option linter.unusedVariables false
open Go.RowKit Go

/-- A builder in block b; v: its buffer; L: its bytes. -/
structure Bld (b : Nat) (v : Value) (L : List UInt8) (w : World) : Prop where
  cell : ∃ p, (p = .pointer none ∨ p = .pointer (some ⟨b, 0, none⟩)) ∧ w.heap[b]? = some (.cells #[p, v] 76 (0, 0))
  row : w.ownsRow b 5 1 v L.length (Lib.byteCells L)
  ne : v.ownBlock ≠ some b
theorem Bld.is {b : Nat} {v : Value} {L : List UInt8} {w : World} (h : Bld b v L w) : Lib.IsBuilder 76 5 b b (Lib.byteCells L) w := by
  obtain ⟨⟨p, hp, hc⟩, hr, hn⟩ := h
  have hr' : w.ownsRow b 5 1 v (Lib.byteCells L).length (Lib.byteCells L) := by rw [Lib.byteCells_length]; exact hr
  rcases hp with rfl | rfl
  · exact .inl ⟨Nat.le_refl _, v, hc, hr', hn⟩
  · exact .inr ⟨Nat.le_refl _, v, hc, hr', hn⟩
theorem Bld.lt {b : Nat} {v : Value} {L : List UInt8} {w : World} (h : Bld b v L w) : b < w.heap.size := by
  obtain ⟨p, _, hc⟩ := h.cell
  exact (Array.getElem?_eq_some_iff.1 hc).1
theorem ownsRow_keep {w w' : World} {b : Nat} {e : TypeId} {z : Nat} {v : Value} {n : Nat} {xs : List Value} (h : w.ownsRow b e z v n xs) (hk : ∀ q, v.ownBlock = some q → w'.heap[q]? = w.heap[q]?) : w'.ownsRow b e z v n xs := by
  refine ⟨h.1, ?_⟩
  rcases h.2 with h3 | ⟨g, cap, cur, hv, hg, hb, r⟩
  · exact .inl h3
  · exact .inr ⟨g, cap, cur, hv, hg, (hk g (by rw [hv]; rfl)).trans hb, r⟩
theorem Bld.keep {b : Nat} {v : Value} {L : List UInt8} {w w' : World} (h : Bld b v L w) (hb : Below w.heap.size w w') : Bld b v L w' := by
  have hl := h.lt
  obtain ⟨⟨p, hp, hc⟩, hr, hn⟩ := h
  exact ⟨⟨p, hp, (hb.block b hl).trans hc⟩, ownsRow_keep hr fun q hq => hb.block q (hr.lt q hq).2, hn⟩
/-- A block of another type is not the row. -/
theorem row_apart {w : World} {b : Nat} {e : TypeId} {z : Nat} {v : Value} {n : Nat} {xs : List Value} (h : w.ownsRow b e z v n xs) {x : Nat} {cs : Array Value} {T : TypeId} {y : Nat × Nat} (hx : w.heap[x]? = some (.cells cs T y)) (hT : T ≠ e) : some x ≠ v.ownBlock := fun he => by
  rcases h.2 with ⟨rfl, _⟩ | ⟨g, cap, cur, rfl, _, hg, _⟩
  · simp [Value.ownBlock] at he
  · simp [Value.ownBlock] at he
    subst he
    rw [hx] at hg
    injection hg with hg
    injection hg with _ hg
    exact hT hg
set_option maxHeartbeats 1600000 in
set_option maxRecDepth 100000 in
theorem copyCheck_to (b : Nat) (p v : Value) (w : World) (hp : p = .pointer none ∨ p = .pointer (some ⟨b, 0, none⟩)) (hc : w.heap[b]? = some (.cells #[p, v] 76 (0, 0))) :
    Calls Tryz.prog 74 #[.pointer (some ⟨b, 0, none⟩)] w fun e w' => e = .returned (.tuple #[]) ∧ w'.heap[b]? = some (.cells #[.pointer (some ⟨b, 0, none⟩), v] 76 (0, 0)) ∧ But b w w' := by
  obtain ⟨j, hj, hjs⟩ := Option.map_eq_some_iff.1 bld_size
  have h0 : w.cell? ⟨b, 0, none⟩ = some p := block_cell hc 0
  have hfz : w.frozen? ⟨b, 0, none⟩ = false := block_free hc 0
  have hsh : w.shape? b = some (76, 2) := by simp [World.shape?, hc]
  rcases hp with rfl | rfl
  · have HE : Hid ((w.setCell ⟨b, 0, none⟩ (.pointer (some ⟨b, 0, none⟩))).heap[b]? = some (.cells #[.pointer (some ⟨b, 0, none⟩), v] 76 (0, 0)) ∧ But b w (w.setCell ⟨b, 0, none⟩ (.pointer (some ⟨b, 0, none⟩)))) := ⟨heap_setCell_same w b 0 _ _ _ hc, (But.refl _ _).setCell 0 _⟩
    have HTO := Lib.hid (Lib.run_to_unsafe w ⟨b, 0, none⟩ Tryz.underlying74 Tryz.underlying144 hj (by rw [hjs]; decide) hsh (Nat.zero_lt_succ 1))
    have HFR := Lib.hid (Lib.run_from_unsafe w ⟨b, 0, none⟩ Tryz.underlying144 Tryz.underlying74 hj hsh bld_lies)
    clear hc hsh
    go_enter Tryz.func74, Tryz.ntmps74
    go_wp2_with fail
    rw [HTO.out]
    simp only [Result.andThen]
    rw [Oper.upon_value]
    go_wp2_with fail
    rw [run_callFunc_extern Tryz.func117 (by kernel_rfl) (by kernel_rfl) (by kernel_rfl) (e := Extern.AbiNoEscape.same) (by kernel_rfl)]
    rw [Lib.run_noEscape]
    simp only [Result.andThen]
    rw [Oper.upon_value]
    go_wp2_with fail
    rw [HFR.out]
    simp only [Result.andThen]
    rw [Oper.upon_value]
    go_wp2_with fail
    go_end0
    exact ⟨rfl, HE.out⟩
  · have HE : Hid (w.heap[b]? = some (.cells #[.pointer (some ⟨b, 0, none⟩), v] 76 (0, 0)) ∧ But b w w) := ⟨hc, But.refl _ _⟩
    have HN := Lib.hid (Lib.run_neq_ptr_same w ⟨b, 0, none⟩ Tryz.underlying74 hj)
    clear hc hsh
    go_enter Tryz.func74, Tryz.ntmps74
    go_wp2_with fail
    rw [HN.out]
    go_wp2_with fail
    go_end0
    exact ⟨rfl, HE.out⟩
/-- What WriteString leaves: the builder with the new bytes; blocks ahead of it, and boxes of other types, as they were. -/
def BwPost (b : Nat) (L : List UInt8) (s : ByteArray) (w : World) (e : Ending) (w' : World) : Prop :=
  ∃ v', e = .returned (.tuple #[.int .i64 s.size, .nilIface]) ∧ Bld b v' (L ++ s.data.toList) w' ∧ Below b w w' ∧
    ∀ x cs T z, T ≠ 5 → x ≠ b → w.heap[x]? = some (.cells cs T z) → w'.heap[x]? = some (.cells cs T z)
set_option maxHeartbeats 1600000 in
set_option maxRecDepth 100000 in
theorem writeStr_any (b : Nat) (v : Value) (L : List UInt8) (s : ByteArray) (w : World) (h : Bld b v L w) (hlen : L.length + s.size ≤ 1000000) : Calls Tryz.prog 35 #[.pointer (some ⟨b, 0, none⟩), .string s] w (BwPost b L s w) := by
  obtain ⟨i0, hi, hz0, hz1, hz2⟩ := byte_info
  have hlt := h.lt
  obtain ⟨⟨p, hp, hc⟩, hr, hn⟩ := h
  have HC := Lib.hid (copyCheck_to b p v w hp hc)
  have HR := Lib.hid hr; have HNE := Lib.hid hn; have HCC := Lib.hid hc
  clear hp hc hr hn
  go_enter Tryz.func35, Tryz.ntmps35
  go_wp2_with fail
  refine HC.out.mono ?_
  rintro e w1 ⟨rfl, hbk, hbut⟩
  have hs1 := hbut.size
  have hr1 : w1.ownsRow b 5 1 v L.length (Lib.byteCells L) := ownsRow_keep HR.out fun q hq => hbut.block q (HR.out.lt q hq).2 (fun e => HNE.out (by rw [hq, e]))
  have c1 : w1.cell? ⟨b, 1, none⟩ = some v := block_cell hbk 1
  have HB1 := Lib.hid hbut; have HBK := Lib.hid hbk; have HOW := Lib.hid hr1
  clear hbut hbk hr1 HC
  go_wp2_with (at_builtin; refine Lib.wpList_append_own_string _ rfl _ _ 37 9 rfl b 5 i0 Tryz.underlying37 Tryz.underlying9 hi hz0 hz1 hz2 _ _ _ rfl HOW.out s rfl (by unfold maxLen; omega) (by omega) (by omega) ?_)
  intro v' w2 hown' hgrow _
  have hs2 := hgrow.size
  have hb2 : w2.heap[b]? = some (.cells #[.pointer (some ⟨b, 0, none⟩), v] 76 (0, 0)) := (hgrow.block b (by omega) (fun e => HNE.out e.symm)).trans HBK.out
  have d1 : w2.cell? ⟨b, 1, none⟩ = some v := block_cell hb2 1
  have f1 : w2.frozen? ⟨b, 1, none⟩ = false := block_free hb2 1
  have hb3 : (w2.setCell ⟨b, 1, none⟩ v').heap[b]? = some (.cells #[.pointer (some ⟨b, 0, none⟩), v'] 76 (0, 0)) := heap_setCell_same w2 b 1 _ _ v' hb2
  have hap : some b ≠ v'.ownBlock := row_apart hown' hb2 (by decide)
  have hoth : ∀ q, q ≠ b → (w2.setCell ⟨b, 1, none⟩ v').heap[q]? = w2.heap[q]? := fun q hq => heap_setCell_other _ _ _ _ hq
  have HBLD : Hid (Bld b v' (L ++ s.data.toList) (w2.setCell ⟨b, 1, none⟩ v')) := by
    refine ⟨⟨_, .inr rfl, hb3⟩, ?_, fun e => hap e.symm⟩
    have hown2 : w2.ownsRow b 5 1 v' (L ++ s.data.toList).length (Lib.byteCells (L ++ s.data.toList)) := by
      have e1 : (L ++ s.data.toList).length = L.length + s.size := by rw [List.length_append, Lib.size_eq]
      have e2 : Lib.byteCells (L ++ s.data.toList) = Lib.byteCells L ++ Lib.strCells s := by rw [Lib.strCells_eq]; simp [Lib.byteCells]
      rw [e1, e2]; exact hown'
    exact ownsRow_keep hown2 fun q hq => hoth q (fun e => hap (by rw [hq, e]))
  have HBEL : Hid (Below b w (w2.setCell ⟨b, 1, none⟩ v')) := by
    refine ⟨hgrow.os.trans HB1.out.os, hgrow.tape.trans HB1.out.tape, hgrow.output.trans HB1.out.output, by simp; omega, fun q hq => ?_⟩
    rw [hoth q (by omega), hgrow.block q (by omega) (fun e => by have := (HOW.out.lt q e.symm).1; omega)]
    exact HB1.out.block q (by omega) (by omega)
  have HBOX : Hid (∀ x cs T z, T ≠ 5 → x ≠ b → w.heap[x]? = some (.cells cs T z) → (w2.setCell ⟨b, 1, none⟩ v').heap[x]? = some (.cells cs T z)) := fun x cs T z hT hx hh => by
    have hxl := (Array.getElem?_eq_some_iff.1 hh).1
    have h1 : w1.heap[x]? = some (.cells cs T z) := (HB1.out.block x hxl hx).trans hh
    rw [hoth x hx, hgrow.block x (by omega) (row_apart HOW.out h1 hT)]
    exact h1
  obtain ⟨ao, n', cap, rfl⟩ : ∃ ao n' cap, v' = .slice ao n' cap := by
    rcases hown'.2 with ⟨hv, _⟩ | ⟨g, cap, cur, hv, _⟩
    · exact ⟨_, _, _, hv⟩
    · exact ⟨_, _, _, hv⟩
  clear hown' hgrow hb2 hb3 hap hoth HBK HNE HOW HB1 HR HCC
  go_wp2_with fail
  go_ret2
  exact ⟨_, rfl, HBLD.out, HBEL.out, HBOX.out⟩
theorem bldLen_any (b : Nat) (v : Value) (L : List UInt8) (w : World) (h : Bld b v L w) : Calls Tryz.prog 39 #[.pointer (some ⟨b, 0, none⟩)] w fun e w' => e = .returned (.int .i64 L.length) ∧ w' = w := by
  have := Tryz.Builder_Len b b (Lib.byteCells L) w h.is
  rwa [Lib.byteCells_length] at this
theorem bldString_any (b : Nat) (v : Value) (L : List UInt8) (w : World) (h : Bld b v L w) : Calls Tryz.prog 40 #[.pointer (some ⟨b, 0, none⟩)] w fun e w' => e = .returned (.string (bs L)) ∧ Below b w w' := by
  by_cases hL : L = []
  · subst hL
    exact (Tryz.Builder_String_empty b b w h.is (Nat.le_of_lt h.lt)).mono fun e w' ⟨h1, h2⟩ => ⟨h1, h2⟩
  · exact Tryz.Builder_String b b L w h.is hL
end Go.Proofs.YtldeoaddogifpaaGreatDoor
/-
  Plain facts about the rendered text of a timetable: the lines' parts and their lengths.
  Condition: the timetable is valid, where a length is bounded.
-/
namespace Go.Proofs.YtldeoaddogifpaaGreatDoor
set_option linter.unusedSimpArgs false
set_option linter.unusedVariables false
open Go.RowKit

noncomputable def fmtT (t : GTT) : ByteArray × Int := if ttE t ≠ 0 then (emS, ttE t) else if 20000 < (ttS t).size then (emS, 10) else (ttS t, 0)
def FmtPost (r : ByteArray × Int) (w : World) (e : Ending) (w' : World) : Prop := e = .returned (.tuple #[.string r.1, .int .i64 r.2]) ∧ Below w.heap.size w w'
theorem dataApp (a b : ByteArray) : (a ++ b).data.toList = a.data.toList ++ b.data.toList := by rw [ByteArray.data_append, Array.toList_append]
theorem ext_bs {a : ByteArray} {L : List UInt8} (h : a.data.toList = L) : a = bs L := by rw [← h]; exact (bs_of a).symm
theorem restT_app (a b : List ByteArray) : restT (a ++ b) = restT a ++ restT b := by
  induction a with
  | nil => rfl
  | cons f r ih => simp [restT, ih]
theorem lineT_rest (f : ByteArray) (a b : List ByteArray) : lineT ((f :: a) ++ b) = lineT (f :: a) ++ restT b := by
  simp [lineT, restT_app]
theorem blank_data : blankS.data.toList = [32] := rfl
theorem zhd_eq (n d : ByteArray) : ((⟨#[122, 111, 110, 101, 32]⟩ : ByteArray) ++ n ++ (⟨#[32]⟩ : ByteArray) ++ d).data.toList = lineT [zoneS, n, d] := by
  have e : zoneS.data.toList = [122, 111, 110, 101] := rfl
  simp only [dataApp, lineT, restT, List.append_assoc, e, List.cons_append, List.nil_append, List.append_nil]
theorem shf_eq (a b d : ByteArray) : ((⟨#[32]⟩ : ByteArray) ++ (a ++ blankS ++ b) ++ (⟨#[32]⟩ : ByteArray) ++ d).data.toList = restT [a, b, d] := by
  simp only [dataApp, restT, List.append_assoc, blank_data, List.cons_append, List.nil_append, List.append_nil]
theorem air_eq (c z : ByteArray) : ((⟨#[97, 105, 114, 112, 111, 114, 116, 32]⟩ : ByteArray) ++ c ++ (⟨#[32]⟩ : ByteArray) ++ z ++ (⟨#[10]⟩ : ByteArray)).data.toList = lineT [airS, c, z] ++ [10] := by
  have e : airS.data.toList = [97, 105, 114, 112, 111, 114, 116] := rfl
  simp only [dataApp, lineT, restT, List.append_assoc, e, List.cons_append, List.nil_append, List.append_nil]
theorem fhd_eq (n a b k : ByteArray) : ((⟨#[102, 108, 105, 103, 104, 116, 32]⟩ : ByteArray) ++ n ++ (⟨#[32]⟩ : ByteArray) ++ a ++ (⟨#[32]⟩ : ByteArray) ++ b ++ (⟨#[32]⟩ : ByteArray) ++ k).data.toList = lineT [fliS, n, a, b, k] := by
  have e : fliS.data.toList = [102, 108, 105, 103, 104, 116] := rfl
  simp only [dataApp, lineT, restT, List.append_assoc, e, List.cons_append, List.nil_append, List.append_nil]
theorem fin_eq (a b c d : ByteArray) : ((⟨#[32]⟩ : ByteArray) ++ (a ++ blankS ++ b) ++ (⟨#[32]⟩ : ByteArray) ++ (c ++ blankS ++ d)).data.toList = restT [a, b, c, d] := by
  simp only [dataApp, restT, List.append_assoc, blank_data, List.cons_append, List.nil_append, List.append_nil]
theorem nmb_eq (s : ByteArray) : ((⟨#[32]⟩ : ByteArray) ++ s).data.toList = restT [s] := by
  simp only [dataApp, restT, List.cons_append, List.nil_append, List.append_nil]
theorem nl_eq : (⟨#[10]⟩ : ByteArray).data.toList = [10] := rfl
theorem sz1 (a : UInt8) : (⟨#[a]⟩ : ByteArray).size = 1 := rfl
theorem textT_snoc (a : List (List ByteArray)) (f : List ByteArray) : textT (a ++ [f]) = textT a ++ (lineT f ++ [10]) := by
  rw [textT_app]
  rfl
theorem map_take_snoc {α β : Type} (f : α → β) {l : List α} {j : Nat} (h : j < l.length) (d : α) : (l.take (j + 1)).map f = (l.take j).map f ++ [f (l.getD j d)] := by
  rw [List.take_add_one, List.getElem?_eq_getElem h, List.getD_eq_getElem?_getD, List.getElem?_eq_getElem h, List.map_append]
  rfl
theorem flat_take_snoc {α β : Type} (f : α → List β) {l : List α} {j : Nat} (h : j < l.length) (d : α) : (l.take (j + 1)).flatMap f = (l.take j).flatMap f ++ f (l.getD j d) := by
  rw [List.take_add_one, List.getElem?_eq_getElem h, List.getD_eq_getElem?_getD, List.getElem?_eq_getElem h, List.flatMap_append]
  simp
theorem get_mem {α : Type} {l : List α} {k : Nat} (h : k < l.length) (d : α) : l.getD k d ∈ l := by
  rw [List.getD_eq_getElem?_getD, List.getElem?_eq_getElem h]
  exact List.getElem_mem h
theorem name_le {s : ByteArray} (h : isNameB s = true) : s.size ≤ 16 := by
  unfold isNameB at h
  simp only [Bool.and_eq_true, decide_eq_true_eq] at h
  omega
theorem airport_le {s : ByteArray} (h : isAirportB s = true) : s.size ≤ 3 := by
  unfold isAirportB at h
  simp only [Bool.and_eq_true, beq_iff_eq] at h
  omega
theorem code_le {s : ByteArray} (h : isCodeB s = true) : s.size ≤ 16 := by
  unfold isCodeB at h
  simp only [Bool.and_eq_true, decide_eq_true_eq] at h
  omega
theorem need_le {n : Int} (h : 0 ≤ n ∧ n ≤ 8) : (numS n).size ≤ 10 := by
  unfold numS
  rw [bs_size, Lib.itoa, if_neg (by omega), Lib.decDigits_length]
  exact (nDigits_ten n.toNat).2 (by omega)
theorem dur_le {n : Int} (h : -840 ≤ n ∧ n ≤ 840) : (durF n).size ≤ 15 := (durF_size (by omega)).2
theorem ins_le {t : Int} (h : 0 ≤ t ∧ t < 52596000) : (insD t ++ blankS ++ insC t).size ≤ 16 := by
  rw [ByteArray.size_append, ByteArray.size_append, (insD_fld h.1 h.2).2, insC_fld.2]
  decide
theorem lineT_len : ∀ (f : List ByteArray), (lineT f).length ≤ (f.map fun x => x.size + 1).sum
  | [] => Nat.le_refl _
  | f :: r => by
    have h : ∀ (l : List ByteArray), (restT l).length = (l.map fun x => x.size + 1).sum := by
      intro l
      induction l with
      | nil => rfl
      | cons a l ih => simp only [restT, List.length_cons, List.length_append, ih, List.map_cons, List.sum_cons, Lib.size_eq]; omega
    simp only [lineT, List.length_append, h, List.map_cons, List.sum_cons, Lib.size_eq]
    omega
theorem restT_up {c : Nat} : ∀ {l : List ByteArray}, (∀ x ∈ l, x.size ≤ c) → (restT l).length ≤ (c + 1) * l.length
  | [], _ => Nat.zero_le _
  | a :: l, h => by
    have := restT_up (c := c) (l := l) fun y hy => h y (.tail _ hy)
    have := h a (.head _)
    rw [Lib.size_eq] at this
    simp only [restT, List.length_cons, List.length_append, Nat.mul_add, Nat.mul_one]
    omega
theorem lineT_up {c : Nat} {l : List ByteArray} (h : ∀ x ∈ l, x.size ≤ c) : (lineT l).length ≤ (c + 1) * l.length := by
  cases l with
  | nil => exact Nat.zero_le _
  | cons a l =>
    have h1 := restT_up h
    simp only [restT, List.length_cons, List.length_append] at h1
    simp only [lineT, List.length_cons, List.length_append]
    omega
theorem textT_up {c : Nat} : ∀ {l : List (List ByteArray)}, (∀ f ∈ l, (lineT f).length ≤ c) → (textT l).length ≤ (c + 1) * l.length
  | [], _ => Nat.zero_le _
  | a :: l, h => by
    have := textT_up (c := c) (l := l) fun y hy => h y (.tail _ hy)
    have := h a (.head _)
    simp only [textT, List.length_cons, List.length_append, Nat.mul_add, Nat.mul_one]
    omega
theorem sF_le {s : GShift} (h : (0 ≤ s.at_ ∧ s.at_ < 52596000) ∧ -840 ≤ s.off ∧ s.off ≤ 840) : ∀ x ∈ sF s, x.size ≤ 16 := fun x hx => by
  simp only [sF, List.mem_cons, List.not_mem_nil, or_false] at hx
  rcases hx with rfl | rfl | rfl
  · have := (insD_fld h.1.1 h.1.2).2; omega
  · have := (insC_fld (t := s.at_)).2; omega
  · have := dur_le h.2; omega
theorem sFs_le {z : GZone} (h : ZGood z) (j : Nat) : ∀ x ∈ (z.shifts.take j).flatMap sF, x.size ≤ 16 := fun x hx => by
  obtain ⟨s, hs, hx⟩ := List.mem_flatMap.1 hx
  exact sF_le (h.s s (List.mem_of_mem_take hs)) x hx
theorem flat_len {l : List GShift} : (l.flatMap sF).length = 3 * l.length := by
  induction l with
  | nil => rfl
  | cons s l ih => rw [List.flatMap_cons, List.length_append, ih, List.length_cons]; show 3 + _ = _; omega
theorem sFs_up {z : GZone} (h : ZGood z) (j : Nat) : (restT ((z.shifts.take j).flatMap sF)).length ≤ 816 := by
  have h1 := restT_up (sFs_le h j)
  have h2 : (z.shifts.take j).length ≤ 16 := by rw [List.length_take]; have := h.len; omega
  rw [flat_len] at h1
  omega
theorem zhd_up {z : GZone} (h : ZGood z) : (lineT [zoneS, z.name, durF z.off]).length ≤ 51 := lineT_up (c := 16) (l := [zoneS, z.name, durF z.off]) fun x hx => by
  simp only [List.mem_cons, List.not_mem_nil, or_false] at hx
  rcases hx with rfl | rfl | rfl
  · decide
  · exact name_le h.name
  · have := dur_le h.off; omega
theorem zF_eq (z : GZone) : lineT (zF z) = lineT [zoneS, z.name, durF z.off] ++ restT (z.shifts.flatMap sF) := lineT_rest _ _ _
theorem zF_up {z : GZone} (h : ZGood z) : (lineT (zF z)).length ≤ 900 := by
  rw [zF_eq, List.length_append]
  have := zhd_up h
  have := sFs_up h z.shifts.length
  rw [List.take_length] at this
  omega
theorem aF_up {a : GAirport} (h : AGood a) : (lineT (aF a)).length ≤ 51 := lineT_up (c := 16) (l := aF a) fun x hx => by
  simp only [aF, List.mem_cons, List.not_mem_nil, or_false] at hx
  rcases hx with rfl | rfl | rfl
  · decide
  · have := airport_le h.code; omega
  · exact name_le h.zone
theorem fF_up {x : GFlight} (h : FGood x) : (lineT (fF x)).length ≤ 204 := lineT_up (c := 16) (l := fF x) fun y hy => by
  simp only [fF, List.mem_cons, List.not_mem_nil, or_false] at hy
  rcases hy with rfl | rfl | rfl | rfl | rfl | rfl | rfl | rfl | rfl | rfl | rfl | rfl
  · decide
  · exact code_le h.number
  · have := airport_le h.src; omega
  · have := airport_le h.dst; omega
  · exact name_le h.kind
  · have := (insD_fld h.dep.1 h.dep.2).2; omega
  · have := (insC_fld (t := x.dep)).2; omega
  · have := (insD_fld h.arr.1 h.arr.2).2; omega
  · have := (insC_fld (t := x.arr)).2; omega
  · have := need_le h.n0; omega
  · have := need_le h.n1; omega
  · have := need_le h.n2; omega
/-- The needs' texts, the first j of them. -/
noncomputable def nS (x : GFlight) : List ByteArray := [numS x.n0, numS x.n1, numS x.n2]
theorem fF_eq (x : GFlight) : lineT (fF x) = lineT [fliS, x.number, x.src, x.dst, x.kind] ++ restT [insD x.dep, insC x.dep, insD x.arr, insC x.arr] ++ restT (nS x) := by
  have e : fF x = ([fliS, x.number, x.src, x.dst, x.kind] ++ [insD x.dep, insC x.dep, insD x.arr, insC x.arr]) ++ nS x := rfl
  rw [e, List.cons_append, lineT_rest, ← List.cons_append, lineT_rest]
def need_at (x : GFlight) : Nat → Int
  | 0 => x.n0
  | 1 => x.n1
  | _ => x.n2
theorem nS_snoc (x : GFlight) {j : Nat} (h : j < 3) : restT ((nS x).take (j + 1)) = restT ((nS x).take j) ++ restT [numS (need_at x j)] := by
  have : j = 0 ∨ j = 1 ∨ j = 2 := by omega
  rcases this with rfl | rfl | rfl
  · rfl
  · show restT ([numS x.n0] ++ [numS x.n1]) = _
    rw [restT_app]; rfl
  · show restT ([numS x.n0, numS x.n1] ++ [numS x.n2]) = _
    rw [restT_app]; rfl
theorem nS_up {x : GFlight} (h : FGood x) (j : Nat) : (restT ((nS x).take j)).length ≤ 51 := by
  have h1 := restT_up (c := 16) (l := (nS x).take j) fun y hy => by
    have hy := List.mem_of_mem_take hy
    simp only [nS, List.mem_cons, List.not_mem_nil, or_false] at hy
    rcases hy with rfl | rfl | rfl
    · have := need_le h.n0; omega
    · have := need_le h.n1; omega
    · have := need_le h.n2; omega
  have h2 : ((nS x).take j).length ≤ 3 := by rw [List.length_take]; exact Nat.min_le_right _ _
  omega
theorem need_ok {x : GFlight} (h : FGood x) (j : Nat) : 0 ≤ need_at x j ∧ need_at x j ≤ 8 := by
  unfold need_at
  split
  · exact h.n0
  · exact h.n1
  · exact h.n2
/-- The lines ahead of a place. -/
noncomputable def zL (t : GTT) (k : Nat) : List UInt8 := textT ((t.zones.take k).map zF)
noncomputable def aL (t : GTT) (k : Nat) : List UInt8 := zL t t.zones.length ++ textT ((t.airports.take k).map aF)
noncomputable def fL (t : GTT) (k : Nat) : List UInt8 := aL t t.airports.length ++ textT ((t.flights.take k).map fF)
theorem zL_zero (t : GTT) : zL t 0 = [] := rfl
theorem aL_zero (t : GTT) : aL t 0 = zL t t.zones.length := by unfold aL; simp [textT]
theorem fL_zero (t : GTT) : fL t 0 = aL t t.airports.length := by unfold fL; simp [textT]
theorem zL_succ {t : GTT} {k : Nat} (h : k < t.zones.length) : zL t (k + 1) = zL t k ++ lineT [zoneS, (t.zones.getD k noZone).name, durF (t.zones.getD k noZone).off] ++ restT ((t.zones.getD k noZone).shifts.flatMap sF) ++ [10] := by
  unfold zL
  rw [map_take_snoc _ h noZone, textT_snoc, zF_eq]
  simp only [List.append_assoc]
theorem aL_succ {t : GTT} {k : Nat} (h : k < t.airports.length) : aL t (k + 1) = aL t k ++ (lineT [airS, (t.airports.getD k noAirport).code, (t.airports.getD k noAirport).zone] ++ [10]) := by
  unfold aL
  rw [map_take_snoc _ h noAirport, textT_snoc, List.append_assoc]
  rfl
theorem fL_succ {t : GTT} {k : Nat} (h : k < t.flights.length) : fL t (k + 1) = fL t k ++ lineT [fliS, (t.flights.getD k noFlight).number, (t.flights.getD k noFlight).src, (t.flights.getD k noFlight).dst, (t.flights.getD k noFlight).kind] ++ restT [insD (t.flights.getD k noFlight).dep, insC (t.flights.getD k noFlight).dep, insD (t.flights.getD k noFlight).arr, insC (t.flights.getD k noFlight).arr] ++ restT (nS (t.flights.getD k noFlight)) ++ [10] := by
  unfold fL
  rw [map_take_snoc _ h noFlight, textT_snoc, fF_eq]
  simp only [List.append_assoc]
theorem fL_all (t : GTT) : fL t t.flights.length = textT (ttF t) := by
  unfold fL aL zL ttF
  rw [List.take_length, List.take_length, List.take_length, textT_app, textT_app]
theorem zL_up {t : GTT} (h : TGood t) (k : Nat) : (zL t k).length ≤ 15000 := by
  have h1 := textT_up (c := 900) (l := (t.zones.take k).map zF) fun f hf => by
    obtain ⟨z, hz, rfl⟩ := List.mem_map.1 hf
    exact zF_up (h.z z (List.mem_of_mem_take hz))
  have := h.l1
  rw [List.length_map, List.length_take] at h1
  unfold zL
  omega
theorem aL_up {t : GTT} (h : TGood t) (k : Nat) : (aL t k).length ≤ 20000 := by
  have h1 := textT_up (c := 51) (l := (t.airports.take k).map aF) fun f hf => by
    obtain ⟨z, hz, rfl⟩ := List.mem_map.1 hf
    exact aF_up (h.a z (List.mem_of_mem_take hz))
  have := h.l2
  have := zL_up h t.zones.length
  rw [List.length_map, List.length_take] at h1
  unfold aL
  rw [List.length_append]
  omega
theorem fL_up {t : GTT} (h : TGood t) (k : Nat) : (fL t k).length ≤ 62000 := by
  have h1 := textT_up (c := 204) (l := (t.flights.take k).map fF) fun f hf => by
    obtain ⟨z, hz, rfl⟩ := List.mem_map.1 hf
    exact fF_up (h.f z (List.mem_of_mem_take hz))
  have := h.l3
  have := aL_up h t.airports.length
  rw [List.length_map, List.length_take] at h1
  unfold fL
  rw [List.length_append]
  omega
theorem fhd_up {x : GFlight} (h : FGood x) : (lineT [fliS, x.number, x.src, x.dst, x.kind]).length ≤ 85 := lineT_up (c := 16) (l := [fliS, x.number, x.src, x.dst, x.kind]) fun y hy => by
  simp only [List.mem_cons, List.not_mem_nil, or_false] at hy
  rcases hy with rfl | rfl | rfl | rfl | rfl
  · decide
  · exact code_le h.number
  · have := airport_le h.src; omega
  · have := airport_le h.dst; omega
  · exact name_le h.kind
theorem fin_up {x : GFlight} (h : FGood x) : (restT [insD x.dep, insC x.dep, insD x.arr, insC x.arr]).length ≤ 68 := restT_up (c := 16) (l := [insD x.dep, insC x.dep, insD x.arr, insC x.arr]) fun y hy => by
  simp only [List.mem_cons, List.not_mem_nil, or_false] at hy
  rcases hy with rfl | rfl | rfl | rfl
  · have := (insD_fld h.dep.1 h.dep.2).2; omega
  · have := (insC_fld (t := x.dep)).2; omega
  · have := (insD_fld h.arr.1 h.arr.2).2; omega
  · have := (insC_fld (t := x.arr)).2; omega
/-- The builder in the midst of the walk: its bytes, and what it was laid upon. -/
def FS (w1 wr : World) (v : Value) (L : List UInt8) : Prop := Bld w1.heap.size v L wr ∧ Below w1.heap.size w1 wr
theorem FS.next {w1 wr w' : World} {v : Value} {L : List UInt8} (h : FS w1 wr v L) (hb : Below wr.heap.size wr w') : FS w1 w' v L := ⟨h.1.keep hb, h.2.trans (hb.mono h.2.size)⟩
theorem FS.write {w1 wr : World} {v : Value} {L : List UInt8} (h : FS w1 wr v L) (s : ByteArray) (hl : L.length + s.size ≤ 1000000) : Calls Tryz.prog 35 #[.pointer (some ⟨w1.heap.size, 0, none⟩), .string s] wr fun e w' =>
    e = .returned (.tuple #[.int .i64 s.size, .nilIface]) ∧ (∃ v', FS w1 w' v' (L ++ s.data.toList)) ∧ ∀ x cs T z, T ≠ 5 → x ≠ w1.heap.size → wr.heap[x]? = some (.cells cs T z) → w'.heap[x]? = some (.cells cs T z) := by
  refine (writeStr_any w1.heap.size v L s wr h.1 hl).mono ?_
  rintro e w' ⟨v', rfl, hb, hbel, hbx⟩
  exact ⟨rfl, ⟨v', hb, h.2.trans hbel⟩, hbx⟩
end Go.Proofs.YtldeoaddogifpaaGreatDoor
/-
  Contracts of the reference's leap, DaysInMonth, IsDate, DayNumber, ParseDate, ParseClock, ParseInstant (package pairingref5).
  Condition: numbers are small, the string's length fits an int.
-/
namespace Go.Proofs.YtldeoaddogifpaaGreatDoor
set_option linter.unusedSimpArgs false
set_option linter.unusedVariables false
open Go.RowKit

theorem leapR_any (y : Int) (w : World) (h0 : 0 ≤ y) (h1 : y ≤ 100000) : Calls Tryz.prog 140 #[.int .i64 y] w fun e w' => e = .returned (.bool (leapB y)) ∧ w = w' := by
  have HL : Hid (leapB y = (decide (y % 4 = 0) && (decide (y % 100 ≠ 0) || decide (y % 400 = 0)))) := rfl
  by_cases a : y % 4 = 0
  · have a' : (y % 4 == 0) = true := by simpa using a
    by_cases b : y % 100 = 0
    · have b' : (y % 100 != 0) = false := by simpa using b
      by_cases c : y % 400 = 0
      · have c' : (y % 400 == 0) = true := by simpa using c
        have HR : Hid (leapB y = true) := by show _ = _; rw [HL.out]; simp [a, b, c]
        clear a b c
        go_enter Tryz.func140, Tryz.ntmps140
        go_wp2_with fail
        go_ret
        exact ⟨ret_bool HR.out.symm, rfl⟩
      · have c' : (y % 400 == 0) = false := by simpa using c
        have HR : Hid (leapB y = false) := by show _ = _; rw [HL.out]; simp [a, b, c]
        clear a b c
        go_enter Tryz.func140, Tryz.ntmps140
        go_wp2_with fail
        go_ret
        exact ⟨ret_bool HR.out.symm, rfl⟩
    · have b' : (y % 100 != 0) = true := by simpa using b
      have HR : Hid (leapB y = true) := by show _ = _; rw [HL.out]; simp [a, b]
      clear a b
      go_enter Tryz.func140, Tryz.ntmps140
      go_wp2_with fail
      go_ret
      exact ⟨ret_bool HR.out.symm, rfl⟩
  · have a' : (y % 4 == 0) = false := by simpa using a
    have c : ¬ y % 400 = 0 := by omega
    have c' : (y % 400 == 0) = false := by simpa using c
    have HR : Hid (leapB y = false) := by show _ = _; rw [HL.out]; simp [a]
    clear a c
    go_enter Tryz.func140, Tryz.ntmps140
    go_wp2_with fail
    go_ret
    exact ⟨ret_bool HR.out.symm, rfl⟩
def dimB (y m : Int) : Int × Int := if y < 1999 ∨ 2100 < y ∨ m < 1 ∨ 12 < m then (0, 5) else (mDays y m, 0)
set_option maxRecDepth 100000 in
set_option maxHeartbeats 800000 in
theorem daysInMonthR_any (y m : Int) (w : World) : Calls Tryz.prog 141 #[.int .i64 y, .int .i64 m] w fun e w' => e = .returned (.tuple #[.int .i64 (dimB y m).1, .int .i64 (dimB y m).2]) ∧ w = w' := by
  by_cases hb : y < 1999 ∨ 2100 < y ∨ m < 1 ∨ 12 < m
  · have HR : Hid (dimB y m = (0, 5)) := by show _ = _; unfold dimB; rw [if_pos hb]
    have hc : y < 1999 ∨ (¬ y < 1999 ∧ 2100 < y) ∨ (¬ y < 1999 ∧ ¬ 2100 < y ∧ m < 1) ∨ (¬ y < 1999 ∧ ¬ 2100 < y ∧ ¬ m < 1 ∧ 12 < m) := by omega
    clear hb
    rcases hc with h | ⟨h, h1⟩ | ⟨h, h1, h2⟩ | ⟨h, h1, h2, h3⟩
    all_goals
      go_enter Tryz.func141, Tryz.ntmps141
      go_wp2_with fail
      go_ret2
      exact ⟨by rw [HR.out]; rfl, rfl⟩
  have HR : Hid (dimB y m = (mDays y m, 0)) := by show _ = _; unfold dimB; rw [if_neg hb]
  have h1 : ¬ y < 1999 := by omega
  have h2 : ¬ 2100 < y := by omega
  have HC := Lib.hid (leapR_any y w (by omega) (by omega))
  have hm : m = 1 ∨ m = 2 ∨ m = 3 ∨ m = 4 ∨ m = 5 ∨ m = 6 ∨ m = 7 ∨ m = 8 ∨ m = 9 ∨ m = 10 ∨ m = 11 ∨ m = 12 := by omega
  have HM : Hid (mDays y m = if m = 2 ∧ leapB y = true then 29 else mTab.getD (m - 1).toNat 0) := rfl
  clear hb
  rcases hm with rfl | rfl | rfl | rfl | rfl | rfl | rfl | rfl | rfl | rfl | rfl | rfl
  case inr.inl =>
    go_enter Tryz.func141, Tryz.ntmps141
    go_wp2_with fail
    refine HC.out.mono ?_
    rintro e w' ⟨rfl, rfl⟩
    cases hl : leapB y
    · have HR2 : Hid (mDays y 2 = 28) := by show _ = _; rw [HM.out, hl]; rfl
      rw [HR2.out] at HR
      go_wp2_with fail
      go_ret2
      exact ⟨by rw [HR.out]; rfl, rfl⟩
    · have HR2 : Hid (mDays y 2 = 29) := by show _ = _; rw [HM.out, hl]; rfl
      rw [HR2.out] at HR
      go_wp2_with fail
      go_ret2
      exact ⟨by rw [HR.out]; rfl, rfl⟩
  all_goals
    rw [HM.out, if_neg (fun h => absurd h.1 (by decide))] at HR
    go_enter Tryz.func141, Tryz.ntmps141
    go_wp2_with fail
    go_ret2
    exact ⟨by rw [HR.out]; rfl, rfl⟩
theorem dimB_err (y m : Int) : (dimB y m).2 = 0 ∨ (dimB y m).2 = 5 := by
  unfold dimB; split
  · exact .inr rfl
  · exact .inl rfl
set_option maxRecDepth 100000 in
theorem isDateR_any (y m d : Int) (w : World) : Calls Tryz.prog 139 #[.agg #[.int .i64 y, .int .i64 m, .int .i64 d]] w (BoolPostC (validB y m d) w) := by
  have hb0 := (Below.refl w.heap.size w).alloc (Nat.le_refl _) (.cells #[.int .i64 y, .int .i64 m, .int .i64 d] 133)
  have hr0 := heap_alloc_new w (.cells #[.int .i64 y, .int .i64 m, .int .i64 d] 133)
  have HB := Lib.hid hb0
  have HC := Lib.hid (daysInMonthR_any y m (w.alloc (.cells #[.int .i64 y, .int .i64 m, .int .i64 d] 133)))
  have x0 := block_cell hr0 0; have x1 := block_cell hr0 1; have x2 := block_cell hr0 2
  have HV : Hid (validB y m d = true ↔ (1999 ≤ y ∧ y ≤ 2100) ∧ (1 ≤ m ∧ m ≤ 12) ∧ 1 ≤ d ∧ d ≤ mDays y m) := validB_iff
  have HDM : Hid (dimB y m = if y < 1999 ∨ 2100 < y ∨ m < 1 ∨ 12 < m then (0, 5) else (mDays y m, 0)) := rfl
  clear hb0 hr0
  go_enter Tryz.func139, Tryz.ntmps139
  go_wp2_with fail
  refine HC.out.mono ?_
  rintro e w' ⟨rfl, rfl⟩
  generalize w.alloc (.cells #[.int .i64 y, .int .i64 m, .int .i64 d] 133) = W at *
  clear HC
  by_cases hb : y < 1999 ∨ 2100 < y ∨ m < 1 ∨ 12 < m
  · rw [HDM.out, if_pos hb]
    have HR : Hid (validB y m d = false) := by
      show _ = _
      cases hv : validB y m d
      · rfl
      · have := HV.out.1 hv; omega
    clear hb
    go_wp2_with fail
    go_ret
    exact ⟨ret_bool HR.out.symm, HB.out⟩
  rw [HDM.out, if_neg hb]
  generalize mDays y m = md at *
  by_cases h1 : 1 ≤ d
  · by_cases h2 : d ≤ md
    · have HR : Hid (validB y m d = true) := HV.out.2 (by omega)
      clear hb
      go_wp2_with fail
      go_ret
      exact ⟨ret_bool HR.out.symm, HB.out⟩
    · have HR : Hid (validB y m d = false) := by
        show _ = _
        cases hv : validB y m d
        · rfl
        · have := HV.out.1 hv; omega
      clear hb
      go_wp2_with fail
      go_ret
      exact ⟨ret_bool ((decide_eq_false (Int.not_le.2 h2)).trans HR.out.symm), HB.out⟩
  · have HR : Hid (validB y m d = false) := by
      show _ = _
      cases hv : validB y m d
      · rfl
      · have := HV.out.1 hv; omega
    clear hb
    go_wp2_with fail
    go_ret
    exact ⟨ret_bool HR.out.symm, HB.out⟩
theorem yDays_leap (y : Int) : yDays y = if leapB y = true then 366 else 365 := rfl
set_option maxRecDepth 100000 in
set_option maxHeartbeats 800000 in
theorem dayNumberR_any (y m d : Int) (w : World) (hd : -1000000 ≤ d ∧ d ≤ 1000000) : Calls Tryz.prog 103 #[.agg #[.int .i64 y, .int .i64 m, .int .i64 d]] w (NumPost (dayN y m d) w) := by
  have hb0 := (Below.refl w.heap.size w).alloc (Nat.le_refl _) (.cells #[.int .i64 y, .int .i64 m, .int .i64 d] 133)
  have hr0 := heap_alloc_new w (.cells #[.int .i64 y, .int .i64 m, .int .i64 d] 133)
  have hz0 : (w.alloc (.cells #[.int .i64 y, .int .i64 m, .int .i64 d] 133)).heap.size = w.heap.size + 1 := by simp
  have HB0 := Lib.hid hb0; have HR0 := Lib.hid hr0; have HZ0 := Lib.hid hz0
  have HD : Hid (dayN y m d = if validB y m d = true then (dayB y m d, 0) else (0, 5)) := rfl
  clear hb0 hr0 hz0
  go_enter Tryz.func103, Tryz.ntmps103
  go_wp2_with fail
  generalize w.alloc (.cells #[.int .i64 y, .int .i64 m, .int .i64 d] 133) = W at *
  refine (isDateR_any y m d W).mono ?_
  rintro e w1 ⟨rfl, hb1⟩
  have hbw1 : Below w.heap.size w w1 := HB0.out.trans (hb1.mono HB0.out.size)
  have hr1 := (hb1.block w.heap.size (by have := HZ0.out; omega)).trans HR0.out
  clear hb1
  cases hv : validB y m d
  · have HR : Hid (dayN y m d = (0, 5)) := by show _ = _; rw [HD.out, hv]; rfl
    clear hr1
    go_wp2_with fail
    go_ret2
    exact ⟨by rw [HR.out]; rfl, hbw1⟩
  obtain ⟨⟨y1, y2⟩, ⟨m1, m2⟩, d1, d2⟩ := validB_iff.1 hv
  have HR : Hid (dayN y m d = (-365 + yearSum (y - 1999).toNat + monSum y (m - 1).toNat + d - 1, 0)) := by show _ = _; rw [HD.out, hv]; rfl
  obtain ⟨Y, hY⟩ := Int.eq_ofNat_of_zero_le (show 0 ≤ y - 1999 by omega)
  obtain ⟨M, hM⟩ := Int.eq_ofNat_of_zero_le (show 0 ≤ m - 1 by omega)
  rw [hY, hM, Int.toNat_natCast, Int.toNat_natCast] at HR
  obtain rfl : y = 1999 + Y := by omega
  obtain rfl : m = 1 + M := by omega
  have hYl : Y ≤ 101 := by omega
  have hMl : M ≤ 11 := by omega
  have x0 := block_cell hr1 0; have x1 := block_cell hr1 1; have x2 := block_cell hr1 2
  have HY0 : Hid ((-365 : Int) = -365 + yearSum 0) := rfl
  clear hr1 hY hM hv HD
  go_wp2_with fail
  go_loop [4, 5] (fun nv yv => ∃ k : Nat, k ≤ Y ∧ yv = .int .i64 (1999 + k) ∧ nv = .int .i64 (-365 + yearSum k)) (fun _ yv => Y - (intOf yv - 1999).toNat)
  case atStart => exact ⟨0, Nat.zero_le _, rfl, by rw [← HY0.out]⟩
  case round =>
    obtain ⟨k, hk, rfl, rfl⟩ := hrel
    have hyb := yearSum_bd k
    by_cases hlt : k < Y
    · have HS := Lib.hid (yearSum_succ k)
      have HYL := Lib.hid (yDays_leap (1999 + k))
      have HC := Lib.hid (leapR_any (1999 + k) w1 (by omega) (by omega))
      have hlt' : (1999 : Int) + k < 1999 + Y := by omega
      generalize yearSum k = ys at *
      generalize yDays (1999 + k) = yd at *
      go_wp2_with fail
      refine HC.out.mono ?_
      rintro e w' ⟨rfl, rfl⟩
      cases hl : leapB (1999 + k)
      · rw [hl] at HYL
        have e9 : yd = 365 := HYL.out
        go_wp2_with fail
        go_round
        case rel => exact ⟨k + 1, by omega, by go_num, by rw [HS.out]; congr 1; omega⟩
        case measure => simp [intOf]; omega
      · rw [hl] at HYL
        have e9 : yd = 366 := HYL.out
        go_wp2_with fail
        go_round
        case rel => exact ⟨k + 1, by omega, by go_num, by rw [HS.out]; congr 1; omega⟩
        case measure => simp [intOf]; omega
    · have hkY : k = Y := by omega
      subst hkY
      have hnl : ¬ (1999 : Int) + k < 1999 + k := by omega
      have HM0 : Hid ((-365 : Int) + yearSum k = -365 + yearSum k + monSum (1999 + k) 0) := by show _ = _; rw [show monSum (1999 + k) 0 = 0 from rfl]; omega
      go_wp2_with fail
      go_loop [4, 6, 7, 8] (fun nv mv _ _ => ∃ q : Nat, q ≤ M ∧ mv = .int .i64 (1 + q) ∧ nv = .int .i64 (-365 + yearSum k + monSum (1999 + k) q)) (fun _ mv _ _ => M - (intOf mv - 1).toNat)
      case atStart => exact ⟨0, Nat.zero_le _, rfl, by rw [← HM0.out]⟩
      case round =>
        obtain ⟨q, hq, rfl, rfl⟩ := hrel
        have hmb := monSum_bd (1999 + k) q
        by_cases hltq : q < M
        · have HS := Lib.hid (monSum_succ (1999 + k) q)
          have hyd := mDays_bd (1999 + k) (1 + q)
          have HC := Lib.hid (daysInMonthR_any (1999 + k) (1 + q) w1)
          have HDE : Hid (dimB (1999 + k) (1 + q) = (mDays (1999 + k) (1 + q), 0)) := by show _ = _; unfold dimB; rw [if_neg (by omega)]
          rw [HDE.out] at HC
          have hlt' : (1 : Int) + q < 1 + M := by omega
          generalize monSum (1999 + k) q = ms at *
          generalize mDays (1999 + k) (1 + q) = md at *
          generalize yearSum k = ys at *
          go_wp2_with fail
          refine HC.out.mono ?_
          rintro e w' ⟨rfl, rfl⟩
          go_wp2_with fail
          go_round
          case rel => exact ⟨q + 1, by omega, by go_num, by rw [HS.out]; congr 1; omega⟩
          case measure => simp [intOf]; omega
        · have hqM : q = M := by omega
          subst hqM
          have hnl2 : ¬ (1 : Int) + q < 1 + q := by omega
          generalize hms : monSum (1999 + k) q = ms at *
          generalize hys : yearSum k = ys at *
          clear hms hys
          go_wp2_with fail
          go_ret2
          exact ⟨by rw [HR.out]; rfl, hbw1⟩
theorem digits_sub {s : ByteArray} {a b n : Nat} (h : b ≤ s.size) (hn : b - a = n) : digitsB (s.extract a b) n n = if digOn s a n = true then (subN s a b, true) else (0, false) := by
  unfold digitsB
  rw [dig_sub h, hn]
  have hz : (s.extract a b).size = n := by rw [size_sub h, hn]
  rw [if_neg (by rw [hz]; omega)]
  cases digOn s a n <;> rfl
end Go.Proofs.YtldeoaddogifpaaGreatDoor
/-
  Contracts of the reference's two, floor, SplitMinute and DateOf.
  Condition: the numbers are small and not negative; the table of powers of ten is laid.
-/
namespace Go.Proofs.YtldeoaddogifpaaGreatDoor
set_option linter.unusedSimpArgs false
set_option linter.unusedVariables false
open Go.RowKit

set_option maxRecDepth 100000 in
set_option maxHeartbeats 800000 in
theorem twoR_any (n d : Int) (w : World) (h0 : 0 ≤ n) (h1 : n ≤ 9999) (hd : d ≤ ((numS n).size : Int) + 1) (hd0 : 0 ≤ d) (hp : Pow10 w) :
    Calls Tryz.prog 111 #[.int .i64 n, .int .i64 d] w (StrB (padB n d.toNat) w) := by
  have HF : Hid (Calls Tryz.prog 30 #[.int .i64 n] w fun e w' => e = .returned (.string (numS n)) ∧ Below w.heap.size w w') := formatIntR_any n w (by omega) (by omega) hp
  have hz := numS_size h0 h1
  have HP : Hid (padB n d.toNat = if (numS n).size < d.toNat then zS ++ numS n else numS n) := rfl
  generalize numS n = s at *
  go_enter Tryz.func111, Tryz.ntmps111
  go_wp2_with fail
  refine HF.out.mono ?_
  rintro e w1 ⟨rfl, hb1⟩
  have HB1 := Lib.hid hb1
  clear hb1 HF
  go_wp2_with fail
  go_loop [5] (fun sv => ∃ x : ByteArray, sv = .string x ∧ (x = s ∨ (x = zS ++ s ∧ (s.size : Int) < d)) ∧ s.size ≤ x.size ∧ x.size ≤ s.size + 1) (fun sv => 100 - (match sv with | .string x => x.size | _ => 0))
  case atStart => exact ⟨s, rfl, .inl rfl, Nat.le_refl _, by omega⟩
  case round =>
    obtain ⟨x, rfl, hx, hx1, hx2⟩ := hrel
    by_cases hlt : (x.size : Int) < d
    · have hxs : x = s := by
        rcases hx with h | ⟨h, _⟩
        · exact h
        · exfalso
          have : x.size = s.size + 1 := by rw [h, ByteArray.size_append, show zS.size = 1 from rfl]; omega
          omega
      subst hxs
      have q3 : ¬ 9223372036854775807 < 1 + x.size := by omega
      have hzz : (zS ++ x).size = x.size + 1 := by rw [ByteArray.size_append, show zS.size = 1 from rfl]; omega
      have HZZ := Lib.hid hzz
      clear hx hzz
      go_wp2_with fail
      go_round
      case rel => exact ⟨zS ++ x, rfl, .inr ⟨rfl, hlt⟩, by have := HZZ.out; omega, by have := HZZ.out; omega⟩
      case measure =>
        have := HZZ.out
        show 100 - (zS ++ x).size < 100 - x.size
        omega
    · have HR : Hid (padB n d.toNat = x) := by
        show _ = _
        rw [HP.out]
        rcases hx with h | ⟨h, h2⟩
        · rw [if_neg (by subst h; omega), h]
        · rw [if_pos (by omega), h]
      clear hx
      go_wp2_with fail
      go_ret
      exact ⟨by rw [HR.out]; rfl, HB1.out⟩
theorem floorR_any (t : Int) (w : World) (h0 : 0 ≤ t) (h1 : t < 52596000) : Calls Tryz.prog 143 #[.int .i64 t, .int .i64 1440] w fun e w' => e = .returned (.int .i64 (t / 1440)) ∧ w = w' := by
  have q1 : t.tdiv 1440 = t / 1440 := Int.tdiv_eq_ediv_of_nonneg h0
  have q2 : t.tmod 1440 = t % 1440 := Int.tmod_eq_emod_of_nonneg h0
  have q3 : IntKind.i64.wrap (t / 1440) = t / 1440 := IntWalk.i64_in _ (by omega)
  have q4 : IntKind.i64.wrap (t % 1440) = t % 1440 := IntWalk.i64_in _ (by omega)
  have q5 : ¬ t % 1440 < 0 := by omega
  go_enter Tryz.func143, Tryz.ntmps143
  go_wp2_with fail
  go_ret
  exact ⟨rfl, rfl⟩
theorem splitMinuteR_any (t : Int) (w : World) (h0 : 0 ≤ t) (h1 : t < 52596000) : Calls Tryz.prog 112 #[.int .i64 t] w fun e w' => e = .returned (.tuple #[.int .i64 (t / 1440), .int .i64 (t % 1440)]) ∧ w = w' := by
  have HF := Lib.hid (floorR_any t w h0 h1)
  have q1 : IntKind.i64.wrap (1440 * (t / 1440)) = 1440 * (t / 1440) := IntWalk.i64_in _ (by omega)
  have q2 : t - 1440 * (t / 1440) = t % 1440 := by omega
  have q3 : IntKind.i64.wrap (t % 1440) = t % 1440 := IntWalk.i64_in _ (by omega)
  go_enter Tryz.func112, Tryz.ntmps112
  go_wp2_with fail
  refine HF.out.mono ?_
  rintro e w' ⟨rfl, rfl⟩
  go_wp2_with fail
  go_ret2
  exact ⟨rfl, rfl⟩
theorem dayN_last : dayN 2100 12 31 = (36889, 0) := by decide +kernel
set_option maxRecDepth 100000 in
set_option maxHeartbeats 1600000 in
theorem dateOfR_any (day : Int) (w : World) (h0 : 0 ≤ day) (h1 : day ≤ 36889) : Calls Tryz.prog 113 #[.int .i64 day] w (DayPost day w) := by
  have hb0 := (Below.refl w.heap.size w).alloc (Nat.le_refl _) (.cells #[.int .i64 0, .int .i64 0, .int .i64 0] 133)
  have hr0 := heap_alloc_new w (.cells #[.int .i64 0, .int .i64 0, .int .i64 0] 133)
  have hz0 : w.heap.size < (w.alloc (.cells #[.int .i64 0, .int .i64 0, .int .i64 0] 133)).heap.size := by simp
  have HB0 := Lib.hid hb0; have HR0 := Lib.hid hr0; have HZ0 := Lib.hid hz0
  clear hb0 hr0 hz0
  have c1 : ¬ day < -365 := by omega
  have c2 : ¬ (36889 : Int) < day := by omega
  have c3 : IntKind.i64.wrap (day + 365) = day + 365 := IntWalk.i64_in _ (by omega)
  go_enter Tryz.func113, Tryz.ntmps113
  go_wp2_with fail
  generalize w.alloc (.cells #[.int .i64 0, .int .i64 0, .int .i64 0] 133) = W at *
  refine (dayNumberR_any 2100 12 31 W ⟨by decide, by decide⟩).mono ?_
  rw [dayN_last]
  rintro e w1 ⟨rfl, hb1⟩
  have hbw : Below w.heap.size w w1 := HB0.out.trans (hb1.mono HB0.out.size)
  have hr1 := (hb1.block w.heap.size HZ0.out).trans HR0.out
  have HBW := Lib.hid hbw; have HR1 := Lib.hid hr1
  clear hb1 hbw hr1 HB0 HR0 HZ0
  go_wp2_with fail
  go_loop [6, 7, 8, 9, 10] (fun r y _ _ _ => ∃ k : Nat, k ≤ 102 ∧ r = .int .i64 (day + 365 - yearSum k) ∧ y = .int .i64 (1999 + k) ∧ 0 ≤ day + 365 - yearSum k) (fun _ y _ _ _ => 2200 - (intOf y).toNat)
  case atStart => exact ⟨0, by omega, by simp [yearSum, sumTo], rfl, by simp [yearSum, sumTo]; omega⟩
  case round =>
    obtain ⟨k, hk, rfl, rfl, hr⟩ := hrel
    have hk2 : k < 102 := by
      rcases Nat.lt_or_ge k 102 with h | h
      · exact h
      · exfalso
        have e : k = 102 := by omega
        subst e
        rw [yearSum_last] at hr
        omega
    have l1 : 1999 + (k : Int) ≤ 2100 := by omega
    have HS : Hid (yearSum (k + 1) = yearSum k + yDays (1999 + k)) := rfl
    have hbs := yearSum_bd k
    have HYV : Hid (yDays (1999 + k) = monSum (1999 + k) 12) := (monSum_year _).symm
    have HDB : Hid (∀ (j : Nat) (d : Int), dayB (1999 + k) (1 + j) d = -365 + yearSum k + monSum (1999 + k) j + d - 1) := fun j d => by
      unfold dayB
      have e1 : (1999 + (k : Int) - 1999).toNat = k := by omega
      have e2 : (1 + (j : Int) - 1).toNat = j := by omega
      rw [e1, e2]
    have HVB : Hid (∀ (j : Nat) (d : Int), j ≤ 11 → 1 ≤ d → d ≤ mDays (1999 + k) (1 + j) → validB (1999 + k) (1 + j) d = true) := fun j d hj a b => validB_iff.2 ⟨⟨by omega, by omega⟩, ⟨by omega, by omega⟩, a, b⟩
    have HDM : Hid (∀ j : Nat, j ≤ 11 → Calls Tryz.prog 141 #[.int .i64 (1999 + k), .int .i64 (1 + j)] w1 fun e w' => e = .returned (.tuple #[.int .i64 (mDays (1999 + k) (1 + j)), .int .i64 0]) ∧ w1 = w') := fun j hj => by
      have := daysInMonthR_any (1999 + k) (1 + j) w1
      have e : dimB (1999 + k) (1 + j) = (mDays (1999 + k) (1 + j), 0) := by unfold dimB; rw [if_neg (by omega)]
      rw [e] at this
      exact this
    have q9 : IntKind.i64.wrap (1999 + (k : Int) + 1) = 1999 + (k : Int) + 1 := IntWalk.i64_in _ (by omega)
    have HNX : Hid (day + 365 - yearSum k - monSum (1999 + k) 12 = day + 365 - yearSum (k + 1)) := by show _ = _; rw [HS.out, HYV.out]; omega
    obtain ⟨ys, hys⟩ : ∃ ys, yearSum k = ys := ⟨_, rfl⟩
    rw [hys] at hr hbs HDB HNX ⊢
    obtain ⟨yy, hyy⟩ : ∃ yy : Int, 1999 + (k : Int) = yy := ⟨_, rfl⟩
    have HYY := Lib.hid hyy
    rw [hyy] at HDB HVB HDM HNX l1 q9 ⊢
    have hyb : 0 ≤ yy ∧ yy ≤ 100000 := by omega
    clear hys HS HYV hyy
    go_wp2_with fail
    go_loop [6, 8, 9, 10] (fun r m _ _ => ∃ j : Nat, j ≤ 12 ∧ r = .int .i64 (day + 365 - ys - monSum yy j) ∧ m = .int .i64 (1 + j) ∧ 0 ≤ day + 365 - ys - monSum yy j) (fun _ m _ _ => 100 - (intOf m).toNat)
    case atStart => exact ⟨0, by omega, by simp [monSum, sumTo], rfl, by simp [monSum, sumTo]; omega⟩
    case round =>
      obtain ⟨j, hj, rfl, rfl, hr2⟩ := hrel
      by_cases hj2 : j ≤ 11
      · have m1 : 1 + (j : Int) ≤ 12 := by omega
        have HM := Lib.hid (HDM.out j hj2)
        have HS : Hid (monSum yy (j + 1) = monSum yy j + mDays yy (1 + j)) := rfl
        have hmb := monSum_bd yy j
        have hmd := mDays_bd yy (1 + j)
        have HDB2 := Lib.hid (HDB.out j (day + 365 - ys - monSum yy j + 1))
        have HVB2 := Lib.hid (HVB.out j (day + 365 - ys - monSum yy j + 1) hj2)
        by_cases hlt : day + 365 - ys - monSum yy j < mDays yy (1 + j)
        · have q1 : IntKind.i64.wrap (day + 365 - ys - monSum yy j + 1) = day + 365 - ys - monSum yy j + 1 := IntWalk.i64_in _ (by omega)
          have HV3 : Hid (validB yy (1 + j) (day + 365 - ys - monSum yy j + 1) = true) := HVB2.out (by omega) (by omega)
          have HD3 : Hid (dayB yy (1 + j) (day + 365 - ys - monSum yy j + 1) = day) := by show _ = _; rw [HDB2.out]; omega
          have hr3 := HR1.out
          have z0 := block_cell hr3 0; have z1 := block_cell hr3 1; have z2 := block_cell hr3 2
          have f0 := block_free hr3 0; have f1 := block_free hr3 1; have f2 := block_free hr3 2
          clear HVB HDB HVB2 HDB2 HS hr3
          generalize mDays yy (1 + j) = md at *
          generalize hms : monSum yy j = ms at *
          obtain ⟨dd, hdd⟩ : ∃ dd : Int, day + 365 - ys - ms + 1 = dd := ⟨_, rfl⟩
          rw [hdd] at q1 HV3 HD3
          clear hms
          go_wp2_with fail
          refine HM.out.mono ?_
          rintro e w' ⟨rfl, rfl⟩
          go_wp2_with fail
          refine bodyPost_ret (v := .tuple #[.agg #[.int .i64 yy, .int .i64 (1 + j), .int .i64 dd], .int .i64 0]) (by simp [results, Tryz.results113, go_sem, z0, z1, z2]) rfl ?_
          exact ⟨yy, 1 + j, dd, rfl, HV3.out, HD3.out, ((HBW.out.setCell (Nat.le_refl _) _).setCell (Nat.le_refl _) _).setCell (Nat.le_refl _) _⟩
        · have q1 : IntKind.i64.wrap (day + 365 - ys - monSum yy j - mDays yy (1 + j)) = day + 365 - ys - monSum yy j - mDays yy (1 + j) := IntWalk.i64_in _ (by omega)
          have q2 : IntKind.i64.wrap (1 + (j : Int) + 1) = 1 + (j : Int) + 1 := IntWalk.i64_in _ (by omega)
          have HE : Hid (day + 365 - ys - monSum yy j - mDays yy (1 + j) = day + 365 - ys - monSum yy (j + 1)) := by show _ = _; rw [HS.out]; omega
          clear HVB2 HDB2 HS
          generalize mDays yy (1 + j) = md at *
          generalize hms : monSum yy j = ms at *
          go_wp2_with fail
          refine HM.out.mono ?_
          rintro e w' ⟨rfl, rfl⟩
          go_wp2_with fail
          go_round
          case rel => exact ⟨j + 1, by omega, by rw [HE.out], by go_num, by rw [← HE.out]; omega⟩
          case measure => simp [intOf]; omega
      · have e : j = 12 := by omega
        subst e
        have m1 : ¬ (1 + ((12 : Nat) : Int)) ≤ 12 := by decide
        rw [HNX.out] at hr2 ⊢
        have HR2 := Lib.hid hr2
        clear hr2
        generalize hyn : yearSum (k + 1) = yn at *
        go_wp2_with fail
        go_round
        case rel => exact ⟨k + 1, by omega, by rw [hyn], by rw [← HYY.out]; go_num, by rw [hyn]; exact HR2.out⟩
        case measure => have := HYY.out; simp [intOf]; omega
end Go.Proofs.YtldeoaddogifpaaGreatDoor
/-
  Contracts of the reference's FormatDate, FormatClock, FormatInstant, and of pairingref9's instant (the text).
  Condition: the date is valid, the instant lies in the calendar; the table of powers of ten is laid.
-/
namespace Go.Proofs.YtldeoaddogifpaaGreatDoor
set_option linter.unusedSimpArgs false
set_option linter.unusedVariables false
open Go.RowKit

set_option maxRecDepth 100000 in
set_option maxHeartbeats 1600000 in
theorem formatDateR_any (y m d : Int) (w : World) (hv : validB y m d = true) (hp : Pow10 w) : Calls Tryz.prog 114 #[.agg #[.int .i64 y, .int .i64 m, .int .i64 d]] w (TxtB (fmtDate y m d) w) := by
  obtain ⟨v1, v2, v3, v4⟩ := validB_iff.1 hv
  have v5 := mDays_bd y m
  have hb0 := (Below.refl w.heap.size w).alloc (Nat.le_refl _) (.cells #[.int .i64 y, .int .i64 m, .int .i64 d] 133)
  have hr0 := heap_alloc_new w (.cells #[.int .i64 y, .int .i64 m, .int .i64 d] 133)
  have HB0 := Lib.hid hb0; have HR0 := Lib.hid hr0
  have HPW : Hid (∀ V, Below w.heap.size w V → Pow10 V) := fun V hV => hp.next hV
  have n1 : ((numS y).size : Int) = 4 := by
    have e := numS_four (n := y.toNat) (by omega) (by omega)
    rw [show ((y.toNat : Nat) : Int) = y by omega] at e
    rw [e, bs_size]; rfl
  have n2 := numS_size (n := m) (by omega) (by omega)
  have n3 := numS_size (n := d) (by omega) (by omega)
  have HP1 : Hid (∀ V, Below w.heap.size w V → Calls Tryz.prog 111 #[.int .i64 y, .int .i64 4] V (StrB (padB y 4) V)) := fun V hV => twoR_any y 4 V (by omega) (by omega) (by omega) (by omega) (HPW.out V hV)
  have HP2 : Hid (∀ V, Below w.heap.size w V → Calls Tryz.prog 111 #[.int .i64 m, .int .i64 2] V (StrB (padB m 2) V)) := fun V hV => twoR_any m 2 V (by omega) (by omega) (by omega) (by omega) (HPW.out V hV)
  have HP3 : Hid (∀ V, Below w.heap.size w V → Calls Tryz.prog 111 #[.int .i64 d, .int .i64 2] V (StrB (padB d 2) V)) := fun V hV => twoR_any d 2 V (by omega) (by omega) (by omega) (by omega) (HPW.out V hV)
  have s1 := padB_size (n := y) (d := 4) (by omega) (by omega)
  have s2 := padB_size (n := m) (d := 2) (by omega) (by omega)
  have s3 := padB_size (n := d) (d := 2) (by omega) (by omega)
  have HQ : Hid (fmtDate y m d = padB y 4 ++ dashS ++ padB m 2 ++ dashS ++ padB d 2) := rfl
  rw [HQ.out]
  have HV := Lib.hid hv
  generalize padB y 4 = P1 at *
  generalize padB m 2 = P2 at *
  generalize padB d 2 = P3 at *
  obtain ⟨X3, hX3⟩ : ∃ X, P1 ++ dashS = X := ⟨_, rfl⟩
  obtain ⟨X7, hX7⟩ : ∃ X, X3 ++ P2 = X := ⟨_, rfl⟩
  obtain ⟨X8, hX8⟩ : ∃ X, X7 ++ dashS = X := ⟨_, rfl⟩
  obtain ⟨X12, hX12⟩ : ∃ X, X8 ++ P3 = X := ⟨_, rfl⟩
  have t3 : X3.size ≤ 30 := by rw [← hX3, ByteArray.size_append, show dashS.size = 1 from rfl]; omega
  have t7 : X7.size ≤ 60 := by rw [← hX7, ByteArray.size_append]; omega
  have t8 : X8.size ≤ 61 := by rw [← hX8, ByteArray.size_append, show dashS.size = 1 from rfl]; omega
  rw [hX3, hX7, hX8, hX12]
  have HX3 := Lib.hid hX3; have HX7 := Lib.hid hX7; have HX8 := Lib.hid hX8; have HX12 := Lib.hid hX12
  have q1 : ¬ 9223372036854775807 < P1.size + 1 := by omega
  have q2 : ¬ 9223372036854775807 < X3.size + P2.size := by omega
  have q3 : ¬ 9223372036854775807 < X7.size + 1 := by omega
  have q4 : ¬ 9223372036854775807 < X8.size + P3.size := by omega
  clear hb0 hr0 hX3 hX7 hX8 hX12 hv HQ v1 v2 v3 v4 v5 n1 n2 n3
  go_enter Tryz.func114, Tryz.ntmps114
  go_wp2_with fail
  generalize w.alloc (.cells #[.int .i64 y, .int .i64 m, .int .i64 d] 133) = W at *
  refine (isDateR_any y m d W).mono ?_
  rw [HV.out]
  rintro e w1 ⟨rfl, hb1⟩
  have hWp : Below w.heap.size w w1 := HB0.out.trans (hb1.mono HB0.out.size)
  have hr1 := (hb1.block w.heap.size (Array.getElem?_eq_some_iff.1 HR0.out).1).trans HR0.out
  obtain ⟨B, hB⟩ : ∃ B, w.heap.size = B := ⟨_, rfl⟩
  rw [hB] at hr1
  have z0 := block_cell hr1 0; have z1 := block_cell hr1 1; have z2 := block_cell hr1 2
  rw [hB]
  clear hr1 hb1 hB
  go_upto_region 3 with (fail)
  refine wp_region_facts 13 [7, 8, 9, 10, 11, 12, 13, 14, 15, 16, 17, 18, 19] (fun i v _ => ([(.pointer (some ⟨B, 0, none⟩) : Value), (.int .i64 y : Value), (.string P1 : Value), (.string X3 : Value), (.pointer (some ⟨B, 1, none⟩) : Value), (.int .i64 m : Value), (.string P2 : Value), (.string X7 : Value), (.string X8 : Value), (.pointer (some ⟨B, 2, none⟩) : Value), (.int .i64 d : Value), (.string P3 : Value), (.string X12 : Value)] : List Value)[i]? = some v) (by kernel_rfl) (by kernel_rfl) (by kernel_rfl) (by kernel_rfl) (by kernel_rfl) (fun _ _ _ _ h _ => h) ?_ ?_
  · intro q o' hq ho a' w' hb' hout hpre K hK
    have hq' : q = 0 ∨ q = 1 ∨ q = 2 ∨ q = 3 ∨ q = 4 ∨ q = 5 ∨ q = 6 ∨ q = 7 ∨ q = 8 ∨ q = 9 ∨ q = 10 ∨ q = 11 ∨ q = 12 := by omega
    rcases hq' with rfl | rfl | rfl | rfl | rfl | rfl | rfl | rfl | rfl | rfl | rfl | rfl | rfl
    · obtain rfl := Option.some.inj ho
      have e1 : a'.tmps[1]? = some (.pointer (some ⟨B, 0, none⟩)) := hout 1 (by decide)
      go_simp
      exact hK (.pointer (some ⟨B, 0, none⟩)) w' rfl (Below.refl _ _)
    · obtain rfl := Option.some.inj ho
      have p0 : a'.tmps.getD 7 undef = .pointer (some ⟨B, 0, none⟩) := (Option.some.inj (hpre ⟨0, .data⟩ (by simp) 7 rfl)).symm
      simp only [Array.getD_eq_getD_getElem?] at p0
      have c0 := cell_kept z0 hb'
      go_simp
      exact hK (.int .i64 y) w' rfl (Below.refl _ _)
    · obtain rfl := Option.some.inj ho
      have p1 : a'.tmps.getD 8 undef = .int .i64 y := (Option.some.inj (hpre ⟨1, .data⟩ (by simp) 8 rfl)).symm
      simp only [Array.getD_eq_getD_getElem?] at p1
      go_simp
      go_at_call 111
      refine (HP1.out w' (hWp.trans (hb'.mono hWp.size))).mono ?_
      rintro e w'' ⟨rfl, hb''⟩
      exact hK _ _ rfl hb''
    · obtain rfl := Option.some.inj ho
      have p2 : a'.tmps.getD 9 undef = .string P1 := (Option.some.inj (hpre ⟨2, .data⟩ (by simp) 9 rfl)).symm
      simp only [Array.getD_eq_getD_getElem?] at p2
      go_simp
      exact hK _ _ (congrArg (fun x => some (Value.string x)) HX3.out.symm) (Below.refl _ _)
    · obtain rfl := Option.some.inj ho
      have e1 : a'.tmps[1]? = some (.pointer (some ⟨B, 0, none⟩)) := hout 1 (by decide)
      go_simp
      exact hK (.pointer (some ⟨B, 1, none⟩)) w' rfl (Below.refl _ _)
    · obtain rfl := Option.some.inj ho
      have p4 : a'.tmps.getD 11 undef = .pointer (some ⟨B, 1, none⟩) := (Option.some.inj (hpre ⟨4, .data⟩ (by simp) 11 rfl)).symm
      simp only [Array.getD_eq_getD_getElem?] at p4
      have c1 := cell_kept z1 hb'
      go_simp
      exact hK (.int .i64 m) w' rfl (Below.refl _ _)
    · obtain rfl := Option.some.inj ho
      have p5 : a'.tmps.getD 12 undef = .int .i64 m := (Option.some.inj (hpre ⟨5, .data⟩ (by simp) 12 rfl)).symm
      simp only [Array.getD_eq_getD_getElem?] at p5
      go_simp
      go_at_call 111
      refine (HP2.out w' (hWp.trans (hb'.mono hWp.size))).mono ?_
      rintro e w'' ⟨rfl, hb''⟩
      exact hK _ _ rfl hb''
    · obtain rfl := Option.some.inj ho
      have p3 : a'.tmps.getD 10 undef = .string X3 := (Option.some.inj (hpre ⟨3, .data⟩ (by simp) 10 rfl)).symm
      simp only [Array.getD_eq_getD_getElem?] at p3
      have p6 : a'.tmps.getD 13 undef = .string P2 := (Option.some.inj (hpre ⟨6, .data⟩ (by simp) 13 rfl)).symm
      simp only [Array.getD_eq_getD_getElem?] at p6
      go_simp
      exact hK _ _ (congrArg (fun x => some (Value.string x)) HX7.out.symm) (Below.refl _ _)
    · obtain rfl := Option.some.inj ho
      have p7 : a'.tmps.getD 14 undef = .string X7 := (Option.some.inj (hpre ⟨7, .data⟩ (by simp) 14 rfl)).symm
      simp only [Array.getD_eq_getD_getElem?] at p7
      go_simp
      exact hK _ _ (congrArg (fun x => some (Value.string x)) HX8.out.symm) (Below.refl _ _)
    · obtain rfl := Option.some.inj ho
      have e1 : a'.tmps[1]? = some (.pointer (some ⟨B, 0, none⟩)) := hout 1 (by decide)
      go_simp
      exact hK (.pointer (some ⟨B, 2, none⟩)) w' rfl (Below.refl _ _)
    · obtain rfl := Option.some.inj ho
      have p9 : a'.tmps.getD 16 undef = .pointer (some ⟨B, 2, none⟩) := (Option.some.inj (hpre ⟨9, .data⟩ (by simp) 16 rfl)).symm
      simp only [Array.getD_eq_getD_getElem?] at p9
      have c2 := cell_kept z2 hb'
      go_simp
      exact hK (.int .i64 d) w' rfl (Below.refl _ _)
    · obtain rfl := Option.some.inj ho
      have p10 : a'.tmps.getD 17 undef = .int .i64 d := (Option.some.inj (hpre ⟨10, .data⟩ (by simp) 17 rfl)).symm
      simp only [Array.getD_eq_getD_getElem?] at p10
      go_simp
      go_at_call 111
      refine (HP3.out w' (hWp.trans (hb'.mono hWp.size))).mono ?_
      rintro e w'' ⟨rfl, hb''⟩
      exact hK _ _ rfl hb''
    · obtain rfl := Option.some.inj ho
      have p8 : a'.tmps.getD 15 undef = .string X8 := (Option.some.inj (hpre ⟨8, .data⟩ (by simp) 15 rfl)).symm
      simp only [Array.getD_eq_getD_getElem?] at p8
      have p11 : a'.tmps.getD 18 undef = .string P3 := (Option.some.inj (hpre ⟨11, .data⟩ (by simp) 18 rfl)).symm
      simp only [Array.getD_eq_getD_getElem?] at p11
      go_simp
      exact hK _ _ (congrArg (fun x => some (Value.string x)) HX12.out.symm) (Below.refl _ _)
  · intro us w' hb' hfacts
    have h12 : us 12 = .string X12 := (Option.some.inj (hfacts 12 (by decide))).symm
    have hfin : Below w.heap.size w w' := hWp.trans (hb'.mono hWp.size)
    simp only [putL, Act.put, List.setIfInBounds_toArray, List.set_cons_zero, List.set_cons_succ]
    generalize us 12 = x12 at *
    subst h12
    simp only [List.drop_succ_cons, List.drop_zero]
    clear hb' hfacts
    go_wp2_with fail
    go_ret2
    exact ⟨rfl, hfin⟩
set_option maxRecDepth 100000 in
set_option maxHeartbeats 1600000 in
theorem formatClockR_any (c : Int) (w : World) (h0 : 0 ≤ c) (h1 : c < 1440) (hp : Pow10 w) : Calls Tryz.prog 115 #[.int .i64 c] w (TxtB (fmtClock c) w) := by
  have HPW : Hid (∀ V, Below w.heap.size w V → Pow10 V) := fun V hV => hp.next hV
  have n2 := numS_size (n := c / 60) (by omega) (by omega)
  have n3 := numS_size (n := c % 60) (by omega) (by omega)
  have HP2 : Hid (∀ V, Below w.heap.size w V → Calls Tryz.prog 111 #[.int .i64 (c / 60), .int .i64 2] V (StrB (padB (c / 60) 2) V)) := fun V hV => twoR_any (c / 60) 2 V (by omega) (by omega) (by omega) (by omega) (HPW.out V hV)
  have HP3 : Hid (∀ V, Below w.heap.size w V → Calls Tryz.prog 111 #[.int .i64 (c % 60), .int .i64 2] V (StrB (padB (c % 60) 2) V)) := fun V hV => twoR_any (c % 60) 2 V (by omega) (by omega) (by omega) (by omega) (HPW.out V hV)
  have s2 := padB_size (n := c / 60) (d := 2) (by omega) (by omega)
  have s3 := padB_size (n := c % 60) (d := 2) (by omega) (by omega)
  have HQ : Hid (fmtClock c = padB (c / 60) 2 ++ colS ++ padB (c % 60) 2) := rfl
  rw [HQ.out]
  generalize padB (c / 60) 2 = P2 at *
  generalize padB (c % 60) 2 = P3 at *
  have u1 : c.tdiv 60 = c / 60 := Int.tdiv_eq_ediv_of_nonneg h0
  have u2 : c.tmod 60 = c % 60 := Int.tmod_eq_emod_of_nonneg h0
  have u3 : IntKind.i64.wrap (c / 60) = c / 60 := IntWalk.i64_in _ (by omega)
  have u4 : IntKind.i64.wrap (c % 60) = c % 60 := IntWalk.i64_in _ (by omega)
  have u5 : ¬ c < 0 := by omega
  have u6 : ¬ (1440 : Int) ≤ c := by omega
  have u7 : ¬ (1439 : Int) < c := by omega
  have q1 : ¬ 9223372036854775807 < P2.size + 1 := by omega
  have q2 : ¬ 9223372036854775807 < P2.size + 1 + P3.size := by omega
  have q3 : ¬ 9223372036854775807 < (P2 ++ (⟨#[58]⟩ : ByteArray)).size + P3.size := by rw [ByteArray.size_append, show (⟨#[58]⟩ : ByteArray).size = 1 from rfl]; omega
  go_enter Tryz.func115, Tryz.ntmps115
  go_wp2_with fail
  refine (HP2.out w (Below.refl _ _)).mono ?_
  rintro e w1 ⟨rfl, hb1⟩
  go_wp2_with fail
  refine (HP3.out w1 hb1).mono ?_
  rintro e w2 ⟨rfl, hb2⟩
  have hfin : Below w.heap.size w w2 := hb1.trans (hb2.mono hb1.size)
  go_wp2_with fail
  go_ret2
  exact ⟨rfl, hfin⟩
set_option maxRecDepth 100000 in
set_option maxHeartbeats 1600000 in
theorem formatInstantR_any (t : Int) (w : World) (h0 : 0 ≤ t) (h1 : t < 52596000) (hp : Pow10 w) : Calls Tryz.prog 72 #[.int .i64 t] w (InsPost t w) := by
  have HPW : Hid (∀ V, Below w.heap.size w V → Pow10 V) := fun V hV => hp.next hV
  have u5 : ¬ t < 0 := by omega
  have u6 : ¬ (52596000 : Int) ≤ t := by omega
  have HSP := Lib.hid (splitMinuteR_any t w h0 h1)
  have HDO := Lib.hid (dateOfR_any (t / 1440) w (by omega) (by omega))
  have HCL : Hid (∀ V, Below w.heap.size w V → Calls Tryz.prog 115 #[.int .i64 (t % 1440)] V (TxtB (fmtClock (t % 1440)) V)) := fun V hV => formatClockR_any (t % 1440) V (by omega) (by omega) (HPW.out V hV)
  have hcs := fmtClock_size (c := t % 1440) (by omega) (by omega)
  have HIS : Hid (∀ y m d, validB y m d = true → dayB y m d = t / 1440 → IsIns t (fmtDate y m d ++ blankS ++ fmtClock (t % 1440))) := fun y m d a b => ⟨y, m, d, a, b, rfl⟩
  generalize fmtClock (t % 1440) = C at *
  go_enter Tryz.func72, Tryz.ntmps72
  go_wp2_with fail
  refine HSP.out.mono ?_
  rintro e w' ⟨rfl, rfl⟩
  go_wp2_with fail
  refine HDO.out.mono ?_
  rintro e w1 ⟨y, m, d, rfl, hv, hd, hb1⟩
  have HI := Lib.hid (HIS.out y m d hv hd)
  have hds := fmtDate_size hv
  have hb2 : Below w.heap.size w (w1.alloc (.cells #[.int .i64 y, .int .i64 m, .int .i64 d] 133)) := hb1.alloc hb1.size _
  have hr2 := heap_alloc_new w1 (.cells #[.int .i64 y, .int .i64 m, .int .i64 d] 133)
  have HFD := Lib.hid (formatDateR_any y m d (w1.alloc (.cells #[.int .i64 y, .int .i64 m, .int .i64 d] 133)) hv (HPW.out _ hb2))
  have HB2 := Lib.hid hb2
  generalize fmtDate y m d = D at *
  have q1 : ¬ 9223372036854775807 < D.size + 1 := by omega
  have q2 : ¬ 9223372036854775807 < D.size + 1 + C.size := by omega
  have q3 : ¬ 9223372036854775807 < (D ++ (⟨#[32]⟩ : ByteArray)).size + C.size := by rw [ByteArray.size_append, show (⟨#[32]⟩ : ByteArray).size = 1 from rfl]; omega
  have z0 := block_cell hr2 0; have z1 := block_cell hr2 1; have z2 := block_cell hr2 2
  clear hb1 hv hd hb2 hr2 HIS HSP HDO
  go_wp2_with fail
  refine HFD.out.mono ?_
  rintro e w2 ⟨rfl, hb3⟩
  have hb4 : Below w.heap.size w w2 := HB2.out.trans (hb3.mono HB2.out.size)
  clear HFD hb3 z0 z1 z2
  go_wp2_with fail
  refine (HCL.out w2 hb4).mono ?_
  rintro e w3 ⟨rfl, hb5⟩
  have HB6 : Hid (Below w.heap.size w w3) := hb4.trans (hb5.mono hb4.size)
  clear hb4 hb5
  go_wp2_with fail
  go_ret2
  exact ⟨_, rfl, HI.out, HB6.out⟩
theorem instantTxtR_any (t : Int) (w : World) (h0 : 0 ≤ t) (h1 : t < 52596000) (hp : Pow10 w) : Calls Tryz.prog 29 #[.int .i64 t] w fun e w' => ∃ s, e = .returned (.string s) ∧ IsIns t s ∧ Below w.heap.size w w' := by
  go_enter Tryz.func29, Tryz.ntmps29
  go_wp2_with fail
  refine (formatInstantR_any t w h0 h1 hp).mono ?_
  rintro e w1 ⟨s, rfl, hi, hb⟩
  have HI := Lib.hid hi
  clear hi
  go_wp2_with fail
  go_ret
  exact ⟨s, rfl, HI.out, hb⟩
end Go.Proofs.YtldeoaddogifpaaGreatDoor
/-
  Contracts of the reference's FormatDuration and of pairingref9's duration (the text).
  Condition: the number lies within the limits; the table of powers of ten is laid.
-/
namespace Go.Proofs.YtldeoaddogifpaaGreatDoor
set_option linter.unusedSimpArgs false
set_option linter.unusedVariables false
open Go.RowKit

set_option maxHeartbeats 1600000 in
set_option maxRecDepth 100000 in
theorem formatDurationR_any (n : Int) (w : World) (h : -1099511627776 ≤ n ∧ n ≤ 1099511627776) (hp : Pow10 w) : Calls Tryz.prog 71 #[.int .i64 n] w (DurTxtP n w) := by
  obtain ⟨z1, z2⟩ := durF_partsP h
  have HPW : Hid (∀ V, Below w.heap.size w V → Pow10 V) := fun V hV => hp.next hV
  have HF1 : Hid (∀ V, Below w.heap.size w V → Calls Tryz.prog 30 #[.int .i64 ((n.natAbs / 60 : Nat) : Int)] V fun e w' => e = .returned (.string (numS ((n.natAbs / 60 : Nat)))) ∧ Below V.heap.size V w') := fun V hV => formatIntR_any _ V (by omega) (by omega) (HPW.out V hV)
  have hns : ((numS ((n.natAbs % 60 : Nat) : Int)).size : Int) ≥ 1 := by
    rw [numS_nat, bs_size]
    have := dec_pos (n.natAbs % 60)
    omega
  have HF2 : Hid (∀ V, Below w.heap.size w V → Calls Tryz.prog 111 #[.int .i64 ((n.natAbs % 60 : Nat) : Int), .int .i64 2] V (StrB (padB ((n.natAbs % 60 : Nat)) 2) V)) := fun V hV => twoR_any _ 2 V (by omega) (by omega) (by omega) (by omega) (HPW.out V hV)
  unfold StrB at HF2
  have HQ : Hid (durF n = (if n < 0 then dashS else emS) ++ numS ((n.natAbs / 60 : Nat)) ++ colS ++ padB ((n.natAbs % 60 : Nat)) 2) := rfl
  have u0 : ¬ n < -1099511627776 := by omega
  have u1 : ¬ 1099511627776 < n := by omega
  have HDF : Hid ((∀ (x : ByteArray), (⟨#[45]⟩ : ByteArray) = dashS ∧ (⟨#[]⟩ : ByteArray) = emS ∧ (⟨#[58]⟩ : ByteArray) = colS)) := fun _ => ⟨rfl, rfl, rfl⟩
  have HBR := Lib.hid (Below.refl w.heap.size w)
  by_cases hn : n < 0
  · have HR : Hid (durF n = (⟨#[45]⟩ : ByteArray) ++ numS ((n.natAbs / 60 : Nat)) ++ (⟨#[58]⟩ : ByteArray) ++ padB ((n.natAbs % 60 : Nat)) 2) := by show _ = _; rw [HQ.out, if_pos hn]; rfl
    obtain ⟨a, ha⟩ : ∃ a : Nat, n.natAbs = a := ⟨_, rfl⟩
    have hna : n = -(a : Int) := by omega
    rw [ha] at HF1 HF2 HR z1 z2
    have q1 : IntKind.i64.wrap (-n) = (a : Int) := by rw [hna, Int.neg_neg]; exact IntWalk.i64_in _ (by omega)
    have q2 : (a : Int).tdiv 60 = ((a / 60 : Nat) : Int) := by rw [Int.tdiv_eq_ediv_of_nonneg (by omega)]; omega
    have q3 : (a : Int).tmod 60 = ((a % 60 : Nat) : Int) := by rw [Int.tmod_eq_emod_of_nonneg (by omega)]; omega
    have hal : a ≤ 1099511627776 := by omega
    have q4 : IntKind.i64.wrap ((a / 60 : Nat) : Int) = ((a / 60 : Nat) : Int) := IntWalk.i64_in _ (by omega)
    have q5 : IntKind.i64.wrap ((a % 60 : Nat) : Int) = ((a % 60 : Nat) : Int) := IntWalk.i64_in _ (by omega)
    generalize numS ((a / 60 : Nat)) = P1 at *
    generalize padB ((a % 60 : Nat)) 2 = P2 at *
    generalize a / 60 = d1 at *
    generalize a % 60 = d2 at *
    clear HQ ha hna hns
    have qa0a : ¬ 9223372036854775807 < 1 + P1.size := by omega
    have qa0b : ¬ 9223372036854775807 < ((⟨#[45]⟩ : ByteArray)).size + P1.size := by rw [show ((⟨#[45]⟩ : ByteArray)).size = 1 by first | rfl | (simp only [ByteArray.size_append]; rfl)]; omega
    have qa1a : ¬ 9223372036854775807 < 1 + P1.size + 1 := by omega
    have qa1b : ¬ 9223372036854775807 < ((⟨#[45]⟩ : ByteArray) ++ P1).size + 1 := by rw [show ((⟨#[45]⟩ : ByteArray) ++ P1).size = 1 + P1.size by first | rfl | (simp only [ByteArray.size_append]; rfl)]; omega
    have qa2a : ¬ 9223372036854775807 < 1 + P1.size + 1 + P2.size := by omega
    have qa2b : ¬ 9223372036854775807 < ((⟨#[45]⟩ : ByteArray) ++ P1 ++ (⟨#[58]⟩ : ByteArray)).size + P2.size := by rw [show ((⟨#[45]⟩ : ByteArray) ++ P1 ++ (⟨#[58]⟩ : ByteArray)).size = 1 + P1.size + 1 by first | rfl | (simp only [ByteArray.size_append]; rfl)]; omega
    clear hal HDF h
    go_enter Tryz.func71, Tryz.ntmps71
    go_wp2_with fail
    refine (HF1.out _ HBR.out).mono ?_
    rintro e w1 ⟨rfl, hb1⟩
    have HB1 := Lib.hid hb1
    clear hb1
    go_wp2_with fail
    refine (HF2.out _ HB1.out).mono ?_
    rintro e w2 ⟨rfl, hb2⟩
    have HB2 : Hid (Below w.heap.size w w2) := HB1.out.trans (hb2.mono HB1.out.size)
    clear hb2
    go_wp2_with fail
    go_ret2
    exact ⟨by rw [HR.out]; rfl, HB2.out⟩
  · have HR : Hid (durF n = (⟨#[]⟩ : ByteArray) ++ numS ((n.natAbs / 60 : Nat)) ++ (⟨#[58]⟩ : ByteArray) ++ padB ((n.natAbs % 60 : Nat)) 2) := by show _ = _; rw [HQ.out, if_neg hn]; rfl
    obtain ⟨a, ha⟩ : ∃ a : Nat, n.natAbs = a := ⟨_, rfl⟩
    have hna : n = (a : Int) := by omega
    rw [ha] at HF1 HF2 HR z1 z2
    subst hna
    have q2 : (a : Int).tdiv 60 = ((a / 60 : Nat) : Int) := by rw [Int.tdiv_eq_ediv_of_nonneg (by omega)]; omega
    have q3 : (a : Int).tmod 60 = ((a % 60 : Nat) : Int) := by rw [Int.tmod_eq_emod_of_nonneg (by omega)]; omega
    have q4 : IntKind.i64.wrap ((a / 60 : Nat) : Int) = ((a / 60 : Nat) : Int) := IntWalk.i64_in _ (by omega)
    have q5 : IntKind.i64.wrap ((a % 60 : Nat) : Int) = ((a % 60 : Nat) : Int) := IntWalk.i64_in _ (by omega)
    generalize numS ((a / 60 : Nat)) = P1 at *
    generalize padB ((a % 60 : Nat)) 2 = P2 at *
    generalize a / 60 = d1 at *
    generalize a % 60 = d2 at *
    clear HQ ha hns
    have qa0a : ¬ 9223372036854775807 < 0 + P1.size := by omega
    have qa0b : ¬ 9223372036854775807 < ((⟨#[]⟩ : ByteArray)).size + P1.size := by rw [show ((⟨#[]⟩ : ByteArray)).size = 0 by first | rfl | (simp only [ByteArray.size_append]; rfl)]; omega
    have qa1a : ¬ 9223372036854775807 < 0 + P1.size + 1 := by omega
    have qa1b : ¬ 9223372036854775807 < ((⟨#[]⟩ : ByteArray) ++ P1).size + 1 := by rw [show ((⟨#[]⟩ : ByteArray) ++ P1).size = 0 + P1.size by first | rfl | (simp only [ByteArray.size_append]; rfl)]; omega
    have qa2a : ¬ 9223372036854775807 < 0 + P1.size + 1 + P2.size := by omega
    have qa2b : ¬ 9223372036854775807 < ((⟨#[]⟩ : ByteArray) ++ P1 ++ (⟨#[58]⟩ : ByteArray)).size + P2.size := by rw [show ((⟨#[]⟩ : ByteArray) ++ P1 ++ (⟨#[58]⟩ : ByteArray)).size = 0 + P1.size + 1 by first | rfl | (simp only [ByteArray.size_append]; rfl)]; omega
    clear HDF h
    go_enter Tryz.func71, Tryz.ntmps71
    go_wp2_with fail
    refine (HF1.out _ HBR.out).mono ?_
    rintro e w1 ⟨rfl, hb1⟩
    have HB1 := Lib.hid hb1
    clear hb1
    go_wp2_with fail
    refine (HF2.out _ HB1.out).mono ?_
    rintro e w2 ⟨rfl, hb2⟩
    have HB2 : Hid (Below w.heap.size w w2) := HB1.out.trans (hb2.mono HB1.out.size)
    clear hb2
    go_wp2_with fail
    go_ret2
    exact ⟨by rw [HR.out]; rfl, HB2.out⟩
theorem durTxtR_any (n : Int) (w : World) (h : -1099511627776 ≤ n ∧ n ≤ 1099511627776) (hp : Pow10 w) : Calls Tryz.prog 28 #[.int .i64 n] w (StrB (durF n) w) := by
  have HC := Lib.hid (formatDurationR_any n w h hp)
  unfold DurTxtP at HC
  generalize durF n = x at *
  clear h
  go_enter Tryz.func28, Tryz.ntmps28
  go_wp2_with fail
  refine HC.out.mono ?_
  rintro e w1 ⟨rfl, hb1⟩
  go_wp2_with fail
  go_ret
  exact ⟨rfl, hb1⟩
end Go.Proofs.YtldeoaddogifpaaGreatDoor
