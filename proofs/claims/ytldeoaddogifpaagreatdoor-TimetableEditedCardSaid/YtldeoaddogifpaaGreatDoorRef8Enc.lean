/-
  Contracts of the reference's encoders (package pairingref8): uint0, zigzag, Uint, Int, Text.
  Condition: the numbers and lengths are within their limits.
-/
import Derived.Test.YtldeoaddogifpaaGreatDoorWriter
namespace Go.Proofs.YtldeoaddogifpaaGreatDoor
set_option linter.unusedSimpArgs false
set_option linter.unusedVariables false
open Go.RowKit

theorem and_7f (n : Int) : bits .and .i64 n 127 = n % 128 := by
  show IntKind.i64.wrap ((BitVec.ofInt 64 n &&& BitVec.ofInt 64 127).toNat : Int) = _
  have e1 : (BitVec.ofInt 64 127).toNat = 2 ^ 7 - 1 := by decide
  rw [BitVec.toNat_and, e1, Nat.and_two_pow_sub_one_eq_mod, BitVec.toNat_ofInt, IntKind.wrap_i64]
  omega
/-- A block of another type is not the row. -/
theorem own_box_ne {α : Type} {t : Ty α} {e T : TypeId} {w : World} {base b : Nat} {v : Value} {xs : List α} {cs : Array Value} {fz : Nat × Nat} (h : Own t e w base v xs) (hb : w.heap[b]? = some (.cells cs T fz)) (hT : T ≠ e) : some b ≠ v.ownBlock := fun e1 => by
  obtain ⟨_, h1, _⟩ := h
  rcases h1.2 with ⟨rfl, _⟩ | ⟨g, cap, cur, rfl, _, hg, _⟩
  · simp [Value.ownBlock] at e1
  · simp [Value.ownBlock] at e1
    subst e1
    rw [hg] at hb
    simp only [Option.some.injEq, Obj.cells.injEq] at hb
    exact hT hb.2.1.symm
/-- A new row is handed back. -/
def NewRow (bs : List Int) (w : World) (e : Ending) (w' : World) : Prop := ∃ v, e = .returned v ∧ Own (Ty.int .u8) 5 w' w.heap.size v bs ∧ Below w.heap.size w w'
/-- The row v has grown to v'; nothing else has changed. -/
def RowPost (base : Nat) (v : Value) (w : World) (bs : List Int) (e : Ending) (w' : World) : Prop := ∃ v', e = .returned v' ∧ Own (Ty.int .u8) 5 w' base v' bs ∧ w.grownBy w' v.ownBlock
theorem grown_of_below {w w1 w' : World} {r : Option Nat} (hb : Below w.heap.size w w1) (hg : w1.grownBy w' r) : w.grownBy w' r :=
  ⟨hg.os.trans hb.os, hg.tape.trans hb.tape, hg.output.trans hb.output, Nat.le_trans hb.size hg.size, fun k hk hr => (hg.block k (Nat.lt_of_lt_of_le hk hb.size) hr).trans (hb.block k hk)⟩

set_option maxHeartbeats 800000 in
theorem uint0_any (n : Int) (w : World) (h0 : 0 ≤ n) (h1 : n ≤ 4611686018427387904) :
    Calls Tryz.prog 109 #[.int .i64 n] w (NewRow (uvar n) w) := by
  go_enter Tryz.func109, Tryz.ntmps109
  go_wp2_with fail
  go_loopw [0, 3] (fun nv v wr => ∃ (m : Int) (pre : List Int), nv = .int .i64 m ∧ (0 ≤ m ∧ m ≤ 4611686018427387904) ∧ Hid (pre ++ uvar m = uvar n) ∧ Own (Ty.int .u8) 5 wr w.heap.size v pre ∧ Below w.heap.size w wr) (fun nv _ _ => (intOf nv).toNat)
  case atStart => exact ⟨n, [], rfl, ⟨h0, h1⟩, rfl, Own.nil, Below.refl _ _⟩
  case round =>
    obtain ⟨m, pre, rfl, ⟨hm0, hm1⟩, HU, hown, hbr⟩ := hrel
    have hl : pre.length ≤ 10 := by
      have h2 := uvar_len n
      rw [← HU.out, List.length_append] at h2
      omega
    have hbs := hbr.size
    have ha : bits .and .i64 m 127 = m % 128 := and_7f m
    have HO : Hid (bits .or .u8 (IntKind.u8.wrap (m % 128)) 128 = m % 128 + 128) := by
      show _ = _
      rw [or128]
      omega
    by_cases hlt : 128 ≤ m
    · go_wp2_with (at_builtin; refine wpList_push_int rfl _ _ rfl elem_bytes (by decide) (by decide) rfl (hown.alloc _) wr.heap.size (bits .or .u8 (IntKind.u8.wrap (m % 128)) 128) rfl ?c1 ?c2 ?c3 (Nat.le_refl _) (hbr.alloc hbs _) ?_)
      case c1 => simp [IntKind.wrap_u8]; rw [show m % 128 % 256 = m % 128 by omega]
      case c2 => omega
      case c3 => simp; omega
      intro v' w1 hown' hbr2
      rw [HO.out] at hown'
      have HN : Hid ((pre ++ [m % 128 + 128]) ++ uvar (m / 128) = uvar n) := by
        show _ = _
        rw [← HU.out, uvar_step hlt hm1, List.append_assoc]
        rfl
      clear hown
      go_wp2_with fail
      go_roundw
      case rel => exact ⟨m / 128, pre ++ [m % 128 + 128], rfl, ⟨by omega, by omega⟩, HN, hown', hbr2⟩
      case measure => simp [intOf]; omega
    · have hw8 : IntKind.u8.wrap m = m := by rw [IntKind.wrap_u8]; omega
      go_wp2_with (at_builtin; refine wpList_push_int rfl _ _ rfl elem_bytes (by decide) (by decide) rfl (hown.alloc _) wr.heap.size m rfl (by simp [hw8]) ?d2 ?d3 (Nat.le_refl _) (hbr.alloc hbs _) ?_)
      case d2 => omega
      case d3 => first | omega | (simp; omega)
      intro v' w1 hown' hbr2
      have HN : Hid (pre ++ [m] = uvar n) := by
        show _ = _
        rw [← HU.out, uvar_small (by omega)]
      rw [HN.out] at hown'
      clear hown
      go_wp2_with fail
      go_ret
      exact ⟨_, rfl, hown', hbr2⟩
theorem zigzag_any (n : Int) (w : World) (h0 : -2305843009213693952 ≤ n) (h1 : n ≤ 2305843009213693952) :
    Calls Tryz.prog 110 #[.int .i64 n] w fun e w' => e = .returned (.int .i64 (zig n)) ∧ w = w' := by
  by_cases hn : n < 0
  · have HZ : Hid (zig n = -2 * n - 1) := by show _ = _; unfold zig; rw [if_pos hn]
    have w1 : IntKind.i64.wrap (-2 * n) = -2 * n := IntWalk.i64_in _ (by omega)
    have w2 : IntKind.i64.wrap (-2 * n - 1) = -2 * n - 1 := IntWalk.i64_in _ (by omega)
    go_enter Tryz.func110, Tryz.ntmps110
    go_wp2_with fail
    go_ret
    exact ⟨ret_int HZ.out.symm, rfl⟩
  · have HZ : Hid (zig n = 2 * n) := by show _ = _; unfold zig; rw [if_neg hn]
    have w1 : IntKind.i64.wrap (2 * n) = 2 * n := IntWalk.i64_in _ (by omega)
    go_enter Tryz.func110, Tryz.ntmps110
    go_wp2_with fail
    go_ret
    exact ⟨ret_int HZ.out.symm, rfl⟩
theorem refUint_any (base : Nat) (v : Value) (bs : List Int) (n : Int) (w : World) (h : Own (Ty.int .u8) 5 w base v bs) (hb : base ≤ w.heap.size) (hl : bs.length < 900000000) (h0 : 0 ≤ n) (h1 : n ≤ 4611686018427387904) :
    Calls Tryz.prog 68 #[v, .int .i64 n] w (RowPost base v w (bs ++ uvar n)) := by
  have HC := Lib.hid (uint0_any n w h0 h1)
  have HO := Lib.hid h
  have hul := uvar_len n
  clear h
  go_enter Tryz.func68, Tryz.ntmps68
  go_wp2_with fail
  refine HC.out.mono ?_
  clear HC
  rintro e w1 ⟨u, rfl, hu, hb1⟩
  obtain ⟨q, cq, rfl, hq1, hq2, hq3⟩ := hu.int_sl (uvar_pos n)
  have hs1 := hb1.size
  go_wp2_with (at_builtin; refine wpList_push_row rfl _ _ rfl elem_bytes (by decide) (by decide) rfl (HO.out.next hb1) ⟨q, 0, none⟩ _ cq rfl rfl hq3 ?c1 ?c2 ?_)
  case c1 => omega
  case c2 => omega
  intro v' w2 hown hgr hv'
  have HF := Lib.hid (grown_of_below hb1 hgr)
  clear hgr hv' hu hq3 HO
  go_wp2_with fail
  go_ret
  exact ⟨v', rfl, hown, HF.out⟩
theorem refInt_any (base : Nat) (v : Value) (bs : List Int) (n : Int) (w : World) (h : Own (Ty.int .u8) 5 w base v bs) (hb : base ≤ w.heap.size) (hl : bs.length < 900000000) (h0 : -2305843009213693952 ≤ n) (h1 : n ≤ 2305843009213693952) :
    Calls Tryz.prog 69 #[v, .int .i64 n] w (RowPost base v w (bs ++ uvar (zig n))) := by
  have hz : 0 ≤ zig n ∧ zig n ≤ 4611686018427387904 := by unfold zig; split <;> omega
  have HZ := Lib.hid (zigzag_any n w h0 h1)
  have HC := Lib.hid (uint0_any (zig n) w hz.1 hz.2)
  have HO := Lib.hid h
  have hul := uvar_len (zig n)
  clear h
  go_enter Tryz.func69, Tryz.ntmps69
  go_wp2_with fail
  refine HZ.out.mono ?_
  clear HZ
  rintro e w' ⟨rfl, rfl⟩
  go_wp2_with fail
  refine HC.out.mono ?_
  clear HC
  rintro e w1 ⟨u, rfl, hu, hb1⟩
  obtain ⟨q, cq, rfl, hq1, hq2, hq3⟩ := hu.int_sl (uvar_pos _)
  have hs1 := hb1.size
  go_wp2_with (at_builtin; refine wpList_push_row rfl _ _ rfl elem_bytes (by decide) (by decide) rfl (HO.out.next hb1) ⟨q, 0, none⟩ _ cq rfl rfl hq3 ?c1 ?c2 ?_)
  case c1 => omega
  case c2 => omega
  intro v' w2 hown hgr hv'
  have HF := Lib.hid (grown_of_below hb1 hgr)
  clear hgr hv' hu hq3 HO
  go_wp2_with fail
  go_ret
  exact ⟨v', rfl, hown, HF.out⟩
/-- append of a string's bytes, with what has changed. -/
theorem wpList_push_textG {P : Program} {ops : Array Oper} {rest : List Oper} {o : Oper} {a : Act} {Q : Exit → Act → World → Prop} {w : World} {base : Nat} {v : Value} {xs : List Int} {T U e : TypeId}
    (hgd : o.guard = none) (s x : Operand) (ho : o.op = .call { callee := .builtin .append, args := #[s, x], argTypes := #[T, U] }) (i : TypeInfo) (ht : P.underlying T = some (.slice e)) (hu : P.underlying U = some .string) (hi : P.info? e = some i) (hz : i.zero = some (.int .u8 0)) (hsize : i.size = 1) (hby : i.bytes = 1)
    (hs : a.eval s = v) (hown : Own (Ty.int .u8) e w base v xs) (y : ByteArray) (hx : a.eval x = .string y) (hlen : xs.length + y.size < 1099511627776) (hbase : base ≤ w.heap.size)
    (h : ∀ v' w', Own (Ty.int .u8) e w' base v' (xs ++ bytesOf y) → w.grownBy w' v.ownBlock → wpList P ops Q rest (a.put o.dst v') w') : wpList P ops Q (o :: rest) a w := by
  refine Lib.wpList_append_own_string w hgd s x T U ho base e i ht hu hi hz hsize hby v xs.length (xs.map (Value.int .u8)) hs (own_ints.1 hown) y hx (by unfold maxLen; omega) (by omega) hbase ?_
  intro v' w' ho' hg _
  refine h v' w' (own_ints.2 ?_) hg
  rw [strCells_eq, ← List.map_append] at ho'
  rwa [List.length_append, bytesOf_len]
theorem refText_any (base : Nat) (v : Value) (bs : List Int) (s : ByteArray) (w : World) (h : Own (Ty.int .u8) 5 w base v bs) (hb : base ≤ w.heap.size) (hl : bs.length < 900000000) (hs : s.size ≤ 20000) :
    Calls Tryz.prog 70 #[v, .string s] w (RowPost base v w (bs ++ textB s)) := by
  have HC := Lib.hid (uint0_any s.size w (by omega) (by omega))
  have HO := Lib.hid h
  have hul := uvar_len s.size
  obtain ⟨i, i1, i2, i3, i4⟩ := byte_info
  have HI := Lib.hid (And.intro i1 (And.intro i2 (And.intro i3 i4)))
  have HT : Hid (bs ++ textB s = bs ++ (uvar s.size ++ bytesOf s)) := rfl
  clear h i1 i2 i3 i4
  go_enter Tryz.func70, Tryz.ntmps70
  go_wp2_with fail
  refine HC.out.mono ?_
  clear HC
  rintro e w1 ⟨u, rfl, hu, hb1⟩
  obtain ⟨q, cq, rfl, hq1, hq2, hq3⟩ := hu.int_sl (uvar_pos _)
  have hs1 := hb1.size
  have tok : True := trivial
  go_wp2_with (at_builtin; have _t := tok; refine wpList_push_row rfl _ _ rfl elem_bytes (by decide) (by decide) rfl (HO.out.next hb1) ⟨q, 0, none⟩ _ cq rfl rfl hq3 ?c1 ?c2 ?_)
  case c1 => omega
  case c2 => omega
  intro v' w2 hown hgr hv'
  have hs2 := hgr.size
  have hl2 : (bs ++ uvar s.size).length < 900000011 := by rw [List.length_append]; omega
  have HF : Hid (∀ w3, w2.grownBy w3 v'.ownBlock → w.grownBy w3 v.ownBlock) := fun w3 h3 => by
    refine ⟨h3.os.trans (hgr.os.trans hb1.os), h3.tape.trans (hgr.tape.trans hb1.tape), h3.output.trans (hgr.output.trans hb1.output), by have := h3.size; omega, fun k hk hr => ?_⟩
    have hr' : some k ≠ v'.ownBlock := by
      rcases hv' with e | e
      · rw [e]; exact hr
      · rw [e]; intro e2; injection e2 with e2; omega
    exact (h3.block k (by omega) hr').trans ((hgr.block k (by omega) hr).trans (hb1.block k hk))
  have HOW := Lib.hid hown
  clear hgr hv' hu hq3 HO tok hown
  go_wp2_with (at_builtin; refine wpList_push_textG rfl _ _ rfl i Tryz.underlying37 Tryz.underlying9 HI.out.1 HI.out.2.1 HI.out.2.2.1 HI.out.2.2.2 rfl HOW.out s rfl ?d1 ?d2 ?_)
  case d1 => omega
  case d2 => omega
  intro v3 w3 hown3 hgr3
  have HF3 := Lib.hid (HF.out w3 hgr3)
  rw [← HT.out] at hown3
  clear hgr3 HF
  go_wp2_with fail
  go_ret
  exact ⟨v3, rfl, hown3, HF3.out⟩
end Go.Proofs.YtldeoaddogifpaaGreatDoor
