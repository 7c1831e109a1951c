/-
  Contracts of wire.EncodeUint, EncodeInt, EncodeText.
  Condition: the numbers and lengths are within their limits.
-/
import Derived.Test.YtldeoaddogifpaaGreatDoorWirePlain
import Derived.Lib.AppendStr
import Derived.Test.YtldeoaddogifpaaGreatDoorNames
namespace Go.Proofs.YtldeoaddogifpaaGreatDoor
set_option linter.unusedSimpArgs false
set_option linter.unusedVariables false
open Go.RowKit

/-- append of one byte to a row of the call's own. -/
theorem wpList_push_int {P : Program} {κ : IntKind} {bytes : Nat} {ops : Array Oper} {rest : List Oper} {o : Oper} {a : Act} {Q : Exit → Act → World → Prop} {w W : World} {B base : Nat} {v : Value} {xs : List Int} {T e : TypeId}
    (hgd : o.guard = none) (s x : Operand) (ho : o.op = .call { callee := .builtin .append, args := #[s, x], argTypes := #[T, T] }) (he : Elem P T e 1 bytes) (hpos : 0 < bytes) (h8 : bytes ≤ 8) (hs : a.eval s = v) (hown : Own (Ty.int κ) e w base v xs)
    (g : Nat) (y : Int) (hx : a.eval x = .slice (some ⟨g, 0, none⟩) 1 1) (hy : w.cell? ⟨g, 0, none⟩ = some (.int κ y)) (hlen : xs.length < 1099511627776) (hbase : base ≤ w.heap.size) (hB : B ≤ base) (hbel : Below B W w)
    (h : ∀ v' w', Own (Ty.int κ) e w' base v' (xs ++ [y]) → Below B W w' → wpList P ops Q rest (a.put o.dst v') w') : wpList P ops Q (o :: rest) a w := by
  refine wpList_push hgd s x T ho bytes he hs hown g y (fun _ => False) hx ⟨[.int κ y], rfl, fun j u hu => ?_⟩ (fun _ h => h.elim) ?_ hpos hbase fun v' w' ho' hg => h v' w' ho' ?_
  · rcases j with _ | j
    · simp at hu; subst hu; exact hy
    · simp at hu
  · have : (xs.length + 1) * bytes ≤ 1099511627776 * 8 := Nat.mul_le_mul (by omega) h8
    omega
  · exact hbel.grown hg (by omega) fun k hk => Nat.le_trans hB (hown.lt k hk).1
/-- What an encoder hands back: a new row and the error 0. -/
def EncPost (bs : List Int) (w : World) (e : Ending) (w' : World) : Prop :=
  ∃ v, e = .returned (.tuple #[v, .int .i64 0]) ∧ Own (Ty.int .u8) 5 w' w.heap.size v bs ∧ Below w.heap.size w w'

theorem elem_bytes : Elem Tryz.prog 37 5 1 1 := ⟨Tryz.underlying37, by kernel_rfl⟩

set_option maxHeartbeats 800000 in
theorem encodeUint_any (n : Int) (w : World) (h0 : 0 ≤ n) (h1 : n ≤ 4611686018427387904) :
    Calls Tryz.prog 78 #[.int .i64 n] w (EncPost (uvar n) w) := by
  go_enter Tryz.func78, Tryz.ntmps78
  go_wp2_with fail
  go_loopw [0, 4] (fun nv v wr => ∃ (m : Int) (pre : List Int), nv = .int .i64 m ∧ (0 ≤ m ∧ m ≤ 4611686018427387904) ∧ Hid (pre ++ uvar m = uvar n) ∧ Own (Ty.int .u8) 5 wr w.heap.size v pre ∧ Below w.heap.size w wr) (fun nv _ _ => (intOf nv).toNat)
  case atStart => exact ⟨n, [], rfl, ⟨h0, h1⟩, rfl, Own.nil, Below.refl _ _⟩
  case round =>
    obtain ⟨m, pre, rfl, ⟨hm0, hm1⟩, HU, hown, hbr⟩ := hrel
    have hl : pre.length ≤ 10 := by
      have h2 := uvar_len n
      rw [← HU.out, List.length_append] at h2
      omega
    have hbs := hbr.size
    have HO := Lib.hid (or128 m)
    by_cases hlt : 128 ≤ m
    · go_wp2_with (at_builtin; refine wpList_push_int rfl _ _ rfl elem_bytes (by decide) (by decide) rfl (hown.alloc _) wr.heap.size (bits .or .u8 (IntKind.u8.wrap m) 128) rfl ?c1 ?c2 ?c3 (Nat.le_refl _) (hbr.alloc hbs _) ?_)
      case c1 => simp [IntKind.wrap_u8]
      case c2 => omega
      case c3 => simp; omega
      intro v' w1 hown' hbr2
      rw [HO.out] at hown'
      have HN : Hid ((pre ++ [m % 128 + 128]) ++ uvar (m / 128) = uvar n) := by
        show _ = _
        rw [← HU.out, uvar_step hlt hm1, List.append_assoc]
        rfl
      clear hown
      go_wp2_with fail
      go_roundw
      case rel => exact ⟨m / 128, pre ++ [m % 128 + 128], rfl, ⟨by omega, by omega⟩, HN, hown', hbr2⟩
      case measure => simp [intOf]; omega
    · have hw8 : IntKind.u8.wrap m = m := by rw [IntKind.wrap_u8]; omega
      go_wp2_with (at_builtin; refine wpList_push_int rfl _ _ rfl elem_bytes (by decide) (by decide) rfl (hown.alloc _) wr.heap.size m rfl (by simp [hw8]) ?d2 ?d3 (Nat.le_refl _) (hbr.alloc hbs _) ?_)
      case d2 => omega
      case d3 => first | omega | (simp; omega)
      intro v' w1 hown' hbr2
      have HN : Hid (pre ++ [m] = uvar n) := by
        show _ = _
        rw [← HU.out, uvar_small (by omega)]
      rw [HN.out] at hown'
      clear hown
      go_wp2_with fail
      go_ret2
      exact ⟨_, rfl, hown', hbr2⟩
theorem encodeInt_any (n : Int) (w : World) (h0 : -2305843009213693952 ≤ n) (h1 : n ≤ 2305843009213693952) :
    Calls Tryz.prog 80 #[.int .i64 n] w (EncPost (uvar (zig n)) w) := by
  by_cases hn : n < 0
  · have HZ : Hid (zig n = -2 * n - 1) := by show _ = _; unfold zig; rw [if_pos hn]
    have w1 : IntKind.i64.wrap (-2 * n) = -2 * n := IntWalk.i64_in _ (by omega)
    have w2 : IntKind.i64.wrap (-2 * n - 1) = -2 * n - 1 := IntWalk.i64_in _ (by omega)
    have HC := Lib.hid (encodeUint_any (-2 * n - 1) w (by omega) (by omega))
    go_enter Tryz.func80, Tryz.ntmps80
    go_wp2_with fail
    refine HC.out.mono ?_
    rintro e w' ⟨v, rfl, hown, hb⟩
    clear HC
    go_wp2_with fail
    go_ret2
    exact ⟨_, rfl, HZ.out ▸ hown, hb⟩
  · have HZ : Hid (zig n = 2 * n) := by show _ = _; unfold zig; rw [if_neg hn]
    have w1 : IntKind.i64.wrap (2 * n) = 2 * n := IntWalk.i64_in _ (by omega)
    have HC := Lib.hid (encodeUint_any (2 * n) w (by omega) (by omega))
    go_enter Tryz.func80, Tryz.ntmps80
    go_wp2_with fail
    refine HC.out.mono ?_
    rintro e w' ⟨v, rfl, hown, hb⟩
    clear HC
    go_wp2_with fail
    go_ret2
    exact ⟨_, rfl, HZ.out ▸ hown, hb⟩
theorem strCells_eq (s : ByteArray) : Lib.strCells s = (bytesOf s).map (Value.int .u8) := by
  unfold Lib.strCells bytesOf
  rw [List.map_map]
  rfl
/-- append of a string's bytes. -/
theorem wpList_push_text {P : Program} {ops : Array Oper} {rest : List Oper} {o : Oper} {a : Act} {Q : Exit → Act → World → Prop} {w W : World} {B base : Nat} {v : Value} {xs : List Int} {T U e : TypeId}
    (hgd : o.guard = none) (s x : Operand) (ho : o.op = .call { callee := .builtin .append, args := #[s, x], argTypes := #[T, U] }) (i : TypeInfo) (ht : P.underlying T = some (.slice e)) (hu : P.underlying U = some .string) (hi : P.info? e = some i) (hz : i.zero = some (.int .u8 0)) (hsize : i.size = 1) (hby : i.bytes = 1)
    (hs : a.eval s = v) (hown : Own (Ty.int .u8) e w base v xs) (y : ByteArray) (hx : a.eval x = .string y) (hlen : xs.length + y.size < 1099511627776) (hbase : base ≤ w.heap.size) (hB : B ≤ base) (hbel : Below B W w)
    (h : ∀ v' w', Own (Ty.int .u8) e w' base v' (xs ++ bytesOf y) → Below B W w' → wpList P ops Q rest (a.put o.dst v') w') : wpList P ops Q (o :: rest) a w := by
  refine Lib.wpList_append_own_string w hgd s x T U ho base e i ht hu hi hz hsize hby v xs.length (xs.map (Value.int .u8)) hs (own_ints.1 hown) y hx (by unfold maxLen; omega) (by omega) hbase ?_
  intro v' w' ho' hg _
  refine h v' w' (own_ints.2 ?_) (hbel.grown hg (by omega) fun k hk => Nat.le_trans hB (hown.lt k hk).1)
  rw [strCells_eq, ← List.map_append] at ho'
  rwa [List.length_append, bytesOf_len]
theorem byte_info : ∃ i, Tryz.prog.info? 5 = some i ∧ i.zero = some (.int .u8 0) ∧ i.size = 1 ∧ i.bytes = 1 := by
  have h : (Tryz.prog.info? 5).map (fun i => (i.zero, i.size, i.bytes)) = some (some (.int .u8 0), 1, 1) := by kernel_rfl
  rw [Option.map_eq_some_iff] at h
  obtain ⟨i, hi, h3⟩ := h
  simp only [Prod.mk.injEq] at h3
  exact ⟨i, hi, h3.1, h3.2.1, h3.2.2⟩
theorem encodeText_any (s : ByteArray) (w : World) (hs : s.size ≤ 20000) :
    Calls Tryz.prog 79 #[.string s] w (EncPost (textB s) w) := by
  have HC := Lib.hid (encodeUint_any s.size w (by omega) (by omega))
  obtain ⟨i, i1, i2, i3, i4⟩ := byte_info
  have HI := Lib.hid (And.intro i1 (And.intro i2 (And.intro i3 i4)))
  clear i1 i2 i3 i4
  go_enter Tryz.func79, Tryz.ntmps79
  go_wp2_with fail
  refine HC.out.mono ?_
  rintro e w' ⟨v, rfl, hown, hb⟩
  clear HC
  have hl := uvar_len s.size
  go_wp2_with (at_builtin; refine wpList_push_text rfl _ _ rfl i Tryz.underlying37 Tryz.underlying9 HI.out.1 HI.out.2.1 HI.out.2.2.1 HI.out.2.2.2 rfl hown s rfl ?c2 hb.size (Nat.le_refl _) hb ?_)
  case c2 => omega
  intro v' w1 hown' hbr2
  clear hown
  go_wp2_with fail
  go_ret2
  exact ⟨_, rfl, hown', hbr2⟩
end Go.Proofs.YtldeoaddogifpaaGreatDoor
