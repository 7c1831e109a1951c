/-
  Contract of wire.Frame.
  Condition: the body has at least one byte and at most 2^20.
-/
import Derived.Test.YtldeoaddogifpaaGreatDoorCrc
namespace Go.Proofs.YtldeoaddogifpaaGreatDoor
set_option linter.unusedSimpArgs false
set_option linter.unusedVariables false
open Go.RowKit

def sumBytes (x : BitVec 32) : List Int := [u32 x / 16777216 % 256, u32 x / 65536 % 256, u32 x / 256 % 256, u32 x % 256]
def headB (kind : Int) (body : List Int) : List Int := kind :: (uvar body.length ++ body)
def frameB (kind : Int) (body : List Int) : List Int := headB kind body ++ sumBytes (crc (headB kind body))

theorem wpList_push_rowB {P : Program} {κ : IntKind} {bytes : Nat} {ops : Array Oper} {rest : List Oper} {o : Oper} {a : Act} {Q : Exit → Act → World → Prop} {w W : World} {B base : Nat} {v : Value} {xs ys : List Int} {T e : TypeId}
    (hgd : o.guard = none) (s x : Operand) (ho : o.op = .call { callee := .builtin .append, args := #[s, x], argTypes := #[T, T] }) (he : Elem P T e 1 bytes) (hpos : 0 < bytes) (h8 : bytes ≤ 8) (hs : a.eval s = v) (hown : Own (Ty.int κ) e w base v xs)
    (ad : Addr) (m c : Nat) (hx : a.eval x = .slice (some ad) m c) (hm : ys.length = m) (hy : ∀ j u, (ys.map (Value.int κ))[j]? = some u → w.cell? (ad.add j) = some u) (hlen : xs.length + ys.length < 1099511627776) (hbase : base ≤ w.heap.size) (hB : B ≤ base) (hbel : Below B W w)
    (h : ∀ v' w', Own (Ty.int κ) e w' base v' (xs ++ ys) → Below B W w' → wpList P ops Q rest (a.put o.dst v') w') : wpList P ops Q (o :: rest) a w :=
  wpList_push_row hgd s x ho he hpos h8 hs hown ad m c hx hm hy hlen hbase fun v' w' ho' hg _ => h v' w' ho' (hbel.grown hg (by omega) fun k hk => Nat.le_trans hB (hown.lt k hk).1)
/-- The cells of a slice of integers, as append asks for them. -/
theorem Sl.int_cells {κ : IntKind} {w : World} {S : Nat → Prop} {A : Option Addr} {n c : Nat} {xs : List Int} (h : Sl (Ty.int κ) w S A n c xs) (h0 : xs ≠ []) : ∃ b o, A = some ⟨b, o, none⟩ ∧ S b ∧ ∀ j u, (xs.map (Value.int κ))[j]? = some u → w.cell? ((⟨b, o, none⟩ : Addr).add j) = some u := by
  have hl : 0 < xs.length := List.length_pos_iff.2 h0
  obtain ⟨b, o, e, hS, hc⟩ := h.int_at (k := 0) hl
  refine ⟨b, o, e, hS, fun j u hu => ?_⟩
  rw [List.getElem?_map, Option.map_eq_some_iff] at hu
  obtain ⟨x, hx, rfl⟩ := hu
  have hj := (List.getElem?_eq_some_iff.1 hx).1
  obtain ⟨b', o', e', _, hc'⟩ := h.int_at hj
  rw [e] at e'
  injection e' with e'
  injection e' with e1 e2
  subst e1 e2
  rw [addr_add, hc', (List.getElem?_eq_some_iff.1 hx).2]

set_option maxRecDepth 100000 in
theorem frame_any (kind : Int) (bs : List Int) (A : Option Addr) (n c : Nat) (w : World) (h : Sl (Ty.int .u8) w (all_ w) A n c bs) (h0 : bs ≠ []) (h1 : bs.length ≤ 1048576) :
    Calls Tryz.prog 44 #[.int .u8 kind, .slice A n c] w (EncPost (frameB kind bs) w) := by
  have hn1 : n ≤ bs.length := Nat.le_of_eq h.len
  have hn2 : bs.length ≤ n := Nat.le_of_eq h.len.symm
  obtain ⟨b, o, rfl, hbS, hcl⟩ := h.int_cells h0
  have hbS' : b < w.heap.size := hbS
  have HBC := Lib.hid hcl
  have HC := Lib.hid (encodeUint_any n w (by omega) (by omega))
  clear h hcl hbS
  obtain ⟨i0, i1, i2, i3, i4⟩ := byte_info
  have HI := Lib.hid (And.intro i1 (And.intro i2 (And.intro i3 i4)))
  clear i1 i2 i3 i4
  go_enter Tryz.func44, Tryz.ntmps44
  go_wp2_with fail
  refine HC.out.mono ?_
  rintro e w1 ⟨v1, rfl, hown1, hb1⟩
  clear HC
  obtain ⟨q, c1, rfl, hq1, hq2, hq3⟩ := hown1.int_sl (uvar_pos n)
  have hl1 := uvar_len n
  have HQ3 := Lib.hid hq3
  have hs1 := hb1.size
  clear hown1 hq3
  generalize hun : uvar n = un at *
  have HUN := Lib.hid hun
  clear hun
  go_wp2_with (at_make; refine wpList_make_own _ rfl _ _ _ rfl w1.heap.size 5 i0 (.int .u8 0) 1 Tryz.underlying37 HI.out.1 HI.out.2.1 HI.out.2.2.1 .i64 .i64 _ (1 + un.length + n + 4) rfl rfl ?m1 ?m2 ?m3 (Nat.le_refl _) ?_)
  case m1 => simp
  case m2 => rw [HI.out.2.2.2]; omega
  case m3 => unfold maxLen; omega
  intro w2 hmk hgr
  have hown2 : Own (Ty.int .u8) 5 w2 w1.heap.size (.slice (some ⟨w1.heap.size, 0, none⟩) 0 (1 + un.length + n + 4)) [] := own_ints.2 hmk
  have hb2 : Below w1.heap.size w1 w2 := (Below.refl _ _).grown hgr (Nat.le_refl _) (fun k hk => by cases hk)
  have hs2 := hb2.size
  clear hmk hgr
  go_wp2_with (at_builtin; refine wpList_push_int rfl _ _ rfl elem_bytes (by decide) (by decide) rfl (hown2.alloc _) w2.heap.size kind rfl ?a1 ?a2 ?a3 (Nat.le_refl _) (hb2.alloc hs2 _) ?_)
  case a1 => simp
  case a2 => simp
  case a3 => simp; omega
  intro v3 w3 hown3 hb3
  have hs3 := hb3.size
  clear hown2 hb2
  go_wp2_with (at_builtin; refine wpList_push_rowB (ys := un) rfl _ _ rfl elem_bytes (by decide) (by decide) rfl hown3 ⟨q, 0, none⟩ un.length c1 rfl rfl ?b1 ?b2 hs3 (Nat.le_refl _) hb3 ?_)
  case b1 =>
    intro j u hj
    rw [addr_add, hb3.cell (by simpa using hq2), ← addr_add]
    exact HQ3.out j u hj
  case b2 => simp; omega
  intro v4 w4 hown4 hb4
  have hs4 := hb4.size
  clear hown3 hb3
  go_wp2_with (at_builtin; refine wpList_push_rowB (ys := bs) rfl _ _ rfl elem_bytes (by decide) (by decide) rfl hown4 ⟨b, o, none⟩ n c rfl ?d0 ?d1 ?d2 hs4 (Nat.le_refl _) hb4 ?_)
  case d0 => omega
  case d1 =>
    intro j u hj
    rw [addr_add, hb4.cell (by simp; omega), hb1.cell (by simpa using hbS'), ← addr_add]
    exact HBC.out j u hj
  case d2 => simp; omega
  intro v5 w5 hown5 hb5
  have hs5 := hb5.size
  clear hown4 hb4
  have hlh : (kind :: (un ++ bs)).length < 2000000 := by simp; omega
  have HF : Hid (frameB kind bs = (kind :: (un ++ bs)) ++ sumBytes (crc (kind :: (un ++ bs)))) := by
    show _ = _
    have e : n = bs.length := by omega
    rw [← HUN.out, e]
    rfl
  have hpos : kind :: (un ++ bs) ≠ [] := by simp
  generalize kind :: (un ++ bs) = hd at *
  obtain ⟨q5, c5, rfl, hq51, hq52, _⟩ := hown5.int_sl hpos
  obtain ⟨A5, c5', e5, hsl5⟩ := hown5.sl
  injection e5 with e51 _ e53
  subst e51 e53
  have HCS := Lib.hid (checksum_any hd _ _ c5 w5 (hsl5.more fun b hb => hb.2))
  have HO5 := Lib.hid hown5
  clear hsl5 hown5 hpos
  go_wp2_with fail
  refine HCS.out.mono ?_
  rintro e w6 ⟨rfl, hb6⟩
  clear HCS
  have hown6 := HO5.out.next hb6
  have hb6' : Below w1.heap.size w1 w6 := hb5.trans (hb6.mono hs5)
  have hs6 := hb6'.size
  have hx0 := u32_lo (crc hd)
  have hsb : Hid (sumBytes (crc hd) = [u32 (crc hd) / 16777216 % 256, u32 (crc hd) / 65536 % 256, u32 (crc hd) / 256 % 256, u32 (crc hd) % 256]) := rfl
  generalize crc hd = x at *
  go_wp2_with (at_builtin; refine wpList_push_rowB (ys := [u32 x / 16777216 % 256, u32 x / 65536 % 256, u32 x / 256 % 256, u32 x % 256]) rfl _ _ rfl elem_bytes (by decide) (by decide) rfl (hown6.alloc _) ⟨w6.heap.size, 0, none⟩ 4 4 rfl rfl ?f1 ?f2 ?f3 (Nat.le_refl _) (hb6'.alloc hs6 _) ?_)
  case f1 =>
    intro j u hj
    rw [addr_add]
    rcases j with _ | _ | _ | _ | j
    · simp at hj; subst hj; simp
    · simp at hj; subst hj; simp
    · simp at hj; subst hj; simp
    · simp at hj; subst hj; simp
    · simp at hj
  case f2 => simp; omega
  case f3 => simp; omega
  intro v7 w7 hown7 hb7
  rw [← hsb.out] at hown7
  clear hown6
  go_wp2_with fail
  go_ret2
  exact ⟨_, rfl, HF.out ▸ hown7.lower hs1, hb1.trans (hb7.mono hs1)⟩
end Go.Proofs.YtldeoaddogifpaaGreatDoor
