/-
  Contracts of the reference's Checksum and Frame (package pairingref8).
  Condition: the bytes are bytes.
-/
import Derived.Test.YtkhedjfdjjeopaaRef8Enc
import Derived.Test.YtkhedjfdjjeopaaFrame
import Derived.Test.YtkhedjfdjjeopaaCrcLaw
namespace Go.Proofs.Ytkhedjfdjjeopaa
set_option linter.unusedSimpArgs false
set_option linter.unusedVariables false
open Go.RowKit

theorem low_one (x : BitVec 32) : (bits .and .u32 (u32 x) 1 == 1) = lowB x := by
  have h := bits_and_u32 x 1#32
  have e : u32 1#32 = 1 := by decide
  rw [e] at h
  rw [h]
  unfold u32 lowB
  rw [BitVec.toNat_and]
  show ((((x.toNat &&& 1 : Nat)) : Int) == 1) = _
  rw [Nat.and_one_is_mod, Bool.eq_iff_iff, beq_iff_eq, decide_eq_true_eq]
  omega
theorem xor_byte (x : BitVec 32) {c : Int} (h : isByte c) : bits .xor .u32 (u32 x) c = u32 (x ^^^ b32 c) := by
  have e : c = u32 (b32 c) := by
    unfold u32
    rw [b32_nat h, Int.toNat_of_nonneg h.1]
  conv => lhs; rw [e]
  exact bits_xor_u32 _ _
set_option maxRecDepth 100000 in
theorem checksumR_any (bs : List Int) (A : Option Addr) (n c : Nat) (S : Nat → Prop) (w : World) (h : Sl (Ty.int .u8) w S A n c bs) (hby : ∀ x ∈ bs, isByte x) :
    Calls Try.prog 58 #[.slice A n c] w fun e w' => e = .returned (.int .u32 (u32 (crc bs))) ∧ w = w' := by
  have hle := h.le
  unfold maxLen at hle
  have hn1 : n ≤ bs.length := Nat.le_of_eq h.len
  have hn2 : bs.length ≤ n := Nat.le_of_eq h.len.symm
  have H := Lib.hid h
  have HBY := Lib.hid hby
  clear h hby
  go_enter Try.func58, Try.ntmps58
  go_wp2_with fail
  go_loop [3, 4] (fun s i => ∃ k : Nat, k ≤ n ∧ i = .int .i64 k ∧ s = .int .u32 (u32 (crcTo (bs.take k)))) (fun _ i => n - (intOf i).toNat)
  case atStart => exact ⟨0, Nat.zero_le _, rfl, by rw [List.take_zero]; rfl⟩
  case round =>
    obtain ⟨k, hk, rfl, rfl⟩ := hrel
    by_cases hlt : k < n
    · have hkl : k < bs.length := by omega
      obtain ⟨b, o, rfl, hbS, hcell⟩ := H.out.int_at hkl
      have hyb := HBY.out bs[k] (List.getElem_mem hkl)
      have HX : Hid (crcTo (bs.take (k + 1)) = shN 8 (crcTo (bs.take k) ^^^ b32 bs[k])) := by
        show _ = _
        rw [List.take_succ_eq_append_getElem hkl, crcTo_snoc, crcStep_bits _ hyb]
      generalize crcTo (bs.take k) = x at *
      generalize bs[k] = y at *
      have hxb := xor_byte x hyb
      obtain ⟨hy0, hy1⟩ := hyb
      have hwr : IntKind.u32.wrap y = y := by unfold IntKind.wrap; simp [IntKind.bits, IntKind.signed]; omega
      have hwr2 : y % 4294967296 = y := by omega
      go_wp2_with fail
      generalize x ^^^ b32 y = x0 at *
      clear hcell hxb hwr hwr2
      go_loop [3, 5] (fun s i => ∃ j : Nat, j ≤ 8 ∧ i = .int .i64 j ∧ s = .int .u32 (u32 (shN j x0))) (fun _ i => 8 - (intOf i).toNat)
      case atStart => exact ⟨0, Nat.zero_le _, rfl, rfl⟩
      case round =>
        obtain ⟨j, hj, rfl, rfl⟩ := hrel
        by_cases hlj : j < 8
        · have HN : Hid (shN (j + 1) x0 = sh1 (shN j x0)) := rfl
          generalize shN j x0 = z at *
          have hlo := low_one z
          rcases Bool.eq_false_or_eq_true (lowB z) with hl | hl
          · have HS := Lib.hid (sh1_yes hl)
            rw [hl] at hlo
            clear hl
            go_wp2_with fail
            go_round
            case rel => exact ⟨j + 1, by omega, by go_num, by rw [HN.out, ← HS.out]⟩
            case measure => simp [intOf]; omega
          · have HS := Lib.hid (sh1_no hl)
            rw [hl] at hlo
            clear hl
            go_wp2_with fail
            go_round
            case rel => exact ⟨j + 1, by omega, by go_num, by rw [HN.out, ← HS.out]⟩
            case measure => simp [intOf]; omega
        · have hj8 : j = 8 := by omega
          subst hj8
          generalize shN 8 x0 = z at *
          go_wp2_with fail
          go_round
          case rel => exact ⟨k + 1, by omega, by go_num, by rw [HX.out]⟩
          case measure => simp [intOf]; omega
    · have HF : Hid (crcTo (bs.take k) = crcTo bs) := by show _ = _; rw [List.take_of_length_le (by omega)]
      generalize crcTo (bs.take k) = x at *
      go_wp2_with fail
      go_ret
      exact ⟨ret_int (by rw [not_u32, HF.out]; rfl), rfl⟩
set_option maxRecDepth 100000 in
theorem frameR_any (kind : Int) (bs : List Int) (A : Option Addr) (n c : Nat) (w : World) (h : Sl (Ty.int .u8) w (all_ w) A n c bs) (h0 : bs ≠ []) (h1 : bs.length ≤ 1048576) (hk : isByte kind) (hby : ∀ x ∈ bs, isByte x) :
    Calls Try.prog 33 #[.int .u8 kind, .slice A n c] w (EncPost (frameB kind bs) w) := by
  have hn1 : n ≤ bs.length := Nat.le_of_eq h.len
  have hn2 : bs.length ≤ n := Nat.le_of_eq h.len.symm
  obtain ⟨b, o, rfl, hbS, hcl⟩ := h.int_cells h0
  have hbS' : b < w.heap.size := hbS
  have HBC := Lib.hid hcl
  have hA : ∀ ob, Below w.heap.size w (w.alloc ob) := fun ob => (Below.refl _ _).alloc (Nat.le_refl _) ob
  have HC : Hid (∀ ob, Calls Try.prog 57 #[.int .i64 n] (w.alloc ob) (NewRow (uvar n) (w.alloc ob))) := fun ob => uint0_any n _ (by omega) (by omega)
  have HA := Lib.hid hA
  have HHB : Hid (∀ x ∈ kind :: (uvar n ++ bs), isByte x) := fun x hx => by
    rw [List.mem_cons, List.mem_append] at hx
    rcases hx with rfl | hx | hx
    · exact hk
    · exact uvar_bytes (by omega) x hx
    · exact hby x hx
  clear h hcl hbS hA hk hby
  go_enter Try.func33, Try.ntmps33
  go_wp2_with fail
  refine (HC.out _).mono ?_
  rintro e w1 ⟨v1, rfl, hown1, hb1⟩
  clear HC
  have hown0 : Own (Ty.int .u8) 5 (w.alloc (.cells #[.int .u8 kind] 5)) w.heap.size (.slice (some ⟨w.heap.size, 0, none⟩) 1 1) [kind] := own_ints.2 ⟨rfl, .inr ⟨w.heap.size, 1, #[.int .u8 kind], rfl, Nat.le_refl _, heap_alloc_new _ _, Nat.le_refl _, by decide, rfl, rfl⟩⟩
  have hbw : Below w.heap.size w w1 := (HA.out _).trans (hb1.mono (by simp))
  obtain ⟨q, c1, rfl, hq1, hq2, hq3⟩ := hown1.int_sl (uvar_pos n)
  have hl1 := uvar_len n
  have HQ3 := Lib.hid hq3
  have hs1 := hbw.size
  have HO0 := Lib.hid (hown0.next hb1)
  clear hown1 hq3 hown0 hb1 hq1
  generalize hun : uvar n = un at *
  have HUN := Lib.hid hun
  clear hun
  go_wp2_with (at_builtin; refine wpList_push_rowB (ys := un) rfl _ _ rfl elem_bytes (by decide) (by decide) rfl HO0.out ⟨q, 0, none⟩ un.length c1 rfl rfl ?b1 ?b2 hs1 (Nat.le_refl _) hbw ?_)
  case b1 => exact HQ3.out
  case b2 => simp; omega
  intro v4 w4 hown4 hb4
  have hs4 := hb4.size
  clear HO0 HQ3
  go_wp2_with (at_builtin; refine wpList_push_rowB (ys := bs) rfl _ _ rfl elem_bytes (by decide) (by decide) rfl hown4 ⟨b, o, none⟩ n c rfl ?d0 ?d1 ?d2 hs4 (Nat.le_refl _) hb4 ?_)
  case d0 => omega
  case d1 =>
    intro j u hj
    rw [addr_add, hb4.cell (by simpa using hbS'), ← addr_add]
    exact HBC.out j u hj
  case d2 => simp; omega
  intro v5 w5 hown5 hb5
  have hs5 := hb5.size
  clear hown4 hb4
  have hlh : (kind :: (un ++ bs)).length < 2000000 := by simp; omega
  have HF : Hid (frameB kind bs = (kind :: (un ++ bs)) ++ sumBytes (crc (kind :: (un ++ bs)))) := by
    show _ = _
    have e : n = bs.length := by omega
    rw [← HUN.out, e]
    rfl
  have hpos : kind :: (un ++ bs) ≠ [] := by simp
  have hown5' : Own (Ty.int .u8) 5 w5 w.heap.size v5 (kind :: (un ++ bs)) := by simpa using hown5
  clear hown5
  generalize kind :: (un ++ bs) = hd at *
  obtain ⟨q5, c5, rfl, hq51, hq52, _⟩ := hown5'.int_sl hpos
  obtain ⟨A5, c5', e5, hsl5⟩ := hown5'.sl
  injection e5 with e51 _ e53
  subst e51 e53
  have HCS := Lib.hid (checksumR_any hd _ _ c5 _ w5 hsl5 HHB.out)
  have HO5 := Lib.hid hown5'
  clear hsl5 hown5' hpos
  go_wp2_with fail
  refine HCS.out.mono ?_
  rintro e w6 ⟨rfl, rfl⟩
  clear HCS
  have hx0 := u32_lo (crc hd)
  have hsb : Hid (sumBytes (crc hd) = [u32 (crc hd) / 16777216 % 256, u32 (crc hd) / 65536 % 256, u32 (crc hd) / 256 % 256, u32 (crc hd) % 256]) := rfl
  generalize crc hd = x at *
  go_wp2_with (at_builtin; refine wpList_push_rowB (ys := [u32 x / 16777216 % 256, u32 x / 65536 % 256, u32 x / 256 % 256, u32 x % 256]) rfl _ _ rfl elem_bytes (by decide) (by decide) rfl (HO5.out.alloc _) ⟨w5.heap.size, 0, none⟩ 4 4 rfl rfl ?f1 ?f2 ?f3 (Nat.le_refl _) (hb5.alloc hs5 _) ?_)
  case f1 =>
    intro j u hj
    rw [addr_add]
    rcases j with _ | _ | _ | _ | j
    · simp at hj; subst hj; simp
    · simp at hj; subst hj; simp
    · simp at hj; subst hj; simp
    · simp at hj; subst hj; simp
    · simp at hj
  case f2 => simp; omega
  case f3 => simp; omega
  intro v7 w7 hown7 hb7
  rw [← hsb.out] at hown7
  clear HO5
  go_wp2_with fail
  go_ret2
  exact ⟨_, rfl, HF.out ▸ hown7, hb7⟩
end Go.Proofs.Ytkhedjfdjjeopaa
