/-
  Contracts of wire.DecodeUint, DecodeInt, DecodeText.
  Condition: the bytes are bytes.
-/
import Derived.Test.YtldeoaddogifpaaGreatDoorDecBits
import Derived.Test.YtldeoaddogifpaaGreatDoorWriter
namespace Go.Proofs.YtldeoaddogifpaaGreatDoor
set_option linter.unusedSimpArgs false
set_option linter.unusedVariables false
open Go.RowKit

set_option maxRecDepth 100000 in
theorem decodeUint_any (bs : List Int) (A : Option Addr) (m c : Nat) (S : Nat → Prop) (w : World) (h : Sl (Ty.int .u8) w S A m c bs) (hb : ∀ x ∈ bs, isByte x) :
    Calls Tryz.prog 82 #[.slice A m c] w fun e w' => e = .returned (.tuple #[.int .i64 (decU bs).1, .int .i64 (decU bs).2.1, .int .i64 (decU bs).2.2]) ∧ w = w' := by
  have hle := h.le
  unfold maxLen at hle
  have hn1 : m ≤ bs.length := Nat.le_of_eq h.len
  have hn2 : bs.length ≤ m := Nat.le_of_eq h.len.symm
  have H := Lib.hid h
  have HB := Lib.hid hb
  clear h hb
  go_enter Tryz.func82, Tryz.ntmps82
  go_wp2_with fail
  go_loop [2, 5, 6] (fun nv _ i => ∃ (k : Nat) (n : Int), k ≤ 9 ∧ k ≤ m ∧ i = .int .i64 k ∧ nv = .int .i64 n ∧ Hid (decU bs = decF (9 - k) k n (bs.drop k)) ∧ 0 ≤ n ∧ Hid (n < 128 ^ k)) (fun _ _ i => 9 - (intOf i).toNat)
  case atStart => exact ⟨0, 0, by omega, by omega, rfl, rfl, rfl, by omega, by show _ < _; decide⟩
  case round =>
    obtain ⟨k, n, hk, hkm, rfl, rfl, HD, hn0, HN⟩ := hrel
    by_cases hlt : k < 9
    · by_cases hm : k < m
      · have hkl : k < bs.length := by omega
        obtain ⟨b, o, rfl, hbS, hcell⟩ := H.out.int_at hkl
        have hby := HB.out bs[k] (List.getElem_mem hkl)
        have HDR : Hid (decF (9 - k) k n (bs.drop k) = if 128 ≤ bs[k] then decF (9 - (k + 1)) (k + 1) (n + bs[k] % 128 * 128 ^ k) (bs.drop (k + 1))
            else if (bs[k] = 0 ∧ 0 < k) ∨ 4611686018427387904 < n + bs[k] % 128 * 128 ^ k then (0, 0, 2) else (n + bs[k] % 128 * 128 ^ k, k + 1, 0)) := by
          show _ = _
          rw [List.drop_eq_getElem_cons hkl, show 9 - k = (9 - (k + 1)) + 1 by omega, decF]
        generalize bs[k] = y at *
        have HV := Lib.hid (or_step hlt hn0 HN.out hby)
        have HX0 : Hid (0 ≤ y % 128 * 128 ^ k ∧ n + y % 128 * 128 ^ k < 128 ^ (k + 1)) := by
          have hp := pow128_pos k
          have h1 : y % 128 * 128 ^ k ≤ 127 * 128 ^ k := Int.mul_le_mul_of_nonneg_right (by omega) (by omega)
          have h2 := HN.out
          refine ⟨Int.mul_nonneg (by omega) (by omega), ?_⟩
          rw [Int.pow_succ]
          omega
        have hx0 : 0 ≤ n + y % 128 * 128 ^ k := by have := HX0.out.1; omega
        have HX1 : Hid (n + y % 128 * 128 ^ k < 128 ^ (k + 1)) := HX0.out.2
        have HA := Lib.hid (and128 hby)
        by_cases h128 : 128 ≤ y
        · have hb1 : (bits .and .u8 y 128 != 0) = true := by rw [HA.out]; simpa using h128
          have HR : Hid (decU bs = decF (9 - (k + 1)) (k + 1) (n + y % 128 * 128 ^ k) (bs.drop (k + 1))) := by
            show _ = _
            rw [HD.out, HDR.out, if_pos h128]
          clear HDR HD HX0
          generalize n + y % 128 * 128 ^ k = x at *
          have hv : bits .or .i64 n (wrap64 (wrap64 (bits .and .u8 y 127) * 2 ^ (7 * k))) = x := HV.out
          go_wp2_with fail
          go_round
          case rel => exact ⟨k + 1, x, by omega, by omega, by go_num, rfl, HR, hx0, HX1⟩
          case measure => simp [intOf]; omega
        · have hb1 : (bits .and .u8 y 128 != 0) = false := by rw [HA.out]; simpa using h128
          rw [if_neg h128] at HDR
          clear HX0 HX1
          by_cases hy0 : y = 0
          · subst hy0
            rcases Nat.eq_zero_or_pos k with rfl | hkp
            · have hn1' : n = 0 := by have := HN.out; simp at this; omega
              subst hn1'
              have HR : Hid (decU bs = (0, 1, 0)) := by
                show _ = _
                rw [HD.out, HDR.out]
                decide
              have hv : bits .or .i64 0 (wrap64 (wrap64 (bits .and .u8 0 127))) = 0 := by
                have h9 := HV.out
                simp only [Nat.mul_zero, Int.pow_zero, Int.mul_one] at h9
                exact h9.trans (by decide)
              clear HDR HD HV HA hb1 hx0 HN
              rw [Nat.add_zero] at hcell
              have hb1 : (bits .and .u8 0 128 != 0) = false := by decide
              go_wp2_with fail
              go_ret3
              exact ⟨by rw [HR.out]; rfl, rfl⟩
            · have HR : Hid (decU bs = (0, 0, 2)) := by
                show _ = _
                rw [HD.out, HDR.out, if_pos (.inl ⟨rfl, hkp⟩)]
              clear HDR HD HV HA hb1 hx0
              have hb1 : (bits .and .u8 0 128 != 0) = false := by decide
              go_wp2_with fail
              go_ret3
              exact ⟨by rw [HR.out]; rfl, rfl⟩
          generalize n + y % 128 * 128 ^ k = x at *
          · have hy0' : (y == 0) = false := by simpa using hy0
            have hv : bits .or .i64 n (wrap64 (wrap64 (bits .and .u8 y 127) * 2 ^ (7 * k))) = x := HV.out
            by_cases hbig : 4611686018427387904 < x
            · have HR : Hid (decU bs = (0, 0, 2)) := by
                show _ = _
                rw [HD.out, HDR.out, if_pos (.inr hbig)]
              clear HDR HD hy0
              go_wp2_with fail
              go_ret3
              exact ⟨by rw [HR.out]; rfl, rfl⟩
            · have HR : Hid (decU bs = (x, k + 1, 0)) := by
                show _ = _
                rw [HD.out, HDR.out, if_neg (by rintro (h | h); exact hy0 h.1; exact hbig h)]
              clear HDR HD hy0
              have hsm : x ≤ 4611686018427387904 := by omega
              clear hbig
              go_wp2_with fail
              go_ret3
              exact ⟨by rw [HR.out]; rfl, rfl⟩
      · have HR : Hid (decU bs = (0, 0, 3)) := by
          show _ = _
          rw [HD.out, List.drop_of_length_le (by omega), show 9 - k = (9 - (k + 1)) + 1 by omega, decF]
        go_wp2_with fail
        go_ret3
        exact ⟨by rw [HR.out]; rfl, rfl⟩
    · have hk9 : k = 9 := by omega
      have HR : Hid (decU bs = (0, 0, 2)) := by
        show _ = _
        rw [HD.out, show 9 - k = 0 by omega, decF]
      clear HD HN
      go_wp2_with fail
      go_ret3
      exact ⟨by rw [HR.out]; rfl, rfl⟩

theorem decodeInt_any (bs : List Int) (A : Option Addr) (m c : Nat) (S : Nat → Prop) (w : World) (h : Sl (Ty.int .u8) w S A m c bs) (hb : ∀ x ∈ bs, isByte x) :
    Calls Tryz.prog 124 #[.slice A m c] w fun e w' => e = .returned (.tuple #[.int .i64 (decI bs).1, .int .i64 (decI bs).2.1, .int .i64 (decI bs).2.2]) ∧ w = w' := by
  have HC := Lib.hid (decodeUint_any bs A m c S w h hb)
  have hok := decU_ok (l := bs) hb
  have HI : Hid (decI bs = if (decU bs).2.2 = 0 then (unzig (decU bs).1, (decU bs).2.1, 0) else (0, 0, (decU bs).2.2)) := rfl
  generalize decU bs = d at *
  obtain ⟨u, used, e⟩ := d
  clear h hb
  by_cases he : e = 0
  · have hok' := hok he
    obtain ⟨h1, h2, h3, h4, h5⟩ := hok'
    clear hok
    subst he
    simp only at h1 h2
    by_cases hz : u % 2 = 0
    · have HR : Hid (decI bs = (u / 2, used, 0)) := by show _ = _; rw [HI.out, if_pos rfl]; unfold unzig; rw [if_pos hz]
      have hz' : (u % 2 != 0) = false := by simpa using hz
      clear HI hz
      go_enter Tryz.func124, Tryz.ntmps124
      go_wp2_with fail
      refine HC.out.mono ?_
      rintro e w' ⟨rfl, rfl⟩
      go_wp2_with fail
      go_ret3
      exact ⟨by rw [HR.out]; rfl, rfl⟩
    · have HR : Hid (decI bs = (-(u / 2 + 1), used, 0)) := by show _ = _; rw [HI.out, if_pos rfl]; unfold unzig; rw [if_neg hz]
      have hz' : (u % 2 != 0) = true := by simpa using hz
      clear HI hz
      go_enter Tryz.func124, Tryz.ntmps124
      go_wp2_with fail
      refine HC.out.mono ?_
      rintro e w' ⟨rfl, rfl⟩
      go_wp2_with fail
      go_ret3
      exact ⟨by rw [HR.out]; rfl, rfl⟩
  · have HR : Hid (decI bs = (0, 0, e)) := by show _ = _; rw [HI.out, if_neg he]
    have he' : (e != 0) = true := by simpa using he
    clear HI hok he
    go_enter Tryz.func124, Tryz.ntmps124
    go_wp2_with fail
    refine HC.out.mono ?_
    rintro e w' ⟨rfl, rfl⟩
    go_wp2_with fail
    go_ret3
    exact ⟨by rw [HR.out]; rfl, rfl⟩
end Go.Proofs.YtldeoaddogifpaaGreatDoor
