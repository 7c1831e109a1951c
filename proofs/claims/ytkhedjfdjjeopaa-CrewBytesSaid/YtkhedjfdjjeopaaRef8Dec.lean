/-
  Contracts of the reference's DecodeUint, DecodeInt, DecodeText (package pairingref8).
  Condition: the bytes are bytes.
-/
import Derived.Test.YtkhedjfdjjeopaaDecText
namespace Go.Proofs.Ytkhedjfdjjeopaa
set_option linter.unusedSimpArgs false
set_option linter.unusedVariables false
open Go.RowKit

theorem gt127 {y : Int} (h : isByte y) : decide (127 < y) = decide (128 ≤ y) := by
  rw [Bool.eq_iff_iff, decide_eq_true_eq, decide_eq_true_eq]
  omega
theorem or_addU (k a c : Nat) (hk : k < 9) (ha : a < 2 ^ (7 * k)) (hc : c < 128) : bits .or .u64 (a : Int) ((c * 2 ^ (7 * k) : Nat) : Int) = ((a + c * 2 ^ (7 * k) : Nat) : Int) := by
  have hp : (2 : Nat) ^ (7 * k) ≤ 2 ^ 56 := Nat.pow_le_pow_right (by decide) (by omega)
  have e56 : (2 : Nat) ^ 56 = 72057594037927936 := by decide
  have hm : c * 2 ^ (7 * k) ≤ 127 * 2 ^ (7 * k) := Nat.mul_le_mul_right _ (by omega)
  have e := Nat.two_pow_add_eq_or_of_lt ha c
  show IntKind.u64.wrap ((BitVec.ofInt 64 (a : Int) ||| BitVec.ofInt 64 ((c * 2 ^ (7 * k) : Nat) : Int)).toNat : Int) = _
  rw [BitVec.toNat_or, ofInt64_nat _ (by omega), ofInt64_nat _ (by omega), Nat.or_comm, Nat.mul_comm c, ← e]
  have hm' : 2 ^ (7 * k) * c ≤ 127 * 72057594037927936 := by rw [Nat.mul_comm]; omega
  have ha' : a < 72057594037927936 := by omega
  clear e hm hp ha
  generalize 2 ^ (7 * k) * c = d at *
  unfold IntKind.wrap
  simp [IntKind.bits, IntKind.signed]
  omega
theorem u64_in {n : Int} (h0 : 0 ≤ n) (h1 : n < 18446744073709551616) : IntKind.u64.wrap n = n := by
  unfold IntKind.wrap
  simp [IntKind.bits, IntKind.signed]
  omega
theorem or_stepU {k : Nat} {n y : Int} (hk : k < 9) (hn : 0 ≤ n) (hn2 : n < 128 ^ k) (hy : isByte y) : bits .or .u64 n (IntKind.u64.wrap (IntKind.u64.wrap (bits .and .u8 y 127) * 2 ^ (7 * k))) = n + y % 128 * 128 ^ k := by
  have e2 : (128 : Int) ^ k = 2 ^ (7 * k) := by rw [Int.pow_mul, show (2 : Int) ^ 7 = 128 by decide]
  rw [and127 hy, e2]
  rw [e2] at hn2
  have h1 : IntKind.u64.wrap (y % 128) = y % 128 := u64_in (by omega) (by omega)
  rw [h1]
  obtain ⟨a, rfl⟩ := Int.eq_ofNat_of_zero_le hn
  obtain ⟨c, hc⟩ := Int.eq_ofNat_of_zero_le (show 0 ≤ y % 128 by omega)
  rw [hc]
  have hc2 : c < 128 := by omega
  have e3 : (c : Int) * 2 ^ (7 * k) = ((c * 2 ^ (7 * k) : Nat) : Int) := by simp
  have ha : a < 2 ^ (7 * k) := by
    have : ((a : Nat) : Int) < ((2 ^ (7 * k) : Nat) : Int) := by simpa using hn2
    omega
  have hp : (2 : Nat) ^ (7 * k) ≤ 2 ^ 56 := Nat.pow_le_pow_right (by decide) (by omega)
  have e56 : (2 : Nat) ^ 56 = 72057594037927936 := by decide
  have hm : c * 2 ^ (7 * k) ≤ 127 * 2 ^ (7 * k) := Nat.mul_le_mul_right _ (by omega)
  rw [e3]
  have h2 : IntKind.u64.wrap ((c * 2 ^ (7 * k) : Nat) : Int) = ((c * 2 ^ (7 * k) : Nat) : Int) := u64_in (by omega) (by omega)
  rw [h2, or_addU k a c hk ha hc2]
  omega
set_option maxRecDepth 100000 in
theorem decodeUintR_any (bs : List Int) (A : Option Addr) (m c : Nat) (S : Nat → Prop) (w : World) (h : Sl (Ty.int .u8) w S A m c bs) (hb : ∀ x ∈ bs, isByte x) :
    Calls Try.prog 66 #[.slice A m c] w fun e w' => e = .returned (.tuple #[.int .i64 (decU bs).1, .int .i64 (decU bs).2.1, .int .i64 (decU bs).2.2]) ∧ w = w' := by
  have hle := h.le
  unfold maxLen at hle
  have hn1 : m ≤ bs.length := Nat.le_of_eq h.len
  have hn2 : bs.length ≤ m := Nat.le_of_eq h.len.symm
  have H := Lib.hid h
  have HB := Lib.hid hb
  clear h hb
  go_enter Try.func66, Try.ntmps66
  go_wp2_with fail
  go_loop [5, 6] (fun nv i => ∃ (k : Nat) (n : Int), k ≤ 8 ∧ k ≤ m ∧ i = .int .i64 k ∧ nv = .int .u64 n ∧ Hid (decU bs = decF (9 - k) k n (bs.drop k)) ∧ 0 ≤ n ∧ Hid (n < 128 ^ k)) (fun _ i => 9 - (intOf i).toNat)
  case atStart => exact ⟨0, 0, by omega, by omega, rfl, rfl, rfl, by omega, by show _ < _; decide⟩
  case round =>
    obtain ⟨k, n, hk, hkm, rfl, rfl, HD, hn0, HN⟩ := hrel
    by_cases hm : k < m
    · have hkl : k < bs.length := by omega
      obtain ⟨b, o, rfl, hbS, hcell⟩ := H.out.int_at hkl
      have hby := HB.out bs[k] (List.getElem_mem hkl)
      have HDR : Hid (decF (9 - k) k n (bs.drop k) = if 128 ≤ bs[k] then decF (9 - (k + 1)) (k + 1) (n + bs[k] % 128 * 128 ^ k) (bs.drop (k + 1))
          else if (bs[k] = 0 ∧ 0 < k) ∨ 4611686018427387904 < n + bs[k] % 128 * 128 ^ k then (0, 0, 2) else (n + bs[k] % 128 * 128 ^ k, k + 1, 0)) := by
        show _ = _
        rw [List.drop_eq_getElem_cons hkl, show 9 - k = (9 - (k + 1)) + 1 by omega, decF]
      generalize bs[k] = y at *
      have hlt : k < 9 := by omega
      have HV := Lib.hid (or_stepU hlt hn0 HN.out hby)
      have HX0 : Hid (0 ≤ y % 128 * 128 ^ k ∧ n + y % 128 * 128 ^ k < 128 ^ (k + 1)) := by
        have hp := pow128_pos k
        have h1 : y % 128 * 128 ^ k ≤ 127 * 128 ^ k := Int.mul_le_mul_of_nonneg_right (by omega) (by omega)
        have h2 := HN.out
        refine ⟨Int.mul_nonneg (by omega) (by omega), ?_⟩
        rw [Int.pow_succ]
        omega
      have hx0 : 0 ≤ n + y % 128 * 128 ^ k := by have := HX0.out.1; omega
      have HX1 : Hid (n + y % 128 * 128 ^ k < 128 ^ (k + 1)) := HX0.out.2
      by_cases h128 : 128 ≤ y
      · have hy127 : 127 < y := by omega
        by_cases hk8 : k = 8
        · have HR : Hid (decU bs = (0, 0, 2)) := by
            show _ = _
            rw [HD.out, HDR.out, if_pos h128, hk8]
            rfl
          have hk8' : ((k : Int) == 8) = true := by simp; omega
          clear HDR HD HX0 hk8 HV HX1 hx0 HN
          go_wp2_with fail
          go_ret3
          exact ⟨by rw [HR.out]; rfl, rfl⟩
        · have HR : Hid (decU bs = decF (9 - (k + 1)) (k + 1) (n + y % 128 * 128 ^ k) (bs.drop (k + 1))) := by
            show _ = _
            rw [HD.out, HDR.out, if_pos h128]
          have hk8' : ((k : Int) == 8) = false := by simp; omega
          clear HDR HD HX0
          generalize n + y % 128 * 128 ^ k = x at *
          have hv : bits .or .u64 n (IntKind.u64.wrap (IntKind.u64.wrap (bits .and .u8 y 127) * 2 ^ (7 * k))) = x := HV.out
          go_wp2_with fail
          go_round
          case rel => exact ⟨k + 1, x, by omega, by omega, by go_num, rfl, HR, hx0, HX1⟩
          case measure => simp [intOf]; omega
      · have hy127 : y ≤ 127 := by omega
        rw [if_neg h128] at HDR
        clear HX0 HX1 h128
        by_cases hy0 : y = 0
        · subst hy0
          rcases Nat.eq_zero_or_pos k with rfl | hkp
          · have hn1' : n = 0 := by have := HN.out; simp at this; omega
            subst hn1'
            have HR : Hid (decU bs = (0, 1, 0)) := by
              show _ = _
              rw [HD.out, HDR.out]
              decide
            have hv : bits .or .u64 0 (IntKind.u64.wrap (IntKind.u64.wrap (bits .and .u8 0 127))) = 0 := by decide
            clear HDR HD HV hx0 HN
            rw [Nat.add_zero] at hcell
            go_wp2_with fail
            go_ret3
            exact ⟨by rw [HR.out]; rfl, rfl⟩
          · have HR : Hid (decU bs = (0, 0, 2)) := by
              show _ = _
              rw [HD.out, HDR.out, if_pos (.inl ⟨rfl, hkp⟩)]
            have hk0 : ¬ k = 0 := by omega
            clear HDR HD HV hx0
            go_wp2_with fail
            go_ret3
            exact ⟨by rw [HR.out]; rfl, rfl⟩
        generalize n + y % 128 * 128 ^ k = x at *
        · have hy0' : (y == 0) = false := by simpa using hy0
          have hv : bits .or .u64 n (IntKind.u64.wrap (IntKind.u64.wrap (bits .and .u8 y 127) * 2 ^ (7 * k))) = x := HV.out
          by_cases hbig : 4611686018427387904 < x
          · have HR : Hid (decU bs = (0, 0, 2)) := by
              show _ = _
              rw [HD.out, HDR.out, if_pos (.inr hbig)]
            clear HDR HD hy0
            go_wp2_with fail
            go_ret3
            exact ⟨by rw [HR.out]; rfl, rfl⟩
          · have HR : Hid (decU bs = (x, k + 1, 0)) := by
              show _ = _
              rw [HD.out, HDR.out, if_neg (by rintro (h | h); exact hy0 h.1; exact hbig h)]
            clear HDR HD hy0
            have hsm : x ≤ 4611686018427387904 := by omega
            have hwx : IntKind.i64.wrap x = x := IntWalk.i64_in _ (by omega)
            clear hbig
            go_wp2_with fail
            go_ret3
            exact ⟨by rw [HR.out]; rfl, rfl⟩
    · have HR : Hid (decU bs = (0, 0, 3)) := by
        show _ = _
        rw [HD.out, List.drop_of_length_le (by omega), show 9 - k = (9 - (k + 1)) + 1 by omega, decF]
      go_wp2_with fail
      go_ret3
      exact ⟨by rw [HR.out]; rfl, rfl⟩

set_option maxRecDepth 100000 in
theorem decodeTextR_any (bs : List Int) (A : Option Addr) (m c : Nat) (S : Nat → Prop) (w : World) (h : Sl (Ty.int .u8) w S A m c bs) (hb : ∀ x ∈ bs, isByte x) :
    Calls Try.prog 67 #[.slice A m c] w fun e w' => e = .returned (.tuple #[.string (decT bs).1, .int .i64 (decT bs).2.1, .int .i64 (decT bs).2.2]) ∧ w = w' := by
  have HC := Lib.hid (decodeUintR_any bs A m c S w h hb)
  have hok := decU_ok (l := bs) hb
  have hle := h.le
  unfold maxLen at hle
  have hn1 : m ≤ bs.length := Nat.le_of_eq h.len
  have hn2 : bs.length ≤ m := Nat.le_of_eq h.len.symm
  have hmc : m ≤ c := h.2.1
  have hcm := h.2.2.1
  unfold maxLen at hcm
  have HS := Lib.hid h
  have HI : Hid (decT bs = if (decU bs).2.2 ≠ 0 then (⟨#[]⟩, 0, (decU bs).2.2) else
    if 20000 < (decU bs).1 then (⟨#[]⟩, 0, 2) else
      if (bs.length : Int) - ((decU bs).2.1 : Int) < (decU bs).1 then (⟨#[]⟩, 0, 3) else
        (strOf ((bs.drop (decU bs).2.1).take (decU bs).1.toNat), (decU bs).2.1 + (decU bs).1.toNat, 0)) := rfl
  generalize decU bs = d at *
  obtain ⟨u, used, e⟩ := d
  clear h hb
  by_cases he : e = 0
  · obtain ⟨h1, h2, h3, h4, h5⟩ := hok he
    clear hok
    subst he
    simp only at h1 h2 h3 h4 h5
    by_cases hbig : 20000 < u
    · have HR : Hid (decT bs = (⟨#[]⟩, 0, 2)) := by show _ = _; rw [HI.out, if_neg (by simp), if_pos hbig]
      clear HI
      go_enter Try.func67, Try.ntmps67
      go_wp2_with fail
      refine HC.out.mono ?_
      rintro e w' ⟨rfl, rfl⟩
      go_wp2_with fail
      go_ret3
      exact ⟨by rw [HR.out]; rfl, rfl⟩
    · by_cases hcut : (m : Int) - used < u
      · have HR : Hid (decT bs = (⟨#[]⟩, 0, 3)) := by show _ = _; rw [HI.out, if_neg (by simp), if_neg hbig, if_pos (by simp only; omega)]
        have hu : u ≤ 20000 := by omega
        clear HI hbig
        go_enter Try.func67, Try.ntmps67
        go_wp2_with fail
        refine HC.out.mono ?_
        rintro e w' ⟨rfl, rfl⟩
        go_wp2_with fail
        go_ret3
        exact ⟨by rw [HR.out]; rfl, rfl⟩
      · obtain ⟨k, rfl⟩ := Int.eq_ofNat_of_zero_le h1
        have HR : Hid (decT bs = (strOf ((bs.drop used).take k), used + k, 0)) := by
          show _ = _
          rw [HI.out, if_neg (by simp), if_neg hbig, if_neg (by simp only; omega)]
          rfl
        obtain ⟨b, o, rfl, hbS, _⟩ := HS.out.int_at (k := 0) (by omega)
        have hu : (k : Int) ≤ 20000 := by omega
        have hu2 : (k : Int) ≤ (m : Int) - used := by omega
        clear HI hbig hcut
        by_cases hcu : c = used
        · have hk0 : k = 0 := by omega
          subst hk0 hcu
          have hcv := run_string_of (P := Try.prog) (src := 45) (dst := 9) Try.underlying45 Try.underlying5 Try.underlying9 (HS.out.sub c 0 (by omega) b o (by omega)) (by simp)
          rw [Nat.sub_self] at hcv
          generalize strOf ((bs.drop c).take 0) = r at *
          go_enter Try.func67, Try.ntmps67
          go_wp2_with fail
          refine HC.out.mono ?_
          rintro e w' ⟨rfl, rfl⟩
          go_wp2_with fail
          go_ret3
          exact ⟨by rw [HR.out]; simp, rfl⟩
        · have hcv := run_string_of (P := Try.prog) (src := 45) (dst := 9) Try.underlying45 Try.underlying5 Try.underlying9 (HS.out.sub used k (by omega) b (o + used) (fun _ => ⟨rfl, by simp [Ty.int]⟩)) (by simp)
          generalize strOf ((bs.drop used).take k) = r at *
          go_enter Try.func67, Try.ntmps67
          go_wp2_with fail
          refine HC.out.mono ?_
          rintro e w' ⟨rfl, rfl⟩
          go_wp2_with fail
          go_ret3
          exact ⟨by rw [HR.out]; simp, rfl⟩
  · have HR : Hid (decT bs = (⟨#[]⟩, 0, e)) := by show _ = _; rw [HI.out, if_pos he]
    have he' : (e != 0) = true := by simpa using he
    clear HI hok he
    go_enter Try.func67, Try.ntmps67
    go_wp2_with fail
    refine HC.out.mono ?_
    rintro e w' ⟨rfl, rfl⟩
    go_wp2_with fail
    go_ret3
    exact ⟨by rw [HR.out]; rfl, rfl⟩
end Go.Proofs.Ytkhedjfdjjeopaa
