/-
  Contract of wire.DecodeText.
  Condition: the bytes are bytes.
-/
import Derived.Test.YtldeoaddogifpaaGreatDoorDecode
namespace Go.Proofs.YtldeoaddogifpaaGreatDoor
set_option linter.unusedSimpArgs false
set_option linter.unusedVariables false
open Go.RowKit

/-- A part of a slice. -/
theorem Sl.sub {α : Type} {t : Ty α} {w : World} {S : Nat → Prop} {b o n c : Nat} {xs : List α} (h : Sl t w S (some ⟨b, o, none⟩) n c xs) (lo k : Nat) (hk : lo + k ≤ n) (b' o' : Nat) (hb : 0 < k → b' = b ∧ o' = o + lo * t.size) : Sl t w S (some ⟨b', o', none⟩) k (c - lo) ((xs.drop lo).take k) := by
  obtain ⟨h1, h2, h3, h4⟩ := h
  refine ⟨by rw [List.length_take, List.length_drop]; omega, by omega, by omega, fun hp => ?_⟩
  obtain ⟨b1, o1, e, hS, hx⟩ := h4 (by omega)
  injection e with e
  injection e with e1 e2
  subst e1 e2
  obtain ⟨rfl, rfl⟩ := hb hp
  refine ⟨_, _, rfl, hS, fun i x hi => ?_⟩
  rw [List.getElem?_take] at hi
  split at hi
  · rw [List.getElem?_drop] at hi
    obtain ⟨cs, hr, ha⟩ := hx _ x hi
    refine ⟨cs, hr, ?_⟩
    rwa [Nat.add_mul, ← Nat.add_assoc] at ha
  · cases hi

set_option maxRecDepth 100000 in
theorem decodeText_any (bs : List Int) (A : Option Addr) (m c : Nat) (S : Nat → Prop) (w : World) (h : Sl (Ty.int .u8) w S A m c bs) (hb : ∀ x ∈ bs, isByte x) :
    Calls Tryz.prog 87 #[.slice A m c] w fun e w' => e = .returned (.tuple #[.string (decT bs).1, .int .i64 (decT bs).2.1, .int .i64 (decT bs).2.2]) ∧ w = w' := by
  have HC := Lib.hid (decodeUint_any bs A m c S w h hb)
  have hok := decU_ok (l := bs) hb
  have hle := h.le
  unfold maxLen at hle
  have hn1 : m ≤ bs.length := Nat.le_of_eq h.len
  have hn2 : bs.length ≤ m := Nat.le_of_eq h.len.symm
  have hmc : m ≤ c := h.2.1
  have hcm := h.2.2.1
  unfold maxLen at hcm
  have HS := Lib.hid h
  have HI : Hid (decT bs = if (decU bs).2.2 ≠ 0 then (⟨#[]⟩, 0, (decU bs).2.2) else
    if 20000 < (decU bs).1 then (⟨#[]⟩, 0, 2) else
      if (bs.length : Int) - ((decU bs).2.1 : Int) < (decU bs).1 then (⟨#[]⟩, 0, 3) else
        (strOf ((bs.drop (decU bs).2.1).take (decU bs).1.toNat), (decU bs).2.1 + (decU bs).1.toNat, 0)) := rfl
  generalize decU bs = d at *
  obtain ⟨u, used, e⟩ := d
  clear h hb
  by_cases he : e = 0
  · obtain ⟨h1, h2, h3, h4, h5⟩ := hok he
    clear hok
    subst he
    simp only at h1 h2 h3 h4 h5
    by_cases hbig : 20000 < u
    · have HR : Hid (decT bs = (⟨#[]⟩, 0, 2)) := by show _ = _; rw [HI.out, if_neg (by simp), if_pos hbig]
      clear HI
      go_enter Tryz.func87, Tryz.ntmps87
      go_wp2_with fail
      refine HC.out.mono ?_
      rintro e w' ⟨rfl, rfl⟩
      go_wp2_with fail
      go_ret3
      exact ⟨by rw [HR.out]; rfl, rfl⟩
    · by_cases hcut : (m : Int) - used < u
      · have HR : Hid (decT bs = (⟨#[]⟩, 0, 3)) := by show _ = _; rw [HI.out, if_neg (by simp), if_neg hbig, if_pos (by simp only; omega)]
        have hu : u ≤ 20000 := by omega
        clear HI hbig
        go_enter Tryz.func87, Tryz.ntmps87
        go_wp2_with fail
        refine HC.out.mono ?_
        rintro e w' ⟨rfl, rfl⟩
        go_wp2_with fail
        go_ret3
        exact ⟨by rw [HR.out]; rfl, rfl⟩
      · obtain ⟨k, rfl⟩ := Int.eq_ofNat_of_zero_le h1
        have HR : Hid (decT bs = (strOf ((bs.drop used).take k), used + k, 0)) := by
          show _ = _
          rw [HI.out, if_neg (by simp), if_neg hbig, if_neg (by simp only; omega)]
          rfl
        obtain ⟨b, o, rfl, hbS, _⟩ := HS.out.int_at (k := 0) (by omega)
        have hu : (k : Int) ≤ 20000 := by omega
        have hu2 : (k : Int) ≤ (m : Int) - used := by omega
        clear HI hbig hcut
        by_cases hcu : c = used
        · have hk0 : k = 0 := by omega
          subst hk0 hcu
          have hcv := run_string_of (P := Tryz.prog) (src := 37) (dst := 9) Tryz.underlying37 Tryz.underlying5 Tryz.underlying9 (HS.out.sub c 0 (by omega) b o (by omega)) (by simp)
          rw [Nat.sub_self] at hcv
          generalize strOf ((bs.drop c).take 0) = r at *
          go_enter Tryz.func87, Tryz.ntmps87
          go_wp2_with fail
          refine HC.out.mono ?_
          rintro e w' ⟨rfl, rfl⟩
          go_wp2_with fail
          go_ret3
          exact ⟨by rw [HR.out]; simp, rfl⟩
        · have hcv := run_string_of (P := Tryz.prog) (src := 37) (dst := 9) Tryz.underlying37 Tryz.underlying5 Tryz.underlying9 (HS.out.sub used k (by omega) b (o + used) (fun _ => ⟨rfl, by simp [Ty.int]⟩)) (by simp)
          generalize strOf ((bs.drop used).take k) = r at *
          go_enter Tryz.func87, Tryz.ntmps87
          go_wp2_with fail
          refine HC.out.mono ?_
          rintro e w' ⟨rfl, rfl⟩
          go_wp2_with fail
          go_ret3
          exact ⟨by rw [HR.out]; simp, rfl⟩
  · have HR : Hid (decT bs = (⟨#[]⟩, 0, e)) := by show _ = _; rw [HI.out, if_pos he]
    have he' : (e != 0) = true := by simpa using he
    clear HI hok he
    go_enter Tryz.func87, Tryz.ntmps87
    go_wp2_with fail
    refine HC.out.mono ?_
    rintro e w' ⟨rfl, rfl⟩
    go_wp2_with fail
    go_ret3
    exact ⟨by rw [HR.out]; rfl, rfl⟩
end Go.Proofs.YtldeoaddogifpaaGreatDoor
