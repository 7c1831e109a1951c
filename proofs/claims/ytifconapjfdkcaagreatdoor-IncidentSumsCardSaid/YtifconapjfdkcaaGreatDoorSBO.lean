/-
  Contracts of text.ParseInt, text.FormatInt and of the references' Digits, plain, ParseInt, FormatInt.
  Condition: the string's length fits an int; the library's table of powers of ten holds what its text lays.
-/
import Derived.Test.YtifconapjfdkcaaGreatDoorSAT
import Derived.Test.YtifconapjfdkcaaGreatDoorSAB
import Derived.Test.YtifconapjfdkcaaGreatDoorSBN
import Derived.Sort.Grow
namespace Go.Proofs.YtifconapjfdkcaaGreatDoor
set_option linter.unusedSimpArgs false
set_option linter.unusedVariables false
open Go.RowKit Go.Sort

theorem trimPrefix_any (s : ByteArray) (w : World) :
    Calls Tryz.prog 134 #[.string s, .string ⟨#[45]⟩] w fun e w' => e = .returned (.string (stripB s)) ∧ w = w' := by
  refine (Tryz.strings_TrimPrefix s ⟨#[45]⟩ w).mono ?_
  rintro e w' ⟨rfl, rfl⟩
  exact ⟨rfl, rfl⟩
def ParsePost (s : ByteArray) (w : World) (e : Ending) (w' : World) : Prop := e = .returned (.tuple #[.int .i64 (parseB s).1, .int .i64 (parseB s).2]) ∧ w = w'

/-- ParseInt behind the sign. -/
def parseD (d : ByteArray) (neg : Prop) [Decidable neg] : Int × Int :=
  if d.size < 1 ∨ 10 < d.size then (0, 1) else
    if byteAt d 0 = 48 ∧ (1 < d.size ∨ neg) then (0, 1) else
      if allTo (digAt d) d.size = false then (0, 1) else (if neg then - numTo d d.size else numTo d d.size, 0)
theorem parseB_D (s : ByteArray) : parseB s = parseD (stripB s) ((stripB s).size < s.size) := rfl

set_option maxHeartbeats 800000 in
theorem parseInt_any (s : ByteArray) (w : World) (hs : s.size ≤ maxLen) : Calls Tryz.prog 100 #[.string s] w (ParsePost s w) := by
  unfold maxLen at hs
  have HP := Lib.hid (parseB_D s)
  have hds : (stripB s).size ≤ s.size := by rw [stripB_size]; split <;> omega
  go_enter Tryz.func100, Tryz.ntmps100
  go_wp2_with fail
  refine (trimPrefix_any s w).mono ?_
  rintro e w' ⟨rfl, rfl⟩
  generalize hd : stripB s = d at *
  clear hd
  by_cases h1 : d.size < 1
  · have HR : Hid (parseB s = (0, 1)) := by rw [HP.out]; show parseD _ _ = _; unfold parseD; rw [if_pos (.inl h1)]
    clear HP
    go_wp2_with fail
    go_ret2
    exact ⟨by rw [HR.out]; rfl, rfl⟩
  by_cases h2 : 10 < d.size
  · have HR : Hid (parseB s = (0, 1)) := by rw [HP.out]; show parseD _ _ = _; unfold parseD; rw [if_pos (.inr h2)]
    clear HP
    go_wp2_with fail
    go_ret2
    exact ⟨by rw [HR.out]; rfl, rfl⟩
  have HB0 := Lib.hid (byteAt_eq d 0 (by omega))
  by_cases h4 : byteAt d 0 = 48 ∧ (1 < d.size ∨ d.size < s.size)
  · have HR : Hid (parseB s = (0, 1)) := by rw [HP.out]; show parseD _ _ = _; unfold parseD; rw [if_neg (by omega), if_pos h4]
    have e0 : ((d[0].toNat : Int) == 48) = true := by rw [HB0.out]; simpa using h4.1
    by_cases h5 : 1 < d.size
    · clear h4 HP
      go_wp2_with fail
      go_ret2
      exact ⟨by rw [HR.out]; rfl, rfl⟩
    · have h6 : d.size < s.size := by omega
      clear h4 HP
      go_wp2_with fail
      go_ret2
      exact ⟨by rw [HR.out]; rfl, rfl⟩
  · have HR : Hid (parseB s = if allTo (digAt d) d.size = false then (0, 1) else (if d.size < s.size then - numTo d d.size else numTo d d.size, 0)) := by
      rw [HP.out]; show parseD _ _ = _; unfold parseD; rw [if_neg (by omega), if_neg h4]
    have hcase : (((d[0].toNat : Int) == 48) = false ∧ d.size < s.size) ∨ (((d[0].toNat : Int) == 48) = false ∧ ¬ d.size < s.size) ∨ (((d[0].toNat : Int) == 48) = true ∧ ¬ d.size < s.size) := by
      rw [HB0.out]
      by_cases h0 : byteAt d 0 = 48
      · right; right; exact ⟨by simpa using h0, by omega⟩
      · by_cases h6 : d.size < s.size
        · left; exact ⟨by simpa using h0, h6⟩
        · right; left; exact ⟨by simpa using h0, h6⟩
    have hle1 : byteAt d 0 = 48 → ¬ 1 < d.size := fun h => by omega
    have h5 : ((d[0].toNat : Int) == 48) = true → ¬ 1 < d.size := fun h => hle1 (by rw [← HB0.out]; simpa using h)
    clear h4 HP hle1
    rcases hcase with ⟨e0, hneg⟩ | ⟨e0, hneg⟩ | ⟨e0, hneg⟩
    case' inr.inr => have h7 := h5 e0
    all_goals
      clear h5
      go_wp2_with fail
      clear e0
      go_loop [2, 3, 6, 7, 36] (fun _ _ n _ i => ∃ k : Nat, k ≤ d.size ∧ n = .int .i64 (numTo d k) ∧ i = .int .i64 k ∧ Hid (allTo (digAt d) k = true)) (fun _ _ _ _ i => d.size - (intOf i).toNat)
      case atStart => exact ⟨0, by omega, rfl, rfl, rfl⟩
      case round =>
        obtain ⟨k, hk, rfl, rfl, HA⟩ := hrel
        obtain ⟨hn1, hn2⟩ := numTo_bd d k HA.out
        have hb : bnd k ≤ 9999999999 := bnd_mono (k := 10) (by omega)
        by_cases hlt : k < d.size
        · have HB := Lib.hid (byteAt_eq d k hlt)
          have hb1 := byteAt_lo d k
          have hb2 := byteAt_hi d k
          by_cases hdg : digAt d k = true
          · have hdd := hdg
            unfold digAt numberI at hdd
            simp only [Bool.and_eq_true, decide_eq_true_eq] at hdd
            have l1 : 48 ≤ (d[k].toNat : Int) := by rw [HB.out]; exact hdd.1
            have l2 : (d[k].toNat : Int) ≤ 57 := by rw [HB.out]; exact hdd.2
            have HA2 : Hid (allTo (digAt d) (k + 1) = true) := by show allTo _ _ = true; rw [allTo_succ, HA.out, hdg]; rfl
            have HN : Hid (numTo d (k + 1) = 10 * numTo d k + ((d[k].toNat : Int) - 48)) := by show _ = _; rw [HB.out]; rfl
            clear hdd hdg HA
            go_wp2_with fail
            go_round
            case rel => exact ⟨k + 1, by omega, by rw [HN.out], by go_num, HA2⟩
            case measure => simp [intOf]; omega
          · have hdd : digAt d k = false := by simpa using hdg
            have HF := Lib.hid (allTo_false hlt hdd)
            unfold digAt numberI at hdd
            rw [← HB.out] at hdd
            have HD := Lib.hid hdd
            clear hdd hdg
            go_wp2_with fail
            all_goals have HD2 := HD.out
            all_goals first
              | (exfalso; simp at HD2; omega)
              | (go_ret2; exact ⟨by rw [HR.out, if_pos HF.out]; rfl, rfl⟩)
        · have hkk : k = d.size := by omega
          subst hkk
          have HT := Lib.hid HA.out
          first
          | (have HR2 : Hid (parseB s = (- numTo d d.size, 0)) := by rw [HR.out, if_neg (by rw [HA.out]; decide), if_pos hneg]; rfl
             go_wp2_with fail
             go_ret2
             exact ⟨by rw [HR2.out]; rfl, rfl⟩)
          | (have HR2 : Hid (parseB s = (numTo d d.size, 0)) := by rw [HR.out, if_neg (by rw [HA.out]; decide), if_neg hneg]; rfl
             go_wp2_with fail
             go_ret2
             exact ⟨by rw [HR2.out]; rfl, rfl⟩)

theorem grow_below (w : World) (k : Nat) (os : Array Obj) : Below w.heap.size w (grow (w.drewN k) os) := by
  refine ⟨rfl, rfl, rfl, ?_, fun i hi => ?_⟩
  · simp only [grow, World.heap_drewN, Array.size_append]; omega
  · simp only [grow, World.heap_drewN]
    rw [Array.getElem?_append, if_pos hi]
/-- The library's table of powers of ten holds what its text lays. -/
def Pow10 (w : World) : Prop := Lib.TabIs Tryz.prog w "internal/strconv.uint64pow10" .u64 Lib.pow10Tab ∧ 1 < w.heap.size
theorem Pow10.next {w w' : World} (h : Pow10 w) (hb : Below w.heap.size w w') : Pow10 w' :=
  ⟨var?_below hb (by kernel_rfl) h.2 h.1, Nat.lt_of_lt_of_le h.2 hb.size⟩
def fmtB (n : Int) : ByteArray := bs (Lib.itoa n)
theorem itoa_any (n : Int) (w : World) (h0 : -9223372036854775808 ≤ n) (h1 : n ≤ 9223372036854775807) (hp : Pow10 w) :
    Calls Tryz.prog 93 #[.int .i64 n] w fun e w' => e = .returned (.string (fmtB n)) ∧ Below w.heap.size w w' := by
  refine (Tryz.strconv_Itoa n h0 h1 w hp.1).mono ?_
  rintro e w' ⟨rfl, k, os, rfl⟩
  exact ⟨rfl, grow_below w k os⟩
theorem formatInt_any (n : Int) (w : World) (h0 : -9223372036854775808 ≤ n) (h1 : n ≤ 9223372036854775807) (hp : Pow10 w) :
    Calls Tryz.prog 55 #[.int .i64 n] w fun e w' => e = .returned (.string (fmtB n)) ∧ Below w.heap.size w w' := by
  go_enter Tryz.func55, Tryz.ntmps55
  go_wp2_with fail
  refine (itoa_any n w h0 h1 hp).mono ?_
  rintro e w' ⟨rfl, hb⟩
  go_wp2_with fail
  go_ret
  exact ⟨rfl, hb⟩
end Go.Proofs.YtifconapjfdkcaaGreatDoor
