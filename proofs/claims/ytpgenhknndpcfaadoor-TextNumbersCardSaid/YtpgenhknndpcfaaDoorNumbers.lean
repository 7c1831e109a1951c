/-
  Contracts of text.ParseInt, text.FormatInt and of the references' Digits, plain, ParseInt, FormatInt.
  Condition: the string's length fits an int; the library's table of powers of ten holds what its text lays.
-/
import Derived.Test.YtpgenhknndpcfaaDoorNumPlain
import Derived.Test.YtpgenhknndpcfaaDoorNamesRef
import Derived.Test.YtpgenhknndpcfaaDoorFields
import Derived.Sort.Grow
namespace Go.Proofs.YtpgenhknndpcfaaDoor
set_option linter.unusedSimpArgs false
set_option linter.unusedVariables false
open Go.RowKit Go.Sort

theorem trimPrefix_any (s : ByteArray) (w : World) :
    Calls Tryd.prog 32 #[.string s, .string ⟨#[45]⟩] w fun e w' => e = .returned (.string (stripB s)) ∧ w = w' := by
  refine (Tryd.strings_TrimPrefix s ⟨#[45]⟩ w).mono ?_
  rintro e w' ⟨rfl, rfl⟩
  exact ⟨rfl, rfl⟩
def ParsePost (s : ByteArray) (w : World) (e : Ending) (w' : World) : Prop := e = .returned (.tuple #[.int .i64 (parseB s).1, .int .i64 (parseB s).2]) ∧ w = w'

/-- ParseInt behind the sign. -/
def parseD (d : ByteArray) (neg : Prop) [Decidable neg] : Int × Int :=
  if d.size < 1 ∨ 10 < d.size then (0, 1) else
    if byteAt d 0 = 48 ∧ (1 < d.size ∨ neg) then (0, 1) else
      if allTo (digAt d) d.size = false then (0, 1) else (if neg then - numTo d d.size else numTo d d.size, 0)
theorem parseB_D (s : ByteArray) : parseB s = parseD (stripB s) ((stripB s).size < s.size) := rfl

set_option maxHeartbeats 800000 in
theorem parseInt_any (s : ByteArray) (w : World) (hs : s.size ≤ maxLen) : Calls Tryd.prog 22 #[.string s] w (ParsePost s w) := by
  unfold maxLen at hs
  have HP := Lib.hid (parseB_D s)
  have hds : (stripB s).size ≤ s.size := by rw [stripB_size]; split <;> omega
  go_enter Tryd.func22, Tryd.ntmps22
  go_wp2_with fail
  refine (trimPrefix_any s w).mono ?_
  rintro e w' ⟨rfl, rfl⟩
  generalize hd : stripB s = d at *
  clear hd
  by_cases h1 : d.size < 1
  · have HR : Hid (parseB s = (0, 1)) := by rw [HP.out]; show parseD _ _ = _; unfold parseD; rw [if_pos (.inl h1)]
    clear HP
    go_wp2_with fail
    go_ret2
    exact ⟨by rw [HR.out]; rfl, rfl⟩
  by_cases h2 : 10 < d.size
  · have HR : Hid (parseB s = (0, 1)) := by rw [HP.out]; show parseD _ _ = _; unfold parseD; rw [if_pos (.inr h2)]
    clear HP
    go_wp2_with fail
    go_ret2
    exact ⟨by rw [HR.out]; rfl, rfl⟩
  have HB0 := Lib.hid (byteAt_eq d 0 (by omega))
  by_cases h4 : byteAt d 0 = 48 ∧ (1 < d.size ∨ d.size < s.size)
  · have HR : Hid (parseB s = (0, 1)) := by rw [HP.out]; show parseD _ _ = _; unfold parseD; rw [if_neg (by omega), if_pos h4]
    have e0 : ((d[0].toNat : Int) == 48) = true := by rw [HB0.out]; simpa using h4.1
    by_cases h5 : 1 < d.size
    · clear h4 HP
      go_wp2_with fail
      go_ret2
      exact ⟨by rw [HR.out]; rfl, rfl⟩
    · have h6 : d.size < s.size := by omega
      clear h4 HP
      go_wp2_with fail
      go_ret2
      exact ⟨by rw [HR.out]; rfl, rfl⟩
  · have HR : Hid (parseB s = if allTo (digAt d) d.size = false then (0, 1) else (if d.size < s.size then - numTo d d.size else numTo d d.size, 0)) := by
      rw [HP.out]; show parseD _ _ = _; unfold parseD; rw [if_neg (by omega), if_neg h4]
    have hcase : (((d[0].toNat : Int) == 48) = false ∧ d.size < s.size) ∨ (((d[0].toNat : Int) == 48) = false ∧ ¬ d.size < s.size) ∨ (((d[0].toNat : Int) == 48) = true ∧ ¬ d.size < s.size) := by
      rw [HB0.out]
      by_cases h0 : byteAt d 0 = 48
      · right; right; exact ⟨by simpa using h0, by omega⟩
      · by_cases h6 : d.size < s.size
        · left; exact ⟨by simpa using h0, h6⟩
        · right; left; exact ⟨by simpa using h0, h6⟩
    have hle1 : byteAt d 0 = 48 → ¬ 1 < d.size := fun h => by omega
    have h5 : ((d[0].toNat : Int) == 48) = true → ¬ 1 < d.size := fun h => hle1 (by rw [← HB0.out]; simpa using h)
    clear h4 HP hle1
    rcases hcase with ⟨e0, hneg⟩ | ⟨e0, hneg⟩ | ⟨e0, hneg⟩
    case' inr.inr => have h7 := h5 e0
    all_goals
      clear h5
      go_wp2_with fail
      clear e0
      go_loop [2, 3, 6, 7, 36] (fun _ _ n _ i => ∃ k : Nat, k ≤ d.size ∧ n = .int .i64 (numTo d k) ∧ i = .int .i64 k ∧ Hid (allTo (digAt d) k = true)) (fun _ _ _ _ i => d.size - (intOf i).toNat)
      case atStart => exact ⟨0, by omega, rfl, rfl, rfl⟩
      case round =>
        obtain ⟨k, hk, rfl, rfl, HA⟩ := hrel
        obtain ⟨hn1, hn2⟩ := numTo_bd d k HA.out
        have hb : bnd k ≤ 9999999999 := bnd_mono (k := 10) (by omega)
        by_cases hlt : k < d.size
        · have HB := Lib.hid (byteAt_eq d k hlt)
          have hb1 := byteAt_lo d k
          have hb2 := byteAt_hi d k
          by_cases hdg : digAt d k = true
          · have hdd := hdg
            unfold digAt numberI at hdd
            simp only [Bool.and_eq_true, decide_eq_true_eq] at hdd
            have l1 : 48 ≤ (d[k].toNat : Int) := by rw [HB.out]; exact hdd.1
            have l2 : (d[k].toNat : Int) ≤ 57 := by rw [HB.out]; exact hdd.2
            have HA2 : Hid (allTo (digAt d) (k + 1) = true) := by show allTo _ _ = true; rw [allTo_succ, HA.out, hdg]; rfl
            have HN : Hid (numTo d (k + 1) = 10 * numTo d k + ((d[k].toNat : Int) - 48)) := by show _ = _; rw [HB.out]; rfl
            clear hdd hdg HA
            go_wp2_with fail
            go_round
            case rel => exact ⟨k + 1, by omega, by rw [HN.out], by go_num, HA2⟩
            case measure => simp [intOf]; omega
          · have hdd : digAt d k = false := by simpa using hdg
            have HF := Lib.hid (allTo_false hlt hdd)
            unfold digAt numberI at hdd
            rw [← HB.out] at hdd
            have HD := Lib.hid hdd
            clear hdd hdg
            go_wp2_with fail
            all_goals have HD2 := HD.out
            all_goals first
              | (exfalso; simp at HD2; omega)
              | (go_ret2; exact ⟨by rw [HR.out, if_pos HF.out]; rfl, rfl⟩)
        · have hkk : k = d.size := by omega
          subst hkk
          have HT := Lib.hid HA.out
          first
          | (have HR2 : Hid (parseB s = (- numTo d d.size, 0)) := by rw [HR.out, if_neg (by rw [HA.out]; decide), if_pos hneg]; rfl
             go_wp2_with fail
             go_ret2
             exact ⟨by rw [HR2.out]; rfl, rfl⟩)
          | (have HR2 : Hid (parseB s = (numTo d d.size, 0)) := by rw [HR.out, if_neg (by rw [HA.out]; decide), if_neg hneg]; rfl
             go_wp2_with fail
             go_ret2
             exact ⟨by rw [HR2.out]; rfl, rfl⟩)

/-- The reference's Digits: the number and whether there are low to high digits and nothing else. -/
def digitsB (s : ByteArray) (lo hi : Int) : Int × Bool :=
  if (s.size : Int) < lo ∨ hi < (s.size : Int) then (0, false) else if allTo (digAt s) s.size = false then (0, false) else (numTo s s.size, true)
def DigitsPost (s : ByteArray) (lo hi : Int) (w : World) (e : Ending) (w' : World) : Prop := e = .returned (.tuple #[.int .i64 (digitsB s lo hi).1, .bool (digitsB s lo hi).2]) ∧ w = w'
set_option maxHeartbeats 800000 in
theorem digits_any (s : ByteArray) (lo hi : Int) (w : World) (hhi : hi ≤ 16) : Calls Tryd.prog 33 #[.string s, .int .i64 lo, .int .i64 hi] w (DigitsPost s lo hi w) := by
  by_cases h1 : (s.size : Int) < lo
  · have HR : Hid (digitsB s lo hi = (0, false)) := by show digitsB _ _ _ = _; unfold digitsB; rw [if_pos (.inl h1)]
    go_enter Tryd.func33, Tryd.ntmps33
    go_wp2_with fail
    go_ret2
    exact ⟨by rw [HR.out]; rfl, rfl⟩
  by_cases h2 : hi < (s.size : Int)
  · have HR : Hid (digitsB s lo hi = (0, false)) := by show digitsB _ _ _ = _; unfold digitsB; rw [if_pos (.inr h2)]
    go_enter Tryd.func33, Tryd.ntmps33
    go_wp2_with fail
    go_ret2
    exact ⟨by rw [HR.out]; rfl, rfl⟩
  have HR : Hid (digitsB s lo hi = if allTo (digAt s) s.size = false then (0, false) else (numTo s s.size, true)) := by
    show digitsB _ _ _ = _; unfold digitsB; rw [if_neg (by omega)]
  have hsz : s.size ≤ 16 := by omega
  go_enter Tryd.func33, Tryd.ntmps33
  go_wp2_with fail
  go_loop [6, 7, 8, 9] (fun _ _ n i => ∃ k : Nat, k ≤ s.size ∧ n = .int .i64 (numTo s k) ∧ i = .int .i64 k ∧ Hid (allTo (digAt s) k = true)) (fun _ _ _ i => s.size - (intOf i).toNat)
  case atStart => exact ⟨0, by omega, rfl, rfl, rfl⟩
  case round =>
    obtain ⟨k, hk, rfl, rfl, HA⟩ := hrel
    obtain ⟨hn1, hn2⟩ := numTo_bd s k HA.out
    have hb : bnd k ≤ 9999999999999999 := bnd_mono (k := 16) (by omega)
    by_cases hlt : k < s.size
    · have HB := Lib.hid (byteAt_eq s k hlt)
      have hb1 := byteAt_lo s k
      have hb2 := byteAt_hi s k
      by_cases hdg : digAt s k = true
      · have hdd := hdg
        unfold digAt at hdd
        rw [← HB.out] at hdd
        have HD := Lib.hid hdd
        unfold numberI at hdd
        simp only [Bool.and_eq_true, decide_eq_true_eq] at hdd
        have l1 : 48 ≤ (s[k].toNat : Int) := hdd.1
        have l2 : (s[k].toNat : Int) ≤ 57 := hdd.2
        have HA2 : Hid (allTo (digAt s) (k + 1) = true) := by show allTo _ _ = true; rw [allTo_succ, HA.out, hdg]; rfl
        have HN : Hid (numTo s (k + 1) = 10 * numTo s k + ((s[k].toNat : Int) - 48)) := by show _ = _; rw [HB.out]; rfl
        clear hdd hdg HA
        go_wp2_with fail
        refine (number_any _ _).mono ?_
        rintro e w' ⟨rfl, rfl⟩
        rw [HD.out]
        go_wp2_with fail
        go_round
        case rel => exact ⟨k + 1, by omega, by rw [HN.out], by go_num, HA2⟩
        case measure => simp [intOf]; omega
      · have hdd : digAt s k = false := by simpa using hdg
        have HF := Lib.hid (allTo_false hlt hdd)
        unfold digAt at hdd
        rw [← HB.out] at hdd
        have HD := Lib.hid hdd
        clear hdd hdg
        go_wp2_with fail
        refine (number_any _ _).mono ?_
        rintro e w' ⟨rfl, rfl⟩
        rw [HD.out]
        go_wp2_with fail
        go_ret2
        exact ⟨by rw [HR.out, if_pos HF.out]; rfl, rfl⟩
    · obtain rfl : k = s.size := by omega
      have HR2 : Hid (digitsB s lo hi = (numTo s s.size, true)) := by rw [HR.out, if_neg (by rw [HA.out]; decide)]; rfl
      go_wp2_with fail
      go_ret2
      exact ⟨by rw [HR2.out]; rfl, rfl⟩

def plainB (s : ByteArray) : Bool := (s.size == 1) || (decide (1 < s.size) && !(byteAt s 0 == 48))
theorem plain_any (s : ByteArray) (w : World) : Calls Tryd.prog 34 #[.string s] w fun e w' => e = .returned (.bool (plainB s)) ∧ w = w' := by
  by_cases h1 : s.size = 1
  · have hb : ((s.size : Int) == 1) = true := by simp [h1]
    have HR : Hid (plainB s = true) := by show _ = _; unfold plainB; rw [h1]; rfl
    clear h1
    go_enter Tryd.func34, Tryd.ntmps34
    go_wp2_with fail
    go_ret
    exact ⟨ret_bool HR.out.symm, rfl⟩
  · have hb : ((s.size : Int) == 1) = false := by simp; omega
    have hb' : (s.size == 1) = false := by simpa using h1
    by_cases h2 : 1 < s.size
    · have HB := Lib.hid (byteAt_eq s 0 (by omega))
      have HR : Hid (plainB s = !(byteAt s 0 == 48)) := by show _ = _; unfold plainB; rw [hb', decide_eq_true h2]; rfl
      clear h1 hb'
      go_enter Tryd.func34, Tryd.ntmps34
      go_wp2_with fail
      go_ret
      exact ⟨ret_bool (by rw [HR.out, ← HB.out]; rfl), rfl⟩
    · have HR : Hid (plainB s = false) := by show _ = _; unfold plainB; rw [hb', decide_eq_false h2]; rfl
      clear h1 hb'
      go_enter Tryd.func34, Tryd.ntmps34
      go_wp2_with fail
      go_ret
      exact ⟨ret_bool HR.out.symm, rfl⟩

theorem numTo_zero {d : ByteArray} {k : Nat} (h : allTo (digAt d) (k + 1) = true) (h0 : numTo d (k + 1) = 0) : byteAt d 0 = 48 := by
  have h1 := (allTo_iff.1 h) 0 (by omega)
  induction k with
  | zero =>
    simp only [numTo] at h0
    omega
  | succ k ih =>
    have h2 := h
    rw [allTo_succ, Bool.and_eq_true] at h2
    have hb := numTo_bd d (k + 1) h2.1
    have h3 := h2.2
    unfold digAt numberI at h3
    simp only [Bool.and_eq_true, decide_eq_true_eq] at h3
    rw [numTo] at h0
    exact ih h2.1 (by omega)
/-- How the reference parses. -/
theorem parse_ref (d : ByteArray) (neg : Prop) [Decidable neg] : parseD d neg = if (digitsB d 1 10).2 = false ∨ plainB d = false ∨ (neg ∧ (digitsB d 1 10).1 = 0) then (0, 1) else
    (if neg then - (digitsB d 1 10).1 else (digitsB d 1 10).1, 0) := by
  have big : digitsB d 1 10 = if d.size < 1 ∨ 10 < d.size then (0, false) else if allTo (digAt d) d.size = false then (0, false) else (numTo d d.size, true) := by
    unfold digitsB
    by_cases h1 : d.size < 1 ∨ 10 < d.size
    · rw [if_pos h1, if_pos (by omega)]
    · rw [if_neg h1, if_neg (by omega)]
  unfold parseD
  by_cases h1 : d.size < 1 ∨ 10 < d.size
  · rw [if_pos h1] at big ⊢
    rw [big, if_pos (.inl rfl)]
  · rw [if_neg h1] at big ⊢
    by_cases h2 : allTo (digAt d) d.size = false
    · rw [if_pos h2] at big ⊢
      rw [big, ite_self, if_pos (.inl rfl)]
    · have h3 : allTo (digAt d) d.size = true := by simpa using h2
      obtain ⟨k, hk⟩ : ∃ k, d.size = k + 1 := ⟨d.size - 1, by omega⟩
      rw [if_neg h2] at big ⊢
      rw [big]
      dsimp only
      by_cases h4 : byteAt d 0 = 48
      · by_cases h5 : d.size = 1
        · have hp : plainB d = true := by unfold plainB; rw [h5]; rfl
          have hz : numTo d d.size = 0 := by rw [h5]; simp only [numTo]; omega
          by_cases h6 : neg
          · rw [if_pos ⟨h4, .inr h6⟩, if_pos (.inr (.inr ⟨h6, hz⟩))]
          · have c1 : ¬ (byteAt d 0 = 48 ∧ (1 < d.size ∨ neg)) := by
              rintro ⟨_, h | h⟩
              · omega
              · exact h6 h
            have c2 : ¬ (true = false ∨ plainB d = false ∨ neg ∧ numTo d d.size = 0) := by
              rintro (h | h | ⟨h, _⟩)
              · cases h
              · rw [hp] at h; cases h
              · exact h6 h
            rw [if_neg c1, if_neg c2]
        · have hp : plainB d = false := by
            unfold plainB
            rw [h4, show (d.size == 1) = false by simpa using h5]
            simp
          rw [if_pos ⟨h4, .inl (by omega)⟩, if_pos (.inr (.inl hp))]
      · have hp : plainB d = true := by
          unfold plainB
          by_cases h5 : d.size = 1
          · rw [h5]; rfl
          · rw [decide_eq_true (show 1 < d.size by omega)]
            simp [h4]
        have c2 : ¬ (true = false ∨ plainB d = false ∨ neg ∧ numTo d d.size = 0) := by
          rintro (h | h | ⟨_, h⟩)
          · cases h
          · rw [hp] at h; cases h
          · rw [hk] at h h3
            exact h4 (numTo_zero h3 h)
        rw [if_neg (fun h => h4 h.1), if_neg c2]

set_option maxHeartbeats 800000 in
theorem parseIntR_any (s : ByteArray) (w : World) (hs : s.size ≤ maxLen) : Calls Tryd.prog 23 #[.string s] w (ParsePost s w) := by
  unfold maxLen at hs
  have HP := Lib.hid ((parseB_D s).trans (parse_ref _ _))
  have hse := stripB_eq s
  have hds := stripB_size s
  have hdb : 0 ≤ (digitsB (stripB s) 1 10).1 ∧ (digitsB (stripB s) 1 10).1 ≤ 9999999999 := by
    unfold digitsB
    split
    · decide
    · split
      · decide
      · rename_i h1 h2
        have h := numTo_bd (stripB s) (stripB s).size (by simpa using h2)
        have hb : bnd (stripB s).size ≤ bnd 10 := bnd_mono (by omega)
        rw [bnd_ten] at hb
        dsimp only
        omega
  obtain ⟨hd1, hd2⟩ := hdb
  by_cases h0 : 0 < s.size
  · have HB := Lib.hid (byteAt_eq s 0 h0)
    by_cases h45 : byteAt s 0 = 45
    · have e0 : ((s[0].toNat : Int) == 45) = true := by rw [HB.out]; simpa using h45
      rw [if_pos ⟨h0, h45⟩] at hse hds
      have hneg : (stripB s).size < s.size := by omega
      have HSE := Lib.hid hse
      clear h45 hse hds
      go_enter Tryd.func23, Tryd.ntmps23
      go_wp2_with fail
      rw [← HSE.out]
      refine (digits_any (stripB s) 1 10 w (by decide)).mono ?_
      rintro e w' ⟨rfl, rfl⟩
      generalize hn : (digitsB (stripB s) 1 10).1 = n at *
      generalize hok : (digitsB (stripB s) 1 10).2 = ok at *
      clear hn hok
      cases ok
      · have HR : Hid (parseB s = (0, 1)) := by rw [HP.out, if_pos (.inl rfl)]; rfl
        clear HP
        go_wp2_with fail
        go_ret2
        exact ⟨by rw [HR.out]; rfl, rfl⟩
      · go_wp2_with fail
        refine (plain_any (stripB s) w).mono ?_
        rintro e w' ⟨rfl, rfl⟩
        generalize hpl : plainB (stripB s) = pl at *
        clear hpl
        cases pl
        · have HR : Hid (parseB s = (0, 1)) := by rw [HP.out, if_pos (.inr (.inl rfl))]; rfl
          clear HP
          go_wp2_with fail
          go_ret2
          exact ⟨by rw [HR.out]; rfl, rfl⟩
        · by_cases hz : n = 0
          · have HR : Hid (parseB s = (0, 1)) := by rw [HP.out, if_pos (.inr (.inr ⟨hneg, hz⟩))]; rfl
            have hzb : (n == 0) = true := by simpa using hz
            clear HP hz
            go_wp2_with fail
            go_ret2
            exact ⟨by rw [HR.out]; rfl, rfl⟩
          · have HR : Hid (parseB s = (-n, 0)) := by rw [HP.out, if_neg (by rintro (h | h | ⟨_, h⟩); cases h; cases h; exact hz h), if_pos hneg]; rfl
            have hzb : (n == 0) = false := by simpa using hz
            clear HP hz
            go_wp2_with fail
            go_ret2
            exact ⟨by rw [HR.out]; rfl, rfl⟩
    · have e0 : ((s[0].toNat : Int) == 45) = false := by rw [HB.out]; simpa using h45
      rw [if_neg (fun h => h45 h.2)] at hse hds
      have hneg : ¬ (stripB s).size < s.size := by omega
      rw [hse] at HP hd1 hd2 hneg
      clear h45 hse hds
      go_enter Tryd.func23, Tryd.ntmps23
      go_wp2_with fail
      refine (digits_any (s) 1 10 w (by decide)).mono ?_
      rintro e w' ⟨rfl, rfl⟩
      generalize hn : (digitsB (s) 1 10).1 = n at *
      generalize hok : (digitsB (s) 1 10).2 = ok at *
      clear hn hok
      cases ok
      · have HR : Hid (parseB s = (0, 1)) := by rw [HP.out, if_pos (.inl rfl)]; rfl
        clear HP
        go_wp2_with fail
        go_ret2
        exact ⟨by rw [HR.out]; rfl, rfl⟩
      · go_wp2_with fail
        refine (plain_any (s) w).mono ?_
        rintro e w' ⟨rfl, rfl⟩
        generalize hpl : plainB (s) = pl at *
        clear hpl
        cases pl
        · have HR : Hid (parseB s = (0, 1)) := by rw [HP.out, if_pos (.inr (.inl rfl))]; rfl
          clear HP
          go_wp2_with fail
          go_ret2
          exact ⟨by rw [HR.out]; rfl, rfl⟩
        · have HR : Hid (parseB s = (n, 0)) := by rw [HP.out, if_neg (by rintro (h | h | ⟨h, _⟩); cases h; cases h; exact hneg h), if_neg hneg]; rfl
          clear HP
          go_wp2_with fail
          go_ret2
          exact ⟨by rw [HR.out]; rfl, rfl⟩
  · rw [if_neg (fun h => h0 h.1)] at hse hds
    have hneg : ¬ (stripB s).size < s.size := by omega
    rw [hse] at HP hd1 hd2 hneg
    clear hse hds
    go_enter Tryd.func23, Tryd.ntmps23
    go_wp2_with fail
    refine (digits_any (s) 1 10 w (by decide)).mono ?_
    rintro e w' ⟨rfl, rfl⟩
    generalize hn : (digitsB (s) 1 10).1 = n at *
    generalize hok : (digitsB (s) 1 10).2 = ok at *
    clear hn hok
    cases ok
    · have HR : Hid (parseB s = (0, 1)) := by rw [HP.out, if_pos (.inl rfl)]; rfl
      clear HP
      go_wp2_with fail
      go_ret2
      exact ⟨by rw [HR.out]; rfl, rfl⟩
    · go_wp2_with fail
      refine (plain_any (s) w).mono ?_
      rintro e w' ⟨rfl, rfl⟩
      generalize hpl : plainB (s) = pl at *
      clear hpl
      cases pl
      · have HR : Hid (parseB s = (0, 1)) := by rw [HP.out, if_pos (.inr (.inl rfl))]; rfl
        clear HP
        go_wp2_with fail
        go_ret2
        exact ⟨by rw [HR.out]; rfl, rfl⟩
      · have HR : Hid (parseB s = (n, 0)) := by rw [HP.out, if_neg (by rintro (h | h | ⟨h, _⟩); cases h; cases h; exact hneg h), if_neg hneg]; rfl
        clear HP
        go_wp2_with fail
        go_ret2
        exact ⟨by rw [HR.out]; rfl, rfl⟩

theorem grow_below (w : World) (k : Nat) (os : Array Obj) : Below w.heap.size w (grow (w.drewN k) os) := by
  refine ⟨rfl, rfl, rfl, ?_, fun i hi => ?_⟩
  · simp only [grow, World.heap_drewN, Array.size_append]; omega
  · simp only [grow, World.heap_drewN]
    rw [Array.getElem?_append, if_pos hi]
/-- The library's table of powers of ten holds what its text lays. -/
def Pow10 (w : World) : Prop := Lib.TabIs Tryd.prog w "internal/strconv.uint64pow10" .u64 Lib.pow10Tab ∧ 1 < w.heap.size
theorem Pow10.next {w w' : World} (h : Pow10 w) (hb : Below w.heap.size w w') : Pow10 w' :=
  ⟨var?_below hb (by kernel_rfl) h.2 h.1, Nat.lt_of_lt_of_le h.2 hb.size⟩
def fmtB (n : Int) : ByteArray := bs (Lib.itoa n)
theorem itoa_any (n : Int) (w : World) (h0 : -9223372036854775808 ≤ n) (h1 : n ≤ 9223372036854775807) (hp : Pow10 w) :
    Calls Tryd.prog 35 #[.int .i64 n] w fun e w' => e = .returned (.string (fmtB n)) ∧ Below w.heap.size w w' := by
  refine (Tryd.strconv_Itoa n h0 h1 w hp.1).mono ?_
  rintro e w' ⟨rfl, k, os, rfl⟩
  exact ⟨rfl, grow_below w k os⟩
theorem formatInt_any (n : Int) (w : World) (h0 : -9223372036854775808 ≤ n) (h1 : n ≤ 9223372036854775807) (hp : Pow10 w) :
    Calls Tryd.prog 24 #[.int .i64 n] w fun e w' => e = .returned (.string (fmtB n)) ∧ Below w.heap.size w w' := by
  go_enter Tryd.func24, Tryd.ntmps24
  go_wp2_with fail
  refine (itoa_any n w h0 h1 hp).mono ?_
  rintro e w' ⟨rfl, hb⟩
  go_wp2_with fail
  go_ret
  exact ⟨rfl, hb⟩
theorem formatIntR_any (n : Int) (w : World) (h0 : -9223372036854775808 ≤ n) (h1 : n ≤ 9223372036854775807) (hp : Pow10 w) :
    Calls Tryd.prog 25 #[.int .i64 n] w fun e w' => e = .returned (.string (fmtB n)) ∧ Below w.heap.size w w' := by
  go_enter Tryd.func25, Tryd.ntmps25
  go_wp2_with fail
  refine (itoa_any n w h0 h1 hp).mono ?_
  rintro e w' ⟨rfl, hb⟩
  go_wp2_with fail
  go_ret
  exact ⟨rfl, hb⟩
end Go.Proofs.YtpgenhknndpcfaaDoor
