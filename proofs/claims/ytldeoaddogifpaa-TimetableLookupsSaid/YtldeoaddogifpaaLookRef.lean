/-
  Contracts of the reference's FindFlight, Departures, Zone and ZoneOf (package pairingref9).
  Condition: the timetable's data are well formed.
-/
import Derived.Test.YtldeoaddogifpaaValidateRef
import Derived.Test.YtldeoaddogifpaaZoneOf
import Derived.Test.YtldeoaddogifpaaDepart
import Derived.StillTailTactics
namespace Go.Proofs.Ytldeoaddogifpaa
set_option linter.unusedSimpArgs false
set_option linter.unusedVariables false
open Go.RowKit

theorem known_has (l : List GAirport) (code : ByteArray) : (firstHit (aHit l code) l.length).isSome = hasB (aCodes l) code := by
  unfold firstHit
  rw [Bool.eq_iff_iff, List.find?_isSome, hasB_iff]
  unfold aCodes
  rw [List.mem_map]
  constructor
  · rintro ⟨x, hx, hp⟩
    have hx' := List.mem_range.1 hx
    unfold aHit at hp
    exact ⟨l.getD x noAirport, getD_mem0 hx' noAirport, of_decide_eq_true hp⟩
  · rintro ⟨a, ha, rfl⟩
    obtain ⟨i, hi, e⟩ := mem_getD ha noAirport
    exact ⟨i, List.mem_range.2 hi, by unfold aHit; rw [e]; simp⟩

theorem idxOf_has {l : List ByteArray} {a : ByteArray} (h : hasB l a = true) : ∃ k : Nat, k < l.length ∧ idxOf l a = (k : Int) := by
  unfold idxOf
  rw [if_pos h]
  refine ⟨_, List.findIdx_lt_length_of_exists ?_, rfl⟩
  obtain ⟨x, hx, hd⟩ := List.any_eq_true.1 h
  exact ⟨x, hx, hd⟩
set_option maxRecDepth 100000 in
set_option maxHeartbeats 800000 in
theorem findFlightR_any (t : GTT) (A1 A2 A3 : Option Addr) (n1 n2 n3 c1 c2 c3 : Nat) (num : ByteArray) (dep : Int) (w : World) (ht : t.ok) (hs1 : Sl Ty.zone w (all_ w) A1 n1 c1 t.zones) (hs2 : Sl Ty.airport w (all_ w) A2 n2 c2 t.airports) (hs3 : Sl Ty.flight w (all_ w) A3 n3 c3 t.flights) :
    Calls Try.prog 23 #[.agg #[.slice A1 n1 c1, .slice A2 n2 c2, .slice A3 n3 c3], .string num, .int .i64 dep] w (PairPost (findR t num dep) w) := by
  have hn1 : n3 ≤ t.flights.length := Nat.le_of_eq hs3.len
  have hn2 : t.flights.length ≤ n3 := Nat.le_of_eq hs3.len.symm
  have hle := hs3.le
  unfold maxLen at hle
  have hb0 := (Below.refl w.heap.size w).alloc (Nat.le_refl _) (.cells #[.slice A1 n1 c1, .slice A2 n2 c2, .slice A3 n3 c3] 26)
  have hx0 : (w.alloc (.cells #[.slice A1 n1 c1, .slice A2 n2 c2, .slice A3 n3 c3] 26)).cell? ⟨w.heap.size, 2, none⟩ = some (.slice A3 n3 c3) := World.cell?_alloc_at _ _ _ _ rfl
  have hz0 : w.heap.size + 1 ≤ (w.alloc (.cells #[.slice A1 n1 c1, .slice A2 n2 c2, .slice A3 n3 c3] 26)).heap.size := by simp
  have HV := Lib.hid (validateR_any t A1 A2 A3 n1 n2 n3 c1 c2 c3 _ ht (hs1.next hb0) (hs2.next hb0) (hs3.next hb0))
  have HS : Hid (∀ V, Below w.heap.size w V → Sl Ty.flight V (all_ w) A3 n3 c3 t.flights) := fun V hV => hs3.keep (all_keep hV)
  have HB0 := Lib.hid hb0; have HX0 := Lib.hid hx0; have HZ0 := Lib.hid hz0
  have HR : Hid (findR t num dep = if ttE t ≠ 0 then (0, ttE t) else match firstHit (fun i => fMatch num dep (t.flights.getD i noFlight)) t.flights.length with
    | some i => ((i : Int), 0)
    | none => (0, 6)) := rfl
  clear hs1 hs2 hs3 hb0 hx0 hz0 ht
  generalize ttE t = ev at *
  go_enter Try.func23, Try.ntmps23
  go_wp2_with fail
  generalize w.alloc (.cells #[.slice A1 n1 c1, .slice A2 n2 c2, .slice A3 n3 c3] 26) = W at *
  refine HV.out.mono ?_
  clear HV
  rintro e w1 ⟨rfl, hb1⟩
  have hw1 : Below w.heap.size w w1 := HB0.out.trans (hb1.mono HB0.out.size)
  by_cases hev : ev = 0
  case neg =>
    have hev' : (ev != 0) = true := by simpa using hev
    have HF : Hid (findR t num dep = (0, ev)) := by show _ = _; rw [HR.out, if_pos hev]
    clear HR hev
    go_wp2_with fail
    go_ret2
    exact ⟨by rw [HF.out]; rfl, hw1⟩
  subst hev
  rw [if_neg (by simp)] at HR
  have x2 : w1.cell? ⟨w.heap.size, 2, none⟩ = some (.slice A3 n3 c3) := (hb1.cell (by have := HZ0.out; show w.heap.size < _; omega)).trans HX0.out
  have HS1 := Lib.hid (HS.out w1 hw1)
  have HW1 := Lib.hid hw1
  clear HX0 HZ0 HB0 HS hb1 hw1
  go_wp2_with fail
  go_loop [9] (fun s => ∃ k : Nat, k ≤ n3 ∧ s = .int .i64 k ∧ Hid (∀ j, j < k → fMatch num dep (t.flights.getD j noFlight) = false)) (fun s => n3 - (intOf s).toNat)
  case atStart => exact ⟨0, Nat.zero_le _, rfl, fun j hj => absurd hj (by omega)⟩
  case round =>
    obtain ⟨k, hk, rfl, HK⟩ := hrel
    by_cases hlt : k < n3
    · have hks : k < t.flights.length := by omega
      obtain ⟨b, o, rfl, hbS, hat⟩ := HS1.out.flight_at hks
      have HFM : Hid (fMatch num dep (t.flights.getD k noFlight) = (decide ((t.flights.getD k noFlight).number = num) && decide ((t.flights.getD k noFlight).dep = dep))) := rfl
      have HHIT : Hid (fMatch num dep (t.flights.getD k noFlight) = true → findR t num dep = ((k : Int), 0)) := fun h => by
        rw [HR.out, firstHit_some hks HK.out h]
      have HMISS : Hid (fMatch num dep (t.flights.getD k noFlight) = false → ∀ j, j < k + 1 → fMatch num dep (t.flights.getD j noFlight) = false) := fun h j hj => by
        rcases Nat.lt_or_eq_of_le (Nat.le_of_lt_succ hj) with h1 | rfl
        · exact HK.out j h1
        · exact h
      generalize t.flights.getD k noFlight = f at *
      have y0 : w1.cell? ⟨b, o + k * 9, none⟩ = some (.string f.number) := hat 0 _ rfl
      have y3 := hat 3 _ rfl
      have HSB := Lib.hid (str_beq f.number num)
      clear hat
      by_cases hnum : f.number = num
      · have hs' : (f.number.toList == num.toList) = true := by rw [HSB.out]; simpa using hnum
        by_cases hd : f.dep = dep
        · have hd' : (f.dep == dep) = true := by simpa using hd
          have HF := Lib.hid (HHIT.out (by rw [HFM.out, hnum, hd]; simp))
          clear hd hnum
          go_wp2_with fail
          go_ret2
          exact ⟨by rw [HF.out]; rfl, HW1.out⟩
        · have hd' : (f.dep == dep) = false := by simpa using hd
          have HM : Hid (∀ j, j < k + 1 → fMatch num dep (t.flights.getD j noFlight) = false) := HMISS.out (by rw [HFM.out]; simp [hd])
          clear hd hnum
          go_wp2_with fail
          go_round
          case rel => exact ⟨k + 1, by omega, by go_num, HM⟩
          case measure => simp [intOf]; omega
      · have hs' : (f.number.toList == num.toList) = false := by rw [HSB.out]; simpa using hnum
        have HM : Hid (∀ j, j < k + 1 → fMatch num dep (t.flights.getD j noFlight) = false) := HMISS.out (by rw [HFM.out]; simp [hnum])
        clear hnum
        go_wp2_with fail
        go_round
        case rel => exact ⟨k + 1, by omega, by go_num, HM⟩
        case measure => simp [intOf]; omega
    · have HF : Hid (findR t num dep = (0, 6)) := by
        show _ = _
        rw [HR.out, firstHit_none (fun j hj => HK.out j (by omega))]
      go_wp2_with fail
      go_ret2
      exact ⟨by rw [HF.out]; rfl, HW1.out⟩

set_option maxRecDepth 100000 in
set_option maxHeartbeats 1600000 in
theorem departuresR_any (t : GTT) (A1 A2 A3 : Option Addr) (n1 n2 n3 c1 c2 c3 : Nat) (code : ByteArray) (a b : Int) (w : World) (ht : t.ok) (hs1 : Sl Ty.zone w (all_ w) A1 n1 c1 t.zones) (hs2 : Sl Ty.airport w (all_ w) A2 n2 c2 t.airports) (hs3 : Sl Ty.flight w (all_ w) A3 n3 c3 t.flights) :
    Calls Try.prog 24 #[.agg #[.slice A1 n1 c1, .slice A2 n2 c2, .slice A3 n3 c3], .string code, .agg #[.int .i64 a, .int .i64 b]] w (DepPost (depR t code a b) w) := by
  have hn1 : n3 ≤ t.flights.length := Nat.le_of_eq hs3.len
  have hn2 : t.flights.length ≤ n3 := Nat.le_of_eq hs3.len.symm
  have hle := hs3.le
  unfold maxLen at hle
  have HB0 : Hid (∀ o1 o2, Below w.heap.size w ((w.alloc o1).alloc o2)) := fun o1 o2 => below_alloc2 _ _ _
  have HH0 : Hid (∀ o1 o2, ((w.alloc o1).alloc o2).heap[w.heap.size]? = some o1) := fun o1 o2 => alloc2_0 _ _ _
  have HH1 : Hid (∀ o1 o2, ((w.alloc o1).alloc o2).heap[w.heap.size + 1]? = some o2) := fun o1 o2 => heap_alloc2_new _ _ _
  have HHZ : Hid (∀ o1 o2, ((w.alloc o1).alloc o2).heap.size = w.heap.size + 2) := fun o1 o2 => by simp
  have HS : Hid (∀ V, Below w.heap.size w V → Sl Ty.zone V (all_ V) A1 n1 c1 t.zones ∧ Sl Ty.airport V (all_ V) A2 n2 c2 t.airports ∧ Sl Ty.flight V (all_ w) A3 n3 c3 t.flights) := fun V hV => ⟨hs1.next hV, hs2.next hV, hs3.keep (all_keep hV)⟩
  have HS3 : Hid (∀ V, Below w.heap.size w V → Sl Ty.flight V (all_ V) A3 n3 c3 t.flights) := fun V hV => hs3.next hV
  have HT := Lib.hid ht
  have HL : Hid (ttE t = 0 → t.flights.length ≤ 200) := fun h => (ttE_zero.1 h).l3
  have HR : Hid (depR t code a b = if ttE t ≠ 0 then ([], ttE t) else if hasB (aCodes t.airports) code = false then ([], 6) else
    (hits (fun i => dMatch code a b (t.flights.getD i noFlight)) t.flights.length, 0)) := by show _ = _; unfold depR; rw [known_has]
  clear hs1 hs2 hs3 ht
  go_enter Try.func24, Try.ntmps24
  go_wp2_with fail
  have hb0 := HB0.out (.cells #[.slice A1 n1 c1, .slice A2 n2 c2, .slice A3 n3 c3] 26) (.cells #[.int .i64 a, .int .i64 b] 59)
  have h0 := HH0.out (.cells #[.slice A1 n1 c1, .slice A2 n2 c2, .slice A3 n3 c3] 26) (.cells #[.int .i64 a, .int .i64 b] 59)
  have h1 := HH1.out (.cells #[.slice A1 n1 c1, .slice A2 n2 c2, .slice A3 n3 c3] 26) (.cells #[.int .i64 a, .int .i64 b] 59)
  have hz := HHZ.out (.cells #[.slice A1 n1 c1, .slice A2 n2 c2, .slice A3 n3 c3] 26) (.cells #[.int .i64 a, .int .i64 b] 59)
  generalize (w.alloc (.cells #[.slice A1 n1 c1, .slice A2 n2 c2, .slice A3 n3 c3] 26)).alloc (.cells #[.int .i64 a, .int .i64 b] 59) = W at *
  have HB := Lib.hid hb0; have H0 := Lib.hid h0; have H1 := Lib.hid h1; have HZ := Lib.hid hz
  clear HB0 HH0 HH1 HHZ hb0 h0 h1 hz
  refine (validateR_any t A1 A2 A3 n1 n2 n3 c1 c2 c3 W HT.out (HS.out W HB.out).1 (HS.out W HB.out).2.1 (HS3.out W HB.out)).mono ?_
  rintro e w1 ⟨rfl, hb1⟩
  have hw1 : Below w.heap.size w w1 := HB.out.trans (hb1.mono HB.out.size)
  have hs1 := hb1.size
  generalize ttE t = ev at *
  by_cases hev : ev = 0
  case neg =>
    have hev' : (ev != 0) = true := by simpa using hev
    have HF : Hid (depR t code a b = ([], ev)) := by show _ = _; rw [HR.out, if_pos hev]
    clear HR hev
    go_wp2_with fail
    go_ret2
    rw [HF.out]
    exact ⟨none, 0, 0, rfl, Sl.nil0, hw1⟩
  subst hev
  rw [if_neg (by simp)] at HR
  have H0' : Hid (w1.heap[w.heap.size]? = _) := (hb1.block _ (by have := HZ.out; omega)).trans H0.out
  have H1' : Hid (w1.heap[w.heap.size + 1]? = _) := (hb1.block _ (by have := HZ.out; omega)).trans H1.out
  have hz1 : w.heap.size + 2 ≤ w1.heap.size := by have := HZ.out; omega
  have x1 : w1.cell? ⟨w.heap.size, 1, none⟩ = some (.slice A2 n2 c2) := block_cell H0'.out 1
  clear H0 H1 HB HZ hb1 hs1
  go_wp2_with fail
  refine (airportIndex_any t.airports code A2 n2 c2 _ w1 (HS.out w1 hw1).2.1).mono ?_
  rintro e w' ⟨rfl, rfl⟩
  clear x1
  rcases Bool.eq_false_or_eq_true (hasB (aCodes t.airports) code) with hh | hh
  case inr =>
    have HF : Hid (depR t code a b = ([], 6)) := by show _ = _; rw [HR.out, if_pos hh]
    rw [idxOf_none hh]
    clear HR hh
    go_wp2_with fail
    go_ret2
    rw [HF.out]
    exact ⟨none, 0, 0, rfl, Sl.nil0, hw1⟩
  rw [if_neg (by rw [hh]; simp)] at HR
  obtain ⟨k0, hk0, hi0⟩ := idxOf_has hh
  rw [hi0]
  clear hh hi0 hk0
  have x2 : w1.cell? ⟨w.heap.size, 2, none⟩ = some (.slice A3 n3 c3) := block_cell H0'.out 2
  go_wp2_with fail
  generalize hp : (fun i => dMatch code a b (t.flights.getD i noFlight)) = p at *
  have HP : Hid (∀ i, p i = dMatch code a b (t.flights.getD i noFlight)) := fun i => by rw [← hp]
  clear hp
  go_loopw [9, 10, 11] (fun s10 s _ wr => ∃ (k : Nat), k ≤ n3 ∧ s = .int .i64 k ∧ Below (w.heap.size + 2) w1 wr ∧ Own (Ty.int .i64) 3 wr (w.heap.size + 2) s10 (hits p k)) (fun _ s _ _ => n3 - (intOf s).toNat)
  case atStart => exact ⟨0, Nat.zero_le _, rfl, Below.refl _ _, Own.nil⟩
  case round =>
    obtain ⟨k, hk, rfl, hbr, hown⟩ := hrel
    clear x2
    have hbw : Below w.heap.size w wr := hw1.trans (hbr.mono (by omega))
    have hsr := hbr.size
    have hlh := hits_len p k
    have h200 := HL.out (by trivial)
    have x2 : wr.cell? ⟨w.heap.size, 2, none⟩ = some (.slice A3 n3 c3) := (hbr.cell (by simp)).trans (block_cell H0'.out 2)
    by_cases hlt : k < n3
    · have hks : k < t.flights.length := by omega
      obtain ⟨bb, o, rfl, hbS, hat⟩ := ((HS.out wr hbw).2.2).flight_at hks
      have HPK := Lib.hid (HP.out k)
      generalize t.flights.getD k noFlight = f at *
      have y0 : wr.cell? ⟨bb, o + k * 9, none⟩ = some (.string f.number) := hat 0 _ rfl
      have y1 := hat 1 _ rfl; have y2 := hat 2 _ rfl; have y3 := hat 3 _ rfl; have y4 := hat 4 _ rfl; have y5 := hat 5 _ rfl; have y6 := hat 6 _ rfl; have y7 := hat 7 _ rfl; have y8 := hat 8 _ rfl
      have z1 : ∀ oo, (wr.alloc oo).cell? ⟨w.heap.size + 1, 0, none⟩ = some (.int .i64 a) := fun oo => (World.cell?_alloc_past _ _ _ (by omega)).trans ((hbr.cell (by simp)).trans (block_cell H1'.out 0))
      have z2 : ∀ oo, (wr.alloc oo).cell? ⟨w.heap.size + 1, 1, none⟩ = some (.int .i64 b) := fun oo => (World.cell?_alloc_past _ _ _ (by omega)).trans ((hbr.cell (by simp)).trans (block_cell H1'.out 1))
      have HSB := Lib.hid (str_beq f.src code)
      have HOA : Hid (∀ oo, Own (Ty.int .i64) 3 (wr.alloc oo) (w.heap.size + 2) _ (hits p k)) := fun oo => hown.alloc oo
      have HBA : Hid (∀ oo, Below (w.heap.size + 2) w1 (wr.alloc oo)) := fun oo => hbr.alloc (by omega) oo
      clear hat
      rcases Bool.eq_false_or_eq_true (p k) with hpk | hpk
      · have HN := Lib.hid (hits_yes hpk)
        have hm := HPK.out.symm.trans hpk
        unfold dMatch at hm
        simp only [Bool.and_eq_true, decide_eq_true_eq] at hm
        obtain ⟨⟨m1, m2⟩, m3⟩ := hm
        have hs' : (f.src.toList == code.toList) = true := by rw [HSB.out]; simpa using m1
        have hd1 : decide (a ≤ f.dep) = true := by simpa using m2
        have hd2 : decide (f.dep < b) = true := by simpa using m3
        clear m1 hpk
        go_wp2_with (at_builtin; refine wpList_push_int rfl _ _ rfl elem_ints (by decide) (by decide) rfl ((HOA.out _).alloc _) (wr.heap.size + 1) k rfl ?c1 ?c2 ?c3 (Nat.le_refl _) ((HBA.out _).alloc ?c4 _) ?_)
        case c1 => simp
        case c2 => omega
        case c3 => simp; omega
        case c4 => simp; omega
        intro v' w7 hown7 hb7
        rw [← HN.out] at hown7
        clear hown z1 z2
        go_wp2_with fail
        go_roundw
        case rel => exact ⟨k + 1, by omega, by go_num, hb7, hown7⟩
        case measure => simp [intOf]; omega
      · have HN := Lib.hid (hits_no hpk)
        have hm := HPK.out.symm.trans hpk
        unfold dMatch at hm
        have HO2 : Hid (∀ oo, Own (Ty.int .i64) 3 (wr.alloc oo) (w.heap.size + 2) _ (hits p (k + 1))) := fun oo => by rw [HN.out]; exact hown.alloc oo
        by_cases m1 : f.src = code
        · have hs' : (f.src.toList == code.toList) = true := by rw [HSB.out]; simpa using m1
          by_cases m2 : a ≤ f.dep
          · have hd1 : decide (a ≤ f.dep) = true := by simpa using m2
            have m3 : ¬ f.dep < b := fun h => by rw [m1] at hm; simp [m2, h] at hm
            have hd2 : decide (f.dep < b) = false := by simpa using m3
            clear m1 hpk hm hown
            go_wp2_with fail
            go_roundw
            case rel => exact ⟨k + 1, by omega, by go_num, HBA.out _, HO2.out _⟩
            case measure => simp [intOf]; omega
          · have hd1 : decide (a ≤ f.dep) = false := by simpa using m2
            clear m1 hpk hm hown
            go_wp2_with fail
            go_roundw
            case rel => exact ⟨k + 1, by omega, by go_num, HBA.out _, HO2.out _⟩
            case measure => simp [intOf]; omega
        · have hs' : (f.src.toList == code.toList) = false := by rw [HSB.out]; simpa using m1
          clear m1 hpk hm hown
          go_wp2_with fail
          go_roundw
          case rel => exact ⟨k + 1, by omega, by go_num, HBA.out _, HO2.out _⟩
          case measure => simp [intOf]; omega
    · have HF : Hid (depR t code a b = (hits p k, 0)) := by
        show _ = _
        rw [HR.out, show t.flights.length = k by omega]
      obtain ⟨A9, c9, rfl, hsl9⟩ := hown.sl
      have HSL9 := Lib.hid hsl9
      clear hown hsl9
      go_wp2_with fail
      go_ret2
      rw [HF.out]
      exact ⟨A9, _, c9, rfl, HSL9.out.more fun q hq => ⟨by omega, hq.2⟩, hbw⟩

def zoneQ (t : GTT) (code : ByteArray) : GZone := if hasB (aCodes t.airports) code = false then noZone else zoneAt t code
def ZonePost2 (S : Nat → Prop) (z : GZone) (b : Bool) (w : World) (e : Ending) (w' : World) : Prop :=
  ∃ A n c, e = .returned (.tuple #[.agg #[.string z.name, .int .i64 z.off, .slice A n c], .bool b]) ∧ Sl Ty.shift w' S A n c z.shifts ∧ Below w.heap.size w w'
set_option maxRecDepth 100000 in
set_option maxHeartbeats 800000 in
theorem zoneRef_any (t : GTT) (A1 A2 A3 : Option Addr) (n1 n2 n3 c1 c2 c3 : Nat) (code : ByteArray) (w : World) (S : Nat → Prop) (hSw : ∀ b, S b → b < w.heap.size) (h0 : ttE t = 0) (hs1 : Sl Ty.zone w S A1 n1 c1 t.zones) (hs2 : Sl Ty.airport w (all_ w) A2 n2 c2 t.airports) :
    Calls Try.prog 58 #[.agg #[.slice A1 n1 c1, .slice A2 n2 c2, .slice A3 n3 c3], .string code] w (ZonePost2 S (zoneQ t code) (hasB (aCodes t.airports) code) w) := by
  have l1 : n1 ≤ t.zones.length := Nat.le_of_eq hs1.len
  have l1' : t.zones.length ≤ n1 := Nat.le_of_eq hs1.len.symm
  have l2 : n2 ≤ t.airports.length := Nat.le_of_eq hs2.len
  have l2' : t.airports.length ≤ n2 := Nat.le_of_eq hs2.len.symm
  have m1 := hs1.le
  have m2 := hs2.le
  unfold maxLen at m1 m2
  have HB0 : Hid (∀ o1 o2, Below w.heap.size w ((w.alloc o1).alloc o2)) := fun o1 o2 => below_alloc2 _ _ _
  have HH0 : Hid (∀ o1 o2, ((w.alloc o1).alloc o2).heap[w.heap.size]? = some o1) := fun o1 o2 => alloc2_0 _ _ _
  have HH1 : Hid (∀ o1 o2, ((w.alloc o1).alloc o2).heap[w.heap.size + 1]? = some o2) := fun o1 o2 => heap_alloc2_new _ _ _
  have HHZ : Hid (∀ o1 o2, ((w.alloc o1).alloc o2).heap.size = w.heap.size + 2) := fun o1 o2 => by simp
  have HS : Hid (∀ V, Below w.heap.size w V → Sl Ty.zone V (all_ V) A1 n1 c1 t.zones ∧ Sl Ty.airport V (all_ V) A2 n2 c2 t.airports) := fun V hV => ⟨(hs1.more hSw).next hV, hs2.next hV⟩
  have HS1 := Lib.hid hs1
  have HV : Hid (∀ k, k < t.airports.length → hasB (zNames t.zones) (t.airports.getD k noAirport).zone = true) := fun k hk => (aErr_zero ((ttE_zero.1 h0).a k hk)).2.2
  have HZT : Hid (zoneAt t code = t.zones.getD (idxOf (zNames t.zones) (t.airports.getD (idxOf (aCodes t.airports) code).toNat noAirport).zone).toNat noZone) := rfl
  have HZL : Hid ((zNames t.zones).length = t.zones.length) := by show _ = _; unfold zNames; simp
  have HAL : Hid ((aCodes t.airports).length = t.airports.length) := by show _ = _; unfold aCodes; simp
  clear hs1 hs2 h0
  go_enter Try.func58, Try.ntmps58
  go_wp2_with fail
  have hb0 := HB0.out (.cells #[.slice A1 n1 c1, .slice A2 n2 c2, .slice A3 n3 c3] 26) (.cells #[.string ⟨#[]⟩, .int .i64 0, .slice none 0 0] 42)
  have h0 := HH0.out (.cells #[.slice A1 n1 c1, .slice A2 n2 c2, .slice A3 n3 c3] 26) (.cells #[.string ⟨#[]⟩, .int .i64 0, .slice none 0 0] 42)
  have h1 := HH1.out (.cells #[.slice A1 n1 c1, .slice A2 n2 c2, .slice A3 n3 c3] 26) (.cells #[.string ⟨#[]⟩, .int .i64 0, .slice none 0 0] 42)
  have hz := HHZ.out (.cells #[.slice A1 n1 c1, .slice A2 n2 c2, .slice A3 n3 c3] 26) (.cells #[.string ⟨#[]⟩, .int .i64 0, .slice none 0 0] 42)
  generalize (w.alloc (.cells #[.slice A1 n1 c1, .slice A2 n2 c2, .slice A3 n3 c3] 26)).alloc (.cells #[.string ⟨#[]⟩, .int .i64 0, .slice none 0 0] 42) = W at *
  have HB := Lib.hid hb0; have H0 := Lib.hid h0; have H1 := Lib.hid h1; have HZ := Lib.hid hz
  have z0 : W.cell? ⟨w.heap.size + 1, 0, none⟩ = some (.string ⟨#[]⟩) := block_cell H1.out 0
  have z1 : W.cell? ⟨w.heap.size + 1, 1, none⟩ = some (.int .i64 0) := block_cell H1.out 1
  have z2 : W.cell? ⟨w.heap.size + 1, 2, none⟩ = some (.slice none 0 0) := block_cell H1.out 2
  have f0 : W.frozen? ⟨w.heap.size + 1, 0, none⟩ = false := block_free H1.out 0
  have f1 : W.frozen? ⟨w.heap.size + 1, 1, none⟩ = false := block_free H1.out 1
  have f2 : W.frozen? ⟨w.heap.size + 1, 2, none⟩ = false := block_free H1.out 2
  have y0 : W.cell? ⟨w.heap.size, 0, none⟩ = some (.slice A1 n1 c1) := block_cell H0.out 0
  have y1 : W.cell? ⟨w.heap.size, 1, none⟩ = some (.slice A2 n2 c2) := block_cell H0.out 1
  clear HB0 HH0 HH1 HHZ hb0 h0 h1 hz
  refine (airportIndex_any t.airports code A2 n2 c2 _ W (HS.out W HB.out).2).mono ?_
  rintro e w' ⟨rfl, rfl⟩
  rcases Bool.eq_false_or_eq_true (hasB (aCodes t.airports) code) with hh | hh
  case inr =>
    have hi := idxOf_none hh
    have hq : zoneQ t code = noZone := by unfold zoneQ; rw [if_pos hh]
    have HQ := Lib.hid hq
    have HHH := Lib.hid hh
    rw [hi]
    clear hq
    clear hi hh HZT
    go_wp2_with fail
    refine bodyPost_ret (v := .tuple #[.agg #[.string ⟨#[]⟩, .int .i64 0, .slice none 0 0], .bool false]) (by simp [results, Try.results58, go_sem, z0, z1, z2]) rfl ?_
    rw [HQ.out, HHH.out]
    exact ⟨none, 0, 0, rfl, Sl.nil0, ((HB.out.setCell (Nat.le_succ _) _).setCell (Nat.le_succ _) _).setCell (Nat.le_succ _) _⟩
  obtain ⟨k, hk, hi⟩ := idxOf_has hh
  have hk' : k < t.airports.length := by have := HAL.out; omega
  have hq : zoneQ t code = zoneAt t code := by unfold zoneQ; rw [hh, if_neg (by simp)]
  have HQ := Lib.hid hq; have HHH := Lib.hid hh
  rw [hi]
  clear hq
  rw [hi, Int.toNat_natCast] at HZT
  clear hh hi
  obtain ⟨b, o, rfl, hbS, a0, a1⟩ := (HS.out W HB.out).2.airport_at hk'
  obtain ⟨j, hj, hij⟩ := idxOf_has (HV.out k hk')
  have hj' : j < t.zones.length := by have := HZL.out; omega
  generalize t.airports.getD k noAirport = a at *
  rw [hij, Int.toNat_natCast] at HZT
  obtain ⟨b', o', A', n', c', rfl, hbS', u0', u1', u2', hsh⟩ := HS1.out.zone_at hj'
  have u0 := cell_kept u0' HB.out
  have u1 := cell_kept u1' HB.out
  have u2 := cell_kept u2' HB.out
  clear u0' u1' u2'
  rw [← HZT.out] at u0 u1 hsh
  clear HZT
  generalize zoneAt t code = z at *
  have HIJ := Lib.hid hij
  have HSH := Lib.hid hsh
  have hjn : j < n1 := by omega
  have hkn : k < n2 := by omega
  clear hij hsh
  go_wp2_with fail
  refine wp_region_still_tail 13 (by kernel_rfl) (by kernel_rfl) ?_
  simp only [List.take_succ_cons, List.take_zero, List.drop_succ_cons, List.drop_zero]
  change wpStill _ _ W.drew (fun a' => wpList _ _ _ _ a' W.drew) _ _
  repeat still_step
  refine wpStill_step (fun K hK => ?_)
  go_simp
  refine ⟨_, (zoneIndex_any t.zones a.zone _ _ _ _ _ ((HS.out W HB.out).1.drewN 1)).mono (fun e w' h => ⟨h.1, h.2.symm⟩), hK _ ?_⟩
  clear hK K
  rw [HIJ.out]
  repeat still_step
  refine wpStill_nil ?_
  go_wp2_with fail
  refine bodyPost_ret (v := .tuple #[.agg #[.string z.name, .int .i64 z.off, .slice A' n' c'], .bool true]) (by simp [results, Try.results58, go_sem, z0, z1, z2]) rfl ?_
  rw [HQ.out, HHH.out]
  have hb3 : Below w.heap.size w (((W.drew.setCell ⟨w.heap.size + 1, 0, none⟩ (.string z.name)).setCell ⟨w.heap.size + 1, 1, none⟩ (.int .i64 z.off)).setCell ⟨w.heap.size + 1, 2, none⟩ (.slice A' n' c')) := (((below_drewN HB.out 1).setCell (Nat.le_succ _) _).setCell (Nat.le_succ _) _).setCell (Nat.le_succ _) _
  exact ⟨A', n', c', rfl, HSH.out.keep (fun b hb => hb3.block b (hSw b hb)), hb3⟩

set_option maxRecDepth 100000 in
set_option maxHeartbeats 800000 in
theorem zoneOfR_any (t : GTT) (A1 A2 A3 : Option Addr) (n1 n2 n3 c1 c2 c3 : Nat) (code : ByteArray) (w : World) (ht : t.ok) (hs1 : Sl Ty.zone w (all_ w) A1 n1 c1 t.zones) (hs2 : Sl Ty.airport w (all_ w) A2 n2 c2 t.airports) (hs3 : Sl Ty.flight w (all_ w) A3 n3 c3 t.flights) :
    Calls Try.prog 22 #[.agg #[.slice A1 n1 c1, .slice A2 n2 c2, .slice A3 n3 c3], .string code] w (ZonePost (zoneR t code) w) := by
  have HB0 : Hid (∀ o1 o2, Below w.heap.size w ((w.alloc o1).alloc o2)) := fun o1 o2 => below_alloc2 _ _ _
  have HH0 : Hid (∀ o1 o2, ((w.alloc o1).alloc o2).heap[w.heap.size]? = some o1) := fun o1 o2 => alloc2_0 _ _ _
  have HH1 : Hid (∀ o1 o2, ((w.alloc o1).alloc o2).heap[w.heap.size + 1]? = some o2) := fun o1 o2 => heap_alloc2_new _ _ _
  have HHZ : Hid (∀ o1 o2, ((w.alloc o1).alloc o2).heap.size = w.heap.size + 2) := fun o1 o2 => by simp
  have HS : Hid (∀ V, Below w.heap.size w V → Sl Ty.zone V (all_ V) A1 n1 c1 t.zones ∧ Sl Ty.airport V (all_ V) A2 n2 c2 t.airports ∧ Sl Ty.flight V (all_ V) A3 n3 c3 t.flights) := fun V hV => ⟨hs1.next hV, hs2.next hV, hs3.next hV⟩
  have HZW : Hid (∀ V, Below w.heap.size w V → Sl Ty.zone V (all_ w) A1 n1 c1 t.zones) := fun V hV => hs1.keep (all_keep hV)
  have HT := Lib.hid ht
  have HR : Hid (zoneR t code = if ttE t ≠ 0 then (noZone, ttE t) else if hasB (aCodes t.airports) code = false then (noZone, 6) else (zoneAt t code, 0)) := rfl
  have HZQ : Hid (zoneQ t code = if hasB (aCodes t.airports) code = false then noZone else zoneAt t code) := rfl
  clear hs1 hs2 hs3 ht
  go_enter Try.func22, Try.ntmps22
  go_wp2_with fail
  have hb0 := HB0.out (.cells #[.slice A1 n1 c1, .slice A2 n2 c2, .slice A3 n3 c3] 26) (.cells #[.string ⟨#[]⟩, .int .i64 0, .slice none 0 0] 42)
  have h0 := HH0.out (.cells #[.slice A1 n1 c1, .slice A2 n2 c2, .slice A3 n3 c3] 26) (.cells #[.string ⟨#[]⟩, .int .i64 0, .slice none 0 0] 42)
  have h1 := HH1.out (.cells #[.slice A1 n1 c1, .slice A2 n2 c2, .slice A3 n3 c3] 26) (.cells #[.string ⟨#[]⟩, .int .i64 0, .slice none 0 0] 42)
  have hz := HHZ.out (.cells #[.slice A1 n1 c1, .slice A2 n2 c2, .slice A3 n3 c3] 26) (.cells #[.string ⟨#[]⟩, .int .i64 0, .slice none 0 0] 42)
  generalize (w.alloc (.cells #[.slice A1 n1 c1, .slice A2 n2 c2, .slice A3 n3 c3] 26)).alloc (.cells #[.string ⟨#[]⟩, .int .i64 0, .slice none 0 0] 42) = W at *
  have HB := Lib.hid hb0; have H0 := Lib.hid h0; have H1 := Lib.hid h1; have HZ := Lib.hid hz
  clear HB0 HH0 HH1 HHZ hb0 h0 h1 hz
  refine (validateR_any t A1 A2 A3 n1 n2 n3 c1 c2 c3 W HT.out (HS.out W HB.out).1 (HS.out W HB.out).2.1 (HS.out W HB.out).2.2).mono ?_
  rintro e w1 ⟨rfl, hb1⟩
  have hw1 : Below w.heap.size w w1 := HB.out.trans (hb1.mono HB.out.size)
  have hs1 := hb1.size
  have H0' : Hid (w1.heap[w.heap.size]? = _) := (hb1.block _ (by have := HZ.out; omega)).trans H0.out
  have H1' : Hid (w1.heap[w.heap.size + 1]? = _) := (hb1.block _ (by have := HZ.out; omega)).trans H1.out
  have hz1 : w.heap.size + 2 ≤ w1.heap.size := by have := HZ.out; omega
  have z0 : w1.cell? ⟨w.heap.size + 1, 0, none⟩ = some (.string ⟨#[]⟩) := block_cell H1'.out 0
  have z1 : w1.cell? ⟨w.heap.size + 1, 1, none⟩ = some (.int .i64 0) := block_cell H1'.out 1
  have z2 : w1.cell? ⟨w.heap.size + 1, 2, none⟩ = some (.slice none 0 0) := block_cell H1'.out 2
  have f0 : w1.frozen? ⟨w.heap.size + 1, 0, none⟩ = false := block_free H1'.out 0
  have f1 : w1.frozen? ⟨w.heap.size + 1, 1, none⟩ = false := block_free H1'.out 1
  have f2 : w1.frozen? ⟨w.heap.size + 1, 2, none⟩ = false := block_free H1'.out 2
  have hbad : ∀ (W' : World) (x : Int), Below w.heap.size w W' → ZonePost (noZone, x) w (.returned (.tuple #[.agg #[.string ⟨#[]⟩, .int .i64 0, .slice none 0 0], .int .i64 x])) W' := fun W' x hb => ⟨none, 0, 0, rfl, Sl.nil0, hb⟩
  have HBAD := Lib.hid hbad
  clear hbad H0 H1 HB HZ hb1 hs1
  by_cases hev : ttE t = 0
  case neg =>
    have hev' : (ttE t != 0) = true := by simpa using hev
    have HF : Hid (zoneR t code = (noZone, ttE t)) := by show _ = _; rw [HR.out, if_pos hev]
    clear HR hev
    go_wp2_with fail
    refine bodyPost_ret (v := .tuple #[.agg #[.string ⟨#[]⟩, .int .i64 0, .slice none 0 0], .int .i64 (ttE t)]) (by simp [results, Try.results22, go_sem, z0, z1, z2]) rfl ?_
    rw [HF.out]
    exact HBAD.out _ _ (((hw1.setCell (Nat.le_succ _) _).setCell (Nat.le_succ _) _).setCell (Nat.le_succ _) _)
  rw [if_neg (by simp [hev])] at HR
  have HEV := Lib.hid hev
  rw [hev]
  clear hev z0 z1 z2 f0 f1 f2
  have x0 : w1.cell? ⟨w.heap.size, 0, none⟩ = some (.slice A1 n1 c1) := block_cell H0'.out 0
  have x1 : w1.cell? ⟨w.heap.size, 1, none⟩ = some (.slice A2 n2 c2) := block_cell H0'.out 1
  have x2 : w1.cell? ⟨w.heap.size, 2, none⟩ = some (.slice A3 n3 c3) := block_cell H0'.out 2
  go_wp2_with fail
  refine (zoneRef_any t A1 A2 A3 n1 n2 n3 c1 c2 c3 code w1 (all_ w) (fun b hb => Nat.lt_of_lt_of_le hb hw1.size) HEV.out (HZW.out w1 hw1) (HS.out w1 hw1).2.1).mono ?_
  rintro e w2 ⟨A', n', c', rfl, hsh, hb2⟩
  have hw2 : Below w.heap.size w w2 := hw1.trans (hb2.mono hw1.size)
  have hs2 := hb2.size
  have H1'' : Hid (w2.heap[w.heap.size + 1]? = _) := (hb2.block _ (by omega)).trans H1'.out
  generalize zoneQ t code = z at *
  have hA := hw2.alloc (by omega) (.cells #[.string z.name, .int .i64 z.off, .slice A' n' c'] 42)
  have hA2 := (Below.refl _ w2).alloc (Nat.le_refl _) (.cells #[.string z.name, .int .i64 z.off, .slice A' n' c'] 42)
  have g := heap_alloc_new w2 (.cells #[.string z.name, .int .i64 z.off, .slice A' n' c'] 42)
  have gz : (w2.alloc (.cells #[.string z.name, .int .i64 z.off, .slice A' n' c'] 42)).heap.size = w2.heap.size + 1 := by simp
  have H1a : Hid ((w2.alloc (.cells #[.string z.name, .int .i64 z.off, .slice A' n' c'] 42)).heap[w.heap.size + 1]? = _) := (hA2.block _ (by omega)).trans H1''.out
  have HSH := Lib.hid hsh
  have HHA2 := Lib.hid hA2
  have HG := Lib.hid g
  have HA := Lib.hid hA
  clear hsh hA hA2 g x0 x1 x2 hb2
  have z0 : (w2.alloc (.cells #[.string z.name, .int .i64 z.off, .slice A' n' c'] 42)).cell? ⟨w.heap.size + 1, 0, none⟩ = some (.string ⟨#[]⟩) := block_cell H1a.out 0
  have z1 : (w2.alloc (.cells #[.string z.name, .int .i64 z.off, .slice A' n' c'] 42)).cell? ⟨w.heap.size + 1, 1, none⟩ = some (.int .i64 0) := block_cell H1a.out 1
  have z2 : (w2.alloc (.cells #[.string z.name, .int .i64 z.off, .slice A' n' c'] 42)).cell? ⟨w.heap.size + 1, 2, none⟩ = some (.slice none 0 0) := block_cell H1a.out 2
  have f0 : (w2.alloc (.cells #[.string z.name, .int .i64 z.off, .slice A' n' c'] 42)).frozen? ⟨w.heap.size + 1, 0, none⟩ = false := block_free H1a.out 0
  have f1 : (w2.alloc (.cells #[.string z.name, .int .i64 z.off, .slice A' n' c'] 42)).frozen? ⟨w.heap.size + 1, 1, none⟩ = false := block_free H1a.out 1
  have f2 : (w2.alloc (.cells #[.string z.name, .int .i64 z.off, .slice A' n' c'] 42)).frozen? ⟨w.heap.size + 1, 2, none⟩ = false := block_free H1a.out 2
  rcases Bool.eq_false_or_eq_true (hasB (aCodes t.airports) code) with hh | hh
  case inr =>
    have HF : Hid (zoneR t code = (noZone, 6)) := by show _ = _; rw [HR.out, if_pos hh]
    rw [hh]
    clear HR hh HZQ
    go_wp2_with fail
    refine bodyPost_ret (v := .tuple #[.agg #[.string ⟨#[]⟩, .int .i64 0, .slice none 0 0], .int .i64 6]) (by simp [results, Try.results22, go_sem, z0, z1, z2]) rfl ?_
    rw [HF.out]
    exact HBAD.out _ _ (((HA.out.setCell (Nat.le_succ _) _).setCell (Nat.le_succ _) _).setCell (Nat.le_succ _) _)
  have HF : Hid (zoneR t code = (z, 0)) := by show _ = _; rw [HR.out, HZQ.out, hh]; simp
  rw [hh]
  clear HR hh HZQ
  go_wp2_with fail
  refine bodyPost_ret (v := .tuple #[.agg #[.string z.name, .int .i64 z.off, .slice A' n' c'], .int .i64 0]) (by simp [results, Try.results22, go_sem, z0, z1, z2]) rfl ?_
  rw [HF.out]
  have hfin := ((HA.out.setCell (p := ⟨w.heap.size + 1, 0, none⟩) (Nat.le_succ _) (.string z.name)).setCell (p := ⟨w.heap.size + 1, 1, none⟩) (Nat.le_succ _) (.int .i64 z.off)).setCell (p := ⟨w.heap.size + 1, 2, none⟩) (Nat.le_succ _) (.slice A' n' c')
  refine ⟨A', n', c', rfl, (HSH.out.keep fun b hb => ?_).more fun b hb => Nat.lt_of_lt_of_le hb hfin.size, hfin⟩
  have hb' : b < w.heap.size := hb
  rw [heap_setCell_other _ _ _ _ (by simp; omega), heap_setCell_other _ _ _ _ (by simp; omega), heap_setCell_other _ _ _ _ (by simp; omega)]
  exact HHA2.out.block b (by omega)
end Go.Proofs.Ytldeoaddogifpaa
