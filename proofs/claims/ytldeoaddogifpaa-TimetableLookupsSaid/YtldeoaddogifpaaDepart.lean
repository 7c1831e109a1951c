/-
  Contracts of slices.ContainsFunc over airports with Departures' closure, and of timetable.Departures.
  Condition: the timetable's data are well formed.
-/
import Derived.Test.YtldeoaddogifpaaFind
import Derived.Test.YtldeoaddogifpaaBase
import Derived.Test.YtldeoaddogifpaaEncode
namespace Go.Proofs.Ytldeoaddogifpaa
set_option linter.unusedSimpArgs false
set_option linter.unusedVariables false
open Go.RowKit

theorem codeIs_any (a : GAirport) (g : Nat) (code : ByteArray) (w : World) (h : w.cell? ⟨g, 0, none⟩ = some (.string code)) :
    Calls Try.prog 55 #[.agg #[.string a.code, .string a.zone], .pointer (some ⟨g, 0, none⟩)] w fun e w' => e = .returned (.bool (decide (a.code = code))) ∧ Below w.heap.size w w' := by
  have hg : g < w.heap.size := World.block_lt_of_cell? w _ h
  have hc : ∀ o, (w.alloc o).cell? ⟨g, 0, none⟩ = some (.string code) := fun o => (World.cell?_alloc_past _ _ _ hg).trans h
  have HSB := Lib.hid (str_beq a.code code)
  have HA : Hid (∀ o, Below w.heap.size w (w.alloc o)) := fun o => (Below.refl _ _).alloc (Nat.le_refl _) o
  by_cases he : a.code = code
  · have hs : (a.code.toList == code.toList) = true := by rw [HSB.out]; simpa using he
    have HE : Hid (decide (a.code = code) = true) := by show _ = _; simpa using he
    clear he
    go_enter Try.func55, Try.ntmps55
    go_wp2_with fail
    go_ret
    exact ⟨by rw [HE.out]; rfl, HA.out _⟩
  · have hs : (a.code.toList == code.toList) = false := by rw [HSB.out]; simpa using he
    have HE : Hid (decide (a.code = code) = false) := by show _ = _; simpa using he
    clear he
    go_enter Try.func55, Try.ntmps55
    go_wp2_with fail
    go_ret
    exact ⟨by rw [HE.out]; rfl, HA.out _⟩
def aHit (l : List GAirport) (code : ByteArray) (i : Nat) : Bool := decide ((l.getD i noAirport).code = code)
def ixOpt (o : Option Nat) : Int := match o with | some i => (i : Int) | none => -1
def IxPost (x : Int) (w : World) (e : Ending) (w' : World) : Prop := e = .returned (.int .i64 x) ∧ Below w.heap.size w w'
set_option maxRecDepth 100000 in
theorem indexFunc_any (l : List GAirport) (A : Option Addr) (n c g : Nat) (code : ByteArray) (w : World) (hs : Sl Ty.airport w (all_ w) A n c l) (h : w.cell? ⟨g, 0, none⟩ = some (.string code)) :
    Calls Try.prog 88 #[.slice A n c, .func (.func 55) #[] #[.pointer (some ⟨g, 0, none⟩)]] w (IxPost (ixOpt (firstHit (aHit l code) l.length)) w) := by
  have hn1 : n ≤ l.length := Nat.le_of_eq hs.len
  have hn2 : l.length ≤ n := Nat.le_of_eq hs.len.symm
  have hle := hs.le
  unfold maxLen at hle
  have HS := Lib.hid hs
  have HG := Lib.hid h
  clear hs h
  go_enter Try.func88, Try.ntmps88
  go_wp2_with fail
  go_loopw [5, 8] (fun _ s wr => ∃ k : Nat, k ≤ n ∧ s = .int .i64 k ∧ Below w.heap.size w wr ∧ Hid (∀ j, j < k → aHit l code j = false)) (fun _ s _ => n - (intOf s).toNat)
  case atStart => exact ⟨0, Nat.zero_le _, rfl, Below.refl _ _, fun j hj => absurd hj (by omega)⟩
  case round =>
    obtain ⟨k, hk, rfl, hbr, HK⟩ := hrel
    by_cases hlt : k < n
    · have hks : k < l.length := by omega
      obtain ⟨b, o, rfl, hbS, y0, y1⟩ := (HS.out.keep (all_keep hbr)).airport_at hks
      have HAH : Hid (aHit l code k = decide ((l.getD k noAirport).code = code)) := rfl
      generalize l.getD k noAirport = a at *
      have HC := Lib.hid (codeIs_any a g code wr (cell_kept HG.out hbr))
      go_wp2_with fail
      refine HC.out.mono ?_
      rintro e w1 ⟨rfl, hb1⟩
      clear HC y0 y1
      have hw1 : Below w.heap.size w w1 := hbr.trans (hb1.mono hbr.size)
      rw [← HAH.out]
      rcases Bool.eq_false_or_eq_true (aHit l code k) with hh | hh
      · have HF : Hid (ixOpt (firstHit (aHit l code) l.length) = (k : Int)) := by show _ = _; rw [firstHit_some hks HK.out hh]; rfl
        rw [hh]
        clear hh
        go_wp2_with fail
        go_ret
        exact ⟨by rw [HF.out]; rfl, hw1⟩
      · have HM : Hid (∀ j, j < k + 1 → aHit l code j = false) := fun j hj => by
          rcases Nat.lt_or_eq_of_le (Nat.le_of_lt_succ hj) with h1 | rfl
          · exact HK.out j h1
          · exact hh
        rw [hh]
        clear hh
        go_wp2_with fail
        go_roundw
        case rel => exact ⟨k + 1, by omega, by go_num, hw1, HM⟩
        case measure => simp [intOf]; omega
    · have HF : Hid (ixOpt (firstHit (aHit l code) l.length) = -1) := by
        show _ = _
        rw [firstHit_none (fun j hj => HK.out j (by omega))]
        rfl
      go_wp2_with fail
      go_ret
      exact ⟨by rw [HF.out]; rfl, hbr⟩
def BoolPost (x : Bool) (w : World) (e : Ending) (w' : World) : Prop := e = .returned (.bool x) ∧ Below w.heap.size w w'
theorem containsFunc_any (l : List GAirport) (A : Option Addr) (n c g : Nat) (code : ByteArray) (w : World) (hs : Sl Ty.airport w (all_ w) A n c l) (h : w.cell? ⟨g, 0, none⟩ = some (.string code)) :
    Calls Try.prog 56 #[.slice A n c, .func (.func 55) #[] #[.pointer (some ⟨g, 0, none⟩)]] w (BoolPost (firstHit (aHit l code) l.length).isSome w) := by
  have HC := Lib.hid (indexFunc_any l A n c g code w hs h)
  clear hs h
  cases hf : firstHit (aHit l code) l.length with
  | none =>
    rw [hf] at HC
    have HC' : Hid (Calls Try.prog 88 #[.slice A n c, .func (.func 55) #[] #[.pointer (some ⟨g, 0, none⟩)]] w (IxPost (-1) w)) := HC
    clear HC hf
    go_enter Try.func56, Try.ntmps56
    go_wp2_with fail
    refine HC'.out.mono ?_
    rintro e w1 ⟨rfl, hb1⟩
    go_wp2_with fail
    go_ret
    exact ⟨rfl, hb1⟩
  | some i =>
    rw [hf] at HC
    have HC' : Hid (Calls Try.prog 88 #[.slice A n c, .func (.func 55) #[] #[.pointer (some ⟨g, 0, none⟩)]] w (IxPost (i : Int) w)) := HC
    have hd : decide ((0 : Int) ≤ (i : Int)) = true := by simp
    clear HC hf
    go_enter Try.func56, Try.ntmps56
    go_wp2_with fail
    refine HC'.out.mono ?_
    rintro e w1 ⟨rfl, hb1⟩
    go_wp2_with fail
    go_ret
    exact ⟨by simp, hb1⟩
def dMatch (code : ByteArray) (a b : Int) (f : GFlight) : Bool := decide (f.src = code) && decide (a ≤ f.dep) && decide (f.dep < b)
def hits (p : Nat → Bool) (k : Nat) : List Int := ((List.range k).filter p).map fun (i : Nat) => (i : Int)
theorem hits_yes {p : Nat → Bool} {k : Nat} (h : p k = true) : hits p (k + 1) = hits p k ++ [(k : Int)] := by simp [hits, List.range_succ, List.filter_append, h]
theorem hits_no {p : Nat → Bool} {k : Nat} (h : p k = false) : hits p (k + 1) = hits p k := by simp [hits, List.range_succ, List.filter_append, h]
theorem hits_len (p : Nat → Bool) (k : Nat) : (hits p k).length ≤ k := by
  unfold hits
  rw [List.length_map]
  have := List.length_filter_le p (List.range k)
  simpa using this
def depR (t : GTT) (code : ByteArray) (a b : Int) : List Int × Int :=
  if ttE t ≠ 0 then ([], ttE t) else if (firstHit (aHit t.airports code) t.airports.length).isSome = false then ([], 6) else
    (hits (fun i => dMatch code a b (t.flights.getD i noFlight)) t.flights.length, 0)
def DepPost (r : List Int × Int) (w : World) (e : Ending) (w' : World) : Prop :=
  ∃ A n c, e = .returned (.tuple #[.slice A n c, .int .i64 r.2]) ∧ Sl (Ty.int .i64) w' (fun b => w.heap.size ≤ b ∧ b < w'.heap.size) A n c r.1 ∧ Below w.heap.size w w'
theorem elem_ints : Elem Try.prog 31 3 1 8 := ⟨Try.underlying31, by kernel_rfl⟩
set_option maxRecDepth 100000 in
set_option maxHeartbeats 1600000 in
theorem departures_any (t : GTT) (A1 A2 A3 : Option Addr) (n1 n2 n3 c1 c2 c3 : Nat) (code : ByteArray) (a b : Int) (w : World) (ht : t.ok) (hs1 : Sl Ty.zone w (all_ w) A1 n1 c1 t.zones) (hs2 : Sl Ty.airport w (all_ w) A2 n2 c2 t.airports) (hs3 : Sl Ty.flight w (all_ w) A3 n3 c3 t.flights) :
    Calls Try.prog 20 #[.agg #[.slice A1 n1 c1, .slice A2 n2 c2, .slice A3 n3 c3], .string code, .agg #[.int .i64 a, .int .i64 b]] w (DepPost (depR t code a b) w) := by
  have hn1 : n3 ≤ t.flights.length := Nat.le_of_eq hs3.len
  have hn2 : t.flights.length ≤ n3 := Nat.le_of_eq hs3.len.symm
  have hle := hs3.le
  unfold maxLen at hle
  have HB0 : Hid (∀ o1 o2 o3, Below w.heap.size w (((w.alloc o1).alloc o2).alloc o3)) := fun o1 o2 o3 => below_alloc3 _ _ _ _
  have HH0 : Hid (∀ o1 o2 o3, (((w.alloc o1).alloc o2).alloc o3).heap[w.heap.size]? = some o1) := fun o1 o2 o3 => alloc3_0 _ _ _ _
  have HH1 : Hid (∀ o1 o2 o3, (((w.alloc o1).alloc o2).alloc o3).heap[w.heap.size + 1]? = some o2) := fun o1 o2 o3 => alloc3_1 _ _ _ _
  have HH2 : Hid (∀ o1 o2 o3, (((w.alloc o1).alloc o2).alloc o3).heap[w.heap.size + 2]? = some o3) := fun o1 o2 o3 => alloc3_2 _ _ _ _
  have HHZ : Hid (∀ o1 o2 o3, (((w.alloc o1).alloc o2).alloc o3).heap.size = w.heap.size + 3) := fun o1 o2 o3 => by simp
  have HS : Hid (∀ V, Below w.heap.size w V → Sl Ty.zone V (all_ V) A1 n1 c1 t.zones ∧ Sl Ty.airport V (all_ V) A2 n2 c2 t.airports ∧ Sl Ty.flight V (all_ w) A3 n3 c3 t.flights) := fun V hV => ⟨hs1.next hV, hs2.next hV, hs3.keep (all_keep hV)⟩
  have HS3 : Hid (∀ V, Below w.heap.size w V → Sl Ty.flight V (all_ V) A3 n3 c3 t.flights) := fun V hV => hs3.next hV
  have HT := Lib.hid ht
  have HL : Hid (ttE t = 0 → t.flights.length ≤ 200) := fun h => (ttE_zero.1 h).l3
  have HR : Hid (depR t code a b = if ttE t ≠ 0 then ([], ttE t) else if (firstHit (aHit t.airports code) t.airports.length).isSome = false then ([], 6) else
    (hits (fun i => dMatch code a b (t.flights.getD i noFlight)) t.flights.length, 0)) := rfl
  clear hs1 hs2 hs3 ht
  go_enter Try.func20, Try.ntmps20
  go_wp2_with fail
  have hb0 := HB0.out (.cells #[.slice A1 n1 c1, .slice A2 n2 c2, .slice A3 n3 c3] 26) (.cells #[.string code] 9) (.cells #[.int .i64 a, .int .i64 b] 59)
  have h0 := HH0.out (.cells #[.slice A1 n1 c1, .slice A2 n2 c2, .slice A3 n3 c3] 26) (.cells #[.string code] 9) (.cells #[.int .i64 a, .int .i64 b] 59)
  have h1 := HH1.out (.cells #[.slice A1 n1 c1, .slice A2 n2 c2, .slice A3 n3 c3] 26) (.cells #[.string code] 9) (.cells #[.int .i64 a, .int .i64 b] 59)
  have h2 := HH2.out (.cells #[.slice A1 n1 c1, .slice A2 n2 c2, .slice A3 n3 c3] 26) (.cells #[.string code] 9) (.cells #[.int .i64 a, .int .i64 b] 59)
  have hz := HHZ.out (.cells #[.slice A1 n1 c1, .slice A2 n2 c2, .slice A3 n3 c3] 26) (.cells #[.string code] 9) (.cells #[.int .i64 a, .int .i64 b] 59)
  generalize ((w.alloc (.cells #[.slice A1 n1 c1, .slice A2 n2 c2, .slice A3 n3 c3] 26)).alloc (.cells #[.string code] 9)).alloc (.cells #[.int .i64 a, .int .i64 b] 59) = W at *
  have HB := Lib.hid hb0; have H0 := Lib.hid h0; have H1 := Lib.hid h1; have H2 := Lib.hid h2; have HZ := Lib.hid hz
  clear HB0 HH0 HH1 HH2 HHZ hb0 h0 h1 h2 hz
  refine (validate_any t A1 A2 A3 n1 n2 n3 c1 c2 c3 W HT.out (HS.out W HB.out).1 (HS.out W HB.out).2.1 (HS3.out W HB.out)).mono ?_
  rintro e w1 ⟨rfl, hb1⟩
  have hw1 : Below w.heap.size w w1 := HB.out.trans (hb1.mono HB.out.size)
  have hs1 := hb1.size
  generalize ttE t = ev at *
  by_cases hev : ev = 0
  case neg =>
    have hev' : (ev != 0) = true := by simpa using hev
    have HF : Hid (depR t code a b = ([], ev)) := by show _ = _; rw [HR.out, if_pos hev]
    clear HR hev
    go_wp2_with fail
    go_ret2
    rw [HF.out]
    exact ⟨none, 0, 0, rfl, Sl.nil0, hw1⟩
  subst hev
  rw [if_neg (by simp)] at HR
  have H0' : Hid (w1.heap[w.heap.size]? = _) := (hb1.block _ (by have := HZ.out; omega)).trans H0.out
  have H1' : Hid (w1.heap[w.heap.size + 1]? = _) := (hb1.block _ (by have := HZ.out; omega)).trans H1.out
  have H2' : Hid (w1.heap[w.heap.size + 2]? = _) := (hb1.block _ (by have := HZ.out; omega)).trans H2.out
  have hz1 : w.heap.size + 3 ≤ w1.heap.size := by have := HZ.out; omega
  have x1 : w1.cell? ⟨w.heap.size, 1, none⟩ = some (.slice A2 n2 c2) := block_cell H0'.out 1
  clear H0 H1 H2 HB HZ hb1 hs1
  go_wp2_with fail
  refine (containsFunc_any t.airports A2 n2 c2 (w.heap.size + 1) code w1 (HS.out w1 hw1).2.1 (block_cell H1'.out 0)).mono ?_
  rintro e w2 ⟨rfl, hb2⟩
  have hw2 : Below w.heap.size w w2 := hw1.trans (hb2.mono hw1.size)
  have hs2 := hb2.size
  clear x1
  rcases Bool.eq_false_or_eq_true (firstHit (aHit t.airports code) t.airports.length).isSome with hh | hh
  case inr =>
    have HF : Hid (depR t code a b = ([], 6)) := by show _ = _; rw [HR.out, if_pos hh]
    rw [hh]
    clear HR hh
    go_wp2_with fail
    go_ret2
    rw [HF.out]
    exact ⟨none, 0, 0, rfl, Sl.nil0, hw2⟩
  rw [if_neg (by rw [hh]; simp)] at HR
  rw [hh]
  clear hh
  have H0'' : Hid (w2.heap[w.heap.size]? = _) := (hb2.block _ (by omega)).trans H0'.out
  have H1'' : Hid (w2.heap[w.heap.size + 1]? = _) := (hb2.block _ (by omega)).trans H1'.out
  have H2'' : Hid (w2.heap[w.heap.size + 2]? = _) := (hb2.block _ (by omega)).trans H2'.out
  have x2 : w2.cell? ⟨w.heap.size, 2, none⟩ = some (.slice A3 n3 c3) := block_cell H0''.out 2
  have hz2 : w.heap.size + 3 ≤ w2.heap.size := by omega
  clear H0' H1' H2' hb2 hs2
  go_wp2_with fail
  generalize hp : (fun i => dMatch code a b (t.flights.getD i noFlight)) = p at *
  have HP : Hid (∀ i, p i = dMatch code a b (t.flights.getD i noFlight)) := fun i => by rw [← hp]
  clear hp
  go_loopw [10, 11, 12, 27] (fun s10 _ _ s wr => ∃ (k : Nat), k ≤ n3 ∧ s = .int .i64 k ∧ Below (w.heap.size + 3) w2 wr ∧ Own (Ty.int .i64) 3 wr (w.heap.size + 3) s10 (hits p k)) (fun _ _ _ s _ => n3 - (intOf s).toNat)
  case atStart => exact ⟨0, Nat.zero_le _, rfl, Below.refl _ _, Own.nil⟩
  case round =>
    obtain ⟨k, hk, rfl, hbr, hown⟩ := hrel
    clear x2
    have hbw : Below w.heap.size w wr := hw2.trans (hbr.mono (by omega))
    have hsr := hbr.size
    have hlh := hits_len p k
    have h200 := HL.out (by trivial)
    by_cases hlt : k < n3
    · have hks : k < t.flights.length := by omega
      obtain ⟨bb, o, rfl, hbS, hat⟩ := ((HS.out wr hbw).2.2).flight_at hks
      have HPK := Lib.hid (HP.out k)
      generalize t.flights.getD k noFlight = f at *
      have y0 : wr.cell? ⟨bb, o + k * 9, none⟩ = some (.string f.number) := hat 0 _ rfl
      have y1 := hat 1 _ rfl; have y2 := hat 2 _ rfl; have y3 := hat 3 _ rfl; have y4 := hat 4 _ rfl; have y5 := hat 5 _ rfl; have y6 := hat 6 _ rfl; have y7 := hat 7 _ rfl; have y8 := hat 8 _ rfl
      have hA : ∀ oo, Below wr.heap.size wr (wr.alloc oo) := fun oo => (Below.refl _ _).alloc (Nat.le_refl _) oo
      have z0 : ∀ oo, (wr.alloc oo).cell? ⟨w.heap.size + 1, 0, none⟩ = some (.string code) := fun oo => (World.cell?_alloc_past _ _ _ (by omega)).trans ((hbr.cell (by simp)).trans (block_cell H1''.out 0))
      have z1 : ∀ oo, (wr.alloc oo).cell? ⟨w.heap.size + 2, 0, none⟩ = some (.int .i64 a) := fun oo => (World.cell?_alloc_past _ _ _ (by omega)).trans ((hbr.cell (by simp)).trans (block_cell H2''.out 0))
      have z2 : ∀ oo, (wr.alloc oo).cell? ⟨w.heap.size + 2, 1, none⟩ = some (.int .i64 b) := fun oo => (World.cell?_alloc_past _ _ _ (by omega)).trans ((hbr.cell (by simp)).trans (block_cell H2''.out 1))
      have HSB := Lib.hid (str_beq f.src code)
      have HOA : Hid (∀ oo, Own (Ty.int .i64) 3 (wr.alloc oo) (w.heap.size + 3) _ (hits p k)) := fun oo => hown.alloc oo
      have HBA : Hid (∀ oo, Below (w.heap.size + 3) w2 (wr.alloc oo)) := fun oo => hbr.alloc (by omega) oo
      clear hat
      rcases Bool.eq_false_or_eq_true (p k) with hpk | hpk
      · have HN := Lib.hid (hits_yes hpk)
        have hm := HPK.out.symm.trans hpk
        unfold dMatch at hm
        simp only [Bool.and_eq_true, decide_eq_true_eq] at hm
        obtain ⟨⟨m1, m2⟩, m3⟩ := hm
        have hs' : (f.src.toList == code.toList) = true := by rw [HSB.out]; simpa using m1
        have hd1 : decide (a ≤ f.dep) = true := by simpa using m2
        have hd2 : decide (f.dep < b) = true := by simpa using m3
        clear m1 hpk
        go_wp2_with (at_builtin; refine wpList_push_int rfl _ _ rfl elem_ints (by decide) (by decide) rfl ((HOA.out _).alloc _) (wr.heap.size + 1) k rfl ?c1 ?c2 ?c3 (Nat.le_refl _) ((HBA.out _).alloc ?c4 _) ?_)
        case c1 => simp
        case c2 => omega
        case c3 => simp; omega
        case c4 => simp; omega
        intro v' w7 hown7 hb7
        rw [← HN.out] at hown7
        clear hown z0 z1 z2
        go_wp2_with fail
        go_roundw
        case rel => exact ⟨k + 1, by omega, by go_num, hb7, hown7⟩
        case measure => simp [intOf]; omega
      · have HN := Lib.hid (hits_no hpk)
        have hm := HPK.out.symm.trans hpk
        unfold dMatch at hm
        have HO2 : Hid (∀ oo, Own (Ty.int .i64) 3 (wr.alloc oo) (w.heap.size + 3) _ (hits p (k + 1))) := fun oo => by rw [HN.out]; exact hown.alloc oo
        by_cases m1 : f.src = code
        · have hs' : (f.src.toList == code.toList) = true := by rw [HSB.out]; simpa using m1
          by_cases m2 : a ≤ f.dep
          · have hd1 : decide (a ≤ f.dep) = true := by simpa using m2
            have m3 : ¬ f.dep < b := fun h => by rw [m1] at hm; simp [m2, h] at hm
            have hd2 : decide (f.dep < b) = false := by simpa using m3
            clear m1 hpk hm hown
            go_wp2_with fail
            go_roundw
            case rel => exact ⟨k + 1, by omega, by go_num, HBA.out _, HO2.out _⟩
            case measure => simp [intOf]; omega
          · have hd1 : decide (a ≤ f.dep) = false := by simpa using m2
            clear m1 hpk hm hown
            go_wp2_with fail
            go_roundw
            case rel => exact ⟨k + 1, by omega, by go_num, HBA.out _, HO2.out _⟩
            case measure => simp [intOf]; omega
        · have hs' : (f.src.toList == code.toList) = false := by rw [HSB.out]; simpa using m1
          clear m1 hpk hm hown
          go_wp2_with fail
          go_roundw
          case rel => exact ⟨k + 1, by omega, by go_num, HBA.out _, HO2.out _⟩
          case measure => simp [intOf]; omega
    · have HF : Hid (depR t code a b = (hits p k, 0)) := by
        show _ = _
        rw [HR.out, show t.flights.length = k by omega]
      obtain ⟨A9, c9, rfl, hsl9⟩ := hown.sl
      have HSL9 := Lib.hid hsl9
      clear hown hsl9
      go_wp2_with fail
      go_ret2
      rw [HF.out]
      exact ⟨A9, _, c9, rfl, HSL9.out.more fun q hq => ⟨by omega, hq.2⟩, hbw⟩
end Go.Proofs.Ytldeoaddogifpaa
