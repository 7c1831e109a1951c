/-
  Contract of crew.Decode.
  Condition: the data are well formed, the bytes are bytes.
-/
import Derived.Test.YtkhedjfdjjeopaaCrewRead
import Derived.Test.YtkhedjfdjjeopaaUnframe
import Derived.Test.YtkhedjfdjjeopaaCrewValidate
namespace Go.Proofs.Ytkhedjfdjjeopaa
set_option linter.unusedSimpArgs false
set_option linter.unusedVariables false
open Go.RowKit

def CDecPost (l : List GPerson) (x : Int) (w : World) (e : Ending) (w' : World) : Prop :=
  ∃ A n c, e = .returned (.tuple #[.slice A n c, .int .i64 x]) ∧ Sl Ty.person w' (fun b => w.heap.size ≤ b ∧ b < w'.heap.size) A n c l ∧ Below w.heap.size w w'
theorem unfr_bytes {bs : List Int} (h : bytesL bs) : bytesL (unfr bs).2.1 := by
  unfold unfr
  split
  · exact bytesL_nil
  split
  · exact bytesL_nil
  split
  · exact bytesL_nil
  split
  · exact bytesL_nil
  split
  · exact bytesL_nil
  · exact fun x hx => bytesL_drop h _ x (List.mem_of_mem_take hx)

set_option maxRecDepth 100000 in
set_option maxHeartbeats 1600000 in
theorem crewDecode_any (t : GTT) (bs : List Int) (A A1 A2 A3 : Option Addr) (m c n1 n2 n3 c1 c2 c3 : Nat) (w : World) (ht : t.ok) (hs1 : Sl Ty.zone w (all_ w) A1 n1 c1 t.zones) (hs2 : Sl Ty.airport w (all_ w) A2 n2 c2 t.airports) (hs3 : Sl Ty.flight w (all_ w) A3 n3 c3 t.flights) (h : Sl (Ty.int .u8) w (all_ w) A m c bs) (hb : bytesL bs) :
    Calls Try.prog 16 #[.agg #[.slice A1 n1 c1, .slice A2 n2 c2, .slice A3 n3 c3], .slice A m c] w (CDecPost (decCrew t bs).1 (decCrew t bs).2 w) := by
  have hn1 : m ≤ bs.length := Nat.le_of_eq h.len
  have hn2 : bs.length ≤ m := Nat.le_of_eq h.len.symm
  have hle := h.le
  unfold maxLen at hle
  have HS : Hid (∀ V, Below w.heap.size w V → (Sl Ty.zone V (all_ V) A1 n1 c1 t.zones ∧ Sl Ty.airport V (all_ V) A2 n2 c2 t.airports ∧ Sl Ty.flight V (all_ V) A3 n3 c3 t.flights) ∧ Sl (Ty.int .u8) V (all_ V) A m c bs) := fun V hV => ⟨⟨hs1.next hV, hs2.next hV, hs3.next hV⟩, h.next hV⟩
  have HT : Hid (decCrew t bs = if ttE t ≠ 0 then ([], ttE t) else
  if (unfr bs).2.2.2 ≠ 0 then ([], (unfr bs).2.2.2) else
    if (unfr bs).1 ≠ 2 ∨ (unfr bs).2.2.1 ≠ bs.length then ([], 2) else
      if doneB (rdCrew (unfr bs).2.1).2.1 (rdCrew (unfr bs).2.1).2.2 = false then ([], 2) else
        if crewE t (rdCrew (unfr bs).2.1).1 ≠ 0 then ([], crewE t (rdCrew (unfr bs).2.1).1) else ((rdCrew (unfr bs).2.1).1, 0)) := rfl
  have ha := (Below.refl w.heap.size w).alloc (Nat.le_refl _) (.cells #[.slice A1 n1 c1, .slice A2 n2 c2, .slice A3 n3 c3] 26)
  have hx0 := heap_alloc_new w (.cells #[.slice A1 n1 c1, .slice A2 n2 c2, .slice A3 n3 c3] 26)
  have hz0 : (w.alloc (.cells #[.slice A1 n1 c1, .slice A2 n2 c2, .slice A3 n3 c3] 26)).heap.size = w.heap.size + 1 := by simp
  have HA := Lib.hid ha; have HX0 := Lib.hid hx0; have HZ0 := Lib.hid hz0
  have HBY := Lib.hid (unfr_bytes hb)
  have HBS := Lib.hid hb
  have HTO := Lib.hid ht
  have HBAD : Hid (∀ (W' : World) (x : Int), Below w.heap.size w W' → CDecPost [] x w (.returned (.tuple #[.slice none 0 0, .int .i64 x])) W') := fun W' x hb => ⟨none, 0, 0, rfl, Sl.nil0, hb⟩
  clear h hb ha hs1 hs2 hs3 hx0 hz0 ht
  go_enter Try.func16, Try.ntmps16
  go_wp2_with fail
  generalize w.alloc (.cells #[.slice A1 n1 c1, .slice A2 n2 c2, .slice A3 n3 c3] 26) = W at *
  refine (validate_any t A1 A2 A3 n1 n2 n3 c1 c2 c3 W HTO.out (HS.out W HA.out).1.1 (HS.out W HA.out).1.2.1 (HS.out W HA.out).1.2.2).mono ?_
  rintro e w1 ⟨rfl, hb1⟩
  have hbw1 : Below w.heap.size w w1 := HA.out.trans (hb1.mono HA.out.size)
  by_cases h0 : ttE t = 0
  case neg =>
    have hne : (ttE t != 0) = true := by simpa using h0
    have HR : Hid (decCrew t bs = ([], ttE t)) := by show _ = _; rw [HT.out, if_pos h0]
    clear h0 HT
    generalize ttE t = ev at *
    go_wp2_with fail
    go_ret2
    rw [HR.out]
    exact HBAD.out _ _ hbw1
  rw [h0]
  rw [if_neg (fun h => h h0)] at HT
  have HX1 : Hid (w1.heap[w.heap.size]? = some (.cells #[.slice A1 n1 c1, .slice A2 n2 c2, .slice A3 n3 c3] 26)) := (hb1.block _ (by have := HZ0.out; omega)).trans HX0.out
  have hz1 : w.heap.size + 1 ≤ w1.heap.size := by have := hb1.size; have := HZ0.out; omega
  clear hb1 HX0 HZ0 HA h0
  go_wp2_with fail
  refine (unframe_any bs A m c w1 (HS.out w1 hbw1).2 HBS.out).mono ?_
  generalize unfr bs = u at *
  obtain ⟨kind, body, used, e0⟩ := u
  simp only at HT HBY
  rintro e w2 ⟨Ab, nb, cb, rfl, hsl, hb2⟩
  simp only at hsl
  have hbw2 : Below w.heap.size w w2 := hbw1.trans (hb2.mono hbw1.size)
  have HX2 : Hid (w2.heap[w.heap.size]? = some (.cells #[.slice A1 n1 c1, .slice A2 n2 c2, .slice A3 n3 c3] 26)) := (hb2.block _ (by omega)).trans HX1.out
  have hz2 : w.heap.size + 1 ≤ w2.heap.size := by have := hb2.size; omega
  by_cases he : e0 = 0
  case neg =>
    have he' : (e0 != 0) = true := by simpa using he
    have HR : Hid (decCrew t bs = ([], e0)) := by show _ = _; rw [HT.out, if_pos he]
    clear HT he
    go_wp2_with fail
    go_ret2
    rw [HR.out]
    exact HBAD.out _ _ hbw2
  subst he
  rw [if_neg (by simp)] at HT
  by_cases hk : kind = 2
  case neg =>
    have hk' : (kind != 2) = true := by simpa using hk
    have HR : Hid (decCrew t bs = ([], 2)) := by show _ = _; rw [HT.out, if_pos (.inl hk)]
    clear HT hk
    go_wp2_with fail
    go_ret2
    rw [HR.out]
    exact HBAD.out _ _ hbw2
  subst hk
  by_cases hus : used = m
  case neg =>
    have hu' : ((used : Int) != (m : Int)) = true := by simp; omega
    have HR : Hid (decCrew t bs = ([], 2)) := by show _ = _; rw [HT.out, if_pos (.inr (by omega))]
    clear HT hus
    go_wp2_with fail
    go_ret2
    rw [HR.out]
    exact HBAD.out _ _ hbw2
  subst hus
  rw [if_neg (by rintro (h | h); exact h rfl; omega)] at HT
  have hu' : ((used : Int) != (used : Int)) = false := by simp
  have HRD0 : Hid (Rd (w2.alloc (.cells #[.slice Ab nb cb, .bool false] 80)) w2.heap.size (fun b => w.heap.size < b ∧ b < w2.heap.size) body false) := by
    have hg2 := heap_alloc_new w2 (.cells #[.slice Ab nb cb, .bool false] 80)
    refine ⟨⟨Ab, nb, cb, block_cell hg2 0, ?_⟩, block_cell hg2 1, fun j => block_free hg2 j, HBY.out, fun h => Nat.lt_irrefl _ h.2, fun b hb => by simp; omega⟩
    refine (hsl.more fun b hb => ⟨by omega, hb.2⟩).keep fun b hb => ?_
    rw [Below.heap_alloc _ _ _ hb.2]
  have HX3 : Hid ((w2.alloc (.cells #[.slice Ab nb cb, .bool false] 80)).heap[w.heap.size]? = some (.cells #[.slice A1 n1 c1, .slice A2 n2 c2, .slice A3 n3 c3] 26)) := (Below.heap_alloc _ _ _ (by omega)).trans HX2.out
  have HB3 : Hid (Below w.heap.size w (w2.alloc (.cells #[.slice Ab nb cb, .bool false] 80))) := hbw2.alloc (by omega) _
  have HZ3 : Hid ((w2.alloc (.cells #[.slice Ab nb cb, .bool false] 80)).heap.size = w2.heap.size + 1) := by show _ = _; simp
  have HRC : Hid (rdCrew body = rdMany rdPerson (rdN 64 body false).1.toNat (rdN 64 body false).2.1 (rdN 64 body false).2.2) := rfl
  have HOK := Lib.hid (rdCrew_ok body HBY.out)
  have hn := rdN_range (m := 64) false HBY.out (by decide)
  clear hsl HX1 HX2 hb2 hbw1 hbw2
  go_wp2_with fail
  generalize w2.alloc (.cells #[.slice Ab nb cb, .bool false] 80) = W3 at *
  refine (readerCountTo_any w2.heap.size (fun b => w.heap.size < b ∧ b < w2.heap.size) body false 64 W3 HRD0.out).mono ?_
  rintro e w4 ⟨rfl, hr4, hb4⟩
  have hsS : ∀ b, (fun b => w.heap.size < b ∧ b < w2.heap.size) b → b < w2.heap.size := fun b hb => hb.2
  generalize hSS : (fun b => w.heap.size < b ∧ b < w2.heap.size) = S at *
  clear hSS HRD0
  generalize w2.heap.size = g at *
  generalize rdN 64 body false = q1 at *
  obtain ⟨nn, r0, b0⟩ := q1
  simp only at hr4 hn HRC
  obtain ⟨k1, rfl⟩ := Int.eq_ofNat_of_zero_le hn.1
  have hk1 : k1 ≤ 64 := by omega
  simp only [Int.toNat_natCast] at HRC
  have HINV : Hid (Rd w4 g S r0 b0 ∧ But g W3 w4) := ⟨hr4, hb4⟩
  clear hn hr4 hb4
  go_wp2_with fail
  go_loopw [12, 40] (fun lv i wr => ∃ k : Nat, k ≤ k1 ∧ i = .int .i64 k ∧ Own Ty.person 40 wr (g + 1) lv (rdMany rdPerson k r0 b0).1 ∧ Rd wr g S (rdMany rdPerson k r0 b0).2.1 (rdMany rdPerson k r0 b0).2.2 ∧ But g W3 wr) (fun _ i _ => k1 - (intOf i).toNat)
  case atStart => exact ⟨0, Nat.zero_le _, rfl, Own.nil, HINV.out.1, HINV.out.2⟩
  case round =>
    obtain ⟨k, hk, rfl, hown, hrd, hbut⟩ := hrel
    clear HINV
    by_cases hlt : k < k1
    · have HSN : Hid (rdMany rdPerson (k + 1) r0 b0 = ((rdMany rdPerson k r0 b0).1 ++ [(rdPerson (rdMany rdPerson k r0 b0).2.1 (rdMany rdPerson k r0 b0).2.2).1], (rdPerson (rdMany rdPerson k r0 b0).2.1 (rdMany rdPerson k r0 b0).2.2).2.1, (rdPerson (rdMany rdPerson k r0 b0).2.1 (rdMany rdPerson k r0 b0).2.2).2.2)) := rfl
      have hlen := rdMany_len (f := rdPerson) k r0 b0
      have hll : (rdMany rdPerson k r0 b0).1.length ≤ 64 := by omega
      clear hlen
      generalize rdMany rdPerson k r0 b0 = q at *
      obtain ⟨xs, r, b⟩ := q
      simp only at hown hrd HSN hll
      have HRP := Lib.hid (readPerson_any g S r b wr hrd hsS)
      generalize rdPerson r b = pq at *
      obtain ⟨p, r5, b5⟩ := pq
      simp only at HRP HSN
      have hszr : g + 1 ≤ wr.heap.size := by have := hbut.size; have := HZ3.out; omega
      have HO := Lib.hid hown; have HBU := Lib.hid hbut
      clear hown hrd hbut
      go_wp2_with fail
      refine HRP.out.mono ?_
      rintro e w5 ⟨Ap, np, cp, Aq, nq, cq, rfl, hslp, hslq, hr5, hb5⟩
      have hs5 := hb5.size
      have hnew := At.new w5 #[.int .i64 p.id, .string p.name, .string p.base, .int .i64 p.rank, .int .i64 p.sen, .slice Ap np cp, .slice Aq nq cq] 40
      have HREP : Hid (Ty.person.rep (w5.alloc (.cells #[.int .i64 p.id, .string p.name, .string p.base, .int .i64 p.rank, .int .i64 p.sen, .slice Ap np cp, .slice Aq nq cq] 40)) (fun b => wr.heap.size < b ∧ b < w5.heap.size) [.int .i64 p.id, .string p.name, .string p.base, .int .i64 p.rank, .int .i64 p.sen, .slice Ap np cp, .slice Aq nq cq] p) :=
        ⟨Ap, np, cp, Aq, nq, cq, rfl, hslp.keep fun b hb => Below.heap_alloc _ _ _ hb.2, hslq.keep fun b hb => Below.heap_alloc _ _ _ hb.2⟩
      have HOWN : Hid (Own Ty.person 40 (w5.alloc (.cells #[.int .i64 p.id, .string p.name, .string p.base, .int .i64 p.rank, .int .i64 p.sen, .slice Ap np cp, .slice Aq nq cq] 40)) (g + 1) u12 xs) := (HO.out.but hb5 (by omega)).alloc _
      have HSEP : Hid (∀ b, wr.heap.size < b ∧ b < w5.heap.size → g + 1 ≤ b ∧ b < (w5.alloc (.cells #[.int .i64 p.id, .string p.name, .string p.base, .int .i64 p.rank, .int .i64 p.sen, .slice Ap np cp, .slice Aq nq cq] 40)).heap.size ∧ some b ≠ u12.ownBlock) := fun b hb => ⟨by omega, by simp; omega, fun e => by have := (HO.out.lt b e.symm).2; omega⟩
      have HBU5 : Hid (But g W3 (w5.alloc (.cells #[.int .i64 p.id, .string p.name, .string p.base, .int .i64 p.rank, .int .i64 p.sen, .slice Ap np cp, .slice Aq nq cq] 40))) := (HBU.out.trans hb5).alloc _
      have HR5 := Lib.hid (hr5.next ((Below.refl _ _).alloc (Nat.le_refl _) (.cells #[.int .i64 p.id, .string p.name, .string p.base, .int .i64 p.rank, .int .i64 p.sen, .slice Ap np cp, .slice Aq nq cq] 40)))
      have HNEW := Lib.hid hnew
      clear hslp hslq hr5 hnew
      go_wp2_with (at_builtin; refine wpList_push (t := Ty.person) rfl _ _ _ rfl 104 elem_person rfl HOWN.out w5.heap.size p _ rfl ⟨_, HREP.out, HNEW.out⟩ HSEP.out (by omega) (by decide) (by simp; omega) ?_; intro v6 w6 hown6 hgr6)
      have hbu6 := HBU5.out.grown hgr6 (fun k hk => by have := (HO.out.lt k hk).1; have := HZ3.out; omega)
      have hr6 : Rd w6 g S r5 b5 := HR5.out.frame (fun q hq hSq => hgr6.block q hq (fun e => by
        have h1 := (HO.out.lt q e.symm).1
        rcases hSq with hs | rfl
        · have := hsS q hs; omega
        · omega)) hgr6.size
      clear hgr6
      go_wp2_with fail
      go_roundw
      case rel => exact ⟨k + 1, by omega, by go_num, by rw [HSN.out]; exact hown6, by rw [HSN.out]; exact hr6, hbu6⟩
      case measure => simp [intOf]; omega
    · have hkm : k = k1 := by omega
      subst hkm
      generalize rdMany rdPerson k r0 b0 = qf at *
      obtain ⟨l, r, b⟩ := qf
      simp only at hown hrd HRC
      rw [HRC.out] at HOK HT
      simp only at HOK HT
      obtain ⟨Af, cf, rfl, hslf⟩ := hown.sl
      have hbel : Below w.heap.size w wr := hbut.below HB3.out (by have := HZ3.out; omega) (by omega)
      have hgs : g + 1 ≤ wr.heap.size := by have := hbut.size; have := HZ3.out; omega
      have hX := (hbut.block w.heap.size (by have := HZ3.out; omega) (by omega)).trans HX3.out
      have x0 : wr.cell? ⟨w.heap.size, 0, none⟩ = some (.slice A1 n1 c1) := block_cell hX 0
      have x1 : wr.cell? ⟨w.heap.size, 1, none⟩ = some (.slice A2 n2 c2) := block_cell hX 1
      have x2 : wr.cell? ⟨w.heap.size, 2, none⟩ = some (.slice A3 n3 c3) := block_cell hX 2
      have HDN := Lib.hid (readerDone_any g S r b wr hrd)
      have HSL := Lib.hid hslf
      clear hown hrd hbut hslf hX
      go_wp2_with fail
      refine HDN.out.mono ?_
      rintro e w9 ⟨rfl, rfl⟩
      clear HDN
      rcases Bool.eq_false_or_eq_true (doneB r b) with hd | hd
      case inr =>
        have HR : Hid (decCrew t bs = ([], 2)) := by show _ = _; rw [HT.out, if_pos hd]
        rw [hd]
        clear HT hd
        go_wp2_with fail
        go_ret2
        rw [HR.out]
        exact HBAD.out _ _ hbel
      rw [if_neg (by rw [hd]; simp)] at HT
      rw [hd]
      clear hd
      have HV := Lib.hid (crewValidate_any t l A1 A2 A3 Af n1 n2 n3 _ c1 c2 c3 cf wr HTO.out HOK.out (HS.out wr hbel).1.1 (HS.out wr hbel).1.2.1 (HS.out wr hbel).1.2.2 (HSL.out.more fun b hb => hb.2))
      go_wp2_with fail
      refine HV.out.mono ?_
      rintro e w9 ⟨rfl, hb9⟩
      clear HV
      have hbF : Below w.heap.size w w9 := hbel.trans (hb9.mono hbel.size)
      clear x0 x1 x2
      by_cases hv : crewE t l = 0
      · have HR : Hid (decCrew t bs = (l, 0)) := by show _ = _; rw [HT.out, if_neg (by simpa using hv)]
        rw [hv]
        clear HT hv
        go_wp2_with fail
        go_ret2
        rw [HR.out]
        refine ⟨Af, _, cf, rfl, (HSL.out.keep fun q hq => hb9.block q hq.2).more fun q hq => ⟨by omega, by have := hb9.size; omega⟩, hbF⟩
      · have hv' : (crewE t l != 0) = true := by simpa using hv
        have HR : Hid (decCrew t bs = ([], crewE t l)) := by show _ = _; rw [HT.out, if_pos hv]
        clear HT hv
        generalize crewE t l = ev at *
        go_wp2_with fail
        go_ret2
        rw [HR.out]
        exact HBAD.out _ _ hbF
end Go.Proofs.Ytkhedjfdjjeopaa
