/-
  Contract of crew.Encode.
  Condition: the data are well formed.
-/
import Derived.Test.YtkhedjfdjjeopaaFrame
import Derived.Test.YtkhedjfdjjeopaaWS
import Derived.Test.YtkhedjfdjjeopaaCrewBody
import Derived.Test.YtkhedjfdjjeopaaCrewValidate
namespace Go.Proofs.Ytkhedjfdjjeopaa
set_option linter.unusedSimpArgs false
set_option linter.unusedVariables false
open Go.RowKit

def CEncBad (x : Int) (w : World) (e : Ending) (w' : World) : Prop := e = .returned (.tuple #[.slice none 0 0, .int .i64 x]) ∧ Below w.heap.size w w'
theorem crewB_pos (l : List GPerson) : crewB l ≠ [] := fun e => by
  unfold crewB at e
  simp only [List.append_eq_nil_iff] at e
  exact uvar_pos _ e.1
set_option maxRecDepth 100000 in
theorem crewEncode_bad (t : GTT) (l : List GPerson) (A1 A2 A3 A4 : Option Addr) (n1 n2 n3 n4 c1 c2 c3 c4 : Nat) (w : World) (ht : t.ok) (hl : ∀ p ∈ l, p.ok) (hv : crewE t l ≠ 0) (hs1 : Sl Ty.zone w (all_ w) A1 n1 c1 t.zones) (hs2 : Sl Ty.airport w (all_ w) A2 n2 c2 t.airports) (hs3 : Sl Ty.flight w (all_ w) A3 n3 c3 t.flights) (hs4 : Sl Ty.person w (all_ w) A4 n4 c4 l) :
    Calls Try.prog 14 #[.agg #[.slice A1 n1 c1, .slice A2 n2 c2, .slice A3 n3 c3], .slice A4 n4 c4] w (CEncBad (crewE t l) w) := by
  have ha : ∀ o, Below w.heap.size w (w.alloc o) := fun o => (Below.refl _ _).alloc (Nat.le_refl _) _
  have HV : Hid (∀ o, Calls Try.prog 10 #[.agg #[.slice A1 n1 c1, .slice A2 n2 c2, .slice A3 n3 c3], .slice A4 n4 c4] (w.alloc o) (ErrPost (crewE t l) (w.alloc o))) := fun o => crewValidate_any t l A1 A2 A3 A4 n1 n2 n3 n4 c1 c2 c3 c4 (w.alloc o) ht hl (hs1.next (ha o)) (hs2.next (ha o)) (hs3.next (ha o)) (hs4.next (ha o))
  have HA := Lib.hid ha
  generalize crewE t l = x at *
  have hne : (x != 0) = true := by simpa using hv
  clear hs1 hs2 hs3 hs4 hv ht ha hl
  go_enter Try.func14, Try.ntmps14
  go_wp2_with fail
  refine (HV.out _).mono ?_
  clear HV
  have hb0 := HA.out (.cells #[.slice A1 n1 c1, .slice A2 n2 c2, .slice A3 n3 c3] 26)
  generalize w.alloc (.cells #[.slice A1 n1 c1, .slice A2 n2 c2, .slice A3 n3 c3] 26) = W at *
  rintro e w1 ⟨rfl, hb1⟩
  go_wp2_with fail
  go_ret2
  exact ⟨rfl, hb0.trans (hb1.mono hb0.size)⟩
set_option maxRecDepth 100000 in
set_option maxHeartbeats 3200000 in
theorem crewEncode_ok (t : GTT) (l : List GPerson) (A1 A2 A3 A4 : Option Addr) (n1 n2 n3 n4 c1 c2 c3 c4 : Nat) (w : World) (ht : t.ok) (hl : ∀ p ∈ l, p.ok) (hv : crewE t l = 0) (hs1 : Sl Ty.zone w (all_ w) A1 n1 c1 t.zones) (hs2 : Sl Ty.airport w (all_ w) A2 n2 c2 t.airports) (hs3 : Sl Ty.flight w (all_ w) A3 n3 c3 t.flights) (hs4 : Sl Ty.person w (all_ w) A4 n4 c4 l) :
    Calls Try.prog 14 #[.agg #[.slice A1 n1 c1, .slice A2 n2 c2, .slice A3 n3 c3], .slice A4 n4 c4] w (EncPost (frameB 2 (crewB l)) w) := by
  have hok := crewE_zero.1 hv
  have e1 : n4 ≤ l.length := Nat.le_of_eq hs4.len
  have e1' : l.length ≤ n4 := Nat.le_of_eq hs4.len.symm
  have b1 := hok.len
  have HFI := Lib.hid hok.fine
  have ha : ∀ o, Below w.heap.size w (w.alloc o) := fun o => (Below.refl _ _).alloc (Nat.le_refl _) _
  have HV : Hid (∀ o, Calls Try.prog 10 #[.agg #[.slice A1 n1 c1, .slice A2 n2 c2, .slice A3 n3 c3], .slice A4 n4 c4] (w.alloc o) (ErrPost 0 (w.alloc o))) := fun o => hv ▸ crewValidate_any t l A1 A2 A3 A4 n1 n2 n3 n4 c1 c2 c3 c4 (w.alloc o) ht hl (hs1.next (ha o)) (hs2.next (ha o)) (hs3.next (ha o)) (hs4.next (ha o))
  have HS4 := Lib.hid hs4
  clear hok hs1 hs2 hs3 hs4 hv ht hl
  have hB0 := ha (.cells #[.slice A1 n1 c1, .slice A2 n2 c2, .slice A3 n3 c3] 26)
  have HB0 := Lib.hid hB0
  clear ha hB0
  go_enter Try.func14, Try.ntmps14
  go_wp2_with fail
  refine (HV.out _).mono ?_
  clear HV
  generalize w.alloc (.cells #[.slice A1 n1 c1, .slice A2 n2 c2, .slice A3 n3 c3] 26) = W at *
  rintro e w1 ⟨rfl, hb1⟩
  have hbw : Below w.heap.size w w1 := HB0.out.trans (hb1.mono HB0.out.size)
  have hsw := hbw.size
  have HT4 := Lib.hid (HS4.out.keep (all_keep hbw))
  clear HS4 HB0 hb1
  have hws0 : WS w1.heap.size w1 (w1.alloc (.cells #[.slice none 0 0, .int .i64 0] 72)) (.slice none 0 0) [] := by
    refine ⟨⟨?_, ?_, fun j => ?_, Own.nil, by simp [Value.ownBlock], Nat.lt_succ_self _⟩, (Below.refl _ _).alloc (Nat.le_refl _) _⟩
    · rw [World.cell?_alloc_at _ _ _ _ rfl]; rfl
    · rw [World.cell?_alloc_at _ _ _ _ rfl]; rfl
    · simp
  go_wp2_with fail
  refine (wUint (n4 : Int) hws0 (by simp) (by omega) (by omega)).mono ?_
  rintro e w2 ⟨x, v2, rfl, hws2, hc2⟩
  clear hc2 hws0
  rw [List.nil_append] at hws2
  go_wp2_with fail
  go_loopw [25] (fun i wr => ∃ (k : Nat) (v : Value), k ≤ n4 ∧ i = .int .i64 k ∧ WS w1.heap.size w1 wr v (uvar n4 ++ (l.take k).flatMap personB)) (fun i _ => n4 - (intOf i).toNat)
  case atStart => exact ⟨0, v2, Nat.zero_le _, rfl, by simpa using hws2⟩
  case round =>
    obtain ⟨k, v, hk, rfl, hws⟩ := hrel
    clear hws2
    have hlen : (uvar n4 ++ (l.take k).flatMap personB).length ≤ 40000 := by
      have := flatMap_take_len (f := personB) (M := 600) (fun x hx => personB_len (HFI.out x hx)) k
      have := uvar_len n4
      rw [List.length_append]
      omega
    by_cases hlt : k < n4
    · have hbel := hws.bel
      have hks : k < l.length := by omega
      obtain ⟨b, o, B1, k1, d1, B2, k2, d2, rfl, hbS, hat, hsT, hsV⟩ := (HT4.out.keep (w' := wr) fun b hb => hbel.block b (by unfold all_ at hb; omega)).person_at hks
      have hpf := HFI.out _ (getD_in hks noPerson)
      have HSN : Hid (uvar n4 ++ (l.take (k + 1)).flatMap personB = uvar n4 ++ (l.take k).flatMap personB ++ personB (l.getD k noPerson)) := by
        show _ = _
        rw [flatMap_take personB hks noPerson, List.append_assoc]
      have hbS' : b < w.heap.size := hbS
      generalize l.getD k noPerson = p at *
      obtain ⟨pi, pn, pb, pr, ps, plt, pt, plv, pv⟩ := hpf
      have HPT := Lib.hid pt; have HPV := Lib.hid pv
      have m1 : k1 ≤ p.types.length := Nat.le_of_eq hsT.len
      have m1' : p.types.length ≤ k1 := Nat.le_of_eq hsT.len.symm
      have m2 : k2 ≤ p.vacs.length := Nat.le_of_eq hsV.len
      have m2' : p.vacs.length ≤ k2 := Nat.le_of_eq hsV.len.symm
      have HPB : Hid (personB p = uvar p.id ++ textB p.name ++ textB p.base ++ uvar p.rank ++ uvar p.sen ++ uvar k1 ++ p.types.flatMap textB ++ uvar k2 ++ p.vacs.flatMap spanB) := by
        show _ = _
        rw [hsT.len, hsV.len]; rfl
      have HQ : Hid (∀ wq, Below w1.heap.size w1 wq → Sl Ty.str wq (all_ w) B1 k1 d1 p.types ∧ Sl Ty.shift wq (all_ w) B2 k2 d2 p.vacs) := fun wq hb => by
        have hq : ∀ b, all_ w b → wq.heap[b]? = wr.heap[b]? := fun b hb' => by
          unfold all_ at hb'
          rw [hb.block b (by omega), hbel.block b (by omega)]
        exact ⟨hsT.keep hq, hsV.keep hq⟩
      generalize uvar n4 ++ (l.take k).flatMap personB = pre at *
      have y0 : wr.cell? ⟨b, o + k * 7, none⟩ = some (.int .i64 p.id) := hat 0 _ rfl
      have y1 := hat 1 _ rfl; have y2 := hat 2 _ rfl; have y3 := hat 3 _ rfl; have y4 := hat 4 _ rfl; have y5 := hat 5 _ rfl; have y6 := hat 6 _ rfl
      have hwa := hws.alloc (.cells #[.int .i64 p.id, .string p.name, .string p.base, .int .i64 p.rank, .int .i64 p.sen, .slice B1 k1 d1, .slice B2 k2 d2] 40)
      have hbx := hws.box #[.int .i64 p.id, .string p.name, .string p.base, .int .i64 p.rank, .int .i64 p.sen, .slice B1 k1 d1, .slice B2 k2 d2] 40
      have hgb := hws.hb
      have t1 := uvar_len p.id; have t2 := textB_le pn; have t3 := textB_le pb; have t4 := uvar_len p.rank; have t5 := uvar_len p.sen; have t6 := uvar_len k1; have t7 := uvar_len k2
      clear pt pv hsT hsV hbS hws hbel hat
      go_wp2_with fail
      refine (wUint p.id hwa (by omega) (by omega) (by omega)).mono ?_
      rintro e w2 ⟨x2, v2, rfl, hws2, hc2⟩
      have hbx2 := hbx.chg hc2 (by omega)
      have q1 : w2.cell? ⟨wr.heap.size, 1, none⟩ = some (.string p.name) := hbx2.at_ 1 _ rfl
      clear hwa hbx hc2 y0 y1 y2 y3 y4 y5 y6
      go_wp2_with fail
      refine (wText p.name hws2 (by simp; omega) (by omega)).mono ?_
      rintro e w3 ⟨x3, v3, rfl, hws3, hc3⟩
      have hbx3 := hbx2.chg hc3 (by omega)
      have q2 : w3.cell? ⟨wr.heap.size, 2, none⟩ = some (.string p.base) := hbx3.at_ 2 _ rfl
      clear hws2 hbx2 hc3 q1
      go_wp2_with fail
      refine (wText p.base hws3 (by simp; omega) (by omega)).mono ?_
      rintro e w4 ⟨x4, v4, rfl, hws4, hc4⟩
      have hbx4 := hbx3.chg hc4 (by omega)
      have q3 : w4.cell? ⟨wr.heap.size, 3, none⟩ = some (.int .i64 p.rank) := hbx4.at_ 3 _ rfl
      clear hws3 hbx3 hc4 q2
      go_wp2_with fail
      refine (wUint p.rank hws4 (by simp; omega) (by omega) (by omega)).mono ?_
      rintro e w5 ⟨x5, v5, rfl, hws5, hc5⟩
      have hbx5 := hbx4.chg hc5 (by omega)
      have q4 : w5.cell? ⟨wr.heap.size, 4, none⟩ = some (.int .i64 p.sen) := hbx5.at_ 4 _ rfl
      clear hws4 hbx4 hc5 q3
      go_wp2_with fail
      refine (wUint p.sen hws5 (by simp; omega) (by omega) (by omega)).mono ?_
      rintro e w6 ⟨x6, v6, rfl, hws6, hc6⟩
      have hbx6 := hbx5.chg hc6 (by omega)
      have q5 : w6.cell? ⟨wr.heap.size, 5, none⟩ = some (.slice B1 k1 d1) := hbx6.at_ 5 _ rfl
      clear hws5 hbx5 hc6 q4
      go_wp2_with fail
      refine (wUint (k1 : Int) hws6 (by simp; omega) (by omega) (by omega)).mono ?_
      rintro e w7 ⟨x7, v7, rfl, hws7, hc7⟩
      have hbx7 := hbx6.chg hc7 (by omega)
      have q6 : w7.cell? ⟨wr.heap.size, 5, none⟩ = some (.slice B1 k1 d1) := hbx7.at_ 5 _ rfl
      have hl7 : (pre ++ uvar p.id ++ textB p.name ++ textB p.base ++ uvar p.rank ++ uvar p.sen ++ uvar k1).length ≤ 40200 := by simp only [List.length_append]; omega
      generalize hp7 : pre ++ uvar p.id ++ textB p.name ++ textB p.base ++ uvar p.rank ++ uvar p.sen ++ uvar k1 = pre7 at *
      have HP7 := Lib.hid hp7
      clear hws6 hbx6 hc7 q5 hp7
      go_wp2_with fail
      clear q6
      obtain ⟨wo, rfl⟩ : ∃ wo : World, wo = wr := ⟨_, rfl⟩
      go_loopw [51] (fun i wq => ∃ (j : Nat) (v : Value), j ≤ k1 ∧ i = .int .i64 j ∧ WS w1.heap.size w1 wq v (pre7 ++ (p.types.take j).flatMap textB) ∧ Bx wq v wo.heap.size [.int .i64 p.id, .string p.name, .string p.base, .int .i64 p.rank, .int .i64 p.sen, .slice B1 k1 d1, .slice B2 k2 d2]) (fun i _ => k1 - (intOf i).toNat)
      case atStart => exact ⟨0, v7, Nat.zero_le _, rfl, by simpa using hws7, hbx7⟩
      case round =>
        obtain ⟨j, v, hj, rfl, hws, hbx⟩ := hrel
        clear hws7 hbx7
        have hlen2 : (pre7 ++ (p.types.take j).flatMap textB).length ≤ 40500 := by
          have := flatMap_take_len (f := textB) (M := 26) (l := p.types) (fun x hx => textB_le (HPT.out x hx)) j
          rw [List.length_append]
          omega
        by_cases hlt2 : j < k1
        · have hjs : j < p.types.length := by omega
          obtain ⟨bt, ot, rfl, hbS, y0⟩ := (HQ.out wr hws.bel).1.name_at hjs
          have hsz := HPT.out _ (getD_in hjs noStr)
          have HSN2 : Hid (pre7 ++ (p.types.take (j + 1)).flatMap textB = pre7 ++ (p.types.take j).flatMap textB ++ textB (p.types.getD j noStr)) := by
            show _ = _
            rw [flatMap_take textB hjs noStr, List.append_assoc]
          generalize p.types.getD j noStr = s at *
          generalize pre7 ++ (p.types.take j).flatMap textB = pre8 at *
          clear hbS
          go_wp2_with fail
          refine (wText s hws (by omega) (by omega)).mono ?_
          rintro e w8 ⟨x8, v8, rfl, hws8, hc8⟩
          have hbx8 := hbx.chg hc8 (by omega)
          clear hws hbx hc8 y0
          go_wp2_with fail
          go_roundw
          case rel => exact ⟨j + 1, v8, by omega, by go_num, by rw [HSN2.out]; exact hws8, hbx8⟩
          case measure => simp [intOf]; omega
        · rw [List.take_of_length_le (by omega)] at hws hlen2
          have q6 : wr.cell? ⟨wo.heap.size, 6, none⟩ = some (.slice B2 k2 d2) := hbx.at_ 6 _ rfl
          generalize hp8 : pre7 ++ p.types.flatMap textB = pre8 at *
          have HP8 := Lib.hid hp8
          clear hp8
          go_wp2_with fail
          refine (wUint (k2 : Int) hws (by omega) (by omega) (by omega)).mono ?_
          rintro e w8 ⟨x8, v8, rfl, hws8, hc8⟩
          have hbx8 := hbx.chg hc8 (by omega)
          have q7 : w8.cell? ⟨wo.heap.size, 6, none⟩ = some (.slice B2 k2 d2) := hbx8.at_ 6 _ rfl
          have HFIN : Hid (pre8 ++ uvar k2 ++ p.vacs.flatMap spanB = pre ++ personB p) := by
            show _ = _
            rw [HPB.out, ← HP8.out, ← HP7.out]
            simp only [List.append_assoc]
          have hl9 : (pre8 ++ uvar k2).length ≤ 40600 := by rw [List.length_append]; omega
          generalize pre8 ++ uvar k2 = pre9 at *
          clear hws hbx hc8 q6 hbx8
          go_wp2_with fail
          clear q7
          obtain ⟨wo2, rfl⟩ : ∃ wo : World, wo = wr := ⟨_, rfl⟩
          go_loopw [65] (fun i wq => ∃ (j : Nat) (v : Value), j ≤ k2 ∧ i = .int .i64 j ∧ WS w1.heap.size w1 wq v (pre9 ++ (p.vacs.take j).flatMap spanB)) (fun i _ => k2 - (intOf i).toNat)
          case atStart => exact ⟨0, v8, Nat.zero_le _, rfl, by simpa using hws8⟩
          case round =>
            obtain ⟨r, v, hr, rfl, hws⟩ := hrel
            clear hws8
            have hlen3 : (pre9 ++ (p.vacs.take r).flatMap spanB).length ≤ 40900 := by
              have := flatMap_take_len (f := spanB) (M := 20) (l := p.vacs) (fun x hx => spanB_len x) r
              rw [List.length_append]
              omega
            by_cases hlt3 : r < k2
            · have hrs : r < p.vacs.length := by omega
              obtain ⟨bt, ot, rfl, hbS, y0, y1⟩ := (HQ.out wr hws.bel).2.shift_at hrs
              have hsf := HPV.out _ (getD_in hrs noShift)
              have HSN2 : Hid (pre9 ++ (p.vacs.take (r + 1)).flatMap spanB = pre9 ++ (p.vacs.take r).flatMap spanB ++ uvar (p.vacs.getD r noShift).at_ ++ uvar (p.vacs.getD r noShift).off) := by
                show _ = _
                rw [flatMap_take spanB hrs noShift]
                simp only [spanB, List.append_assoc]
              generalize p.vacs.getD r noShift = s at *
              obtain ⟨hs1, hs2⟩ := hsf
              generalize pre9 ++ (p.vacs.take r).flatMap spanB = pre5 at *
              have hwa := hws.alloc (.cells #[.int .i64 s.at_, .int .i64 s.off] 42)
              have hbx := hws.box #[.int .i64 s.at_, .int .i64 s.off] 42
              have hgb2 := hws.hb
              have t9 := uvar_len s.at_
              clear hws hbS
              go_wp2_with fail
              refine (wUint s.at_ hwa (by omega) (by omega) (by omega)).mono ?_
              rintro e w5 ⟨x5, v5, rfl, hws5, hc5⟩
              have hbx5 := hbx.chg hc5 (by omega)
              have q4 : w5.cell? ⟨wr.heap.size, 1, none⟩ = some (.int .i64 s.off) := hbx5.at_ 1 _ rfl
              clear hwa hbx hc5 y0 y1
              go_wp2_with fail
              refine (wUint s.off hws5 (by simp; omega) (by omega) (by omega)).mono ?_
              rintro e w6 ⟨x6, v6, rfl, hws6, hc6⟩
              clear hws5 hbx5 hc6 q4
              go_wp2_with fail
              go_roundw
              case rel => exact ⟨r + 1, v6, by omega, by go_num, by rw [HSN2.out]; exact hws6⟩
              case measure => simp [intOf]; omega
            · have hws9 : WS w1.heap.size w1 wr v (uvar n4 ++ (l.take (k + 1)).flatMap personB) := by
                rw [HSN.out, ← HFIN.out]
                rwa [List.take_of_length_le (by omega)] at hws
              clear hws
              go_wp2_with fail
              go_roundw
              case rel => exact ⟨k + 1, v, by omega, by go_num, hws9⟩
              case measure => simp [intOf]; omega
    · rw [List.take_of_length_le (by omega)] at hws
      have HBD : Hid (uvar n4 ++ l.flatMap personB = crewB l) := by
        show _ = _
        have a1 : l.length = n4 := by omega
        unfold crewB
        rw [a1]
      rw [HBD.out] at hws
      have g0 : wr.cell? ⟨w1.heap.size, 0, none⟩ = some v := hws.wr.c0
      have g1 : wr.cell? ⟨w1.heap.size, 1, none⟩ = some (.int .i64 0) := hws.wr.c1
      obtain ⟨A9, c9, rfl, hsl9⟩ := hws.wr.own.sl
      have HFR := Lib.hid (frame_any 2 (crewB l) A9 _ c9 wr (hsl9.more fun b hb => hb.2) (crewB_pos l) (by have := crewB_len b1 HFI.out; omega))
      have hbel := hws.bel
      clear hws hsl9
      go_wp2_with fail
      refine HFR.out.mono ?_
      rintro e w9 ⟨v9, rfl, ho9, hb9⟩
      clear HFR
      have hbF : Below w.heap.size w w9 := hbw.trans ((hbel.mono (by omega)).trans (hb9.mono (by have := hbel.size; omega)))
      have hsF : w.heap.size ≤ wr.heap.size := by have := hbel.size; omega
      go_wp2_with fail
      go_ret2
      exact ⟨_, rfl, ho9.lower hsF, hbF⟩
end Go.Proofs.Ytkhedjfdjjeopaa
