/-
  Joined texts: WS; CrewEncode; CrewDecode; CrewSmall; CrewAwake; Light; CrewRefB; CrewSame; CardLib; Fits; FitsCrew. What each proves stands ahead of it, with its conditions.
-/
import Derived.Test.YtkhedjfdjjeopaaGreatDoorWriter
import Derived.Test.YtkhedjfdjjeopaaGreatDoorFrame
import Derived.Test.YtkhedjfdjjeopaaGreatDoorCrewBody
import Derived.Test.YtkhedjfdjjeopaaGreatDoorCrewValidate
import Derived.Test.YtkhedjfdjjeopaaGreatDoorMC
import Derived.Test.YtkhedjfdjjeopaaGreatDoorUnframe
import Derived.Test.YtkhedjfdjjeopaaGreatDoorTTMem
import Derived.BigQuiet
import Derived.Deep.QuietTactic
import Derived.Test.YtkhedjfdjjeopaaGreatDoorBase
import Derived.Test.YtkhedjfdjjeopaaGreatDoorIndexRef
import Derived.Test.YtkhedjfdjjeopaaGreatDoorCrewPlain
import Derived.Test.YtkhedjfdjjeopaaGreatDoorRef8Enc
import Derived.Test.YtkhedjfdjjeopaaGreatDoorCrc
import Derived.Deep.RegionLaw
import Derived.Deep.DeepCutAuto
import Derived.Test.YtkhedjfdjjeopaaGreatDoorCards
import Derived.Test.YtkhedjfdjjeopaaGreatDoorTie
import Derived.WalkKit
import Derived.ProofKit
import Derived.OpenShut
import Derived.Deep.DeepHandedRow
import Derived.Lib.LaidTab
import Derived.PinnedBridge
import Derived.Lay
/-
  A writer made in a call, and the boxes that a writer's call keeps.
  No condition.
-/
namespace Go.Proofs.YtkhedjfdjjeopaaGreatDoor
set_option linter.unusedSimpArgs false
set_option linter.unusedVariables false
open Go.RowKit

/-- A box in block b holds the cells cs, and is no part of the writer's row v. -/
structure Bx (w : World) (v : Value) (b : Nat) (cs : List Value) : Prop where
  at_ : ∀ j u, cs[j]? = some u → w.cell? ⟨b, j, none⟩ = some u
  ne : some b ≠ v.ownBlock
  lt : b < w.heap.size
theorem Bx.chg {w w' : World} {v v' : Value} {b g : Nat} {cs : List Value} (h : Bx w v b cs) (hc : Chg g v w v' w') (hg : b ≠ g) : Bx w' v' b cs :=
  ⟨fun j u hu => hc.cell (h.at_ j u hu) hg h.ne, fun e => by
    rcases hc.row b e.symm with h1 | h1
    · exact h.ne h1.symm
    · have := h.lt; omega, Nat.lt_of_lt_of_le h.lt hc.size⟩
theorem Bx.below {w w' : World} {v : Value} {b : Nat} {cs : List Value} (h : Bx w v b cs) (hb : Below w.heap.size w w') : Bx w' v b cs :=
  ⟨fun j u hu => cell_kept (h.at_ j u hu) hb, h.ne, Nat.lt_of_lt_of_le h.lt hb.size⟩
/-- The writer in block g, made in the world w0 (of g blocks), holds the bytes bs in the row v; nothing that w0 had has changed. -/
structure WS (g : Nat) (w0 w : World) (v : Value) (bs : List Int) : Prop where
  wr : Wr w g (g + 1) v bs
  bel : Below g w0 w
theorem WS.hb {g : Nat} {w0 w : World} {v : Value} {bs : List Int} (h : WS g w0 w v bs) : g + 1 ≤ w.heap.size := h.wr.lt
theorem WS.own_lt {g : Nat} {w0 w : World} {v : Value} {bs : List Int} (h : WS g w0 w v bs) : ∀ k, v.ownBlock = some k → g + 1 ≤ k ∧ k < w.heap.size := h.wr.own.lt
theorem WS.chg {g : Nat} {w0 w w' : World} {v v' : Value} {bs bs' : List Int} (h : WS g w0 w v bs) (hw : Wr w' g (g + 1) v' bs') (hc : Chg g v w v' w') : WS g w0 w' v' bs' :=
  ⟨hw, hc.below h.bel (by have := h.hb; omega) (Nat.le_refl _) fun k hk => by have := (h.own_lt k hk).1; omega⟩
theorem WS.next {g : Nat} {w0 w w' : World} {v : Value} {bs : List Int} (h : WS g w0 w v bs) (hb : Below w.heap.size w w') : WS g w0 w' v bs :=
  ⟨h.wr.next hb, h.bel.trans (hb.mono (by have := h.hb; omega))⟩
theorem WS.alloc {g : Nat} {w0 w : World} {v : Value} {bs : List Int} (h : WS g w0 w v bs) (o : Obj) : WS g w0 (w.alloc o) v bs := h.next ((Below.refl _ _).alloc (Nat.le_refl _) o)
theorem WS.box {g : Nat} {w0 w : World} {v : Value} {bs : List Int} (h : WS g w0 w v bs) (cs : Array Value) (t : TypeId) : Bx (w.alloc (.cells cs t)) v w.heap.size cs.toList :=
  ⟨fun j u hu => by rw [World.cell?_alloc_at _ _ _ _ rfl]; simpa using hu, fun e => by have := (h.own_lt _ e.symm).2; omega, by simp⟩
def WPost (g : Nat) (w0 w : World) (v : Value) (bs : List Int) (e : Ending) (w' : World) : Prop := ∃ x v', e = .returned x ∧ WS g w0 w' v' bs ∧ Chg g v w v' w'
theorem wUint {g : Nat} {w0 w : World} {v : Value} {bs : List Int} (n : Int) (h : WS g w0 w v bs) (hl : bs.length < 900000000) (h0 : 0 ≤ n) (h1 : n ≤ 4611686018427387904) :
    Calls Tryz.prog 44 #[.pointer (some ⟨g, 0, none⟩), .int .i64 n] w (WPost g w0 w v (bs ++ uvar n)) :=
  (writerUint_any g (g + 1) v bs n w h.wr hl h.hb h0 h1).mono fun _ _ ⟨x, v', he, h2, h3⟩ => ⟨x, v', he, h.chg h2 h3, h3⟩
theorem wText {g : Nat} {w0 w : World} {v : Value} {bs : List Int} (s : ByteArray) (h : WS g w0 w v bs) (hl : bs.length < 900000000) (h1 : s.size ≤ 20000) :
    Calls Tryz.prog 45 #[.pointer (some ⟨g, 0, none⟩), .string s] w (WPost g w0 w v (bs ++ textB s)) :=
  (writerText_any g (g + 1) v bs s w h.wr hl h.hb h1).mono fun _ _ ⟨x, v', he, h2, h3⟩ => ⟨x, v', he, h.chg h2 h3, h3⟩
end Go.Proofs.YtkhedjfdjjeopaaGreatDoor
/-
  Contract of crew.Encode.
  Condition: the data are well formed.
-/
namespace Go.Proofs.YtkhedjfdjjeopaaGreatDoor
set_option linter.unusedSimpArgs false
set_option linter.unusedVariables false
open Go.RowKit

def CEncBad (x : Int) (w : World) (e : Ending) (w' : World) : Prop := e = .returned (.tuple #[.slice none 0 0, .int .i64 x]) ∧ Below w.heap.size w w'
theorem crewB_pos (l : List GPerson) : crewB l ≠ [] := fun e => by
  unfold crewB at e
  simp only [List.append_eq_nil_iff] at e
  exact uvar_pos _ e.1
set_option maxRecDepth 100000 in
theorem crewEncode_bad (t : GTT) (l : List GPerson) (A1 A2 A3 A4 : Option Addr) (n1 n2 n3 n4 c1 c2 c3 c4 : Nat) (w : World) (ht : t.ok) (hl : ∀ p ∈ l, p.ok) (hv : crewE t l ≠ 0) (hs1 : Sl Ty.zone w (all_ w) A1 n1 c1 t.zones) (hs2 : Sl Ty.airport w (all_ w) A2 n2 c2 t.airports) (hs3 : Sl Ty.flight w (all_ w) A3 n3 c3 t.flights) (hs4 : Sl Ty.person w (all_ w) A4 n4 c4 l) :
    Calls Tryz.prog 16 #[.agg #[.slice A1 n1 c1, .slice A2 n2 c2, .slice A3 n3 c3], .slice A4 n4 c4] w (CEncBad (crewE t l) w) := by
  have ha : ∀ o, Below w.heap.size w (w.alloc o) := fun o => (Below.refl _ _).alloc (Nat.le_refl _) _
  have HV : Hid (∀ o, Calls Tryz.prog 23 #[.agg #[.slice A1 n1 c1, .slice A2 n2 c2, .slice A3 n3 c3], .slice A4 n4 c4] (w.alloc o) (ErrPost (crewE t l) (w.alloc o))) := fun o => crewValidate_any t l A1 A2 A3 A4 n1 n2 n3 n4 c1 c2 c3 c4 (w.alloc o) ht hl (hs1.next (ha o)) (hs2.next (ha o)) (hs3.next (ha o)) (hs4.next (ha o))
  have HA := Lib.hid ha
  generalize crewE t l = x at *
  have hne : (x != 0) = true := by simpa using hv
  clear hs1 hs2 hs3 hs4 hv ht ha hl
  go_enter Tryz.func16, Tryz.ntmps16
  go_wp2_with fail
  refine (HV.out _).mono ?_
  clear HV
  have hb0 := HA.out (.cells #[.slice A1 n1 c1, .slice A2 n2 c2, .slice A3 n3 c3] 26)
  generalize w.alloc (.cells #[.slice A1 n1 c1, .slice A2 n2 c2, .slice A3 n3 c3] 26) = W at *
  rintro e w1 ⟨rfl, hb1⟩
  go_wp2_with fail
  go_ret2
  exact ⟨rfl, hb0.trans (hb1.mono hb0.size)⟩
set_option maxRecDepth 100000 in
set_option maxHeartbeats 3200000 in
theorem crewEncode_ok (t : GTT) (l : List GPerson) (A1 A2 A3 A4 : Option Addr) (n1 n2 n3 n4 c1 c2 c3 c4 : Nat) (w : World) (ht : t.ok) (hl : ∀ p ∈ l, p.ok) (hv : crewE t l = 0) (hs1 : Sl Ty.zone w (all_ w) A1 n1 c1 t.zones) (hs2 : Sl Ty.airport w (all_ w) A2 n2 c2 t.airports) (hs3 : Sl Ty.flight w (all_ w) A3 n3 c3 t.flights) (hs4 : Sl Ty.person w (all_ w) A4 n4 c4 l) :
    Calls Tryz.prog 16 #[.agg #[.slice A1 n1 c1, .slice A2 n2 c2, .slice A3 n3 c3], .slice A4 n4 c4] w (EncPost (frameB 2 (crewB l)) w) := by
  have hok := crewE_zero.1 hv
  have e1 : n4 ≤ l.length := Nat.le_of_eq hs4.len
  have e1' : l.length ≤ n4 := Nat.le_of_eq hs4.len.symm
  have b1 := hok.len
  have HFI := Lib.hid hok.fine
  have ha : ∀ o, Below w.heap.size w (w.alloc o) := fun o => (Below.refl _ _).alloc (Nat.le_refl _) _
  have HV : Hid (∀ o, Calls Tryz.prog 23 #[.agg #[.slice A1 n1 c1, .slice A2 n2 c2, .slice A3 n3 c3], .slice A4 n4 c4] (w.alloc o) (ErrPost 0 (w.alloc o))) := fun o => hv ▸ crewValidate_any t l A1 A2 A3 A4 n1 n2 n3 n4 c1 c2 c3 c4 (w.alloc o) ht hl (hs1.next (ha o)) (hs2.next (ha o)) (hs3.next (ha o)) (hs4.next (ha o))
  have HS4 := Lib.hid hs4
  clear hok hs1 hs2 hs3 hs4 hv ht hl
  have hB0 := ha (.cells #[.slice A1 n1 c1, .slice A2 n2 c2, .slice A3 n3 c3] 26)
  have HB0 := Lib.hid hB0
  clear ha hB0
  go_enter Tryz.func16, Tryz.ntmps16
  go_wp2_with fail
  refine (HV.out _).mono ?_
  clear HV
  generalize w.alloc (.cells #[.slice A1 n1 c1, .slice A2 n2 c2, .slice A3 n3 c3] 26) = W at *
  rintro e w1 ⟨rfl, hb1⟩
  have hbw : Below w.heap.size w w1 := HB0.out.trans (hb1.mono HB0.out.size)
  have hsw := hbw.size
  have HT4 := Lib.hid (HS4.out.keep (all_keep hbw))
  clear HS4 HB0 hb1
  have hws0 : WS w1.heap.size w1 (w1.alloc (.cells #[.slice none 0 0, .int .i64 0] 89)) (.slice none 0 0) [] := by
    refine ⟨⟨?_, ?_, fun j => ?_, Own.nil, by simp [Value.ownBlock], Nat.lt_succ_self _⟩, (Below.refl _ _).alloc (Nat.le_refl _) _⟩
    · rw [World.cell?_alloc_at _ _ _ _ rfl]; rfl
    · rw [World.cell?_alloc_at _ _ _ _ rfl]; rfl
    · simp
  go_wp2_with fail
  refine (wUint (n4 : Int) hws0 (by simp) (by omega) (by omega)).mono ?_
  rintro e w2 ⟨x, v2, rfl, hws2, hc2⟩
  clear hc2 hws0
  rw [List.nil_append] at hws2
  go_wp2_with fail
  go_loopw [25] (fun i wr => ∃ (k : Nat) (v : Value), k ≤ n4 ∧ i = .int .i64 k ∧ WS w1.heap.size w1 wr v (uvar n4 ++ (l.take k).flatMap personB)) (fun i _ => n4 - (intOf i).toNat)
  case atStart => exact ⟨0, v2, Nat.zero_le _, rfl, by simpa using hws2⟩
  case round =>
    obtain ⟨k, v, hk, rfl, hws⟩ := hrel
    clear hws2
    have hlen : (uvar n4 ++ (l.take k).flatMap personB).length ≤ 40000 := by
      have := flatMap_take_len (f := personB) (M := 600) (fun x hx => personB_len (HFI.out x hx)) k
      have := uvar_len n4
      rw [List.length_append]
      omega
    by_cases hlt : k < n4
    · have hbel := hws.bel
      have hks : k < l.length := by omega
      obtain ⟨b, o, B1, k1, d1, B2, k2, d2, rfl, hbS, hat, hsT, hsV⟩ := (HT4.out.keep (w' := wr) fun b hb => hbel.block b (by unfold all_ at hb; omega)).person_at hks
      have hpf := HFI.out _ (getD_in hks noPerson)
      have HSN : Hid (uvar n4 ++ (l.take (k + 1)).flatMap personB = uvar n4 ++ (l.take k).flatMap personB ++ personB (l.getD k noPerson)) := by
        show _ = _
        rw [flatMap_take personB hks noPerson, List.append_assoc]
      have hbS' : b < w.heap.size := hbS
      generalize l.getD k noPerson = p at *
      obtain ⟨pi, pn, pb, pr, ps, plt, pt, plv, pv⟩ := hpf
      have HPT := Lib.hid pt; have HPV := Lib.hid pv
      have m1 : k1 ≤ p.types.length := Nat.le_of_eq hsT.len
      have m1' : p.types.length ≤ k1 := Nat.le_of_eq hsT.len.symm
      have m2 : k2 ≤ p.vacs.length := Nat.le_of_eq hsV.len
      have m2' : p.vacs.length ≤ k2 := Nat.le_of_eq hsV.len.symm
      have HPB : Hid (personB p = uvar p.id ++ textB p.name ++ textB p.base ++ uvar p.rank ++ uvar p.sen ++ uvar k1 ++ p.types.flatMap textB ++ uvar k2 ++ p.vacs.flatMap spanB) := by
        show _ = _
        rw [hsT.len, hsV.len]; rfl
      have HQ : Hid (∀ wq, Below w1.heap.size w1 wq → Sl Ty.str wq (all_ w) B1 k1 d1 p.types ∧ Sl Ty.shift wq (all_ w) B2 k2 d2 p.vacs) := fun wq hb => by
        have hq : ∀ b, all_ w b → wq.heap[b]? = wr.heap[b]? := fun b hb' => by
          unfold all_ at hb'
          rw [hb.block b (by omega), hbel.block b (by omega)]
        exact ⟨hsT.keep hq, hsV.keep hq⟩
      generalize uvar n4 ++ (l.take k).flatMap personB = pre at *
      have y0 : wr.cell? ⟨b, o + k * 7, none⟩ = some (.int .i64 p.id) := hat 0 _ rfl
      have y1 := hat 1 _ rfl; have y2 := hat 2 _ rfl; have y3 := hat 3 _ rfl; have y4 := hat 4 _ rfl; have y5 := hat 5 _ rfl; have y6 := hat 6 _ rfl
      have hwa := hws.alloc (.cells #[.int .i64 p.id, .string p.name, .string p.base, .int .i64 p.rank, .int .i64 p.sen, .slice B1 k1 d1, .slice B2 k2 d2] 49)
      have hbx := hws.box #[.int .i64 p.id, .string p.name, .string p.base, .int .i64 p.rank, .int .i64 p.sen, .slice B1 k1 d1, .slice B2 k2 d2] 49
      have hgb := hws.hb
      have t1 := uvar_len p.id; have t2 := textB_le pn; have t3 := textB_le pb; have t4 := uvar_len p.rank; have t5 := uvar_len p.sen; have t6 := uvar_len k1; have t7 := uvar_len k2
      clear pt pv hsT hsV hbS hws hbel hat
      go_wp2_with fail
      refine (wUint p.id hwa (by omega) (by omega) (by omega)).mono ?_
      rintro e w2 ⟨x2, v2, rfl, hws2, hc2⟩
      have hbx2 := hbx.chg hc2 (by omega)
      have q1 : w2.cell? ⟨wr.heap.size, 1, none⟩ = some (.string p.name) := hbx2.at_ 1 _ rfl
      clear hwa hbx hc2 y0 y1 y2 y3 y4 y5 y6
      go_wp2_with fail
      refine (wText p.name hws2 (by simp; omega) (by omega)).mono ?_
      rintro e w3 ⟨x3, v3, rfl, hws3, hc3⟩
      have hbx3 := hbx2.chg hc3 (by omega)
      have q2 : w3.cell? ⟨wr.heap.size, 2, none⟩ = some (.string p.base) := hbx3.at_ 2 _ rfl
      clear hws2 hbx2 hc3 q1
      go_wp2_with fail
      refine (wText p.base hws3 (by simp; omega) (by omega)).mono ?_
      rintro e w4 ⟨x4, v4, rfl, hws4, hc4⟩
      have hbx4 := hbx3.chg hc4 (by omega)
      have q3 : w4.cell? ⟨wr.heap.size, 3, none⟩ = some (.int .i64 p.rank) := hbx4.at_ 3 _ rfl
      clear hws3 hbx3 hc4 q2
      go_wp2_with fail
      refine (wUint p.rank hws4 (by simp; omega) (by omega) (by omega)).mono ?_
      rintro e w5 ⟨x5, v5, rfl, hws5, hc5⟩
      have hbx5 := hbx4.chg hc5 (by omega)
      have q4 : w5.cell? ⟨wr.heap.size, 4, none⟩ = some (.int .i64 p.sen) := hbx5.at_ 4 _ rfl
      clear hws4 hbx4 hc5 q3
      go_wp2_with fail
      refine (wUint p.sen hws5 (by simp; omega) (by omega) (by omega)).mono ?_
      rintro e w6 ⟨x6, v6, rfl, hws6, hc6⟩
      have hbx6 := hbx5.chg hc6 (by omega)
      have q5 : w6.cell? ⟨wr.heap.size, 5, none⟩ = some (.slice B1 k1 d1) := hbx6.at_ 5 _ rfl
      clear hws5 hbx5 hc6 q4
      go_wp2_with fail
      refine (wUint (k1 : Int) hws6 (by simp; omega) (by omega) (by omega)).mono ?_
      rintro e w7 ⟨x7, v7, rfl, hws7, hc7⟩
      have hbx7 := hbx6.chg hc7 (by omega)
      have q6 : w7.cell? ⟨wr.heap.size, 5, none⟩ = some (.slice B1 k1 d1) := hbx7.at_ 5 _ rfl
      have hl7 : (pre ++ uvar p.id ++ textB p.name ++ textB p.base ++ uvar p.rank ++ uvar p.sen ++ uvar k1).length ≤ 40200 := by simp only [List.length_append]; omega
      generalize hp7 : pre ++ uvar p.id ++ textB p.name ++ textB p.base ++ uvar p.rank ++ uvar p.sen ++ uvar k1 = pre7 at *
      have HP7 := Lib.hid hp7
      clear hws6 hbx6 hc7 q5 hp7
      go_wp2_with fail
      clear q6
      obtain ⟨wo, rfl⟩ : ∃ wo : World, wo = wr := ⟨_, rfl⟩
      go_loopw [51] (fun i wq => ∃ (j : Nat) (v : Value), j ≤ k1 ∧ i = .int .i64 j ∧ WS w1.heap.size w1 wq v (pre7 ++ (p.types.take j).flatMap textB) ∧ Bx wq v wo.heap.size [.int .i64 p.id, .string p.name, .string p.base, .int .i64 p.rank, .int .i64 p.sen, .slice B1 k1 d1, .slice B2 k2 d2]) (fun i _ => k1 - (intOf i).toNat)
      case atStart => exact ⟨0, v7, Nat.zero_le _, rfl, by simpa using hws7, hbx7⟩
      case round =>
        obtain ⟨j, v, hj, rfl, hws, hbx⟩ := hrel
        clear hws7 hbx7
        have hlen2 : (pre7 ++ (p.types.take j).flatMap textB).length ≤ 40500 := by
          have := flatMap_take_len (f := textB) (M := 26) (l := p.types) (fun x hx => textB_le (HPT.out x hx)) j
          rw [List.length_append]
          omega
        by_cases hlt2 : j < k1
        · have hjs : j < p.types.length := by omega
          obtain ⟨bt, ot, rfl, hbS, y0⟩ := (HQ.out wr hws.bel).1.name_at hjs
          have hsz := HPT.out _ (getD_in hjs noStr)
          have HSN2 : Hid (pre7 ++ (p.types.take (j + 1)).flatMap textB = pre7 ++ (p.types.take j).flatMap textB ++ textB (p.types.getD j noStr)) := by
            show _ = _
            rw [flatMap_take textB hjs noStr, List.append_assoc]
          generalize p.types.getD j noStr = s at *
          generalize pre7 ++ (p.types.take j).flatMap textB = pre8 at *
          clear hbS
          go_wp2_with fail
          refine (wText s hws (by omega) (by omega)).mono ?_
          rintro e w8 ⟨x8, v8, rfl, hws8, hc8⟩
          have hbx8 := hbx.chg hc8 (by omega)
          clear hws hbx hc8 y0
          go_wp2_with fail
          go_roundw
          case rel => exact ⟨j + 1, v8, by omega, by go_num, by rw [HSN2.out]; exact hws8, hbx8⟩
          case measure => simp [intOf]; omega
        · rw [List.take_of_length_le (by omega)] at hws hlen2
          have q6 : wr.cell? ⟨wo.heap.size, 6, none⟩ = some (.slice B2 k2 d2) := hbx.at_ 6 _ rfl
          generalize hp8 : pre7 ++ p.types.flatMap textB = pre8 at *
          have HP8 := Lib.hid hp8
          clear hp8
          go_wp2_with fail
          refine (wUint (k2 : Int) hws (by omega) (by omega) (by omega)).mono ?_
          rintro e w8 ⟨x8, v8, rfl, hws8, hc8⟩
          have hbx8 := hbx.chg hc8 (by omega)
          have q7 : w8.cell? ⟨wo.heap.size, 6, none⟩ = some (.slice B2 k2 d2) := hbx8.at_ 6 _ rfl
          have HFIN : Hid (pre8 ++ uvar k2 ++ p.vacs.flatMap spanB = pre ++ personB p) := by
            show _ = _
            rw [HPB.out, ← HP8.out, ← HP7.out]
            simp only [List.append_assoc]
          have hl9 : (pre8 ++ uvar k2).length ≤ 40600 := by rw [List.length_append]; omega
          generalize pre8 ++ uvar k2 = pre9 at *
          clear hws hbx hc8 q6 hbx8
          go_wp2_with fail
          clear q7
          obtain ⟨wo2, rfl⟩ : ∃ wo : World, wo = wr := ⟨_, rfl⟩
          go_loopw [65] (fun i wq => ∃ (j : Nat) (v : Value), j ≤ k2 ∧ i = .int .i64 j ∧ WS w1.heap.size w1 wq v (pre9 ++ (p.vacs.take j).flatMap spanB)) (fun i _ => k2 - (intOf i).toNat)
          case atStart => exact ⟨0, v8, Nat.zero_le _, rfl, by simpa using hws8⟩
          case round =>
            obtain ⟨r, v, hr, rfl, hws⟩ := hrel
            clear hws8
            have hlen3 : (pre9 ++ (p.vacs.take r).flatMap spanB).length ≤ 40900 := by
              have := flatMap_take_len (f := spanB) (M := 20) (l := p.vacs) (fun x hx => spanB_len x) r
              rw [List.length_append]
              omega
            by_cases hlt3 : r < k2
            · have hrs : r < p.vacs.length := by omega
              obtain ⟨bt, ot, rfl, hbS, y0, y1⟩ := (HQ.out wr hws.bel).2.shift_at hrs
              have hsf := HPV.out _ (getD_in hrs noShift)
              have HSN2 : Hid (pre9 ++ (p.vacs.take (r + 1)).flatMap spanB = pre9 ++ (p.vacs.take r).flatMap spanB ++ uvar (p.vacs.getD r noShift).at_ ++ uvar (p.vacs.getD r noShift).off) := by
                show _ = _
                rw [flatMap_take spanB hrs noShift]
                simp only [spanB, List.append_assoc]
              generalize p.vacs.getD r noShift = s at *
              obtain ⟨hs1, hs2⟩ := hsf
              generalize pre9 ++ (p.vacs.take r).flatMap spanB = pre5 at *
              have hwa := hws.alloc (.cells #[.int .i64 s.at_, .int .i64 s.off] 72)
              have hbx := hws.box #[.int .i64 s.at_, .int .i64 s.off] 72
              have hgb2 := hws.hb
              have t9 := uvar_len s.at_
              clear hws hbS
              go_wp2_with fail
              refine (wUint s.at_ hwa (by omega) (by omega) (by omega)).mono ?_
              rintro e w5 ⟨x5, v5, rfl, hws5, hc5⟩
              have hbx5 := hbx.chg hc5 (by omega)
              have q4 : w5.cell? ⟨wr.heap.size, 1, none⟩ = some (.int .i64 s.off) := hbx5.at_ 1 _ rfl
              clear hwa hbx hc5 y0 y1
              go_wp2_with fail
              refine (wUint s.off hws5 (by simp; omega) (by omega) (by omega)).mono ?_
              rintro e w6 ⟨x6, v6, rfl, hws6, hc6⟩
              clear hws5 hbx5 hc6 q4
              go_wp2_with fail
              go_roundw
              case rel => exact ⟨r + 1, v6, by omega, by go_num, by rw [HSN2.out]; exact hws6⟩
              case measure => simp [intOf]; omega
            · have hws9 : WS w1.heap.size w1 wr v (uvar n4 ++ (l.take (k + 1)).flatMap personB) := by
                rw [HSN.out, ← HFIN.out]
                rwa [List.take_of_length_le (by omega)] at hws
              clear hws
              go_wp2_with fail
              go_roundw
              case rel => exact ⟨k + 1, v, by omega, by go_num, hws9⟩
              case measure => simp [intOf]; omega
    · rw [List.take_of_length_le (by omega)] at hws
      have HBD : Hid (uvar n4 ++ l.flatMap personB = crewB l) := by
        show _ = _
        have a1 : l.length = n4 := by omega
        unfold crewB
        rw [a1]
      rw [HBD.out] at hws
      have g0 : wr.cell? ⟨w1.heap.size, 0, none⟩ = some v := hws.wr.c0
      have g1 : wr.cell? ⟨w1.heap.size, 1, none⟩ = some (.int .i64 0) := hws.wr.c1
      obtain ⟨A9, c9, rfl, hsl9⟩ := hws.wr.own.sl
      have HFR := Lib.hid (frame_any 2 (crewB l) A9 _ c9 wr (hsl9.more fun b hb => hb.2) (crewB_pos l) (by have := crewB_len b1 HFI.out; omega))
      have hbel := hws.bel
      clear hws hsl9
      go_wp2_with fail
      refine HFR.out.mono ?_
      rintro e w9 ⟨v9, rfl, ho9, hb9⟩
      clear HFR
      have hbF : Below w.heap.size w w9 := hbw.trans ((hbel.mono (by omega)).trans (hb9.mono (by have := hbel.size; omega)))
      have hsF : w.heap.size ≤ wr.heap.size := by have := hbel.size; omega
      go_wp2_with fail
      go_ret2
      exact ⟨_, rfl, ho9.lower hsF, hbF⟩
end Go.Proofs.YtkhedjfdjjeopaaGreatDoor
/-
  Contract of crew.Decode.
  Condition: the data are well formed, the bytes are bytes.
-/
namespace Go.Proofs.YtkhedjfdjjeopaaGreatDoor
set_option linter.unusedSimpArgs false
set_option linter.unusedVariables false
open Go.RowKit

def CDecPost (l : List GPerson) (x : Int) (w : World) (e : Ending) (w' : World) : Prop :=
  ∃ A n c, e = .returned (.tuple #[.slice A n c, .int .i64 x]) ∧ Sl Ty.person w' (fun b => w.heap.size ≤ b ∧ b < w'.heap.size) A n c l ∧ Below w.heap.size w w'
theorem unfr_bytes {bs : List Int} (h : bytesL bs) : bytesL (unfr bs).2.1 := by
  unfold unfr
  split
  · exact bytesL_nil
  split
  · exact bytesL_nil
  split
  · exact bytesL_nil
  split
  · exact bytesL_nil
  split
  · exact bytesL_nil
  · exact fun x hx => bytesL_drop h _ x (List.mem_of_mem_take hx)

set_option maxRecDepth 100000 in
set_option maxHeartbeats 1600000 in
theorem crewDecode_any (t : GTT) (bs : List Int) (A A1 A2 A3 : Option Addr) (m c n1 n2 n3 c1 c2 c3 : Nat) (w : World) (ht : t.ok) (hs1 : Sl Ty.zone w (all_ w) A1 n1 c1 t.zones) (hs2 : Sl Ty.airport w (all_ w) A2 n2 c2 t.airports) (hs3 : Sl Ty.flight w (all_ w) A3 n3 c3 t.flights) (h : Sl (Ty.int .u8) w (all_ w) A m c bs) (hb : bytesL bs) :
    Calls Tryz.prog 17 #[.agg #[.slice A1 n1 c1, .slice A2 n2 c2, .slice A3 n3 c3], .slice A m c] w (CDecPost (decCrew t bs).1 (decCrew t bs).2 w) := by
  have hn1 : m ≤ bs.length := Nat.le_of_eq h.len
  have hn2 : bs.length ≤ m := Nat.le_of_eq h.len.symm
  have hle := h.le
  unfold maxLen at hle
  have HS : Hid (∀ V, Below w.heap.size w V → (Sl Ty.zone V (all_ V) A1 n1 c1 t.zones ∧ Sl Ty.airport V (all_ V) A2 n2 c2 t.airports ∧ Sl Ty.flight V (all_ V) A3 n3 c3 t.flights) ∧ Sl (Ty.int .u8) V (all_ V) A m c bs) := fun V hV => ⟨⟨hs1.next hV, hs2.next hV, hs3.next hV⟩, h.next hV⟩
  have HT : Hid (decCrew t bs = if ttE t ≠ 0 then ([], ttE t) else
  if (unfr bs).2.2.2 ≠ 0 then ([], (unfr bs).2.2.2) else
    if (unfr bs).1 ≠ 2 ∨ (unfr bs).2.2.1 ≠ bs.length then ([], 2) else
      if doneB (rdCrew (unfr bs).2.1).2.1 (rdCrew (unfr bs).2.1).2.2 = false then ([], 2) else
        if crewE t (rdCrew (unfr bs).2.1).1 ≠ 0 then ([], crewE t (rdCrew (unfr bs).2.1).1) else ((rdCrew (unfr bs).2.1).1, 0)) := rfl
  have ha := (Below.refl w.heap.size w).alloc (Nat.le_refl _) (.cells #[.slice A1 n1 c1, .slice A2 n2 c2, .slice A3 n3 c3] 26)
  have hx0 := heap_alloc_new w (.cells #[.slice A1 n1 c1, .slice A2 n2 c2, .slice A3 n3 c3] 26)
  have hz0 : (w.alloc (.cells #[.slice A1 n1 c1, .slice A2 n2 c2, .slice A3 n3 c3] 26)).heap.size = w.heap.size + 1 := by simp
  have HA := Lib.hid ha; have HX0 := Lib.hid hx0; have HZ0 := Lib.hid hz0
  have HBY := Lib.hid (unfr_bytes hb)
  have HBS := Lib.hid hb
  have HTO := Lib.hid ht
  have HBAD : Hid (∀ (W' : World) (x : Int), Below w.heap.size w W' → CDecPost [] x w (.returned (.tuple #[.slice none 0 0, .int .i64 x])) W') := fun W' x hb => ⟨none, 0, 0, rfl, Sl.nil0, hb⟩
  clear h hb ha hs1 hs2 hs3 hx0 hz0 ht
  go_enter Tryz.func17, Tryz.ntmps17
  go_wp2_with fail
  generalize w.alloc (.cells #[.slice A1 n1 c1, .slice A2 n2 c2, .slice A3 n3 c3] 26) = W at *
  refine (validate_any t A1 A2 A3 n1 n2 n3 c1 c2 c3 W HTO.out (HS.out W HA.out).1.1 (HS.out W HA.out).1.2.1 (HS.out W HA.out).1.2.2).mono ?_
  rintro e w1 ⟨rfl, hb1⟩
  have hbw1 : Below w.heap.size w w1 := HA.out.trans (hb1.mono HA.out.size)
  by_cases h0 : ttE t = 0
  case neg =>
    have hne : (ttE t != 0) = true := by simpa using h0
    have HR : Hid (decCrew t bs = ([], ttE t)) := by show _ = _; rw [HT.out, if_pos h0]
    clear h0 HT
    generalize ttE t = ev at *
    go_wp2_with fail
    go_ret2
    rw [HR.out]
    exact HBAD.out _ _ hbw1
  rw [h0]
  rw [if_neg (fun h => h h0)] at HT
  have HX1 : Hid (w1.heap[w.heap.size]? = some (.cells #[.slice A1 n1 c1, .slice A2 n2 c2, .slice A3 n3 c3] 26)) := (hb1.block _ (by have := HZ0.out; omega)).trans HX0.out
  have hz1 : w.heap.size + 1 ≤ w1.heap.size := by have := hb1.size; have := HZ0.out; omega
  clear hb1 HX0 HZ0 HA h0
  go_wp2_with fail
  refine (unframe_any bs A m c w1 (HS.out w1 hbw1).2 HBS.out).mono ?_
  generalize unfr bs = u at *
  obtain ⟨kind, body, used, e0⟩ := u
  simp only at HT HBY
  rintro e w2 ⟨Ab, nb, cb, rfl, hsl, hb2⟩
  simp only at hsl
  have hbw2 : Below w.heap.size w w2 := hbw1.trans (hb2.mono hbw1.size)
  have HX2 : Hid (w2.heap[w.heap.size]? = some (.cells #[.slice A1 n1 c1, .slice A2 n2 c2, .slice A3 n3 c3] 26)) := (hb2.block _ (by omega)).trans HX1.out
  have hz2 : w.heap.size + 1 ≤ w2.heap.size := by have := hb2.size; omega
  by_cases he : e0 = 0
  case neg =>
    have he' : (e0 != 0) = true := by simpa using he
    have HR : Hid (decCrew t bs = ([], e0)) := by show _ = _; rw [HT.out, if_pos he]
    clear HT he
    go_wp2_with fail
    go_ret2
    rw [HR.out]
    exact HBAD.out _ _ hbw2
  subst he
  rw [if_neg (by simp)] at HT
  by_cases hk : kind = 2
  case neg =>
    have hk' : (kind != 2) = true := by simpa using hk
    have HR : Hid (decCrew t bs = ([], 2)) := by show _ = _; rw [HT.out, if_pos (.inl hk)]
    clear HT hk
    go_wp2_with fail
    go_ret2
    rw [HR.out]
    exact HBAD.out _ _ hbw2
  subst hk
  by_cases hus : used = m
  case neg =>
    have hu' : ((used : Int) != (m : Int)) = true := by simp; omega
    have HR : Hid (decCrew t bs = ([], 2)) := by show _ = _; rw [HT.out, if_pos (.inr (by omega))]
    clear HT hus
    go_wp2_with fail
    go_ret2
    rw [HR.out]
    exact HBAD.out _ _ hbw2
  subst hus
  rw [if_neg (by rintro (h | h); exact h rfl; omega)] at HT
  have hu' : ((used : Int) != (used : Int)) = false := by simp
  have HRD0 : Hid (Rd (w2.alloc (.cells #[.slice Ab nb cb, .bool false] 96)) w2.heap.size (fun b => w.heap.size < b ∧ b < w2.heap.size) body false) := by
    have hg2 := heap_alloc_new w2 (.cells #[.slice Ab nb cb, .bool false] 96)
    refine ⟨⟨Ab, nb, cb, block_cell hg2 0, ?_⟩, block_cell hg2 1, fun j => block_free hg2 j, HBY.out, fun h => Nat.lt_irrefl _ h.2, fun b hb => by simp; omega⟩
    refine (hsl.more fun b hb => ⟨by omega, hb.2⟩).keep fun b hb => ?_
    rw [Below.heap_alloc _ _ _ hb.2]
  have HX3 : Hid ((w2.alloc (.cells #[.slice Ab nb cb, .bool false] 96)).heap[w.heap.size]? = some (.cells #[.slice A1 n1 c1, .slice A2 n2 c2, .slice A3 n3 c3] 26)) := (Below.heap_alloc _ _ _ (by omega)).trans HX2.out
  have HB3 : Hid (Below w.heap.size w (w2.alloc (.cells #[.slice Ab nb cb, .bool false] 96))) := hbw2.alloc (by omega) _
  have HZ3 : Hid ((w2.alloc (.cells #[.slice Ab nb cb, .bool false] 96)).heap.size = w2.heap.size + 1) := by show _ = _; simp
  have HRC : Hid (rdCrew body = rdMany rdPerson (rdN 64 body false).1.toNat (rdN 64 body false).2.1 (rdN 64 body false).2.2) := rfl
  have HOK := Lib.hid (rdCrew_ok body HBY.out)
  have hn := rdN_range (m := 64) false HBY.out (by decide)
  clear hsl HX1 HX2 hb2 hbw1 hbw2
  go_wp2_with fail
  generalize w2.alloc (.cells #[.slice Ab nb cb, .bool false] 96) = W3 at *
  refine (readerCountTo_any w2.heap.size (fun b => w.heap.size < b ∧ b < w2.heap.size) body false 64 W3 HRD0.out).mono ?_
  rintro e w4 ⟨rfl, hr4, hb4⟩
  have hsS : ∀ b, (fun b => w.heap.size < b ∧ b < w2.heap.size) b → b < w2.heap.size := fun b hb => hb.2
  generalize hSS : (fun b => w.heap.size < b ∧ b < w2.heap.size) = S at *
  clear hSS HRD0
  generalize w2.heap.size = g at *
  generalize rdN 64 body false = q1 at *
  obtain ⟨nn, r0, b0⟩ := q1
  simp only at hr4 hn HRC
  obtain ⟨k1, rfl⟩ := Int.eq_ofNat_of_zero_le hn.1
  have hk1 : k1 ≤ 64 := by omega
  simp only [Int.toNat_natCast] at HRC
  have HINV : Hid (Rd w4 g S r0 b0 ∧ But g W3 w4) := ⟨hr4, hb4⟩
  clear hn hr4 hb4
  go_wp2_with fail
  go_loopw [12, 40] (fun lv i wr => ∃ k : Nat, k ≤ k1 ∧ i = .int .i64 k ∧ Own Ty.person 49 wr (g + 1) lv (rdMany rdPerson k r0 b0).1 ∧ Rd wr g S (rdMany rdPerson k r0 b0).2.1 (rdMany rdPerson k r0 b0).2.2 ∧ But g W3 wr) (fun _ i _ => k1 - (intOf i).toNat)
  case atStart => exact ⟨0, Nat.zero_le _, rfl, Own.nil, HINV.out.1, HINV.out.2⟩
  case round =>
    obtain ⟨k, hk, rfl, hown, hrd, hbut⟩ := hrel
    clear HINV
    by_cases hlt : k < k1
    · have HSN : Hid (rdMany rdPerson (k + 1) r0 b0 = ((rdMany rdPerson k r0 b0).1 ++ [(rdPerson (rdMany rdPerson k r0 b0).2.1 (rdMany rdPerson k r0 b0).2.2).1], (rdPerson (rdMany rdPerson k r0 b0).2.1 (rdMany rdPerson k r0 b0).2.2).2.1, (rdPerson (rdMany rdPerson k r0 b0).2.1 (rdMany rdPerson k r0 b0).2.2).2.2)) := rfl
      have hlen := rdMany_len (f := rdPerson) k r0 b0
      have hll : (rdMany rdPerson k r0 b0).1.length ≤ 64 := by omega
      clear hlen
      generalize rdMany rdPerson k r0 b0 = q at *
      obtain ⟨xs, r, b⟩ := q
      simp only at hown hrd HSN hll
      have HRP := Lib.hid (readPerson_any g S r b wr hrd hsS)
      generalize rdPerson r b = pq at *
      obtain ⟨p, r5, b5⟩ := pq
      simp only at HRP HSN
      have hszr : g + 1 ≤ wr.heap.size := by have := hbut.size; have := HZ3.out; omega
      have HO := Lib.hid hown; have HBU := Lib.hid hbut
      clear hown hrd hbut
      go_wp2_with fail
      refine HRP.out.mono ?_
      rintro e w5 ⟨Ap, np, cp, Aq, nq, cq, rfl, hslp, hslq, hr5, hb5⟩
      have hs5 := hb5.size
      have hnew := At.new w5 #[.int .i64 p.id, .string p.name, .string p.base, .int .i64 p.rank, .int .i64 p.sen, .slice Ap np cp, .slice Aq nq cq] 49
      have HREP : Hid (Ty.person.rep (w5.alloc (.cells #[.int .i64 p.id, .string p.name, .string p.base, .int .i64 p.rank, .int .i64 p.sen, .slice Ap np cp, .slice Aq nq cq] 49)) (fun b => wr.heap.size < b ∧ b < w5.heap.size) [.int .i64 p.id, .string p.name, .string p.base, .int .i64 p.rank, .int .i64 p.sen, .slice Ap np cp, .slice Aq nq cq] p) :=
        ⟨Ap, np, cp, Aq, nq, cq, rfl, hslp.keep fun b hb => Below.heap_alloc _ _ _ hb.2, hslq.keep fun b hb => Below.heap_alloc _ _ _ hb.2⟩
      have HOWN : Hid (Own Ty.person 49 (w5.alloc (.cells #[.int .i64 p.id, .string p.name, .string p.base, .int .i64 p.rank, .int .i64 p.sen, .slice Ap np cp, .slice Aq nq cq] 49)) (g + 1) u12 xs) := (HO.out.but hb5 (by omega)).alloc _
      have HSEP : Hid (∀ b, wr.heap.size < b ∧ b < w5.heap.size → g + 1 ≤ b ∧ b < (w5.alloc (.cells #[.int .i64 p.id, .string p.name, .string p.base, .int .i64 p.rank, .int .i64 p.sen, .slice Ap np cp, .slice Aq nq cq] 49)).heap.size ∧ some b ≠ u12.ownBlock) := fun b hb => ⟨by omega, by simp; omega, fun e => by have := (HO.out.lt b e.symm).2; omega⟩
      have HBU5 : Hid (But g W3 (w5.alloc (.cells #[.int .i64 p.id, .string p.name, .string p.base, .int .i64 p.rank, .int .i64 p.sen, .slice Ap np cp, .slice Aq nq cq] 49))) := (HBU.out.trans hb5).alloc _
      have HR5 := Lib.hid (hr5.next ((Below.refl _ _).alloc (Nat.le_refl _) (.cells #[.int .i64 p.id, .string p.name, .string p.base, .int .i64 p.rank, .int .i64 p.sen, .slice Ap np cp, .slice Aq nq cq] 49)))
      have HNEW := Lib.hid hnew
      clear hslp hslq hr5 hnew
      go_wp2_with (at_builtin; refine wpList_push (t := Ty.person) rfl _ _ _ rfl 104 elem_person rfl HOWN.out w5.heap.size p _ rfl ⟨_, HREP.out, HNEW.out⟩ HSEP.out (by omega) (by decide) (by simp; omega) ?_; intro v6 w6 hown6 hgr6)
      have hbu6 := HBU5.out.grown hgr6 (fun k hk => by have := (HO.out.lt k hk).1; have := HZ3.out; omega)
      have hr6 : Rd w6 g S r5 b5 := HR5.out.frame (fun q hq hSq => hgr6.block q hq (fun e => by
        have h1 := (HO.out.lt q e.symm).1
        rcases hSq with hs | rfl
        · have := hsS q hs; omega
        · omega)) hgr6.size
      clear hgr6
      go_wp2_with fail
      go_roundw
      case rel => exact ⟨k + 1, by omega, by go_num, by rw [HSN.out]; exact hown6, by rw [HSN.out]; exact hr6, hbu6⟩
      case measure => simp [intOf]; omega
    · have hkm : k = k1 := by omega
      subst hkm
      generalize rdMany rdPerson k r0 b0 = qf at *
      obtain ⟨l, r, b⟩ := qf
      simp only at hown hrd HRC
      rw [HRC.out] at HOK HT
      simp only at HOK HT
      obtain ⟨Af, cf, rfl, hslf⟩ := hown.sl
      have hbel : Below w.heap.size w wr := hbut.below HB3.out (by have := HZ3.out; omega) (by omega)
      have hgs : g + 1 ≤ wr.heap.size := by have := hbut.size; have := HZ3.out; omega
      have hX := (hbut.block w.heap.size (by have := HZ3.out; omega) (by omega)).trans HX3.out
      have x0 : wr.cell? ⟨w.heap.size, 0, none⟩ = some (.slice A1 n1 c1) := block_cell hX 0
      have x1 : wr.cell? ⟨w.heap.size, 1, none⟩ = some (.slice A2 n2 c2) := block_cell hX 1
      have x2 : wr.cell? ⟨w.heap.size, 2, none⟩ = some (.slice A3 n3 c3) := block_cell hX 2
      have HDN := Lib.hid (readerDone_any g S r b wr hrd)
      have HSL := Lib.hid hslf
      clear hown hrd hbut hslf hX
      go_wp2_with fail
      refine HDN.out.mono ?_
      rintro e w9 ⟨rfl, rfl⟩
      clear HDN
      rcases Bool.eq_false_or_eq_true (doneB r b) with hd | hd
      case inr =>
        have HR : Hid (decCrew t bs = ([], 2)) := by show _ = _; rw [HT.out, if_pos hd]
        rw [hd]
        clear HT hd
        go_wp2_with fail
        go_ret2
        rw [HR.out]
        exact HBAD.out _ _ hbel
      rw [if_neg (by rw [hd]; simp)] at HT
      rw [hd]
      clear hd
      have HV := Lib.hid (crewValidate_any t l A1 A2 A3 Af n1 n2 n3 _ c1 c2 c3 cf wr HTO.out HOK.out (HS.out wr hbel).1.1 (HS.out wr hbel).1.2.1 (HS.out wr hbel).1.2.2 (HSL.out.more fun b hb => hb.2))
      go_wp2_with fail
      refine HV.out.mono ?_
      rintro e w9 ⟨rfl, hb9⟩
      clear HV
      have hbF : Below w.heap.size w w9 := hbel.trans (hb9.mono hbel.size)
      clear x0 x1 x2
      by_cases hv : crewE t l = 0
      · have HR : Hid (decCrew t bs = (l, 0)) := by show _ = _; rw [HT.out, if_neg (by simpa using hv)]
        rw [hv]
        clear HT hv
        go_wp2_with fail
        go_ret2
        rw [HR.out]
        refine ⟨Af, _, cf, rfl, (HSL.out.keep fun q hq => hb9.block q hq.2).more fun q hq => ⟨by omega, by have := hb9.size; omega⟩, hbF⟩
      · have hv' : (crewE t l != 0) = true := by simpa using hv
        have HR : Hid (decCrew t bs = ([], crewE t l)) := by show _ = _; rw [HT.out, if_pos hv]
        clear HT hv
        generalize crewE t l = ev at *
        go_wp2_with fail
        go_ret2
        rw [HR.out]
        exact HBAD.out _ _ hbF
end Go.Proofs.YtkhedjfdjjeopaaGreatDoor
/-
  Contract of pairinglaw9.Light: it returns a bool.
  No condition.
-/
namespace Go.Proofs.YtkhedjfdjjeopaaGreatDoor
set_option linter.unusedSimpArgs false
set_option linter.unusedVariables false
open Go.RowKit

def SomeBool (w : World) (e : Ending) (w' : World) : Prop := ∃ b, e = .returned (.bool b) ∧ Below w.heap.size w w'
set_option maxRecDepth 100000 in
theorem light_any (t : GTT) (A1 A2 A3 : Option Addr) (n1 n2 n3 c1 c2 c3 : Nat) (w : World) (hs1 : Sl Ty.zone w (all_ w) A1 n1 c1 t.zones) :
    Calls Tryz.prog 6 #[.agg #[.slice A1 n1 c1, .slice A2 n2 c2, .slice A3 n3 c3]] w (SomeBool w) := by
  have hle := hs1.le
  unfold maxLen at hle
  have e1 : n1 ≤ t.zones.length := Nat.le_of_eq hs1.len
  have hb0 := (Below.refl w.heap.size w).alloc (Nat.le_refl _) (.cells #[.slice A1 n1 c1, .slice A2 n2 c2, .slice A3 n3 c3] 26)
  have hx0 : ∀ j, (w.alloc (.cells #[.slice A1 n1 c1, .slice A2 n2 c2, .slice A3 n3 c3] 26)).cell? ⟨w.heap.size, j, none⟩ = (#[Value.slice A1 n1 c1, .slice A2 n2 c2, .slice A3 n3 c3])[j]? := fun j => World.cell?_alloc_at _ _ _ _ rfl
  have HB0 := Lib.hid hb0; have HX0 := Lib.hid hx0; have HS1 := Lib.hid (hs1.keep (all_keep hb0))
  clear hs1 hb0 hx0
  go_enter Tryz.func6, Tryz.ntmps6
  go_wp2_with fail
  generalize w.alloc (.cells #[.slice A1 n1 c1, .slice A2 n2 c2, .slice A3 n3 c3] 26) = W at *
  have x0 : W.cell? ⟨w.heap.size, 0, none⟩ = some (.slice A1 n1 c1) := HX0.out 0
  generalize hm : wrap64 (wrap64 ((n1 : Int) + n2) + n3) = m0 at *
  clear hm
  go_loop [3, 4] (fun nv i => ∃ (k : Nat) (m : Int), k ≤ n1 ∧ i = .int .i64 k ∧ nv = .int .i64 m) (fun _ i => n1 - (intOf i).toNat)
  case atStart => exact ⟨0, m0, Nat.zero_le _, rfl, rfl⟩
  case round =>
    obtain ⟨k, m, hk, rfl, rfl⟩ := hrel
    by_cases hlt : k < n1
    · have hkl : k < t.zones.length := by omega
      obtain ⟨b, o, A', n', c', rfl, hbS, y0, y1, y2, hsh⟩ := HS1.out.zone_at hkl
      clear y0 y1 hsh
      by_cases hm : m < 1000
      · go_wp2_with fail
        go_round
        case rel => exact ⟨k + 1, _, by omega, by go_num, rfl⟩
        case measure => simp [intOf]; omega
      · go_wp2_with fail
        go_ret
        exact ⟨_, rfl, HB0.out⟩
    · go_wp2_with fail
      go_ret
      exact ⟨_, rfl, HB0.out⟩
end Go.Proofs.YtkhedjfdjjeopaaGreatDoor
/-
  Contracts of pairinglaw10.table, pairinglaw10.Light, crew.Qualified (slices.Contains, slices.Index).
  Condition: the slices read as lists.
-/
namespace Go.Proofs.YtkhedjfdjjeopaaGreatDoor
set_option linter.unusedSimpArgs false
set_option linter.unusedVariables false
open Go.RowKit

def baseTbl : GTT := ⟨baseZones, baseAirports, []⟩
/-- The new timetable without flights is handed back. -/
def TblPost (w : World) (e : Ending) (w' : World) : Prop :=
  ∃ A1 n1 c1 A2 n2 c2, e = .returned (.agg #[.slice A1 n1 c1, .slice A2 n2 c2, .slice none 0 0]) ∧
    Sl Ty.zone w' (fun b => w.heap.size ≤ b ∧ b < w'.heap.size) A1 n1 c1 baseTbl.zones ∧ Sl Ty.airport w' (fun b => w.heap.size ≤ b ∧ b < w'.heap.size) A2 n2 c2 baseTbl.airports ∧ Below w.heap.size w w'
set_option maxRecDepth 100000 in
theorem crewTable_any (w : World) : Calls Tryz.prog 12 #[] w (TblPost w) := by
  have hb0 := (Below.refl w.heap.size w).alloc (Nat.le_refl _) (.cells #[.slice none 0 0, .slice none 0 0, .slice none 0 0] 26)
  have hr0 := heap_alloc_new w (.cells #[.slice none 0 0, .slice none 0 0, .slice none 0 0] 26)
  have hz0 : (w.alloc (.cells #[.slice none 0 0, .slice none 0 0, .slice none 0 0] 26)).heap.size = w.heap.size + 1 := by simp
  have HB0 := Lib.hid hb0; have HR0 := Lib.hid hr0; have HZ0 := Lib.hid hz0
  clear hb0 hr0 hz0
  go_enter Tryz.func12, Tryz.ntmps12
  go_wp2_with fail
  generalize w.alloc (.cells #[.slice none 0 0, .slice none 0 0, .slice none 0 0] 26) = W at *
  refine (zones_any W).mono ?_
  rintro e w1 ⟨A1, n1, c1, rfl, hs1, hb1⟩
  go_wp2_with fail
  refine (airports_any w1).mono ?_
  rintro e w2 ⟨A2, n2, c2, rfl, hs2, hb2⟩
  have hbW : Below W.heap.size W w2 := hb1.trans (hb2.mono hb1.size)
  have hbw : Below w.heap.size w w2 := HB0.out.trans (hbW.mono HB0.out.size)
  have hR := (hbW.block _ (by have := HZ0.out; omega)).trans HR0.out
  have z0 : w2.cell? ⟨w.heap.size, 0, none⟩ = some (.slice none 0 0) := block_cell hR 0
  have z1 : w2.cell? ⟨w.heap.size, 1, none⟩ = some (.slice none 0 0) := block_cell hR 1
  have z2 : w2.cell? ⟨w.heap.size, 2, none⟩ = some (.slice none 0 0) := block_cell hR 2
  have f0 : w2.frozen? ⟨w.heap.size, 0, none⟩ = false := block_free hR 0
  have f1 : w2.frozen? ⟨w.heap.size, 1, none⟩ = false := block_free hR 1
  have f2 : w2.frozen? ⟨w.heap.size, 2, none⟩ = false := block_free hR 2
  have HW := HZ0.out
  have hs1' := hb2.size; have hs0' := hb1.size
  have HS1 := Lib.hid hs1; have HS2 := Lib.hid hs2; have HB2 := Lib.hid hb2; have HBW := Lib.hid hbw
  clear hR hs1 hs2 hb1 hb2 hbw hbW
  go_wp2_with fail
  refine bodyPost_ret (v := .agg #[.slice A1 n1 c1, .slice A2 n2 c2, .slice none 0 0]) (by simp [results, Tryz.results12, go_sem, z0, z1, z2]) rfl ⟨A1, n1, c1, A2, n2, c2, rfl, ?_, ?_, ?_⟩
  · refine (HS1.out.keep fun q hq => ?_).more fun q hq => ⟨by omega, by simp; omega⟩
    repeat rw [heap_setCell_other _ _ _ _ (by simp; omega)]
    exact HB2.out.block q hq.2
  · refine (HS2.out.keep fun q hq => ?_).more fun q hq => ⟨by omega, by simp; omega⟩
    repeat rw [heap_setCell_other _ _ _ _ (by simp; omega)]
  · exact ((HBW.out.setCell (Nat.le_refl _) _).setCell (Nat.le_refl _) _).setCell (Nat.le_refl _) _
set_option maxRecDepth 100000 in
theorem crewLight_any (l : List GPerson) (A : Option Addr) (n c : Nat) (w : World) (hs : Sl Ty.person w (all_ w) A n c l) :
    Calls Tryz.prog 13 #[.slice A n c] w (SomeBool w) := by
  have hle := hs.le
  unfold maxLen at hle
  have e1 : n ≤ l.length := Nat.le_of_eq hs.len
  have HS := Lib.hid hs
  clear hs
  go_enter Tryz.func13, Tryz.ntmps13
  go_wp2_with fail
  go_loopw [3, 4] (fun nv i wr => ∃ (k : Nat) (m : Int), k ≤ n ∧ i = .int .i64 k ∧ nv = .int .i64 m ∧ Below w.heap.size w wr) (fun _ i _ => n - (intOf i).toNat)
  case atStart => exact ⟨0, _, Nat.zero_le _, rfl, rfl, Below.refl _ _⟩
  case round =>
    obtain ⟨k, m, hk, rfl, rfl, hbr⟩ := hrel
    by_cases hlt : k < n
    · obtain ⟨b, o, B1, k1, d1, B2, k2, d2, rfl, hbS, hat, hsT, hsV⟩ := (HS.out.keep (w' := wr) (all_keep hbr)).person_at (k := k) (by omega)
      have y5 := hat 5 _ rfl; have y6 := hat 6 _ rfl
      have HD : Hid (∀ q, Below w.heap.size w (wr.drewN q)) := fun q => below_drewN hbr q
      clear hat hsT hsV
      have t1 : (0 : Int) ≤ (k : Int) := by omega
      have t2 : (k : Int) < (n : Int) := by omega
      by_cases hm : m < 1000
      · go_wp2_with fail
        go_quiet (fail)
        go_wp2_with fail
        go_roundw
        case rel => exact ⟨k + 1, _, by omega, by go_num, rfl, HD.out _⟩
        case measure => simp [intOf]; omega
      · go_wp2_with fail
        go_ret
        exact ⟨_, rfl, hbr⟩
    · go_wp2_with fail
      go_ret
      exact ⟨_, rfl, hbr⟩
set_option maxRecDepth 100000 in
theorem indexStr_any (xs : List ByteArray) (a : ByteArray) (A : Option Addr) (n c : Nat) (S : Nat → Prop) (w : World) (hsl : Sl Ty.str w S A n c xs) :
    Calls Tryz.prog 90 #[.slice A n c, .string a] w fun e w' => e = .returned (.int .i64 (idxOf xs a)) ∧ w = w' := by
  have hn := hsl.len
  have hnl := hsl.le
  unfold maxLen at hnl
  subst hn
  have HSL := Lib.hid hsl; clear hsl
  go_enter Tryz.func90, Tryz.ntmps90
  go_wp2_with fail
  go_loop [4, 5, 8] (fun _ _ i => ∃ k : Nat, k ≤ xs.length ∧ i = .int .i64 k ∧ Hid (hasB (xs.take k) a = false)) (fun _ _ i => xs.length - (intOf i).toNat)
  case atStart => exact ⟨0, Nat.zero_le _, rfl, rfl⟩
  case round =>
    obtain ⟨k, hk, rfl, HK⟩ := hrel
    by_cases hlt : k < xs.length
    · obtain ⟨b, o, rfl, hbS, hc0⟩ := HSL.out.name_at hlt
      have he : xs[k]? = some (xs.getD k noStr) := by
        rw [List.getD_eq_getElem?_getD, List.getElem?_eq_getElem hlt]
        rfl
      generalize hz : xs.getD k noStr = nm at *
      have HE := Lib.hid he
      clear hz he
      by_cases hq : nm = a
      · have hb : (a.toList == nm.toList) = true := by rw [str_beq, decide_eq_true hq.symm]
        have HR : Hid (idxOf xs a = k) := idxOf_hit' HK.out (by rw [HE.out, hq])
        clear hq
        go_wp2_with fail
        go_ret
        exact ⟨ret_int HR.out.symm, rfl⟩
      · have hb : (a.toList == nm.toList) = false := by rw [str_beq, decide_eq_false (fun e => hq e.symm)]
        have HN : Hid (hasB (xs.take (k + 1)) a = false) := hasB_next HK.out HE.out hq
        clear hq
        go_wp2_with fail
        go_round
        case rel => exact ⟨k + 1, by omega, by go_num, HN⟩
        case measure => simp [intOf]; omega
    · have HR : Hid (idxOf xs a = -1) := idxOf_none (by
        have := HK.out
        rwa [List.take_of_length_le (by omega)] at this)
      go_wp2_with fail
      go_ret
      exact ⟨ret_int HR.out.symm, rfl⟩
theorem idxOf_geB (l : List ByteArray) (a : ByteArray) : decide (0 ≤ idxOf l a) = hasB l a := by
  have h := idxOf_neg l a
  cases hb : hasB l a
  · rw [hb] at h
    have : idxOf l a < 0 := by simpa using h
    exact decide_eq_false (by omega)
  · rw [hb] at h
    have : ¬ idxOf l a < 0 := by simpa using h
    exact decide_eq_true (by omega)
theorem containsStr_any (xs : List ByteArray) (a : ByteArray) (A : Option Addr) (n c : Nat) (S : Nat → Prop) (w : World) (hsl : Sl Ty.str w S A n c xs) :
    Calls Tryz.prog 51 #[.slice A n c, .string a] w fun e w' => e = .returned (.bool (hasB xs a)) ∧ w = w' := by
  have HC := Lib.hid (indexStr_any xs a A n c S w hsl)
  have HG := Lib.hid (idxOf_geB xs a)
  clear hsl
  go_enter Tryz.func51, Tryz.ntmps51
  go_wp2_with fail
  refine HC.out.mono ?_
  rintro e w' ⟨rfl, rfl⟩
  generalize idxOf xs a = ix at *
  go_wp2_with fail
  go_ret
  exact ⟨ret_bool HG.out, rfl⟩
def BoolPost (x : Bool) (w : World) (e : Ending) (w' : World) : Prop := e = .returned (.bool x) ∧ Below w.heap.size w w'
theorem qualified_any (p : GPerson) (a : ByteArray) (A1 A2 : Option Addr) (n1 n2 c1 c2 : Nat) (w : World) (hs1 : Sl Ty.str w (all_ w) A1 n1 c1 p.types) :
    Calls Tryz.prog 18 #[.agg #[.int .i64 p.id, .string p.name, .string p.base, .int .i64 p.rank, .int .i64 p.sen, .slice A1 n1 c1, .slice A2 n2 c2], .string a] w (BoolPost (hasB p.types a) w) := by
  have hb0 := (Below.refl w.heap.size w).alloc (Nat.le_refl _) (.cells #[.int .i64 p.id, .string p.name, .string p.base, .int .i64 p.rank, .int .i64 p.sen, .slice A1 n1 c1, .slice A2 n2 c2] 49)
  have HC := Lib.hid (containsStr_any p.types a A1 n1 c1 _ _ (hs1.next hb0))
  have HB := Lib.hid hb0
  clear hs1 hb0
  go_enter Tryz.func18, Tryz.ntmps18
  go_wp2_with fail
  refine HC.out.mono ?_
  rintro e w' ⟨rfl, rfl⟩
  go_wp2_with fail
  go_ret
  exact ⟨rfl, HB.out⟩
end Go.Proofs.YtkhedjfdjjeopaaGreatDoor
/-
  Contract of pairinglaw10.awake: it returns true.
  No condition.
-/
namespace Go.Proofs.YtkhedjfdjjeopaaGreatDoor
set_option linter.unusedSimpArgs false
set_option linter.unusedVariables false
open Go.RowKit

def sAnna : ByteArray := ⟨#[97, 110, 110, 97]⟩
def sB737 : ByteArray := ⟨#[98, 55, 51, 55]⟩
def sA320 : ByteArray := ⟨#[97, 51, 50, 48]⟩
def anna : GPerson := ⟨7, sAnna, sAAA, 0, 3, [sB737], []⟩
theorem anna_zero : crewE baseTbl [anna] = 0 := by decide +kernel
theorem len16c {n : Nat} (h : n ≤ 16) : n ≤ maxLen := by unfold maxLen; omega
theorem GTT.fine.okc {t : GTT} (h : t.fine) : t.ok := by
  refine ⟨fun z hz => ?_, fun a ha => ?_, fun f hf => ?_⟩
  · obtain ⟨h1, h2, h3, h4⟩ := h.z z hz
    exact ⟨len16c h1, by omega, fun s hs => by obtain ⟨g1, g2⟩ := h4 s hs; exact ⟨by omega, by omega⟩⟩
  · obtain ⟨h1, h2⟩ := h.a a ha
    exact ⟨len16c h1, len16c h2⟩
  · obtain ⟨h1, h2, h3, h4, h5, h6, h7, h8, h9⟩ := h.f f hf
    exact ⟨len16c h1, len16c h2, len16c h3, len16c h4, by omega, by omega, by omega, by omega, by omega⟩
theorem GPerson.fine.okc {p : GPerson} (h : p.fine) : p.ok := by
  obtain ⟨h1, h2, h3, h4, h5, h6, h7, h8, h9⟩ := h
  exact ⟨by omega, len16c h2, len16c h3, by omega, by omega, fun s hs => len16c (h7 s hs), fun s hs => by obtain ⟨g1, g2⟩ := h9 s hs; exact ⟨by omega, by omega⟩⟩
theorem tbl_ok : baseTbl.ok := (crewE_zero.1 anna_zero).tt.fine.okc
theorem anna_ok : ∀ p ∈ [anna], p.ok := fun p hp => ((crewE_zero.1 anna_zero).fine p hp).okc
def annaB : List Int := frameB 2 (crewB [anna])
theorem annaB_bytes : bytesL annaB := frameB_bytes ⟨by decide, by decide⟩ (crewB_bytes (crewE_zero.1 anna_zero).fine)
theorem annaB_dec : decCrew baseTbl annaB = ([anna], 0) := decCrew_back baseTbl [anna] (crewE_zero.1 anna_zero)
def CAwPost (w : World) (e : Ending) (w' : World) : Prop := e = .returned (.bool true) ∧ Below w.heap.size w w'
theorem hasB_anna1 : hasB anna.types ⟨#[98, 55, 51, 55]⟩ = true := by decide +kernel
theorem hasB_anna2 : hasB anna.types ⟨#[97, 51, 50, 48]⟩ = false := by decide +kernel
set_option maxRecDepth 100000 in
set_option maxHeartbeats 1600000 in
theorem crewAwake_any (w : World) : Calls Tryz.prog 7 #[] w (CAwPost w) := by
  have hb0 : Below w.heap.size w ((w.alloc (.cells #[.string ⟨#[98, 55, 51, 55]⟩] 9)).alloc (.cells #[.int .i64 7, .string ⟨#[97, 110, 110, 97]⟩, .string ⟨#[65, 65, 65]⟩, .int .i64 0, .int .i64 3, .slice (some ⟨w.heap.size, 0, none⟩) 1 1, .slice none 0 0] 49)) := ((Below.refl _ _).alloc (Nat.le_refl _) _).alloc (by simp) _
  have hx0 : ((w.alloc (.cells #[.string ⟨#[98, 55, 51, 55]⟩] 9)).alloc (.cells #[.int .i64 7, .string ⟨#[97, 110, 110, 97]⟩, .string ⟨#[65, 65, 65]⟩, .int .i64 0, .int .i64 3, .slice (some ⟨w.heap.size, 0, none⟩) 1 1, .slice none 0 0] 49)).heap[w.heap.size]? = some (.cells #[.string ⟨#[98, 55, 51, 55]⟩] 9) := heap_alloc2_old _ _ _
  have hx1 : ((w.alloc (.cells #[.string ⟨#[98, 55, 51, 55]⟩] 9)).alloc (.cells #[.int .i64 7, .string ⟨#[97, 110, 110, 97]⟩, .string ⟨#[65, 65, 65]⟩, .int .i64 0, .int .i64 3, .slice (some ⟨w.heap.size, 0, none⟩) 1 1, .slice none 0 0] 49)).heap[w.heap.size + 1]? = some (.cells #[.int .i64 7, .string ⟨#[97, 110, 110, 97]⟩, .string ⟨#[65, 65, 65]⟩, .int .i64 0, .int .i64 3, .slice (some ⟨w.heap.size, 0, none⟩) 1 1, .slice none 0 0] 49) := heap_alloc2_new _ _ _
  have hz0 : ((w.alloc (.cells #[.string ⟨#[98, 55, 51, 55]⟩] 9)).alloc (.cells #[.int .i64 7, .string ⟨#[97, 110, 110, 97]⟩, .string ⟨#[65, 65, 65]⟩, .int .i64 0, .int .i64 3, .slice (some ⟨w.heap.size, 0, none⟩) 1 1, .slice none 0 0] 49)).heap.size = w.heap.size + 2 := by simp
  have HB0 := Lib.hid hb0; have HX0 := Lib.hid hx0; have HX1 := Lib.hid hx1; have HZ0 := Lib.hid hz0
  clear hb0 hx0 hx1 hz0
  go_enter Tryz.func7, Tryz.ntmps7
  go_wp2_with fail
  generalize ((w.alloc (.cells #[.string ⟨#[98, 55, 51, 55]⟩] 9)).alloc (.cells #[.int .i64 7, .string ⟨#[97, 110, 110, 97]⟩, .string ⟨#[65, 65, 65]⟩, .int .i64 0, .int .i64 3, .slice (some ⟨w.heap.size, 0, none⟩) 1 1, .slice none 0 0] 49)) = W at *
  have HSL : Hid (Sl Ty.person W (all_ W) (some ⟨w.heap.size + 1, 0, none⟩) 1 1 [anna]) := by
    have hz := HZ0.out
    have k1 : Sl Ty.str W (all_ W) (some ⟨w.heap.size, 0, none⟩) 1 1 [sB737] := Sl.block (xs := [sB737]) (t := Ty.str) HX0.out (show _ < _ by omega) (show 1 ≤ maxLen by decide) fun i x hi => by
      rcases i with _ | i
      · simp at hi; subst hi; rfl
      · simp at hi
    refine Sl.block (xs := [anna]) (t := Ty.person) HX1.out (show _ < _ by omega) (show 1 ≤ maxLen by decide) fun i x hi => ?_
    rcases i with _ | i
    · simp at hi; subst hi; exact ⟨_, 1, 1, none, 0, 0, rfl, k1, Sl.nil0⟩
    · simp at hi
  refine (crewTable_any W).mono ?_
  rintro e w1 ⟨A1, n1, c1, A2, n2, c2, rfl, hs1, hs2, hb1⟩
  have HEN := Lib.hid (crewEncode_ok baseTbl [anna] A1 A2 none _ n1 n2 0 1 c1 c2 0 1 w1 tbl_ok anna_ok anna_zero (hs1.more fun b hb => hb.2) (hs2.more fun b hb => hb.2) Sl.nil0 (HSL.out.next hb1))
  have hbw1 : Below w.heap.size w w1 := HB0.out.trans (hb1.mono HB0.out.size)
  clear hs1 hs2 hb1 HX0 HX1 HSL
  go_wp2_with fail
  refine HEN.out.mono ?_
  clear HEN
  rintro e w2 ⟨v2, rfl, hown2, hb2⟩
  obtain ⟨Ab, cb, rfl, hslb⟩ := hown2.sl
  have hlb : (frameB 2 (crewB [anna])).length = annaB.length := rfl
  rw [hlb]
  have hbw2 : Below w.heap.size w w2 := hbw1.trans (hb2.mono hbw1.size)
  have HSB : Hid (Sl (Ty.int .u8) w2 (all_ w2) Ab annaB.length cb annaB) := hslb.more fun b hb => hb.2
  clear hown2 hslb hlb hb2 hbw1
  go_wp2_with fail
  refine (crewTable_any w2).mono ?_
  rintro e w3 ⟨B1, m1, d1, B2, m2, d2, rfl, hs1, hs2, hb3⟩
  have HD := Lib.hid (crewDecode_any baseTbl annaB Ab B1 B2 none _ cb m1 m2 0 d1 d2 0 w3 tbl_ok (hs1.more fun b hb => hb.2) (hs2.more fun b hb => hb.2) Sl.nil0 (HSB.out.next hb3) annaB_bytes)
  rw [annaB_dec] at HD
  have hbw3 : Below w.heap.size w w3 := hbw2.trans (hb3.mono hbw2.size)
  clear hs1 hs2 hb3 hbw2
  go_wp2_with fail
  refine HD.out.mono ?_
  clear HD
  rintro e w4 ⟨Ap, np, cp, rfl, hsl, hb4⟩
  have hnp : np = 1 := hsl.len
  subst hnp
  have hbw4 : Below w.heap.size w w4 := hbw3.trans (hb4.mono hbw3.size)
  obtain ⟨b, o, P1, k1, e1, P2, k2, e2, rfl, hbS, hat, hsT, hsV⟩ := hsl.person_at (k := 0) (by decide)
  have y0 : w4.cell? ⟨b, o, none⟩ = some (.int .i64 7) := hat 0 _ rfl
  have y1 : w4.cell? ⟨b, o + 1, none⟩ = some (.string ⟨#[97, 110, 110, 97]⟩) := hat 1 _ rfl
  have y2 : w4.cell? ⟨b, o + 2, none⟩ = some (.string ⟨#[65, 65, 65]⟩) := hat 2 _ rfl
  have y3 : w4.cell? ⟨b, o + 3, none⟩ = some (.int .i64 0) := hat 3 _ rfl
  have y4 : w4.cell? ⟨b, o + 4, none⟩ = some (.int .i64 3) := hat 4 _ rfl
  have y5 : w4.cell? ⟨b, o + 5, none⟩ = some (.slice P1 k1 e1) := hat 5 _ rfl
  have y6 : w4.cell? ⟨b, o + 6, none⟩ = some (.slice P2 k2 e2) := hat 6 _ rfl
  have HT := Lib.hid (hsT.more (S' := all_ w4) fun b hb => hb.2)
  have HAT : Hid (∀ V, Below w4.heap.size w4 V → ∀ j, V.cell? ⟨b, o + j, none⟩ = w4.cell? ⟨b, o + j, none⟩) := fun V hV j => hV.cell (show b < _ from hbS.2)
  clear hsl hat hsT hsV hbS hb4 hbw3
  go_wp2_with fail
  refine (qualified_any anna ⟨#[98, 55, 51, 55]⟩ P1 P2 k1 k2 e1 e2 w4 HT.out).mono ?_
  rintro e w5 ⟨rfl, hb5⟩
  rw [hasB_anna1]
  have q := HAT.out w5 hb5
  have x0 : w5.cell? ⟨b, o, none⟩ = some (.int .i64 7) := (q 0).trans y0; have x1 := (q 1).trans y1; have x2 := (q 2).trans y2; have x3 := (q 3).trans y3; have x4 := (q 4).trans y4; have x5 := (q 5).trans y5; have x6 := (q 6).trans y6
  have hbw5 : Below w.heap.size w w5 := hbw4.trans (hb5.mono hbw4.size)
  clear q y0 y1 y2 y3 y4 y5 y6
  go_wp2_with fail
  refine (qualified_any anna ⟨#[97, 51, 50, 48]⟩ P1 P2 k1 k2 e1 e2 w5 (HT.out.next hb5)).mono ?_
  rintro e w6 ⟨rfl, hb6⟩
  rw [hasB_anna2]
  have hbw6 : Below w.heap.size w w6 := hbw5.trans (hb6.mono hbw5.size)
  go_wp2_with fail
  go_ret
  exact ⟨rfl, hbw6⟩
end Go.Proofs.YtkhedjfdjjeopaaGreatDoor
/-
  Contract of the reference's BodyCrew (package pairingref9): the bytes of a crew.
  Condition: the crew's numbers and lengths are small.
-/
namespace Go.Proofs.YtkhedjfdjjeopaaGreatDoor
set_option linter.unusedSimpArgs false
set_option linter.unusedVariables false
open Go.RowKit

theorem box_grownc {α : Type} {t : Ty α} {e T : TypeId} {w w' : World} {base b : Nat} {v : Value} {xs : List α} {cs : Array Value} (h : Own t e w base v xs) (hb : w.heap[b]? = some (.cells cs T (0, 0))) (hT : T ≠ e) (hg : w.grownBy w' v.ownBlock) : w'.heap[b]? = some (.cells cs T (0, 0)) :=
  (hg.block b (Array.getElem?_eq_some_iff.1 hb).1 (own_box_ne h hb hT)).trans hb
/-- The row v of the bytes bs, made from block g on; nothing below g has changed since w0. -/
structure RV (g : Nat) (w0 w : World) (v : Value) (bs : List Int) : Prop where
  own : Own (Ty.int .u8) 5 w g v bs
  bel : Below g w0 w
  le : g ≤ w.heap.size
section
variable {g : Nat} {w0 w w' : World} {v v' : Value} {bs bs' : List Int}
theorem RV.step (h : RV g w0 w v bs) (ho : Own (Ty.int .u8) 5 w' g v' bs') (hg : w.grownBy w' v.ownBlock) : RV g w0 w' v' bs' :=
  ⟨ho, h.bel.grown hg h.le fun k hk => (h.own.lt k hk).1, Nat.le_trans h.le hg.size⟩
theorem RV.next (h : RV g w0 w v bs) (hb : Below w.heap.size w w') : RV g w0 w' v bs := ⟨h.own.next hb, h.bel.trans (hb.mono h.le), Nat.le_trans h.le hb.size⟩
theorem RV.alloc (h : RV g w0 w v bs) (o : Obj) : RV g w0 (w.alloc o) v bs := h.next ((Below.refl _ _).alloc (Nat.le_refl _) o)
theorem RV.drewN (h : RV g w0 w v bs) (n : Nat) : RV g w0 (w.drewN n) v bs := h.next (below_drewN (Below.refl _ _) n)
def RVPost (g : Nat) (w0 w : World) (v : Value) (bs : List Int) (e : Ending) (w' : World) : Prop := ∃ v', e = .returned v' ∧ RV g w0 w' v' bs ∧ w.grownBy w' v.ownBlock
theorem vUint (n : Int) (h : RV g w0 w v bs) (hl : bs.length < 900000000) (h0 : 0 ≤ n) (h1 : n ≤ 4611686018427387904) : Calls Tryz.prog 72 #[v, .int .i64 n] w (RVPost g w0 w v (bs ++ uvar n)) :=
  (refUint_any g v bs n w h.own h.le hl h0 h1).mono fun _ _ ⟨v', he, h2, h3⟩ => ⟨v', he, h.step h2 h3, h3⟩
theorem vText (s : ByteArray) (h : RV g w0 w v bs) (hl : bs.length < 900000000) (h1 : s.size ≤ 20000) : Calls Tryz.prog 73 #[v, .string s] w (RVPost g w0 w v (bs ++ textB s)) :=
  (refText_any g v bs s w h.own h.le hl h1).mono fun _ _ ⟨v', he, h2, h3⟩ => ⟨v', he, h.step h2 h3, h3⟩
end

set_option maxRecDepth 100000 in
set_option maxHeartbeats 3200000 in
theorem refBodyCrew_any (l : List GPerson) (A : Option Addr) (n c : Nat) (w : World) (hll : l.length ≤ 64) (hf : ∀ p ∈ l, p.fine) (hs : Sl Ty.person w (all_ w) A n c l) :
    Calls Tryz.prog 32 #[.slice A n c] w (NewRow (crewB l) w) := by
  have e1 : n ≤ l.length := Nat.le_of_eq hs.len
  have e1' : l.length ≤ n := Nat.le_of_eq hs.len.symm
  have HFI := Lib.hid hf
  have HX : Hid (∀ V, Below w.heap.size w V → Sl Ty.person V (all_ w) A n c l) := fun V hV => hs.keep (all_keep hV)
  have hrw0 : RV w.heap.size w w (.slice none 0 0) [] := ⟨Own.nil, Below.refl _ _, Nat.le_refl _⟩
  clear hf hs
  go_enter Tryz.func32, Tryz.ntmps32
  go_wp2_with fail
  refine (vUint (n : Int) hrw0 (by simp) (by omega) (by omega)).mono ?_
  rintro e w2 ⟨v2, rfl, hrw2, -⟩
  rw [List.nil_append] at hrw2
  clear hrw0
  go_wp2_with fail
  go_loopw [3, 4] (fun sb i wr => ∃ (k : Nat), k ≤ n ∧ i = .int .i64 k ∧ RV w.heap.size w wr sb (uvar n ++ (l.take k).flatMap personB)) (fun _ i _ => n - (intOf i).toNat)
  case atStart => exact ⟨0, Nat.zero_le _, rfl, by simpa using hrw2⟩
  case round =>
    obtain ⟨k, hk, rfl, hrw⟩ := hrel
    clear hrw2
    have hlen : (uvar n ++ (l.take k).flatMap personB).length ≤ 40000 := by
      have := flatMap_take_len (f := personB) (M := 600) (fun x hx => personB_len (HFI.out x hx)) k
      have := uvar_len n
      rw [List.length_append]
      omega
    by_cases hlt : k < n
    · have hks : k < l.length := by omega
      obtain ⟨b, o, B1, k1, d1, B2, k2, d2, rfl, hbS, hat, hsT, hsV⟩ := (HX.out wr hrw.bel).person_at hks
      have hpf := HFI.out _ (getD_in hks noPerson)
      have HSN : Hid (uvar n ++ (l.take (k + 1)).flatMap personB = uvar n ++ (l.take k).flatMap personB ++ personB (l.getD k noPerson)) := by
        show _ = _
        rw [flatMap_take personB hks noPerson, List.append_assoc]
      generalize l.getD k noPerson = p at *
      obtain ⟨pi, pn, pb, pr, ps, plt, pt, plv, pv⟩ := hpf
      have HPT := Lib.hid pt; have HPV := Lib.hid pv
      have m1 : k1 ≤ p.types.length := Nat.le_of_eq hsT.len
      have m1' : p.types.length ≤ k1 := Nat.le_of_eq hsT.len.symm
      have m2 : k2 ≤ p.vacs.length := Nat.le_of_eq hsV.len
      have m2' : p.vacs.length ≤ k2 := Nat.le_of_eq hsV.len.symm
      have HPB : Hid (personB p = uvar p.id ++ textB p.name ++ textB p.base ++ uvar p.rank ++ uvar p.sen ++ uvar k1 ++ p.types.flatMap textB ++ uvar k2 ++ p.vacs.flatMap spanB) := by
        show _ = _
        rw [hsT.len, hsV.len]; rfl
      have HQ : Hid (∀ V, Below w.heap.size w V → Sl Ty.str V (all_ w) B1 k1 d1 p.types ∧ Sl Ty.shift V (all_ w) B2 k2 d2 p.vacs) := fun V hV => by
        have hq : ∀ q, all_ w q → V.heap[q]? = wr.heap[q]? := fun q hq => (hV.block q hq).trans (hrw.bel.block q hq).symm
        exact ⟨hsT.keep hq, hsV.keep hq⟩
      have y0 : wr.cell? ⟨b, o + k * 7, none⟩ = some (.int .i64 p.id) := hat 0 _ rfl
      have y1 := hat 1 _ rfl; have y2 := hat 2 _ rfl; have y3 := hat 3 _ rfl; have y4 := hat 4 _ rfl; have y5 := hat 5 _ rfl; have y6 := hat 6 _ rfl
      generalize uvar n ++ (l.take k).flatMap personB = pre at *
      have hra := hrw.alloc (.cells #[.int .i64 p.id, .string p.name, .string p.base, .int .i64 p.rank, .int .i64 p.sen, .slice B1 k1 d1, .slice B2 k2 d2] 49)
      have hbx := heap_alloc_new wr (.cells #[.int .i64 p.id, .string p.name, .string p.base, .int .i64 p.rank, .int .i64 p.sen, .slice B1 k1 d1, .slice B2 k2 d2] 49)
      clear pt pv hsT hsV hbS hrw hat
      go_upto_region 6 with (fail)
      clear y0 y1 y2 y3 y4 y5 y6
      generalize wr.alloc (.cells #[.int .i64 p.id, .string p.name, .string p.base, .int .i64 p.rank, .int .i64 p.sen, .slice B1 k1 d1, .slice B2 k2 d2] 49) = V at *
      generalize wr.heap.size = zb at *
      have HBX := Lib.hid hbx
      have q0 : V.cell? ⟨zb, 0, none⟩ = some (.int .i64 p.id) := block_cell hbx 0
      have q1 : V.cell? ⟨zb, 1, none⟩ = some (.string p.name) := block_cell hbx 1
      have q2 : V.cell? ⟨zb, 2, none⟩ = some (.string p.base) := block_cell hbx 2
      have t1 := uvar_len p.id; have t2 := textB_le pn; have t3 := textB_le pb; have t4 := uvar_len p.rank; have t5 := uvar_len p.sen; have t6 := uvar_len k1; have t7 := uvar_len k2
      have hrd := Lib.hid (hra.drewN 1)
      have hlp : pre.length ≤ 40000 := hlen
      have tok1 : True := trivial
      clear hbx hra hlen
      go_cut [3] (fun sb wx => RV w.heap.size w wx sb (pre ++ uvar p.id ++ textB p.name ++ textB p.base) ∧ wx.heap[zb]? = some (.cells #[.int .i64 p.id, .string p.name, .string p.base, .int .i64 p.rank, .int .i64 p.sen, .slice B1 k1 d1, .slice B2 k2 d2] 49 (0, 0)))
      case first =>
        go_region_law (first
          | (go_simp; go_at_call 72; refine (vUint p.id hrd.out (by omega) (by omega) (by omega)).mono ?_; rintro e wa ⟨va, rfl, hwa, hga⟩; have hza := box_grownc hrd.out.own HBX.out (by decide) hga; have q1' : wa.cell? ⟨zb, 1, none⟩ = some (.string p.name) := block_cell hza 1; have q2' : wa.cell? ⟨zb, 2, none⟩ = some (.string p.base) := block_cell hza 2)
          | (go_simp; go_at_call 73; have _t1 := tok1; refine (vText p.name hwa (by simp; omega) (by omega)).mono ?_; rintro e wb ⟨vb, rfl, hwb, hgb⟩; have hzb := box_grownc hwa.own hza (by decide) hgb; have q2'' : wb.cell? ⟨zb, 2, none⟩ = some (.string p.base) := block_cell hzb 2; clear tok1)
          | (go_simp; go_at_call 73; refine (vText p.base hwb (by simp; omega) (by omega)).mono ?_; rintro e wd ⟨vd, rfl, hwd, hgd⟩; have hzd := box_grownc hwb.own hzb (by decide) hgd)
          | fail)
        all_goals
          go_wp2_with fail
          go_meet
          exact ⟨hwd, hzd⟩
      case rest =>
        obtain ⟨hwb, hzb⟩ := hcut
        clear q0 q1 q2 hrd HBX tok1
        have hl2 : (pre ++ uvar p.id ++ textB p.name ++ textB p.base).length ≤ 40100 := by simp only [List.length_append]; omega
        generalize hp2 : pre ++ uvar p.id ++ textB p.name ++ textB p.base = pre2 at *
        have HP2 := Lib.hid hp2
        clear hp2
        have q3 : wc.cell? ⟨zb, 3, none⟩ = some (.int .i64 p.rank) := block_cell hzb 3
        have q4 : wc.cell? ⟨zb, 4, none⟩ = some (.int .i64 p.sen) := block_cell hzb 4
        have hrd := Lib.hid (hwb.drewN 1)
        have HBX := Lib.hid hzb
        have tok1 : True := trivial
        clear hwb hzb
        obtain ⟨wo, rfl⟩ : ∃ wo : World, wo = wc := ⟨_, rfl⟩
        go_upto_region 7 with (fail)
        go_cut [3] (fun sb wx => RV w.heap.size w wx sb (pre2 ++ uvar p.rank ++ uvar p.sen) ∧ wx.heap[zb]? = some (.cells #[.int .i64 p.id, .string p.name, .string p.base, .int .i64 p.rank, .int .i64 p.sen, .slice B1 k1 d1, .slice B2 k2 d2] 49 (0, 0)))
        case first =>
          go_region_law (first
            | (go_simp; go_at_call 72; have _t1 := tok1; refine (vUint p.rank hrd.out (by omega) (by omega) (by omega)).mono ?_; rintro e wa ⟨va, rfl, hwa, hga⟩; have hza := box_grownc hrd.out.own HBX.out (by decide) hga; have q4' : wa.cell? ⟨zb, 4, none⟩ = some (.int .i64 p.sen) := block_cell hza 4; clear tok1)
            | (go_simp; go_at_call 72; refine (vUint p.sen hwa (by simp; omega) (by omega) (by omega)).mono ?_; rintro e wd ⟨vd, rfl, hwd, hgd⟩; have hzd := box_grownc hwa.own hza (by decide) hgd)
            | fail)
          all_goals
            go_wp2_with fail
            go_meet
            exact ⟨hwd, hzd⟩
        case rest =>
          obtain ⟨hwb, hzb⟩ := hcut
          clear q3 q4 hrd HBX tok1
          have hl3 : (pre2 ++ uvar p.rank ++ uvar p.sen).length ≤ 40200 := by simp only [List.length_append]; omega
          generalize hp3 : pre2 ++ uvar p.rank ++ uvar p.sen = pre3 at *
          have HP3 := Lib.hid hp3
          clear hp3
          have q5 : wc.cell? ⟨zb, 5, none⟩ = some (.slice B1 k1 d1) := block_cell hzb 5
          go_wp2_with fail
          refine (vUint (k1 : Int) hwb (by omega) (by omega) (by omega)).mono ?_
          rintro e w6 ⟨v6, rfl, hw6, hg6⟩
          have hz6 := box_grownc hwb.own hzb (by decide) hg6
          clear hwb hzb hg6 q5
          have hl4 : (pre3 ++ uvar k1).length ≤ 40300 := by simp only [List.length_append]; omega
          generalize hp4 : pre3 ++ uvar k1 = pre4 at *
          have HP4 := Lib.hid hp4
          clear hp4
          go_wp2_with fail
          go_loopw [3, 6] (fun sb i wq => ∃ (j : Nat), j ≤ k1 ∧ i = .int .i64 j ∧ RV w.heap.size w wq sb (pre4 ++ (p.types.take j).flatMap textB) ∧ wq.heap[zb]? = some (.cells #[.int .i64 p.id, .string p.name, .string p.base, .int .i64 p.rank, .int .i64 p.sen, .slice B1 k1 d1, .slice B2 k2 d2] 49 (0, 0))) (fun _ i _ => k1 - (intOf i).toNat)
          case atStart => exact ⟨0, Nat.zero_le _, rfl, by simpa using hw6, hz6⟩
          case round =>
            obtain ⟨j, hj, rfl, hrw, hzb⟩ := hrel
            clear hw6 hz6
            have q5 : wr.cell? ⟨zb, 5, none⟩ = some (.slice B1 k1 d1) := block_cell hzb 5
            have hlen2 : (pre4 ++ (p.types.take j).flatMap textB).length ≤ 40600 := by
              have := flatMap_take_len (f := textB) (M := 26) (l := p.types) (fun x hx => textB_le (HPT.out x hx)) j
              rw [List.length_append]
              omega
            by_cases hlt2 : j < k1
            · have hjs : j < p.types.length := by omega
              obtain ⟨bt, ot, rfl, hbS, y0⟩ := (HQ.out wr hrw.bel).1.name_at hjs
              have hsz := HPT.out _ (getD_in hjs noStr)
              have HSN2 : Hid (pre4 ++ (p.types.take (j + 1)).flatMap textB = pre4 ++ (p.types.take j).flatMap textB ++ textB (p.types.getD j noStr)) := by
                show _ = _
                rw [flatMap_take textB hjs noStr, List.append_assoc]
              generalize p.types.getD j noStr = s at *
              generalize pre4 ++ (p.types.take j).flatMap textB = pre5 at *
              have HZ9 := Lib.hid hzb
              clear hbS hzb
              go_wp2_with fail
              refine (vText s hrw (by omega) (by omega)).mono ?_
              rintro e w7 ⟨v7, rfl, hw7, hg7⟩
              have hz7 := box_grownc hrw.own HZ9.out (by decide) hg7
              rw [← HSN2.out] at hw7
              clear hrw hg7 y0 q5
              go_wp2_with fail
              go_roundw
              case rel => exact ⟨j + 1, by omega, by go_num, hw7, hz7⟩
              case measure => simp [intOf]; omega
            · rw [List.take_of_length_le (by omega)] at hlen2 hrw
              have q6 : wr.cell? ⟨zb, 6, none⟩ = some (.slice B2 k2 d2) := block_cell hzb 6
              generalize hp5 : pre4 ++ p.types.flatMap textB = pre5 at *
              have HP5 := Lib.hid hp5
              clear hp5
              go_wp2_with fail
              refine (vUint (k2 : Int) hrw (by omega) (by omega) (by omega)).mono ?_
              rintro e w7 ⟨v7, rfl, hw7, hg7⟩
              have hz7 := box_grownc hrw.own hzb (by decide) hg7
              have HFIN : Hid (pre5 ++ uvar k2 ++ p.vacs.flatMap spanB = pre ++ personB p) := by
                show _ = _
                rw [HPB.out, ← HP5.out, ← HP4.out, ← HP3.out, ← HP2.out]
                simp only [List.append_assoc]
              have hl6 : (pre5 ++ uvar k2).length ≤ 40700 := by rw [List.length_append]; omega
              generalize pre5 ++ uvar k2 = pre6 at *
              clear hrw hzb hg7 q5 q6
              go_wp2_with fail
              go_loopw [3, 7] (fun sb i wq => ∃ (j : Nat), j ≤ k2 ∧ i = .int .i64 j ∧ RV w.heap.size w wq sb (pre6 ++ (p.vacs.take j).flatMap spanB) ∧ wq.heap[zb]? = some (.cells #[.int .i64 p.id, .string p.name, .string p.base, .int .i64 p.rank, .int .i64 p.sen, .slice B1 k1 d1, .slice B2 k2 d2] 49 (0, 0))) (fun _ i _ => k2 - (intOf i).toNat)
              case atStart => exact ⟨0, Nat.zero_le _, rfl, by simpa using hw7, hz7⟩
              case round =>
                obtain ⟨r, hr, rfl, hrw, hzb⟩ := hrel
                clear hw7 hz7
                have q6 : wr.cell? ⟨zb, 6, none⟩ = some (.slice B2 k2 d2) := block_cell hzb 6
                have hlen3 : (pre6 ++ (p.vacs.take r).flatMap spanB).length ≤ 41000 := by
                  have := flatMap_take_len (f := spanB) (M := 20) (l := p.vacs) (fun x hx => spanB_len x) r
                  rw [List.length_append]
                  omega
                by_cases hlt3 : r < k2
                · have hrs : r < p.vacs.length := by omega
                  obtain ⟨bt, ot, rfl, hbS, y0, y1⟩ := (HQ.out wr hrw.bel).2.shift_at hrs
                  have hsf := HPV.out _ (getD_in hrs noShift)
                  have HSN2 : Hid (pre6 ++ (p.vacs.take (r + 1)).flatMap spanB = pre6 ++ (p.vacs.take r).flatMap spanB ++ spanB (p.vacs.getD r noShift)) := by
                    show _ = _
                    rw [flatMap_take spanB hrs noShift, List.append_assoc]
                  have HSQ' : Hid (∀ V, Below w.heap.size w V → V.cell? ⟨bt, ot + r * 2, none⟩ = some (.int .i64 (p.vacs.getD r noShift).at_) ∧ V.cell? ⟨bt, ot + r * 2 + 1, none⟩ = some (.int .i64 (p.vacs.getD r noShift).off)) := fun V hV => by
                    obtain ⟨b', o', e', _, y0', y1'⟩ := (HQ.out V hV).2.shift_at hrs
                    injection e' with e'
                    injection e' with e1 e2
                    subst e1 e2
                    exact ⟨y0', y1'⟩
                  generalize p.vacs.getD r noShift = sh at *
                  obtain ⟨hs1, hs2⟩ := hsf
                  have u1 := uvar_len sh.at_
                  have u2 := uvar_len sh.off
                  have HSB : Hid (spanB sh = uvar sh.at_ ++ uvar sh.off) := rfl
                  generalize pre6 ++ (p.vacs.take r).flatMap spanB = pre7 at *
                  have hrd := Lib.hid (hrw.drewN 1)
                  have HZ9 := Lib.hid hzb
                  have hjn : (r : Int) < (k2 : Int) := by omega
                  have hj0 : (0 : Int) ≤ (r : Int) := by omega
                  have tok1 : True := trivial
                  clear hzb hrw
                  have HN : Hid (∀ V v9, RV w.heap.size w V v9 (pre7 ++ uvar sh.at_ ++ uvar sh.off) → RV w.heap.size w V v9 (pre6 ++ (p.vacs.take (r + 1)).flatMap spanB)) := fun V v9 h9 => by
                    rw [HSN2.out, HSB.out, ← List.append_assoc]
                    exact h9
                  go_wp2_with fail
                  go_region_law (first
                    | (go_simp; go_at_call 72; have _t1 := tok1; refine (vUint sh.at_ hrd.out (by omega) (by omega) (by omega)).mono ?_; rintro e wa ⟨va, rfl, hwa, hga⟩; have hza := box_grownc hrd.out.own HZ9.out (by decide) hga; have q2' : wa.cell? ⟨zb, 6, none⟩ = some (.slice (some ⟨bt, ot, none⟩) k2 d2) := block_cell hza 6; have y0' := (HSQ'.out wa hwa.bel).1; have y1' := (HSQ'.out wa hwa.bel).2; clear tok1)
                    | (go_simp; go_at_call 72; refine (vUint sh.off hwa (by simp; omega) (by omega) (by omega)).mono ?_; rintro e wb ⟨vb, rfl, hwb, hgb⟩; have hzb := box_grownc hwa.own hza (by decide) hgb)
                    | fail)
                  all_goals
                    have hfin := HN.out _ _ hwb
                    clear hwb hwa
                    go_wp2_with fail
                    go_roundw
                    case rel => exact ⟨r + 1, by omega, by go_num, hfin, hzb⟩
                    case measure => simp [intOf]; omega
                · have HN : Hid (RV w.heap.size w wr u3 (uvar n ++ (l.take (k + 1)).flatMap personB)) := by
                    show RV _ _ _ _ _
                    rw [HSN.out, ← HFIN.out]
                    have : p.vacs.take r = p.vacs := List.take_of_length_le (by omega)
                    rw [this] at hrw
                    exact hrw
                  clear hrw
                  go_wp2_with fail
                  go_roundw
                  case rel => exact ⟨k + 1, by omega, by go_num, HN.out⟩
                  case measure => simp [intOf]; omega
    · have HFE : Hid (RV w.heap.size w wr u3 (crewB l)) := by
        have : l.take k = l := List.take_of_length_le (by omega)
        rw [this] at hrw
        show RV _ _ _ _ _
        unfold crewB
        rw [show l.length = n by omega]
        exact hrw
      have HBB := Lib.hid hrw.bel
      clear hrw hlen
      go_wp2_with fail
      go_ret
      exact ⟨_, rfl, HFE.out.own, HBB.out⟩
end Go.Proofs.YtkhedjfdjjeopaaGreatDoor
/-
  Contract of pairinglaw10.Same, where both lists read as the same persons.
  Condition: no more than 64 persons, all fine.
-/
namespace Go.Proofs.YtkhedjfdjjeopaaGreatDoor
set_option linter.unusedSimpArgs false
set_option linter.unusedVariables false
open Go.RowKit

theorem row_stringc {w V : World} {base : Nat} {v : Value} {bs : List Int} (h : Own (Ty.int .u8) 5 w base v bs) (hne : bs ≠ []) (hb : Below w.heap.size w V) : (convert 50 9 v).run Tryz.prog V = .ok (.string (strOf bs)) V := by
  obtain ⟨g, cq, rfl, _⟩ := h.int_sl hne
  obtain ⟨A', c', e, hs⟩ := h.sl
  simp only [Value.slice.injEq] at e
  obtain ⟨rfl, -, rfl⟩ := e
  exact run_string_of (P := Tryz.prog) (src := 50) (dst := 9) Tryz.underlying50 Tryz.underlying5 Tryz.underlying9 ((hs.more fun b hb => hb.2).keep (w' := V) fun b hb' => hb.block b hb') (by simp)
set_option maxRecDepth 100000 in
set_option maxHeartbeats 800000 in
theorem crewSame_any (l : List GPerson) (A B : Option Addr) (n c m d : Nat) (w : World) (hll : l.length ≤ 64) (hf : ∀ p ∈ l, p.fine) (hs : Sl Ty.person w (all_ w) A n c l) (ks : Sl Ty.person w (all_ w) B m d l) :
    Calls Tryz.prog 10 #[.slice A n c, .slice B m d] w (CAwPost w) := by
  have HS : Hid (∀ V, Below w.heap.size w V → Sl Ty.person V (all_ V) A n c l ∧ Sl Ty.person V (all_ V) B m d l) := fun V hV => ⟨hs.next hV, ks.next hV⟩
  have HF := Lib.hid hf; have HL := Lib.hid hll
  have HBP := Lib.hid (crewB_pos l)
  have HB := Lib.hid (below_drewN (Below.refl w.heap.size w) 1)
  have heq : ((strOf (crewB l)).toList == (strOf (crewB l)).toList) = true := by simp
  clear hs ks hf hll
  go_enter Tryz.func10, Tryz.ntmps10
  go_wp2_with fail
  have tok1 : True := trivial
  go_region_law (first
    | (go_simp; go_at_call 32; have _t1 := tok1; refine (refBodyCrew_any l A n c _ HL.out HF.out (HS.out _ HB.out).1).mono ?_; rintro e wa ⟨va, rfl, hoa, hba⟩; have hwa : Below w.heap.size w wa := HB.out.trans (hba.mono HB.out.size); have hca := row_stringc hoa HBP.out (Below.refl _ _); clear tok1)
    | (go_simp; go_at_call 32; refine (refBodyCrew_any l B m d _ HL.out HF.out (HS.out _ hwa).2).mono ?_; rintro e wb ⟨vb, rfl, hob, hbb⟩; have hwb : Below w.heap.size w wb := hwa.trans (hbb.mono hwa.size); have hcb := row_stringc hoa HBP.out hbb; have hcc := row_stringc hob HBP.out (Below.refl _ _))
    | fail)
  all_goals
    go_wp2_with fail
    go_ret
    exact ⟨rfl, hwb⟩
end Go.Proofs.YtkhedjfdjjeopaaGreatDoor
/-
  What every card of this seat needs: a witness over laid tables, the arguments read again behind a call that changes nothing below the old heap, and the law's post out of 'returned true' and 'Below'.
  No condition.
-/
namespace Go.Proofs.YtkhedjfdjjeopaaGreatDoor
set_option linter.unusedSimpArgs false
set_option linter.unusedVariables false
open Go.ChangeShapes Go.WideShapes Go.ChangeAt Go.RowKit

theorem ownKnob_none : ownKnob Tryz.prog.godebug = none := by kernel_rfl
theorem laidOut_true : laidOutB Tryz.prog = true := by kernel_rfl

section
variable {H : Type} {enc : TypeId × Value → H} {P : Program}
theorem witness_row_shaped {C : Checked} {os : Os} {f : FuncId} {fn : Func} {s : OpenSpec} {conds : List PathCond} {apart : Bool} {laid : List (String × DataW Unit)} (modest : Bool) (w0 : World) (args : Array Value) (hos : w0.os = os)
    (hsh : (w0.forCall (fun _ _ => 0) ⟨#[], args, []⟩).Shaped C.prog)
    (hok : Input.okWideB C.prog (w0.forCall (fun _ _ => 0) ⟨#[], args, []⟩) f ⟨#[], args, []⟩ = true)
    (hrow : s.preRow enc C.prog fn conds apart laid (w0.forCall (fun _ _ => 0) ⟨#[], args, []⟩).memory args) :
    ∃ (w : World) (tape : Tape) (i : Input), w.os = os ∧ (w.forCall tape i).Shaped C.prog ∧ i.vars = [] ∧ Input.okWide C.prog (w.forCall tape i) .any w.heap.size f i ∧
      s.preRow enc C.prog fn conds apart laid (w.forCall tape i).memory i.args ∧ ({ modest := modest } : Assume).holds C.prog (lone (Frame.enter C.prog f i.args .normal) [] (w.forCall tape i)) :=
  ⟨w0, fun _ _ => 0, ⟨#[], args, []⟩, hos, hsh, (Input.okWide_of_okWideB (base := 0) hok).1, (Input.okWide_of_okWideB hok).2, hrow, by
    simp only [Assume.holds]
    exact ⟨by simp, by simp, fun _ => Modest.zero, by simp, by simp⟩⟩

theorem trodAll_below (hl : laidOutB P = true) {W W' : World} (hb : Below W.heap.size W W') : ∀ {ts : List TypeId} {vs : List Value} {ds : List (DataW H)} {ps : List MemPlace},
    (∀ t ∈ ts, P.readableRec t = true ∧ t < P.types.size) → DataW.TrodAll enc P W 0 (fun _ => true) true ts vs ds ps → (∀ x ∈ ps, x.block < W.heap.size) →
    DataW.TrodAll enc P W' 0 (fun b => decide (b < W.heap.size)) true ts vs ds ps
  | [], [], [], _, _, h, _ => h
  | t :: ts, v :: vs, d :: ds, ps, hr, h, hlt => by
    obtain ⟨p, q, h1, h2, rfl⟩ := h
    exact ⟨p, q, Below.trod hl (hr t (.head _)).1 (hr t (.head _)).2 h1 hb (fun x hx => hlt x (List.mem_append.2 (.inl hx))),
      trodAll_below hl hb (fun t ht => hr t (.tail _ ht)) h2 (fun x hx => hlt x (List.mem_append.2 (.inr hx))), rfl⟩
  | [], [], _ :: _, _, _, h, _ => h.elim
  | [], _ :: _, _, _, _, h, _ => h.elim
  | _ :: _, [], _, _, _, h, _ => h.elim
  | _ :: _, _ :: _, [], _, _, h, _ => h.elim

/-- A law's end: it has returned true, and nothing below the old heap has turned. -/
theorem law_post (hl : laidOutB P = true) {f : Func} {s : ChangeSpec} {apart : Bool} {W W' : World} {args : Array Value} {ds gs : List (DataW H)} {before : List MemPlace} {tb : TypeId}
    (hbool : P.underlying tb = some .bool) (hrt : f.resultTypes = #[tb]) (hv : s.vars = []) (hr : ∀ t ∈ f.params.toList, P.readableRec t = true ∧ t < P.types.size)
    (hfn : (s.fn H ds).results = [.lit (.bool true)] ∧ (s.fn H ds).args = ds ∧ (s.fn H ds).vars = [])
    (hW : DataW.Whole enc P f.params.toList s.vars apart W args.toList ds gs before) (hb : Below W.heap.size W W') :
    s.post enc P f apart true false false W args (.bool true) W' := by
  have hW' := hW
  obtain ⟨p, q, hA, hV, rfl, _, _⟩ := hW
  have hV' := hV
  rw [hv] at hV'
  obtain ⟨rfl, rfl⟩ := trodVars_none hV'
  have e0 : ds ++ [] = ds := List.append_nil _
  refine ⟨ds, [], p ++ [], [], p, [], hW', ?_, ?_, ?_, hb.frame _, fun h => by cases h⟩
  · rw [e0, hfn.1, hrt]
    exact trodAll_mk1 (shut_bool hbool _)
  · rw [e0, hfn.2.1]
    exact trodAll_below hl hb hr hA (fun x hx => hW'.lt x (by simpa using hx))
  · rw [e0, hfn.2.2, hv]
    rfl
end
end Go.Proofs.YtkhedjfdjjeopaaGreatDoor
/-
  How an argument's reading gives the data of timetables.
  No condition.
-/
namespace Go.Proofs.YtkhedjfdjjeopaaGreatDoor
set_option linter.unusedSimpArgs false
set_option linter.unusedVariables false
open Go.ChangeShapes Go.WideShapes Go.ChangeAt Go.RowKit Go.Deep

/-- A struct's reading, field by field. -/
theorem struct_field {P : Program} {t : TypeId} {fs : Array Field} (ht : P.underlying t = some (.struct fs)) {H : Type} {enc : TypeId × Value → H} {w : World} {spare : Nat → Bool} {held : Bool} {fuel : Nat} {cs : List Value} {x : DataW H × List MemPlace}
    (h : DataW.trod enc P w 0 spare held fuel t cs = some x) (hlt : ∀ p ∈ x.2, p.block < w.heap.size) :
    cs.length = P.cellsOf t ∧ ∀ (i : Nat) (f : Field), fs[i]? = some f → ∀ {α : Type} {T : Ty α}, Fits P f.type T → ∃ d, T.rep w (all_ w) ((cs.drop f.offset).take T.size) d ∧ T.ok d := by
  obtain ⟨xs, n, _, rfl, hl, hlen, hf⟩ := DataW.trod_struct ht h
  refine ⟨hl, fun i f hi α T hT => ?_⟩
  have h1 := hf i f hi
  have hil : i < xs.length := by rw [hlen]; exact (Array.getElem?_eq_some_iff.1 hi).1
  rw [List.getElem?_eq_getElem hil] at h1
  rw [hT.1] at h1
  exact hT.2 enc w spare held n _ _ h1 fun p hp => hlt p (List.mem_flatMap.2 ⟨_, List.getElem_mem hil, hp⟩)
theorem i64_ok {x : Int} (h : (Ty.int .i64).ok x) : -9223372036854775808 ≤ x ∧ x ≤ 9223372036854775807 := by
  have h' : IntKind.i64.min ≤ x ∧ x ≤ IntKind.i64.max := h
  have e1 : IntKind.i64.min = -9223372036854775808 := by decide
  have e2 : IntKind.i64.max = 9223372036854775807 := by decide
  omega
theorem fits_i64 : Fits Tryz.prog 3 (Ty.int .i64) := fits_int Tryz.underlying3 (by kernel_rfl)
theorem fits_string : Fits Tryz.prog 9 Ty.str := fits_str Tryz.underlying9 (by kernel_rfl)
theorem list2 {α : Type} {l : List α} (h : l.length = 2) : ∃ a b, l = [a, b] := by
  match l, h with
  | [a, b], _ => exact ⟨a, b, rfl⟩
theorem list3 {α : Type} {l : List α} (h : l.length = 3) : ∃ a b c, l = [a, b, c] := by
  match l, h with
  | [a, b, c], _ => exact ⟨a, b, c, rfl⟩
theorem list9 {α : Type} {l : List α} (h : l.length = 9) : ∃ a b c d e f g i j, l = [a, b, c, d, e, f, g, i, j] := by
  match l, h with
  | [a, b, c, d, e, f, g, i, j], _ => exact ⟨a, b, c, d, e, f, g, i, j, rfl⟩
theorem fits_shift : Fits Tryz.prog 130 Ty.shift := by
  refine ⟨by kernel_rfl, fun enc w spare held fuel cs x h hlt => ?_⟩
  obtain ⟨hl, hf⟩ := struct_field Tryz.underlying130 h hlt
  obtain ⟨d0, r0, o0⟩ := hf 0 _ rfl fits_i64
  obtain ⟨d1, r1, o1⟩ := hf 1 _ rfl fits_i64
  obtain ⟨a, b, rfl⟩ := list2 (hl.trans (show Tryz.prog.cellsOf 130 = 2 by kernel_rfl))
  have e0 : [a] = [Value.int .i64 d0] := r0
  have e1 : [b] = [Value.int .i64 d1] := r1
  simp only [List.cons.injEq, and_true] at e0 e1
  subst e0 e1
  exact ⟨⟨d0, d1⟩, rfl, ⟨i64_ok o0, i64_ok o1⟩⟩
theorem fits_zone : Fits Tryz.prog 46 Ty.zone := by
  refine ⟨by kernel_rfl, fun enc w spare held fuel cs x h hlt => ?_⟩
  obtain ⟨hl, hf⟩ := struct_field Tryz.underlying46 h hlt
  obtain ⟨d0, r0, o0⟩ := hf 0 _ rfl fits_string
  obtain ⟨d1, r1, o1⟩ := hf 1 _ rfl fits_i64
  obtain ⟨d2, r2, o2⟩ := hf 2 _ rfl (fits_slice Tryz.underlying44 (by kernel_rfl) fits_shift)
  obtain ⟨a, b, c, rfl⟩ := list3 (hl.trans (show Tryz.prog.cellsOf 46 = 3 by kernel_rfl))
  have e0 : [a] = [Value.string d0] := r0
  have e1 : [b] = [Value.int .i64 d1] := r1
  obtain ⟨A, n, cc, e2, hs⟩ := r2
  have e2' : [c] = [Value.slice A n cc] := e2
  simp only [List.cons.injEq, and_true] at e0 e1 e2'
  subst e0 e1 e2'
  exact ⟨⟨d0, d1, d2⟩, ⟨A, n, cc, rfl, hs⟩, ⟨o0, i64_ok o1, o2⟩⟩
theorem fits_airport : Fits Tryz.prog 104 Ty.airport := by
  refine ⟨by kernel_rfl, fun enc w spare held fuel cs x h hlt => ?_⟩
  obtain ⟨hl, hf⟩ := struct_field Tryz.underlying104 h hlt
  obtain ⟨d0, r0, o0⟩ := hf 0 _ rfl fits_string
  obtain ⟨d1, r1, o1⟩ := hf 1 _ rfl fits_string
  obtain ⟨a, b, rfl⟩ := list2 (hl.trans (show Tryz.prog.cellsOf 104 = 2 by kernel_rfl))
  have e0 : [a] = [Value.string d0] := r0
  have e1 : [b] = [Value.string d1] := r1
  simp only [List.cons.injEq, and_true] at e0 e1
  subst e0 e1
  exact ⟨⟨d0, d1⟩, rfl, ⟨o0, o1⟩⟩
/-- Three integers in a row. -/
def Ty.int3 : Ty (Int × Int × Int) := {
  size := 3
  rep := fun _ _ cs x => cs = [.int .i64 x.1, .int .i64 x.2.1, .int .i64 x.2.2]
  ok := fun x => (Ty.int .i64).ok x.1 ∧ (Ty.int .i64).ok x.2.1 ∧ (Ty.int .i64).ok x.2.2
  pos := by decide
  len := fun h => by rw [h]; rfl
  keep := fun h _ => h
  more := fun h _ => h
  one := fun h u hu => by rw [h] at hu; simp at hu; rcases hu with rfl | rfl | rfl <;> rfl }
theorem fits_int3 : Fits Tryz.prog 106 Ty.int3 := by
  refine ⟨by kernel_rfl, fun enc w spare held fuel cs x h hlt => ?_⟩
  obtain ⟨xs, m, _, rfl, hl, hlen, hf⟩ := DataW.trod_array Tryz.underlying106 h
  obtain ⟨a, b, c, rfl⟩ := list3 (hl.trans (show Tryz.prog.cellsOf 106 = 3 by kernel_rfl))
  have hc1 : Tryz.prog.cellsOf 3 = 1 := by kernel_rfl
  have key : ∀ i, i < 3 → ∃ d, (([a, b, c].drop i).take 1) = [Value.int .i64 d] ∧ (Ty.int .i64).ok d := fun i hi => by
    have h1 := hf i hi
    rw [List.getElem?_eq_getElem (by omega), hc1, Nat.mul_one] at h1
    exact fits_i64.2 enc w spare held m _ _ h1 fun p hp => hlt p (List.mem_flatMap.2 ⟨_, List.getElem_mem (by omega), hp⟩)
  obtain ⟨d0, e0, o0⟩ := key 0 (by decide)
  obtain ⟨d1, e1, o1⟩ := key 1 (by decide)
  obtain ⟨d2, e2, o2⟩ := key 2 (by decide)
  simp at e0 e1 e2
  subst e0 e1 e2
  exact ⟨(d0, d1, d2), rfl, o0, o1, o2⟩
theorem fits_flight : Fits Tryz.prog 108 Ty.flight := by
  refine ⟨by kernel_rfl, fun enc w spare held fuel cs x h hlt => ?_⟩
  obtain ⟨hl, hf⟩ := struct_field Tryz.underlying108 h hlt
  obtain ⟨d0, r0, o0⟩ := hf 0 _ rfl fits_string
  obtain ⟨d1, r1, o1⟩ := hf 1 _ rfl fits_string
  obtain ⟨d2, r2, o2⟩ := hf 2 _ rfl fits_string
  obtain ⟨d3, r3, o3⟩ := hf 3 _ rfl fits_i64
  obtain ⟨d4, r4, o4⟩ := hf 4 _ rfl fits_i64
  obtain ⟨d5, r5, o5⟩ := hf 5 _ rfl fits_string
  obtain ⟨d6, r6, o6⟩ := hf 6 _ rfl fits_int3
  obtain ⟨c0, c1, c2, c3, c4, c5, c6, c7, c8, rfl⟩ := list9 (hl.trans (show Tryz.prog.cellsOf 108 = 9 by kernel_rfl))
  have e0 : [c0] = [Value.string d0] := r0
  have e1 : [c1] = [Value.string d1] := r1
  have e2 : [c2] = [Value.string d2] := r2
  have e3 : [c3] = [Value.int .i64 d3] := r3
  have e4 : [c4] = [Value.int .i64 d4] := r4
  have e5 : [c5] = [Value.string d5] := r5
  have e6 : [c6, c7, c8] = [Value.int .i64 d6.1, .int .i64 d6.2.1, .int .i64 d6.2.2] := r6
  simp only [List.cons.injEq, and_true] at e0 e1 e2 e3 e4 e5 e6
  obtain ⟨e6, e7, e8⟩ := e6
  subst e0 e1 e2 e3 e4 e5 e6 e7 e8
  exact ⟨⟨d0, d1, d2, d3, d4, d5, d6.1, d6.2.1, d6.2.2⟩, rfl, ⟨o0, o1, o2, o5, i64_ok o3, i64_ok o4, i64_ok o6.1, i64_ok o6.2.1, i64_ok o6.2.2⟩⟩
theorem fits_tt : Fits Tryz.prog 26 Ty.tt := by
  refine ⟨by kernel_rfl, fun enc w spare held fuel cs x h hlt => ?_⟩
  obtain ⟨hl, hf⟩ := struct_field Tryz.underlying26 h hlt
  obtain ⟨d0, r0, o0⟩ := hf 0 _ rfl (fits_slice Tryz.underlying22 (by kernel_rfl) fits_zone)
  obtain ⟨d1, r1, o1⟩ := hf 1 _ rfl (fits_slice Tryz.underlying23 (by kernel_rfl) fits_airport)
  obtain ⟨d2, r2, o2⟩ := hf 2 _ rfl (fits_slice Tryz.underlying24 (by kernel_rfl) fits_flight)
  obtain ⟨a, b, c, rfl⟩ := list3 (hl.trans (show Tryz.prog.cellsOf 26 = 3 by kernel_rfl))
  obtain ⟨A0, n0, q0, e0, s0⟩ := r0
  obtain ⟨A1, n1, q1, e1, s1⟩ := r1
  obtain ⟨A2, n2, q2, e2, s2⟩ := r2
  have e0' : [a] = [Value.slice A0 n0 q0] := e0
  have e1' : [b] = [Value.slice A1 n1 q1] := e1
  have e2' : [c] = [Value.slice A2 n2 q2] := e2
  simp only [List.cons.injEq, and_true] at e0' e1' e2'
  subst e0' e1' e2'
  exact ⟨⟨d0, d1, d2⟩, ⟨A0, n0, q0, A1, n1, q1, A2, n2, q2, rfl, s0, s1, s2⟩, ⟨o0, o1, o2⟩⟩
set_option maxRecDepth 100000 in
/-- A timetable as an argument. -/
theorem open_tt {H : Type} {enc : TypeId × Value → H} {w : World} {base : Nat} {spare : Nat → Bool} {held : Bool} {v : Value} {d : DataW H} {p : List MemPlace} (hv : Value.okWide Tryz.prog w .any base 26 v)
    (h : DataW.Trod enc Tryz.prog w 0 spare held 26 v d p) (hlt : ∀ x ∈ p, x.block < w.heap.size) :
    ∃ A1 n1 c1 A2 n2 c2 A3 n3 c3 t, v = .agg #[.slice A1 n1 c1, .slice A2 n2 c2, .slice A3 n3 c3] ∧ Sl Ty.zone w (all_ w) A1 n1 c1 t.zones ∧ Sl Ty.airport w (all_ w) A2 n2 c2 t.airports ∧ Sl Ty.flight w (all_ w) A3 n3 c3 t.flights ∧ GTT.ok t := by
  obtain ⟨cs, rfl, -⟩ := okWide_struct Tryz.underlying26 hv
  clear hv
  obtain ⟨t, ⟨A1, n1, c1, A2, n2, c2, A3, n3, c3, e, s1, s2, s3⟩, hok⟩ := open_fits fits_tt h hlt
  have e' : cs.toList = [.slice A1 n1 c1, .slice A2 n2 c2, .slice A3 n3 c3] := e
  refine ⟨A1, n1, c1, A2, n2, c2, A3, n3, c3, t, ?_, s1, s2, s3, hok⟩
  exact congrArg Value.agg (Array.ext' e')
end Go.Proofs.YtkhedjfdjjeopaaGreatDoor
/-
  How an argument's reading gives the data of crews.
  No condition.
-/
namespace Go.Proofs.YtkhedjfdjjeopaaGreatDoor
set_option linter.unusedSimpArgs false
set_option linter.unusedVariables false
open Go.ChangeShapes Go.WideShapes Go.ChangeAt Go.RowKit Go.Deep

theorem fits_spanS : Fits Tryz.prog 72 Ty.shift := by
  refine ⟨by kernel_rfl, fun enc w spare held fuel cs x h hlt => ?_⟩
  obtain ⟨hl, hf⟩ := struct_field Tryz.underlying72 h hlt
  obtain ⟨d0, r0, o0⟩ := hf 0 _ rfl fits_i64
  obtain ⟨d1, r1, o1⟩ := hf 1 _ rfl fits_i64
  obtain ⟨a, b, rfl⟩ := list2 (hl.trans (show Tryz.prog.cellsOf 72 = 2 by kernel_rfl))
  have e0 : [a] = [Value.int .i64 d0] := r0
  have e1 : [b] = [Value.int .i64 d1] := r1
  simp only [List.cons.injEq, and_true] at e0 e1
  subst e0 e1
  exact ⟨⟨d0, d1⟩, rfl, ⟨i64_ok o0, i64_ok o1⟩⟩
theorem list7 {α : Type} {l : List α} (h : l.length = 7) : ∃ a b c d e f g, l = [a, b, c, d, e, f, g] := by
  match l, h with
  | [a, b, c, d, e, f, g], _ => exact ⟨a, b, c, d, e, f, g, rfl⟩
theorem fits_person : Fits Tryz.prog 49 Ty.person := by
  refine ⟨by kernel_rfl, fun enc w spare held fuel cs x h hlt => ?_⟩
  obtain ⟨hl, hf⟩ := struct_field Tryz.underlying49 h hlt
  obtain ⟨d0, r0, o0⟩ := hf 0 _ rfl fits_i64
  obtain ⟨d1, r1, o1⟩ := hf 1 _ rfl fits_string
  obtain ⟨d2, r2, o2⟩ := hf 2 _ rfl fits_string
  obtain ⟨d3, r3, o3⟩ := hf 3 _ rfl fits_i64
  obtain ⟨d4, r4, o4⟩ := hf 4 _ rfl fits_i64
  obtain ⟨d5, r5, o5⟩ := hf 5 _ rfl (fits_slice Tryz.underlying36 (by kernel_rfl) fits_string)
  obtain ⟨d6, r6, o6⟩ := hf 6 _ rfl (fits_slice Tryz.underlying47 (by kernel_rfl) fits_spanS)
  obtain ⟨c0, c1, c2, c3, c4, c5, c6, rfl⟩ := list7 (hl.trans (show Tryz.prog.cellsOf 49 = 7 by kernel_rfl))
  have e0 : [c0] = [Value.int .i64 d0] := r0
  have e1 : [c1] = [Value.string d1] := r1
  have e2 : [c2] = [Value.string d2] := r2
  have e3 : [c3] = [Value.int .i64 d3] := r3
  have e4 : [c4] = [Value.int .i64 d4] := r4
  obtain ⟨A5, n5, q5, e5, s5⟩ := r5
  obtain ⟨A6, n6, q6, e6, s6⟩ := r6
  have e5' : [c5] = [Value.slice A5 n5 q5] := e5
  have e6' : [c6] = [Value.slice A6 n6 q6] := e6
  simp only [List.cons.injEq, and_true] at e0 e1 e2 e3 e4 e5' e6'
  subst e0 e1 e2 e3 e4 e5' e6'
  exact ⟨⟨d0, d1, d2, d3, d4, d5, d6⟩, ⟨A5, n5, q5, A6, n6, q6, rfl, s5, s6⟩, ⟨i64_ok o0, o1, o2, i64_ok o3, i64_ok o4, o5, o6⟩⟩
set_option maxRecDepth 100000 in
theorem open_crew {H : Type} {enc : TypeId × Value → H} {w : World} {base : Nat} {spare : Nat → Bool} {held : Bool} {v : Value} {d : DataW H} {p : List MemPlace} (hv : Value.okWide Tryz.prog w .any base 29 v)
    (h : DataW.Trod enc Tryz.prog w 0 spare held 29 v d p) (hlt : ∀ x ∈ p, x.block < w.heap.size) : ∃ A n c l, v = .slice A n c ∧ Sl Ty.person w (all_ w) A n c l ∧ ∀ x ∈ l, x.ok :=
  open_fits_slice Tryz.underlying29 (by kernel_rfl) fits_person hv h hlt
end Go.Proofs.YtkhedjfdjjeopaaGreatDoor
