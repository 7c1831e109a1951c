/-
  Contracts of the reference's person and ValidateCrew (package pairingref9).
  Condition: the data are well formed.
-/
import Derived.Test.YtkhedjfdjjeopaaGreatDoorValidateRef
import Derived.Test.YtkhedjfdjjeopaaGreatDoorCrewValidate
import Derived.Test.YtkhedjfdjjeopaaGreatDoorCrc
import Derived.Deep.DeepCutAuto
import Derived.Deep.RegionLaw
namespace Go.Proofs.YtkhedjfdjjeopaaGreatDoor
set_option linter.unusedSimpArgs false
set_option linter.unusedVariables false
open Go.RowKit

theorem hasI_hit {l : List GPerson} {i k : Nat} {s : Int} (hk : k < i) (hl : k < l.length) (h : (l.getD k noPerson).sen = s) : hasI (sens (l.take i)) s = true := by
  unfold hasI sens
  rw [List.any_eq_true]
  refine ⟨s, ?_, by simp⟩
  rw [List.mem_map]
  refine ⟨l.getD k noPerson, ?_, h⟩
  rw [List.getD_eq_getElem?_getD, List.getElem?_eq_getElem hl]
  exact List.mem_take_iff_getElem.2 ⟨k, by omega, rfl⟩
theorem hasI_next {l : List GPerson} {k : Nat} {s : Int} (hl : k < l.length) (h0 : hasI (sens (l.take k)) s = false) (h : ¬ (l.getD k noPerson).sen = s) : hasI (sens (l.take (k + 1))) s = false := by
  rw [take_getD hl noPerson]
  unfold sens
  rw [List.map_append]
  show hasI (sens (l.take k) ++ [(l.getD k noPerson).sen]) s = false
  rw [hasI_snoc, h0, decide_eq_false (fun e => h e.symm)]
  rfl
set_option maxRecDepth 100000 in
set_option maxHeartbeats 3200000 in
theorem personR_any (t : GTT) (l : List GPerson) (i : Nat) (A1 A2 A3 A4 : Option Addr) (n1 n2 n3 n4 c1 c2 c3 c4 : Nat) (w : World) (hl : ∀ p ∈ l, p.ok) (hs2 : Sl Ty.airport w (all_ w) A2 n2 c2 t.airports) (hs4 : Sl Ty.person w (all_ w) A4 n4 c4 l) (hi : i < n4) :
    Calls Tryz.prog 71 #[.agg #[.slice A1 n1 c1, .slice A2 n2 c2, .slice A3 n3 c3], .slice A4 n4 c4, .int .i64 i] w (ErrPost (pErr (aCodes t.airports) l i) w) := by
  have l4 : n4 ≤ l.length := Nat.le_of_eq hs4.len
  have l4' : l.length ≤ n4 := Nat.le_of_eq hs4.len.symm
  have m4 := hs4.le
  unfold maxLen at m4
  obtain ⟨b, o, B1, k1, d1, B2, k2, d2, rfl, hbS, hat, hsT, hsV⟩ := hs4.person_at (k := i) (by omega)
  have hpok := hl _ (getD_in (show i < l.length by omega) noPerson)
  have HERR := Lib.hid (pErr_at (aCodes t.airports) l i)
  have hbl : b < w.heap.size := hbS
  have hbne : b ≠ w.heap.size := by omega
  have hprev : ∀ k, k < n4 → ∀ j u, ([.int .i64 (l.getD k noPerson).id, .string (l.getD k noPerson).name, .string (l.getD k noPerson).base, .int .i64 (l.getD k noPerson).rank, .int .i64 (l.getD k noPerson).sen] : List Value)[j]? = some u → w.cell? ⟨b, o + k * 7 + j, none⟩ = some u := fun k hk j u hu => by
    obtain ⟨b', o', _, _, _, _, _, _, e', _, hat', _, _⟩ := hs4.person_at (k := k) (by omega)
    simp only [Option.some.injEq, Addr.mk.injEq, and_true] at e'
    obtain ⟨rfl, rfl⟩ := e'
    refine hat' j u ?_
    rcases j with _ | _ | _ | _ | _ | j
    all_goals first | exact hu | (simp at hu)
  generalize hz : l.getD i noPerson = p at *
  have y0 : w.cell? ⟨b, o + i * 7, none⟩ = some (.int .i64 p.id) := hat 0 _ rfl
  have y1 := hat 1 _ rfl; have y2 := hat 2 _ rfl; have y3 := hat 3 _ rfl; have y4 := hat 4 _ rfl; have y5 := hat 5 _ rfl; have y6 := hat 6 _ rfl
  have hW1 : ((w.alloc (.cells #[.slice A1 n1 c1, .slice A2 n2 c2, .slice A3 n3 c3] 26)).alloc (.cells #[.int .i64 p.id, .string p.name, .string p.base, .int .i64 p.rank, .int .i64 p.sen, .slice B1 k1 d1, .slice B2 k2 d2] 49)).heap[w.heap.size]? = some (.cells #[.slice A1 n1 c1, .slice A2 n2 c2, .slice A3 n3 c3] 26) := heap_alloc2_old _ _ _
  have hW2 : ((w.alloc (.cells #[.slice A1 n1 c1, .slice A2 n2 c2, .slice A3 n3 c3] 26)).alloc (.cells #[.int .i64 p.id, .string p.name, .string p.base, .int .i64 p.rank, .int .i64 p.sen, .slice B1 k1 d1, .slice B2 k2 d2] 49)).heap[w.heap.size + 1]? = some (.cells #[.int .i64 p.id, .string p.name, .string p.base, .int .i64 p.rank, .int .i64 p.sen, .slice B1 k1 d1, .slice B2 k2 d2] 49) := heap_alloc2_new _ _ _
  have hWb : Below w.heap.size w ((w.alloc (.cells #[.slice A1 n1 c1, .slice A2 n2 c2, .slice A3 n3 c3] 26)).alloc (.cells #[.int .i64 p.id, .string p.name, .string p.base, .int .i64 p.rank, .int .i64 p.sen, .slice B1 k1 d1, .slice B2 k2 d2] 49)) := ((Below.refl _ _).alloc (Nat.le_refl _) _).alloc (by simp) _
  have hWs : ((w.alloc (.cells #[.slice A1 n1 c1, .slice A2 n2 c2, .slice A3 n3 c3] 26)).alloc (.cells #[.int .i64 p.id, .string p.name, .string p.base, .int .i64 p.rank, .int .i64 p.sen, .slice B1 k1 d1, .slice B2 k2 d2] 49)).heap.size = w.heap.size + 2 := by simp
  have HW1 := Lib.hid hW1; have HW2 := Lib.hid hW2; have HWB := Lib.hid hWb; have HWS := Lib.hid hWs
  have HP := Lib.hid hprev
  have HPOK := Lib.hid hpok
  have HS2 := Lib.hid hs2
  have HT := Lib.hid hsT; have HV := Lib.hid hsV
  have HZ := Lib.hid hz
  clear hl hs2 hs4 hat hsT hsV hpok hprev hbS hz hW1 hW2 hWb hWs
  go_enter Tryz.func71, Tryz.ntmps71
  go_upto_region 2 with (fail)
  clear y0 y1 y2 y3 y4 y5 y6 hbne
  generalize ((w.alloc (.cells #[.slice A1 n1 c1, .slice A2 n2 c2, .slice A3 n3 c3] 26)).alloc (.cells #[.int .i64 p.id, .string p.name, .string p.base, .int .i64 p.rank, .int .i64 p.sen, .slice B1 k1 d1, .slice B2 k2 d2] 49)) = W at *
  -- what every later world keeps
  have HK : Hid (∀ V, Below (w.heap.size + 2) W V → (∀ j u, (#[.int .i64 p.id, .string p.name, .string p.base, .int .i64 p.rank, .int .i64 p.sen, .slice B1 k1 d1, .slice B2 k2 d2] : Array Value)[j]? = some u → V.cell? ⟨w.heap.size + 1, j, none⟩ = some u) ∧ V.cell? ⟨w.heap.size, 1, none⟩ = some (.slice A2 n2 c2) ∧ Below w.heap.size w V ∧ w.heap.size + 2 ≤ V.heap.size) := fun V hV => by
    have h0 := HWS.out
    have hs := hV.size
    refine ⟨fun j u hu => ?_, ?_, HWB.out.trans (hV.mono (by omega)), by omega⟩
    · rw [hV.cell (by simp), block_cell HW2.out]; exact hu
    · rw [hV.cell (by simp), block_cell HW1.out]; rfl
  have hW0 : Below (w.heap.size + 2) W W := Below.refl _ _
  have z0 : W.cell? ⟨w.heap.size + 1, 0, none⟩ = some (.int .i64 p.id) := (HK.out W hW0).1 0 _ rfl
  have hbW := (HK.out W hW0).2.2.1
  clear HW1 HW2 HWB
  by_cases ha : idOk p.id = true
  case neg =>
    have ha' : idOk p.id = false := by simpa using ha
    have HF : Hid (pErr (aCodes t.airports) l i = 5) := by show _ = _; rw [HERR.out, if_pos ha']
    have h3 := idOk_false ha'
    clear ha ha'
    rcases h3 with h | ⟨h, h'⟩
    all_goals
      go_wp2_with fail
      go_ret
      exact ⟨by rw [HF.out]; rfl, hbW⟩
  obtain ⟨ha1, ha2⟩ := idOk_true ha
  go_upto_region 4 with (fail)
  generalize hpid : (l.getD (i - 1) noPerson).id = pid at *
  generalize hB : decide (0 < i ∧ p.id ≤ pid) = B at *
  have HB := Lib.hid hB
  have hp0 : 0 < i → W.cell? ⟨b, o + (i - 1) * 7, none⟩ = some (.int .i64 pid) := fun h0 => by
    rw [hbW.cell (by simp; omega)]
    have := HP.out (i - 1) (by omega) 0 _ rfl
    rw [hpid] at this
    exact this
  clear hB hpid
  go_cut [36] (fun c wx => c = .bool B ∧ Below (w.heap.size + 2) W wx)
  case first =>
    rcases Nat.eq_zero_or_pos i with rfl | h0
    · have e : B = false := by rw [← HB.out]; simp
      subst e
      clear hp0
      go_quiet (fail)
      go_wp2_with fail
      go_meet
      exact ⟨rfl, below_drewN hW0 _⟩
    · have hq := hp0 h0
      clear hp0
      have wr1 : IntKind.i64.wrap ((i : Int) - 1) = (i : Int) - 1 := IntWalk.i64_in _ (by omega)
      have wr2 : 0 ≤ (i : Int) - 1 := by omega
      have wr3 : (i : Int) - 1 < (n4 : Int) := by omega
      have wr4 : ((i : Int) - 1).toNat = i - 1 := by omega
      by_cases hle : p.id ≤ pid
      · have e : B = true := by rw [← HB.out]; simp [h0, hle]
        subst e
        go_quiet (fail)
        go_wp2_with fail
        go_meet
        exact ⟨rfl, below_drewN hW0 _⟩
      · have e : B = false := by rw [← HB.out]; simp [hle]
        subst e
        go_quiet (fail)
        go_wp2_with fail
        go_meet
        exact ⟨rfl, below_drewN hW0 _⟩
  case rest =>
    obtain ⟨rfl, hWX⟩ := hcut
    clear hp0
    obtain ⟨hcX, x1, hbX, hszX⟩ := HK.out wc hWX
    cases B with
    | true =>
      have ho := of_decide_eq_true HB.out
      have HF : Hid (pErr (aCodes t.airports) l i = 8) := by show _ = _; rw [HERR.out, if_neg (by rw [ha]; decide), if_pos ho]
      clear hcX ho
      go_wp2_with fail
      go_ret
      exact ⟨by rw [HF.out]; rfl, hbX⟩
    | false =>
      have HO : Hid (¬ (0 < i ∧ p.id ≤ pid)) := of_decide_eq_false HB.out
      clear hW0 z0 hbW ha1 ha2
      have z1 := hcX 1 _ rfl; have z2 := hcX 2 _ rfl; have z3 := hcX 3 _ rfl; have z4 := hcX 4 _ rfl; have z5 := hcX 5 _ rfl; have z6 := hcX 6 _ rfl
      clear hcX
      go_wp2_with fail
      refine (isNameR_any p.name _ HPOK.out.2.1).mono ?_
      rintro e w' ⟨rfl, rfl⟩
      by_cases hn : isNameB p.name = true
      case neg =>
        have hn' : isNameB p.name = false := by simpa using hn
        have HF : Hid (pErr (aCodes t.airports) l i = 1) := by show _ = _; rw [HERR.out, if_neg (by rw [ha]; decide), if_neg HO.out, if_pos hn']
        rw [hn']
        clear hn
        go_wp2_with fail
        go_ret
        exact ⟨by rw [HF.out]; rfl, hbX⟩
      rw [hn]
      go_wp2_with fail
      refine (airportIndex_any t.airports p.base _ _ _ _ _ (HS2.out.keep (all_keep hbX))).mono ?_
      rintro e w' ⟨rfl, rfl⟩
      by_cases hbs : hasB (aCodes t.airports) p.base = true
      case neg =>
        have hbs' : hasB (aCodes t.airports) p.base = false := by simpa using hbs
        have HF : Hid (pErr (aCodes t.airports) l i = 6) := by show _ = _; rw [HERR.out, if_neg (by rw [ha]; decide), if_neg HO.out, if_neg (by rw [hn]; decide), if_pos hbs']
        rw [idxOf_none hbs']
        clear hbs hbs'
        go_wp2_with fail
        go_ret
        exact ⟨by rw [HF.out]; rfl, hbX⟩
      have hge3 : 0 ≤ idxOf (aCodes t.airports) p.base := by
        have := idxOf_neg (aCodes t.airports) p.base
        rw [hbs] at this
        simpa using this
      generalize idxOf (aCodes t.airports) p.base = ix at *
      by_cases hrk : rankOk p.rank = false ∨ idOk p.sen = false
      case pos =>
        have HF : Hid (pErr (aCodes t.airports) l i = 5) := by show _ = _; rw [HERR.out, if_neg (by rw [ha]; decide), if_neg HO.out, if_neg (by rw [hn]; decide), if_neg (by rw [hbs]; decide), if_pos hrk]
        have h3 := rs_false hrk
        clear hrk hbs
        rcases h3 with h | ⟨h, h1⟩ | ⟨h, h1, h2⟩ | ⟨h, h1, h2, h3⟩
        all_goals
          go_wp2_with fail
          go_ret
          exact ⟨by rw [HF.out]; rfl, hbX⟩
      obtain ⟨q1, q2, q3, q4⟩ := rs_true hrk
      have HRK := Lib.hid hrk
      clear hrk
      go_wp2_with fail
      clear q1 q2 q3 q4 hge3 z1 z2 z3 z5 z6 z4 x1
      have hk0 : Hid (Below (w.heap.size + 2) W wc) := hWX
      clear hWX hszX
      go_loopw [6, 8] (fun _ r wr => ∃ k : Nat, k ≤ i ∧ r = .int .i64 k ∧ Below (w.heap.size + 2) W wr ∧ Hid (hasI (sens (l.take k)) p.sen = false)) (fun _ r _ => i - (intOf r).toNat)
      case atStart => exact ⟨0, Nat.zero_le _, rfl, hk0.out, rfl⟩
      case round =>
        obtain ⟨k, hk, rfl, hbr, HS⟩ := hrel
        clear hk0 hbX
        obtain ⟨hcR, x1, hbR, hszR⟩ := HK.out wr hbr
        by_cases hlt : k < i
        · have y4 : wr.cell? ⟨b, o + k * 7 + 4, none⟩ = some (.int .i64 (l.getD k noPerson).sen) := by
            rw [hbR.cell (by simp; omega)]
            exact HP.out k (by omega) 4 _ rfl
          have z4 := hcR 4 _ rfl
          have HD := Lib.hid (show ∀ m, Below (w.heap.size + 2) W (wr.drewN m) from fun m => below_drewN hbr m)
          have HD2 := Lib.hid (show ∀ m, Below w.heap.size w (wr.drewN m) from fun m => below_drewN hbR m)
          have HH : Hid ((l.getD k noPerson).sen = p.sen → hasI (sens (l.take i)) p.sen = true) := fun h => hasI_hit hlt (by omega) h
          have HN : Hid (¬ (l.getD k noPerson).sen = p.sen → hasI (sens (l.take (k + 1))) p.sen = false) := fun h => hasI_next (by omega) HS.out h
          generalize (l.getD k noPerson).sen = ks at *
          have t1 : (0 : Int) ≤ (k : Int) := by omega
          have t2 : (k : Int) < (n4 : Int) := by omega
          clear hcR x1 hbr hbR
          go_wp2_with fail
          go_quiet (fail)
          by_cases hq : ks = p.sen
          · have hqb : (ks == p.sen) = true := by simpa using hq
            have HF : Hid (pErr (aCodes t.airports) l i = 7) := by show _ = _; rw [HERR.out, if_neg (by rw [ha]; decide), if_neg HO.out, if_neg (by rw [hn]; decide), if_neg (by rw [hbs]; decide), if_neg HRK.out, if_pos (HH.out hq)]
            clear hq
            go_wp2_with fail
            go_ret
            exact ⟨by rw [HF.out]; rfl, HD2.out _⟩
          · have hqb : (ks == p.sen) = false := by simpa using hq
            have HS2 := Lib.hid (HN.out hq)
            clear hq
            go_wp2_with fail
            go_roundw
            case rel => exact ⟨k + 1, by omega, by go_num, HD.out _, HS2⟩
            case measure => simp [intOf]; omega
        · have hki : k = i := by omega
          subst hki
          have hdup : hasI (sens (l.take k)) p.sen = false := HS.out
          have z5 := hcR 5 _ rfl; have z6 := hcR 6 _ rfl
          have lt1 : k1 ≤ p.types.length := Nat.le_of_eq HT.out.len
          have lt1' : p.types.length ≤ k1 := Nat.le_of_eq HT.out.len.symm
          have lt2 : k2 ≤ p.vacs.length := Nat.le_of_eq HV.out.len
          have lt2' : p.vacs.length ≤ k2 := Nat.le_of_eq HV.out.len.symm
          clear hcR x1 hlt hk
          by_cases hlg : 8 < p.types.length ∨ 8 < p.vacs.length
          case pos =>
            have HF : Hid (pErr (aCodes t.airports) l k = 10) := by show _ = _; rw [HERR.out, if_neg (by rw [ha]; decide), if_neg HO.out, if_neg (by rw [hn]; decide), if_neg (by rw [hbs]; decide), if_neg HRK.out, if_neg (by rw [hdup]; decide), if_pos hlg]
            have h3 : 8 < k1 ∨ (k1 ≤ 8 ∧ 8 < k2) := by omega
            clear hlg lt1 lt1' lt2 lt2' hdup
            rcases h3 with h | ⟨h, h'⟩
            all_goals
              go_wp2_with fail
              go_ret
              exact ⟨by rw [HF.out]; rfl, hbR⟩
          have h81 : k1 ≤ 8 := by omega
          have h82 : k2 ≤ 8 := by omega
          have HPE : Hid (pErr (aCodes t.airports) l k = if firstErr (typeErr p.types) p.types.length ≠ 0 then firstErr (typeErr p.types) p.types.length else firstErr (vacErr p.vacs) p.vacs.length) := by
            show _ = _
            rw [HERR.out, if_neg (by rw [ha]; decide), if_neg HO.out, if_neg (by rw [hn]; decide), if_neg (by rw [hbs]; decide), if_neg HRK.out, if_neg (by rw [hdup]; decide), if_neg hlg]
            rfl
          clear hlg hdup hbs hn ha
          go_wp2_with fail
          have hk1 : Hid (Below (w.heap.size + 2) W wr) := hbr
          clear hbr hbR z5 z6 hszR HERR HP HO HRK HB HS
          generalize hwo : wr = wo at *
          clear hwo
          go_loopw [6, 9] (fun _ r wr => ∃ q : Nat, q ≤ k1 ∧ r = .int .i64 q ∧ Below (w.heap.size + 2) W wr ∧ Hid (zeroTo (typeErr p.types) q)) (fun _ r _ => k1 - (intOf r).toNat)
          case atStart => exact ⟨0, Nat.zero_le _, rfl, hk1.out, zeroTo_zero _⟩
          case round =>
            obtain ⟨q, hq, rfl, hbr, HZ⟩ := hrel
            clear hk1
            obtain ⟨hcR, x1, hbR, hszR⟩ := HK.out wr hbr
            have z5 := hcR 5 _ rfl
            by_cases hlt : q < k1
            · have hTR := HT.out.keep (w' := wr) (all_keep hbR)
              obtain ⟨bt, ot, rfl, hbS, hc⟩ := hTR.name_at (k := q) (by omega)
              have hsz := HPOK.out.2.2.2.2.2.1 _ (getD_in (show q < p.types.length by omega) noStr)
              have HTE : Hid (typeErr p.types q = if isNameB (p.types.getD q noStr) = false then 1 else if 0 < q ∧ leB (p.types.getD q noStr) (p.types.getD (q - 1) noStr) = true then 8 else 0) := rfl
              have hpv : 0 < q → wr.cell? ⟨bt, ot + (q - 1), none⟩ = some (.string (p.types.getD (q - 1) noStr)) := fun h0 => by
                obtain ⟨b', o', e', _, hc'⟩ := hTR.name_at (k := q - 1) (by omega)
                simp only [Option.some.injEq, Addr.mk.injEq, and_true] at e'
                obtain ⟨rfl, rfl⟩ := e'
                exact hc'
              generalize p.types.getD q noStr = s at *
              generalize p.types.getD (q - 1) noStr = sp at *
              have HSZ := Lib.hid hsz
              have HD := Lib.hid (show ∀ m, Below (w.heap.size + 2) W (wr.drewN m) from fun m => below_drewN hbr m)
              have HD2 := Lib.hid (show ∀ m, Below w.heap.size w (wr.drewN m) from fun m => below_drewN hbR m)
              have HBR := Lib.hid hbR
              clear hTR hsz hcR x1 hbr hbR
              go_wp2_with fail
              refine (isNameR_any s _ HSZ.out).mono ?_
              rintro e w' ⟨rfl, rfl⟩
              by_cases hn : isNameB s = true
              case neg =>
                have hn' : isNameB s = false := by simpa using hn
                have HF : Hid (pErr (aCodes t.airports) l k = 1) := by
                  have h9 : typeErr p.types q = 1 := by rw [HTE.out, if_pos hn']
                  have h8 : firstErr (typeErr p.types) p.types.length = 1 := by rw [firstErr_hit HZ.out (by rw [h9]; decide) (by omega), h9]
                  show _ = _
                  rw [HPE.out, h8, if_pos (by decide)]
                rw [hn']
                clear hn hn' hpv
                go_wp2_with fail
                go_ret
                exact ⟨by rw [HF.out]; rfl, HBR.out⟩
              rw [hn]
              rcases Nat.eq_zero_or_pos q with rfl | hq0
              · have HZ2 : Hid (zeroTo (typeErr p.types) (0 + 1)) := zeroTo_succ HZ.out (by rw [HTE.out, if_neg (by rw [hn]; decide), if_neg (fun h => absurd h.1 (by omega))])
                clear hpv hn
                simp only [Nat.add_zero] at hc
                go_wp2_with fail
                go_quiet (fail)
                go_wp2_with fail
                go_roundw
                case rel => exact ⟨0 + 1, by omega, rfl, HD.out _, HZ2⟩
                case measure => simp [intOf]; omega
              · have hq' := hpv hq0
                clear hpv
                have wr1 : IntKind.i64.wrap ((q : Int) - 1) = (q : Int) - 1 := IntWalk.i64_in _ (by omega)
                have wr2 : 0 ≤ (q : Int) - 1 := by omega
                have wr3 : (q : Int) - 1 < (k1 : Int) := by omega
                have wr4 : ((q : Int) - 1).toNat = q - 1 := by omega
                by_cases hle : leB s sp = true
                · have HF : Hid (pErr (aCodes t.airports) l k = 8) := by
                    have h9 : typeErr p.types q = 8 := by rw [HTE.out, if_neg (by rw [hn]; decide), if_pos ⟨hq0, hle⟩]
                    have h8 : firstErr (typeErr p.types) p.types.length = 8 := by rw [firstErr_hit HZ.out (by rw [h9]; decide) (by omega), h9]
                    show _ = _
                    rw [HPE.out, h8, if_pos (by decide)]
                  rcases leB_true hle with h1 | ⟨h1, h2⟩
                  all_goals
                    clear hle hn
                    go_wp2_with fail
                    go_quiet (fail)
                    go_wp2_with fail
                    go_ret
                    exact ⟨by rw [HF.out]; rfl, HD2.out _⟩
                · have hle' : leB s sp = false := by simpa using hle
                  have HZ2 : Hid (zeroTo (typeErr p.types) (q + 1)) := zeroTo_succ HZ.out (by rw [HTE.out, if_neg (by rw [hn]; decide), if_neg (fun h => hle h.2)])
                  obtain ⟨h1, h2⟩ := leB_false hle'
                  clear hle hle' hn
                  go_wp2_with fail
                  go_quiet (fail)
                  go_wp2_with fail
                  go_roundw
                  case rel => exact ⟨q + 1, by omega, by go_num, HD.out _, HZ2⟩
                  case measure => simp [intOf]; omega
            · have HT0 : Hid (firstErr (typeErr p.types) p.types.length = 0) := firstErr_none (by rw [show p.types.length = q by omega]; exact HZ.out)
              clear HZ hcR x1
              go_wp2_with fail
              have hk1 : Hid (Below (w.heap.size + 2) W wr) := hbr
              clear hbr hbR z5 hszR hlt
              generalize hwo : wr = wo2 at *
              clear hwo
              go_loopw [6, 10, 11] (fun _ r _ wr => ∃ q : Nat, q ≤ k2 ∧ r = .int .i64 q ∧ Below (w.heap.size + 2) W wr ∧ Hid (zeroTo (vacErr p.vacs) q)) (fun _ r _ _ => k2 - (intOf r).toNat)
              case atStart => exact ⟨0, Nat.zero_le _, rfl, hk1.out, zeroTo_zero _⟩
              case round =>
                obtain ⟨r, hr, rfl, hbr, HZ⟩ := hrel
                clear hk1
                obtain ⟨hcR, x1, hbR, hszR⟩ := HK.out wr hbr
                have z6 := hcR 6 _ rfl
                by_cases hlt : r < k2
                · have hVR := HV.out.keep (w' := wr) (all_keep hbR)
                  obtain ⟨bt, ot, rfl, hbS, hc0, hc1⟩ := hVR.shift_at (k := r) (by omega)
                  have hbl2 : bt < wr.heap.size := by unfold all_ at hbS; omega
                  have hwl : w.heap.size + 1 < wr.heap.size := by omega
                  have hbne : bt ≠ wr.heap.size := by omega
                  have HVE : Hid (vacErr p.vacs r = if vacOk (p.vacs.getD r noShift) = false then 5 else if 0 < r ∧ (p.vacs.getD r noShift).at_ < (p.vacs.getD (r - 1) noShift).off then 8 else 0) := rfl
                  have hpv : 0 < r → wr.cell? ⟨bt, ot + (r - 1) * 2 + 1, none⟩ = some (.int .i64 (p.vacs.getD (r - 1) noShift).off) := fun h0 => by
                    obtain ⟨b', o', e', _, _, hc'⟩ := hVR.shift_at (k := r - 1) (by omega)
                    simp only [Option.some.injEq, Addr.mk.injEq, and_true] at e'
                    obtain ⟨rfl, rfl⟩ := e'
                    exact hc'
                  generalize p.vacs.getD r noShift = s at *
                  generalize p.vacs.getD (r - 1) noShift = sp at *
                  have hbox0 : (wr.alloc (.cells #[.int .i64 s.at_, .int .i64 s.off] 72)).cell? ⟨wr.heap.size, 0, none⟩ = some (.int .i64 s.at_) := by rw [World.cell?_alloc_at _ _ _ _ rfl]; rfl
                  have hbox1 : (wr.alloc (.cells #[.int .i64 s.at_, .int .i64 s.off] 72)).cell? ⟨wr.heap.size, 1, none⟩ = some (.int .i64 s.off) := by rw [World.cell?_alloc_at _ _ _ _ rfl]; rfl
                  have HBA : Hid (∀ m, Below w.heap.size w ((wr.alloc (.cells #[.int .i64 s.at_, .int .i64 s.off] 72)).drewN m)) := fun m => below_drewN (hbR.alloc (by omega) _) m
                  have HBB : Hid (∀ m, Below (w.heap.size + 2) W ((wr.alloc (.cells #[.int .i64 s.at_, .int .i64 s.off] 72)).drewN m)) := fun m => below_drewN (hbr.alloc (by omega) _) m
                  clear hVR hcR x1 hbr hbR
                  by_cases hv : vacOk s = true
                  case neg =>
                    have hv' : vacOk s = false := by simpa using hv
                    have HF : Hid (pErr (aCodes t.airports) l k = 5) := by
                      have h9 : vacErr p.vacs r = 5 := by rw [HVE.out, if_pos hv']
                      have h8 : firstErr (vacErr p.vacs) p.vacs.length = 5 := by rw [firstErr_hit HZ.out (by rw [h9]; decide) (by omega), h9]
                      show _ = _
                      rw [HPE.out, HT0.out, h8]; rfl
                    have h3 : s.at_ < 0 ∨ (¬ s.at_ < 0 ∧ s.off ≤ s.at_) ∨ (¬ s.at_ < 0 ∧ ¬ s.off ≤ s.at_ ∧ 52596000 < s.off) := by
                      unfold vacOk at hv'
                      simp only [Bool.and_eq_false_iff, decide_eq_false_iff_not] at hv'
                      omega
                    clear hv hv' hpv
                    rcases h3 with h | ⟨h, h'⟩ | ⟨h, h', h''⟩
                    all_goals
                      go_wp2_with fail
                      go_ret
                      exact ⟨by rw [HF.out]; rfl, HBA.out 0⟩
                  have hv1 : 0 ≤ s.at_ ∧ s.at_ < s.off ∧ s.off ≤ 52596000 := by
                    have hv2 := hv
                    unfold vacOk at hv2
                    simp only [Bool.and_eq_true, decide_eq_true_eq] at hv2
                    omega
                  obtain ⟨hv1, hv2, hv3⟩ := hv1
                  rcases Nat.eq_zero_or_pos r with rfl | hr0
                  · have HZ2 : Hid (zeroTo (vacErr p.vacs) (0 + 1)) := zeroTo_succ HZ.out (by rw [HVE.out, if_neg (by rw [hv]; decide), if_neg (fun h => absurd h.1 (by omega))])
                    clear hpv hv
                    simp only [Nat.zero_mul, Nat.add_zero] at hc0 hc1
                    go_wp2_with fail
                    go_quiet (fail)
                    go_wp2_with fail
                    go_roundw
                    case rel => exact ⟨0 + 1, by omega, rfl, HBB.out _, HZ2⟩
                    case measure => simp [intOf]; omega
                  · have hq' := hpv hr0
                    clear hpv
                    have wr1 : IntKind.i64.wrap ((r : Int) - 1) = (r : Int) - 1 := IntWalk.i64_in _ (by omega)
                    have wr2 : 0 ≤ (r : Int) - 1 := by omega
                    have wr3 : (r : Int) - 1 < (k2 : Int) := by omega
                    have wr4 : ((r : Int) - 1).toNat = r - 1 := by omega
                    go_wp2_with fail
                    go_quiet (fail)
                    clear wr1 wr2 wr3 wr4
                    by_cases hle : s.at_ < sp.off
                    · have HF : Hid (pErr (aCodes t.airports) l k = 8) := by
                        have h9 : vacErr p.vacs r = 8 := by rw [HVE.out, if_neg (by rw [hv]; decide), if_pos ⟨hr0, hle⟩]
                        have h8 : firstErr (vacErr p.vacs) p.vacs.length = 8 := by rw [firstErr_hit HZ.out (by rw [h9]; decide) (by omega), h9]
                        show _ = _
                        rw [HPE.out, HT0.out, h8]; rfl
                      go_wp2_with fail
                      go_ret
                      exact ⟨by rw [HF.out]; rfl, HBA.out _⟩
                    · have HZ2 : Hid (zeroTo (vacErr p.vacs) (r + 1)) := zeroTo_succ HZ.out (by rw [HVE.out, if_neg (by rw [hv]; decide), if_neg (fun h => hle h.2)])
                      go_wp2_with fail
                      go_roundw
                      case rel => exact ⟨r + 1, by omega, by go_num, HBB.out _, HZ2⟩
                      case measure => simp [intOf]; omega
                · have HF : Hid (pErr (aCodes t.airports) l k = 0) := by
                    have h8 : firstErr (vacErr p.vacs) p.vacs.length = 0 := firstErr_none (by rw [show p.vacs.length = r by omega]; exact HZ.out)
                    show _ = _
                    rw [HPE.out, HT0.out, h8]; rfl
                  clear hcR x1
                  go_wp2_with fail
                  go_ret
                  exact ⟨by rw [HF.out]; rfl, hbR⟩
end Go.Proofs.YtkhedjfdjjeopaaGreatDoor
