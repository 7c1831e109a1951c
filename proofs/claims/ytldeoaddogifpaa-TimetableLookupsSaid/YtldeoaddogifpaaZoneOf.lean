/-
  Contract of timetable.ZoneOf.
  Condition: the timetable's data are well formed.
-/
import Derived.Test.YtldeoaddogifpaaValidate
import Derived.Test.YtldeoaddogifpaaTTBody
import Derived.Test.YtldeoaddogifpaaIndexRef
import Derived.Test.YtldeoaddogifpaaCopy
namespace Go.Proofs.Ytldeoaddogifpaa
set_option linter.unusedSimpArgs false
set_option linter.unusedVariables false
open Go.RowKit

def zoneAt (t : GTT) (code : ByteArray) : GZone := t.zones.getD (idxOf (zNames t.zones) (t.airports.getD (idxOf (aCodes t.airports) code).toNat noAirport).zone).toNat noZone
def zoneR (t : GTT) (code : ByteArray) : GZone × Int :=
  if ttE t ≠ 0 then (noZone, ttE t) else if hasB (aCodes t.airports) code = false then (noZone, 6) else (zoneAt t code, 0)
def ZonePost (r : GZone × Int) (w : World) (e : Ending) (w' : World) : Prop :=
  ∃ A n c, e = .returned (.tuple #[.agg #[.string r.1.name, .int .i64 r.1.off, .slice A n c], .int .i64 r.2]) ∧ Sl Ty.shift w' (all_ w') A n c r.1.shifts ∧ Below w.heap.size w w'
theorem alloc2_0 (w : World) (a b : Obj) : ((w.alloc a).alloc b).heap[w.heap.size]? = some a := by
  rw [Below.heap_alloc _ _ _ (by simp), heap_alloc_new]
theorem below_alloc2 (w : World) (a b : Obj) : Below w.heap.size w ((w.alloc a).alloc b) := ((Below.refl _ _).alloc (Nat.le_refl _) _).alloc (by simp) _
theorem zNames_at {zs : List GZone} {k : Nat} (h : k < zs.length) : (zNames zs)[k]? = some (zs.getD k noZone).name := by
  unfold zNames
  rw [List.getElem?_map, List.getD_eq_getElem?_getD, List.getElem?_eq_getElem h]
  rfl
theorem aCodes_at {l : List GAirport} {k : Nat} (h : k < l.length) : (aCodes l)[k]? = some (l.getD k noAirport).code := by
  unfold aCodes
  rw [List.getElem?_map, List.getD_eq_getElem?_getD, List.getElem?_eq_getElem h]
  rfl
theorem hasB_take_all {l : List ByteArray} {a : ByteArray} {k : Nat} (h : l.length ≤ k) (h0 : hasB (l.take k) a = false) : hasB l a = false := by rwa [List.take_of_length_le h] at h0
theorem hasB_of_at {l : List ByteArray} {a : ByteArray} {k : Nat} (h : l[k]? = some a) : hasB l a = true := (hasB_iff l a).2 (List.mem_of_getElem? h)

set_option maxRecDepth 100000 in
set_option maxHeartbeats 1600000 in
theorem zoneOf_any (t : GTT) (A1 A2 A3 : Option Addr) (n1 n2 n3 c1 c2 c3 : Nat) (code : ByteArray) (w : World) (ht : t.ok) (hs1 : Sl Ty.zone w (all_ w) A1 n1 c1 t.zones) (hs2 : Sl Ty.airport w (all_ w) A2 n2 c2 t.airports) (hs3 : Sl Ty.flight w (all_ w) A3 n3 c3 t.flights) :
    Calls Try.prog 21 #[.agg #[.slice A1 n1 c1, .slice A2 n2 c2, .slice A3 n3 c3], .string code] w (ZonePost (zoneR t code) w) := by
  have l1 : n1 ≤ t.zones.length := Nat.le_of_eq hs1.len
  have l1' : t.zones.length ≤ n1 := Nat.le_of_eq hs1.len.symm
  have l2 : n2 ≤ t.airports.length := Nat.le_of_eq hs2.len
  have l2' : t.airports.length ≤ n2 := Nat.le_of_eq hs2.len.symm
  have m1 := hs1.le
  have m2 := hs2.le
  unfold maxLen at m1 m2
  have HB0 : Hid (∀ o1 o2, Below w.heap.size w ((w.alloc o1).alloc o2)) := fun o1 o2 => below_alloc2 _ _ _
  have HH0 : Hid (∀ o1 o2, ((w.alloc o1).alloc o2).heap[w.heap.size]? = some o1) := fun o1 o2 => alloc2_0 _ _ _
  have HH1 : Hid (∀ o1 o2, ((w.alloc o1).alloc o2).heap[w.heap.size + 1]? = some o2) := fun o1 o2 => heap_alloc2_new _ _ _
  have HHZ : Hid (∀ o1 o2, ((w.alloc o1).alloc o2).heap.size = w.heap.size + 2) := fun o1 o2 => by simp
  have HS : Hid (∀ V, Below w.heap.size w V → Sl Ty.zone V (all_ V) A1 n1 c1 t.zones ∧ Sl Ty.airport V (all_ V) A2 n2 c2 t.airports ∧ Sl Ty.flight V (all_ V) A3 n3 c3 t.flights) := fun V hV => ⟨hs1.next hV, hs2.next hV, hs3.next hV⟩
  have HT := Lib.hid ht
  have HV : Hid (ttE t = 0 → ∀ k, k < t.airports.length → hasB (zNames t.zones) (t.airports.getD k noAirport).zone = true) := fun h k hk => (aErr_zero ((ttE_zero.1 h).a k hk)).2.2
  have HSH : Hid (ttE t = 0 → ∀ k, k < t.zones.length → (t.zones.getD k noZone).shifts.length ≤ 1000) := fun h k hk => by
    have := (zone_fine (zErr_zero ((ttE_zero.1 h).z k hk)).1).2.2.1
    omega
  have HR : Hid (zoneR t code = if ttE t ≠ 0 then (noZone, ttE t) else if hasB (aCodes t.airports) code = false then (noZone, 6) else (zoneAt t code, 0)) := rfl
  clear hs1 hs2 hs3 ht
  go_enter Try.func21, Try.ntmps21
  go_wp2_with fail
  have hb0 := HB0.out (.cells #[.slice A1 n1 c1, .slice A2 n2 c2, .slice A3 n3 c3] 26) (.cells #[.string ⟨#[]⟩, .int .i64 0, .slice none 0 0] 42)
  have h0 := HH0.out (.cells #[.slice A1 n1 c1, .slice A2 n2 c2, .slice A3 n3 c3] 26) (.cells #[.string ⟨#[]⟩, .int .i64 0, .slice none 0 0] 42)
  have h1 := HH1.out (.cells #[.slice A1 n1 c1, .slice A2 n2 c2, .slice A3 n3 c3] 26) (.cells #[.string ⟨#[]⟩, .int .i64 0, .slice none 0 0] 42)
  have hz := HHZ.out (.cells #[.slice A1 n1 c1, .slice A2 n2 c2, .slice A3 n3 c3] 26) (.cells #[.string ⟨#[]⟩, .int .i64 0, .slice none 0 0] 42)
  generalize (w.alloc (.cells #[.slice A1 n1 c1, .slice A2 n2 c2, .slice A3 n3 c3] 26)).alloc (.cells #[.string ⟨#[]⟩, .int .i64 0, .slice none 0 0] 42) = W at *
  have HB := Lib.hid hb0; have H0 := Lib.hid h0; have H1 := Lib.hid h1; have HZ := Lib.hid hz
  clear HB0 HH0 HH1 HHZ hb0 h0 h1 hz
  refine (validate_any t A1 A2 A3 n1 n2 n3 c1 c2 c3 W HT.out (HS.out W HB.out).1 (HS.out W HB.out).2.1 (HS.out W HB.out).2.2).mono ?_
  rintro e w1 ⟨rfl, hb1⟩
  have hw1 : Below w.heap.size w w1 := HB.out.trans (hb1.mono HB.out.size)
  have hs1 := hb1.size
  have H0' : Hid (w1.heap[w.heap.size]? = _) := (hb1.block _ (by have := HZ.out; omega)).trans H0.out
  have H1' : Hid (w1.heap[w.heap.size + 1]? = _) := (hb1.block _ (by have := HZ.out; omega)).trans H1.out
  have hz1 : w.heap.size + 2 ≤ w1.heap.size := by have := HZ.out; omega
  have z0 : w1.cell? ⟨w.heap.size + 1, 0, none⟩ = some (.string ⟨#[]⟩) := block_cell H1'.out 0
  have z1 : w1.cell? ⟨w.heap.size + 1, 1, none⟩ = some (.int .i64 0) := block_cell H1'.out 1
  have z2 : w1.cell? ⟨w.heap.size + 1, 2, none⟩ = some (.slice none 0 0) := block_cell H1'.out 2
  have f0 : w1.frozen? ⟨w.heap.size + 1, 0, none⟩ = false := block_free H1'.out 0
  have f1 : w1.frozen? ⟨w.heap.size + 1, 1, none⟩ = false := block_free H1'.out 1
  have f2 : w1.frozen? ⟨w.heap.size + 1, 2, none⟩ = false := block_free H1'.out 2
  have hbad : ∀ (W' : World) (x : Int), Below w.heap.size w W' → ZonePost (noZone, x) w (.returned (.tuple #[.agg #[.string ⟨#[]⟩, .int .i64 0, .slice none 0 0], .int .i64 x])) W' := fun W' x hb => ⟨none, 0, 0, rfl, Sl.nil0, hb⟩
  have HBAD := Lib.hid hbad
  clear hbad H0 H1 HB HZ hb1 hs1
  generalize ttE t = ev at *
  by_cases hev : ev = 0
  case neg =>
    have hev' : (ev != 0) = true := by simpa using hev
    have HF : Hid (zoneR t code = (noZone, ev)) := by show _ = _; rw [HR.out, if_pos hev]
    clear HR hev
    go_wp2_with fail
    refine bodyPost_ret (v := .tuple #[.agg #[.string ⟨#[]⟩, .int .i64 0, .slice none 0 0], .int .i64 ev]) (by simp [results, Try.results21, go_sem, z0, z1, z2]) rfl ?_
    rw [HF.out]
    exact HBAD.out _ _ (((hw1.setCell (Nat.le_succ _) _).setCell (Nat.le_succ _) _).setCell (Nat.le_succ _) _)
  subst hev
  rw [if_neg (by simp)] at HR
  have HV' := Lib.hid (HV.out rfl)
  have HSH' := Lib.hid (HSH.out rfl)
  clear HV HSH z0 z1 z2 f0 f1 f2
  have x1 : w1.cell? ⟨w.heap.size, 1, none⟩ = some (.slice A2 n2 c2) := block_cell H0'.out 1
  go_wp2_with fail
  go_loopw [20] (fun s wr => ∃ k : Nat, k ≤ n2 ∧ s = .int .i64 k ∧ Below (w.heap.size + 2) w1 wr ∧ Hid (hasB ((aCodes t.airports).take k) code = false)) (fun s _ => n2 - (intOf s).toNat)
  case atStart => exact ⟨0, Nat.zero_le _, rfl, Below.refl _ _, rfl⟩
  case round =>
    obtain ⟨k, hk, rfl, hbr, HK⟩ := hrel
    clear x1
    have hbw : Below w.heap.size w wr := hw1.trans (hbr.mono (by omega))
    have hsr := hbr.size
    by_cases hlt : k < n2
    · have hks : k < t.airports.length := by omega
      obtain ⟨b, o, rfl, hbS, y0, y1⟩ := ((HS.out wr hbw).2.1).airport_at hks
      have HCA := Lib.hid (aCodes_at hks)
      have HZA := Lib.hid (HV'.out k hks)
      have HAK : Hid (t.airports.getD k noAirport = t.airports.getD k noAirport) := rfl
      generalize hga : t.airports.getD k noAirport = a at *
      have HGA := Lib.hid hga
      clear hga HAK
      have HSB := Lib.hid (str_beq a.code code)
      have hA : Below (w.heap.size + 2) w1 (wr.alloc (.cells #[.string a.code, .string a.zone] 39)) := hbr.alloc (by omega) _
      by_cases hq : a.code = code
      case neg =>
        have hs' : (a.code.toList == code.toList) = false := by rw [HSB.out, decide_eq_false hq]
        have HN : Hid (hasB ((aCodes t.airports).take (k + 1)) code = false) := hasB_next HK.out HCA.out hq
        clear hq
        go_wp2_with fail
        go_roundw
        case rel => exact ⟨k + 1, by omega, by go_num, hA, HN⟩
        case measure => simp [intOf]; omega
      have hs' : (a.code.toList == code.toList) = true := by rw [HSB.out, decide_eq_true hq]
      have HIX : Hid (idxOf (aCodes t.airports) code = (k : Int)) := idxOf_hit' HK.out (by rw [HCA.out, hq])
      have HIN : Hid (hasB (aCodes t.airports) code = true) := hasB_of_at (HCA.out.trans (by rw [hq]))
      clear hq
      have x0 : (wr.alloc (.cells #[.string a.code, .string a.zone] 39)).cell? ⟨w.heap.size, 0, none⟩ = some (.slice A1 n1 c1) := (hA.cell (by simp)).trans (block_cell H0'.out 0)
      go_wp2_with fail
      have hQ : (wr.alloc (.cells #[.string a.code, .string a.zone] 39)).heap[wr.heap.size]? = some (.cells #[.string a.code, .string a.zone] 39 (0, 0)) := heap_alloc_new _ _
      have hQz : (wr.alloc (.cells #[.string a.code, .string a.zone] 39)).heap.size = wr.heap.size + 1 := by simp
      have hQ1 : Hid ((wr.alloc (.cells #[.string a.code, .string a.zone] 39)).heap[w.heap.size + 1]? = _) := (hA.block _ (by omega)).trans H1'.out
      have hQb : Below w.heap.size w (wr.alloc (.cells #[.string a.code, .string a.zone] 39)) := hw1.trans (hA.mono (by omega))
      generalize wr.alloc (.cells #[.string a.code, .string a.zone] 39) = V at *
      have HQ := Lib.hid hQ; have HQZ := Lib.hid hQz
      clear hQ hQz y0 y1
      obtain ⟨wo, rfl⟩ : ∃ wo : World, wo = wr := ⟨_, rfl⟩
      go_loopw [31] (fun s wr => ∃ j : Nat, j ≤ n1 ∧ s = .int .i64 j ∧ Below V.heap.size V wr ∧ Hid (hasB ((zNames t.zones).take j) a.zone = false)) (fun s _ => n1 - (intOf s).toNat)
      case atStart => exact ⟨0, Nat.zero_le _, rfl, Below.refl _ _, rfl⟩
      case round =>
        obtain ⟨j, hj, rfl, hbq, HJ⟩ := hrel
        clear x0
        have hVz : w.heap.size + 2 ≤ V.heap.size := by have := HQZ.out; omega
        have hsq := hbq.size
        have hbw2 : Below w.heap.size w wr := hQb.trans (hbq.mono (by omega))
        by_cases hlj : j < n1
        · have hjs : j < t.zones.length := by omega
          obtain ⟨b', o', A', n', c', rfl, hbS', u0, u1, u2, hsh⟩ := ((HS.out wr hbw2).1).zone_at hjs
          have HCZ := Lib.hid (zNames_at hjs)
          have hlen := HSH'.out j hjs
          generalize hgz : t.zones.getD j noZone = z at *
          have HGZ := Lib.hid hgz
          clear hgz
          have HSB2 := Lib.hid (str_beq z.name a.zone)
          have hA2 : Below V.heap.size V (wr.alloc (.cells #[.string z.name, .int .i64 z.off, .slice A' n' c'] 42)) := hbq.alloc hsq _
          have g1 : (wr.alloc (.cells #[.string z.name, .int .i64 z.off, .slice A' n' c'] 42)).cell? ⟨wo.heap.size, 1, none⟩ = some (.string a.zone) := (hA2.cell (by have := HQZ.out; show wo.heap.size < _; omega)).trans (block_cell HQ.out 1)
          have HSH2 := Lib.hid (hsh.next ((Below.refl _ _).alloc (Nat.le_refl _) (.cells #[.string z.name, .int .i64 z.off, .slice A' n' c'] 42)))
          clear hsh
          by_cases hq : z.name = a.zone
          case neg =>
            have hs2' : (z.name.toList == a.zone.toList) = false := by rw [HSB2.out, decide_eq_false hq]
            have HN : Hid (hasB ((zNames t.zones).take (j + 1)) a.zone = false) := hasB_next HJ.out HCZ.out hq
            clear hq
            go_wp2_with fail
            go_roundw
            case rel => exact ⟨j + 1, by omega, by go_num, hA2, HN⟩
            case measure => simp [intOf]; omega
          have hs2' : (z.name.toList == a.zone.toList) = true := by rw [HSB2.out, decide_eq_true hq]
          have HIZ : Hid (idxOf (zNames t.zones) a.zone = (j : Int)) := idxOf_hit' HJ.out (by rw [HCZ.out, hq])
          have HF : Hid (zoneR t code = (z, 0)) := by
            show _ = _
            rw [HR.out, HIN.out, if_neg (by simp), zoneAt, HIX.out, Int.toNat_natCast, HGA.out, HIZ.out, Int.toNat_natCast, HGZ.out]
          clear hq
          go_wp2_with fail
          have hN : (wr.alloc (.cells #[.string z.name, .int .i64 z.off, .slice A' n' c'] 42)).heap[wr.heap.size]? = some (.cells #[.string z.name, .int .i64 z.off, .slice A' n' c'] 42 (0, 0)) := heap_alloc_new _ _
          have hNz : (wr.alloc (.cells #[.string z.name, .int .i64 z.off, .slice A' n' c'] 42)).heap.size = wr.heap.size + 1 := by simp
          generalize wr.alloc (.cells #[.string z.name, .int .i64 z.off, .slice A' n' c'] 42) = U at *
          refine (cloneShift_any A' n' c' z.shifts U HSH2.out hlen).mono ?_
          rintro e w5 ⟨A5, n5, c5, rfl, hs5, hb5⟩
          have hz5 := hb5.size
          have HN5 : Hid (w5.heap[wr.heap.size]? = _) := (hb5.block _ (by omega)).trans hN
          have HR5 : Hid (w5.heap[w.heap.size + 1]? = _) := (hb5.block _ (by omega)).trans ((hA2.block _ (by omega)).trans hQ1.out)
          have hne : w.heap.size + 1 ≠ wr.heap.size := by omega
          have hne' : wr.heap.size ≠ w.heap.size + 1 := by omega
          have hw5 : Below w.heap.size w w5 := hQb.trans ((hA2.mono (by omega)).trans (hb5.mono (by omega)))
          have HS5 := Lib.hid hs5; have HU := Lib.hid hNz; have HW5 := Lib.hid hw5
          have q0 : w5.cell? ⟨wr.heap.size, 0, none⟩ = some (.string z.name) := block_cell HN5.out 0
          have q1 : w5.cell? ⟨wr.heap.size, 1, none⟩ = some (.int .i64 z.off) := block_cell HN5.out 1
          have q2 : w5.cell? ⟨wr.heap.size, 2, none⟩ = some (.slice A' n' c') := block_cell HN5.out 2
          have p2 : w5.frozen? ⟨wr.heap.size, 2, none⟩ = false := block_free HN5.out 2
          have z0 : w5.cell? ⟨w.heap.size + 1, 0, none⟩ = some (.string ⟨#[]⟩) := block_cell HR5.out 0
          have z1 : w5.cell? ⟨w.heap.size + 1, 1, none⟩ = some (.int .i64 0) := block_cell HR5.out 1
          have z2 : w5.cell? ⟨w.heap.size + 1, 2, none⟩ = some (.slice none 0 0) := block_cell HR5.out 2
          have f0 : w5.frozen? ⟨w.heap.size + 1, 0, none⟩ = false := block_free HR5.out 0
          have f1 : w5.frozen? ⟨w.heap.size + 1, 1, none⟩ = false := block_free HR5.out 1
          have f2 : w5.frozen? ⟨w.heap.size + 1, 2, none⟩ = false := block_free HR5.out 2
          clear hN hNz hs5 hb5 u0 u1 u2 g1 hA2 hw5
          go_wp2_with fail
          refine bodyPost_ret (v := .tuple #[.agg #[.string z.name, .int .i64 z.off, .slice A5 n5 c5], .int .i64 0]) (by simp [results, Try.results21, go_sem, z0, z1, z2, q0, q1, q2, hne]) rfl ?_
          rw [HF.out]
          refine ⟨A5, n5, c5, rfl, ?_, ?_⟩
          · refine (HS5.out.keep (fun b hb => ?_)).more (fun b hb => ?_)
            · have := HU.out
              obtain ⟨hb1, hb2⟩ := hb
              rw [heap_setCell_other _ _ _ _ (by simp; omega), heap_setCell_other _ _ _ _ (by simp; omega), heap_setCell_other _ _ _ _ (by simp; omega), heap_setCell_other _ _ _ _ (by simp; omega)]
            · show b < _
              simpa using hb.2
          · exact (((HW5.out.setCell (by simp; omega) _).setCell (Nat.le_succ _) _).setCell (Nat.le_succ _) _).setCell (Nat.le_succ _) _
        · exfalso
          have := hasB_take_all (by unfold zNames; rw [List.length_map]; omega) HJ.out
          rw [HZA.out] at this
          cases this
    · have HF : Hid (zoneR t code = (noZone, 6)) := by
        show _ = _
        rw [HR.out, if_pos (hasB_take_all (by unfold aCodes; rw [List.length_map]; omega) HK.out)]
      have H1r : Hid (wr.heap[w.heap.size + 1]? = _) := (hbr.block _ (by omega)).trans H1'.out
      have z0 : wr.cell? ⟨w.heap.size + 1, 0, none⟩ = some (.string ⟨#[]⟩) := block_cell H1r.out 0
      have z1 : wr.cell? ⟨w.heap.size + 1, 1, none⟩ = some (.int .i64 0) := block_cell H1r.out 1
      have z2 : wr.cell? ⟨w.heap.size + 1, 2, none⟩ = some (.slice none 0 0) := block_cell H1r.out 2
      have f0 : wr.frozen? ⟨w.heap.size + 1, 0, none⟩ = false := block_free H1r.out 0
      have f1 : wr.frozen? ⟨w.heap.size + 1, 1, none⟩ = false := block_free H1r.out 1
      have f2 : wr.frozen? ⟨w.heap.size + 1, 2, none⟩ = false := block_free H1r.out 2
      go_wp2_with fail
      refine bodyPost_ret (v := .tuple #[.agg #[.string ⟨#[]⟩, .int .i64 0, .slice none 0 0], .int .i64 6]) (by simp [results, Try.results21, go_sem, z0, z1, z2]) rfl ?_
      rw [HF.out]
      exact HBAD.out _ _ (((hbw.setCell (Nat.le_succ _) _).setCell (Nat.le_succ _) _).setCell (Nat.le_succ _) _)
end Go.Proofs.Ytldeoaddogifpaa
