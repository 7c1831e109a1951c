/-
  The walk of pairinglaw9.TimetableBytes.
  Condition: the timetable's data are well formed; the bytes are bytes.
-/
import Derived.Test.YtldeoaddogifpaaAwake
import Derived.Test.YtldeoaddogifpaaSame
import Derived.Test.YtldeoaddogifpaaRef9Dec
import Derived.Test.YtldeoaddogifpaaLight
namespace Go.Proofs.Ytldeoaddogifpaa
set_option linter.unusedSimpArgs false
set_option linter.unusedVariables false
open Go.RowKit

def encS (t : GTT) : ByteArray := if ttE t = 0 then strOf (frameB 1 (bodyB t)) else ⟨#[]⟩
def EncAny (t : GTT) (w : World) (e : Ending) (w' : World) : Prop :=
  ∃ A n c, e = .returned (.tuple #[.slice A n c, .int .i64 (ttE t)]) ∧ Below w.heap.size w w' ∧ (∀ V, Below w'.heap.size w' V → (convert 46 9 (.slice A n c)).run Try.prog V = .ok (.string (encS t)) V) ∧
    (ttE t = 0 → Sl (Ty.int .u8) w' (all_ w') A n c (frameB 1 (bodyB t)))
theorem nil_string (w : World) : (convert 46 9 (.slice none 0 0)).run Try.prog w = .ok (.string ⟨#[]⟩) w := by
  rw [run_convert_bytes_string w 46 9 5 none 0 0 Try.underlying46 Try.underlying5 Try.underlying9]
  rfl
theorem encAny_of {t : GTT} {f : FuncId} {args : Array Value} {w : World} (hbad : ttE t ≠ 0 → Calls Try.prog f args w (EncBad (ttE t) w)) (hok : ttE t = 0 → Calls Try.prog f args w (EncPost (frameB 1 (bodyB t)) w)) : Calls Try.prog f args w (EncAny t w) := by
  by_cases h : ttE t = 0
  · refine (hok h).mono ?_
    rintro e w' ⟨v, rfl, hown, hb⟩
    have hne : frameB 1 (bodyB t) ≠ [] := fun e => by unfold frameB headB at e; simp at e
    obtain ⟨g, cq, rfl, _⟩ := hown.int_sl hne
    obtain ⟨A', c', e1, hs⟩ := hown.sl
    refine ⟨_, _, _, by rw [h], hb, fun V hV => ?_, fun _ => ?_⟩
    · rw [row_string hown hne hV]
      unfold encS
      rw [if_pos h]
    · simp only [Value.slice.injEq] at e1
      obtain ⟨rfl, -, rfl⟩ := e1
      exact hs.more fun b hb => hb.2
  · refine (hbad h).mono ?_
    rintro e w' ⟨rfl, hb⟩
    refine ⟨none, 0, 0, rfl, hb, fun V hV => ?_, fun h0 => absurd h0 h⟩
    rw [nil_string]
    unfold encS
    rw [if_neg h]
theorem bytes_of_ok {l : List Int} (h : ∀ x ∈ l, (Ty.int .u8).ok x) : bytesL l := fun x hx => by
  have h' : IntKind.u8.min ≤ x ∧ x ≤ IntKind.u8.max := h x hx
  have e1 : IntKind.u8.min = 0 := by decide
  have e2 : IntKind.u8.max = 255 := by decide
  exact ⟨by omega, by omega⟩
theorem noTT_fine : noTT.fine := ⟨Nat.zero_le _, Nat.zero_le _, Nat.zero_le _, fun _ h => (by cases h), fun _ h => (by cases h), fun _ h => (by cases h)⟩
theorem decTT_fine (bs : List Int) : (decTT bs).1.fine := by
  unfold decTT
  split
  · exact noTT_fine
  split
  · exact noTT_fine
  split
  · exact noTT_fine
  split
  · exact noTT_fine
  · rename_i h
    exact (ttE_zero.1 (Classical.not_not.1 h)).fine

set_option maxRecDepth 100000 in
set_option maxHeartbeats 3200000 in
theorem lawBytes_any (t : GTT) (A1 A2 A3 : Option Addr) (n1 n2 n3 c1 c2 c3 : Nat) (bs : List Int) (Ab : Option Addr) (nb cb : Nat) (w : World) (ht : t.ok) (hs1 : Sl Ty.zone w (all_ w) A1 n1 c1 t.zones) (hs2 : Sl Ty.airport w (all_ w) A2 n2 c2 t.airports) (hs3 : Sl Ty.flight w (all_ w) A3 n3 c3 t.flights)
    (hsb : Sl (Ty.int .u8) w (all_ w) Ab nb cb bs) (hby : bytesL bs) :
    Calls Try.prog 5 #[.agg #[.slice A1 n1 c1, .slice A2 n2 c2, .slice A3 n3 c3], .slice Ab nb cb] w (AwPost w) := by
  have hb0 := (Below.refl w.heap.size w).alloc (Nat.le_refl _) (.cells #[.slice A1 n1 c1, .slice A2 n2 c2, .slice A3 n3 c3] 26)
  have hx0 := heap_alloc_new w (.cells #[.slice A1 n1 c1, .slice A2 n2 c2, .slice A3 n3 c3] 26)
  have hz0 : (w.alloc (.cells #[.slice A1 n1 c1, .slice A2 n2 c2, .slice A3 n3 c3] 26)).heap.size = w.heap.size + 1 := by simp
  have HS : Hid (∀ V, Below w.heap.size w V → Sl Ty.zone V (all_ V) A1 n1 c1 t.zones ∧ Sl Ty.airport V (all_ V) A2 n2 c2 t.airports ∧ Sl Ty.flight V (all_ V) A3 n3 c3 t.flights ∧ Sl (Ty.int .u8) V (all_ V) Ab nb cb bs) := fun V hV => ⟨hs1.next hV, hs2.next hV, hs3.next hV, hsb.next hV⟩
  have HT := Lib.hid ht
  have HBY := Lib.hid hby
  have HX : Hid (∀ V, Below (w.heap.size + 1) (w.alloc (.cells #[.slice A1 n1 c1, .slice A2 n2 c2, .slice A3 n3 c3] 26)) V → V.heap[w.heap.size]? = some (.cells #[.slice A1 n1 c1, .slice A2 n2 c2, .slice A3 n3 c3] 26 (0, 0)) ∧ Below w.heap.size w V ∧ w.heap.size + 1 ≤ V.heap.size) := fun V hV => ⟨(hV.block _ (by omega)).trans hx0, hb0.trans (hV.mono (by omega)), by have := hV.size; omega⟩
  have hBW := Below.refl (w.heap.size + 1) (w.alloc (.cells #[.slice A1 n1 c1, .slice A2 n2 c2, .slice A3 n3 c3] 26))
  clear hs1 hs2 hs3 hsb hb0 hx0 hz0 ht hby
  go_enter Try.func5, Try.ntmps5
  go_wp2_with fail
  generalize w.alloc (.cells #[.slice A1 n1 c1, .slice A2 n2 c2, .slice A3 n3 c3] 26) = W at *
  refine (light_any t A1 A2 A3 n1 n2 n3 c1 c2 c3 W (HS.out W (HX.out W hBW).2.1).1).mono ?_
  rintro e w1 ⟨bl, rfl, hb1⟩
  have hk1 : Below (w.heap.size + 1) W w1 := hb1.mono (HX.out W hBW).2.2
  clear hb1
  have hnot : bl = false ∨ (bl = true ∧ 3000 < nb) ∨ (bl = true ∧ ¬ 3000 < nb) := by
    cases bl with
    | false => exact .inl rfl
    | true =>
      by_cases h : 3000 < nb
      · exact .inr (.inl ⟨rfl, h⟩)
      · exact .inr (.inr ⟨rfl, h⟩)
  rcases hnot with rfl | ⟨rfl, hbig⟩ | ⟨rfl, hbig⟩
  · go_wp2_with fail
    refine (awake_any w1).mono ?_
    rintro e w2 ⟨rfl, hb2⟩
    go_wp2_with fail
    go_ret
    exact ⟨rfl, (HX.out w1 hk1).2.1.trans (hb2.mono (HX.out w1 hk1).2.1.size)⟩
  · go_wp2_with fail
    refine (awake_any w1).mono ?_
    rintro e w2 ⟨rfl, hb2⟩
    go_wp2_with fail
    go_ret
    exact ⟨rfl, (HX.out w1 hk1).2.1.trans (hb2.mono (HX.out w1 hk1).2.1.size)⟩
  · have x0 : w1.cell? ⟨w.heap.size, 0, none⟩ = some (.slice A1 n1 c1) := block_cell (HX.out w1 hk1).1 0
    have x1 : w1.cell? ⟨w.heap.size, 1, none⟩ = some (.slice A2 n2 c2) := block_cell (HX.out w1 hk1).1 1
    have x2 : w1.cell? ⟨w.heap.size, 2, none⟩ = some (.slice A3 n3 c3) := block_cell (HX.out w1 hk1).1 2
    go_wp2_with fail
    have hs := HS.out w1 (HX.out w1 hk1).2.1
    refine (encAny_of (fun h => ttEncode_bad t A1 A2 A3 n1 n2 n3 c1 c2 c3 w1 HT.out h hs.1 hs.2.1 hs.2.2.1) (fun h => ttEncode_ok t A1 A2 A3 n1 n2 n3 c1 c2 c3 w1 HT.out h hs.1 hs.2.1 hs.2.2.1)).mono ?_
    clear x0 x1 x2 hs
    rintro e w2 ⟨Xa, nx, cx, rfl, hb2, hcx, hslx⟩
    have hk2 : Below (w.heap.size + 1) W w2 := hk1.trans (hb2.mono (HX.out w1 hk1).2.2)
    have HCX := Lib.hid hcx; have HSX := Lib.hid hslx
    clear hb2 hcx hslx
    have x0 : w2.cell? ⟨w.heap.size, 0, none⟩ = some (.slice A1 n1 c1) := block_cell (HX.out w2 hk2).1 0
    have x1 : w2.cell? ⟨w.heap.size, 1, none⟩ = some (.slice A2 n2 c2) := block_cell (HX.out w2 hk2).1 1
    have x2 : w2.cell? ⟨w.heap.size, 2, none⟩ = some (.slice A3 n3 c3) := block_cell (HX.out w2 hk2).1 2
    go_wp2_with fail
    have hs := HS.out w2 (HX.out w2 hk2).2.1
    refine (encAny_of (fun h => encodeR_bad t A1 A2 A3 n1 n2 n3 c1 c2 c3 w2 HT.out h hs.1 hs.2.1 hs.2.2.1) (fun h => encodeR_ok t A1 A2 A3 n1 n2 n3 c1 c2 c3 w2 HT.out h hs.1 hs.2.1 hs.2.2.1)).mono ?_
    clear x0 x1 x2 hs
    rintro e w3 ⟨Ya, ny, cy, rfl, hb3, hcy, -⟩
    have hk3 : Below (w.heap.size + 1) W w3 := hk2.trans (hb3.mono (HX.out w2 hk2).2.2)
    have HCY := Lib.hid hcy
    have HB3 := Lib.hid hb3
    clear hcy hb3
    go_wp2_with fail
    have hs := HS.out w3 (HX.out w3 hk3).2.1
    have HD := Lib.hid (ttDecode_any bs Ab nb cb w3 hs.2.2.2 HBY.out)
    have HFN := Lib.hid (decTT_fine bs)
    have HDR : Hid (decR bs = decTT bs) := decR_eq HBY.out
    clear hs
    generalize decTT bs = dt at *
    refine HD.out.mono ?_
    clear HD
    rintro e w4 ⟨U1, i1, j1, U2, i2, j2, U3, i3, j3, rfl, us1, us2, us3, hb4⟩
    have hk4 : Below (w.heap.size + 1) W w4 := hk3.trans (hb4.mono (HX.out w3 hk3).2.2)
    have HB4 := Lib.hid hb4
    have hz4 := (HX.out w4 hk4).2.2
    have hk5 := hk4.alloc hz4 (.cells #[.slice U1 i1 j1, .slice U2 i2 j2, .slice U3 i3 j3] 26)
    have hg5 := heap_alloc_new w4 (.cells #[.slice U1 i1 j1, .slice U2 i2 j2, .slice U3 i3 j3] 26)
    have hz5 : (w4.alloc (.cells #[.slice U1 i1 j1, .slice U2 i2 j2, .slice U3 i3 j3] 26)).heap.size = w4.heap.size + 1 := by simp
    have hb5 := (Below.refl w4.heap.size w4).alloc (Nat.le_refl _) (.cells #[.slice U1 i1 j1, .slice U2 i2 j2, .slice U3 i3 j3] 26)
    have HUS : Hid (∀ V, Below (w4.alloc (.cells #[.slice U1 i1 j1, .slice U2 i2 j2, .slice U3 i3 j3] 26)).heap.size (w4.alloc (.cells #[.slice U1 i1 j1, .slice U2 i2 j2, .slice U3 i3 j3] 26)) V → Sl Ty.zone V (all_ V) U1 i1 j1 dt.1.zones ∧ Sl Ty.airport V (all_ V) U2 i2 j2 dt.1.airports ∧ Sl Ty.flight V (all_ V) U3 i3 j3 dt.1.flights) := fun V hV => by
      have h9 : Below w4.heap.size w4 V := hb5.trans (hV.mono (by omega))
      exact ⟨(us1.more fun b hb => hb.2).next h9, (us2.more fun b hb => hb.2).next h9, (us3.more fun b hb => hb.2).next h9⟩
    have HG5 := Lib.hid hg5; have HZ5 := Lib.hid hz5; have HB5 := Lib.hid hb5
    clear us1 us2 us3 hb4 hg5 hz5 hb5
    go_wp2_with fail
    generalize w4.alloc (.cells #[.slice U1 i1 j1, .slice U2 i2 j2, .slice U3 i3 j3] 26) = w5 at *
    have hs := HS.out w5 (HX.out w5 hk5).2.1
    have HD := Lib.hid (ttDecodeR_any bs Ab nb cb w5 hs.2.2.2 HBY.out)
    rw [HDR.out] at HD
    clear hs HDR
    refine HD.out.mono ?_
    clear HD
    rintro e w6 ⟨V1, o1, p1, V2, o2, p2, V3, o3, p3, rfl, vs1, vs2, vs3, hb6⟩
    have hk6 : Below (w.heap.size + 1) W w6 := hk5.trans (hb6.mono (HX.out w5 hk5).2.2)
    have hz6 := hb6.size
    have hk7 := hk6.alloc (HX.out w6 hk6).2.2 (.cells #[.slice V1 o1 p1, .slice V2 o2 p2, .slice V3 o3 p3] 26)
    have hg7 := heap_alloc_new w6 (.cells #[.slice V1 o1 p1, .slice V2 o2 p2, .slice V3 o3 p3] 26)
    have hb7 := (Below.refl w6.heap.size w6).alloc (Nat.le_refl _) (.cells #[.slice V1 o1 p1, .slice V2 o2 p2, .slice V3 o3 p3] 26)
    have hb57 : Below w5.heap.size w5 (w6.alloc (.cells #[.slice V1 o1 p1, .slice V2 o2 p2, .slice V3 o3 p3] 26)) := hb6.trans (hb7.mono hz6)
    have HVS : Hid (Sl Ty.zone (w6.alloc (.cells #[.slice V1 o1 p1, .slice V2 o2 p2, .slice V3 o3 p3] 26)) (all_ (w6.alloc (.cells #[.slice V1 o1 p1, .slice V2 o2 p2, .slice V3 o3 p3] 26))) V1 o1 p1 dt.1.zones ∧ Sl Ty.airport (w6.alloc (.cells #[.slice V1 o1 p1, .slice V2 o2 p2, .slice V3 o3 p3] 26)) (all_ (w6.alloc (.cells #[.slice V1 o1 p1, .slice V2 o2 p2, .slice V3 o3 p3] 26))) V2 o2 p2 dt.1.airports ∧ Sl Ty.flight (w6.alloc (.cells #[.slice V1 o1 p1, .slice V2 o2 p2, .slice V3 o3 p3] 26)) (all_ (w6.alloc (.cells #[.slice V1 o1 p1, .slice V2 o2 p2, .slice V3 o3 p3] 26))) V3 o3 p3 dt.1.flights) :=
      ⟨(vs1.more fun b hb => hb.2).next hb7, (vs2.more fun b hb => hb.2).next hb7, (vs3.more fun b hb => hb.2).next hb7⟩
    have hg5' : (w6.alloc (.cells #[.slice V1 o1 p1, .slice V2 o2 p2, .slice V3 o3 p3] 26)).heap[w4.heap.size]? = _ := (hb57.block _ (by have := HZ5.out; omega)).trans HG5.out
    have hb37 : Below w3.heap.size w3 (w6.alloc (.cells #[.slice V1 o1 p1, .slice V2 o2 p2, .slice V3 o3 p3] 26)) := HB4.out.trans ((HB5.out.mono HB4.out.size).trans (hb57.mono (by have := HZ5.out; have := HB4.out.size; omega)))
    have hb27 : Below w2.heap.size w2 (w6.alloc (.cells #[.slice V1 o1 p1, .slice V2 o2 p2, .slice V3 o3 p3] 26)) := HB3.out.trans (hb37.mono HB3.out.size)
    have u0 : (w6.alloc (.cells #[.slice V1 o1 p1, .slice V2 o2 p2, .slice V3 o3 p3] 26)).cell? ⟨w4.heap.size, 0, none⟩ = some (.slice U1 i1 j1) := block_cell hg5' 0
    have u1 : (w6.alloc (.cells #[.slice V1 o1 p1, .slice V2 o2 p2, .slice V3 o3 p3] 26)).cell? ⟨w4.heap.size, 1, none⟩ = some (.slice U2 i2 j2) := block_cell hg5' 1
    have u2 : (w6.alloc (.cells #[.slice V1 o1 p1, .slice V2 o2 p2, .slice V3 o3 p3] 26)).cell? ⟨w4.heap.size, 2, none⟩ = some (.slice U3 i3 j3) := block_cell hg5' 2
    have hcx := HCX.out _ hb27
    have hcy := HCY.out _ hb37
    have e1 : (ttE t != ttE t) = false := by simp
    have e2 : ((encS t).toList == (encS t).toList) = true := by simp
    have e3 : (dt.2 != dt.2) = false := by simp
    have HSM := Lib.hid (same_any dt.1 U1 U2 U3 V1 V2 V3 i1 i2 i3 j1 j2 j3 o1 o2 o3 p1 p2 p3 (w6.alloc (.cells #[.slice V1 o1 p1, .slice V2 o2 p2, .slice V3 o3 p3] 26)) HFN.out (HUS.out _ hb57).1 (HUS.out _ hb57).2.1 (HUS.out _ hb57).2.2 HVS.out.1 HVS.out.2.1 HVS.out.2.2)
    have HK7 := Lib.hid hk7
    have HB27 := Lib.hid hb27
    clear vs1 vs2 vs3 hb6 hg7 hb7 hb57 hg5' hb37 hb27 hk7 HVS HUS
    go_wp2_with fail
    refine HSM.out.mono ?_
    clear HSM hcx hcy e1 e2 e3 u0 u1 u2
    rintro e w8 ⟨rfl, hb8⟩
    have hk8 : Below (w.heap.size + 1) W w8 := HK7.out.trans (hb8.mono (HX.out _ HK7.out).2.2)
    have hb28 : Below w2.heap.size w2 w8 := HB27.out.trans (hb8.mono HB27.out.size)
    clear hb8 HK7 HB27
    by_cases hv : ttE t = 0
    case neg =>
      have hv' : (ttE t == 0) = false := by simpa using hv
      clear hv HSX
      go_wp2_with fail
      refine (awake_any w8).mono ?_
      rintro e w9 ⟨rfl, hb9⟩
      go_wp2_with fail
      go_ret
      exact ⟨rfl, (HX.out w8 hk8).2.1.trans (hb9.mono (HX.out w8 hk8).2.1.size)⟩
    have hv' : (ttE t == 0) = true := by simpa using hv
    have hval := ttE_zero.1 hv
    have HX8 := Lib.hid ((HSX.out hv).next hb28)
    have HFI := Lib.hid hval.fine
    have HD := Lib.hid (ttDecode_any (frameB 1 (bodyB t)) Xa nx cx w8 HX8.out (frameB_bytes ⟨by decide, by decide⟩ (bodyB_bytes hval.fine)))
    rw [decTT_back t hval] at HD
    clear hval HX8 HSX hb28 hv
    go_wp2_with fail
    refine HD.out.mono ?_
    clear HD
    rintro e w9 ⟨Q1, r1, s1, Q2, r2, s2, Q3, r3, s3, rfl, qs1, qs2, qs3, hb9⟩
    have hk9 : Below (w.heap.size + 1) W w9 := hk8.trans (hb9.mono (HX.out w8 hk8).2.2)
    have hk10 := hk9.alloc (HX.out w9 hk9).2.2 (.cells #[.slice Q1 r1 s1, .slice Q2 r2 s2, .slice Q3 r3 s3] 26)
    have hg10 := heap_alloc_new w9 (.cells #[.slice Q1 r1 s1, .slice Q2 r2 s2, .slice Q3 r3 s3] 26)
    have hb10 := (Below.refl w9.heap.size w9).alloc (Nat.le_refl _) (.cells #[.slice Q1 r1 s1, .slice Q2 r2 s2, .slice Q3 r3 s3] 26)
    have hs := HS.out _ (HX.out _ hk10).2.1
    have HSM := Lib.hid (same_any t Q1 Q2 Q3 A1 A2 A3 r1 r2 r3 s1 s2 s3 n1 n2 n3 c1 c2 c3 (w9.alloc (.cells #[.slice Q1 r1 s1, .slice Q2 r2 s2, .slice Q3 r3 s3] 26)) HFI.out ((qs1.more fun b hb => hb.2).next hb10) ((qs2.more fun b hb => hb.2).next hb10) ((qs3.more fun b hb => hb.2).next hb10) hs.1 hs.2.1 hs.2.2.1)
    have q0 : (w9.alloc (.cells #[.slice Q1 r1 s1, .slice Q2 r2 s2, .slice Q3 r3 s3] 26)).cell? ⟨w9.heap.size, 0, none⟩ = some (.slice Q1 r1 s1) := block_cell hg10 0
    have q1 : (w9.alloc (.cells #[.slice Q1 r1 s1, .slice Q2 r2 s2, .slice Q3 r3 s3] 26)).cell? ⟨w9.heap.size, 1, none⟩ = some (.slice Q2 r2 s2) := block_cell hg10 1
    have q2 : (w9.alloc (.cells #[.slice Q1 r1 s1, .slice Q2 r2 s2, .slice Q3 r3 s3] 26)).cell? ⟨w9.heap.size, 2, none⟩ = some (.slice Q3 r3 s3) := block_cell hg10 2
    have x0 : (w9.alloc (.cells #[.slice Q1 r1 s1, .slice Q2 r2 s2, .slice Q3 r3 s3] 26)).cell? ⟨w.heap.size, 0, none⟩ = some (.slice A1 n1 c1) := block_cell (HX.out _ hk10).1 0
    have x1 : (w9.alloc (.cells #[.slice Q1 r1 s1, .slice Q2 r2 s2, .slice Q3 r3 s3] 26)).cell? ⟨w.heap.size, 1, none⟩ = some (.slice A2 n2 c2) := block_cell (HX.out _ hk10).1 1
    have x2 : (w9.alloc (.cells #[.slice Q1 r1 s1, .slice Q2 r2 s2, .slice Q3 r3 s3] 26)).cell? ⟨w.heap.size, 2, none⟩ = some (.slice A3 n3 c3) := block_cell (HX.out _ hk10).1 2
    have HK10 := Lib.hid hk10
    clear hs qs1 qs2 qs3 hb9 hg10 hb10 hk10
    go_wp2_with fail
    refine HSM.out.mono ?_
    clear HSM q0 q1 q2 x0 x1 x2
    rintro e w11 ⟨rfl, hb11⟩
    have hk11 : Below (w.heap.size + 1) W w11 := HK10.out.trans (hb11.mono (HX.out _ HK10.out).2.2)
    clear hb11
    go_wp2_with fail
    refine (awake_any w11).mono ?_
    rintro e w12 ⟨rfl, hb12⟩
    go_wp2_with fail
    go_ret
    exact ⟨rfl, (HX.out w11 hk11).2.1.trans (hb12.mono (HX.out w11 hk11).2.1.size)⟩
end Go.Proofs.Ytldeoaddogifpaa
