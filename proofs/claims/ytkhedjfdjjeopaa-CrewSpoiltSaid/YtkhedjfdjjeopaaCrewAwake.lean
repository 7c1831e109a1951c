/-
  Contract of pairinglaw10.awake: it returns true.
  No condition.
-/
import Derived.Test.YtkhedjfdjjeopaaCrewEncode
import Derived.Test.YtkhedjfdjjeopaaCrewDecode
import Derived.Test.YtkhedjfdjjeopaaCrewSmall
namespace Go.Proofs.Ytkhedjfdjjeopaa
set_option linter.unusedSimpArgs false
set_option linter.unusedVariables false
open Go.RowKit

def sAnna : ByteArray := ⟨#[97, 110, 110, 97]⟩
def sB737 : ByteArray := ⟨#[98, 55, 51, 55]⟩
def sA320 : ByteArray := ⟨#[97, 51, 50, 48]⟩
def anna : GPerson := ⟨7, sAnna, sAAA, 0, 3, [sB737], []⟩
theorem anna_zero : crewE baseTbl [anna] = 0 := by decide +kernel
theorem len16c {n : Nat} (h : n ≤ 16) : n ≤ maxLen := by unfold maxLen; omega
theorem GTT.fine.okc {t : GTT} (h : t.fine) : t.ok := by
  refine ⟨fun z hz => ?_, fun a ha => ?_, fun f hf => ?_⟩
  · obtain ⟨h1, h2, h3, h4⟩ := h.z z hz
    exact ⟨len16c h1, by omega, fun s hs => by obtain ⟨g1, g2⟩ := h4 s hs; exact ⟨by omega, by omega⟩⟩
  · obtain ⟨h1, h2⟩ := h.a a ha
    exact ⟨len16c h1, len16c h2⟩
  · obtain ⟨h1, h2, h3, h4, h5, h6, h7, h8, h9⟩ := h.f f hf
    exact ⟨len16c h1, len16c h2, len16c h3, len16c h4, by omega, by omega, by omega, by omega, by omega⟩
theorem GPerson.fine.okc {p : GPerson} (h : p.fine) : p.ok := by
  obtain ⟨h1, h2, h3, h4, h5, h6, h7, h8, h9⟩ := h
  exact ⟨by omega, len16c h2, len16c h3, by omega, by omega, fun s hs => len16c (h7 s hs), fun s hs => by obtain ⟨g1, g2⟩ := h9 s hs; exact ⟨by omega, by omega⟩⟩
theorem tbl_ok : baseTbl.ok := (crewE_zero.1 anna_zero).tt.fine.okc
theorem anna_ok : ∀ p ∈ [anna], p.ok := fun p hp => ((crewE_zero.1 anna_zero).fine p hp).okc
def annaB : List Int := frameB 2 (crewB [anna])
theorem annaB_bytes : bytesL annaB := frameB_bytes ⟨by decide, by decide⟩ (crewB_bytes (crewE_zero.1 anna_zero).fine)
theorem annaB_dec : decCrew baseTbl annaB = ([anna], 0) := decCrew_back baseTbl [anna] (crewE_zero.1 anna_zero)
def CAwPost (w : World) (e : Ending) (w' : World) : Prop := e = .returned (.bool true) ∧ Below w.heap.size w w'
theorem hasB_anna1 : hasB anna.types ⟨#[98, 55, 51, 55]⟩ = true := by decide +kernel
theorem hasB_anna2 : hasB anna.types ⟨#[97, 51, 50, 48]⟩ = false := by decide +kernel
set_option maxRecDepth 100000 in
set_option maxHeartbeats 1600000 in
theorem crewAwake_any (w : World) : Calls Try.prog 9 #[] w (CAwPost w) := by
  have hb0 : Below w.heap.size w ((w.alloc (.cells #[.string ⟨#[98, 55, 51, 55]⟩] 9)).alloc (.cells #[.int .i64 7, .string ⟨#[97, 110, 110, 97]⟩, .string ⟨#[65, 65, 65]⟩, .int .i64 0, .int .i64 3, .slice (some ⟨w.heap.size, 0, none⟩) 1 1, .slice none 0 0] 40)) := ((Below.refl _ _).alloc (Nat.le_refl _) _).alloc (by simp) _
  have hx0 : ((w.alloc (.cells #[.string ⟨#[98, 55, 51, 55]⟩] 9)).alloc (.cells #[.int .i64 7, .string ⟨#[97, 110, 110, 97]⟩, .string ⟨#[65, 65, 65]⟩, .int .i64 0, .int .i64 3, .slice (some ⟨w.heap.size, 0, none⟩) 1 1, .slice none 0 0] 40)).heap[w.heap.size]? = some (.cells #[.string ⟨#[98, 55, 51, 55]⟩] 9) := heap_alloc2_old _ _ _
  have hx1 : ((w.alloc (.cells #[.string ⟨#[98, 55, 51, 55]⟩] 9)).alloc (.cells #[.int .i64 7, .string ⟨#[97, 110, 110, 97]⟩, .string ⟨#[65, 65, 65]⟩, .int .i64 0, .int .i64 3, .slice (some ⟨w.heap.size, 0, none⟩) 1 1, .slice none 0 0] 40)).heap[w.heap.size + 1]? = some (.cells #[.int .i64 7, .string ⟨#[97, 110, 110, 97]⟩, .string ⟨#[65, 65, 65]⟩, .int .i64 0, .int .i64 3, .slice (some ⟨w.heap.size, 0, none⟩) 1 1, .slice none 0 0] 40) := heap_alloc2_new _ _ _
  have hz0 : ((w.alloc (.cells #[.string ⟨#[98, 55, 51, 55]⟩] 9)).alloc (.cells #[.int .i64 7, .string ⟨#[97, 110, 110, 97]⟩, .string ⟨#[65, 65, 65]⟩, .int .i64 0, .int .i64 3, .slice (some ⟨w.heap.size, 0, none⟩) 1 1, .slice none 0 0] 40)).heap.size = w.heap.size + 2 := by simp
  have HB0 := Lib.hid hb0; have HX0 := Lib.hid hx0; have HX1 := Lib.hid hx1; have HZ0 := Lib.hid hz0
  clear hb0 hx0 hx1 hz0
  go_enter Try.func9, Try.ntmps9
  go_wp2_with fail
  generalize ((w.alloc (.cells #[.string ⟨#[98, 55, 51, 55]⟩] 9)).alloc (.cells #[.int .i64 7, .string ⟨#[97, 110, 110, 97]⟩, .string ⟨#[65, 65, 65]⟩, .int .i64 0, .int .i64 3, .slice (some ⟨w.heap.size, 0, none⟩) 1 1, .slice none 0 0] 40)) = W at *
  have HSL : Hid (Sl Ty.person W (all_ W) (some ⟨w.heap.size + 1, 0, none⟩) 1 1 [anna]) := by
    have hz := HZ0.out
    have k1 : Sl Ty.str W (all_ W) (some ⟨w.heap.size, 0, none⟩) 1 1 [sB737] := Sl.block (xs := [sB737]) (t := Ty.str) HX0.out (show _ < _ by omega) (show 1 ≤ maxLen by decide) fun i x hi => by
      rcases i with _ | i
      · simp at hi; subst hi; rfl
      · simp at hi
    refine Sl.block (xs := [anna]) (t := Ty.person) HX1.out (show _ < _ by omega) (show 1 ≤ maxLen by decide) fun i x hi => ?_
    rcases i with _ | i
    · simp at hi; subst hi; exact ⟨_, 1, 1, none, 0, 0, rfl, k1, Sl.nil0⟩
    · simp at hi
  refine (crewTable_any W).mono ?_
  rintro e w1 ⟨A1, n1, c1, A2, n2, c2, rfl, hs1, hs2, hb1⟩
  have HEN := Lib.hid (crewEncode_ok baseTbl [anna] A1 A2 none _ n1 n2 0 1 c1 c2 0 1 w1 tbl_ok anna_ok anna_zero (hs1.more fun b hb => hb.2) (hs2.more fun b hb => hb.2) Sl.nil0 (HSL.out.next hb1))
  have hbw1 : Below w.heap.size w w1 := HB0.out.trans (hb1.mono HB0.out.size)
  clear hs1 hs2 hb1 HX0 HX1 HSL
  go_wp2_with fail
  refine HEN.out.mono ?_
  clear HEN
  rintro e w2 ⟨v2, rfl, hown2, hb2⟩
  obtain ⟨Ab, cb, rfl, hslb⟩ := hown2.sl
  have hlb : (frameB 2 (crewB [anna])).length = annaB.length := rfl
  rw [hlb]
  have hbw2 : Below w.heap.size w w2 := hbw1.trans (hb2.mono hbw1.size)
  have HSB : Hid (Sl (Ty.int .u8) w2 (all_ w2) Ab annaB.length cb annaB) := hslb.more fun b hb => hb.2
  clear hown2 hslb hlb hb2 hbw1
  go_wp2_with fail
  refine (crewTable_any w2).mono ?_
  rintro e w3 ⟨B1, m1, d1, B2, m2, d2, rfl, hs1, hs2, hb3⟩
  have HD := Lib.hid (crewDecode_any baseTbl annaB Ab B1 B2 none _ cb m1 m2 0 d1 d2 0 w3 tbl_ok (hs1.more fun b hb => hb.2) (hs2.more fun b hb => hb.2) Sl.nil0 (HSB.out.next hb3) annaB_bytes)
  rw [annaB_dec] at HD
  have hbw3 : Below w.heap.size w w3 := hbw2.trans (hb3.mono hbw2.size)
  clear hs1 hs2 hb3 hbw2
  go_wp2_with fail
  refine HD.out.mono ?_
  clear HD
  rintro e w4 ⟨Ap, np, cp, rfl, hsl, hb4⟩
  have hnp : np = 1 := hsl.len
  subst hnp
  have hbw4 : Below w.heap.size w w4 := hbw3.trans (hb4.mono hbw3.size)
  obtain ⟨b, o, P1, k1, e1, P2, k2, e2, rfl, hbS, hat, hsT, hsV⟩ := hsl.person_at (k := 0) (by decide)
  have y0 : w4.cell? ⟨b, o, none⟩ = some (.int .i64 7) := hat 0 _ rfl
  have y1 : w4.cell? ⟨b, o + 1, none⟩ = some (.string ⟨#[97, 110, 110, 97]⟩) := hat 1 _ rfl
  have y2 : w4.cell? ⟨b, o + 2, none⟩ = some (.string ⟨#[65, 65, 65]⟩) := hat 2 _ rfl
  have y3 : w4.cell? ⟨b, o + 3, none⟩ = some (.int .i64 0) := hat 3 _ rfl
  have y4 : w4.cell? ⟨b, o + 4, none⟩ = some (.int .i64 3) := hat 4 _ rfl
  have y5 : w4.cell? ⟨b, o + 5, none⟩ = some (.slice P1 k1 e1) := hat 5 _ rfl
  have y6 : w4.cell? ⟨b, o + 6, none⟩ = some (.slice P2 k2 e2) := hat 6 _ rfl
  have HT := Lib.hid (hsT.more (S' := all_ w4) fun b hb => hb.2)
  have HAT : Hid (∀ V, Below w4.heap.size w4 V → ∀ j, V.cell? ⟨b, o + j, none⟩ = w4.cell? ⟨b, o + j, none⟩) := fun V hV j => hV.cell (show b < _ from hbS.2)
  clear hsl hat hsT hsV hbS hb4 hbw3
  go_wp2_with fail
  refine (qualified_any anna ⟨#[98, 55, 51, 55]⟩ P1 P2 k1 k2 e1 e2 w4 HT.out).mono ?_
  rintro e w5 ⟨rfl, hb5⟩
  rw [hasB_anna1]
  have q := HAT.out w5 hb5
  have x0 : w5.cell? ⟨b, o, none⟩ = some (.int .i64 7) := (q 0).trans y0; have x1 := (q 1).trans y1; have x2 := (q 2).trans y2; have x3 := (q 3).trans y3; have x4 := (q 4).trans y4; have x5 := (q 5).trans y5; have x6 := (q 6).trans y6
  have hbw5 : Below w.heap.size w w5 := hbw4.trans (hb5.mono hbw4.size)
  clear q y0 y1 y2 y3 y4 y5 y6
  go_wp2_with fail
  refine (qualified_any anna ⟨#[97, 51, 50, 48]⟩ P1 P2 k1 k2 e1 e2 w5 (HT.out.next hb5)).mono ?_
  rintro e w6 ⟨rfl, hb6⟩
  rw [hasB_anna2]
  have hbw6 : Below w.heap.size w w6 := hbw5.trans (hb6.mono hbw5.size)
  go_wp2_with fail
  go_ret
  exact ⟨rfl, hbw6⟩
end Go.Proofs.Ytkhedjfdjjeopaa
