/-
  Contract of pairinglaw9.awake: it returns true.
  No condition.
-/
import Derived.Test.YtldeoaddogifpaaExample
import Derived.Test.YtldeoaddogifpaaTTEncode
import Derived.Test.YtldeoaddogifpaaTTBack
namespace Go.Proofs.Ytldeoaddogifpaa
set_option linter.unusedSimpArgs false
set_option linter.unusedVariables false
open Go.RowKit

theorem ex_zero : ttE exTT = 0 := by decide +kernel
def emptyZone : GZone := ⟨⟨#[]⟩, 0, []⟩
def emptyTT : GTT := ⟨[emptyZone], [], []⟩
theorem empty_one : ttE emptyTT = 1 := by decide +kernel
theorem len16 {n : Nat} (h : n ≤ 16) : n ≤ maxLen := by unfold maxLen; omega
theorem GTT.fine.ok {t : GTT} (h : t.fine) : t.ok := by
  refine ⟨fun z hz => ?_, fun a ha => ?_, fun f hf => ?_⟩
  · obtain ⟨h1, h2, h3, h4⟩ := h.z z hz
    exact ⟨len16 h1, by omega, fun s hs => by obtain ⟨g1, g2⟩ := h4 s hs; exact ⟨by omega, by omega⟩⟩
  · obtain ⟨h1, h2⟩ := h.a a ha
    exact ⟨len16 h1, len16 h2⟩
  · obtain ⟨h1, h2, h3, h4, h5, h6, h7, h8, h9⟩ := h.f f hf
    exact ⟨len16 h1, len16 h2, len16 h3, len16 h4, by omega, by omega, by omega, by omega, by omega⟩
theorem ex_ok : exTT.ok := (ttE_zero.1 ex_zero).fine.ok
theorem empty_ok : emptyTT.ok := by
  refine ⟨fun z hz => ?_, fun a ha => (by cases ha), fun f hf => (by cases hf)⟩
  simp [emptyTT] at hz
  subst hz
  exact ⟨len16 (by decide), by decide, fun s hs => by cases hs⟩
def AwPost (w : World) (e : Ending) (w' : World) : Prop := e = .returned (.bool true) ∧ Below w.heap.size w w'
def exBytes : List Int := frameB 1 (bodyB exTT)
theorem ex_bytes : bytesL exBytes := frameB_bytes ⟨by decide, by decide⟩ (bodyB_bytes (ttE_zero.1 ex_zero).fine)
theorem ex_dec : decTT exBytes = (exTT, 0) := decTT_back exTT (ttE_zero.1 ex_zero)

set_option maxRecDepth 100000 in
set_option maxHeartbeats 1600000 in
theorem awake_any (w : World) : Calls Try.prog 10 #[] w (AwPost w) := by
  have HE := Lib.hid (example_any w)
  go_enter Try.func10, Try.ntmps10
  go_wp2_with fail
  refine HE.out.mono ?_
  rintro e w1 ⟨A1, n1, c1, A2, n2, c2, A3, n3, c3, rfl, hs1, hs2, hs3, hb1⟩
  clear HE
  have HEN := Lib.hid (ttEncode_ok exTT A1 A2 A3 n1 n2 n3 c1 c2 c3 w1 ex_ok ex_zero (hs1.more fun b hb => hb.2) (hs2.more fun b hb => hb.2) (hs3.more fun b hb => hb.2))
  clear hs1 hs2 hs3
  go_wp2_with fail
  refine HEN.out.mono ?_
  clear HEN
  rintro e w2 ⟨v2, rfl, hown2, hb2⟩
  obtain ⟨Ab, cb, rfl, hslb⟩ := hown2.sl
  have HD := Lib.hid (ttDecode_any exBytes Ab _ cb w2 (hslb.more fun b hb => hb.2) ex_bytes)
  rw [ex_dec] at HD
  have hlb : (frameB 1 (bodyB exTT)).length = exBytes.length := rfl
  rw [hlb]
  clear hown2 hslb hlb
  go_wp2_with fail
  refine HD.out.mono ?_
  clear HD
  rintro e w3 ⟨B1, m1, d1, B2, m2, d2, B3, m3, d3, rfl, ht1, ht2, ht3, hb3⟩
  have hm3 : m3 = 1 := ht3.len
  subst hm3
  obtain ⟨b, o, rfl, hbS, hat⟩ := ht3.flight_at (k := 0) (by decide)
  have y0 : w3.cell? ⟨b, o, none⟩ = some (.string ⟨#[83, 75, 49]⟩) := hat 0 _ rfl
  have hbl : b < w3.heap.size := hbS.2
  have hy : ∀ o1, (w3.alloc o1).cell? ⟨b, o, none⟩ = some (.string ⟨#[83, 75, 49]⟩) := fun o1 => (World.cell?_alloc_past _ _ _ hbl).trans y0
  have hbF : ∀ o1 o2, Below w.heap.size w ((w3.alloc o1).alloc o2) := fun o1 o2 => by
    have s1 := hb1.size; have s2 := hb2.size; have s3 := hb3.size
    have h3 : Below w.heap.size w w3 := hb1.trans ((hb2.mono s1).trans (hb3.mono (by omega)))
    exact (h3.alloc (by omega) o1).alloc (by simp; omega) o2
  have HBF := Lib.hid hbF
  have HV : Hid (∀ o1, Calls Try.prog 11 #[.agg #[.slice (some ⟨w3.heap.size + 1, 0, none⟩) 1 1, .slice none 0 0, .slice none 0 0]] ((w3.alloc o1).alloc (.cells #[.string ⟨#[]⟩, .int .i64 0, .slice none 0 0] 42)) (ErrPost 1 ((w3.alloc o1).alloc (.cells #[.string ⟨#[]⟩, .int .i64 0, .slice none 0 0] 42)))) := fun o1 => by
    have := validate_any emptyTT (some ⟨w3.heap.size + 1, 0, none⟩) none none 1 0 0 1 0 0 ((w3.alloc o1).alloc (.cells #[.string ⟨#[]⟩, .int .i64 0, .slice none 0 0] 42)) empty_ok (Sl.block (xs := [emptyZone]) (t := Ty.zone) (heap_alloc2_new _ _ _) (by show _ < _; simp) (by decide) fun i x hi => by
      rcases i with _ | i
      · simp at hi; subst hi; exact ⟨none, 0, 0, rfl, Sl.nil0⟩
      · simp at hi) Sl.nil0 Sl.nil0
    rw [empty_one] at this
    exact this
  clear ht1 ht2 ht3 hat hbS hbF
  go_wp2_with fail
  refine (HV.out _).mono ?_
  rintro e w4 ⟨rfl, hb4⟩
  have hbf := (HBF.out _ _).trans (hb4.mono (HBF.out _ _).size)
  go_wp2_with fail
  go_ret
  exact ⟨rfl, hbf⟩
end Go.Proofs.Ytldeoaddogifpaa
