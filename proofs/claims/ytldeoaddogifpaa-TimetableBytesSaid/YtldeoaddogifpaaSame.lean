/-
  Contracts of the reference's Encode and of pairinglaw9.Same.
  Condition: the timetable's data are well formed.
-/
import Derived.Test.YtldeoaddogifpaaRef8Body
import Derived.Test.YtldeoaddogifpaaRef8Sum
import Derived.Test.YtldeoaddogifpaaValidateRef
import Derived.Test.YtldeoaddogifpaaTTBack
import Derived.Deep.RegionLaw
namespace Go.Proofs.Ytldeoaddogifpaa
set_option linter.unusedSimpArgs false
set_option linter.unusedVariables false
open Go.RowKit

set_option maxRecDepth 100000 in
theorem encodeR_bad (t : GTT) (A1 A2 A3 : Option Addr) (n1 n2 n3 c1 c2 c3 : Nat) (w : World) (ht : t.ok) (hv : ttE t ≠ 0) (hs1 : Sl Ty.zone w (all_ w) A1 n1 c1 t.zones) (hs2 : Sl Ty.airport w (all_ w) A2 n2 c2 t.airports) (hs3 : Sl Ty.flight w (all_ w) A3 n3 c3 t.flights) :
    Calls Try.prog 15 #[.agg #[.slice A1 n1 c1, .slice A2 n2 c2, .slice A3 n3 c3]] w (EncBad (ttE t) w) := by
  have ha : ∀ o, Below w.heap.size w (w.alloc o) := fun o => (Below.refl _ _).alloc (Nat.le_refl _) _
  have HV : Hid (∀ o, Calls Try.prog 12 #[.agg #[.slice A1 n1 c1, .slice A2 n2 c2, .slice A3 n3 c3]] (w.alloc o) (ErrPost (ttE t) (w.alloc o))) := fun o => validateR_any t A1 A2 A3 n1 n2 n3 c1 c2 c3 (w.alloc o) ht (hs1.next (ha o)) (hs2.next (ha o)) (hs3.next (ha o))
  have HA := Lib.hid ha
  have hv' : (ttE t != 0) = true := by simpa using hv
  clear hs1 hs2 hs3 ha ht hv
  generalize ttE t = ev at *
  go_enter Try.func15, Try.ntmps15
  go_wp2_with fail
  refine (HV.out _).mono ?_
  rintro e w1 ⟨rfl, hb1⟩
  have hbw := (HA.out _).trans (hb1.mono (HA.out _).size)
  clear HV HA hb1
  go_wp2_with fail
  go_ret2
  exact ⟨rfl, hbw⟩
set_option maxRecDepth 100000 in
theorem encodeR_ok (t : GTT) (A1 A2 A3 : Option Addr) (n1 n2 n3 c1 c2 c3 : Nat) (w : World) (ht : t.ok) (hv : ttE t = 0) (hs1 : Sl Ty.zone w (all_ w) A1 n1 c1 t.zones) (hs2 : Sl Ty.airport w (all_ w) A2 n2 c2 t.airports) (hs3 : Sl Ty.flight w (all_ w) A3 n3 c3 t.flights) :
    Calls Try.prog 15 #[.agg #[.slice A1 n1 c1, .slice A2 n2 c2, .slice A3 n3 c3]] w (EncPost (frameB 1 (bodyB t)) w) := by
  have hf := (ttE_zero.1 hv).fine
  have ha := (Below.refl w.heap.size w).alloc (Nat.le_refl _) (.cells #[.slice A1 n1 c1, .slice A2 n2 c2, .slice A3 n3 c3] 26)
  have hx0 := heap_alloc_new w (.cells #[.slice A1 n1 c1, .slice A2 n2 c2, .slice A3 n3 c3] 26)
  have hz0 : (w.alloc (.cells #[.slice A1 n1 c1, .slice A2 n2 c2, .slice A3 n3 c3] 26)).heap.size = w.heap.size + 1 := by simp
  have HV : Hid (Calls Try.prog 12 #[.agg #[.slice A1 n1 c1, .slice A2 n2 c2, .slice A3 n3 c3]] (w.alloc (.cells #[.slice A1 n1 c1, .slice A2 n2 c2, .slice A3 n3 c3] 26)) (ErrPost 0 (w.alloc (.cells #[.slice A1 n1 c1, .slice A2 n2 c2, .slice A3 n3 c3] 26)))) := hv ▸ validateR_any t A1 A2 A3 n1 n2 n3 c1 c2 c3 _ ht (hs1.next ha) (hs2.next ha) (hs3.next ha)
  have HS : Hid (∀ V, Below w.heap.size w V → Sl Ty.zone V (all_ V) A1 n1 c1 t.zones ∧ Sl Ty.airport V (all_ V) A2 n2 c2 t.airports ∧ Sl Ty.flight V (all_ V) A3 n3 c3 t.flights) := fun V hV => ⟨hs1.next hV, hs2.next hV, hs3.next hV⟩
  have HF := Lib.hid hf
  have hbl := bodyB_len hf
  have HBP := Lib.hid (bodyB_pos t)
  have HBY := Lib.hid (bodyB_bytes hf)
  have HA := Lib.hid ha; have HX0 := Lib.hid hx0; have HZ0 := Lib.hid hz0
  clear hs1 hs2 hs3 ha ht hv hf hx0 hz0
  go_enter Try.func15, Try.ntmps15
  go_wp2_with fail
  generalize w.alloc (.cells #[.slice A1 n1 c1, .slice A2 n2 c2, .slice A3 n3 c3] 26) = W at *
  refine HV.out.mono ?_
  rintro e w1 ⟨rfl, hb1⟩
  have hbw : Below w.heap.size w w1 := HA.out.trans (hb1.mono HA.out.size)
  have hx1 : w1.heap[w.heap.size]? = _ := (hb1.block _ (by have := HZ0.out; omega)).trans HX0.out
  have x0 : w1.cell? ⟨w.heap.size, 0, none⟩ = some (.slice A1 n1 c1) := block_cell hx1 0
  have x1 : w1.cell? ⟨w.heap.size, 1, none⟩ = some (.slice A2 n2 c2) := block_cell hx1 1
  have x2 : w1.cell? ⟨w.heap.size, 2, none⟩ = some (.slice A3 n3 c3) := block_cell hx1 2
  clear HV hb1 hx1 HX0 HZ0 HA
  go_wp2_with fail
  have hs := HS.out w1 hbw
  refine (refBody_any t A1 A2 A3 n1 n2 n3 c1 c2 c3 w1 HF.out hs.1 hs.2.1 hs.2.2).mono ?_
  rintro e w2 ⟨v2, rfl, hown2, hb2⟩
  obtain ⟨Ab, cb, rfl, hslb⟩ := hown2.sl
  have hbw2 : Below w.heap.size w w2 := hbw.trans (hb2.mono hbw.size)
  have HC := Lib.hid (frameR_any 1 (bodyB t) Ab _ cb w2 (hslb.more fun b hb => hb.2) HBP.out (by omega) ⟨by decide, by decide⟩ HBY.out)
  clear hs hown2 hslb hb2 x0 x1 x2
  generalize bodyB t = body at *
  go_wp2_with fail
  refine HC.out.mono ?_
  rintro e w3 ⟨v3, rfl, hown3, hb3⟩
  have hfin : Below w.heap.size w w3 := hbw2.trans (hb3.mono hbw2.size)
  have HO := Lib.hid (hown3.lower hbw2.size)
  clear HC hown3 hb3
  go_wp2_with fail
  go_ret2
  exact ⟨v3, rfl, HO.out, hfin⟩
def TruePost (w : World) (e : Ending) (w' : World) : Prop := e = .returned (.bool true) ∧ Below w.heap.size w w'
theorem row_string {w V : World} {base : Nat} {v : Value} {bs : List Int} (h : Own (Ty.int .u8) 5 w base v bs) (hne : bs ≠ []) (hb : Below w.heap.size w V) : (convert 46 9 v).run Try.prog V = .ok (.string (strOf bs)) V := by
  obtain ⟨g, cq, rfl, _⟩ := h.int_sl hne
  obtain ⟨A', c', e, hs⟩ := h.sl
  simp only [Value.slice.injEq] at e
  obtain ⟨rfl, -, rfl⟩ := e
  exact run_string_of (P := Try.prog) (src := 46) (dst := 9) Try.underlying46 Try.underlying5 Try.underlying9 ((hs.more fun b hb => hb.2).keep (w' := V) fun b hb' => hb.block b hb') (by simp)
set_option maxRecDepth 100000 in
set_option maxHeartbeats 800000 in
theorem same_any (t : GTT) (A1 A2 A3 B1 B2 B3 : Option Addr) (n1 n2 n3 c1 c2 c3 m1 m2 m3 d1 d2 d3 : Nat) (w : World) (hf : t.fine) (hs1 : Sl Ty.zone w (all_ w) A1 n1 c1 t.zones) (hs2 : Sl Ty.airport w (all_ w) A2 n2 c2 t.airports) (hs3 : Sl Ty.flight w (all_ w) A3 n3 c3 t.flights)
    (ks1 : Sl Ty.zone w (all_ w) B1 m1 d1 t.zones) (ks2 : Sl Ty.airport w (all_ w) B2 m2 d2 t.airports) (ks3 : Sl Ty.flight w (all_ w) B3 m3 d3 t.flights) :
    Calls Try.prog 18 #[.agg #[.slice A1 n1 c1, .slice A2 n2 c2, .slice A3 n3 c3], .agg #[.slice B1 m1 d1, .slice B2 m2 d2, .slice B3 m3 d3]] w (TruePost w) := by
  have HB0 : Hid (∀ o1 o2, Below w.heap.size w ((w.alloc o1).alloc o2)) := fun o1 o2 => ((Below.refl _ _).alloc (Nat.le_refl _) _).alloc (by simp) _
  have HH0 : Hid (∀ o1 o2, ((w.alloc o1).alloc o2).heap[w.heap.size]? = some o1) := fun o1 o2 => heap_alloc2_old _ _ _
  have HH1 : Hid (∀ o1 o2, ((w.alloc o1).alloc o2).heap[w.heap.size + 1]? = some o2) := fun o1 o2 => heap_alloc2_new _ _ _
  have HHZ : Hid (∀ o1 o2, ((w.alloc o1).alloc o2).heap.size = w.heap.size + 2) := fun o1 o2 => by simp
  have HS : Hid (∀ V, Below w.heap.size w V → (Sl Ty.zone V (all_ V) A1 n1 c1 t.zones ∧ Sl Ty.airport V (all_ V) A2 n2 c2 t.airports ∧ Sl Ty.flight V (all_ V) A3 n3 c3 t.flights) ∧ (Sl Ty.zone V (all_ V) B1 m1 d1 t.zones ∧ Sl Ty.airport V (all_ V) B2 m2 d2 t.airports ∧ Sl Ty.flight V (all_ V) B3 m3 d3 t.flights)) := fun V hV => ⟨⟨hs1.next hV, hs2.next hV, hs3.next hV⟩, ks1.next hV, ks2.next hV, ks3.next hV⟩
  have HF := Lib.hid hf
  have HBP := Lib.hid (bodyB_pos t)
  clear hs1 hs2 hs3 ks1 ks2 ks3 hf
  go_enter Try.func18, Try.ntmps18
  go_wp2_with fail
  have hb0 := HB0.out (.cells #[.slice A1 n1 c1, .slice A2 n2 c2, .slice A3 n3 c3] 26) (.cells #[.slice B1 m1 d1, .slice B2 m2 d2, .slice B3 m3 d3] 26)
  have h0 := HH0.out (.cells #[.slice A1 n1 c1, .slice A2 n2 c2, .slice A3 n3 c3] 26) (.cells #[.slice B1 m1 d1, .slice B2 m2 d2, .slice B3 m3 d3] 26)
  have h1 := HH1.out (.cells #[.slice A1 n1 c1, .slice A2 n2 c2, .slice A3 n3 c3] 26) (.cells #[.slice B1 m1 d1, .slice B2 m2 d2, .slice B3 m3 d3] 26)
  have hz := HHZ.out (.cells #[.slice A1 n1 c1, .slice A2 n2 c2, .slice A3 n3 c3] 26) (.cells #[.slice B1 m1 d1, .slice B2 m2 d2, .slice B3 m3 d3] 26)
  generalize (w.alloc (.cells #[.slice A1 n1 c1, .slice A2 n2 c2, .slice A3 n3 c3] 26)).alloc (.cells #[.slice B1 m1 d1, .slice B2 m2 d2, .slice B3 m3 d3] 26) = W at *
  have x0 : W.cell? ⟨w.heap.size, 0, none⟩ = some (.slice A1 n1 c1) := block_cell h0 0
  have x1 : W.cell? ⟨w.heap.size, 1, none⟩ = some (.slice A2 n2 c2) := block_cell h0 1
  have x2 : W.cell? ⟨w.heap.size, 2, none⟩ = some (.slice A3 n3 c3) := block_cell h0 2
  have y0 : W.cell? ⟨w.heap.size + 1, 0, none⟩ = some (.slice B1 m1 d1) := block_cell h1 0
  have y1 : W.cell? ⟨w.heap.size + 1, 1, none⟩ = some (.slice B2 m2 d2) := block_cell h1 1
  have y2 : W.cell? ⟨w.heap.size + 1, 2, none⟩ = some (.slice B3 m3 d3) := block_cell h1 2
  have HB := Lib.hid (below_drewN hb0 1); have H1 := Lib.hid h1; have HZ := Lib.hid hz
  have heq : ((strOf (bodyB t)).toList == (strOf (bodyB t)).toList) = true := by simp
  clear HB0 HH0 HH1 HHZ hb0 h0 h1 hz
  have tok1 : True := trivial
  go_region_law (first
    | (go_simp; go_at_call 44; have _t1 := tok1; refine (refBody_any t A1 A2 A3 n1 n2 n3 c1 c2 c3 _ HF.out (HS.out _ HB.out).1.1 (HS.out _ HB.out).1.2.1 (HS.out _ HB.out).1.2.2).mono ?_; rintro e wa ⟨va, rfl, hoa, hba⟩; have hwa : Below w.heap.size w wa := HB.out.trans (hba.mono HB.out.size); have ha1 : wa.heap[w.heap.size + 1]? = _ := (hba.block _ (by have := HZ.out; simp; omega)).trans H1.out; have y0' : wa.cell? ⟨w.heap.size + 1, 0, none⟩ = some (.slice B1 m1 d1) := block_cell ha1 0; have y1' : wa.cell? ⟨w.heap.size + 1, 1, none⟩ = some (.slice B2 m2 d2) := block_cell ha1 1; have y2' : wa.cell? ⟨w.heap.size + 1, 2, none⟩ = some (.slice B3 m3 d3) := block_cell ha1 2; have hca := row_string hoa HBP.out (Below.refl _ _); clear tok1)
    | (go_simp; go_at_call 44; refine (refBody_any t B1 B2 B3 m1 m2 m3 d1 d2 d3 _ HF.out (HS.out _ hwa).2.1 (HS.out _ hwa).2.2.1 (HS.out _ hwa).2.2.2).mono ?_; rintro e wb ⟨vb, rfl, hob, hbb⟩; have hwb : Below w.heap.size w wb := hwa.trans (hbb.mono hwa.size); have hcb := row_string hoa HBP.out hbb; have hcc := row_string hob HBP.out (Below.refl _ _))
    | fail)
  all_goals
    go_wp2_with fail
    go_ret
    exact ⟨rfl, hwb⟩
end Go.Proofs.Ytldeoaddogifpaa
