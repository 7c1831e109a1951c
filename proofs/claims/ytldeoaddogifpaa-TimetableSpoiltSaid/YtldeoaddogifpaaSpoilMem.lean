/-
  A built timetable with one cell changed still reads as a timetable.
  No condition.
-/
import Derived.Test.YtldeoaddogifpaaBaseTT
import Derived.Test.YtldeoaddogifpaaAwake
namespace Go.Proofs.Ytldeoaddogifpaa
set_option linter.unusedSimpArgs false
set_option linter.unusedVariables false
open Go.RowKit

/-- The timetable in the box g: zones, airports and flights apart from each other. -/
structure TMem (w : World) (g mb tb : Nat) (zv av v : Value) (z : ZData) (a : AData) (fs : List GFlight) (wx : World) : Prop where
  box : wx.heap[g]? = some (.cells #[zv, av, v] 26 (0, 0))
  zm : ZMem wx (fun b => w.heap.size ≤ b ∧ b < mb) zv z
  am : AMem wx (fun b => mb ≤ b ∧ b < tb) av a
  own : Own Ty.flight 36 wx tb v fs
  bel : Below w.heap.size w wx
  l1 : w.heap.size ≤ mb
  l2 : mb ≤ tb
  l3 : tb ≤ g
  l4 : ∀ k, v.ownBlock = some k → k ≠ g
section
variable {w : World} {g mb tb : Nat} {zv av v : Value} {z : ZData} {a : AData} {fs : List GFlight} {wx w' : World}
theorem TMem.glt (h : TMem w g mb tb zv av v z a fs wx) : g < wx.heap.size := (Array.getElem?_eq_some_iff.1 h.box).1
theorem TMem.next (h : TMem w g mb tb zv av v z a fs wx) (hb : Below wx.heap.size wx w') : TMem w g mb tb zv av v z a fs w' := by
  have h0 := h.glt; have h2 := h.l2; have h3 := h.l3
  exact ⟨(hb.block _ h.glt).trans h.box, h.zm.keep fun b hb' => hb.block b (by omega), h.am.keep fun b hb' => hb.block b (by omega), h.own.next hb, h.bel.trans (hb.mono h.bel.size), h.l1, h.l2, h.l3, h.l4⟩
theorem TMem.setZ (h : TMem w g mb tb zv av v z a fs wx) {zb s1 s2 o : Nat} {u : Value} {z' : ZData} (hzv : zv = .slice (some ⟨zb, 0, none⟩) 3 3) (hS : w.heap.size ≤ zb ∧ zb < mb) (hS1 : w.heap.size ≤ s1 ∧ s1 < mb) (hS2 : w.heap.size ≤ s2 ∧ s2 < mb) (hd : zb ≠ s1 ∧ zb ≠ s2 ∧ s1 ≠ s2)
    (h0 : wx.heap[zb]? = some (.cells (z.arr s1 s2) 42 (0, 0))) (h1 : wx.heap[s1]? = some (.cells z.arr1 44 (0, 0))) (h2 : wx.heap[s2]? = some (.cells z.arr2 44 (0, 0)))
    (hz : (z.arr s1 s2).setIfInBounds o u = z'.arr s1 s2) (e1 : z'.arr1 = z.arr1) (e2 : z'.arr2 = z.arr2) : TMem w g mb tb zv av v z' a fs (wx.setCell ⟨zb, o, none⟩ u) := by
  have l1 := h.l1; have l2 := h.l2; have l3 := h.l3
  have hk : ∀ b, b ≠ zb → (wx.setCell ⟨zb, o, none⟩ u).heap[b]? = wx.heap[b]? := fun b hb => heap_setCell_other _ _ _ _ hb
  refine ⟨(hk g (by omega)).trans h.box, ⟨zb, s1, s2, hzv, ⟨hS, hS1, hS2⟩, hd, ?_, ?_, ?_⟩, h.am.keep fun b hb => hk b (by omega), h.own.setCell (by omega) _, h.bel.setCell (by simp; omega) _, h.l1, h.l2, h.l3, h.l4⟩
  · rw [heap_setCell_same _ _ _ _ _ _ h0, hz]
  · rw [hk s1 (fun e => hd.1 e.symm), e1]; exact h1
  · rw [hk s2 (fun e => hd.2.1 e.symm), e2]; exact h2
theorem TMem.setS (h : TMem w g mb tb zv av v z a fs wx) {zb s1 s2 o : Nat} {u : Value} {z' : ZData} (hzv : zv = .slice (some ⟨zb, 0, none⟩) 3 3) (hS : w.heap.size ≤ zb ∧ zb < mb) (hS1 : w.heap.size ≤ s1 ∧ s1 < mb) (hS2 : w.heap.size ≤ s2 ∧ s2 < mb) (hd : zb ≠ s1 ∧ zb ≠ s2 ∧ s1 ≠ s2)
    (h0 : wx.heap[zb]? = some (.cells (z.arr s1 s2) 42 (0, 0))) (h1 : wx.heap[s1]? = some (.cells z.arr1 44 (0, 0))) (h2 : wx.heap[s2]? = some (.cells z.arr2 44 (0, 0)))
    (hz : z.arr1.setIfInBounds o u = z'.arr1) (e1 : z'.arr s1 s2 = z.arr s1 s2) (e2 : z'.arr2 = z.arr2) : TMem w g mb tb zv av v z' a fs (wx.setCell ⟨s1, o, none⟩ u) := by
  have l1 := h.l1; have l2 := h.l2; have l3 := h.l3
  have hk : ∀ b, b ≠ s1 → (wx.setCell ⟨s1, o, none⟩ u).heap[b]? = wx.heap[b]? := fun b hb => heap_setCell_other _ _ _ _ hb
  refine ⟨(hk g (by omega)).trans h.box, ⟨zb, s1, s2, hzv, ⟨hS, hS1, hS2⟩, hd, ?_, ?_, ?_⟩, h.am.keep fun b hb => hk b (by omega), h.own.setCell (by omega) _, h.bel.setCell (by simp; omega) _, h.l1, h.l2, h.l3, h.l4⟩
  · rw [hk zb hd.1, e1]; exact h0
  · rw [heap_setCell_same _ _ _ _ _ _ h1, hz]
  · rw [hk s2 (fun e => hd.2.2 e.symm), e2]; exact h2
theorem TMem.setA (h : TMem w g mb tb zv av v z a fs wx) {ab o : Nat} {u : Value} {a' : AData} (hav : av = .slice (some ⟨ab, 0, none⟩) 3 3) (hS : mb ≤ ab ∧ ab < tb) (h0 : wx.heap[ab]? = some (.cells a.arr 39 (0, 0)))
    (hz : a.arr.setIfInBounds o u = a'.arr) : TMem w g mb tb zv av v z a' fs (wx.setCell ⟨ab, o, none⟩ u) := by
  have l1 := h.l1; have l2 := h.l2; have l3 := h.l3
  have hk : ∀ b, b ≠ ab → (wx.setCell ⟨ab, o, none⟩ u).heap[b]? = wx.heap[b]? := fun b hb => heap_setCell_other _ _ _ _ hb
  refine ⟨(hk g (by omega)).trans h.box, h.zm.keep fun b hb => hk b (by omega), ⟨ab, hav, hS, ?_⟩, h.own.setCell (by omega) _, h.bel.setCell (by simp; omega) _, h.l1, h.l2, h.l3, h.l4⟩
  rw [heap_setCell_same _ _ _ _ _ _ h0, hz]
end
/-- One cell of a row of plain data changed. -/
theorem Own.setAt {α : Type} {t : Ty α} {e : TypeId} {w : World} {base : Nat} {b cap : Nat} {xs : List α} (ht : ∀ {w w' S S' cs x}, t.rep w S cs x → t.rep w' S' cs x) {n : Nat} (hn' : n = xs.length) (h : Own t e w base (.slice (some ⟨b, 0, none⟩) n cap) xs)
    {i j : Nat} {x x' : α} {u : Value} (hi : xs[i]? = some x) (hj : j < t.size) (hu : u.oneCell' = true) (hx : ∀ S cs, t.rep w S cs x → t.rep w S (cs.set j u) x') :
    Own t e (w.setCell ⟨b, i * t.size + j, none⟩ u) base (.slice (some ⟨b, 0, none⟩) n cap) (xs.set i x') := by
  subst hn'
  obtain ⟨cs, h1, h2⟩ := h
  have hil : i < xs.length := (List.getElem?_eq_some_iff.1 hi).1
  have hlt : i * t.size + j < cs.length := by
    rw [h2.1]
    have := Nat.mul_le_mul_right t.size (Nat.succ_le_of_lt hil)
    rw [Nat.succ_mul] at this
    omega
  rcases h1.2 with ⟨h3, _⟩ | ⟨g, cap', cur, hv, hg, hb, hn, hm, hc, htk⟩
  · cases h3
  · simp only [Value.slice.injEq, Option.some.injEq, Addr.mk.injEq, and_true, true_and] at hv
    obtain ⟨rfl, rfl⟩ := hv
    refine ⟨cs.set (i * t.size + j) u, ⟨by rw [List.length_set, List.length_set]; exact h1.1, .inr ⟨b, cap, cur.setIfInBounds (i * t.size + j) u, by rw [List.length_set], hg, heap_setCell_same _ _ _ _ _ _ hb, by rw [List.length_set]; exact hn, hm, by simpa using hc, ?_⟩⟩, ?_, ?_⟩
    · rw [List.length_set, Array.toList_setIfInBounds, List.take_set, htk]
    · rw [List.length_set, List.length_set]; exact h2.1
    · intro k y hk
      rcases Nat.lt_trichotomy k i with hki | rfl | hki
      · rw [List.getElem?_set_ne (by omega)] at hk
        have := h2.2 k y hk
        have e : ((cs.set (i * t.size + j) u).drop (k * t.size)).take t.size = (cs.drop (k * t.size)).take t.size := by
          have hle : (k + 1) * t.size ≤ i * t.size := Nat.mul_le_mul_right _ hki
          rw [Nat.succ_mul] at hle
          rw [List.drop_set, if_neg (by omega), List.take_set, List.set_eq_of_length_le]
          rw [List.length_take]
          omega
        rw [e]
        exact ht this
      · rw [List.getElem?_set_self hil] at hk
        cases hk
        have := h2.2 k x hi
        have e : ((cs.set (k * t.size + j) u).drop (k * t.size)).take t.size = ((cs.drop (k * t.size)).take t.size).set j u := by
          rw [List.drop_set, if_neg (by omega), List.take_set, Nat.add_sub_cancel_left]
        rw [e]
        exact ht (hx _ _ this)
      · rw [List.getElem?_set_ne (by omega)] at hk
        have := h2.2 k y hk
        have e : (cs.set (i * t.size + j) u).drop (k * t.size) = cs.drop (k * t.size) := by
          have hle : (i + 1) * t.size ≤ k * t.size := Nat.mul_le_mul_right _ hki
          rw [Nat.succ_mul] at hle
          rw [List.drop_set, if_pos (by omega)]
        rw [e]
        exact ht this
section
variable {w : World} {g mb tb : Nat} {zv av : Value} {z : ZData} {a : AData} {fs : List GFlight} {wx w' : World}
theorem TMem.setF {b cap n : Nat} (hn : n = fs.length) (h : TMem w g mb tb zv av (.slice (some ⟨b, 0, none⟩) n cap) z a fs wx) {i j : Nat} {f f' : GFlight} {u : Value} (hi : fs[i]? = some f) (hj : j < 9) (hu : u.oneCell' = true) (hx : (flightCells f).set j u = flightCells f') :
    TMem w g mb tb zv av (.slice (some ⟨b, 0, none⟩) n cap) z a (fs.set i f') (wx.setCell ⟨b, i * 9 + j, none⟩ u) := by
  have l1 := h.l1; have l2 := h.l2; have l3 := h.l3
  have hb := h.own.lt b rfl
  have l4 := h.l4 b rfl
  have hk : ∀ q, q ≠ b → (wx.setCell ⟨b, i * 9 + j, none⟩ u).heap[q]? = wx.heap[q]? := fun q hq => heap_setCell_other _ _ _ _ hq
  refine ⟨(hk g (fun e => l4 e.symm)).trans h.box, h.zm.keep fun q hq => hk q (by omega), h.am.keep fun q hq => hk q (by omega), ?_, h.bel.setCell (by simp; omega) _, h.l1, h.l2, h.l3, h.l4⟩
  exact Own.setAt (t := Ty.flight) (fun h => h) hn h.own hi hj hu fun S cs hc => by
    have hc' : cs = flightCells f := hc
    subst hc'
    exact hx
end
section
variable {w : World} {g mb tb : Nat} {zv av : Value} {z : ZData} {a : AData} {fs : List GFlight} {wx w' : World}
/-- A whole flight stored. -/
theorem TMem.setF9 {b cap n : Nat} (hn : n = fs.length) (h : TMem w g mb tb zv av (.slice (some ⟨b, 0, none⟩) n cap) z a fs wx) {i : Nat} {f f' : GFlight} (hi : fs[i]? = some f) :
    TMem w g mb tb zv av (.slice (some ⟨b, 0, none⟩) n cap) z a (fs.set i f') (((((((((wx.setCell ⟨b, i * 9, none⟩ (.string f'.number)).setCell ⟨b, i * 9 + 1, none⟩ (.string f'.src)).setCell ⟨b, i * 9 + 2, none⟩ (.string f'.dst)).setCell ⟨b, i * 9 + 3, none⟩ (.int .i64 f'.dep)).setCell ⟨b, i * 9 + 4, none⟩ (.int .i64 f'.arr)).setCell ⟨b, i * 9 + 5, none⟩ (.string f'.kind)).setCell ⟨b, i * 9 + 6, none⟩ (.int .i64 f'.n0)).setCell ⟨b, i * 9 + 7, none⟩ (.int .i64 f'.n1)).setCell ⟨b, i * 9 + 8, none⟩ (.int .i64 f'.n2)) := by
  have hil : i < fs.length := (List.getElem?_eq_some_iff.1 hi).1
  have g0 : ∀ x, (fs.set i x)[i]? = some x := fun x => by rw [List.getElem?_set_self hil]
  have g1 : ∀ x, n = (fs.set i x).length := fun x => by rw [List.length_set]; exact hn
  have t0 := h.setF hn (j := 0) (u := .string f'.number) (f' := { f with number := f'.number }) hi (by decide) rfl rfl
  have t1 := t0.setF (g1 _) (j := 1) (u := .string f'.src) (f' := { f with number := f'.number, src := f'.src }) (g0 _) (by decide) rfl rfl
  rw [List.set_set] at t1
  have t2 := t1.setF (g1 _) (j := 2) (u := .string f'.dst) (f' := { f with number := f'.number, src := f'.src, dst := f'.dst }) (g0 _) (by decide) rfl rfl
  rw [List.set_set] at t2
  have t3 := t2.setF (g1 _) (j := 3) (u := .int .i64 f'.dep) (f' := { f with number := f'.number, src := f'.src, dst := f'.dst, dep := f'.dep }) (g0 _) (by decide) rfl rfl
  rw [List.set_set] at t3
  have t4 := t3.setF (g1 _) (j := 4) (u := .int .i64 f'.arr) (f' := { f with number := f'.number, src := f'.src, dst := f'.dst, dep := f'.dep, arr := f'.arr }) (g0 _) (by decide) rfl rfl
  rw [List.set_set] at t4
  have t5 := t4.setF (g1 _) (j := 5) (u := .string f'.kind) (f' := { f with number := f'.number, src := f'.src, dst := f'.dst, dep := f'.dep, arr := f'.arr, kind := f'.kind }) (g0 _) (by decide) rfl rfl
  rw [List.set_set] at t5
  have t6 := t5.setF (g1 _) (j := 6) (u := .int .i64 f'.n0) (f' := { f with number := f'.number, src := f'.src, dst := f'.dst, dep := f'.dep, arr := f'.arr, kind := f'.kind, n0 := f'.n0 }) (g0 _) (by decide) rfl rfl
  rw [List.set_set] at t6
  have t7 := t6.setF (g1 _) (j := 7) (u := .int .i64 f'.n1) (f' := { f with number := f'.number, src := f'.src, dst := f'.dst, dep := f'.dep, arr := f'.arr, kind := f'.kind, n0 := f'.n0, n1 := f'.n1 }) (g0 _) (by decide) rfl rfl
  rw [List.set_set] at t7
  have t8 := t7.setF (g1 _) (j := 8) (u := .int .i64 f'.n2) (f' := f') (g0 _) (by decide) rfl rfl
  rw [List.set_set] at t8
  exact t8
theorem TMem.drew {v : Value} (h : TMem w g mb tb zv av v z a fs wx) : TMem w g mb tb zv av v z a fs wx.drew := h.next (below_drewN (Below.refl _ _) 1)
end
/-- What the end of the law needs: some well formed timetable lies in the box. -/
def SpoiltOk (w : World) (g : Nat) (wx : World) : Prop :=
  ∃ A1 n1 c1 A2 n2 c2 A3 n3 c3 t, GTT.ok t ∧ wx.heap[g]? = some (.cells #[.slice A1 n1 c1, .slice A2 n2 c2, .slice A3 n3 c3] 26 (0, 0)) ∧ Sl Ty.zone wx (all_ wx) A1 n1 c1 t.zones ∧ Sl Ty.airport wx (all_ wx) A2 n2 c2 t.airports ∧ Sl Ty.flight wx (all_ wx) A3 n3 c3 t.flights ∧ Below w.heap.size w wx
def i64In (n : Int) : Prop := -9223372036854775808 ≤ n ∧ n ≤ 9223372036854775807
def ZData.ok (z : ZData) : Prop := (z.n0.size ≤ maxLen ∧ z.n1.size ≤ maxLen ∧ z.n2.size ≤ maxLen) ∧ (i64In z.o0 ∧ i64In z.o1 ∧ i64In z.o2) ∧ (i64In z.a ∧ i64In z.b ∧ i64In z.c ∧ i64In z.d ∧ i64In z.e ∧ i64In z.f)
def AData.ok (a : AData) : Prop := (a.c0.size ≤ maxLen ∧ a.c1.size ≤ maxLen ∧ a.c2.size ≤ maxLen) ∧ (a.z0.size ≤ maxLen ∧ a.z1.size ≤ maxLen ∧ a.z2.size ≤ maxLen)
theorem ZData.ok.all {z : ZData} (h : z.ok) : ∀ y ∈ z.zones, y.ok := by
  obtain ⟨⟨n0, n1, n2⟩, ⟨o0, o1, o2⟩, a, b, c, d, e, f⟩ := h
  intro y hy
  simp only [ZData.zones, List.mem_cons, List.mem_nil_iff, or_false] at hy
  rcases hy with rfl | rfl | rfl
  · exact ⟨n0, o0, fun s hs => by cases hs⟩
  · refine ⟨n1, o1, fun s hs => ?_⟩
    simp only [List.mem_cons, List.mem_nil_iff, or_false] at hs
    rcases hs with rfl | rfl
    · exact ⟨a, b⟩
    · exact ⟨c, d⟩
  · refine ⟨n2, o2, fun s hs => ?_⟩
    simp only [List.mem_cons, List.mem_nil_iff, or_false] at hs
    subst hs
    exact ⟨e, f⟩
theorem AData.ok.all {a : AData} (h : a.ok) : ∀ y ∈ a.airports, y.ok := by
  obtain ⟨⟨n0, n1, n2⟩, ⟨o0, o1, o2⟩⟩ := h
  intro y hy
  simp only [AData.airports, List.mem_cons, List.mem_nil_iff, or_false] at hy
  rcases hy with rfl | rfl | rfl
  · exact ⟨n0, o0⟩
  · exact ⟨n1, o1⟩
  · exact ⟨n2, o2⟩
theorem TMem.spoilt {w : World} {g mb tb : Nat} {zv av v : Value} {z : ZData} {a : AData} {fs : List GFlight} {wx : World} (h : TMem w g mb tb zv av v z a fs wx) (hz : z.ok) (ha : a.ok) (hf : ∀ f ∈ fs, f.ok) : SpoiltOk w g wx := by
  have l0 := h.glt; have l1 := h.l1; have l2 := h.l2; have l3 := h.l3
  have hbox := h.box
  have hown := h.own
  obtain ⟨A1, n1, c1, rfl, s1⟩ := h.zm.sl
  obtain ⟨A2, n2, c2, rfl, s2⟩ := h.am.sl
  obtain ⟨A3, c3, rfl, s3⟩ := hown.sl
  exact ⟨A1, n1, c1, A2, n2, c2, A3, _, c3, ⟨z.zones, a.airports, fs⟩, ⟨hz.all, ha.all, hf⟩, hbox, s1.more (fun q hq => show q < _ by omega), s2.more (fun q hq => show q < _ by omega), s3.more (fun q hq => hq.2), h.bel⟩
theorem baseZD_ok : baseZD.ok := by refine ⟨⟨?_, ?_, ?_⟩, ⟨?_, ?_, ?_⟩, ?_, ?_, ?_, ?_, ?_, ?_⟩ <;> first | (unfold i64In baseZD; decide) | (unfold baseZD; decide)
theorem baseAD_ok : baseAD.ok := by refine ⟨⟨?_, ?_, ?_⟩, ?_, ?_, ?_⟩ <;> (unfold baseAD; decide)
theorem ok_set {fs : List GFlight} {i : Nat} {f : GFlight} (h : ∀ f ∈ fs, f.ok) (hf : f.ok) : ∀ g ∈ fs.set i f, g.ok := fun g hg => by
  rcases List.mem_or_eq_of_mem_set hg with h1 | rfl
  · exact h g h1
  · exact hf
end Go.Proofs.Ytldeoaddogifpaa
