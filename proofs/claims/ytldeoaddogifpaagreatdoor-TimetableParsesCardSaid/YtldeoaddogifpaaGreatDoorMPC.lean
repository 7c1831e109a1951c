/-
  Joined texts: TParseLine; CalRef; CalRef2; CalRef3; FmtRef; FmtRef2; DurRef; RegionR. What each proves stands ahead of it, with its conditions.
-/
import Derived.Test.YtldeoaddogifpaaGreatDoorMPB
import Derived.Test.YtldeoaddogifpaaGreatDoorTTDecode
import Derived.Test.YtldeoaddogifpaaGreatDoorCal3
import Derived.Test.YtldeoaddogifpaaGreatDoorMPA
import Derived.Test.YtldeoaddogifpaaGreatDoorRegion
/-
  Contract of timetable.parseLine: the timetable in a box grows by the line's element.
  Condition: the fields read as a list of strings of no more than 20000 bytes, no more than 100000 of them; the timetable's lists are short.
-/
namespace Go.Proofs.YtldeoaddogifpaaGreatDoor
set_option linter.unusedSimpArgs false
set_option linter.unusedVariables false
open Go.RowKit

section
variable {w : World} {lo : Nat} {v1 v2 v3 : Value} {t : GTT} {P : Program} {ops : Array Oper} {o : Oper} {a : Act} {K : Act → World → Prop} {Q : Exit → Act → World → Prop} {E : Prop}
theorem step_pushZ (hgd : o.guard = none) (s x : Operand) (T : TypeId)
    (ho : o.op = .call { callee := .builtin .append, args := #[s, x], argTypes := #[T, T] }) (he : Elem P T 51 3 48) (hs : a.eval s = v1) (h : TPM w lo v1 v2 v3 t)
    (g : Nat) (z : GZone) (hx : a.eval x = .slice (some ⟨g, 0, none⟩) 1 1) (hz : ∃ cz, Ty.zone.rep w (shS w lo) cz z ∧ At w g 0 cz) (hlen : t.zones.length ≤ 1000) (hlo : lo ≤ w.heap.size)
    (hn : ∀ g' cap w', TPM w' lo (.slice (some ⟨g', 0, none⟩) (t.zones.length + 1) cap) v2 v3 (t.addZ z) → w.grownBy w' v1.ownBlock → K (a.put o.dst (.slice (some ⟨g', 0, none⟩) (t.zones.length + 1) cap)) w') :
    if Region.wanted o (yielded ops a.tmps) = true then Oper.wp P o a w K Q else E := by
  obtain ⟨i, zr, hi, hzr, h1, h2, h3⟩ := he.parts
  obtain ⟨cs, r1, r2⟩ := h.z
  obtain ⟨cz, hr, hat⟩ := hz
  refine step_append_lies _ hgd s x T ho lo 51 i zr 3 48 he.1 hi hzr h1 h2 h3 (by decide) v1 _ cs hs r1 ⟨g, 0, none⟩ 1 1 cz hx (by rw [Ty.zone.len hr]; rfl) (fun j u hu => by rw [addr_add]; exact hat j u hu) (Ty.zone.one hr) (by decide) (by unfold maxLen; omega) (by omega) hlo _ rfl ?_
  intro g' cap w' ho' hgr _ _
  exact hn g' cap w' (h.grownZ r1 r2 hr ho' hgr) hgr
theorem step_pushA (hgd : o.guard = none) (s x : Operand) (T : TypeId)
    (ho : o.op = .call { callee := .builtin .append, args := #[s, x], argTypes := #[T, T] }) (he : Elem P T 66 2 32) (hs : a.eval s = v2) (h : TPM w lo v1 v2 v3 t)
    (g : Nat) (z : GAirport) (hx : a.eval x = .slice (some ⟨g, 0, none⟩) 1 1) (hz : At w g 0 [.string z.code, .string z.zone]) (hlen : t.airports.length ≤ 1000) (hlo : lo ≤ w.heap.size)
    (hn : ∀ g' cap w', TPM w' lo v1 (.slice (some ⟨g', 0, none⟩) (t.airports.length + 1) cap) v3 (t.addA z) → w.grownBy w' v2.ownBlock → K (a.put o.dst (.slice (some ⟨g', 0, none⟩) (t.airports.length + 1) cap)) w') :
    if Region.wanted o (yielded ops a.tmps) = true then Oper.wp P o a w K Q else E :=
  step_push hgd s x T ho 32 he hs h.a g z (fun _ => False) hx ⟨_, rfl, hz⟩ (fun _ h => h.elim) (by omega) (by decide) hlo fun g' cap w' ho' hg _ => hn g' cap w' (h.grownA ho' hg) hg
theorem step_pushF (hgd : o.guard = none) (s x : Operand) (T : TypeId)
    (ho : o.op = .call { callee := .builtin .append, args := #[s, x], argTypes := #[T, T] }) (he : Elem P T 47 9 104) (hs : a.eval s = v3) (h : TPM w lo v1 v2 v3 t)
    (g : Nat) (z : GFlight) (hx : a.eval x = .slice (some ⟨g, 0, none⟩) 1 1) (hz : At w g 0 (flightCells z)) (hlen : t.flights.length ≤ 1000) (hlo : lo ≤ w.heap.size)
    (hn : ∀ g' cap w', TPM w' lo v1 v2 (.slice (some ⟨g', 0, none⟩) (t.flights.length + 1) cap) (t.addF z) → w.grownBy w' v3.ownBlock → K (a.put o.dst (.slice (some ⟨g', 0, none⟩) (t.flights.length + 1) cap)) w') :
    if Region.wanted o (yielded ops a.tmps) = true then Oper.wp P o a w K Q else E :=
  step_push hgd s x T ho 104 he hs h.f g z (fun _ => False) hx ⟨_, rfl, hz⟩ (fun _ h => h.elim) (by omega) (by decide) hlo fun g' cap w' ho' hg _ => hn g' cap w' (h.grownF ho' hg) hg
end
/-- The timetable under construction, in a box. -/
structure TBx (w : World) (tb lo : Nat) (v1 v2 v3 : Value) (t : GTT) : Prop where
  box : w.heap[tb]? = some (.cells #[v1, v2, v3] 27 (0, 0))
  m : TPM w lo v1 v2 v3 t
  lt : tb < lo
  le : lo ≤ w.heap.size
/-- Blocks ahead of lo stay, but for the box. -/
structure TKeep (tb lo : Nat) (w w' : World) : Prop where
  os : w'.os = w.os
  tape : w'.tape = w.tape
  output : w'.output = w.output
  size : w.heap.size ≤ w'.heap.size
  block : ∀ q, q < lo → q ≠ tb → w'.heap[q]? = w.heap[q]?
section
variable {w w' w'' : World} {tb lo : Nat} {v1 v2 v3 : Value} {t : GTT}
theorem TBx.next (h : TBx w tb lo v1 v2 v3 t) (hb : Below w.heap.size w w') : TBx w' tb lo v1 v2 v3 t :=
  ⟨(hb.block tb (Nat.lt_of_lt_of_le h.lt h.le)).trans h.box, h.m.next hb, h.lt, Nat.le_trans h.le hb.size⟩
theorem TBx.store0 (h : TBx w tb lo v1 v2 v3 t) (hk : w'.heap[tb]? = w.heap[tb]?) {v' : Value} {t' : GTT} (hm : TPM w' lo v' v2 v3 t') (hs : w.heap.size ≤ w'.heap.size) : TBx (w'.setCell ⟨tb, 0, none⟩ v') tb lo v' v2 v3 t' :=
  ⟨heap_setCell_same _ _ _ _ _ _ (hk.trans h.box), hm.setBox h.lt, h.lt, by simp; exact Nat.le_trans h.le hs⟩
theorem TBx.store1 (h : TBx w tb lo v1 v2 v3 t) (hk : w'.heap[tb]? = w.heap[tb]?) {v' : Value} {t' : GTT} (hm : TPM w' lo v1 v' v3 t') (hs : w.heap.size ≤ w'.heap.size) : TBx (w'.setCell ⟨tb, 1, none⟩ v') tb lo v1 v' v3 t' :=
  ⟨heap_setCell_same _ _ _ _ _ _ (hk.trans h.box), hm.setBox h.lt, h.lt, by simp; exact Nat.le_trans h.le hs⟩
theorem TBx.store2 (h : TBx w tb lo v1 v2 v3 t) (hk : w'.heap[tb]? = w.heap[tb]?) {v' : Value} {t' : GTT} (hm : TPM w' lo v1 v2 v' t') (hs : w.heap.size ≤ w'.heap.size) : TBx (w'.setCell ⟨tb, 2, none⟩ v') tb lo v1 v2 v' t' :=
  ⟨heap_setCell_same _ _ _ _ _ _ (hk.trans h.box), hm.setBox h.lt, h.lt, by simp; exact Nat.le_trans h.le hs⟩
theorem TKeep.of_below (hb : Below w.heap.size w w') (hl : lo ≤ w.heap.size) : TKeep tb lo w w' := ⟨hb.os, hb.tape, hb.output, hb.size, fun q hq _ => hb.block q (by omega)⟩
theorem TKeep.trans (h : TKeep tb lo w w') (h' : TKeep tb lo w' w'') : TKeep tb lo w w'' := ⟨h'.os.trans h.os, h'.tape.trans h.tape, h'.output.trans h.output, Nat.le_trans h.size h'.size, fun q a b => (h'.block q a b).trans (h.block q a b)⟩
theorem TKeep.grown {row : Option Nat} (h : TKeep tb lo w w') (hg : w'.grownBy w'' row) (hr : ∀ k, row = some k → lo ≤ k) (hl : lo ≤ w'.heap.size) : TKeep tb lo w w'' :=
  ⟨hg.os.trans h.os, hg.tape.trans h.tape, hg.output.trans h.output, Nat.le_trans h.size hg.size, fun q a b => (hg.block q (by omega) (fun e => by have := hr q e.symm; omega)).trans (h.block q a b)⟩
theorem TKeep.setBox (h : TKeep tb lo w w') (j : Nat) (x : Value) : TKeep tb lo w (w'.setCell ⟨tb, j, none⟩ x) :=
  ⟨h.os, h.tape, h.output, by simp; exact h.size, fun q a b => (heap_setCell_other _ _ _ _ b).trans (h.block q a b)⟩
end
def LnPost9 (fs : List ByteArray) (t : GTT) (tb lo : Nat) (w : World) (e : Ending) (w' : World) : Prop :=
  e = .returned (.bool (lineT9 fs t).isSome) ∧ TKeep tb lo w w' ∧ ∃ v1 v2 v3 t', TBx w' tb lo v1 v2 v3 t' ∧ ∀ x, lineT9 fs t = some x → t' = x
theorem line_bad9 {fs : List ByteArray} {t : GTT} {tb lo : Nat} {w w' : World} {v1 v2 v3 : Value} {t' : GTT} (h : lineT9 fs t = none) (hk : TKeep tb lo w w') (hx : TBx w' tb lo v1 v2 v3 t') : LnPost9 fs t tb lo w (.returned (.bool false)) w' :=
  ⟨by rw [h]; rfl, hk, v1, v2, v3, t', hx, fun x hx => by rw [h] at hx; cases hx⟩
theorem line_good9 {fs : List ByteArray} {t : GTT} {tb lo : Nat} {w w' : World} {v1 v2 v3 : Value} {t' : GTT} (h : lineT9 fs t = some t') (hk : TKeep tb lo w w') (hx : TBx w' tb lo v1 v2 v3 t') : LnPost9 fs t tb lo w (.returned (.bool true)) w' :=
  ⟨by rw [h]; rfl, hk, v1, v2, v3, t', hx, fun x hx => by rw [h] at hx; exact Option.some.inj hx⟩
theorem eq_zone (x : ByteArray) : (x.toList == [122, 111, 110, 101]) = decide (x = zoneS) := by
  rw [← str_beq, ByteArray.toList_eq zoneS]; rfl
theorem eq_air (x : ByteArray) : (x.toList == [97, 105, 114, 112, 111, 114, 116]) = decide (x = airS) := by
  rw [← str_beq, ByteArray.toList_eq airS]; rfl
theorem eq_fli (x : ByteArray) : (x.toList == [102, 108, 105, 103, 104, 116]) = decide (x = fliS) := by
  rw [← str_beq, ByteArray.toList_eq fliS]; rfl
set_option maxRecDepth 100000 in
set_option maxHeartbeats 6400000 in
theorem parseLine9_any (fs : List ByteArray) (A : Option Addr) (n c : Nat) (t : GTT) (tb lo : Nat) (v1 v2 v3 : Value) (w : World) (hb : TBx w tb lo v1 v2 v3 t) (hok : TtOk 1000 t) (hf : Sl Ty.str w (all_ w) A n c fs) (h1 : 1 ≤ fs.length) (hl : fs.length ≤ 100000) (hz : ∀ x ∈ fs, x.size ≤ 20000) (hg : Glo w) :
    Calls Tryz.prog 20 #[.pointer (some ⟨tb, 0, none⟩), .slice A n c] w (LnPost9 fs t tb lo w) := by
  have HPZ := Lib.hid (parseZone_any fs A n c w hf h1 hl hz hg)
  have HPF := Lib.hid (parseFlight_any fs A n c w hf h1 hl hz)
  have hn := hf.len
  obtain ⟨fb, o, rfl, hSb, hcells⟩ := fld_cells hf (by omega)
  have hfb : fb < w.heap.size := hSb
  subst hn
  have c0 : w.cell? ⟨fb, o, none⟩ = some (.string (fld fs 0)) := hcells 0 (by omega)
  have l0 : (0 : Int) < (fs.length : Int) := by omega
  have HC := Lib.hid hcells
  have HLN : Hid (lineT9 fs t = if fld fs 0 = zoneS then (if zoneBad fs = true then none else some (t.addZ (zoneF fs)))
    else if fld fs 0 = airS then (if fs.length ≠ 3 then none else some (t.addA ⟨fld fs 1, fld fs 2⟩))
    else if fld fs 0 = fliS then (if flightBad fs = true then none else some (t.addF (flightF fs))) else none) := rfl
  have ez := eq_zone (fld fs 0); have ea := eq_air (fld fs 0); have ef := eq_fli (fld fs 0)
  have HTB := Lib.hid hb
  obtain ⟨o1, o2, o3, o4⟩ := hok
  obtain ⟨A1, cp1, A2, cp2, A3, cp3, rfl, rfl, rfl, -⟩ := hb.m.sl
  have HLT := Lib.hid hb.m.lt
  have htl := hb.lt
  have hll := hb.le
  have HBX := Lib.hid hb.box
  have HTK : Hid (∀ V, Below w.heap.size w V → TKeep tb lo w V) := fun V hV => TKeep.of_below hV hll
  clear hf hz hg hSb hcells hb o1
  by_cases hz : fld fs 0 = zoneS
  · rw [decide_eq_true hz] at ez
    rw [if_pos hz] at HLN
    clear ea ef hz
    go_enter Tryz.func20, Tryz.ntmps20
    go_wp2_with fail
    refine HPZ.out.mono ?_
    rintro e w1 ⟨z, v, rfl, hown, hb1, hgood⟩
    have HB1 := Lib.hid hb1
    have hs1 := hb1.size
    obtain ⟨Av, cv, rfl, hslv⟩ := hown.slTag flat_shift
    have HSV := Lib.hid hslv
    have HGOOD := Lib.hid hgood
    have hb2 : Below w.heap.size w (w1.alloc (.cells #[.string z.name, .int .i64 z.off, .slice Av z.shifts.length cv] 51)) := hb1.alloc hs1 _
    have HB2 := Lib.hid hb2
    have hx2 := heap_alloc_new w1 (.cells #[.string z.name, .int .i64 z.off, .slice Av z.shifts.length cv] 51)
    have y0 : (w1.alloc (.cells #[.string z.name, .int .i64 z.off, .slice Av z.shifts.length cv] 51)).cell? ⟨w1.heap.size, 0, none⟩ = some (.string z.name) := block_cell hx2 0
    have y1 : (w1.alloc (.cells #[.string z.name, .int .i64 z.off, .slice Av z.shifts.length cv] 51)).cell? ⟨w1.heap.size, 1, none⟩ = some (.int .i64 z.off) := block_cell hx2 1
    have y2 : (w1.alloc (.cells #[.string z.name, .int .i64 z.off, .slice Av z.shifts.length cv] 51)).cell? ⟨w1.heap.size, 2, none⟩ = some (.slice Av z.shifts.length cv) := block_cell hx2 2
    have hsz2 : (w1.alloc (.cells #[.string z.name, .int .i64 z.off, .slice Av z.shifts.length cv] 51)).heap.size = w1.heap.size + 1 := by simp
    have HSV2 : Hid (Sl Ty.shift (w1.alloc (.cells #[.string z.name, .int .i64 z.off, .slice Av z.shifts.length cv] 51)) (shS (w1.alloc (.cells #[.string z.name, .int .i64 z.off, .slice Av z.shifts.length cv] 51)) lo) Av z.shifts.length cv z.shifts) := by
      refine (hslv.keep (w' := w1.alloc (.cells #[.string z.name, .int .i64 z.off, .slice Av z.shifts.length cv] 51)) fun b hb => ?_).more fun b hb => ⟨by have := hb.1; omega, ?_⟩
      · obtain ⟨_, cur, hc⟩ := hb
        exact Below.heap_alloc _ _ _ (Array.getElem?_eq_some_iff.1 hc).1
      · obtain ⟨_, cur, hc⟩ := hb
        exact ⟨cur, (Below.heap_alloc _ _ _ (Array.getElem?_eq_some_iff.1 hc).1).trans hc⟩
    clear hown hb1 hgood hslv hx2 c0 hb2
    go_upto_region 4 with (fail)
    generalize w1.alloc (.cells #[.string z.name, .int .i64 z.off, .slice Av z.shifts.length cv] 51) = w2 at *
    have HT2 : Hid (TBx w2 tb lo (.slice A1 t.zones.length cp1) (.slice A2 t.airports.length cp2) (.slice A3 t.flights.length cp3) t) := HTB.out.next HB2.out
    have x0 : w2.cell? ⟨tb, 0, none⟩ = some (.slice A1 t.zones.length cp1) := block_cell HT2.out.box 0
    have HTM : Hid (∀ ob, TPM (w2.drew.alloc ob) lo (.slice A1 t.zones.length cp1) (.slice A2 t.airports.length cp2) (.slice A3 t.flights.length cp3) t) := fun ob => HT2.out.m.next ((below_drewN (Below.refl _ _) 1).alloc (Nat.le_refl _) ob)
    have HP6 : Hid (∀ ob v' w6, TPM w6 lo v' (.slice A2 t.airports.length cp2) (.slice A3 t.flights.length cp3) (t.addZ z) → (w2.drew.alloc ob).grownBy w6 (Value.slice A1 t.zones.length cp1).ownBlock → w6.heap[tb]? = some (.cells #[.slice A1 t.zones.length cp1, .slice A2 t.airports.length cp2, .slice A3 t.flights.length cp3] 27 (0, 0)) ∧ TBx (w6.setCell ⟨tb, 0, none⟩ v') tb lo v' (.slice A2 t.airports.length cp2) (.slice A3 t.flights.length cp3) (t.addZ z) ∧ TKeep tb lo w (w6.setCell ⟨tb, 0, none⟩ v')) := fun ob v' w6 hm hg => by
      have hsz : (w2.drew.alloc ob).heap.size = w2.heap.size + 1 := by simp
      have hle := HT2.out.le
      have hbd : Below w2.heap.size w2 (w2.drew.alloc ob) := (below_drewN (Below.refl _ _) 1).alloc (Nat.le_refl _) ob
      have hrow : ∀ k, (Value.slice A1 t.zones.length cp1).ownBlock = some k → lo ≤ k := fun k hk => (HLT.out.1 k hk).1
      have hk6 : w6.heap[tb]? = w2.heap[tb]? := (hg.block tb (by omega) (fun e => by have := hrow tb e.symm; omega)).trans (Below.heap_alloc _ _ _ (by show tb < w2.heap.size; omega))
      exact ⟨hk6.trans HT2.out.box, HT2.out.store0 hk6 hm (by have := hg.size; omega), (((HTK.out w2 HB2.out).trans (TKeep.of_below ((below_drewN (Below.refl _ _) 1).alloc (Nat.le_refl _) ob) hle)).grown hg hrow (Nat.le_trans hle hbd.size)).setBox _ _⟩
    have HSVB : Hid (∀ ob, Sl Ty.shift (w2.drew.alloc ob) (shS (w2.drew.alloc ob) lo) Av z.shifts.length cv z.shifts) := fun ob => by
      have hbv : Below w2.heap.size w2 (w2.drew.alloc ob) := (below_drewN (Below.refl _ _) 1).alloc (Nat.le_refl _) ob
      refine (HSV2.out.keep (w' := w2.drew.alloc ob) fun b hb => hbv.block b hb.2.lt).more fun b hb => ⟨hb.1, ?_⟩
      obtain ⟨_, cur, hc⟩ := hb
      exact ⟨cur, (hbv.block b (Array.getElem?_eq_some_iff.1 hc).1).trans hc⟩
    have HFIN : Hid (∀ V v', TKeep tb lo w V → TBx V tb lo v' (.slice A2 t.airports.length cp2) (.slice A3 t.flights.length cp3) (t.addZ z) → LnPost9 fs t tb lo w (.returned (.bool (!zoneBad fs))) V) := fun V v' hk hx => by
      cases hzb : zoneBad fs with
      | true =>
        rw [hzb] at HLN
        exact line_bad9 (by have := HLN.out; rwa [if_pos rfl] at this) hk hx
      | false =>
        rw [hzb] at HLN
        obtain rfl := HGOOD.out hzb
        exact line_good9 (by have := HLN.out; rwa [if_neg (by simp)] at this) hk hx
    have hle2 : lo ≤ w2.heap.size := HT2.out.le
    have x0a : ∀ ob, (w2.alloc ob).cell? ⟨tb, 0, none⟩ = some (.slice A1 t.zones.length cp1) := fun ob => (World.cell?_alloc_past _ _ _ (show tb < w2.heap.size by omega)).trans x0
    clear HB1 HPZ HPF HTB HBX
    generalize zoneBad fs = zb at *
    go_region_law (first
      | (refine step_pushZ rfl (.tmp 23) (.tmp 25) 23 rfl zone_row (by simp [Act.eval, Act.put]) (HTM.out _) w2.heap.size z (by simp [Act.eval, Act.put]) ⟨[.string z.name, .int .i64 z.off, .slice Av z.shifts.length cv], ⟨Av, _, cv, rfl, HSVB.out _⟩, At.new w2.drew #[.string z.name, .int .i64 z.off, .slice Av z.shifts.length cv] _⟩ o2 (by simp; omega) ?_; intro g6 cap6 w6 hm6 hgr6; obtain ⟨hb6, hx6, hk6⟩ := HP6.out _ _ _ hm6 hgr6; have y6 := block_cell hb6 0; have f6 := block_free hb6 0; have HX6 := Lib.hid hx6; have HK6 := Lib.hid hk6; clear hb6 hx6 hk6 hm6 hgr6)
      | fail)
    all_goals
      go_wp2_with fail
      go_ret
      exact HFIN.out _ _ HK6.out HX6.out
  rw [decide_eq_false hz] at ez
  rw [if_neg hz] at HLN
  clear hz
  by_cases hz : fld fs 0 = airS
  · rw [decide_eq_true hz] at ea
    rw [if_pos hz] at HLN
    clear ef hz HPZ HPF
    by_cases h3 : fs.length = 3
    case neg =>
      rw [if_pos h3] at HLN
      have h3' : ((fs.length : Int) != 3) = true := by simp; omega
      have HRES := Lib.hid (line_bad9 (w' := w) HLN.out (HTK.out w (Below.refl _ _)) HTB.out)
      clear h3
      go_enter Tryz.func20, Tryz.ntmps20
      go_wp2_with fail
      go_ret
      exact HRES.out
    rw [if_neg (by simpa using h3)] at HLN
    have h3' : ((fs.length : Int) != 3) = false := by simp; omega
    have l1 : (1 : Int) < (fs.length : Int) := by omega
    have l2 : (2 : Int) < (fs.length : Int) := by omega
    have c1 := HC.out 1 (by omega); have c2 := HC.out 2 (by omega)
    have HT2 := HTB
    have HB0 := Lib.hid (Below.refl w.heap.size w)
    have HTM : Hid (∀ ob, TPM (w.drew.alloc ob) lo (.slice A1 t.zones.length cp1) (.slice A2 t.airports.length cp2) (.slice A3 t.flights.length cp3) t) := fun ob => HT2.out.m.next ((below_drewN (Below.refl _ _) 1).alloc (Nat.le_refl _) ob)
    have HP6 : Hid (∀ ob v' w6, TPM w6 lo (.slice A1 t.zones.length cp1) v' (.slice A3 t.flights.length cp3) (t.addA ⟨fld fs 1, fld fs 2⟩) → (w.drew.alloc ob).grownBy w6 (Value.slice A2 t.airports.length cp2).ownBlock → w6.heap[tb]? = some (.cells #[.slice A1 t.zones.length cp1, .slice A2 t.airports.length cp2, .slice A3 t.flights.length cp3] 27 (0, 0)) ∧ TBx (w6.setCell ⟨tb, 1, none⟩ v') tb lo (.slice A1 t.zones.length cp1) v' (.slice A3 t.flights.length cp3) (t.addA ⟨fld fs 1, fld fs 2⟩) ∧ TKeep tb lo w (w6.setCell ⟨tb, 1, none⟩ v')) := fun ob v' w6 hm hg => by
      have hsz : (w.drew.alloc ob).heap.size = w.heap.size + 1 := by simp
      have hle := HT2.out.le
      have hbd : Below w.heap.size w (w.drew.alloc ob) := (below_drewN (Below.refl _ _) 1).alloc (Nat.le_refl _) ob
      have hrow : ∀ k, (Value.slice A2 t.airports.length cp2).ownBlock = some k → lo ≤ k := fun k hk => (HLT.out.2.1 k hk).1
      have hk6 : w6.heap[tb]? = w.heap[tb]? := (hg.block tb (by omega) (fun e => by have := hrow tb e.symm; omega)).trans (Below.heap_alloc _ _ _ (by show tb < w.heap.size; omega))
      exact ⟨hk6.trans HT2.out.box, HT2.out.store1 hk6 hm (by have := hg.size; omega), (((HTK.out w HB0.out).trans (TKeep.of_below ((below_drewN (Below.refl _ _) 1).alloc (Nat.le_refl _) ob) hle)).grown hg hrow (Nat.le_trans hle hbd.size)).setBox _ _⟩
    have HFIN : Hid (∀ V v', TKeep tb lo w V → TBx V tb lo (.slice A1 t.zones.length cp1) v' (.slice A3 t.flights.length cp3) (t.addA ⟨fld fs 1, fld fs 2⟩) → LnPost9 fs t tb lo w (.returned (.bool true)) V) := fun V v' hk hx => line_good9 HLN.out hk hx
    have x1 : w.cell? ⟨tb, 1, none⟩ = some (.slice A2 t.airports.length cp2) := block_cell HTB.out.box 1
    have HC1A : Hid (∀ ob, ((w.drew.alloc ob).cell? ⟨fb, o + 1, none⟩ = some (.string (fld fs 1)))) := fun ob => (World.cell?_alloc_past _ _ _ (show fb < w.heap.size by omega)).trans c1
    have x1a : ∀ ob, (w.alloc ob).cell? ⟨tb, 1, none⟩ = some (.slice A2 t.airports.length cp2) := fun ob => (World.cell?_alloc_past _ _ _ (show tb < w.heap.size by omega)).trans x1
    clear h3 HTB HBX
    generalize fld fs 1 = g1 at *
    generalize fld fs 2 = g2 at *
    go_enter Tryz.func20, Tryz.ntmps20
    go_upto_region 9 with (fail)
    clear c0
    go_region_law (first
      | (refine step_pushA rfl (.tmp 39) (.tmp 47) 24 rfl air_row (by simp [Act.eval, Act.put]) (HTM.out _) w.heap.size ⟨g1, g2⟩ (by simp [Act.eval, Act.put]) (At.new w.drew #[.string g1, .string g2] _) o3 (by simp; omega) ?_; intro g6 cap6 w6 hm6 hgr6; obtain ⟨hb6, hx6, hk6⟩ := HP6.out _ _ _ hm6 hgr6; have y6 := block_cell hb6 1; have f6 := block_free hb6 1; have HX6 := Lib.hid hx6; have HK6 := Lib.hid hk6; clear hb6 hx6 hk6 hm6 hgr6)
      | fail)
    all_goals
      go_wp2_with fail
      go_ret
      exact HFIN.out _ _ HK6.out HX6.out
  rw [decide_eq_false hz] at ea
  rw [if_neg hz] at HLN
  clear hz
  by_cases hz : fld fs 0 = fliS
  · rw [decide_eq_true hz] at ef
    rw [if_pos hz] at HLN
    clear hz HPZ
    go_enter Tryz.func20, Tryz.ntmps20
    go_wp2_with fail
    refine HPF.out.mono ?_
    rintro e w1 ⟨z, rfl, hb1, hgood⟩
    have hs1 := hb1.size
    have HGOOD := Lib.hid hgood
    have hb2 : Below w.heap.size w (w1.alloc (.cells #[.string z.number, .string z.src, .string z.dst, .int .i64 z.dep, .int .i64 z.arr, .string z.kind, .int .i64 z.n0, .int .i64 z.n1, .int .i64 z.n2] 47)) := hb1.alloc hs1 _
    have HB2 := Lib.hid hb2
    have hx2 := heap_alloc_new w1 (.cells #[.string z.number, .string z.src, .string z.dst, .int .i64 z.dep, .int .i64 z.arr, .string z.kind, .int .i64 z.n0, .int .i64 z.n1, .int .i64 z.n2] 47)
    have HX2 := Lib.hid hx2
    clear hb1 hgood hx2 c0 hb2
    go_upto_region 13 with (fail)
    generalize w1.alloc (.cells #[.string z.number, .string z.src, .string z.dst, .int .i64 z.dep, .int .i64 z.arr, .string z.kind, .int .i64 z.n0, .int .i64 z.n1, .int .i64 z.n2] 47) = w2 at *
    have hx2 := HX2.out
    have y0 : w2.cell? ⟨w1.heap.size, 0, none⟩ = some (.string z.number) := block_cell hx2 0
    have y1 : w2.cell? ⟨w1.heap.size, 1, none⟩ = some (.string z.src) := block_cell hx2 1
    have y2 : w2.cell? ⟨w1.heap.size, 2, none⟩ = some (.string z.dst) := block_cell hx2 2
    have y3 : w2.cell? ⟨w1.heap.size, 3, none⟩ = some (.int .i64 z.dep) := block_cell hx2 3
    have y4 : w2.cell? ⟨w1.heap.size, 4, none⟩ = some (.int .i64 z.arr) := block_cell hx2 4
    have y5 : w2.cell? ⟨w1.heap.size, 5, none⟩ = some (.string z.kind) := block_cell hx2 5
    have y6 : w2.cell? ⟨w1.heap.size, 6, none⟩ = some (.int .i64 z.n0) := block_cell hx2 6
    have y7 : w2.cell? ⟨w1.heap.size, 7, none⟩ = some (.int .i64 z.n1) := block_cell hx2 7
    have y8 : w2.cell? ⟨w1.heap.size, 8, none⟩ = some (.int .i64 z.n2) := block_cell hx2 8
    have HT2 : Hid (TBx w2 tb lo (.slice A1 t.zones.length cp1) (.slice A2 t.airports.length cp2) (.slice A3 t.flights.length cp3) t) := HTB.out.next HB2.out
    have x0 : w2.cell? ⟨tb, 2, none⟩ = some (.slice A3 t.flights.length cp3) := block_cell HT2.out.box 2
    have HTM : Hid (∀ ob, TPM (w2.drew.alloc ob) lo (.slice A1 t.zones.length cp1) (.slice A2 t.airports.length cp2) (.slice A3 t.flights.length cp3) t) := fun ob => HT2.out.m.next ((below_drewN (Below.refl _ _) 1).alloc (Nat.le_refl _) ob)
    have HP6 : Hid (∀ ob v' w6, TPM w6 lo (.slice A1 t.zones.length cp1) (.slice A2 t.airports.length cp2) v' (t.addF z) → (w2.drew.alloc ob).grownBy w6 (Value.slice A3 t.flights.length cp3).ownBlock → w6.heap[tb]? = some (.cells #[.slice A1 t.zones.length cp1, .slice A2 t.airports.length cp2, .slice A3 t.flights.length cp3] 27 (0, 0)) ∧ TBx (w6.setCell ⟨tb, 2, none⟩ v') tb lo (.slice A1 t.zones.length cp1) (.slice A2 t.airports.length cp2) v' (t.addF z) ∧ TKeep tb lo w (w6.setCell ⟨tb, 2, none⟩ v')) := fun ob v' w6 hm hg => by
      have hsz : (w2.drew.alloc ob).heap.size = w2.heap.size + 1 := by simp
      have hle := HT2.out.le
      have hbd : Below w2.heap.size w2 (w2.drew.alloc ob) := (below_drewN (Below.refl _ _) 1).alloc (Nat.le_refl _) ob
      have hrow : ∀ k, (Value.slice A3 t.flights.length cp3).ownBlock = some k → lo ≤ k := fun k hk => (HLT.out.2.2 k hk).1
      have hk6 : w6.heap[tb]? = w2.heap[tb]? := (hg.block tb (by omega) (fun e => by have := hrow tb e.symm; omega)).trans (Below.heap_alloc _ _ _ (by show tb < w2.heap.size; omega))
      exact ⟨hk6.trans HT2.out.box, HT2.out.store2 hk6 hm (by have := hg.size; omega), (((HTK.out w2 HB2.out).trans (TKeep.of_below ((below_drewN (Below.refl _ _) 1).alloc (Nat.le_refl _) ob) hle)).grown hg hrow (Nat.le_trans hle hbd.size)).setBox _ _⟩
    have HFIN : Hid (∀ V v', TKeep tb lo w V → TBx V tb lo (.slice A1 t.zones.length cp1) (.slice A2 t.airports.length cp2) v' (t.addF z) → LnPost9 fs t tb lo w (.returned (.bool (!flightBad fs))) V) := fun V v' hk hx => by
      cases hzb : flightBad fs with
      | true =>
        rw [hzb] at HLN
        exact line_bad9 (by have := HLN.out; rwa [if_pos rfl] at this) hk hx
      | false =>
        rw [hzb] at HLN
        obtain rfl := HGOOD.out hzb
        exact line_good9 (by have := HLN.out; rwa [if_neg (by simp)] at this) hk hx
    have hle2 : lo ≤ w2.heap.size := HT2.out.le
    have x0a : ∀ ob, (w2.alloc ob).cell? ⟨tb, 2, none⟩ = some (.slice A3 t.flights.length cp3) := fun ob => (World.cell?_alloc_past _ _ _ (show tb < w2.heap.size by omega)).trans x0
    clear HPF HTB HBX hx2 HX2
    generalize flightBad fs = zb at *
    go_region_law (first
      | (refine step_pushF rfl (.tmp 62) (.tmp 64) 25 rfl fli_row (by simp [Act.eval, Act.put]) (HTM.out _) w2.heap.size z (by simp [Act.eval, Act.put]) (At.new w2.drew (flightCells z).toArray _) o4 (by simp; omega) ?_; intro g6 cap6 w6 hm6 hgr6; obtain ⟨hb6, hx6, hk6⟩ := HP6.out _ _ _ hm6 hgr6; have yy6 := block_cell hb6 2; have f6 := block_free hb6 2; have HX6 := Lib.hid hx6; have HK6 := Lib.hid hk6; clear hb6 hx6 hk6 hm6 hgr6)
      | fail)
    all_goals
      go_wp2_with fail
      go_ret
      exact HFIN.out _ _ HK6.out HX6.out
  rw [decide_eq_false hz] at ef
  rw [if_neg hz] at HLN
  have HRES := Lib.hid (line_bad9 (w' := w) HLN.out (HTK.out w (Below.refl _ _)) HTB.out)
  clear hz HPZ HPF
  go_enter Tryz.func20, Tryz.ntmps20
  go_wp2_with fail
  go_ret
  exact HRES.out
end Go.Proofs.YtldeoaddogifpaaGreatDoor
/-
  Contracts of the reference's leap, DaysInMonth, IsDate, DayNumber, ParseDate, ParseClock, ParseInstant (package pairingref5).
  Condition: numbers are small, the string's length fits an int.
-/
namespace Go.Proofs.YtldeoaddogifpaaGreatDoor
set_option linter.unusedSimpArgs false
set_option linter.unusedVariables false
open Go.RowKit

theorem leapR_any (y : Int) (w : World) (h0 : 0 ≤ y) (h1 : y ≤ 100000) : Calls Tryz.prog 140 #[.int .i64 y] w fun e w' => e = .returned (.bool (leapB y)) ∧ w = w' := by
  have HL : Hid (leapB y = (decide (y % 4 = 0) && (decide (y % 100 ≠ 0) || decide (y % 400 = 0)))) := rfl
  by_cases a : y % 4 = 0
  · have a' : (y % 4 == 0) = true := by simpa using a
    by_cases b : y % 100 = 0
    · have b' : (y % 100 != 0) = false := by simpa using b
      by_cases c : y % 400 = 0
      · have c' : (y % 400 == 0) = true := by simpa using c
        have HR : Hid (leapB y = true) := by show _ = _; rw [HL.out]; simp [a, b, c]
        clear a b c
        go_enter Tryz.func140, Tryz.ntmps140
        go_wp2_with fail
        go_ret
        exact ⟨ret_bool HR.out.symm, rfl⟩
      · have c' : (y % 400 == 0) = false := by simpa using c
        have HR : Hid (leapB y = false) := by show _ = _; rw [HL.out]; simp [a, b, c]
        clear a b c
        go_enter Tryz.func140, Tryz.ntmps140
        go_wp2_with fail
        go_ret
        exact ⟨ret_bool HR.out.symm, rfl⟩
    · have b' : (y % 100 != 0) = true := by simpa using b
      have HR : Hid (leapB y = true) := by show _ = _; rw [HL.out]; simp [a, b]
      clear a b
      go_enter Tryz.func140, Tryz.ntmps140
      go_wp2_with fail
      go_ret
      exact ⟨ret_bool HR.out.symm, rfl⟩
  · have a' : (y % 4 == 0) = false := by simpa using a
    have c : ¬ y % 400 = 0 := by omega
    have c' : (y % 400 == 0) = false := by simpa using c
    have HR : Hid (leapB y = false) := by show _ = _; rw [HL.out]; simp [a]
    clear a c
    go_enter Tryz.func140, Tryz.ntmps140
    go_wp2_with fail
    go_ret
    exact ⟨ret_bool HR.out.symm, rfl⟩
def dimB (y m : Int) : Int × Int := if y < 1999 ∨ 2100 < y ∨ m < 1 ∨ 12 < m then (0, 5) else (mDays y m, 0)
set_option maxRecDepth 100000 in
set_option maxHeartbeats 800000 in
theorem daysInMonthR_any (y m : Int) (w : World) : Calls Tryz.prog 141 #[.int .i64 y, .int .i64 m] w fun e w' => e = .returned (.tuple #[.int .i64 (dimB y m).1, .int .i64 (dimB y m).2]) ∧ w = w' := by
  by_cases hb : y < 1999 ∨ 2100 < y ∨ m < 1 ∨ 12 < m
  · have HR : Hid (dimB y m = (0, 5)) := by show _ = _; unfold dimB; rw [if_pos hb]
    have hc : y < 1999 ∨ (¬ y < 1999 ∧ 2100 < y) ∨ (¬ y < 1999 ∧ ¬ 2100 < y ∧ m < 1) ∨ (¬ y < 1999 ∧ ¬ 2100 < y ∧ ¬ m < 1 ∧ 12 < m) := by omega
    clear hb
    rcases hc with h | ⟨h, h1⟩ | ⟨h, h1, h2⟩ | ⟨h, h1, h2, h3⟩
    all_goals
      go_enter Tryz.func141, Tryz.ntmps141
      go_wp2_with fail
      go_ret2
      exact ⟨by rw [HR.out]; rfl, rfl⟩
  have HR : Hid (dimB y m = (mDays y m, 0)) := by show _ = _; unfold dimB; rw [if_neg hb]
  have h1 : ¬ y < 1999 := by omega
  have h2 : ¬ 2100 < y := by omega
  have HC := Lib.hid (leapR_any y w (by omega) (by omega))
  have hm : m = 1 ∨ m = 2 ∨ m = 3 ∨ m = 4 ∨ m = 5 ∨ m = 6 ∨ m = 7 ∨ m = 8 ∨ m = 9 ∨ m = 10 ∨ m = 11 ∨ m = 12 := by omega
  have HM : Hid (mDays y m = if m = 2 ∧ leapB y = true then 29 else mTab.getD (m - 1).toNat 0) := rfl
  clear hb
  rcases hm with rfl | rfl | rfl | rfl | rfl | rfl | rfl | rfl | rfl | rfl | rfl | rfl
  case inr.inl =>
    go_enter Tryz.func141, Tryz.ntmps141
    go_wp2_with fail
    refine HC.out.mono ?_
    rintro e w' ⟨rfl, rfl⟩
    cases hl : leapB y
    · have HR2 : Hid (mDays y 2 = 28) := by show _ = _; rw [HM.out, hl]; rfl
      rw [HR2.out] at HR
      go_wp2_with fail
      go_ret2
      exact ⟨by rw [HR.out]; rfl, rfl⟩
    · have HR2 : Hid (mDays y 2 = 29) := by show _ = _; rw [HM.out, hl]; rfl
      rw [HR2.out] at HR
      go_wp2_with fail
      go_ret2
      exact ⟨by rw [HR.out]; rfl, rfl⟩
  all_goals
    rw [HM.out, if_neg (fun h => absurd h.1 (by decide))] at HR
    go_enter Tryz.func141, Tryz.ntmps141
    go_wp2_with fail
    go_ret2
    exact ⟨by rw [HR.out]; rfl, rfl⟩
theorem dimB_err (y m : Int) : (dimB y m).2 = 0 ∨ (dimB y m).2 = 5 := by
  unfold dimB; split
  · exact .inr rfl
  · exact .inl rfl
set_option maxRecDepth 100000 in
theorem isDateR_any (y m d : Int) (w : World) : Calls Tryz.prog 139 #[.agg #[.int .i64 y, .int .i64 m, .int .i64 d]] w (BoolPostC (validB y m d) w) := by
  have hb0 := (Below.refl w.heap.size w).alloc (Nat.le_refl _) (.cells #[.int .i64 y, .int .i64 m, .int .i64 d] 133)
  have hr0 := heap_alloc_new w (.cells #[.int .i64 y, .int .i64 m, .int .i64 d] 133)
  have HB := Lib.hid hb0
  have HC := Lib.hid (daysInMonthR_any y m (w.alloc (.cells #[.int .i64 y, .int .i64 m, .int .i64 d] 133)))
  have x0 := block_cell hr0 0; have x1 := block_cell hr0 1; have x2 := block_cell hr0 2
  have HV : Hid (validB y m d = true ↔ (1999 ≤ y ∧ y ≤ 2100) ∧ (1 ≤ m ∧ m ≤ 12) ∧ 1 ≤ d ∧ d ≤ mDays y m) := validB_iff
  have HDM : Hid (dimB y m = if y < 1999 ∨ 2100 < y ∨ m < 1 ∨ 12 < m then (0, 5) else (mDays y m, 0)) := rfl
  clear hb0 hr0
  go_enter Tryz.func139, Tryz.ntmps139
  go_wp2_with fail
  refine HC.out.mono ?_
  rintro e w' ⟨rfl, rfl⟩
  generalize w.alloc (.cells #[.int .i64 y, .int .i64 m, .int .i64 d] 133) = W at *
  clear HC
  by_cases hb : y < 1999 ∨ 2100 < y ∨ m < 1 ∨ 12 < m
  · rw [HDM.out, if_pos hb]
    have HR : Hid (validB y m d = false) := by
      show _ = _
      cases hv : validB y m d
      · rfl
      · have := HV.out.1 hv; omega
    clear hb
    go_wp2_with fail
    go_ret
    exact ⟨ret_bool HR.out.symm, HB.out⟩
  rw [HDM.out, if_neg hb]
  generalize mDays y m = md at *
  by_cases h1 : 1 ≤ d
  · by_cases h2 : d ≤ md
    · have HR : Hid (validB y m d = true) := HV.out.2 (by omega)
      clear hb
      go_wp2_with fail
      go_ret
      exact ⟨ret_bool HR.out.symm, HB.out⟩
    · have HR : Hid (validB y m d = false) := by
        show _ = _
        cases hv : validB y m d
        · rfl
        · have := HV.out.1 hv; omega
      clear hb
      go_wp2_with fail
      go_ret
      exact ⟨ret_bool ((decide_eq_false (Int.not_le.2 h2)).trans HR.out.symm), HB.out⟩
  · have HR : Hid (validB y m d = false) := by
      show _ = _
      cases hv : validB y m d
      · rfl
      · have := HV.out.1 hv; omega
    clear hb
    go_wp2_with fail
    go_ret
    exact ⟨ret_bool HR.out.symm, HB.out⟩
theorem yDays_leap (y : Int) : yDays y = if leapB y = true then 366 else 365 := rfl
set_option maxRecDepth 100000 in
set_option maxHeartbeats 800000 in
theorem dayNumberR_any (y m d : Int) (w : World) (hd : -1000000 ≤ d ∧ d ≤ 1000000) : Calls Tryz.prog 103 #[.agg #[.int .i64 y, .int .i64 m, .int .i64 d]] w (NumPost (dayN y m d) w) := by
  have hb0 := (Below.refl w.heap.size w).alloc (Nat.le_refl _) (.cells #[.int .i64 y, .int .i64 m, .int .i64 d] 133)
  have hr0 := heap_alloc_new w (.cells #[.int .i64 y, .int .i64 m, .int .i64 d] 133)
  have hz0 : (w.alloc (.cells #[.int .i64 y, .int .i64 m, .int .i64 d] 133)).heap.size = w.heap.size + 1 := by simp
  have HB0 := Lib.hid hb0; have HR0 := Lib.hid hr0; have HZ0 := Lib.hid hz0
  have HD : Hid (dayN y m d = if validB y m d = true then (dayB y m d, 0) else (0, 5)) := rfl
  clear hb0 hr0 hz0
  go_enter Tryz.func103, Tryz.ntmps103
  go_wp2_with fail
  generalize w.alloc (.cells #[.int .i64 y, .int .i64 m, .int .i64 d] 133) = W at *
  refine (isDateR_any y m d W).mono ?_
  rintro e w1 ⟨rfl, hb1⟩
  have hbw1 : Below w.heap.size w w1 := HB0.out.trans (hb1.mono HB0.out.size)
  have hr1 := (hb1.block w.heap.size (by have := HZ0.out; omega)).trans HR0.out
  clear hb1
  cases hv : validB y m d
  · have HR : Hid (dayN y m d = (0, 5)) := by show _ = _; rw [HD.out, hv]; rfl
    clear hr1
    go_wp2_with fail
    go_ret2
    exact ⟨by rw [HR.out]; rfl, hbw1⟩
  obtain ⟨⟨y1, y2⟩, ⟨m1, m2⟩, d1, d2⟩ := validB_iff.1 hv
  have HR : Hid (dayN y m d = (-365 + yearSum (y - 1999).toNat + monSum y (m - 1).toNat + d - 1, 0)) := by show _ = _; rw [HD.out, hv]; rfl
  obtain ⟨Y, hY⟩ := Int.eq_ofNat_of_zero_le (show 0 ≤ y - 1999 by omega)
  obtain ⟨M, hM⟩ := Int.eq_ofNat_of_zero_le (show 0 ≤ m - 1 by omega)
  rw [hY, hM, Int.toNat_natCast, Int.toNat_natCast] at HR
  obtain rfl : y = 1999 + Y := by omega
  obtain rfl : m = 1 + M := by omega
  have hYl : Y ≤ 101 := by omega
  have hMl : M ≤ 11 := by omega
  have x0 := block_cell hr1 0; have x1 := block_cell hr1 1; have x2 := block_cell hr1 2
  have HY0 : Hid ((-365 : Int) = -365 + yearSum 0) := rfl
  clear hr1 hY hM hv HD
  go_wp2_with fail
  go_loop [4, 5] (fun nv yv => ∃ k : Nat, k ≤ Y ∧ yv = .int .i64 (1999 + k) ∧ nv = .int .i64 (-365 + yearSum k)) (fun _ yv => Y - (intOf yv - 1999).toNat)
  case atStart => exact ⟨0, Nat.zero_le _, rfl, by rw [← HY0.out]⟩
  case round =>
    obtain ⟨k, hk, rfl, rfl⟩ := hrel
    have hyb := yearSum_bd k
    by_cases hlt : k < Y
    · have HS := Lib.hid (yearSum_succ k)
      have HYL := Lib.hid (yDays_leap (1999 + k))
      have HC := Lib.hid (leapR_any (1999 + k) w1 (by omega) (by omega))
      have hlt' : (1999 : Int) + k < 1999 + Y := by omega
      generalize yearSum k = ys at *
      generalize yDays (1999 + k) = yd at *
      go_wp2_with fail
      refine HC.out.mono ?_
      rintro e w' ⟨rfl, rfl⟩
      cases hl : leapB (1999 + k)
      · rw [hl] at HYL
        have e9 : yd = 365 := HYL.out
        go_wp2_with fail
        go_round
        case rel => exact ⟨k + 1, by omega, by go_num, by rw [HS.out]; congr 1; omega⟩
        case measure => simp [intOf]; omega
      · rw [hl] at HYL
        have e9 : yd = 366 := HYL.out
        go_wp2_with fail
        go_round
        case rel => exact ⟨k + 1, by omega, by go_num, by rw [HS.out]; congr 1; omega⟩
        case measure => simp [intOf]; omega
    · have hkY : k = Y := by omega
      subst hkY
      have hnl : ¬ (1999 : Int) + k < 1999 + k := by omega
      have HM0 : Hid ((-365 : Int) + yearSum k = -365 + yearSum k + monSum (1999 + k) 0) := by show _ = _; rw [show monSum (1999 + k) 0 = 0 from rfl]; omega
      go_wp2_with fail
      go_loop [4, 6, 7, 8] (fun nv mv _ _ => ∃ q : Nat, q ≤ M ∧ mv = .int .i64 (1 + q) ∧ nv = .int .i64 (-365 + yearSum k + monSum (1999 + k) q)) (fun _ mv _ _ => M - (intOf mv - 1).toNat)
      case atStart => exact ⟨0, Nat.zero_le _, rfl, by rw [← HM0.out]⟩
      case round =>
        obtain ⟨q, hq, rfl, rfl⟩ := hrel
        have hmb := monSum_bd (1999 + k) q
        by_cases hltq : q < M
        · have HS := Lib.hid (monSum_succ (1999 + k) q)
          have hyd := mDays_bd (1999 + k) (1 + q)
          have HC := Lib.hid (daysInMonthR_any (1999 + k) (1 + q) w1)
          have HDE : Hid (dimB (1999 + k) (1 + q) = (mDays (1999 + k) (1 + q), 0)) := by show _ = _; unfold dimB; rw [if_neg (by omega)]
          rw [HDE.out] at HC
          have hlt' : (1 : Int) + q < 1 + M := by omega
          generalize monSum (1999 + k) q = ms at *
          generalize mDays (1999 + k) (1 + q) = md at *
          generalize yearSum k = ys at *
          go_wp2_with fail
          refine HC.out.mono ?_
          rintro e w' ⟨rfl, rfl⟩
          go_wp2_with fail
          go_round
          case rel => exact ⟨q + 1, by omega, by go_num, by rw [HS.out]; congr 1; omega⟩
          case measure => simp [intOf]; omega
        · have hqM : q = M := by omega
          subst hqM
          have hnl2 : ¬ (1 : Int) + q < 1 + q := by omega
          generalize hms : monSum (1999 + k) q = ms at *
          generalize hys : yearSum k = ys at *
          clear hms hys
          go_wp2_with fail
          go_ret2
          exact ⟨by rw [HR.out]; rfl, hbw1⟩
theorem digits_sub {s : ByteArray} {a b n : Nat} (h : b ≤ s.size) (hn : b - a = n) : digitsB (s.extract a b) n n = if digOn s a n = true then (subN s a b, true) else (0, false) := by
  unfold digitsB
  rw [dig_sub h, hn]
  have hz : (s.extract a b).size = n := by rw [size_sub h, hn]
  rw [if_neg (by rw [hz]; omega)]
  cases digOn s a n <;> rfl
end Go.Proofs.YtldeoaddogifpaaGreatDoor
/-
  Contracts of the reference's ParseDate, ParseClock, ParseInstant (package pairingref5).
  Condition: the string's length fits an int.
-/
namespace Go.Proofs.YtldeoaddogifpaaGreatDoor
set_option linter.unusedSimpArgs false
set_option linter.unusedVariables false
open Go.RowKit

theorem dateB_size {s : ByteArray} (h : ¬ s.size = 10) : dateB s = ((0, 0, 0), 1) := by
  unfold dateB; rw [matchD_iff, decide_eq_false h]; rfl
theorem dateB_b4 {s : ByteArray} (h : ¬ byteAt s 4 = 45) : dateB s = ((0, 0, 0), 1) := by
  unfold dateB; rw [matchD_iff, decide_eq_false h]; simp
theorem dateB_b7 {s : ByteArray} (h : ¬ byteAt s 7 = 45) : dateB s = ((0, 0, 0), 1) := by
  unfold dateB; rw [matchD_iff, decide_eq_false h]; simp
theorem dateB_dig {s : ByteArray} (h : ¬ (digOn s 0 4 = true ∧ digOn s 5 2 = true ∧ digOn s 8 2 = true)) : dateB s = ((0, 0, 0), 1) := by
  unfold dateB; rw [matchD_iff]
  rw [if_pos]
  generalize digOn s 0 4 = a at *
  generalize digOn s 5 2 = b at *
  generalize digOn s 8 2 = c at *
  cases a <;> cases b <;> cases c <;> simp at h ⊢
theorem dateB_ok {s : ByteArray} (h0 : s.size = 10) (h4 : byteAt s 4 = 45) (h7 : byteAt s 7 = 45) (hd : digOn s 0 4 = true ∧ digOn s 5 2 = true ∧ digOn s 8 2 = true) :
    dateB s = if validB (subN s 0 4) (subN s 5 7) (subN s 8 s.size) = false then ((0, 0, 0), 5) else ((subN s 0 4, subN s 5 7, subN s 8 s.size), 0) := by
  have hm : matchB s patD = true := by
    rw [matchD_iff, hd.1, hd.2.1, hd.2.2, decide_eq_true h0, decide_eq_true h4, decide_eq_true h7]; rfl
  unfold dateB; rw [if_neg (by rw [hm]; decide)]
set_option maxRecDepth 100000 in
set_option maxHeartbeats 1600000 in
theorem parseDateR_any (s : ByteArray) (w : World) (hs : s.size ≤ maxLen) : Calls Tryz.prog 101 #[.string s] w (DatePost (dateB s) w) := by
  have hb0 := (Below.refl w.heap.size w).alloc (Nat.le_refl _) (.cells #[.int .i64 0, .int .i64 0, .int .i64 0] 133)
  have hr0 := heap_alloc_new w (.cells #[.int .i64 0, .int .i64 0, .int .i64 0] 133)
  have hz0 : (w.alloc (.cells #[.int .i64 0, .int .i64 0, .int .i64 0] 133)).heap.size = w.heap.size + 1 := by simp
  unfold maxLen at hs
  have z0 := block_cell hr0 0; have z1 := block_cell hr0 1; have z2 := block_cell hr0 2
  have f0 := block_free hr0 0; have f1 := block_free hr0 1; have f2 := block_free hr0 2
  have HB0 := Lib.hid hb0; have HR0 := Lib.hid hr0; have HZ0 := Lib.hid hz0
  clear hb0 hr0 hz0
  by_cases hsz : s.size = 10
  case neg =>
    have hz' : ((s.size : Int) != 10) = true := by simp; omega
    have HR := Lib.hid (dateB_size hsz)
    clear hsz
    go_enter Tryz.func101, Tryz.ntmps101
    go_wp2_with fail
    generalize w.alloc (.cells #[.int .i64 0, .int .i64 0, .int .i64 0] 133) = W at *
    refine bodyPost_ret (v := .tuple #[.agg #[.int .i64 0, .int .i64 0, .int .i64 0], .int .i64 1]) (by simp [results, Tryz.results101, go_sem, z0, z1, z2]) rfl ?_
    first | exact ⟨by rw [HR.out], HB0.out⟩ | exact ⟨by rw [HR.out], ((HB0.out.setCell (Nat.le_refl _) _).setCell (Nat.le_refl _) _).setCell (Nat.le_refl _) _⟩
  have hz' : ((s.size : Int) != 10) = false := by simp; omega
  have l4 : 4 < s.size := by omega
  have l7 : 7 < s.size := by omega
  have l4' : (4 : Int) < (s.size : Int) := by omega
  have l7' : (7 : Int) < (s.size : Int) := by omega
  have HB4 := Lib.hid (byteAt_eq s 4 l4)
  have HB7 := Lib.hid (byteAt_eq s 7 l7)
  have HSZ := Lib.hid hsz
  clear hsz
  by_cases h4 : byteAt s 4 = 45
  case neg =>
    have h4' : ((s[4].toNat : Int) != 45) = true := by rw [HB4.out]; simpa using h4
    have HR := Lib.hid (dateB_b4 h4)
    clear h4
    go_enter Tryz.func101, Tryz.ntmps101
    go_wp2_with fail
    generalize w.alloc (.cells #[.int .i64 0, .int .i64 0, .int .i64 0] 133) = W at *
    refine bodyPost_ret (v := .tuple #[.agg #[.int .i64 0, .int .i64 0, .int .i64 0], .int .i64 1]) (by simp [results, Tryz.results101, go_sem, z0, z1, z2]) rfl ?_
    first | exact ⟨by rw [HR.out], HB0.out⟩ | exact ⟨by rw [HR.out], ((HB0.out.setCell (Nat.le_refl _) _).setCell (Nat.le_refl _) _).setCell (Nat.le_refl _) _⟩
  have h4' : ((s[4].toNat : Int) != 45) = false := by rw [HB4.out]; simpa using h4
  by_cases h7 : byteAt s 7 = 45
  case neg =>
    have h7' : ((s[7].toNat : Int) != 45) = true := by rw [HB7.out]; simpa using h7
    have HR := Lib.hid (dateB_b7 h7)
    clear h4 h7
    go_enter Tryz.func101, Tryz.ntmps101
    go_wp2_with fail
    generalize w.alloc (.cells #[.int .i64 0, .int .i64 0, .int .i64 0] 133) = W at *
    refine bodyPost_ret (v := .tuple #[.agg #[.int .i64 0, .int .i64 0, .int .i64 0], .int .i64 1]) (by simp [results, Tryz.results101, go_sem, z0, z1, z2]) rfl ?_
    first | exact ⟨by rw [HR.out], HB0.out⟩ | exact ⟨by rw [HR.out], ((HB0.out.setCell (Nat.le_refl _) _).setCell (Nat.le_refl _) _).setCell (Nat.le_refl _) _⟩
  have h7' : ((s[7].toNat : Int) != 45) = false := by rw [HB7.out]; simpa using h7
  have HC1 : Hid (∀ V : World, Calls Tryz.prog 99 #[.string (s.extract 0 4), .int .i64 4, .int .i64 4] V (DigitsPost (s.extract 0 4) 4 4 V)) := fun V => digits_any _ 4 4 V (by decide)
  have HC2 : Hid (∀ V : World, Calls Tryz.prog 99 #[.string (s.extract 5 7), .int .i64 2, .int .i64 2] V (DigitsPost (s.extract 5 7) 2 2 V)) := fun V => digits_any _ 2 2 V (by decide)
  have HC3 : Hid (∀ V : World, Calls Tryz.prog 99 #[.string (s.extract 8 s.size), .int .i64 2, .int .i64 2] V (DigitsPost (s.extract 8 s.size) 2 2 V)) := fun V => digits_any _ 2 2 V (by decide)
  unfold DigitsPost at HC1 HC2 HC3
  have E1 := digits_sub (s := s) (a := 0) (b := 4) (n := 4) (by omega) (by omega)
  have E2 := digits_sub (s := s) (a := 5) (b := 7) (n := 2) (by omega) (by omega)
  have E3 := digits_sub (s := s) (a := 8) (b := s.size) (n := 2) (Nat.le_refl _) (by have := HSZ.out; omega)
  rw [show digitsB (s.extract 0 4) 4 4 = digitsB (s.extract 0 4) ((4 : Nat) : Int) ((4 : Nat) : Int) from rfl, E1] at HC1
  rw [show digitsB (s.extract 5 7) 2 2 = digitsB (s.extract 5 7) ((2 : Nat) : Int) ((2 : Nat) : Int) from rfl, E2] at HC2
  rw [show digitsB (s.extract 8 s.size) 2 2 = digitsB (s.extract 8 s.size) ((2 : Nat) : Int) ((2 : Nat) : Int) from rfl, E3] at HC3
  clear E1 E2 E3
  have HOK := Lib.hid (dateB_ok HSZ.out h4 h7)
  have HNO := Lib.hid (dateB_dig (s := s))
  have tz5 : (5 : Int) ≤ (s.size : Int) := by omega
  have tz8 : (8 : Int) ≤ (s.size : Int) := by omega
  have tz4 : (4 : Int) ≤ (s.size : Int) := by omega
  have tz7 : (7 : Int) ≤ (s.size : Int) := by omega
  clear h4 h7 HB4 HB7 HSZ
  generalize digOn s 0 4 = a at *
  generalize digOn s 5 2 = b at *
  generalize digOn s 8 2 = c at *
  by_cases habc : a = true ∧ b = true ∧ c = true
  case neg =>
    have HR := Lib.hid (HNO.out habc)
    clear HNO HOK
    cases a <;> cases b <;> cases c <;> first
      | exact absurd ⟨rfl, rfl, rfl⟩ habc
      | (clear habc
         simp only [if_true, Bool.false_eq_true, if_false] at HC1 HC2 HC3
         go_enter Tryz.func101, Tryz.ntmps101
         go_wp2_with fail
         generalize w.alloc (.cells #[.int .i64 0, .int .i64 0, .int .i64 0] 133) = W at *
         refine (HC1.out _).mono ?_
         rintro e w' ⟨rfl, rfl⟩
         go_wp2_with fail
         refine (HC2.out _).mono ?_
         rintro e w' ⟨rfl, rfl⟩
         go_wp2_with fail
         refine (HC3.out _).mono ?_
         rintro e w' ⟨rfl, rfl⟩
         go_wp2_with fail
         refine bodyPost_ret (v := .tuple #[.agg #[.int .i64 0, .int .i64 0, .int .i64 0], .int .i64 1]) (by simp [results, Tryz.results101, go_sem, z0, z1, z2]) rfl ?_
         first | exact ⟨by rw [HR.out], HB0.out⟩ | exact ⟨by rw [HR.out], ((HB0.out.setCell (Nat.le_refl _) _).setCell (Nat.le_refl _) _).setCell (Nat.le_refl _) _⟩)
  have HR := Lib.hid (HOK.out habc)
  obtain ⟨rfl, rfl, rfl⟩ := habc
  simp only [if_true] at HC1 HC2 HC3
  clear HNO HOK
  generalize subN s 0 4 = y at *
  generalize subN s 5 7 = m at *
  generalize subN s 8 s.size = d at *
  go_enter Tryz.func101, Tryz.ntmps101
  go_wp2_with fail
  generalize w.alloc (.cells #[.int .i64 0, .int .i64 0, .int .i64 0] 133) = W at *
  refine (HC1.out _).mono ?_
  rintro e w' ⟨rfl, rfl⟩
  go_wp2_with fail
  refine (HC2.out _).mono ?_
  rintro e w' ⟨rfl, rfl⟩
  go_wp2_with fail
  refine (HC3.out _).mono ?_
  rintro e w' ⟨rfl, rfl⟩
  have hbA := HB0.out.alloc HB0.out.size (.cells #[.int .i64 y, .int .i64 m, .int .i64 d] 133)
  have hbB := (Below.refl W.heap.size W).alloc (Nat.le_refl _) (.cells #[.int .i64 y, .int .i64 m, .int .i64 d] 133)
  have hrA := heap_alloc_new W (.cells #[.int .i64 y, .int .i64 m, .int .i64 d] 133)
  have hzA : (W.alloc (.cells #[.int .i64 y, .int .i64 m, .int .i64 d] 133)).heap.size = W.heap.size + 1 := by simp
  have x0 := block_cell hrA 0; have x1 := block_cell hrA 1; have x2 := block_cell hrA 2
  have HBA := Lib.hid hbA; have HRA := Lib.hid hrA; have HZA := Lib.hid hzA; have HBB := Lib.hid hbB
  clear hbA hrA hzA hbB HC1 HC2 HC3 z0 z1 z2 f0 f1 f2
  go_wp2_with fail
  generalize W.alloc (.cells #[.int .i64 y, .int .i64 m, .int .i64 d] 133) = V at *
  refine (isDateR_any y m d V).mono ?_
  rintro e w2 ⟨rfl, hb2⟩
  have hbw2 : Below w.heap.size w w2 := HBA.out.trans (hb2.mono HBA.out.size)
  have hr2 := (hb2.block w.heap.size (by have := HZA.out; have := HZ0.out; omega)).trans ((HBB.out.block w.heap.size (by have := HZ0.out; omega)).trans HR0.out)
  have hp2 := (hb2.block W.heap.size (by have := HZA.out; omega)).trans HRA.out
  have z0 := block_cell hr2 0; have z1 := block_cell hr2 1; have z2 := block_cell hr2 2
  have f0 := block_free hr2 0; have f1 := block_free hr2 1; have f2 := block_free hr2 2
  have y0 := block_cell hp2 0; have y1 := block_cell hp2 1; have y2 := block_cell hp2 2
  have hpw : W.heap.size ≠ w.heap.size := by have := HZ0.out; omega
  clear hr2 hp2 hb2 x0 x1 x2
  cases hv : validB y m d
  · have HR : Hid (dateB s = ((0, 0, 0), 5)) := by show _ = _; rw [HR.out, if_pos hv]
    go_wp2_with fail
    refine bodyPost_ret (v := .tuple #[.agg #[.int .i64 0, .int .i64 0, .int .i64 0], .int .i64 5]) (by simp [results, Tryz.results101, go_sem, z0, z1, z2]) rfl ?_
    exact ⟨by rw [HR.out], ((hbw2.setCell (Nat.le_refl _) _).setCell (Nat.le_refl _) _).setCell (Nat.le_refl _) _⟩
  · have HR : Hid (dateB s = ((y, m, d), 0)) := by show _ = _; rw [HR.out, if_neg (by rw [hv]; decide)]
    go_wp2_with fail
    refine bodyPost_ret (v := .tuple #[.agg #[.int .i64 y, .int .i64 m, .int .i64 d], .int .i64 0]) (by simp [results, Tryz.results101, go_sem, z0, z1, z2]) rfl ?_
    exact ⟨by rw [HR.out], ((hbw2.setCell (Nat.le_refl _) _).setCell (Nat.le_refl _) _).setCell (Nat.le_refl _) _⟩
theorem clockB_size {s : ByteArray} (h : ¬ s.size = 5) : clockB s = (0, 1) := by
  unfold clockB; rw [matchC_iff, decide_eq_false h]; rfl
theorem clockB_b2 {s : ByteArray} (h : ¬ byteAt s 2 = 58) : clockB s = (0, 1) := by
  unfold clockB; rw [matchC_iff, decide_eq_false h]; simp
theorem clockB_dig {s : ByteArray} (h : ¬ (digOn s 0 2 = true ∧ digOn s 3 2 = true)) : clockB s = (0, 1) := by
  unfold clockB; rw [matchC_iff]
  rw [if_pos]
  generalize digOn s 0 2 = a at *
  generalize digOn s 3 2 = b at *
  cases a <;> cases b <;> simp at h ⊢
theorem clockB_ok {s : ByteArray} (h0 : s.size = 5) (h2 : byteAt s 2 = 58) (hd : digOn s 0 2 = true ∧ digOn s 3 2 = true) :
    clockB s = (if 23 < subN s 0 2 ∨ 59 < subN s 3 s.size then (0, 5) else (subN s 0 2 * 60 + subN s 3 s.size, 0)) ∧ (0 ≤ subN s 0 2 ∧ subN s 0 2 ≤ 99) ∧ (0 ≤ subN s 3 s.size ∧ subN s 3 s.size ≤ 99) := by
  have hm : matchB s patC = true := by
    rw [matchC_iff, hd.1, hd.2, decide_eq_true h0, decide_eq_true h2]; rfl
  refine ⟨?_, ?_, ?_⟩
  · unfold clockB; rw [if_neg (by rw [hm]; decide)]
  · have n1 := numTo_bd (s.extract 0 2) (s.extract 0 2).size (by rw [dig_sub (by omega)]; exact hd.1)
    have b1 : bnd (s.extract 0 2).size = 99 := by rw [size_sub (show 2 ≤ s.size by omega)]; rfl
    rw [b1] at n1
    exact n1
  · have n2 := numTo_bd (s.extract 3 s.size) (s.extract 3 s.size).size (by rw [dig_sub (Nat.le_refl _), h0]; exact hd.2)
    have b2 : bnd (s.extract 3 s.size).size = 99 := by rw [size_sub (Nat.le_refl s.size), h0]; rfl
    rw [b2] at n2
    exact n2
set_option maxRecDepth 100000 in
set_option maxHeartbeats 800000 in
theorem parseClockR_any (s : ByteArray) (w : World) (hs : s.size ≤ maxLen) : Calls Tryz.prog 102 #[.string s] w (NumPost (clockB s) w) := by
  unfold maxLen at hs
  have HB0 := Lib.hid (Below.refl w.heap.size w)
  by_cases hsz : s.size = 5
  case neg =>
    have hz' : ((s.size : Int) != 5) = true := by simp; omega
    have HR := Lib.hid (clockB_size hsz)
    clear hsz
    go_enter Tryz.func102, Tryz.ntmps102
    go_wp2_with fail
    go_ret2
    exact ⟨by rw [HR.out]; rfl, HB0.out⟩
  have hz' : ((s.size : Int) != 5) = false := by simp; omega
  have l2 : 2 < s.size := by omega
  have l2' : (2 : Int) < (s.size : Int) := by omega
  have HB2 := Lib.hid (byteAt_eq s 2 l2)
  have HSZ := Lib.hid hsz
  clear hsz
  by_cases h2 : byteAt s 2 = 58
  case neg =>
    have h2' : ((s[2].toNat : Int) != 58) = true := by rw [HB2.out]; simpa using h2
    have HR := Lib.hid (clockB_b2 h2)
    clear h2
    go_enter Tryz.func102, Tryz.ntmps102
    go_wp2_with fail
    go_ret2
    exact ⟨by rw [HR.out]; rfl, HB0.out⟩
  have h2' : ((s[2].toNat : Int) != 58) = false := by rw [HB2.out]; simpa using h2
  have HC1 : Hid (∀ V : World, Calls Tryz.prog 99 #[.string (s.extract 0 2), .int .i64 2, .int .i64 2] V (DigitsPost (s.extract 0 2) 2 2 V)) := fun V => digits_any _ 2 2 V (by decide)
  have HC2 : Hid (∀ V : World, Calls Tryz.prog 99 #[.string (s.extract 3 s.size), .int .i64 2, .int .i64 2] V (DigitsPost (s.extract 3 s.size) 2 2 V)) := fun V => digits_any _ 2 2 V (by decide)
  unfold DigitsPost at HC1 HC2
  have E1 := digits_sub (s := s) (a := 0) (b := 2) (n := 2) (by omega) (by omega)
  have E2 := digits_sub (s := s) (a := 3) (b := s.size) (n := 2) (Nat.le_refl _) (by have := HSZ.out; omega)
  rw [show digitsB (s.extract 0 2) 2 2 = digitsB (s.extract 0 2) ((2 : Nat) : Int) ((2 : Nat) : Int) from rfl, E1] at HC1
  rw [show digitsB (s.extract 3 s.size) 2 2 = digitsB (s.extract 3 s.size) ((2 : Nat) : Int) ((2 : Nat) : Int) from rfl, E2] at HC2
  clear E1 E2
  have HOK := Lib.hid (clockB_ok HSZ.out h2)
  have HNO := Lib.hid (clockB_dig (s := s))
  have tz2 : (2 : Int) ≤ (s.size : Int) := by omega
  have tz3 : (3 : Int) ≤ (s.size : Int) := by omega
  clear h2 HB2 HSZ
  generalize digOn s 0 2 = a at *
  generalize digOn s 3 2 = b at *
  by_cases habc : a = true ∧ b = true
  case neg =>
    have HR := Lib.hid (HNO.out habc)
    clear HNO HOK
    cases a <;> cases b <;> first
      | exact absurd ⟨rfl, rfl⟩ habc
      | (clear habc
         simp only [if_true, Bool.false_eq_true, if_false] at HC1 HC2
         go_enter Tryz.func102, Tryz.ntmps102
         go_wp2_with fail
         refine (HC1.out _).mono ?_
         rintro e w' ⟨rfl, rfl⟩
         go_wp2_with fail
         refine (HC2.out _).mono ?_
         rintro e w' ⟨rfl, rfl⟩
         go_wp2_with fail
         go_ret2
         exact ⟨by rw [HR.out]; rfl, HB0.out⟩)
  obtain ⟨hR, ⟨k1, k2⟩, k3, k4⟩ := HOK.out habc
  have HR := Lib.hid hR
  obtain ⟨rfl, rfl⟩ := habc
  simp only [if_true] at HC1 HC2
  clear HNO HOK hR
  generalize subN s 0 2 = hh at *
  generalize subN s 3 s.size = mm at *
  go_enter Tryz.func102, Tryz.ntmps102
  go_wp2_with fail
  refine (HC1.out _).mono ?_
  rintro e w' ⟨rfl, rfl⟩
  go_wp2_with fail
  refine (HC2.out _).mono ?_
  rintro e w' ⟨rfl, rfl⟩
  by_cases h1 : 23 < hh
  · have HR : Hid (clockB s = (0, 5)) := by show _ = _; rw [HR.out, if_pos (.inl h1)]
    go_wp2_with fail
    go_ret2
    exact ⟨by rw [HR.out]; rfl, HB0.out⟩
  by_cases h2 : 59 < mm
  · have HR : Hid (clockB s = (0, 5)) := by show _ = _; rw [HR.out, if_pos (.inr h2)]
    go_wp2_with fail
    go_ret2
    exact ⟨by rw [HR.out]; rfl, HB0.out⟩
  have HR : Hid (clockB s = (60 * hh + mm, 0)) := by show _ = _; rw [HR.out, if_neg (by rintro (h | h); exact h1 h; exact h2 h), Int.mul_comm]
  go_wp2_with fail
  go_ret2
  exact ⟨by rw [HR.out]; rfl, HB0.out⟩
end Go.Proofs.YtldeoaddogifpaaGreatDoor
/-
  Contract of the reference's ParseInstant (package pairingref5), and of the methods number and instant of pairingref9's parser.
  Condition: the string's length fits an int.
-/
namespace Go.Proofs.YtldeoaddogifpaaGreatDoor
set_option linter.unusedSimpArgs false
set_option linter.unusedVariables false
open Go.RowKit

set_option maxRecDepth 100000 in
set_option maxHeartbeats 1600000 in
theorem parseInstantR_any (s : ByteArray) (w : World) (hs : s.size ≤ maxLen) : Calls Tryz.prog 61 #[.string s] w (NumPost (insB s) w) := by
  unfold maxLen at hs
  have HD := Lib.hid (insB_ref s)
  have HB0 := Lib.hid (Below.refl w.heap.size w)
  by_cases hsz : s.size = 16
  case neg =>
    have hz' : ((s.size : Int) != 16) = true := by simp; omega
    have HR : Hid (insB s = (0, 1)) := by show _ = _; rw [HD.out, if_pos (.inl hsz)]
    clear hsz HD
    go_enter Tryz.func61, Tryz.ntmps61
    go_wp2_with fail
    go_ret2
    exact ⟨by rw [HR.out]; rfl, HB0.out⟩
  have hz' : ((s.size : Int) != 16) = false := by simp; omega
  have l2 : 10 < s.size := by omega
  have l2' : (10 : Int) < (s.size : Int) := by omega
  have t1 : 10 ≤ s.size := by omega
  have t2 : 11 ≤ s.size := by omega
  have t1' : (10 : Int) ≤ (s.size : Int) := by omega
  have t2' : (11 : Int) ≤ (s.size : Int) := by omega
  have HB2 := Lib.hid (byteAt_eq s 10 l2)
  have HSZ := Lib.hid hsz
  clear hsz
  by_cases h2 : byteAt s 10 = 32
  case neg =>
    have h2' : ((s[10].toNat : Int) != 32) = true := by rw [HB2.out]; simpa using h2
    have HR : Hid (insB s = (0, 1)) := by show _ = _; rw [HD.out, if_pos (.inr h2)]
    clear h2 HD
    go_enter Tryz.func61, Tryz.ntmps61
    go_wp2_with fail
    go_ret2
    exact ⟨by rw [HR.out]; rfl, HB0.out⟩
  have h2' : ((s[10].toNat : Int) != 32) = false := by rw [HB2.out]; simpa using h2
  rw [if_neg (by rintro (h | h); exact h HSZ.out; exact h h2)] at HD
  have HPDt := Lib.hid (parseDateR_any (s.extract 0 10) w (by rw [size_sub t1]; unfold maxLen; omega))
  have HPC : Hid (∀ V : World, Calls Tryz.prog 102 #[.string (s.extract 11 s.size)] V (NumPost (clockB (s.extract 11 s.size)) V)) := fun V => parseClockR_any _ V (by rw [size_sub (Nat.le_refl _)]; unfold maxLen; omega)
  have HVD := Lib.hid (dateB_valid (s := s.extract 0 10))
  have hcb := clockB_bd (s.extract 11 s.size)
  generalize dateB (s.extract 0 10) = D at *
  generalize clockB (s.extract 11 s.size) = C at *
  obtain ⟨⟨y, m, d⟩, e0⟩ := D
  obtain ⟨cl, f0⟩ := C
  simp only at HD HPDt HPC HVD hcb
  clear h2 HB2 HSZ
  go_enter Tryz.func61, Tryz.ntmps61
  go_wp2_with fail
  refine HPDt.out.mono ?_
  rintro e w2 ⟨rfl, hbw2⟩
  clear HPDt
  have hbA := hbw2.alloc hbw2.size (.cells #[.int .i64 y, .int .i64 m, .int .i64 d] 133)
  have hrA := heap_alloc_new w2 (.cells #[.int .i64 y, .int .i64 m, .int .i64 d] 133)
  have hzA : (w2.alloc (.cells #[.int .i64 y, .int .i64 m, .int .i64 d] 133)).heap.size = w2.heap.size + 1 := by simp
  have HBA := Lib.hid hbA; have HRA := Lib.hid hrA; have HZA := Lib.hid hzA
  clear hbA hrA hzA
  go_wp2_with fail
  generalize w2.alloc (.cells #[.int .i64 y, .int .i64 m, .int .i64 d] 133) = V at *
  refine (HPC.out V).mono ?_
  rintro e w3 ⟨rfl, hb3⟩
  have hbw3 : Below w.heap.size w w3 := HBA.out.trans (hb3.mono HBA.out.size)
  have hr3 := (hb3.block w2.heap.size (by have := HZA.out; omega)).trans HRA.out
  clear HPC hb3
  by_cases he : e0 = 1
  · have he' : (e0 == 1) = true := by simpa using he
    have HR : Hid (insB s = (0, 1)) := by show _ = _; rw [HD.out, if_pos (.inl he)]
    clear he HD hr3
    go_wp2_with fail
    go_ret2
    exact ⟨by rw [HR.out]; rfl, hbw3⟩
  have he' : (e0 == 1) = false := by simpa using he
  by_cases hf : f0 = 1
  · have hf' : (f0 == 1) = true := by simpa using hf
    have HR : Hid (insB s = (0, 1)) := by show _ = _; rw [HD.out, if_pos (.inr hf)]
    clear he hf HD hr3
    go_wp2_with fail
    go_ret2
    exact ⟨by rw [HR.out]; rfl, hbw3⟩
  have hf' : (f0 == 1) = false := by simpa using hf
  rw [if_neg (by rintro (h | h); exact he h; exact hf h)] at HD
  by_cases he2 : e0 = 0
  case neg =>
    have he2' : (e0 != 0) = true := by simpa using he2
    have HR : Hid (insB s = (0, 5)) := by show _ = _; rw [HD.out, if_pos (.inl he2)]
    clear he2 he hf HD hr3
    go_wp2_with fail
    go_ret2
    exact ⟨by rw [HR.out]; rfl, hbw3⟩
  by_cases hf2 : f0 = 0
  case neg =>
    subst he2
    have hf2' : (f0 != 0) = true := by simpa using hf2
    have HR : Hid (insB s = (0, 5)) := by show _ = _; rw [HD.out, if_pos (.inr hf2)]
    clear hf2 he hf HD hr3
    go_wp2_with fail
    go_ret2
    exact ⟨by rw [HR.out]; rfl, hbw3⟩
  subst he2 hf2
  rw [if_neg (by simp)] at HD
  have hdv := HVD.out rfl
  have hdb := dayB_bd hdv
  obtain ⟨⟨v1, v2⟩, ⟨v3, v4⟩, v5, v6⟩ := validB_iff.1 hdv
  have hmd := mDays_bd y m
  have x0 := block_cell hr3 0; have x1 := block_cell hr3 1; have x2 := block_cell hr3 2
  have HDN := Lib.hid (dayNumberR_any y m d w3 (by omega))
  have HDE : Hid (dayN y m d = (dayB y m d, 0)) := by show _ = _; unfold dayN; rw [if_pos hdv]
  rw [HDE.out] at HDN
  generalize dayB y m d = dn at *
  clear hr3 hdv HVD
  go_wp2_with fail
  refine HDN.out.mono ?_
  rintro e w4 ⟨rfl, hb4⟩
  have hbw4 : Below w.heap.size w w4 := hbw3.trans (hb4.mono hbw3.size)
  clear HDN hb4 x0 x1 x2
  by_cases h1 : 1440 * dn + cl < 0
  · have HR : Hid (insB s = (0, 5)) := by show _ = _; rw [HD.out, if_pos (.inl h1)]
    go_wp2_with fail
    go_ret2
    exact ⟨by rw [HR.out]; rfl, hbw4⟩
  by_cases h2 : 52596000 ≤ 1440 * dn + cl
  · have HR : Hid (insB s = (0, 5)) := by show _ = _; rw [HD.out, if_pos (.inr h2)]
    go_wp2_with fail
    go_ret2
    exact ⟨by rw [HR.out]; rfl, hbw4⟩
  have HR : Hid (insB s = (1440 * dn + cl, 0)) := by show _ = _; rw [HD.out, if_neg (by rintro (h | h); exact h1 h; exact h2 h)]
  go_wp2_with fail
  go_ret2
  exact ⟨by rw [HR.out]; rfl, hbw4⟩
end Go.Proofs.YtldeoaddogifpaaGreatDoor
/-
  Contracts of the reference's two, floor, SplitMinute and DateOf.
  Condition: the numbers are small and not negative; the table of powers of ten is laid.
-/
namespace Go.Proofs.YtldeoaddogifpaaGreatDoor
set_option linter.unusedSimpArgs false
set_option linter.unusedVariables false
open Go.RowKit

set_option maxRecDepth 100000 in
set_option maxHeartbeats 800000 in
theorem twoR_any (n d : Int) (w : World) (h0 : 0 ≤ n) (h1 : n ≤ 9999) (hd : d ≤ ((numS n).size : Int) + 1) (hd0 : 0 ≤ d) (hp : Pow10 w) :
    Calls Tryz.prog 111 #[.int .i64 n, .int .i64 d] w (StrB (padB n d.toNat) w) := by
  have HF : Hid (Calls Tryz.prog 30 #[.int .i64 n] w fun e w' => e = .returned (.string (numS n)) ∧ Below w.heap.size w w') := formatIntR_any n w (by omega) (by omega) hp
  have hz := numS_size h0 h1
  have HP : Hid (padB n d.toNat = if (numS n).size < d.toNat then zS ++ numS n else numS n) := rfl
  generalize numS n = s at *
  go_enter Tryz.func111, Tryz.ntmps111
  go_wp2_with fail
  refine HF.out.mono ?_
  rintro e w1 ⟨rfl, hb1⟩
  have HB1 := Lib.hid hb1
  clear hb1 HF
  go_wp2_with fail
  go_loop [5] (fun sv => ∃ x : ByteArray, sv = .string x ∧ (x = s ∨ (x = zS ++ s ∧ (s.size : Int) < d)) ∧ s.size ≤ x.size ∧ x.size ≤ s.size + 1) (fun sv => 100 - (match sv with | .string x => x.size | _ => 0))
  case atStart => exact ⟨s, rfl, .inl rfl, Nat.le_refl _, by omega⟩
  case round =>
    obtain ⟨x, rfl, hx, hx1, hx2⟩ := hrel
    by_cases hlt : (x.size : Int) < d
    · have hxs : x = s := by
        rcases hx with h | ⟨h, _⟩
        · exact h
        · exfalso
          have : x.size = s.size + 1 := by rw [h, ByteArray.size_append, show zS.size = 1 from rfl]; omega
          omega
      subst hxs
      have q3 : ¬ 9223372036854775807 < 1 + x.size := by omega
      have hzz : (zS ++ x).size = x.size + 1 := by rw [ByteArray.size_append, show zS.size = 1 from rfl]; omega
      have HZZ := Lib.hid hzz
      clear hx hzz
      go_wp2_with fail
      go_round
      case rel => exact ⟨zS ++ x, rfl, .inr ⟨rfl, hlt⟩, by have := HZZ.out; omega, by have := HZZ.out; omega⟩
      case measure =>
        have := HZZ.out
        show 100 - (zS ++ x).size < 100 - x.size
        omega
    · have HR : Hid (padB n d.toNat = x) := by
        show _ = _
        rw [HP.out]
        rcases hx with h | ⟨h, h2⟩
        · rw [if_neg (by subst h; omega), h]
        · rw [if_pos (by omega), h]
      clear hx
      go_wp2_with fail
      go_ret
      exact ⟨by rw [HR.out]; rfl, HB1.out⟩
theorem floorR_any (t : Int) (w : World) (h0 : 0 ≤ t) (h1 : t < 52596000) : Calls Tryz.prog 143 #[.int .i64 t, .int .i64 1440] w fun e w' => e = .returned (.int .i64 (t / 1440)) ∧ w = w' := by
  have q1 : t.tdiv 1440 = t / 1440 := Int.tdiv_eq_ediv_of_nonneg h0
  have q2 : t.tmod 1440 = t % 1440 := Int.tmod_eq_emod_of_nonneg h0
  have q3 : IntKind.i64.wrap (t / 1440) = t / 1440 := IntWalk.i64_in _ (by omega)
  have q4 : IntKind.i64.wrap (t % 1440) = t % 1440 := IntWalk.i64_in _ (by omega)
  have q5 : ¬ t % 1440 < 0 := by omega
  go_enter Tryz.func143, Tryz.ntmps143
  go_wp2_with fail
  go_ret
  exact ⟨rfl, rfl⟩
theorem splitMinuteR_any (t : Int) (w : World) (h0 : 0 ≤ t) (h1 : t < 52596000) : Calls Tryz.prog 112 #[.int .i64 t] w fun e w' => e = .returned (.tuple #[.int .i64 (t / 1440), .int .i64 (t % 1440)]) ∧ w = w' := by
  have HF := Lib.hid (floorR_any t w h0 h1)
  have q1 : IntKind.i64.wrap (1440 * (t / 1440)) = 1440 * (t / 1440) := IntWalk.i64_in _ (by omega)
  have q2 : t - 1440 * (t / 1440) = t % 1440 := by omega
  have q3 : IntKind.i64.wrap (t % 1440) = t % 1440 := IntWalk.i64_in _ (by omega)
  go_enter Tryz.func112, Tryz.ntmps112
  go_wp2_with fail
  refine HF.out.mono ?_
  rintro e w' ⟨rfl, rfl⟩
  go_wp2_with fail
  go_ret2
  exact ⟨rfl, rfl⟩
theorem dayN_last : dayN 2100 12 31 = (36889, 0) := by decide +kernel
set_option maxRecDepth 100000 in
set_option maxHeartbeats 1600000 in
theorem dateOfR_any (day : Int) (w : World) (h0 : 0 ≤ day) (h1 : day ≤ 36889) : Calls Tryz.prog 113 #[.int .i64 day] w (DayPost day w) := by
  have hb0 := (Below.refl w.heap.size w).alloc (Nat.le_refl _) (.cells #[.int .i64 0, .int .i64 0, .int .i64 0] 133)
  have hr0 := heap_alloc_new w (.cells #[.int .i64 0, .int .i64 0, .int .i64 0] 133)
  have hz0 : w.heap.size < (w.alloc (.cells #[.int .i64 0, .int .i64 0, .int .i64 0] 133)).heap.size := by simp
  have HB0 := Lib.hid hb0; have HR0 := Lib.hid hr0; have HZ0 := Lib.hid hz0
  clear hb0 hr0 hz0
  have c1 : ¬ day < -365 := by omega
  have c2 : ¬ (36889 : Int) < day := by omega
  have c3 : IntKind.i64.wrap (day + 365) = day + 365 := IntWalk.i64_in _ (by omega)
  go_enter Tryz.func113, Tryz.ntmps113
  go_wp2_with fail
  generalize w.alloc (.cells #[.int .i64 0, .int .i64 0, .int .i64 0] 133) = W at *
  refine (dayNumberR_any 2100 12 31 W ⟨by decide, by decide⟩).mono ?_
  rw [dayN_last]
  rintro e w1 ⟨rfl, hb1⟩
  have hbw : Below w.heap.size w w1 := HB0.out.trans (hb1.mono HB0.out.size)
  have hr1 := (hb1.block w.heap.size HZ0.out).trans HR0.out
  have HBW := Lib.hid hbw; have HR1 := Lib.hid hr1
  clear hb1 hbw hr1 HB0 HR0 HZ0
  go_wp2_with fail
  go_loop [6, 7, 8, 9, 10] (fun r y _ _ _ => ∃ k : Nat, k ≤ 102 ∧ r = .int .i64 (day + 365 - yearSum k) ∧ y = .int .i64 (1999 + k) ∧ 0 ≤ day + 365 - yearSum k) (fun _ y _ _ _ => 2200 - (intOf y).toNat)
  case atStart => exact ⟨0, by omega, by simp [yearSum, sumTo], rfl, by simp [yearSum, sumTo]; omega⟩
  case round =>
    obtain ⟨k, hk, rfl, rfl, hr⟩ := hrel
    have hk2 : k < 102 := by
      rcases Nat.lt_or_ge k 102 with h | h
      · exact h
      · exfalso
        have e : k = 102 := by omega
        subst e
        rw [yearSum_last] at hr
        omega
    have l1 : 1999 + (k : Int) ≤ 2100 := by omega
    have HS : Hid (yearSum (k + 1) = yearSum k + yDays (1999 + k)) := rfl
    have hbs := yearSum_bd k
    have HYV : Hid (yDays (1999 + k) = monSum (1999 + k) 12) := (monSum_year _).symm
    have HDB : Hid (∀ (j : Nat) (d : Int), dayB (1999 + k) (1 + j) d = -365 + yearSum k + monSum (1999 + k) j + d - 1) := fun j d => by
      unfold dayB
      have e1 : (1999 + (k : Int) - 1999).toNat = k := by omega
      have e2 : (1 + (j : Int) - 1).toNat = j := by omega
      rw [e1, e2]
    have HVB : Hid (∀ (j : Nat) (d : Int), j ≤ 11 → 1 ≤ d → d ≤ mDays (1999 + k) (1 + j) → validB (1999 + k) (1 + j) d = true) := fun j d hj a b => validB_iff.2 ⟨⟨by omega, by omega⟩, ⟨by omega, by omega⟩, a, b⟩
    have HDM : Hid (∀ j : Nat, j ≤ 11 → Calls Tryz.prog 141 #[.int .i64 (1999 + k), .int .i64 (1 + j)] w1 fun e w' => e = .returned (.tuple #[.int .i64 (mDays (1999 + k) (1 + j)), .int .i64 0]) ∧ w1 = w') := fun j hj => by
      have := daysInMonthR_any (1999 + k) (1 + j) w1
      have e : dimB (1999 + k) (1 + j) = (mDays (1999 + k) (1 + j), 0) := by unfold dimB; rw [if_neg (by omega)]
      rw [e] at this
      exact this
    have q9 : IntKind.i64.wrap (1999 + (k : Int) + 1) = 1999 + (k : Int) + 1 := IntWalk.i64_in _ (by omega)
    have HNX : Hid (day + 365 - yearSum k - monSum (1999 + k) 12 = day + 365 - yearSum (k + 1)) := by show _ = _; rw [HS.out, HYV.out]; omega
    obtain ⟨ys, hys⟩ : ∃ ys, yearSum k = ys := ⟨_, rfl⟩
    rw [hys] at hr hbs HDB HNX ⊢
    obtain ⟨yy, hyy⟩ : ∃ yy : Int, 1999 + (k : Int) = yy := ⟨_, rfl⟩
    have HYY := Lib.hid hyy
    rw [hyy] at HDB HVB HDM HNX l1 q9 ⊢
    have hyb : 0 ≤ yy ∧ yy ≤ 100000 := by omega
    clear hys HS HYV hyy
    go_wp2_with fail
    go_loop [6, 8, 9, 10] (fun r m _ _ => ∃ j : Nat, j ≤ 12 ∧ r = .int .i64 (day + 365 - ys - monSum yy j) ∧ m = .int .i64 (1 + j) ∧ 0 ≤ day + 365 - ys - monSum yy j) (fun _ m _ _ => 100 - (intOf m).toNat)
    case atStart => exact ⟨0, by omega, by simp [monSum, sumTo], rfl, by simp [monSum, sumTo]; omega⟩
    case round =>
      obtain ⟨j, hj, rfl, rfl, hr2⟩ := hrel
      by_cases hj2 : j ≤ 11
      · have m1 : 1 + (j : Int) ≤ 12 := by omega
        have HM := Lib.hid (HDM.out j hj2)
        have HS : Hid (monSum yy (j + 1) = monSum yy j + mDays yy (1 + j)) := rfl
        have hmb := monSum_bd yy j
        have hmd := mDays_bd yy (1 + j)
        have HDB2 := Lib.hid (HDB.out j (day + 365 - ys - monSum yy j + 1))
        have HVB2 := Lib.hid (HVB.out j (day + 365 - ys - monSum yy j + 1) hj2)
        by_cases hlt : day + 365 - ys - monSum yy j < mDays yy (1 + j)
        · have q1 : IntKind.i64.wrap (day + 365 - ys - monSum yy j + 1) = day + 365 - ys - monSum yy j + 1 := IntWalk.i64_in _ (by omega)
          have HV3 : Hid (validB yy (1 + j) (day + 365 - ys - monSum yy j + 1) = true) := HVB2.out (by omega) (by omega)
          have HD3 : Hid (dayB yy (1 + j) (day + 365 - ys - monSum yy j + 1) = day) := by show _ = _; rw [HDB2.out]; omega
          have hr3 := HR1.out
          have z0 := block_cell hr3 0; have z1 := block_cell hr3 1; have z2 := block_cell hr3 2
          have f0 := block_free hr3 0; have f1 := block_free hr3 1; have f2 := block_free hr3 2
          clear HVB HDB HVB2 HDB2 HS hr3
          generalize mDays yy (1 + j) = md at *
          generalize hms : monSum yy j = ms at *
          obtain ⟨dd, hdd⟩ : ∃ dd : Int, day + 365 - ys - ms + 1 = dd := ⟨_, rfl⟩
          rw [hdd] at q1 HV3 HD3
          clear hms
          go_wp2_with fail
          refine HM.out.mono ?_
          rintro e w' ⟨rfl, rfl⟩
          go_wp2_with fail
          refine bodyPost_ret (v := .tuple #[.agg #[.int .i64 yy, .int .i64 (1 + j), .int .i64 dd], .int .i64 0]) (by simp [results, Tryz.results113, go_sem, z0, z1, z2]) rfl ?_
          exact ⟨yy, 1 + j, dd, rfl, HV3.out, HD3.out, ((HBW.out.setCell (Nat.le_refl _) _).setCell (Nat.le_refl _) _).setCell (Nat.le_refl _) _⟩
        · have q1 : IntKind.i64.wrap (day + 365 - ys - monSum yy j - mDays yy (1 + j)) = day + 365 - ys - monSum yy j - mDays yy (1 + j) := IntWalk.i64_in _ (by omega)
          have q2 : IntKind.i64.wrap (1 + (j : Int) + 1) = 1 + (j : Int) + 1 := IntWalk.i64_in _ (by omega)
          have HE : Hid (day + 365 - ys - monSum yy j - mDays yy (1 + j) = day + 365 - ys - monSum yy (j + 1)) := by show _ = _; rw [HS.out]; omega
          clear HVB2 HDB2 HS
          generalize mDays yy (1 + j) = md at *
          generalize hms : monSum yy j = ms at *
          go_wp2_with fail
          refine HM.out.mono ?_
          rintro e w' ⟨rfl, rfl⟩
          go_wp2_with fail
          go_round
          case rel => exact ⟨j + 1, by omega, by rw [HE.out], by go_num, by rw [← HE.out]; omega⟩
          case measure => simp [intOf]; omega
      · have e : j = 12 := by omega
        subst e
        have m1 : ¬ (1 + ((12 : Nat) : Int)) ≤ 12 := by decide
        rw [HNX.out] at hr2 ⊢
        have HR2 := Lib.hid hr2
        clear hr2
        generalize hyn : yearSum (k + 1) = yn at *
        go_wp2_with fail
        go_round
        case rel => exact ⟨k + 1, by omega, by rw [hyn], by rw [← HYY.out]; go_num, by rw [hyn]; exact HR2.out⟩
        case measure => have := HYY.out; simp [intOf]; omega
end Go.Proofs.YtldeoaddogifpaaGreatDoor
/-
  Contracts of the reference's FormatDate, FormatClock, FormatInstant, and of pairingref9's instant (the text).
  Condition: the date is valid, the instant lies in the calendar; the table of powers of ten is laid.
-/
namespace Go.Proofs.YtldeoaddogifpaaGreatDoor
set_option linter.unusedSimpArgs false
set_option linter.unusedVariables false
open Go.RowKit

set_option maxRecDepth 100000 in
set_option maxHeartbeats 1600000 in
theorem formatDateR_any (y m d : Int) (w : World) (hv : validB y m d = true) (hp : Pow10 w) : Calls Tryz.prog 114 #[.agg #[.int .i64 y, .int .i64 m, .int .i64 d]] w (TxtB (fmtDate y m d) w) := by
  obtain ⟨v1, v2, v3, v4⟩ := validB_iff.1 hv
  have v5 := mDays_bd y m
  have hb0 := (Below.refl w.heap.size w).alloc (Nat.le_refl _) (.cells #[.int .i64 y, .int .i64 m, .int .i64 d] 133)
  have hr0 := heap_alloc_new w (.cells #[.int .i64 y, .int .i64 m, .int .i64 d] 133)
  have HB0 := Lib.hid hb0; have HR0 := Lib.hid hr0
  have HPW : Hid (∀ V, Below w.heap.size w V → Pow10 V) := fun V hV => hp.next hV
  have n1 : ((numS y).size : Int) = 4 := by
    have e := numS_four (n := y.toNat) (by omega) (by omega)
    rw [show ((y.toNat : Nat) : Int) = y by omega] at e
    rw [e, bs_size]; rfl
  have n2 := numS_size (n := m) (by omega) (by omega)
  have n3 := numS_size (n := d) (by omega) (by omega)
  have HP1 : Hid (∀ V, Below w.heap.size w V → Calls Tryz.prog 111 #[.int .i64 y, .int .i64 4] V (StrB (padB y 4) V)) := fun V hV => twoR_any y 4 V (by omega) (by omega) (by omega) (by omega) (HPW.out V hV)
  have HP2 : Hid (∀ V, Below w.heap.size w V → Calls Tryz.prog 111 #[.int .i64 m, .int .i64 2] V (StrB (padB m 2) V)) := fun V hV => twoR_any m 2 V (by omega) (by omega) (by omega) (by omega) (HPW.out V hV)
  have HP3 : Hid (∀ V, Below w.heap.size w V → Calls Tryz.prog 111 #[.int .i64 d, .int .i64 2] V (StrB (padB d 2) V)) := fun V hV => twoR_any d 2 V (by omega) (by omega) (by omega) (by omega) (HPW.out V hV)
  have s1 := padB_size (n := y) (d := 4) (by omega) (by omega)
  have s2 := padB_size (n := m) (d := 2) (by omega) (by omega)
  have s3 := padB_size (n := d) (d := 2) (by omega) (by omega)
  have HQ : Hid (fmtDate y m d = padB y 4 ++ dashS ++ padB m 2 ++ dashS ++ padB d 2) := rfl
  rw [HQ.out]
  have HV := Lib.hid hv
  generalize padB y 4 = P1 at *
  generalize padB m 2 = P2 at *
  generalize padB d 2 = P3 at *
  obtain ⟨X3, hX3⟩ : ∃ X, P1 ++ dashS = X := ⟨_, rfl⟩
  obtain ⟨X7, hX7⟩ : ∃ X, X3 ++ P2 = X := ⟨_, rfl⟩
  obtain ⟨X8, hX8⟩ : ∃ X, X7 ++ dashS = X := ⟨_, rfl⟩
  obtain ⟨X12, hX12⟩ : ∃ X, X8 ++ P3 = X := ⟨_, rfl⟩
  have t3 : X3.size ≤ 30 := by rw [← hX3, ByteArray.size_append, show dashS.size = 1 from rfl]; omega
  have t7 : X7.size ≤ 60 := by rw [← hX7, ByteArray.size_append]; omega
  have t8 : X8.size ≤ 61 := by rw [← hX8, ByteArray.size_append, show dashS.size = 1 from rfl]; omega
  rw [hX3, hX7, hX8, hX12]
  have HX3 := Lib.hid hX3; have HX7 := Lib.hid hX7; have HX8 := Lib.hid hX8; have HX12 := Lib.hid hX12
  have q1 : ¬ 9223372036854775807 < P1.size + 1 := by omega
  have q2 : ¬ 9223372036854775807 < X3.size + P2.size := by omega
  have q3 : ¬ 9223372036854775807 < X7.size + 1 := by omega
  have q4 : ¬ 9223372036854775807 < X8.size + P3.size := by omega
  clear hb0 hr0 hX3 hX7 hX8 hX12 hv HQ v1 v2 v3 v4 v5 n1 n2 n3
  go_enter Tryz.func114, Tryz.ntmps114
  go_wp2_with fail
  generalize w.alloc (.cells #[.int .i64 y, .int .i64 m, .int .i64 d] 133) = W at *
  refine (isDateR_any y m d W).mono ?_
  rw [HV.out]
  rintro e w1 ⟨rfl, hb1⟩
  have hWp : Below w.heap.size w w1 := HB0.out.trans (hb1.mono HB0.out.size)
  have hr1 := (hb1.block w.heap.size (Array.getElem?_eq_some_iff.1 HR0.out).1).trans HR0.out
  obtain ⟨B, hB⟩ : ∃ B, w.heap.size = B := ⟨_, rfl⟩
  rw [hB] at hr1
  have z0 := block_cell hr1 0; have z1 := block_cell hr1 1; have z2 := block_cell hr1 2
  rw [hB]
  clear hr1 hb1 hB
  go_upto_region 3 with (fail)
  refine wp_region_facts 13 [7, 8, 9, 10, 11, 12, 13, 14, 15, 16, 17, 18, 19] (fun i v _ => ([(.pointer (some ⟨B, 0, none⟩) : Value), (.int .i64 y : Value), (.string P1 : Value), (.string X3 : Value), (.pointer (some ⟨B, 1, none⟩) : Value), (.int .i64 m : Value), (.string P2 : Value), (.string X7 : Value), (.string X8 : Value), (.pointer (some ⟨B, 2, none⟩) : Value), (.int .i64 d : Value), (.string P3 : Value), (.string X12 : Value)] : List Value)[i]? = some v) (by kernel_rfl) (by kernel_rfl) (by kernel_rfl) (by kernel_rfl) (by kernel_rfl) (fun _ _ _ _ h _ => h) ?_ ?_
  · intro q o' hq ho a' w' hb' hout hpre K hK
    have hq' : q = 0 ∨ q = 1 ∨ q = 2 ∨ q = 3 ∨ q = 4 ∨ q = 5 ∨ q = 6 ∨ q = 7 ∨ q = 8 ∨ q = 9 ∨ q = 10 ∨ q = 11 ∨ q = 12 := by omega
    rcases hq' with rfl | rfl | rfl | rfl | rfl | rfl | rfl | rfl | rfl | rfl | rfl | rfl | rfl
    · obtain rfl := Option.some.inj ho
      have e1 : a'.tmps[1]? = some (.pointer (some ⟨B, 0, none⟩)) := hout 1 (by decide)
      go_simp
      exact hK (.pointer (some ⟨B, 0, none⟩)) w' rfl (Below.refl _ _)
    · obtain rfl := Option.some.inj ho
      have p0 : a'.tmps.getD 7 undef = .pointer (some ⟨B, 0, none⟩) := (Option.some.inj (hpre ⟨0, .data⟩ (by simp) 7 rfl)).symm
      simp only [Array.getD_eq_getD_getElem?] at p0
      have c0 := cell_kept z0 hb'
      go_simp
      exact hK (.int .i64 y) w' rfl (Below.refl _ _)
    · obtain rfl := Option.some.inj ho
      have p1 : a'.tmps.getD 8 undef = .int .i64 y := (Option.some.inj (hpre ⟨1, .data⟩ (by simp) 8 rfl)).symm
      simp only [Array.getD_eq_getD_getElem?] at p1
      go_simp
      go_at_call 111
      refine (HP1.out w' (hWp.trans (hb'.mono hWp.size))).mono ?_
      rintro e w'' ⟨rfl, hb''⟩
      exact hK _ _ rfl hb''
    · obtain rfl := Option.some.inj ho
      have p2 : a'.tmps.getD 9 undef = .string P1 := (Option.some.inj (hpre ⟨2, .data⟩ (by simp) 9 rfl)).symm
      simp only [Array.getD_eq_getD_getElem?] at p2
      go_simp
      exact hK _ _ (congrArg (fun x => some (Value.string x)) HX3.out.symm) (Below.refl _ _)
    · obtain rfl := Option.some.inj ho
      have e1 : a'.tmps[1]? = some (.pointer (some ⟨B, 0, none⟩)) := hout 1 (by decide)
      go_simp
      exact hK (.pointer (some ⟨B, 1, none⟩)) w' rfl (Below.refl _ _)
    · obtain rfl := Option.some.inj ho
      have p4 : a'.tmps.getD 11 undef = .pointer (some ⟨B, 1, none⟩) := (Option.some.inj (hpre ⟨4, .data⟩ (by simp) 11 rfl)).symm
      simp only [Array.getD_eq_getD_getElem?] at p4
      have c1 := cell_kept z1 hb'
      go_simp
      exact hK (.int .i64 m) w' rfl (Below.refl _ _)
    · obtain rfl := Option.some.inj ho
      have p5 : a'.tmps.getD 12 undef = .int .i64 m := (Option.some.inj (hpre ⟨5, .data⟩ (by simp) 12 rfl)).symm
      simp only [Array.getD_eq_getD_getElem?] at p5
      go_simp
      go_at_call 111
      refine (HP2.out w' (hWp.trans (hb'.mono hWp.size))).mono ?_
      rintro e w'' ⟨rfl, hb''⟩
      exact hK _ _ rfl hb''
    · obtain rfl := Option.some.inj ho
      have p3 : a'.tmps.getD 10 undef = .string X3 := (Option.some.inj (hpre ⟨3, .data⟩ (by simp) 10 rfl)).symm
      simp only [Array.getD_eq_getD_getElem?] at p3
      have p6 : a'.tmps.getD 13 undef = .string P2 := (Option.some.inj (hpre ⟨6, .data⟩ (by simp) 13 rfl)).symm
      simp only [Array.getD_eq_getD_getElem?] at p6
      go_simp
      exact hK _ _ (congrArg (fun x => some (Value.string x)) HX7.out.symm) (Below.refl _ _)
    · obtain rfl := Option.some.inj ho
      have p7 : a'.tmps.getD 14 undef = .string X7 := (Option.some.inj (hpre ⟨7, .data⟩ (by simp) 14 rfl)).symm
      simp only [Array.getD_eq_getD_getElem?] at p7
      go_simp
      exact hK _ _ (congrArg (fun x => some (Value.string x)) HX8.out.symm) (Below.refl _ _)
    · obtain rfl := Option.some.inj ho
      have e1 : a'.tmps[1]? = some (.pointer (some ⟨B, 0, none⟩)) := hout 1 (by decide)
      go_simp
      exact hK (.pointer (some ⟨B, 2, none⟩)) w' rfl (Below.refl _ _)
    · obtain rfl := Option.some.inj ho
      have p9 : a'.tmps.getD 16 undef = .pointer (some ⟨B, 2, none⟩) := (Option.some.inj (hpre ⟨9, .data⟩ (by simp) 16 rfl)).symm
      simp only [Array.getD_eq_getD_getElem?] at p9
      have c2 := cell_kept z2 hb'
      go_simp
      exact hK (.int .i64 d) w' rfl (Below.refl _ _)
    · obtain rfl := Option.some.inj ho
      have p10 : a'.tmps.getD 17 undef = .int .i64 d := (Option.some.inj (hpre ⟨10, .data⟩ (by simp) 17 rfl)).symm
      simp only [Array.getD_eq_getD_getElem?] at p10
      go_simp
      go_at_call 111
      refine (HP3.out w' (hWp.trans (hb'.mono hWp.size))).mono ?_
      rintro e w'' ⟨rfl, hb''⟩
      exact hK _ _ rfl hb''
    · obtain rfl := Option.some.inj ho
      have p8 : a'.tmps.getD 15 undef = .string X8 := (Option.some.inj (hpre ⟨8, .data⟩ (by simp) 15 rfl)).symm
      simp only [Array.getD_eq_getD_getElem?] at p8
      have p11 : a'.tmps.getD 18 undef = .string P3 := (Option.some.inj (hpre ⟨11, .data⟩ (by simp) 18 rfl)).symm
      simp only [Array.getD_eq_getD_getElem?] at p11
      go_simp
      exact hK _ _ (congrArg (fun x => some (Value.string x)) HX12.out.symm) (Below.refl _ _)
  · intro us w' hb' hfacts
    have h12 : us 12 = .string X12 := (Option.some.inj (hfacts 12 (by decide))).symm
    have hfin : Below w.heap.size w w' := hWp.trans (hb'.mono hWp.size)
    simp only [putL, Act.put, List.setIfInBounds_toArray, List.set_cons_zero, List.set_cons_succ]
    generalize us 12 = x12 at *
    subst h12
    simp only [List.drop_succ_cons, List.drop_zero]
    clear hb' hfacts
    go_wp2_with fail
    go_ret2
    exact ⟨rfl, hfin⟩
set_option maxRecDepth 100000 in
set_option maxHeartbeats 1600000 in
theorem formatClockR_any (c : Int) (w : World) (h0 : 0 ≤ c) (h1 : c < 1440) (hp : Pow10 w) : Calls Tryz.prog 115 #[.int .i64 c] w (TxtB (fmtClock c) w) := by
  have HPW : Hid (∀ V, Below w.heap.size w V → Pow10 V) := fun V hV => hp.next hV
  have n2 := numS_size (n := c / 60) (by omega) (by omega)
  have n3 := numS_size (n := c % 60) (by omega) (by omega)
  have HP2 : Hid (∀ V, Below w.heap.size w V → Calls Tryz.prog 111 #[.int .i64 (c / 60), .int .i64 2] V (StrB (padB (c / 60) 2) V)) := fun V hV => twoR_any (c / 60) 2 V (by omega) (by omega) (by omega) (by omega) (HPW.out V hV)
  have HP3 : Hid (∀ V, Below w.heap.size w V → Calls Tryz.prog 111 #[.int .i64 (c % 60), .int .i64 2] V (StrB (padB (c % 60) 2) V)) := fun V hV => twoR_any (c % 60) 2 V (by omega) (by omega) (by omega) (by omega) (HPW.out V hV)
  have s2 := padB_size (n := c / 60) (d := 2) (by omega) (by omega)
  have s3 := padB_size (n := c % 60) (d := 2) (by omega) (by omega)
  have HQ : Hid (fmtClock c = padB (c / 60) 2 ++ colS ++ padB (c % 60) 2) := rfl
  rw [HQ.out]
  generalize padB (c / 60) 2 = P2 at *
  generalize padB (c % 60) 2 = P3 at *
  have u1 : c.tdiv 60 = c / 60 := Int.tdiv_eq_ediv_of_nonneg h0
  have u2 : c.tmod 60 = c % 60 := Int.tmod_eq_emod_of_nonneg h0
  have u3 : IntKind.i64.wrap (c / 60) = c / 60 := IntWalk.i64_in _ (by omega)
  have u4 : IntKind.i64.wrap (c % 60) = c % 60 := IntWalk.i64_in _ (by omega)
  have u5 : ¬ c < 0 := by omega
  have u6 : ¬ (1440 : Int) ≤ c := by omega
  have u7 : ¬ (1439 : Int) < c := by omega
  have q1 : ¬ 9223372036854775807 < P2.size + 1 := by omega
  have q2 : ¬ 9223372036854775807 < P2.size + 1 + P3.size := by omega
  have q3 : ¬ 9223372036854775807 < (P2 ++ (⟨#[58]⟩ : ByteArray)).size + P3.size := by rw [ByteArray.size_append, show (⟨#[58]⟩ : ByteArray).size = 1 from rfl]; omega
  go_enter Tryz.func115, Tryz.ntmps115
  go_wp2_with fail
  refine (HP2.out w (Below.refl _ _)).mono ?_
  rintro e w1 ⟨rfl, hb1⟩
  go_wp2_with fail
  refine (HP3.out w1 hb1).mono ?_
  rintro e w2 ⟨rfl, hb2⟩
  have hfin : Below w.heap.size w w2 := hb1.trans (hb2.mono hb1.size)
  go_wp2_with fail
  go_ret2
  exact ⟨rfl, hfin⟩
set_option maxRecDepth 100000 in
set_option maxHeartbeats 1600000 in
theorem formatInstantR_any (t : Int) (w : World) (h0 : 0 ≤ t) (h1 : t < 52596000) (hp : Pow10 w) : Calls Tryz.prog 72 #[.int .i64 t] w (InsPost t w) := by
  have HPW : Hid (∀ V, Below w.heap.size w V → Pow10 V) := fun V hV => hp.next hV
  have u5 : ¬ t < 0 := by omega
  have u6 : ¬ (52596000 : Int) ≤ t := by omega
  have HSP := Lib.hid (splitMinuteR_any t w h0 h1)
  have HDO := Lib.hid (dateOfR_any (t / 1440) w (by omega) (by omega))
  have HCL : Hid (∀ V, Below w.heap.size w V → Calls Tryz.prog 115 #[.int .i64 (t % 1440)] V (TxtB (fmtClock (t % 1440)) V)) := fun V hV => formatClockR_any (t % 1440) V (by omega) (by omega) (HPW.out V hV)
  have hcs := fmtClock_size (c := t % 1440) (by omega) (by omega)
  have HIS : Hid (∀ y m d, validB y m d = true → dayB y m d = t / 1440 → IsIns t (fmtDate y m d ++ blankS ++ fmtClock (t % 1440))) := fun y m d a b => ⟨y, m, d, a, b, rfl⟩
  generalize fmtClock (t % 1440) = C at *
  go_enter Tryz.func72, Tryz.ntmps72
  go_wp2_with fail
  refine HSP.out.mono ?_
  rintro e w' ⟨rfl, rfl⟩
  go_wp2_with fail
  refine HDO.out.mono ?_
  rintro e w1 ⟨y, m, d, rfl, hv, hd, hb1⟩
  have HI := Lib.hid (HIS.out y m d hv hd)
  have hds := fmtDate_size hv
  have hb2 : Below w.heap.size w (w1.alloc (.cells #[.int .i64 y, .int .i64 m, .int .i64 d] 133)) := hb1.alloc hb1.size _
  have hr2 := heap_alloc_new w1 (.cells #[.int .i64 y, .int .i64 m, .int .i64 d] 133)
  have HFD := Lib.hid (formatDateR_any y m d (w1.alloc (.cells #[.int .i64 y, .int .i64 m, .int .i64 d] 133)) hv (HPW.out _ hb2))
  have HB2 := Lib.hid hb2
  generalize fmtDate y m d = D at *
  have q1 : ¬ 9223372036854775807 < D.size + 1 := by omega
  have q2 : ¬ 9223372036854775807 < D.size + 1 + C.size := by omega
  have q3 : ¬ 9223372036854775807 < (D ++ (⟨#[32]⟩ : ByteArray)).size + C.size := by rw [ByteArray.size_append, show (⟨#[32]⟩ : ByteArray).size = 1 from rfl]; omega
  have z0 := block_cell hr2 0; have z1 := block_cell hr2 1; have z2 := block_cell hr2 2
  clear hb1 hv hd hb2 hr2 HIS HSP HDO
  go_wp2_with fail
  refine HFD.out.mono ?_
  rintro e w2 ⟨rfl, hb3⟩
  have hb4 : Below w.heap.size w w2 := HB2.out.trans (hb3.mono HB2.out.size)
  clear HFD hb3 z0 z1 z2
  go_wp2_with fail
  refine (HCL.out w2 hb4).mono ?_
  rintro e w3 ⟨rfl, hb5⟩
  have HB6 : Hid (Below w.heap.size w w3) := hb4.trans (hb5.mono hb4.size)
  clear hb4 hb5
  go_wp2_with fail
  go_ret2
  exact ⟨_, rfl, HI.out, HB6.out⟩
theorem instantTxtR_any (t : Int) (w : World) (h0 : 0 ≤ t) (h1 : t < 52596000) (hp : Pow10 w) : Calls Tryz.prog 29 #[.int .i64 t] w fun e w' => ∃ s, e = .returned (.string s) ∧ IsIns t s ∧ Below w.heap.size w w' := by
  go_enter Tryz.func29, Tryz.ntmps29
  go_wp2_with fail
  refine (formatInstantR_any t w h0 h1 hp).mono ?_
  rintro e w1 ⟨s, rfl, hi, hb⟩
  have HI := Lib.hid hi
  clear hi
  go_wp2_with fail
  go_ret
  exact ⟨s, rfl, HI.out, hb⟩
end Go.Proofs.YtldeoaddogifpaaGreatDoor
/-
  Contracts of the reference's ParseDuration, FormatDuration, and of pairingref9's duration (the text).
  Condition: the string's length fits an int; the number lies in the limits; the table of powers of ten is laid.
-/
namespace Go.Proofs.YtldeoaddogifpaaGreatDoor
set_option linter.unusedSimpArgs false
set_option linter.unusedVariables false
open Go.RowKit

def DurPost (s : ByteArray) (w : World) (e : Ending) (w' : World) : Prop := e = .returned (.tuple #[.int .i64 (durB s).1, .int .i64 (durB s).2]) ∧ w = w'
theorem durD_congr (t : ByteArray) {p q : Prop} [Decidable p] [Decidable q] (h : p ↔ q) : durD t p = durD t q := by
  unfold durD
  by_cases hp : p
  · have hq := h.1 hp
    simp only [hp, hq]
  · have hq : ¬ q := fun x => hp (h.2 x)
    simp only [hp, hq]
theorem digits_bd11 (x : ByteArray) : 0 ≤ (digitsB x 1 11).1 ∧ (digitsB x 1 11).1 ≤ 99999999999 := by
  unfold digitsB
  split
  · decide
  · split
    · decide
    · rename_i h1 h2
      have h := numTo_bd x x.size (by simpa using h2)
      have hb : bnd x.size ≤ bnd 11 := bnd_mono (by omega)
      have e : bnd 11 = 99999999999 := rfl
      rw [e] at hb
      dsimp only
      omega
theorem digits_bd2 (x : ByteArray) : 0 ≤ (digitsB x 2 2).1 ∧ (digitsB x 2 2).1 ≤ 99 := by
  unfold digitsB
  split
  · decide
  · split
    · decide
    · rename_i h1 h2
      have h := numTo_bd x x.size (by simpa using h2)
      have hb : bnd x.size ≤ bnd 2 := bnd_mono (by omega)
      have e : bnd 2 = 99 := rfl
      rw [e] at hb
      dsimp only
      omega
set_option maxHeartbeats 3200000 in
set_option maxRecDepth 100000 in
theorem parseDurationR_any (s : ByteArray) (w : World) (hs : s.size ≤ maxLen) : Calls Tryz.prog 60 #[.string s] w (DurPost s w) := by
  unfold maxLen at hs
  unfold DurPost
  have hse := stripB_eq s
  have hds := stripB_size s
  have hD : durB s = durD (stripB s) ((stripB s).size < s.size) := rfl
  by_cases h0 : 0 < s.size
  case neg =>
    have hz : s.size = 0 := by omega
    have HR : Hid (durB s = (0, 1)) := by
      show _ = _
      rw [hD]; unfold durD
      rw [if_pos (by rw [hds]; split <;> omega)]
    have q0 : ¬ (0 : Int) < (s.size : Int) := by omega
    have q1 : IntKind.i64.wrap ((s.size : Int) - 3) = (s.size : Int) - 3 := IntWalk.i64_in _ (by omega)
    have q2 : (s.size : Int) - 3 < 1 := by omega
    clear hse hds hD h0 hz
    go_enter Tryz.func60, Tryz.ntmps60
    go_wp2_with fail
    go_ret2
    exact ⟨by rw [HR.out]; rfl, rfl⟩
  have HB0 := Lib.hid (byteAt_eq s 0 h0)
  by_cases h45 : byteAt s 0 = 45
  · have e0 : ((s[0].toNat : Int) == 45) = true := by rw [HB0.out]; simpa using h45
    rw [if_pos ⟨h0, h45⟩] at hse hds
    have HD : Hid (durB s = durD (stripB s) True) := by show _ = _; rw [hD]; exact durD_congr _ ⟨fun _ => trivial, fun _ => by omega⟩
    have HSE := Lib.hid hse
    have htz : (stripB s).size ≤ 9223372036854775807 := by omega
    have q00 : (0 : Int) < (s.size : Int) := by omega
    have q01 : (1 : Int) ≤ (s.size : Int) := by omega
    clear hD h45 hse hds
    go_enter Tryz.func60, Tryz.ntmps60
    go_upto_region 4 with (fail)
    rw [← HSE.out]
    clear HSE e0
    generalize stripB s = t at *
    by_cases h4 : t.size < 4
    · have HR : Hid (durB s = (0, 1)) := by show _ = _; rw [HD.out]; unfold durD; rw [if_pos h4]
      have q0 : IntKind.i64.wrap ((t.size : Int) - 3) = (t.size : Int) - 3 := IntWalk.i64_in _ (by omega)
      have q1 : (t.size : Int) - 3 < 1 := by omega
      clear HD h4
      go_wp2_with fail
      go_ret2
      exact ⟨by rw [HR.out]; rfl, rfl⟩
    obtain ⟨k, hk⟩ : ∃ k, t.size = k + 3 := ⟨t.size - 3, by omega⟩
    have q0 : IntKind.i64.wrap ((t.size : Int) - 3) = (k : Int) := by rw [hk]; rw [show (((k + 3 : Nat) : Int) - 3) = (k : Int) by omega]; exact IntWalk.i64_in _ (by omega)
    have q1 : ¬ (k : Int) < 1 := by omega
    have q2 : (k : Int) < (t.size : Int) := by omega
    have hkl : k < t.size := by omega
    have HB := Lib.hid (byteAt_eq t k hkl)
    have HK := Lib.hid hk
    have HH : Hid (durH t = t.extract 0 k) := by show _ = _; unfold durH; rw [hk, Nat.add_sub_cancel]
    have HM : Hid (durM t = t.extract (k + 1) t.size) := by show _ = _; unfold durM; rw [show t.size - 2 = k + 1 by omega]
    have q3 : IntKind.i64.wrap ((k : Int) + 1) = (k : Int) + 1 := IntWalk.i64_in _ (by omega)
    have q4 : (k : Int) + 1 ≤ (t.size : Int) := by omega
    have q5 : (k : Int) ≤ (t.size : Int) := by omega
    have q6 : ((k : Int) + 1).toNat = k + 1 := by omega
    have HD4 : Hid (durB s = if ¬ byteAt t k = 58 then (0, 1) else
          if (digitsB (t.extract 0 k) 1 11).2 = false ∨ (digitsB (t.extract (k + 1) t.size) 2 2).2 = false ∨ plainB (t.extract 0 k) = false ∨ (True ∧ (digitsB (t.extract 0 k) 1 11).1 = 0 ∧ (digitsB (t.extract (k + 1) t.size) 2 2).1 = 0) then (0, 1) else
            if 59 < (digitsB (t.extract (k + 1) t.size) 2 2).1 ∨ 1099511627776 < 60 * (digitsB (t.extract 0 k) 1 11).1 + (digitsB (t.extract (k + 1) t.size) 2 2).1 then (0, 5) else
              (if True then -(60 * (digitsB (t.extract 0 k) 1 11).1 + (digitsB (t.extract (k + 1) t.size) 2 2).1) else 60 * (digitsB (t.extract 0 k) 1 11).1 + (digitsB (t.extract (k + 1) t.size) 2 2).1, 0)) := by
      show _ = _
      rw [HD.out, ← HH.out, ← HM.out]
      unfold durD
      rw [if_neg h4, show t.size - 3 = k by omega]
    have HDH : Hid (∀ V : World, Calls Tryz.prog 99 #[.string (t.extract 0 k), .int .i64 1, .int .i64 11] V (DigitsPost (t.extract 0 k) 1 11 V)) := fun V => digits_any _ 1 11 V (by decide)
    have HDM : Hid (∀ V : World, Calls Tryz.prog 99 #[.string (t.extract (k + 1) t.size), .int .i64 2, .int .i64 2] V (DigitsPost (t.extract (k + 1) t.size) 2 2 V)) := fun V => digits_any _ 2 2 V (by decide)
    have HPL : Hid (∀ V : World, Calls Tryz.prog 100 #[.string (t.extract 0 k)] V fun e w' => e = .returned (.bool (plainB (t.extract 0 k))) ∧ V = w') := fun V => plain_any _ V
    have hdh := digits_bd11 (t.extract 0 k)
    have hdm := digits_bd2 (t.extract (k + 1) t.size)
    unfold DigitsPost at HDH HDM
    generalize plainB (t.extract 0 k) = pl at *
    generalize digitsB (t.extract 0 k) 1 11 = dh at *
    generalize digitsB (t.extract (k + 1) t.size) 2 2 = dm at *
    obtain ⟨h, a⟩ := dh
    obtain ⟨m, b⟩ := dm
    simp only at HDH HDM hdh hdm HD4
    obtain ⟨hh0, hh1⟩ := hdh
    obtain ⟨hm0, hm1⟩ := hdm
    clear HD h4 hk HH HM
    by_cases h58 : byteAt t k = 58
    case neg =>
      have h58' : ((t[k].toNat : Int) != 58) = true := by rw [HB.out]; simpa using h58
      have HR : Hid (durB s = (0, 1)) := by show _ = _; rw [HD4.out, if_pos h58]
      clear h58 HD4
      go_wp2_with fail
      go_ret2
      exact ⟨by rw [HR.out]; rfl, rfl⟩
    have h58' : ((t[k].toNat : Int) != 58) = false := by rw [HB.out]; simpa using h58
    rw [if_neg (by simpa using h58)] at HD4
    clear h58
    go_wp2_with fail
    refine (HDH.out _).mono ?_
    rintro e w' ⟨rfl, rfl⟩
    go_wp2_with fail
    refine (HDM.out _).mono ?_
    rintro e w' ⟨rfl, rfl⟩
    cases a with
    | false =>
      have HR : Hid (durB s = (0, 1)) := by show _ = _; rw [HD4.out, if_pos (.inl rfl)]
      clear HD4
      go_wp2_with fail
      go_ret2
      exact ⟨by rw [HR.out]; rfl, rfl⟩
    | true =>
    cases b with
    | false =>
      have HR : Hid (durB s = (0, 1)) := by show _ = _; rw [HD4.out, if_pos (.inr (.inl rfl))]
      clear HD4
      go_wp2_with fail
      go_ret2
      exact ⟨by rw [HR.out]; rfl, rfl⟩
    | true =>
    go_wp2_with fail
    refine (HPL.out _).mono ?_
    rintro e w' ⟨rfl, rfl⟩
    cases pl with
    | false =>
      have HR : Hid (durB s = (0, 1)) := by show _ = _; rw [HD4.out, if_pos (.inr (.inr (.inl rfl)))]
      clear HD4
      go_wp2_with fail
      go_ret2
      exact ⟨by rw [HR.out]; rfl, rfl⟩
    | true =>
    have q7 : IntKind.i64.wrap (60 * h) = 60 * h := IntWalk.i64_in _ (by omega)
    have q8 : IntKind.i64.wrap (60 * h + m) = 60 * h + m := IntWalk.i64_in _ (by omega)
    by_cases hz : h = 0 ∧ m = 0
    · have HR : Hid (durB s = (0, 1)) := by show _ = _; rw [HD4.out, if_pos (.inr (.inr (.inr ⟨trivial, hz⟩)))]
      obtain ⟨rfl, rfl⟩ := hz
      clear HD4
      go_wp2_with fail
      go_ret2
      exact ⟨by rw [HR.out]; rfl, rfl⟩
    rw [if_neg (by rintro (h | h | h | ⟨_, h⟩); cases h; cases h; cases h; exact hz h)] at HD4
    have hz' : (h == 0) = false ∨ ((h == 0) = true ∧ (m == 0) = false) := by
      by_cases h0 : h = 0
      · exact .inr ⟨by simpa using h0, by simpa using fun h1 => hz ⟨h0, h1⟩⟩
      · exact .inl (by simpa using h0)
    clear hz
    have q9 : IntKind.i64.wrap (-(60 * h + m)) = -(60 * h + m) := IntWalk.i64_in _ (by omega)
    rcases hz' with hz1 | ⟨hz1, hz2⟩
    all_goals
      by_cases hbig : 59 < m ∨ 1099511627776 < 60 * h + m
      · have HR : Hid (durB s = (0, 5)) := by show _ = _; rw [HD4.out, if_pos hbig]
        have hb2 : (59 < m) ∨ (¬ 59 < m ∧ 1099511627776 < 60 * h + m) := by omega
        clear HD4 hbig
        rcases hb2 with hb2 | ⟨hb2, hb3⟩
        all_goals
          go_wp2_with fail
          go_ret2
          exact ⟨by rw [HR.out]; rfl, rfl⟩
      · have HR : Hid (durB s = (-(60 * h + m), 0)) := by show _ = _; rw [HD4.out, if_neg hbig, if_pos trivial]
        have hb2 : ¬ 59 < m := by omega
        have hb3 : ¬ 1099511627776 < 60 * h + m := by omega
        clear HD4 hbig
        go_wp2_with fail
        go_ret2
        exact ⟨by rw [HR.out]; rfl, rfl⟩
  · have e0 : ((s[0].toNat : Int) == 45) = false := by rw [HB0.out]; simpa using h45
    rw [if_neg (fun h => h45 h.2)] at hse hds
    have HD : Hid (durB s = durD s False) := by show _ = _; rw [hD, durD_congr (q := False) _ ⟨fun h => by omega, fun h => h.elim⟩, hse]
    have htz : s.size ≤ 9223372036854775807 := hs
    have q00 : (0 : Int) < (s.size : Int) := by omega
    clear hD h45 hse hds
    go_enter Tryz.func60, Tryz.ntmps60
    go_upto_region 4 with (fail)
    clear HB0 e0
    by_cases h4 : s.size < 4
    · have HR : Hid (durB s = (0, 1)) := by show _ = _; rw [HD.out]; unfold durD; rw [if_pos h4]
      have q0 : IntKind.i64.wrap ((s.size : Int) - 3) = (s.size : Int) - 3 := IntWalk.i64_in _ (by omega)
      have q1 : (s.size : Int) - 3 < 1 := by omega
      clear HD h4
      go_wp2_with fail
      go_ret2
      exact ⟨by rw [HR.out]; rfl, rfl⟩
    obtain ⟨k, hk⟩ : ∃ k, s.size = k + 3 := ⟨s.size - 3, by omega⟩
    have q0 : IntKind.i64.wrap ((s.size : Int) - 3) = (k : Int) := by rw [hk]; rw [show (((k + 3 : Nat) : Int) - 3) = (k : Int) by omega]; exact IntWalk.i64_in _ (by omega)
    have q1 : ¬ (k : Int) < 1 := by omega
    have q2 : (k : Int) < (s.size : Int) := by omega
    have hkl : k < s.size := by omega
    have HB := Lib.hid (byteAt_eq s k hkl)
    have HK := Lib.hid hk
    have HH : Hid (durH s = s.extract 0 k) := by show _ = _; unfold durH; rw [hk, Nat.add_sub_cancel]
    have HM : Hid (durM s = s.extract (k + 1) s.size) := by show _ = _; unfold durM; rw [show s.size - 2 = k + 1 by omega]
    have q3 : IntKind.i64.wrap ((k : Int) + 1) = (k : Int) + 1 := IntWalk.i64_in _ (by omega)
    have q4 : (k : Int) + 1 ≤ (s.size : Int) := by omega
    have q5 : (k : Int) ≤ (s.size : Int) := by omega
    have q6 : ((k : Int) + 1).toNat = k + 1 := by omega
    have HD4 : Hid (durB s = if ¬ byteAt s k = 58 then (0, 1) else
          if (digitsB (s.extract 0 k) 1 11).2 = false ∨ (digitsB (s.extract (k + 1) s.size) 2 2).2 = false ∨ plainB (s.extract 0 k) = false ∨ (False ∧ (digitsB (s.extract 0 k) 1 11).1 = 0 ∧ (digitsB (s.extract (k + 1) s.size) 2 2).1 = 0) then (0, 1) else
            if 59 < (digitsB (s.extract (k + 1) s.size) 2 2).1 ∨ 1099511627776 < 60 * (digitsB (s.extract 0 k) 1 11).1 + (digitsB (s.extract (k + 1) s.size) 2 2).1 then (0, 5) else
              (if False then -(60 * (digitsB (s.extract 0 k) 1 11).1 + (digitsB (s.extract (k + 1) s.size) 2 2).1) else 60 * (digitsB (s.extract 0 k) 1 11).1 + (digitsB (s.extract (k + 1) s.size) 2 2).1, 0)) := by
      show _ = _
      rw [HD.out, ← HH.out, ← HM.out]
      unfold durD
      rw [if_neg h4, show s.size - 3 = k by omega]
    have HDH : Hid (∀ V : World, Calls Tryz.prog 99 #[.string (s.extract 0 k), .int .i64 1, .int .i64 11] V (DigitsPost (s.extract 0 k) 1 11 V)) := fun V => digits_any _ 1 11 V (by decide)
    have HDM : Hid (∀ V : World, Calls Tryz.prog 99 #[.string (s.extract (k + 1) s.size), .int .i64 2, .int .i64 2] V (DigitsPost (s.extract (k + 1) s.size) 2 2 V)) := fun V => digits_any _ 2 2 V (by decide)
    have HPL : Hid (∀ V : World, Calls Tryz.prog 100 #[.string (s.extract 0 k)] V fun e w' => e = .returned (.bool (plainB (s.extract 0 k))) ∧ V = w') := fun V => plain_any _ V
    have hdh := digits_bd11 (s.extract 0 k)
    have hdm := digits_bd2 (s.extract (k + 1) s.size)
    unfold DigitsPost at HDH HDM
    generalize plainB (s.extract 0 k) = pl at *
    generalize digitsB (s.extract 0 k) 1 11 = dh at *
    generalize digitsB (s.extract (k + 1) s.size) 2 2 = dm at *
    obtain ⟨h, a⟩ := dh
    obtain ⟨m, b⟩ := dm
    simp only at HDH HDM hdh hdm HD4
    obtain ⟨hh0, hh1⟩ := hdh
    obtain ⟨hm0, hm1⟩ := hdm
    clear HD h4 hk HH HM
    by_cases h58 : byteAt s k = 58
    case neg =>
      have h58' : ((s[k].toNat : Int) != 58) = true := by rw [HB.out]; simpa using h58
      have HR : Hid (durB s = (0, 1)) := by show _ = _; rw [HD4.out, if_pos h58]
      clear h58 HD4
      go_wp2_with fail
      go_ret2
      exact ⟨by rw [HR.out]; rfl, rfl⟩
    have h58' : ((s[k].toNat : Int) != 58) = false := by rw [HB.out]; simpa using h58
    rw [if_neg (by simpa using h58)] at HD4
    clear h58
    go_wp2_with fail
    refine (HDH.out _).mono ?_
    rintro e w' ⟨rfl, rfl⟩
    go_wp2_with fail
    refine (HDM.out _).mono ?_
    rintro e w' ⟨rfl, rfl⟩
    cases a with
    | false =>
      have HR : Hid (durB s = (0, 1)) := by show _ = _; rw [HD4.out, if_pos (.inl rfl)]
      clear HD4
      go_wp2_with fail
      go_ret2
      exact ⟨by rw [HR.out]; rfl, rfl⟩
    | true =>
    cases b with
    | false =>
      have HR : Hid (durB s = (0, 1)) := by show _ = _; rw [HD4.out, if_pos (.inr (.inl rfl))]
      clear HD4
      go_wp2_with fail
      go_ret2
      exact ⟨by rw [HR.out]; rfl, rfl⟩
    | true =>
    go_wp2_with fail
    refine (HPL.out _).mono ?_
    rintro e w' ⟨rfl, rfl⟩
    cases pl with
    | false =>
      have HR : Hid (durB s = (0, 1)) := by show _ = _; rw [HD4.out, if_pos (.inr (.inr (.inl rfl)))]
      clear HD4
      go_wp2_with fail
      go_ret2
      exact ⟨by rw [HR.out]; rfl, rfl⟩
    | true =>
    have q7 : IntKind.i64.wrap (60 * h) = 60 * h := IntWalk.i64_in _ (by omega)
    have q8 : IntKind.i64.wrap (60 * h + m) = 60 * h + m := IntWalk.i64_in _ (by omega)
    rw [if_neg (by rintro (h | h | h | ⟨h, _⟩); cases h; cases h; cases h; exact h)] at HD4
    by_cases hbig : 59 < m ∨ 1099511627776 < 60 * h + m
    · have HR : Hid (durB s = (0, 5)) := by show _ = _; rw [HD4.out, if_pos hbig]
      have hb2 : (59 < m) ∨ (¬ 59 < m ∧ 1099511627776 < 60 * h + m) := by omega
      clear HD4 hbig
      rcases hb2 with hb2 | ⟨hb2, hb3⟩
      all_goals
        go_wp2_with fail
        go_ret2
        exact ⟨by rw [HR.out]; rfl, rfl⟩
    · have HR : Hid (durB s = (60 * h + m, 0)) := by show _ = _; rw [HD4.out, if_neg hbig, if_neg (by simp)]
      have hb2 : ¬ 59 < m := by omega
      have hb3 : ¬ 1099511627776 < 60 * h + m := by omega
      clear HD4 hbig
      go_wp2_with fail
      go_ret2
      exact ⟨by rw [HR.out]; rfl, rfl⟩
end Go.Proofs.YtldeoaddogifpaaGreatDoor
/-
  XRegion's rule for a region that draws its order, with a preorder of worlds of one's own in place of Below.
  No condition.
-/
namespace Go.Proofs.YtldeoaddogifpaaGreatDoor
set_option linter.unusedSimpArgs false
set_option linter.unusedVariables false
open Go.RowKit Go

/-- What holds on the way through the heads. -/
structure HIR (R : World → World → Prop) (ops : Array Oper) (n : Nat) (a : Act) (W : World) (F : Nat → Value → World → Prop) (listed : Array Bool) (a' : Act) (w' : World) : Prop where
  lsize : listed.size = ops.size
  tail : ∀ t, n ≤ t → listed.getD t false = false
  defers : a'.defers = a.defers
  size : a'.tmps.size = a.tmps.size
  out : ∀ s, (∀ j, j < n → dstOf ops j ≠ some s) → a'.tmps[s]? = a.tmps[s]?
  facts : ∀ i d, i < n → listed.getD i false = true → dstOf ops i = some d → F i (a'.tmps.getD d undef) w'
  grow : R W w'

section
variable {R : World → World → Prop} {P : Program} {ops : Array Oper} {Q : Exit → Act → World → Prop} {n : Nat} {a : Act} {W : World} {F : Nat → Value → World → Prop}
theorem wpAny_factsR (hRt : ∀ {x y z : World}, R x y → R y z → R x z) {l : List Oper} (hl : l.toArray = ops) (hh : HeadFacts ops n a.tmps.size) (hseq : Region.seqB .any ops (ops.size - n) n (headListed ops n) = true)
    (hF : ∀ i v w w', F i v w → R w w' → F i v w')
    (hstep : ∀ i o, i < n → ops[i]? = some o → ∀ a' w', R W w' → (∀ s, (∀ j, j < n → dstOf ops j ≠ some s) → a'.tmps[s]? = a.tmps[s]?) →
      (∀ e ∈ o.after, ∀ d, dstOf ops e.on = some d → F e.on (a'.tmps.getD d undef) w') → ∀ K : Act → World → Prop, (∀ v w'', F i v w'' → R w' w'' → K (a'.put o.dst v) w'') → o.wp P a' w' K Q)
    (hfin : ∀ us w', R W w' → (∀ i, i < n → F i (us i) w') → wpList P ops Q (l.drop n) (putAll ops a us n) w') (hb : ∀ (i : Nat) (o : Oper), ops[i]? = some o → ∀ e ∈ o.after, Region.binds .any e = true) :
    ∀ (f : Nat) (listed : Array Bool) (a' : Act) (w' : World), left n listed = f → HIR R ops n a W F listed a' w' → wpAny P .any ops Q (f + (ops.size - n)) listed a' w' := by
  have hdl : (l.drop n).length = ops.size - n := by rw [List.length_drop, ← hl]; simp
  intro f
  induction f with
  | zero =>
    intro listed a' w' hlf hi
    have hall := left_zero hlf
    have e1 : listed = headListed ops n := by
      apply Array.ext
      · rw [hi.lsize]; simp [headListed]
      · intro k h1 h2
        have hk : k < ops.size := by rw [← hi.lsize]; exact h1
        have e3 : (headListed ops n)[k] = decide (k < n) := by simp [headListed]
        rw [e3]
        by_cases hkn : k < n
        · have := hall k hkn
          simp [h1] at this
          rw [this]; simp [hkn]
        · have := hi.tail k (by omega)
          simp [h1] at this
          rw [this]; simp [hkn]
    have e2 : a' = putAll ops a (fun i => a'.tmps.getD ((dstOf ops i).getD 0) undef) n := by
      have es : a'.tmps = (putAll ops a (fun i => a'.tmps.getD ((dstOf ops i).getD 0) undef) n).tmps := by
        apply Array.ext_getElem?
        intro s
        by_cases hs : ∃ i, i < n ∧ dstOf ops i = some s
        · obtain ⟨i, hin, hd⟩ := hs
          obtain ⟨d, hd', hlt⟩ := hh.dst i hin
          rw [hd] at hd'
          injection hd' with hd'
          subst hd'
          rw [putAll_in hlt hd hin fun j hj hji e => hji (hh.inj j i s hj hin e hd)]
          have : s < a'.tmps.size := by rw [hi.size]; exact hlt
          simp [hd, this]
        · rw [putAll_out fun j hj e => hs ⟨j, hj, e⟩]
          exact hi.out s fun j hj e => hs ⟨j, hj, e⟩
      have ed : a'.defers = (putAll ops a (fun i => a'.tmps.getD ((dstOf ops i).getD 0) undef) n).defers := by rw [putAll_defers]; exact hi.defers
      cases ha : a' with
      | mk t d =>
        rw [ha] at es ed
        cases hp : putAll ops a (fun i => (Act.mk t d).tmps.getD ((dstOf ops i).getD 0) undef) n with
        | mk t2 d2 =>
          rw [hp] at es ed
          simp only at es ed
          rw [es, ed]
    rw [Nat.zero_add, ← hdl]
    subst e1
    refine wpAny_of_seq (l.drop n) n _ a' w' (fun j => by rw [List.getElem?_drop, ← hl]; simp) (by rw [hdl]; exact hseq) ?_
    rw [e2]
    exact hfin _ w' hi.grow fun i hin => by
      obtain ⟨d, hd, _⟩ := hh.dst i hin
      have := hi.facts i d hin (hall i hin) hd
      simp only [hd, Option.getD_some]
      exact this
  | succ f ih =>
    intro listed a' w' hlf hi
    rw [show f + 1 + (ops.size - n) = (f + (ops.size - n)) + 1 by omega]
    have hle := hh.le
    refine ⟨fun h0 => ?_, fun i hr => ?_⟩
    · exfalso
      have hex : ∃ i, i < n ∧ listed.getD i false = false := by
        have hne : (List.range n).filter (fun i => !listed.getD i false) ≠ [] := fun e => by
          unfold left at hlf
          rw [e] at hlf
          cases hlf
        obtain ⟨i, hi'⟩ := List.exists_mem_of_ne_nil _ hne
        rw [List.mem_filter, List.mem_range] at hi'
        exact ⟨i, hi'.1, by simpa using hi'.2⟩
      have key : ∀ i, i < n → listed.getD i false = true := by
        intro i
        induction i using Nat.strongRecOn with
        | _ i ihi =>
          intro hin
          cases hli : listed.getD i false with
          | true => rfl
          | false =>
            exfalso
            have hil : i < listed.size := by rw [hi.lsize]; omega
            have hmem : i ∈ Region.ready .any ops listed := by
              rw [mem_ready]
              have hio : i < ops.size := by omega
              refine ⟨getD_in hil hli, ops[i], by simp [hio], fun e he _ => ?_⟩
              have hlt := hh.back i _ hin (by simp [hio]) e he
              exact ihi e.on hlt (by omega)
            rw [h0] at hmem
            cases hmem
      obtain ⟨i, hin, hlf'⟩ := hex
      rw [key i hin] at hlf'
      cases hlf'
    · obtain ⟨hun, o, ho, hall⟩ := mem_ready.1 hr
      have hun' := getD_both hun
      have hio : i < ops.size := (Array.getElem?_eq_some_iff.1 ho).1
      have hin : i < n := by
        rcases Nat.lt_or_ge i n with h | h
        · exact h
        · exfalso
          have hz : left n listed = 0 := by
            unfold left
            rw [List.length_eq_zero_iff, List.filter_eq_nil_iff]
            intro j hj
            obtain ⟨e, he, hon, hbd⟩ := hh.cover i o h ho j (List.mem_range.1 hj)
            have := hall e he hbd
            rw [hon] at this
            rw [this]
            simp
          omega
      have hil : i < listed.size := by rw [hi.lsize]; exact hio
      unfold wpOp
      rw [ho]
      have hwant : Region.wanted o (yielded ops a'.tmps) = true := by simp [Region.wanted, hh.guard i o hin ho]
      simp only [hwant, if_true]
      refine .inl (hstep i o hin ho a' w' hi.grow hi.out (fun e he d hd => ?_) _ fun v w'' hfv hbl => ?_)
      · exact hi.facts e.on d (Nat.lt_trans (hh.back i o hin ho e he) hin) (hall e he (hb i o ho e he)) hd
      · obtain ⟨d, hd, hdl'⟩ := hh.dst i hin
        have hod : o.dst = some d := by
          have : dstOf ops i = o.dst := by unfold dstOf; rw [ho]; rfl
          rw [← this]; exact hd
        refine ih _ _ _ ?_ ⟨by simpa using hi.lsize, fun t ht => by rw [getD_set_ne false (by omega)]; exact hi.tail t ht, ?_, ?_, fun s hs => ?_, fun j d' hj hlj hdj => ?_, hRt hi.grow hbl⟩
        · have := left_set hin hil hun'
          omega
        · rw [hod]; exact hi.defers
        · rw [hod]; simpa [Act.put] using hi.size
        · rw [hod]
          simp only [Act.put]
          rw [Array.getElem?_setIfInBounds_ne (fun e => hs i hin (by rw [hd, e]))]
          exact hi.out s hs
        · rw [hod]
          by_cases hji : j = i
          · subst hji
            rw [hd] at hdj
            injection hdj with hdj
            subst hdj
            have : d < a'.tmps.size := by rw [hi.size]; exact hdl'
            simp only [Act.put]
            simpa [this] using hfv
          · have hne : d ≠ d' := fun e => hji (hh.inj j i d' hj hin hdj (e ▸ hd))
            rw [getD_set_ne false (fun e => hji e.symm)] at hlj
            have h9 := hF j _ _ _ (hi.facts j d' hj hlj hdj) hbl
            simp only [Act.put]
            simpa [Array.getElem?_setIfInBounds_ne hne] using h9
/-- THE RULE. -/
theorem wp_region_factsR (R : World → World → Prop) (hRt : ∀ {x y z : World}, R x y → R y z → R x z) {id : Nat} {l : List Oper} {w : World} (n : Nat) (ds : List Nat) (F : Nat → Value → World → Prop) (hD : R w { w with drawn := w.drawn + 1 }) (hm : P.follows .mixedOrders = true) (hok : headOk l.toArray n a.tmps.size = true) (hds : ((List.range n).map (dstOf l.toArray) == ds.map some) = true) (hseq : Region.seqB .any l.toArray (l.toArray.size - n) n (headListed l.toArray n) = true)
    (hbind : (l.all fun o => o.after.all fun e => Region.binds .any e) = true)
    (hF : ∀ i v w w', F i v w → R w w' → F i v w')
    (hstep : ∀ i o, i < n → l[i]? = some o → ∀ a' w', R w w' → (∀ s, s ∉ ds → a'.tmps[s]? = a.tmps[s]?) →
      (∀ e ∈ o.after, ∀ d, ds[e.on]? = some d → F e.on (a'.tmps.getD d undef) w') → ∀ K : Act → World → Prop, (∀ v w'', F i v w'' → R w' w'' → K (a'.put o.dst v) w'') → o.wp P a' w' K Q)
    (hfin : ∀ us w', R w w' → (∀ i, i < n → F i (us i) w') → wpList P l.toArray Q (l.drop n) (putL us a ds 0) w') : (Code.region id l.toArray true).wp P Q a w := by
  have hh := headFacts hok
  have hdl := beq_iff_eq.1 hds
  have hlen : ds.length = n := by
    have := congrArg List.length hdl
    simpa using this.symm
  have hdi : ∀ i, i < n → dstOf l.toArray i = ds[i]? := fun i hi => by
    have := congrArg (·[i]?) hdl
    simp only [List.getElem?_map, List.getElem?_range hi, Option.map_some] at this
    rw [List.getElem?_eq_getElem (by omega)] at this ⊢
    simpa using this
  refine wp_region_any hm ?_
  have hb : ∀ (i : Nat) (o : Oper), l.toArray[i]? = some o → ∀ e ∈ o.after, Region.binds .any e = true := fun i o ho e he => by
    have hmem : o ∈ l := by
      have : l[i]? = some o := by simpa using ho
      exact List.mem_of_getElem? this
    have h1 := List.all_eq_true.1 hbind o hmem
    rw [Array.all_eq_true] at h1
    obtain ⟨k, hk, rfl⟩ := Array.getElem_of_mem he
    exact h1 k hk
  have hl0 : left n (Array.replicate l.toArray.size false) = n := by
    unfold left
    rw [List.filter_eq_self.2 fun i _ => by rw [getD_replicate_false]; rfl, List.length_range]
  have hsz : l.toArray.size = n + (l.toArray.size - n) := by have := hh.le; omega
  have key := wpAny_factsR (P := P) (Q := Q) (ops := l.toArray) (n := n) (a := a) (W := w) (F := F) (R := R) hRt rfl hh hseq hF
    (fun i o hi ho a' w' hb' hout hpre => hstep i o hi (by simpa using ho) a' w' hb'
      (fun s hs => hout s fun j hj e => hs (by rw [hdi j hj] at e; exact List.mem_of_getElem? e))
      (fun e he d hd => hpre e he d (by
        have hlt := hh.back i o hi ho e he
        rw [hdi e.on (by omega)]; exact hd)))
    (fun us w' hb' hf => by
      have := hfin us w' hb' hf
      rw [← List.take_of_length_le (l := ds) (i := n) (by omega)] at this
      rw [putAll_eq n (by omega) hdi]
      exact this) hb n (Array.replicate l.toArray.size false) a { w with drawn := w.drawn + 1 } hl0
    ⟨by simp, fun t _ => getD_replicate_false _ _, rfl, rfl, fun _ _ => rfl, fun i d _ h _ => (by rw [getD_replicate_false] at h; cases h), hD⟩
  rw [← hsz] at key
  exact key
end
end Go.Proofs.YtldeoaddogifpaaGreatDoor
