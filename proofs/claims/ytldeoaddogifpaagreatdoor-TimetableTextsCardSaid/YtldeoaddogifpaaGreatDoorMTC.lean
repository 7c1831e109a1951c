/-
  Joined texts: TParseLine; CardLib; RefFields; Lines; TParse; Sum4; TTBack; SameTT; Example; Awake; TText; Builder. What each proves stands ahead of it, with its conditions.
-/
import Derived.Test.YtldeoaddogifpaaGreatDoorMTB
import Derived.Test.YtldeoaddogifpaaGreatDoorTTDecode
import Derived.Test.YtldeoaddogifpaaGreatDoorCards
import Derived.Test.YtldeoaddogifpaaGreatDoorTie
import Derived.WalkKit
import Derived.ProofKit
import Derived.OpenShut
import Derived.Deep.DeepHandedRow
import Derived.Lib.LaidTab
import Derived.PinnedBridge
import Derived.Lay
import Derived.Test.YtldeoaddogifpaaGreatDoorMTA
import Derived.Test.YtldeoaddogifpaaGreatDoorValidate
import Derived.Test.YtldeoaddogifpaaGreatDoorDecPlain
import Derived.Test.YtldeoaddogifpaaGreatDoorTTDec
import Derived.Test.YtldeoaddogifpaaGreatDoorFrame
import Derived.Test.YtldeoaddogifpaaGreatDoorUnframe
import Derived.Test.YtldeoaddogifpaaGreatDoorRef8Body
import Derived.Deep.RegionLaw
import Derived.Test.YtldeoaddogifpaaGreatDoorBase
import Derived.Deep.RegionHeld3
import Derived.Test.YtldeoaddogifpaaGreatDoorTTEncode
import Derived.Test.YtldeoaddogifpaaGreatDoorTTBody
import Derived.Test.YtldeoaddogifpaaGreatDoorShelf
import Derived.Test.YtldeoaddogifpaaGreatDoorWriter
import Derived.Test.YtldeoaddogifpaaGreatDoorCrc
import Derived.Laws.Externs
import Derived.OwnWalk
/-
  Contract of timetable.parseLine: the timetable in a box grows by the line's element.
  Condition: the fields read as a list of strings of no more than 20000 bytes, no more than 100000 of them; the timetable's lists are short.
-/
namespace Go.Proofs.YtldeoaddogifpaaGreatDoor
set_option linter.unusedSimpArgs false
set_option linter.unusedVariables false
open Go.RowKit

section
variable {w : World} {lo : Nat} {v1 v2 v3 : Value} {t : GTT} {P : Program} {ops : Array Oper} {o : Oper} {a : Act} {K : Act → World → Prop} {Q : Exit → Act → World → Prop} {E : Prop}
theorem step_pushZ (hgd : o.guard = none) (s x : Operand) (T : TypeId)
    (ho : o.op = .call { callee := .builtin .append, args := #[s, x], argTypes := #[T, T] }) (he : Elem P T 51 3 48) (hs : a.eval s = v1) (h : TPM w lo v1 v2 v3 t)
    (g : Nat) (z : GZone) (hx : a.eval x = .slice (some ⟨g, 0, none⟩) 1 1) (hz : ∃ cz, Ty.zone.rep w (shS w lo) cz z ∧ At w g 0 cz) (hlen : t.zones.length ≤ 1000) (hlo : lo ≤ w.heap.size)
    (hn : ∀ g' cap w', TPM w' lo (.slice (some ⟨g', 0, none⟩) (t.zones.length + 1) cap) v2 v3 (t.addZ z) → w.grownBy w' v1.ownBlock → K (a.put o.dst (.slice (some ⟨g', 0, none⟩) (t.zones.length + 1) cap)) w') :
    if Region.wanted o (yielded ops a.tmps) = true then Oper.wp P o a w K Q else E := by
  obtain ⟨i, zr, hi, hzr, h1, h2, h3⟩ := he.parts
  obtain ⟨cs, r1, r2⟩ := h.z
  obtain ⟨cz, hr, hat⟩ := hz
  refine step_append_lies _ hgd s x T ho lo 51 i zr 3 48 he.1 hi hzr h1 h2 h3 (by decide) v1 _ cs hs r1 ⟨g, 0, none⟩ 1 1 cz hx (by rw [Ty.zone.len hr]; rfl) (fun j u hu => by rw [addr_add]; exact hat j u hu) (Ty.zone.one hr) (by decide) (by unfold maxLen; omega) (by omega) hlo _ rfl ?_
  intro g' cap w' ho' hgr _ _
  exact hn g' cap w' (h.grownZ r1 r2 hr ho' hgr) hgr
theorem step_pushA (hgd : o.guard = none) (s x : Operand) (T : TypeId)
    (ho : o.op = .call { callee := .builtin .append, args := #[s, x], argTypes := #[T, T] }) (he : Elem P T 66 2 32) (hs : a.eval s = v2) (h : TPM w lo v1 v2 v3 t)
    (g : Nat) (z : GAirport) (hx : a.eval x = .slice (some ⟨g, 0, none⟩) 1 1) (hz : At w g 0 [.string z.code, .string z.zone]) (hlen : t.airports.length ≤ 1000) (hlo : lo ≤ w.heap.size)
    (hn : ∀ g' cap w', TPM w' lo v1 (.slice (some ⟨g', 0, none⟩) (t.airports.length + 1) cap) v3 (t.addA z) → w.grownBy w' v2.ownBlock → K (a.put o.dst (.slice (some ⟨g', 0, none⟩) (t.airports.length + 1) cap)) w') :
    if Region.wanted o (yielded ops a.tmps) = true then Oper.wp P o a w K Q else E :=
  step_push hgd s x T ho 32 he hs h.a g z (fun _ => False) hx ⟨_, rfl, hz⟩ (fun _ h => h.elim) (by omega) (by decide) hlo fun g' cap w' ho' hg _ => hn g' cap w' (h.grownA ho' hg) hg
theorem step_pushF (hgd : o.guard = none) (s x : Operand) (T : TypeId)
    (ho : o.op = .call { callee := .builtin .append, args := #[s, x], argTypes := #[T, T] }) (he : Elem P T 47 9 104) (hs : a.eval s = v3) (h : TPM w lo v1 v2 v3 t)
    (g : Nat) (z : GFlight) (hx : a.eval x = .slice (some ⟨g, 0, none⟩) 1 1) (hz : At w g 0 (flightCells z)) (hlen : t.flights.length ≤ 1000) (hlo : lo ≤ w.heap.size)
    (hn : ∀ g' cap w', TPM w' lo v1 v2 (.slice (some ⟨g', 0, none⟩) (t.flights.length + 1) cap) (t.addF z) → w.grownBy w' v3.ownBlock → K (a.put o.dst (.slice (some ⟨g', 0, none⟩) (t.flights.length + 1) cap)) w') :
    if Region.wanted o (yielded ops a.tmps) = true then Oper.wp P o a w K Q else E :=
  step_push hgd s x T ho 104 he hs h.f g z (fun _ => False) hx ⟨_, rfl, hz⟩ (fun _ h => h.elim) (by omega) (by decide) hlo fun g' cap w' ho' hg _ => hn g' cap w' (h.grownF ho' hg) hg
end
/-- The timetable under construction, in a box. -/
structure TBx (w : World) (tb lo : Nat) (v1 v2 v3 : Value) (t : GTT) : Prop where
  box : w.heap[tb]? = some (.cells #[v1, v2, v3] 27 (0, 0))
  m : TPM w lo v1 v2 v3 t
  lt : tb < lo
  le : lo ≤ w.heap.size
/-- Blocks ahead of lo stay, but for the box. -/
structure TKeep (tb lo : Nat) (w w' : World) : Prop where
  os : w'.os = w.os
  tape : w'.tape = w.tape
  output : w'.output = w.output
  size : w.heap.size ≤ w'.heap.size
  block : ∀ q, q < lo → q ≠ tb → w'.heap[q]? = w.heap[q]?
section
variable {w w' w'' : World} {tb lo : Nat} {v1 v2 v3 : Value} {t : GTT}
theorem TBx.next (h : TBx w tb lo v1 v2 v3 t) (hb : Below w.heap.size w w') : TBx w' tb lo v1 v2 v3 t :=
  ⟨(hb.block tb (Nat.lt_of_lt_of_le h.lt h.le)).trans h.box, h.m.next hb, h.lt, Nat.le_trans h.le hb.size⟩
theorem TBx.store0 (h : TBx w tb lo v1 v2 v3 t) (hk : w'.heap[tb]? = w.heap[tb]?) {v' : Value} {t' : GTT} (hm : TPM w' lo v' v2 v3 t') (hs : w.heap.size ≤ w'.heap.size) : TBx (w'.setCell ⟨tb, 0, none⟩ v') tb lo v' v2 v3 t' :=
  ⟨heap_setCell_same _ _ _ _ _ _ (hk.trans h.box), hm.setBox h.lt, h.lt, by simp; exact Nat.le_trans h.le hs⟩
theorem TBx.store1 (h : TBx w tb lo v1 v2 v3 t) (hk : w'.heap[tb]? = w.heap[tb]?) {v' : Value} {t' : GTT} (hm : TPM w' lo v1 v' v3 t') (hs : w.heap.size ≤ w'.heap.size) : TBx (w'.setCell ⟨tb, 1, none⟩ v') tb lo v1 v' v3 t' :=
  ⟨heap_setCell_same _ _ _ _ _ _ (hk.trans h.box), hm.setBox h.lt, h.lt, by simp; exact Nat.le_trans h.le hs⟩
theorem TBx.store2 (h : TBx w tb lo v1 v2 v3 t) (hk : w'.heap[tb]? = w.heap[tb]?) {v' : Value} {t' : GTT} (hm : TPM w' lo v1 v2 v' t') (hs : w.heap.size ≤ w'.heap.size) : TBx (w'.setCell ⟨tb, 2, none⟩ v') tb lo v1 v2 v' t' :=
  ⟨heap_setCell_same _ _ _ _ _ _ (hk.trans h.box), hm.setBox h.lt, h.lt, by simp; exact Nat.le_trans h.le hs⟩
theorem TKeep.of_below (hb : Below w.heap.size w w') (hl : lo ≤ w.heap.size) : TKeep tb lo w w' := ⟨hb.os, hb.tape, hb.output, hb.size, fun q hq _ => hb.block q (by omega)⟩
theorem TKeep.trans (h : TKeep tb lo w w') (h' : TKeep tb lo w' w'') : TKeep tb lo w w'' := ⟨h'.os.trans h.os, h'.tape.trans h.tape, h'.output.trans h.output, Nat.le_trans h.size h'.size, fun q a b => (h'.block q a b).trans (h.block q a b)⟩
theorem TKeep.grown {row : Option Nat} (h : TKeep tb lo w w') (hg : w'.grownBy w'' row) (hr : ∀ k, row = some k → lo ≤ k) (hl : lo ≤ w'.heap.size) : TKeep tb lo w w'' :=
  ⟨hg.os.trans h.os, hg.tape.trans h.tape, hg.output.trans h.output, Nat.le_trans h.size hg.size, fun q a b => (hg.block q (by omega) (fun e => by have := hr q e.symm; omega)).trans (h.block q a b)⟩
theorem TKeep.setBox (h : TKeep tb lo w w') (j : Nat) (x : Value) : TKeep tb lo w (w'.setCell ⟨tb, j, none⟩ x) :=
  ⟨h.os, h.tape, h.output, by simp; exact h.size, fun q a b => (heap_setCell_other _ _ _ _ b).trans (h.block q a b)⟩
end
def LnPost9 (fs : List ByteArray) (t : GTT) (tb lo : Nat) (w : World) (e : Ending) (w' : World) : Prop :=
  e = .returned (.bool (lineT9 fs t).isSome) ∧ TKeep tb lo w w' ∧ ∃ v1 v2 v3 t', TBx w' tb lo v1 v2 v3 t' ∧ ∀ x, lineT9 fs t = some x → t' = x
theorem line_bad9 {fs : List ByteArray} {t : GTT} {tb lo : Nat} {w w' : World} {v1 v2 v3 : Value} {t' : GTT} (h : lineT9 fs t = none) (hk : TKeep tb lo w w') (hx : TBx w' tb lo v1 v2 v3 t') : LnPost9 fs t tb lo w (.returned (.bool false)) w' :=
  ⟨by rw [h]; rfl, hk, v1, v2, v3, t', hx, fun x hx => by rw [h] at hx; cases hx⟩
theorem line_good9 {fs : List ByteArray} {t : GTT} {tb lo : Nat} {w w' : World} {v1 v2 v3 : Value} {t' : GTT} (h : lineT9 fs t = some t') (hk : TKeep tb lo w w') (hx : TBx w' tb lo v1 v2 v3 t') : LnPost9 fs t tb lo w (.returned (.bool true)) w' :=
  ⟨by rw [h]; rfl, hk, v1, v2, v3, t', hx, fun x hx => by rw [h] at hx; exact Option.some.inj hx⟩
theorem eq_zone (x : ByteArray) : (x.toList == [122, 111, 110, 101]) = decide (x = zoneS) := by
  rw [← str_beq, ByteArray.toList_eq zoneS]; rfl
theorem eq_air (x : ByteArray) : (x.toList == [97, 105, 114, 112, 111, 114, 116]) = decide (x = airS) := by
  rw [← str_beq, ByteArray.toList_eq airS]; rfl
theorem eq_fli (x : ByteArray) : (x.toList == [102, 108, 105, 103, 104, 116]) = decide (x = fliS) := by
  rw [← str_beq, ByteArray.toList_eq fliS]; rfl
set_option maxRecDepth 100000 in
set_option maxHeartbeats 6400000 in
theorem parseLine9_any (fs : List ByteArray) (A : Option Addr) (n c : Nat) (t : GTT) (tb lo : Nat) (v1 v2 v3 : Value) (w : World) (hb : TBx w tb lo v1 v2 v3 t) (hok : TtOk 1000 t) (hf : Sl Ty.str w (all_ w) A n c fs) (h1 : 1 ≤ fs.length) (hl : fs.length ≤ 100000) (hz : ∀ x ∈ fs, x.size ≤ 20000) (hg : Glo w) :
    Calls Tryz.prog 20 #[.pointer (some ⟨tb, 0, none⟩), .slice A n c] w (LnPost9 fs t tb lo w) := by
  have HPZ := Lib.hid (parseZone_any fs A n c w hf h1 hl hz hg)
  have HPF := Lib.hid (parseFlight_any fs A n c w hf h1 hl hz)
  have hn := hf.len
  obtain ⟨fb, o, rfl, hSb, hcells⟩ := fld_cells hf (by omega)
  have hfb : fb < w.heap.size := hSb
  subst hn
  have c0 : w.cell? ⟨fb, o, none⟩ = some (.string (fld fs 0)) := hcells 0 (by omega)
  have l0 : (0 : Int) < (fs.length : Int) := by omega
  have HC := Lib.hid hcells
  have HLN : Hid (lineT9 fs t = if fld fs 0 = zoneS then (if zoneBad fs = true then none else some (t.addZ (zoneF fs)))
    else if fld fs 0 = airS then (if fs.length ≠ 3 then none else some (t.addA ⟨fld fs 1, fld fs 2⟩))
    else if fld fs 0 = fliS then (if flightBad fs = true then none else some (t.addF (flightF fs))) else none) := rfl
  have ez := eq_zone (fld fs 0); have ea := eq_air (fld fs 0); have ef := eq_fli (fld fs 0)
  have HTB := Lib.hid hb
  obtain ⟨o1, o2, o3, o4⟩ := hok
  obtain ⟨A1, cp1, A2, cp2, A3, cp3, rfl, rfl, rfl, -⟩ := hb.m.sl
  have HLT := Lib.hid hb.m.lt
  have htl := hb.lt
  have hll := hb.le
  have HBX := Lib.hid hb.box
  have HTK : Hid (∀ V, Below w.heap.size w V → TKeep tb lo w V) := fun V hV => TKeep.of_below hV hll
  clear hf hz hg hSb hcells hb o1
  by_cases hz : fld fs 0 = zoneS
  · rw [decide_eq_true hz] at ez
    rw [if_pos hz] at HLN
    clear ea ef hz
    go_enter Tryz.func20, Tryz.ntmps20
    go_wp2_with fail
    refine HPZ.out.mono ?_
    rintro e w1 ⟨z, v, rfl, hown, hb1, hgood⟩
    have HB1 := Lib.hid hb1
    have hs1 := hb1.size
    obtain ⟨Av, cv, rfl, hslv⟩ := hown.slTag flat_shift
    have HSV := Lib.hid hslv
    have HGOOD := Lib.hid hgood
    have hb2 : Below w.heap.size w (w1.alloc (.cells #[.string z.name, .int .i64 z.off, .slice Av z.shifts.length cv] 51)) := hb1.alloc hs1 _
    have HB2 := Lib.hid hb2
    have hx2 := heap_alloc_new w1 (.cells #[.string z.name, .int .i64 z.off, .slice Av z.shifts.length cv] 51)
    have y0 : (w1.alloc (.cells #[.string z.name, .int .i64 z.off, .slice Av z.shifts.length cv] 51)).cell? ⟨w1.heap.size, 0, none⟩ = some (.string z.name) := block_cell hx2 0
    have y1 : (w1.alloc (.cells #[.string z.name, .int .i64 z.off, .slice Av z.shifts.length cv] 51)).cell? ⟨w1.heap.size, 1, none⟩ = some (.int .i64 z.off) := block_cell hx2 1
    have y2 : (w1.alloc (.cells #[.string z.name, .int .i64 z.off, .slice Av z.shifts.length cv] 51)).cell? ⟨w1.heap.size, 2, none⟩ = some (.slice Av z.shifts.length cv) := block_cell hx2 2
    have hsz2 : (w1.alloc (.cells #[.string z.name, .int .i64 z.off, .slice Av z.shifts.length cv] 51)).heap.size = w1.heap.size + 1 := by simp
    have HSV2 : Hid (Sl Ty.shift (w1.alloc (.cells #[.string z.name, .int .i64 z.off, .slice Av z.shifts.length cv] 51)) (shS (w1.alloc (.cells #[.string z.name, .int .i64 z.off, .slice Av z.shifts.length cv] 51)) lo) Av z.shifts.length cv z.shifts) := by
      refine (hslv.keep (w' := w1.alloc (.cells #[.string z.name, .int .i64 z.off, .slice Av z.shifts.length cv] 51)) fun b hb => ?_).more fun b hb => ⟨by have := hb.1; omega, ?_⟩
      · obtain ⟨_, cur, hc⟩ := hb
        exact Below.heap_alloc _ _ _ (Array.getElem?_eq_some_iff.1 hc).1
      · obtain ⟨_, cur, hc⟩ := hb
        exact ⟨cur, (Below.heap_alloc _ _ _ (Array.getElem?_eq_some_iff.1 hc).1).trans hc⟩
    clear hown hb1 hgood hslv hx2 c0 hb2
    go_upto_region 4 with (fail)
    generalize w1.alloc (.cells #[.string z.name, .int .i64 z.off, .slice Av z.shifts.length cv] 51) = w2 at *
    have HT2 : Hid (TBx w2 tb lo (.slice A1 t.zones.length cp1) (.slice A2 t.airports.length cp2) (.slice A3 t.flights.length cp3) t) := HTB.out.next HB2.out
    have x0 : w2.cell? ⟨tb, 0, none⟩ = some (.slice A1 t.zones.length cp1) := block_cell HT2.out.box 0
    have HTM : Hid (∀ ob, TPM (w2.drew.alloc ob) lo (.slice A1 t.zones.length cp1) (.slice A2 t.airports.length cp2) (.slice A3 t.flights.length cp3) t) := fun ob => HT2.out.m.next ((below_drewN (Below.refl _ _) 1).alloc (Nat.le_refl _) ob)
    have HP6 : Hid (∀ ob v' w6, TPM w6 lo v' (.slice A2 t.airports.length cp2) (.slice A3 t.flights.length cp3) (t.addZ z) → (w2.drew.alloc ob).grownBy w6 (Value.slice A1 t.zones.length cp1).ownBlock → w6.heap[tb]? = some (.cells #[.slice A1 t.zones.length cp1, .slice A2 t.airports.length cp2, .slice A3 t.flights.length cp3] 27 (0, 0)) ∧ TBx (w6.setCell ⟨tb, 0, none⟩ v') tb lo v' (.slice A2 t.airports.length cp2) (.slice A3 t.flights.length cp3) (t.addZ z) ∧ TKeep tb lo w (w6.setCell ⟨tb, 0, none⟩ v')) := fun ob v' w6 hm hg => by
      have hsz : (w2.drew.alloc ob).heap.size = w2.heap.size + 1 := by simp
      have hle := HT2.out.le
      have hbd : Below w2.heap.size w2 (w2.drew.alloc ob) := (below_drewN (Below.refl _ _) 1).alloc (Nat.le_refl _) ob
      have hrow : ∀ k, (Value.slice A1 t.zones.length cp1).ownBlock = some k → lo ≤ k := fun k hk => (HLT.out.1 k hk).1
      have hk6 : w6.heap[tb]? = w2.heap[tb]? := (hg.block tb (by omega) (fun e => by have := hrow tb e.symm; omega)).trans (Below.heap_alloc _ _ _ (by show tb < w2.heap.size; omega))
      exact ⟨hk6.trans HT2.out.box, HT2.out.store0 hk6 hm (by have := hg.size; omega), (((HTK.out w2 HB2.out).trans (TKeep.of_below ((below_drewN (Below.refl _ _) 1).alloc (Nat.le_refl _) ob) hle)).grown hg hrow (Nat.le_trans hle hbd.size)).setBox _ _⟩
    have HSVB : Hid (∀ ob, Sl Ty.shift (w2.drew.alloc ob) (shS (w2.drew.alloc ob) lo) Av z.shifts.length cv z.shifts) := fun ob => by
      have hbv : Below w2.heap.size w2 (w2.drew.alloc ob) := (below_drewN (Below.refl _ _) 1).alloc (Nat.le_refl _) ob
      refine (HSV2.out.keep (w' := w2.drew.alloc ob) fun b hb => hbv.block b hb.2.lt).more fun b hb => ⟨hb.1, ?_⟩
      obtain ⟨_, cur, hc⟩ := hb
      exact ⟨cur, (hbv.block b (Array.getElem?_eq_some_iff.1 hc).1).trans hc⟩
    have HFIN : Hid (∀ V v', TKeep tb lo w V → TBx V tb lo v' (.slice A2 t.airports.length cp2) (.slice A3 t.flights.length cp3) (t.addZ z) → LnPost9 fs t tb lo w (.returned (.bool (!zoneBad fs))) V) := fun V v' hk hx => by
      cases hzb : zoneBad fs with
      | true =>
        rw [hzb] at HLN
        exact line_bad9 (by have := HLN.out; rwa [if_pos rfl] at this) hk hx
      | false =>
        rw [hzb] at HLN
        obtain rfl := HGOOD.out hzb
        exact line_good9 (by have := HLN.out; rwa [if_neg (by simp)] at this) hk hx
    have hle2 : lo ≤ w2.heap.size := HT2.out.le
    have x0a : ∀ ob, (w2.alloc ob).cell? ⟨tb, 0, none⟩ = some (.slice A1 t.zones.length cp1) := fun ob => (World.cell?_alloc_past _ _ _ (show tb < w2.heap.size by omega)).trans x0
    clear HB1 HPZ HPF HTB HBX
    generalize zoneBad fs = zb at *
    go_region_law (first
      | (refine step_pushZ rfl (.tmp 23) (.tmp 25) 23 rfl zone_row (by simp [Act.eval, Act.put]) (HTM.out _) w2.heap.size z (by simp [Act.eval, Act.put]) ⟨[.string z.name, .int .i64 z.off, .slice Av z.shifts.length cv], ⟨Av, _, cv, rfl, HSVB.out _⟩, At.new w2.drew #[.string z.name, .int .i64 z.off, .slice Av z.shifts.length cv] _⟩ o2 (by simp; omega) ?_; intro g6 cap6 w6 hm6 hgr6; obtain ⟨hb6, hx6, hk6⟩ := HP6.out _ _ _ hm6 hgr6; have y6 := block_cell hb6 0; have f6 := block_free hb6 0; have HX6 := Lib.hid hx6; have HK6 := Lib.hid hk6; clear hb6 hx6 hk6 hm6 hgr6)
      | fail)
    all_goals
      go_wp2_with fail
      go_ret
      exact HFIN.out _ _ HK6.out HX6.out
  rw [decide_eq_false hz] at ez
  rw [if_neg hz] at HLN
  clear hz
  by_cases hz : fld fs 0 = airS
  · rw [decide_eq_true hz] at ea
    rw [if_pos hz] at HLN
    clear ef hz HPZ HPF
    by_cases h3 : fs.length = 3
    case neg =>
      rw [if_pos h3] at HLN
      have h3' : ((fs.length : Int) != 3) = true := by simp; omega
      have HRES := Lib.hid (line_bad9 (w' := w) HLN.out (HTK.out w (Below.refl _ _)) HTB.out)
      clear h3
      go_enter Tryz.func20, Tryz.ntmps20
      go_wp2_with fail
      go_ret
      exact HRES.out
    rw [if_neg (by simpa using h3)] at HLN
    have h3' : ((fs.length : Int) != 3) = false := by simp; omega
    have l1 : (1 : Int) < (fs.length : Int) := by omega
    have l2 : (2 : Int) < (fs.length : Int) := by omega
    have c1 := HC.out 1 (by omega); have c2 := HC.out 2 (by omega)
    have HT2 := HTB
    have HB0 := Lib.hid (Below.refl w.heap.size w)
    have HTM : Hid (∀ ob, TPM (w.drew.alloc ob) lo (.slice A1 t.zones.length cp1) (.slice A2 t.airports.length cp2) (.slice A3 t.flights.length cp3) t) := fun ob => HT2.out.m.next ((below_drewN (Below.refl _ _) 1).alloc (Nat.le_refl _) ob)
    have HP6 : Hid (∀ ob v' w6, TPM w6 lo (.slice A1 t.zones.length cp1) v' (.slice A3 t.flights.length cp3) (t.addA ⟨fld fs 1, fld fs 2⟩) → (w.drew.alloc ob).grownBy w6 (Value.slice A2 t.airports.length cp2).ownBlock → w6.heap[tb]? = some (.cells #[.slice A1 t.zones.length cp1, .slice A2 t.airports.length cp2, .slice A3 t.flights.length cp3] 27 (0, 0)) ∧ TBx (w6.setCell ⟨tb, 1, none⟩ v') tb lo (.slice A1 t.zones.length cp1) v' (.slice A3 t.flights.length cp3) (t.addA ⟨fld fs 1, fld fs 2⟩) ∧ TKeep tb lo w (w6.setCell ⟨tb, 1, none⟩ v')) := fun ob v' w6 hm hg => by
      have hsz : (w.drew.alloc ob).heap.size = w.heap.size + 1 := by simp
      have hle := HT2.out.le
      have hbd : Below w.heap.size w (w.drew.alloc ob) := (below_drewN (Below.refl _ _) 1).alloc (Nat.le_refl _) ob
      have hrow : ∀ k, (Value.slice A2 t.airports.length cp2).ownBlock = some k → lo ≤ k := fun k hk => (HLT.out.2.1 k hk).1
      have hk6 : w6.heap[tb]? = w.heap[tb]? := (hg.block tb (by omega) (fun e => by have := hrow tb e.symm; omega)).trans (Below.heap_alloc _ _ _ (by show tb < w.heap.size; omega))
      exact ⟨hk6.trans HT2.out.box, HT2.out.store1 hk6 hm (by have := hg.size; omega), (((HTK.out w HB0.out).trans (TKeep.of_below ((below_drewN (Below.refl _ _) 1).alloc (Nat.le_refl _) ob) hle)).grown hg hrow (Nat.le_trans hle hbd.size)).setBox _ _⟩
    have HFIN : Hid (∀ V v', TKeep tb lo w V → TBx V tb lo (.slice A1 t.zones.length cp1) v' (.slice A3 t.flights.length cp3) (t.addA ⟨fld fs 1, fld fs 2⟩) → LnPost9 fs t tb lo w (.returned (.bool true)) V) := fun V v' hk hx => line_good9 HLN.out hk hx
    have x1 : w.cell? ⟨tb, 1, none⟩ = some (.slice A2 t.airports.length cp2) := block_cell HTB.out.box 1
    have HC1A : Hid (∀ ob, ((w.drew.alloc ob).cell? ⟨fb, o + 1, none⟩ = some (.string (fld fs 1)))) := fun ob => (World.cell?_alloc_past _ _ _ (show fb < w.heap.size by omega)).trans c1
    have x1a : ∀ ob, (w.alloc ob).cell? ⟨tb, 1, none⟩ = some (.slice A2 t.airports.length cp2) := fun ob => (World.cell?_alloc_past _ _ _ (show tb < w.heap.size by omega)).trans x1
    clear h3 HTB HBX
    generalize fld fs 1 = g1 at *
    generalize fld fs 2 = g2 at *
    go_enter Tryz.func20, Tryz.ntmps20
    go_upto_region 9 with (fail)
    clear c0
    go_region_law (first
      | (refine step_pushA rfl (.tmp 39) (.tmp 47) 24 rfl air_row (by simp [Act.eval, Act.put]) (HTM.out _) w.heap.size ⟨g1, g2⟩ (by simp [Act.eval, Act.put]) (At.new w.drew #[.string g1, .string g2] _) o3 (by simp; omega) ?_; intro g6 cap6 w6 hm6 hgr6; obtain ⟨hb6, hx6, hk6⟩ := HP6.out _ _ _ hm6 hgr6; have y6 := block_cell hb6 1; have f6 := block_free hb6 1; have HX6 := Lib.hid hx6; have HK6 := Lib.hid hk6; clear hb6 hx6 hk6 hm6 hgr6)
      | fail)
    all_goals
      go_wp2_with fail
      go_ret
      exact HFIN.out _ _ HK6.out HX6.out
  rw [decide_eq_false hz] at ea
  rw [if_neg hz] at HLN
  clear hz
  by_cases hz : fld fs 0 = fliS
  · rw [decide_eq_true hz] at ef
    rw [if_pos hz] at HLN
    clear hz HPZ
    go_enter Tryz.func20, Tryz.ntmps20
    go_wp2_with fail
    refine HPF.out.mono ?_
    rintro e w1 ⟨z, rfl, hb1, hgood⟩
    have hs1 := hb1.size
    have HGOOD := Lib.hid hgood
    have hb2 : Below w.heap.size w (w1.alloc (.cells #[.string z.number, .string z.src, .string z.dst, .int .i64 z.dep, .int .i64 z.arr, .string z.kind, .int .i64 z.n0, .int .i64 z.n1, .int .i64 z.n2] 47)) := hb1.alloc hs1 _
    have HB2 := Lib.hid hb2
    have hx2 := heap_alloc_new w1 (.cells #[.string z.number, .string z.src, .string z.dst, .int .i64 z.dep, .int .i64 z.arr, .string z.kind, .int .i64 z.n0, .int .i64 z.n1, .int .i64 z.n2] 47)
    have HX2 := Lib.hid hx2
    clear hb1 hgood hx2 c0 hb2
    go_upto_region 13 with (fail)
    generalize w1.alloc (.cells #[.string z.number, .string z.src, .string z.dst, .int .i64 z.dep, .int .i64 z.arr, .string z.kind, .int .i64 z.n0, .int .i64 z.n1, .int .i64 z.n2] 47) = w2 at *
    have hx2 := HX2.out
    have y0 : w2.cell? ⟨w1.heap.size, 0, none⟩ = some (.string z.number) := block_cell hx2 0
    have y1 : w2.cell? ⟨w1.heap.size, 1, none⟩ = some (.string z.src) := block_cell hx2 1
    have y2 : w2.cell? ⟨w1.heap.size, 2, none⟩ = some (.string z.dst) := block_cell hx2 2
    have y3 : w2.cell? ⟨w1.heap.size, 3, none⟩ = some (.int .i64 z.dep) := block_cell hx2 3
    have y4 : w2.cell? ⟨w1.heap.size, 4, none⟩ = some (.int .i64 z.arr) := block_cell hx2 4
    have y5 : w2.cell? ⟨w1.heap.size, 5, none⟩ = some (.string z.kind) := block_cell hx2 5
    have y6 : w2.cell? ⟨w1.heap.size, 6, none⟩ = some (.int .i64 z.n0) := block_cell hx2 6
    have y7 : w2.cell? ⟨w1.heap.size, 7, none⟩ = some (.int .i64 z.n1) := block_cell hx2 7
    have y8 : w2.cell? ⟨w1.heap.size, 8, none⟩ = some (.int .i64 z.n2) := block_cell hx2 8
    have HT2 : Hid (TBx w2 tb lo (.slice A1 t.zones.length cp1) (.slice A2 t.airports.length cp2) (.slice A3 t.flights.length cp3) t) := HTB.out.next HB2.out
    have x0 : w2.cell? ⟨tb, 2, none⟩ = some (.slice A3 t.flights.length cp3) := block_cell HT2.out.box 2
    have HTM : Hid (∀ ob, TPM (w2.drew.alloc ob) lo (.slice A1 t.zones.length cp1) (.slice A2 t.airports.length cp2) (.slice A3 t.flights.length cp3) t) := fun ob => HT2.out.m.next ((below_drewN (Below.refl _ _) 1).alloc (Nat.le_refl _) ob)
    have HP6 : Hid (∀ ob v' w6, TPM w6 lo (.slice A1 t.zones.length cp1) (.slice A2 t.airports.length cp2) v' (t.addF z) → (w2.drew.alloc ob).grownBy w6 (Value.slice A3 t.flights.length cp3).ownBlock → w6.heap[tb]? = some (.cells #[.slice A1 t.zones.length cp1, .slice A2 t.airports.length cp2, .slice A3 t.flights.length cp3] 27 (0, 0)) ∧ TBx (w6.setCell ⟨tb, 2, none⟩ v') tb lo (.slice A1 t.zones.length cp1) (.slice A2 t.airports.length cp2) v' (t.addF z) ∧ TKeep tb lo w (w6.setCell ⟨tb, 2, none⟩ v')) := fun ob v' w6 hm hg => by
      have hsz : (w2.drew.alloc ob).heap.size = w2.heap.size + 1 := by simp
      have hle := HT2.out.le
      have hbd : Below w2.heap.size w2 (w2.drew.alloc ob) := (below_drewN (Below.refl _ _) 1).alloc (Nat.le_refl _) ob
      have hrow : ∀ k, (Value.slice A3 t.flights.length cp3).ownBlock = some k → lo ≤ k := fun k hk => (HLT.out.2.2 k hk).1
      have hk6 : w6.heap[tb]? = w2.heap[tb]? := (hg.block tb (by omega) (fun e => by have := hrow tb e.symm; omega)).trans (Below.heap_alloc _ _ _ (by show tb < w2.heap.size; omega))
      exact ⟨hk6.trans HT2.out.box, HT2.out.store2 hk6 hm (by have := hg.size; omega), (((HTK.out w2 HB2.out).trans (TKeep.of_below ((below_drewN (Below.refl _ _) 1).alloc (Nat.le_refl _) ob) hle)).grown hg hrow (Nat.le_trans hle hbd.size)).setBox _ _⟩
    have HFIN : Hid (∀ V v', TKeep tb lo w V → TBx V tb lo (.slice A1 t.zones.length cp1) (.slice A2 t.airports.length cp2) v' (t.addF z) → LnPost9 fs t tb lo w (.returned (.bool (!flightBad fs))) V) := fun V v' hk hx => by
      cases hzb : flightBad fs with
      | true =>
        rw [hzb] at HLN
        exact line_bad9 (by have := HLN.out; rwa [if_pos rfl] at this) hk hx
      | false =>
        rw [hzb] at HLN
        obtain rfl := HGOOD.out hzb
        exact line_good9 (by have := HLN.out; rwa [if_neg (by simp)] at this) hk hx
    have hle2 : lo ≤ w2.heap.size := HT2.out.le
    have x0a : ∀ ob, (w2.alloc ob).cell? ⟨tb, 2, none⟩ = some (.slice A3 t.flights.length cp3) := fun ob => (World.cell?_alloc_past _ _ _ (show tb < w2.heap.size by omega)).trans x0
    clear HPF HTB HBX hx2 HX2
    generalize flightBad fs = zb at *
    go_region_law (first
      | (refine step_pushF rfl (.tmp 62) (.tmp 64) 25 rfl fli_row (by simp [Act.eval, Act.put]) (HTM.out _) w2.heap.size z (by simp [Act.eval, Act.put]) (At.new w2.drew (flightCells z).toArray _) o4 (by simp; omega) ?_; intro g6 cap6 w6 hm6 hgr6; obtain ⟨hb6, hx6, hk6⟩ := HP6.out _ _ _ hm6 hgr6; have yy6 := block_cell hb6 2; have f6 := block_free hb6 2; have HX6 := Lib.hid hx6; have HK6 := Lib.hid hk6; clear hb6 hx6 hk6 hm6 hgr6)
      | fail)
    all_goals
      go_wp2_with fail
      go_ret
      exact HFIN.out _ _ HK6.out HX6.out
  rw [decide_eq_false hz] at ef
  rw [if_neg hz] at HLN
  have HRES := Lib.hid (line_bad9 (w' := w) HLN.out (HTK.out w (Below.refl _ _)) HTB.out)
  clear hz HPZ HPF
  go_enter Tryz.func20, Tryz.ntmps20
  go_wp2_with fail
  go_ret
  exact HRES.out
end Go.Proofs.YtldeoaddogifpaaGreatDoor
/-
  What every card of this seat needs: a witness over laid tables, the arguments read again behind a call that changes nothing below the old heap, and the law's post out of 'returned true' and 'Below'.
  No condition.
-/
namespace Go.Proofs.YtldeoaddogifpaaGreatDoor
set_option linter.unusedSimpArgs false
set_option linter.unusedVariables false
open Go.ChangeShapes Go.WideShapes Go.ChangeAt Go.RowKit

theorem ownKnob_none : ownKnob Tryz.prog.godebug = none := by kernel_rfl
theorem laidOut_true : laidOutB Tryz.prog = true := by kernel_rfl

section
variable {H : Type} {enc : TypeId × Value → H} {P : Program}
theorem witness_row_shaped {C : Checked} {os : Os} {f : FuncId} {fn : Func} {s : OpenSpec} {conds : List PathCond} {apart : Bool} {laid : List (String × DataW Unit)} (modest : Bool) (w0 : World) (args : Array Value) (hos : w0.os = os)
    (hsh : (w0.forCall (fun _ _ => 0) ⟨#[], args, []⟩).Shaped C.prog)
    (hok : Input.okWideB C.prog (w0.forCall (fun _ _ => 0) ⟨#[], args, []⟩) f ⟨#[], args, []⟩ = true)
    (hrow : s.preRow enc C.prog fn conds apart laid (w0.forCall (fun _ _ => 0) ⟨#[], args, []⟩).memory args) :
    ∃ (w : World) (tape : Tape) (i : Input), w.os = os ∧ (w.forCall tape i).Shaped C.prog ∧ i.vars = [] ∧ Input.okWide C.prog (w.forCall tape i) .any w.heap.size f i ∧
      s.preRow enc C.prog fn conds apart laid (w.forCall tape i).memory i.args ∧ ({ modest := modest } : Assume).holds C.prog (lone (Frame.enter C.prog f i.args .normal) [] (w.forCall tape i)) :=
  ⟨w0, fun _ _ => 0, ⟨#[], args, []⟩, hos, hsh, (Input.okWide_of_okWideB (base := 0) hok).1, (Input.okWide_of_okWideB hok).2, hrow, by
    simp only [Assume.holds]
    exact ⟨by simp, by simp, fun _ => Modest.zero, by simp, by simp⟩⟩

theorem trodAll_below (hl : laidOutB P = true) {W W' : World} (hb : Below W.heap.size W W') : ∀ {ts : List TypeId} {vs : List Value} {ds : List (DataW H)} {ps : List MemPlace},
    (∀ t ∈ ts, P.readableRec t = true ∧ t < P.types.size) → DataW.TrodAll enc P W 0 (fun _ => true) true ts vs ds ps → (∀ x ∈ ps, x.block < W.heap.size) →
    DataW.TrodAll enc P W' 0 (fun b => decide (b < W.heap.size)) true ts vs ds ps
  | [], [], [], _, _, h, _ => h
  | t :: ts, v :: vs, d :: ds, ps, hr, h, hlt => by
    obtain ⟨p, q, h1, h2, rfl⟩ := h
    exact ⟨p, q, Below.trod hl (hr t (.head _)).1 (hr t (.head _)).2 h1 hb (fun x hx => hlt x (List.mem_append.2 (.inl hx))),
      trodAll_below hl hb (fun t ht => hr t (.tail _ ht)) h2 (fun x hx => hlt x (List.mem_append.2 (.inr hx))), rfl⟩
  | [], [], _ :: _, _, _, h, _ => h.elim
  | [], _ :: _, _, _, _, h, _ => h.elim
  | _ :: _, [], _, _, _, h, _ => h.elim
  | _ :: _, _ :: _, [], _, _, h, _ => h.elim

/-- A law's end: it has returned true, and nothing below the old heap has turned. -/
theorem law_post (hl : laidOutB P = true) {f : Func} {s : ChangeSpec} {apart : Bool} {W W' : World} {args : Array Value} {ds gs : List (DataW H)} {before : List MemPlace} {tb : TypeId}
    (hbool : P.underlying tb = some .bool) (hrt : f.resultTypes = #[tb]) (hv : s.vars = []) (hr : ∀ t ∈ f.params.toList, P.readableRec t = true ∧ t < P.types.size)
    (hfn : (s.fn H ds).results = [.lit (.bool true)] ∧ (s.fn H ds).args = ds ∧ (s.fn H ds).vars = [])
    (hW : DataW.Whole enc P f.params.toList s.vars apart W args.toList ds gs before) (hb : Below W.heap.size W W') :
    s.post enc P f apart true false false W args (.bool true) W' := by
  have hW' := hW
  obtain ⟨p, q, hA, hV, rfl, _, _⟩ := hW
  have hV' := hV
  rw [hv] at hV'
  obtain ⟨rfl, rfl⟩ := trodVars_none hV'
  have e0 : ds ++ [] = ds := List.append_nil _
  refine ⟨ds, [], p ++ [], [], p, [], hW', ?_, ?_, ?_, hb.frame _, fun h => by cases h⟩
  · rw [e0, hfn.1, hrt]
    exact trodAll_mk1 (shut_bool hbool _)
  · rw [e0, hfn.2.1]
    exact trodAll_below hl hb hr hA (fun x hx => hW'.lt x (by simpa using hx))
  · rw [e0, hfn.2.2, hv]
    rfl
end
end Go.Proofs.YtldeoaddogifpaaGreatDoor
/-
  Contract of the reference's Fields (package pairingref5): it returns the same fields as text.Fields.
  Condition: the string is shorter than 2^31 bytes.
-/
namespace Go.Proofs.YtldeoaddogifpaaGreatDoor
set_option linter.unusedSimpArgs false
set_option linter.unusedVariables false
open Go.RowKit

theorem byte_is {s : ByteArray} {k : Nat} (h : k < s.size) (c : UInt8) : ((s[k].toNat : Int) == (c.toNat : Int)) = decide (s[k] = c) := by
  rw [Bool.eq_iff_iff, beq_iff_eq, decide_eq_true_eq]
  refine ⟨fun e => UInt8.toNat.inj (by omega), fun e => by rw [e]⟩

set_option maxHeartbeats 800000 in
theorem refFields_own (s : ByteArray) (w : World) (hs : s.size < 2147483648) :
    Calls Tryz.prog 22 #[.string s] w fun e w' => ∃ v, e = .returned v ∧ Own Ty.str 9 w' w.heap.size v (fieldsB s) ∧ Below w.heap.size w w' := by
  go_enter Tryz.func22, Tryz.ntmps22
  go_wp2_with fail
  go_loopw [3, 4, 5] (fun v f i wr => ∃ (k : Nat) (fr : Int) (l : List ByteArray), i = .int .i64 k ∧ f = .int .i64 fr ∧ Own Ty.str 9 wr w.heap.size v l ∧ Below w.heap.size w wr ∧ Hid (RF s k fr l)) (fun _ _ i _ => s.size + 2 - (intOf i).toNat)
  case atStart => exact ⟨0, -1, [], rfl, rfl, Own.nil, Below.refl _ _, RF.start s⟩
  case round =>
    obtain ⟨k, fr, l, rfl, rfl, hown, hbr, HR⟩ := hrel
    obtain ⟨hb1, hb2, hb3⟩ := HR.out.bd
    have hll := HR.out.len
    have hbs := hbr.size
    by_cases hlt : k < s.size
    · have e1 := byte_is hlt 32
      have e2 := byte_is hlt 35
      simp only [show ((32 : UInt8).toNat : Int) = 32 from rfl, show ((35 : UInt8).toNat : Int) = 35 from rfl] at e1 e2
      have hkk : ((k : Int) == (s.size : Int)) = false := by simp; omega
      by_cases h32 : s[k] = 32
      · have hR := HR.out.blank hlt h32
        rw [decide_eq_true h32] at e1
        rw [h32, decide_eq_false (by decide)] at e2
        have e2' : ((s[k].toNat : Int) == 35) = false := by rw [h32]; rfl
        have H32 := Lib.hid h32; clear h32 e2
        by_cases hfr : 0 ≤ fr
        · rw [if_pos hfr] at hR
          have HR2 := Lib.hid hR; clear hR
          go_wp2_with (at_builtin; refine wpList_push_str rfl _ _ rfl strElem rfl (hown.alloc _) wr.heap.size (s.extract fr.toNat k) rfl ?c1 ?c2 ?c3 (Nat.le_refl _) (hbr.alloc hbs _) ?_)
          case c1 => simp
          case c2 => omega
          case c3 => simp; omega
          intro v' w1 hown2 hbr2
          clear hown
          go_wp2_with fail
          go_roundw
          case rel => exact ⟨k + 1, -1, _, by go_num, rfl, hown2, hbr2, HR2⟩
          case measure => simp [intOf]; omega
        · obtain rfl : fr = -1 := by omega
          rw [if_neg hfr] at hR
          have HR2 := Lib.hid hR; clear hR
          go_wp2_with fail
          go_roundw
          case rel => exact ⟨k + 1, -1, _, by go_num, rfl, hown, hbr, HR2⟩
          case measure => simp [intOf]; omega
      · rw [decide_eq_false h32] at e1
        by_cases h35 : s[k] = 35
        · have hR := HR.out.stop (.inr ⟨hlt, h35⟩)
          rw [decide_eq_true h35] at e2
          have H35 := Lib.hid h35; clear h32 h35
          by_cases hfr : 0 ≤ fr
          · rw [if_pos hfr] at hR
            have HR2 := Lib.hid hR; clear hR
            go_wp2_with (at_builtin; refine wpList_push_str rfl _ _ rfl strElem rfl (hown.alloc _) wr.heap.size (s.extract fr.toNat k) rfl ?c1 ?c2 ?c3 (Nat.le_refl _) (hbr.alloc hbs _) ?_)
            case c1 => simp
            case c2 => omega
            case c3 => simp; omega
            intro v' w1 hown2 hbr2
            clear hown
            go_wp2_with fail
            go_ret
            rw [HR2.out] at hown2
            exact ⟨_, rfl, hown2, hbr2⟩
          · rw [if_neg hfr] at hR
            have HR2 := Lib.hid hR; clear hR
            go_wp2_with fail
            go_ret
            rw [HR2.out] at hown
            exact ⟨_, rfl, hown, hbr⟩
        · have hR := HR.out.byte hlt h32 h35
          rw [decide_eq_false h35] at e2
          have H35 := Lib.hid h35; clear h32 h35
          by_cases hfr : fr < 0
          · rw [if_pos hfr] at hR
            have HR2 := Lib.hid hR; clear hR
            go_wp2_with fail
            go_roundw
            case rel => exact ⟨k + 1, k, _, by go_num, rfl, hown, hbr, HR2⟩
            case measure => simp [intOf]; omega
          · rw [if_neg hfr] at hR
            have HR2 := Lib.hid hR; clear hR
            go_wp2_with fail
            go_roundw
            case rel => exact ⟨k + 1, fr, _, by go_num, rfl, hown, hbr, HR2⟩
            case measure => simp [intOf]; omega
    · by_cases heq : k = s.size
      · have hR := HR.out.stop (.inl heq)
        have hkk : ((k : Int) == (s.size : Int)) = true := by simp; omega
        have hle : k ≤ s.size := by omega
        have HE := Lib.hid heq; clear heq
        by_cases hfr : 0 ≤ fr
        · rw [if_pos hfr] at hR
          have HR2 := Lib.hid hR; clear hR
          go_wp2_with (at_builtin; refine wpList_push_str rfl _ _ rfl strElem rfl (hown.alloc _) wr.heap.size (s.extract fr.toNat k) rfl ?c1 ?c2 ?c3 (Nat.le_refl _) (hbr.alloc hbs _) ?_)
          case c1 => simp
          case c2 => omega
          case c3 => simp; omega
          intro v' w1 hown2 hbr2
          clear hown
          go_wp2_with fail
          go_roundw
          case rel => exact ⟨k + 1, -1, _, by go_num, rfl, hown2, hbr2, by rw [HR2.out, HE.out]; exact RF.done⟩
          case measure => simp [intOf]; omega
        · obtain rfl : fr = -1 := by omega
          rw [if_neg hfr] at hR
          have HR2 := Lib.hid hR; clear hR
          go_wp2_with fail
          go_roundw
          case rel => exact ⟨k + 1, -1, _, by go_num, rfl, hown, hbr, by rw [HR2.out, HE.out]; exact RF.done⟩
          case measure => simp [intOf]; omega
      · have hR := HR.out.end_ (by omega)
        have HR2 := Lib.hid hR; clear hR
        have hgt : s.size < k := by omega
        clear heq
        go_wp2_with fail
        go_ret
        rw [HR2.out] at hown
        exact ⟨_, rfl, hown, hbr⟩
theorem refFields_any (s : ByteArray) (w : World) (hs : s.size < 2147483648) :
    Calls Tryz.prog 22 #[.string s] w fun e w' => ∃ A c, e = .returned (.slice A (fieldsB s).length c) ∧ Sl Ty.str w' (all_ w') A (fieldsB s).length c (fieldsB s) ∧ Below w.heap.size w w' := by
  refine (refFields_own s w hs).mono ?_
  rintro e w' ⟨v, rfl, h, hb⟩
  obtain ⟨A, c, rfl, h2⟩ := h.sl
  exact ⟨A, c, rfl, h2.more fun b hb => hb.2, hb⟩
end Go.Proofs.YtldeoaddogifpaaGreatDoor
/-
  Contracts of text.Lines and of the reference's Lines: both return the specified lines or the error's number, in new memory, and change nothing that was there.
  Condition: the string's length fits an int; the library's variable MaxLen holds an int.
-/
namespace Go.Proofs.YtldeoaddogifpaaGreatDoor
set_option linter.unusedSimpArgs false
set_option linter.unusedVariables false
open Go.RowKit

def trimB (s : ByteArray) : ByteArray := bs (Lib.trimSuffix s.data.toList [10])
theorem trimB_size (s : ByteArray) : (trimB s).size ≤ s.size := by
  unfold trimB Lib.trimSuffix
  rw [bs_size, Lib.size_eq]
  split
  · rw [List.length_take]; omega
  · exact Nat.le_refl _
theorem trim_any (s : ByteArray) (w : World) (hs : s.size ≤ 9223372036854775807) :
    Calls Tryz.prog 56 #[.string s, .string ⟨#[10]⟩] w fun e w' => e = .returned (.string (trimB s)) ∧ w = w' := by
  refine (Tryz.strings_TrimSuffix s ⟨#[10]⟩ w hs).mono ?_
  rintro e w' ⟨rfl, rfl⟩
  exact ⟨rfl, rfl⟩
theorem pieces_trim (s : ByteArray) (hne : s.size ≠ 0) : piecesB 10 (trimB s) = (linesL s.data.toList).map bs := by
  unfold piecesB trimB
  rw [bs_data, linesL_trim]
  intro e
  have := Lib.size_eq s
  rw [e] at this
  exact hne this
theorem lines_empty (s : ByteArray) (h : s.size = 0) : linesL s.data.toList = [] := by
  have h2 := Lib.size_eq s
  rw [List.eq_nil_of_length_eq_zero (l := s.data.toList) (by omega)]
  rfl

/-- What Lines hands back: the lines in memory and the error's number. -/
def LinesPost (s : ByteArray) (w : World) (e : Ending) (w' : World) : Prop :=
  ∃ A n c, e = .returned (.tuple #[.slice A n c, .int .i64 (linesB s).2]) ∧ Sl Ty.str w' (all_ w') A n c (linesB s).1 ∧ Below w.heap.size w w'

set_option maxHeartbeats 800000 in
theorem lines_any (s : ByteArray) (w : World) (hs : s.size ≤ maxLen) (hg : Glo w) :
    Calls Tryz.prog 18 #[.string s] w (LinesPost s w) := by
  unfold maxLen at hs
  by_cases hbig : 20000 < s.size
  · have HL : Hid (linesB s = ([], 10)) := by show linesB s = _; unfold linesB; rw [if_pos hbig]
    go_enter Tryz.func18, Tryz.ntmps18
    go_wp2_with fail
    go_ret2
    refine ⟨none, 0, 0, ?_, ?_, Below.refl _ _⟩
    · rw [HL.out]; rfl
    · rw [HL.out]; exact Sl.nil0
  · go_enter Tryz.func18, Tryz.ntmps18
    go_wp2_with fail
    go_loop [11] (fun i => ∃ k : Nat, k ≤ s.size ∧ i = .int .i64 k ∧ Hid (allTo (okByte s) k = true)) (fun i => s.size - (intOf i).toNat)
    case atStart => exact ⟨0, Nat.zero_le _, rfl, rfl⟩
    case round =>
      obtain ⟨k, hk, rfl, HA⟩ := hrel
      by_cases hlt : k < s.size
      · have HB := Lib.hid (byteAt_eq s k hlt)
        go_wp2_with fail
        all_goals
          have HB' := HB.out
          first
          | (have hv : okByte s k = true := by unfold okByte; grind
             go_round
             case rel => exact ⟨k + 1, by omega, by go_num, by show allTo _ _ = true; rw [allTo_succ, HA.out, hv]; rfl⟩
             case measure => simp [intOf]; omega)
          | (have hv : okByte s k = false := by unfold okByte; grind
             have HL : Hid (linesB s = ([], 1)) := by show linesB s = _; unfold linesB; rw [if_neg hbig, if_pos (allTo_false hlt hv)]
             go_ret2
             refine ⟨none, 0, 0, ?_, ?_, Below.refl _ _⟩
             · rw [HL.out]; rfl
             · rw [HL.out]; exact Sl.nil0)
      · have hkk : k = s.size := by omega
        have hall : allTo (okByte s) s.size = true := by rw [← hkk]; exact HA.out
        by_cases h0 : s.size = 0
        · have hemp : s.toList.isEmpty = true := by
            rw [ByteArray.toList_eq, List.isEmpty_iff]
            exact List.eq_nil_of_length_eq_zero (by rw [← Lib.size_eq]; exact h0)
          have HL : Hid (linesB s = ([], 0)) := by
            show linesB s = _
            unfold linesB
            rw [if_neg hbig, if_neg (by rw [hall]; decide), lines_empty s h0, if_neg (by decide)]
            rfl
          clear HA hall h0 hkk
          go_wp2_with fail
          go_ret2
          refine ⟨none, 0, 0, ?_, ?_, Below.refl _ _⟩
          · rw [HL.out]; rfl
          · rw [HL.out]; exact Sl.nil0
        · have hemp : s.toList.isEmpty = false := by
            rw [ByteArray.toList_eq, Bool.eq_false_iff]
            intro h
            rw [List.isEmpty_iff] at h
            have := Lib.size_eq s
            rw [h] at this
            exact h0 this
          have HP := Lib.hid (pieces_trim s h0)
          have hpl := piecesB_le 10 (trimB s)
          have htb := trimB_size s
          have HL : Hid (linesB s = if 1000 < (piecesB 10 (trimB s)).length then ([], 10) else (piecesB 10 (trimB s), 0)) := by
            show linesB s = _
            unfold linesB
            rw [if_neg hbig, if_neg (by rw [hall]; decide), HP.out, List.length_map]
          clear HA hall h0 hkk HP
          go_wp2_with fail
          refine (trim_any s _ (by omega)).mono ?_
          rintro e w' ⟨rfl, rfl⟩
          go_wp2_with fail
          refine (split_any _ _ _ (by omega) hg).mono ?_
          rintro e w' ⟨rfl, rfl⟩
          generalize hps : piecesB 10 (trimB s) = ps at *
          clear hps
          have hbl : Below w.heap.size w (w.alloc (.cells (ps.map Value.string).toArray 9)) := (Below.refl _ _).alloc (Nat.le_refl _) _
          have HS : Hid (Sl Ty.str (w.alloc (.cells (ps.map Value.string).toArray 9)) (all_ (w.alloc (.cells (ps.map Value.string).toArray 9))) (some ⟨w.heap.size, 0, none⟩) ps.length ps.length ps) := by
            refine ⟨rfl, Nat.le_refl _, by unfold maxLen; omega, fun _ => ⟨_, _, rfl, by unfold all_; simp, fun i x hi => ⟨[.string x], rfl, fun j u hu => ?_⟩⟩⟩
            rcases j with _ | j
            · simp at hu
              subst hu
              simp only [Ty.str, Nat.zero_add, Nat.mul_one, Nat.add_zero]
              rw [World.cell?_alloc_at _ _ _ _ rfl]
              simp [hi]
            · simp at hu
          by_cases h1000 : 1000 < ps.length
          · go_wp2_with fail
            go_ret2
            refine ⟨none, 0, 0, ?_, ?_, hbl⟩
            · rw [HL.out, if_pos h1000]; rfl
            · rw [HL.out, if_pos h1000]; exact Sl.nil0
          · go_wp2_with fail
            go_ret2
            refine ⟨some ⟨w.heap.size, 0, none⟩, ps.length, ps.length, ?_, ?_, hbl⟩
            · rw [HL.out, if_neg h1000]; rfl
            · rw [HL.out, if_neg h1000]; exact HS.out
end Go.Proofs.YtldeoaddogifpaaGreatDoor
/-
  Contract of timetable.Parse: the timetable, line and error of the plain parser (parseT).
  Condition: the string's length fits an int.
-/
namespace Go.Proofs.YtldeoaddogifpaaGreatDoor
set_option linter.unusedSimpArgs false
set_option linter.unusedVariables false
open Go.RowKit

def TParPost (r : GTT × Int × Int) (w : World) (e : Ending) (w' : World) : Prop :=
  ∃ A1 n1 c1 A2 n2 c2 A3 n3 c3, e = .returned (.tuple #[.agg #[.slice A1 n1 c1, .slice A2 n2 c2, .slice A3 n3 c3], .int .i64 r.2.1, .int .i64 r.2.2]) ∧
    Sl Ty.zone w' (all_ w') A1 n1 c1 r.1.zones ∧ Sl Ty.airport w' (all_ w') A2 n2 c2 r.1.airports ∧ Sl Ty.flight w' (all_ w') A3 n3 c3 r.1.flights ∧ Below w.heap.size w w'
theorem stepT9_nil {s : ByteArray} {t : GTT} (h : fieldsB s = []) : stepT9 s t = some t := by unfold stepT9; rw [if_pos h]
theorem stepT9_line {s : ByteArray} {t : GTT} (h : ¬ fieldsB s = []) : stepT9 s t = lineT9 (fieldsB s) t := by unfold stepT9; rw [if_neg h]
theorem TtOk.up {m m' : Nat} {t : GTT} (h : TtOk m t) (hm : m ≤ m') : TtOk m' t := ⟨h.1, Nat.le_trans h.2.1 hm, Nat.le_trans h.2.2.1 hm, Nat.le_trans h.2.2.2 hm⟩
theorem fieldsB_len (s : ByteArray) : (fieldsB s).length ≤ s.size + 1 := by
  unfold fieldsB fieldsL
  rw [List.length_map, Lib.size_eq]
  have h1 := List.length_filter_le (fun f : List UInt8 => !f.isEmpty) (splitL 32 (s.data.toList.takeWhile (fun b => b != 35)))
  have h2 := splitL_length 32 (s.data.toList.takeWhile (fun b => b != 35))
  have h3 : (s.data.toList.takeWhile (fun b => b != 35)).count 32 ≤ (s.data.toList.takeWhile (fun b => b != 35)).length := List.count_le_length
  have h4 := takeWhile_len (fun b => b != 35) s.data.toList
  omega
/-- A list of strings lies in no block that holds no string. -/
theorem Sl.str_apart {w : World} {S : Nat → Prop} {A : Option Addr} {n c g : Nat} {xs : List ByteArray} (h : Sl Ty.str w S A n c xs) (hg : ∀ j x, w.cell? ⟨g, j, none⟩ ≠ some (.string x)) : Sl Ty.str w (fun b => S b ∧ b ≠ g) A n c xs := by
  obtain ⟨h1, h2, h3, h4⟩ := h
  refine ⟨h1, h2, h3, fun hn => ?_⟩
  obtain ⟨b, o, e, hs, hx⟩ := h4 hn
  refine ⟨b, o, e, ⟨hs, fun hbg => ?_⟩, hx⟩
  subst hbg
  obtain ⟨cs, hr, ha⟩ := hx 0 xs[0] (List.getElem?_eq_getElem (by omega))
  have hr' : cs = [.string xs[0]] := hr
  subst hr'
  exact hg _ _ (ha 0 _ rfl)
theorem box_nostr {w : World} {g : Nat} {T : TypeId} {v1 v2 v3 : Value} (h : w.heap[g]? = some (.cells #[v1, v2, v3] T (0, 0))) (h1 : ∀ x, v1 ≠ .string x) (h2 : ∀ x, v2 ≠ .string x) (h3 : ∀ x, v3 ≠ .string x) : ∀ j x, w.cell? ⟨g, j, none⟩ ≠ some (.string x) := fun j x he => by
  rw [block_cell h j] at he
  match j, he with
  | 0, he => exact h1 x (Option.some.inj he)
  | 1, he => exact h2 x (Option.some.inj he)
  | 2, he => exact h3 x (Option.some.inj he)
set_option maxRecDepth 100000 in
set_option maxHeartbeats 6400000 in
theorem ttParse_any (s : ByteArray) (w : World) (hs : s.size ≤ maxLen) (hg : Glo w) : Calls Tryz.prog 7 #[.string s] w (TParPost (parseT s) w) := by
  have HGL : Hid (∀ V, Below w.heap.size w V → Glo V) := fun V hV => hg.next hV
  have HSS := Lib.hid hs
  have ha := (Below.refl w.heap.size w).alloc (Nat.le_refl _) (.cells #[.slice none 0 0, .slice none 0 0, .slice none 0 0] 27)
  have hx0 := heap_alloc_new w (.cells #[.slice none 0 0, .slice none 0 0, .slice none 0 0] 27)
  have hz0 : (w.alloc (.cells #[.slice none 0 0, .slice none 0 0, .slice none 0 0] 27)).heap.size = w.heap.size + 1 := by simp
  have HA := Lib.hid ha; have HX0 := Lib.hid hx0; have HZ0 := Lib.hid hz0
  have HBAD : Hid (∀ (W' : World) (ln x : Int), parseT s = (emTT, ln, x) → Below w.heap.size w W' → TParPost (parseT s) w (.returned (.tuple #[.agg #[.slice none 0 0, .slice none 0 0, .slice none 0 0], .int .i64 ln, .int .i64 x])) W') := fun W' ln x he hb => by
    rw [he]
    exact ⟨none, 0, 0, none, 0, 0, none, 0, 0, rfl, Sl.nil0, Sl.nil0, Sl.nil0, hb⟩
  have HT2 : Hid ((linesB s).2 ≠ 0 → parseT s = (emTT, 0, (linesB s).2)) := fun h => by show _ = _; unfold parseT; rw [if_pos h]
  clear ha hx0 hz0 hg hs
  go_enter Tryz.func7, Tryz.ntmps7
  go_upto_region 1 with (fail)
  generalize w.alloc (.cells #[.slice none 0 0, .slice none 0 0, .slice none 0 0] 27) = W at *
  go_wp2_with fail
  refine (lines_any s W HSS.out (HGL.out W HA.out)).mono ?_
  rintro e w2 ⟨Al, nl, cl, rfl, hsl, hb2⟩
  have hbw2 : Below w.heap.size w w2 := HA.out.trans (hb2.mono HA.out.size)
  have hx2 : w2.heap[w.heap.size]? = some (.cells #[.slice none 0 0, .slice none 0 0, .slice none 0 0] 27 (0, 0)) := (hb2.block _ (by have := HZ0.out; omega)).trans HX0.out
  have hz2 : w.heap.size + 1 ≤ w2.heap.size := by have := hb2.size; have := HZ0.out; omega
  have HX2 := Lib.hid hx2
  have HBW2 := Lib.hid hbw2
  by_cases he : (linesB s).2 = 0
  case neg =>
    have he' : ((linesB s).2 != 0) = true := by simpa using he
    have HR := Lib.hid (HT2.out he)
    have z0 := block_cell hx2 0; have z1 := block_cell hx2 1; have z2 := block_cell hx2 2
    have f0 := block_free hx2 0; have f1 := block_free hx2 1; have f2 := block_free hx2 2
    generalize (linesB s).2 = er at *
    clear he hx2
    go_wp2_with fail
    refine bodyPost_ret (v := .tuple #[.agg #[.slice none 0 0, .slice none 0 0, .slice none 0 0], .int .i64 0, .int .i64 er]) (by simp [results, Tryz.results7, go_sem, z0, z1, z2]) rfl ?_
    exact HBAD.out _ _ _ HR.out (((HBW2.out.setCell (Nat.le_refl _) _).setCell (Nat.le_refl _) _).setCell (Nat.le_refl _) _)
  rw [he]
  have HLM : Hid (∀ f ∈ (linesB s).1, f.size ≤ 20000) := fun f hf => by have := linesB_mem hf; omega
  have hll := linesB_len s
  have HPO : Hid (∀ k, TtOk k (ttAt (linesB s).1 k)) := TtOk.at_ HLM.out
  have HPE : Hid (∀ k : Nat, k < (linesB s).1.length → ttBad (linesB s).1 k = true → (∀ j, j < k → ttBad (linesB s).1 j = false) → parseT s = (emTT, (k : Int) + 1, 1)) := fun k h1 h2 h3 => parseT_bad he h1 h2 h3
  have HPA : Hid ((∀ j, j < (linesB s).1.length → ttBad (linesB s).1 j = false) → parseT s = if ttE (ttAt (linesB s).1 (linesB s).1.length) ≠ 0 then (emTT, 0, ttE (ttAt (linesB s).1 (linesB s).1.length)) else (ttAt (linesB s).1 (linesB s).1.length, 0, 0)) := fun h => parseT_all he h
  generalize (linesB s).1 = ls at *
  have hnl := hsl.len
  subst hnl
  have HTB0 : Hid (TBx w2 w.heap.size w2.heap.size (.slice none 0 0) (.slice none 0 0) (.slice none 0 0) (ttAt ls 0)) := ⟨hx2, TPM.nil _ _, hz2, Nat.le_refl _⟩
  have HSL := Lib.hid (hsl.str_apart (box_nostr hx2 (fun _ h => by cases h) (fun _ h => by cases h) (fun _ h => by cases h)))
  have HKB : Hid (∀ V, TKeep w.heap.size w2.heap.size w2 V → Below w.heap.size w V ∧ Sl Ty.str V (all_ V) Al ls.length cl ls) := fun V hV => by
    refine ⟨⟨hV.os.trans HBW2.out.os, hV.tape.trans HBW2.out.tape, hV.output.trans HBW2.out.output, by have := hV.size; omega, fun q hq => (hV.block q (by omega) (by omega)).trans (HBW2.out.block q hq)⟩, (HSL.out.keep fun q hq => hV.block q hq.1 hq.2).more fun q hq => Nat.lt_of_lt_of_le hq.1 hV.size⟩
  clear hsl hb2 hbw2 HT2 he hx2 HX0 HZ0 HA
  go_wp2_with fail
  go_loopw [6, 7, 8, 21] (fun _ _ _ i wr => ∃ (k : Nat) (v1 v2 v3 : Value), k ≤ ls.length ∧ i = .int .i64 k ∧ Hid (TBx wr w.heap.size w2.heap.size v1 v2 v3 (ttAt ls k)) ∧ Hid (TKeep w.heap.size w2.heap.size w2 wr) ∧ Hid (∀ j, j < k → ttBad ls j = false)) (fun _ _ _ i _ => ls.length - (intOf i).toNat)
  case atStart => exact ⟨0, _, _, _, Nat.zero_le _, rfl, HTB0, TKeep.of_below (Below.refl _ _) (Nat.le_refl _), fun j hj => by omega⟩
  case round =>
    clear HTB0
    obtain ⟨k, v1, v2, v3, hk, rfl, HST, HKP, HNE⟩ := hrel
    obtain ⟨hbr, hslr⟩ := HKB.out wr HKP.out
    by_cases hlt : k < ls.length
    · have hlt' : (k : Int) < (ls.length : Int) := by omega
      obtain ⟨lb, lo2, rfl, -, hcl⟩ := hslr.str_at hlt
      have hge : ls[k] = ls.getD k emS := by rw [List.getD_eq_getElem?_getD, List.getElem?_eq_getElem hlt]; rfl
      rw [hge] at hcl
      have hsz : (ls.getD k emS).size ≤ 20000 := fld_le HLM.out k
      have HFO := Lib.hid (fields_own (ls.getD k emS) wr (by omega) (HGL.out wr hbr))
      have HFM : Hid (∀ x ∈ fieldsB (ls.getD k emS), x.size ≤ 20000) := fun x hx => by have := fieldsB_mem hx; omega
      have HFL : Hid ((fieldsB (ls.getD k emS)).length ≤ 100000) := by
        have := fieldsB_len (ls.getD k emS)
        show _ ≤ _
        omega
      have HSUC : Hid (∀ x, stepT9 (ls.getD k emS) (ttAt ls k) = some x → ttAt ls (k + 1) = x ∧ ttBad ls k = false) := fun x hx => ttAt_succ hx
      have HBD : Hid (stepT9 (ls.getD k emS) (ttAt ls k) = none → ttBad ls k = true) := fun hx => ttBad_of hx
      generalize ls.getD k emS = ln at *
      clear hslr hsz hge
      go_wp2_with fail
      refine HFO.out.mono ?_
      rintro e wf ⟨vf, rfl, hof, hbf⟩
      obtain ⟨Af, cf, rfl, hslf⟩ := hof.sl
      have hszf := hbf.size
      have HSF : Hid (TBx wf w.heap.size w2.heap.size v1 v2 v3 (ttAt ls k)) := HST.out.next hbf
      have HKF : Hid (TKeep w.heap.size w2.heap.size w2 wf) := HKP.out.trans (TKeep.of_below hbf HST.out.le)
      have HBF := Lib.hid (HKB.out wf HKF.out).1
      have HSLF : Hid (Sl Ty.str wf (all_ wf) Af (fieldsB ln).length cf (fieldsB ln)) := hslf.more fun q hq => hq.2
      have HNIL := Lib.hid (stepT9_nil (s := ln) (t := ttAt ls k))
      have HLIN := Lib.hid (stepT9_line (s := ln) (t := ttAt ls k))
      have HOKK : Hid (TtOk 1000 (ttAt ls k)) := (HPO.out k).up (by omega)
      clear hof hslf HFO HST HKP hbf hbr hcl
      generalize fieldsB ln = fs at *
      by_cases hfs : fs = []
      · have hl0 : ((fs.length : Int) == 0) = true := by rw [hfs]; rfl
        have HE := Lib.hid (HSUC.out _ (HNIL.out hfs))
        have HN1 : Hid (∀ j, j < k + 1 → ttBad ls j = false) := fun j hj => by
          rcases Nat.lt_or_eq_of_le (Nat.le_of_lt_succ hj) with h | h
          · exact HNE.out j h
          · subst h; exact HE.out.2
        have HST1 : Hid (TBx wf w.heap.size w2.heap.size v1 v2 v3 (ttAt ls (k + 1))) := by show TBx _ _ _ _ _ _ _; rw [HE.out.1]; exact HSF.out
        clear hfs
        go_wp2_with fail
        go_roundw
        case rel => exact ⟨k + 1, v1, v2, v3, by omega, by go_num, HST1, HKF, HN1⟩
        case measure => simp [intOf]; omega
      have hl0 : ((fs.length : Int) == 0) = false := by
        have := List.length_pos_iff.2 hfs
        simp; omega
      have HLN := Lib.hid (parseLine9_any fs Af fs.length cf (ttAt ls k) w.heap.size w2.heap.size v1 v2 v3 wf HSF.out HOKK.out HSLF.out (List.length_pos_iff.2 hfs) HFL.out HFM.out (HGL.out wf HBF.out))
      have HLI := Lib.hid (HLIN.out hfs)
      clear hfs HNIL HLIN
      rw [HLI.out] at HSUC HBD
      unfold LnPost9 at HLN
      generalize lineT9 fs (ttAt ls k) = r at *
      go_wp2_with fail
      refine HLN.out.mono ?_
      rintro e w5 ⟨rfl, hk5, u1, u2, u3, t5, hx5, ht5⟩
      have HK5 : Hid (TKeep w.heap.size w2.heap.size w2 w5) := HKF.out.trans hk5
      have HB5 := Lib.hid (HKB.out w5 HK5.out).1
      have HX5 := Lib.hid hx5
      have HT5 := Lib.hid ht5
      clear hk5 HLN hx5 ht5
      cases r with
      | some x =>
        obtain rfl := HT5.out x rfl
        have HE := Lib.hid (HSUC.out t5 rfl)
        have HN1 : Hid (∀ j, j < k + 1 → ttBad ls j = false) := fun j hj => by
          rcases Nat.lt_or_eq_of_le (Nat.le_of_lt_succ hj) with h | h
          · exact HNE.out j h
          · subst h; exact HE.out.2
        have HST1 : Hid (TBx w5 w.heap.size w2.heap.size u1 u2 u3 (ttAt ls (k + 1))) := by show TBx _ _ _ _ _ _ _; rw [HE.out.1]; exact HX5.out
        go_wp2_with fail
        go_roundw
        case rel => exact ⟨k + 1, u1, u2, u3, by omega, by go_num, HST1, HK5, HN1⟩
        case measure => simp [intOf]; omega
      | none =>
        have HR : Hid (parseT s = (emTT, (k : Int) + 1, 1)) := HPE.out k hlt (HBD.out rfl) HNE.out
        have hx := HX5.out.box
        obtain ⟨B1, d1, B2, d2, B3, d3, rfl, rfl, rfl, -⟩ := HX5.out.m.sl
        have z0 := block_cell hx 0; have z1 := block_cell hx 1; have z2 := block_cell hx 2
        have f0 := block_free hx 0; have f1 := block_free hx 1; have f2 := block_free hx 2
        clear hx
        go_wp2_with fail
        refine bodyPost_ret (v := .tuple #[.agg #[.slice none 0 0, .slice none 0 0, .slice none 0 0], .int .i64 ((k : Int) + 1), .int .i64 1]) (by simp [results, Tryz.results7, go_sem, z0, z1, z2]) rfl ?_
        exact HBAD.out _ _ _ HR.out (((HB5.out.setCell (Nat.le_refl _) _).setCell (Nat.le_refl _) _).setCell (Nat.le_refl _) _)
    · have hkl : k = ls.length := by omega
      subst hkl
      have hge : ¬ (ls.length : Int) < (ls.length : Int) := by omega
      have HPAX := Lib.hid (HPA.out HNE.out)
      have HOKP := HPO.out ls.length
      have hx := HST.out.box
      have hm := HST.out.m
      obtain ⟨B1, d1, B2, d2, B3, d3, rfl, rfl, rfl, s1, s2, s3⟩ := hm.sl
      have hbr' := Lib.hid hbr
      have hV := validate_any (ttAt ls ls.length) B1 B2 B3 _ _ _ d1 d2 d3 wr HOKP.1 (s1.more fun q hq => hq.2) (s2.more fun q hq => hq.2) (s3.more fun q hq => hq.2)
      have HV := Lib.hid hV
      have HM := Lib.hid hm
      have HX := Lib.hid hx
      have htl := HST.out.lt
      have hle := HST.out.le
      generalize ttAt ls ls.length = tt at *
      have z0 := block_cell hx 0; have z1 := block_cell hx 1; have z2 := block_cell hx 2
      clear hx hm s1 s2 s3 hV hbr hslr hlt hk HOKP HST HKP HNE
      go_wp2_with fail
      refine HV.out.mono ?_
      rintro e w6 ⟨rfl, hb6⟩
      have HB6 : Hid (Below w.heap.size w w6) := hbr'.out.trans (hb6.mono hbr'.out.size)
      have hx6 := (hb6.block w.heap.size (by omega)).trans HX.out
      have HM6 := Lib.hid (HM.out.next hb6)
      clear z0 z1 z2 hb6 HV
      have z0 := block_cell hx6 0; have z1 := block_cell hx6 1; have z2 := block_cell hx6 2
      have f0 := block_free hx6 0; have f1 := block_free hx6 1; have f2 := block_free hx6 2
      clear hx6
      generalize ttE tt = ce at *
      by_cases hce : ce = 0
      · have HR : Hid (parseT s = (tt, 0, 0)) := by show _ = _; rw [HPAX.out, if_neg (by simp [hce])]
        have HRES : Hid (∀ V, TPM V w2.heap.size (.slice B1 tt.zones.length d1) (.slice B2 tt.airports.length d2) (.slice B3 tt.flights.length d3) tt → Below w.heap.size w V → TParPost (parseT s) w (.returned (.tuple #[.agg #[.slice B1 tt.zones.length d1, .slice B2 tt.airports.length d2, .slice B3 tt.flights.length d3], .int .i64 0, .int .i64 0])) V) := fun V hm hb => by
          rw [HR.out]
          obtain ⟨B1', d1', B2', d2', B3', d3', e1, e2, e3, s1, s2, s3⟩ := hm.sl
          injection e1 with e1 _ e1'
          injection e2 with e2 _ e2'
          injection e3 with e3 _ e3'
          subst e1 e1' e2 e2' e3 e3'
          exact ⟨_, _, _, _, _, _, _, _, _, rfl, s1.more fun q hq => hq.2, s2.more fun q hq => hq.2, s3.more fun q hq => hq.2, hb⟩
        subst hce
        go_wp2_with fail
        refine bodyPost_ret (v := .tuple #[.agg #[.slice B1 tt.zones.length d1, .slice B2 tt.airports.length d2, .slice B3 tt.flights.length d3], .int .i64 0, .int .i64 0]) (by simp [results, Tryz.results7, go_sem, z0, z1, z2]) rfl ?_
        exact HRES.out _ (((HM6.out.setBox htl).setBox htl).setBox htl) (((HB6.out.setCell (Nat.le_refl _) _).setCell (Nat.le_refl _) _).setCell (Nat.le_refl _) _)
      · have hne : (ce != 0) = true := by simpa using hce
        have HR : Hid (parseT s = (emTT, 0, ce)) := by show _ = _; rw [HPAX.out, if_pos hce]
        clear hce HPAX
        go_wp2_with fail
        refine bodyPost_ret (v := .tuple #[.agg #[.slice none 0 0, .slice none 0 0, .slice none 0 0], .int .i64 0, .int .i64 ce]) (by simp [results, Tryz.results7, go_sem, z0, z1, z2]) rfl ?_
        exact HBAD.out _ _ _ HR.out (((HB6.out.setCell (Nat.le_refl _) _).setCell (Nat.le_refl _) _).setCell (Nat.le_refl _) _)
end Go.Proofs.YtldeoaddogifpaaGreatDoor
/-
  The frame read back, the four bytes of a sum, the readers' way back: plain.
  No condition.
-/
namespace Go.Proofs.YtldeoaddogifpaaGreatDoor
set_option linter.unusedSimpArgs false
set_option linter.unusedVariables false
open Go

theorem sumStep_nat {s : BitVec 32} {c : Int} (hs : s.toNat < 16777216) (h0 : 0 ≤ c) (h1 : c < 256) : (sumStep s c).toNat = s.toNat * 256 + c.toNat := by
  have e := Nat.two_pow_add_eq_or_of_lt (i := 8) (b := c.toNat) (by omega) s.toNat
  unfold sumStep
  rw [BitVec.toNat_or, BitVec.toNat_shiftLeft, Nat.shiftLeft_eq, BitVec.toNat_ofInt]
  have e1 : s.toNat * 2 ^ 8 % 2 ^ 32 = 2 ^ 8 * s.toNat := by omega
  have e2 : (c % ((2 ^ 32 : Nat) : Int)).toNat = c.toNat := by omega
  rw [e1, e2, ← e]
  omega
theorem sumOf_bytes (x : BitVec 32) : sumOf (sumBytes x) = x := by
  have hx := x.isLt
  apply BitVec.eq_of_toNat_eq
  simp only [sumOf, sumBytes, List.foldl_cons, List.foldl_nil]
  have e0 : (0#32).toNat = 0 := rfl
  have a1 : (sumStep 0#32 (u32 x / 16777216 % 256)).toNat = x.toNat / 16777216 := by
    rw [sumStep_nat (by rw [e0]; decide) (by omega) (by omega), e0]
    unfold u32
    omega
  have a2 : (sumStep (sumStep 0#32 (u32 x / 16777216 % 256)) (u32 x / 65536 % 256)).toNat = x.toNat / 65536 := by
    rw [sumStep_nat (by rw [a1]; omega) (by omega) (by omega), a1]
    unfold u32
    omega
  have a3 : (sumStep (sumStep (sumStep 0#32 (u32 x / 16777216 % 256)) (u32 x / 65536 % 256)) (u32 x / 256 % 256)).toNat = x.toNat / 256 := by
    rw [sumStep_nat (by rw [a2]; omega) (by omega) (by omega), a2]
    unfold u32
    omega
  rw [sumStep_nat (by rw [a3]; omega) (by omega) (by omega), a3]
  unfold u32
  omega
theorem sumBytes_len (x : BitVec 32) : (sumBytes x).length = 4 := rfl
theorem frameB_len (kind : Int) (body : List Int) : (frameB kind body).length = 1 + (uvar body.length).length + body.length + 4 := by
  unfold frameB headB
  rw [List.length_append, sumBytes_len, List.length_cons, List.length_append]
  omega
theorem headB_len (kind : Int) (body : List Int) : (headB kind body).length = 1 + (uvar body.length).length + body.length := by
  unfold headB
  rw [List.length_cons, List.length_append]
  omega
theorem frameB_tail (kind : Int) (body : List Int) : (frameB kind body).tail = uvar body.length ++ (body ++ sumBytes (crc (headB kind body))) := by
  unfold frameB
  conv => lhs; unfold headB
  rw [List.cons_append, List.tail_cons, List.append_assoc]
  rfl
theorem frameB_dec (kind : Int) {body : List Int} (h : body.length ≤ 1048576) : decU (frameB kind body).tail = ((body.length : Int), (uvar body.length).length, 0) := by
  rw [frameB_tail, decU_uvar _ (by omega) (by omega)]
theorem unfr_frame (kind : Int) {body : List Int} (h : body.length ≤ 1048576) : unfr (frameB kind body) = (kind, body, (frameB kind body).length, 0) := by
  have hd := frameB_dec kind h
  have hl := frameB_len kind body
  have hh := headB_len kind body
  have hne : frameB kind body ≠ [] := fun e => by rw [e] at hl; simp at hl
  have t1 : (frameB kind body).take (1 + (uvar body.length).length + body.length) = headB kind body := by
    rw [← hh]; unfold frameB; exact List.take_left
  have t2 : (frameB kind body).drop (1 + (uvar body.length).length + body.length) = sumBytes (crc (headB kind body)) := by
    rw [← hh]; unfold frameB; exact List.drop_left
  have t3 : ((frameB kind body).drop (1 + (uvar body.length).length)).take body.length = body := by
    have e : frameB kind body = (kind :: uvar body.length) ++ (body ++ sumBytes (crc (headB kind body))) := by
      unfold frameB
      conv => lhs; unfold headB
      simp
      rfl
    have e2 : (kind :: uvar body.length).length = 1 + (uvar body.length).length := by simp; omega
    rw [e, ← e2, List.drop_left, List.take_left]
  unfold unfr
  rw [if_neg hne, hd]
  simp only [Int.toNat_natCast]
  rw [if_neg (by simp), if_neg (by omega), if_neg (by omega), t1, t2, t3, List.take_of_length_le (Nat.le_of_eq (sumBytes_len _)), sumOf_bytes, if_neg (by simp)]
  rw [hl]
  rfl
theorem rdU_back {n : Int} (r : List Int) (b : Bool) (h0 : 0 ≤ n) (h1 : n ≤ 4611686018427387904) : rdU (uvar n ++ r) b = (n, r, b) := by
  unfold rdU
  rw [decU_uvar r h0 h1, if_pos rfl, List.drop_left]
theorem rdI_back {n : Int} (r : List Int) (b : Bool) (h0 : -2305843009213693952 ≤ n) (h1 : n ≤ 2305843009213693952) : rdI (uvar (zig n) ++ r) b = (n, r, b) := by
  unfold rdI
  rw [decI_zig r h0 h1, if_pos rfl, List.drop_left]
theorem rdT_back {s : ByteArray} (r : List Int) (b : Bool) (h : s.size ≤ 20000) : rdT (textB s ++ r) b = (s, r, b) := by
  unfold rdT
  rw [decT_text r h, if_pos rfl, List.drop_left]
theorem rdN_back {n : Nat} {m : Int} (r : List Int) (b : Bool) (h0 : n ≤ r.length) (h1 : (n : Int) ≤ m) (h2 : n ≤ 1000000) : rdN m (uvar n ++ r) b = ((n : Int), r, b) := by
  have h : rdC (uvar n ++ r) b = ((n : Int), r, b) := by
    unfold rdC
    rw [rdU_back r b (by omega) (by omega), if_neg (by simp only; omega)]
  unfold rdN
  rw [h, if_neg (by simp only; omega)]
theorem flatMap_ge {α : Type} {f : α → List Int} (h : ∀ x, f x ≠ []) : ∀ (l : List α), l.length ≤ (l.flatMap f).length
  | [] => by simp
  | a :: l => by
    have h1 := flatMap_ge h l
    have h2 := List.length_pos_iff.2 (h a)
    rw [List.flatMap_cons, List.length_append, List.length_cons]
    omega
theorem frameB_bytes {kind : Int} {body : List Int} (hk : isByte kind) (hb : bytesL body) : bytesL (frameB kind body) := by
  intro x hx
  unfold frameB headB sumBytes at hx
  simp only [List.mem_append, List.mem_cons, List.not_mem_nil, or_false] at hx
  have hb2 : ∀ y : Int, isByte (y % 256) := fun y => ⟨by omega, by omega⟩
  rcases hx with (rfl | hx | hx) | rfl | rfl | rfl | rfl
  · exact hk
  · exact uvar_bytes (by omega) x hx
  · exact hb x hx
  all_goals exact hb2 _
theorem bytesL_append {a b : List Int} (ha : bytesL a) (hb : bytesL b) : bytesL (a ++ b) := fun x hx => by
  rcases List.mem_append.1 hx with h | h
  · exact ha x h
  · exact hb x h
theorem bytesL_flatMap {α : Type} {f : α → List Int} {l : List α} (h : ∀ x ∈ l, bytesL (f x)) : bytesL (l.flatMap f) := fun x hx => by
  obtain ⟨y, hy, hxy⟩ := List.mem_flatMap.1 hx
  exact h y hy x hxy
theorem textB_bytes (s : ByteArray) : bytesL (textB s) := bytesL_append (uvar_bytes (by omega)) (bytesOf_bytes s)
theorem zig_pos (n : Int) : 0 ≤ zig n := by unfold zig; split <;> omega
theorem sumOf4 {a b c d : Int} (ha : isByte a) (hb : isByte b) (hc : isByte c) (hd : isByte d) : ((sumOf [a, b, c, d]).toNat : Int) = ((a * 256 + b) * 256 + c) * 256 + d := by
  unfold isByte at *
  simp only [sumOf, List.foldl_cons, List.foldl_nil]
  have e0 : (0#32).toNat = 0 := rfl
  have a1 : (sumStep 0#32 a).toNat = a.toNat := by rw [sumStep_nat (by rw [e0]; decide) ha.1 ha.2, e0]; omega
  have a2 : (sumStep (sumStep 0#32 a) b).toNat = a.toNat * 256 + b.toNat := by rw [sumStep_nat (by rw [a1]; omega) hb.1 hb.2, a1]
  have a3 : (sumStep (sumStep (sumStep 0#32 a) b) c).toNat = (a.toNat * 256 + b.toNat) * 256 + c.toNat := by rw [sumStep_nat (by rw [a2]; omega) hc.1 hc.2, a2]
  rw [sumStep_nat (by rw [a3]; omega) hd.1 hd.2, a3]
  omega
end Go.Proofs.YtldeoaddogifpaaGreatDoor
/-
  The reading of a timetable's encoding gives the timetable back.
  No condition.
-/
namespace Go.Proofs.YtldeoaddogifpaaGreatDoor
set_option linter.unusedSimpArgs false
set_option linter.unusedVariables false
open Go

theorem shiftB_pos (s : GShift) : shiftB s ≠ [] := fun e => by
  unfold shiftB at e
  exact uvar_pos _ (List.append_eq_nil_iff.1 e).1
theorem zoneB_pos (z : GZone) : zoneB z ≠ [] := fun e => by
  unfold zoneB at e
  simp only [List.append_eq_nil_iff] at e
  exact textB_pos _ e.1.1.1
theorem airportB_pos (a : GAirport) : airportB a ≠ [] := fun e => by
  unfold airportB at e
  exact textB_pos _ (List.append_eq_nil_iff.1 e).1
theorem flightB_pos (f : GFlight) : flightB f ≠ [] := fun e => by
  unfold flightB at e
  simp only [List.append_eq_nil_iff] at e
  exact textB_pos _ e.1.1.1.1.1.1.1.1
theorem rdShift_back (s : GShift) (r : List Int) (h : s.fine) : rdShift (shiftB s ++ r) false = (s, r, false) := by
  obtain ⟨h1, h2⟩ := h
  unfold rdShift shiftB
  rw [List.append_assoc, rdU_back _ _ (by omega) (by omega)]
  simp only
  rw [rdI_back _ _ (by omega) (by omega)]
theorem rdZone_back (z : GZone) (r : List Int) (h : z.fine) : rdZone (zoneB z ++ r) false = (z, r, false) := by
  obtain ⟨h1, h2, h3, h4⟩ := h
  have hg := flatMap_ge shiftB_pos z.shifts
  unfold rdZone zoneB
  simp only [List.append_assoc]
  rw [rdT_back _ _ (by omega)]
  simp only
  rw [rdI_back _ _ (by omega) (by omega)]
  simp only
  rw [rdN_back _ _ (by rw [List.length_append]; omega) (by omega) (by omega)]
  simp only [Int.toNat_natCast]
  rw [rdMany_back' (p := GShift.fine) (fun x r h => rdShift_back x r h) z.shifts r h4]
theorem rdAirport_back (a : GAirport) (r : List Int) (h : a.fine) : rdAirport (airportB a ++ r) false = (a, r, false) := by
  obtain ⟨h1, h2⟩ := h
  unfold rdAirport airportB
  rw [List.append_assoc, rdT_back _ _ (by omega)]
  simp only
  rw [rdT_back _ _ (by omega)]
theorem rdFlight_back (f : GFlight) (r : List Int) (h : f.fine) : rdFlight (flightB f ++ r) false = (f, r, false) := by
  obtain ⟨h1, h2, h3, h4, h5, h6, h7, h8, h9⟩ := h
  unfold rdFlight flightB
  simp only [List.append_assoc]
  rw [rdT_back _ _ (by omega)]
  simp only
  rw [rdT_back _ _ (by omega)]
  simp only
  rw [rdT_back _ _ (by omega)]
  simp only
  rw [rdU_back _ _ (by omega) (by omega)]
  simp only
  rw [rdU_back _ _ (by omega) (by omega)]
  simp only
  rw [rdT_back _ _ (by omega)]
  simp only
  rw [rdU_back _ _ (by omega) (by omega)]
  simp only
  rw [rdU_back _ _ (by omega) (by omega)]
  simp only
  rw [rdU_back _ _ (by omega) (by omega)]
theorem rdTT_back (t : GTT) (h : t.fine) : rdTT (bodyB t) = (t, [], false) := by
  obtain ⟨l1, l2, l3, hz, ha, hf⟩ := h
  have g1 := flatMap_ge zoneB_pos t.zones
  have g2 := flatMap_ge airportB_pos t.airports
  have g3 := flatMap_ge flightB_pos t.flights
  unfold rdTT bodyB
  simp only [List.append_assoc]
  rw [rdN_back _ _ (by rw [List.length_append]; omega) (by omega) (by omega)]
  simp only [Int.toNat_natCast]
  rw [rdMany_back' (p := GZone.fine) (fun x r h => rdZone_back x r h) t.zones _ hz]
  simp only
  rw [rdN_back _ _ (by rw [List.length_append]; omega) (by omega) (by omega)]
  simp only [Int.toNat_natCast]
  rw [rdMany_back' (p := GAirport.fine) (fun x r h => rdAirport_back x r h) t.airports _ ha]
  simp only
  rw [rdN_back _ _ (by omega) (by omega) (by omega)]
  simp only [Int.toNat_natCast]
  have := rdMany_back' (p := GFlight.fine) (fun x r h => rdFlight_back x r h) t.flights [] hf
  rw [List.append_nil] at this
  rw [this]
theorem decTT_back (t : GTT) (h : t.valid) : decTT (frameB 1 (bodyB t)) = (t, 0) := by
  have hl := bodyB_len h.fine
  unfold decTT
  rw [unfr_frame 1 (by omega)]
  simp only
  rw [if_neg (by simp), if_neg (by simp), rdTT_back t h.fine]
  simp only
  rw [if_neg (by decide), if_neg (by simp [ttE_zero.2 h])]
/-- All that is encoded is bytes. -/
theorem bodyB_bytes {t : GTT} (h : t.fine) : bytesL (bodyB t) := by
  unfold bodyB
  refine bytesL_append (bytesL_append (bytesL_append (bytesL_append (bytesL_append (uvar_bytes (by omega)) (bytesL_flatMap fun z hz => ?_)) (uvar_bytes (by omega))) (bytesL_flatMap fun a ha => ?_)) (uvar_bytes (by omega))) (bytesL_flatMap fun f hf => ?_)
  · unfold zoneB
    exact bytesL_append (bytesL_append (bytesL_append (textB_bytes _) (uvar_bytes (zig_pos _))) (uvar_bytes (by omega))) (bytesL_flatMap fun s hs => bytesL_append (uvar_bytes (((h.z z hz).2.2.2 s hs).1.1)) (uvar_bytes (zig_pos _)))
  · exact bytesL_append (textB_bytes _) (textB_bytes _)
  · obtain ⟨_, _, _, _, h5, h6, h7, h8, h9⟩ := h.f f hf
    unfold flightB
    exact bytesL_append (bytesL_append (bytesL_append (bytesL_append (bytesL_append (bytesL_append (bytesL_append (bytesL_append (textB_bytes _) (textB_bytes _)) (textB_bytes _)) (uvar_bytes h5.1)) (uvar_bytes h6.1)) (textB_bytes _)) (uvar_bytes h7.1)) (uvar_bytes h8.1)) (uvar_bytes h9.1)
end Go.Proofs.YtldeoaddogifpaaGreatDoor
/-
  The walk of pairinglaw9.Same (at equal timetables).
  Condition: the timetable is small enough to be encoded.
-/
namespace Go.Proofs.YtldeoaddogifpaaGreatDoor
set_option linter.unusedSimpArgs false
set_option linter.unusedVariables false
open Go.RowKit

def TruePost (w : World) (e : Ending) (w' : World) : Prop := e = .returned (.bool true) ∧ Below w.heap.size w w'
theorem row_string {w V : World} {base : Nat} {v : Value} {bs : List Int} (h : Own (Ty.int .u8) 5 w base v bs) (hne : bs ≠ []) (hb : Below w.heap.size w V) : (convert 37 9 v).run Tryz.prog V = .ok (.string (strOf bs)) V := by
  obtain ⟨g, cq, rfl, _⟩ := h.int_sl hne
  obtain ⟨A', c', e, hs⟩ := h.sl
  simp only [Value.slice.injEq] at e
  obtain ⟨rfl, -, rfl⟩ := e
  exact run_string_of (P := Tryz.prog) (src := 37) (dst := 9) Tryz.underlying37 Tryz.underlying5 Tryz.underlying9 ((hs.more fun b hb => hb.2).keep (w' := V) fun b hb' => hb.block b hb') (by simp)
set_option maxRecDepth 100000 in
set_option maxHeartbeats 800000 in
theorem same_any (t : GTT) (A1 A2 A3 B1 B2 B3 : Option Addr) (n1 n2 n3 c1 c2 c3 m1 m2 m3 d1 d2 d3 : Nat) (w : World) (hf : t.fine) (hs1 : Sl Ty.zone w (all_ w) A1 n1 c1 t.zones) (hs2 : Sl Ty.airport w (all_ w) A2 n2 c2 t.airports) (hs3 : Sl Ty.flight w (all_ w) A3 n3 c3 t.flights)
    (ks1 : Sl Ty.zone w (all_ w) B1 m1 d1 t.zones) (ks2 : Sl Ty.airport w (all_ w) B2 m2 d2 t.airports) (ks3 : Sl Ty.flight w (all_ w) B3 m3 d3 t.flights) :
    Calls Tryz.prog 9 #[.agg #[.slice A1 n1 c1, .slice A2 n2 c2, .slice A3 n3 c3], .agg #[.slice B1 m1 d1, .slice B2 m2 d2, .slice B3 m3 d3]] w (TruePost w) := by
  have HB0 : Hid (∀ o1 o2, Below w.heap.size w ((w.alloc o1).alloc o2)) := fun o1 o2 => ((Below.refl _ _).alloc (Nat.le_refl _) _).alloc (by simp) _
  have HH0 : Hid (∀ o1 o2, ((w.alloc o1).alloc o2).heap[w.heap.size]? = some o1) := fun o1 o2 => heap_alloc2_old _ _ _
  have HH1 : Hid (∀ o1 o2, ((w.alloc o1).alloc o2).heap[w.heap.size + 1]? = some o2) := fun o1 o2 => heap_alloc2_new _ _ _
  have HHZ : Hid (∀ o1 o2, ((w.alloc o1).alloc o2).heap.size = w.heap.size + 2) := fun o1 o2 => by simp
  have HS : Hid (∀ V, Below w.heap.size w V → (Sl Ty.zone V (all_ V) A1 n1 c1 t.zones ∧ Sl Ty.airport V (all_ V) A2 n2 c2 t.airports ∧ Sl Ty.flight V (all_ V) A3 n3 c3 t.flights) ∧ (Sl Ty.zone V (all_ V) B1 m1 d1 t.zones ∧ Sl Ty.airport V (all_ V) B2 m2 d2 t.airports ∧ Sl Ty.flight V (all_ V) B3 m3 d3 t.flights)) := fun V hV => ⟨⟨hs1.next hV, hs2.next hV, hs3.next hV⟩, ks1.next hV, ks2.next hV, ks3.next hV⟩
  have HF := Lib.hid hf
  have HBP := Lib.hid (bodyB_pos t)
  clear hs1 hs2 hs3 ks1 ks2 ks3 hf
  go_enter Tryz.func9, Tryz.ntmps9
  go_wp2_with fail
  have hb0 := HB0.out (.cells #[.slice A1 n1 c1, .slice A2 n2 c2, .slice A3 n3 c3] 27) (.cells #[.slice B1 m1 d1, .slice B2 m2 d2, .slice B3 m3 d3] 27)
  have h0 := HH0.out (.cells #[.slice A1 n1 c1, .slice A2 n2 c2, .slice A3 n3 c3] 27) (.cells #[.slice B1 m1 d1, .slice B2 m2 d2, .slice B3 m3 d3] 27)
  have h1 := HH1.out (.cells #[.slice A1 n1 c1, .slice A2 n2 c2, .slice A3 n3 c3] 27) (.cells #[.slice B1 m1 d1, .slice B2 m2 d2, .slice B3 m3 d3] 27)
  have hz := HHZ.out (.cells #[.slice A1 n1 c1, .slice A2 n2 c2, .slice A3 n3 c3] 27) (.cells #[.slice B1 m1 d1, .slice B2 m2 d2, .slice B3 m3 d3] 27)
  generalize (w.alloc (.cells #[.slice A1 n1 c1, .slice A2 n2 c2, .slice A3 n3 c3] 27)).alloc (.cells #[.slice B1 m1 d1, .slice B2 m2 d2, .slice B3 m3 d3] 27) = W at *
  have x0 : W.cell? ⟨w.heap.size, 0, none⟩ = some (.slice A1 n1 c1) := block_cell h0 0
  have x1 : W.cell? ⟨w.heap.size, 1, none⟩ = some (.slice A2 n2 c2) := block_cell h0 1
  have x2 : W.cell? ⟨w.heap.size, 2, none⟩ = some (.slice A3 n3 c3) := block_cell h0 2
  have y0 : W.cell? ⟨w.heap.size + 1, 0, none⟩ = some (.slice B1 m1 d1) := block_cell h1 0
  have y1 : W.cell? ⟨w.heap.size + 1, 1, none⟩ = some (.slice B2 m2 d2) := block_cell h1 1
  have y2 : W.cell? ⟨w.heap.size + 1, 2, none⟩ = some (.slice B3 m3 d3) := block_cell h1 2
  have HB := Lib.hid (below_drewN hb0 1); have H1 := Lib.hid h1; have HZ := Lib.hid hz
  have heq : ((strOf (bodyB t)).toList == (strOf (bodyB t)).toList) = true := by simp
  clear HB0 HH0 HH1 HHZ hb0 h0 h1 hz
  have tok1 : True := trivial
  go_region_law (first
    | (go_simp; go_at_call 27; have _t1 := tok1; refine (refBody_any t A1 A2 A3 n1 n2 n3 c1 c2 c3 _ HF.out (HS.out _ HB.out).1.1 (HS.out _ HB.out).1.2.1 (HS.out _ HB.out).1.2.2).mono ?_; rintro e wa ⟨va, rfl, hoa, hba⟩; have hwa : Below w.heap.size w wa := HB.out.trans (hba.mono HB.out.size); have ha1 : wa.heap[w.heap.size + 1]? = _ := (hba.block _ (by have := HZ.out; simp; omega)).trans H1.out; have y0' : wa.cell? ⟨w.heap.size + 1, 0, none⟩ = some (.slice B1 m1 d1) := block_cell ha1 0; have y1' : wa.cell? ⟨w.heap.size + 1, 1, none⟩ = some (.slice B2 m2 d2) := block_cell ha1 1; have y2' : wa.cell? ⟨w.heap.size + 1, 2, none⟩ = some (.slice B3 m3 d3) := block_cell ha1 2; have hca := row_string hoa HBP.out (Below.refl _ _); clear tok1)
    | (go_simp; go_at_call 27; refine (refBody_any t B1 B2 B3 m1 m2 m3 d1 d2 d3 _ HF.out (HS.out _ hwa).2.1 (HS.out _ hwa).2.2.1 (HS.out _ hwa).2.2.2).mono ?_; rintro e wb ⟨vb, rfl, hob, hbb⟩; have hwb : Below w.heap.size w wb := hwa.trans (hbb.mono hwa.size); have hcb := row_string hoa HBP.out hbb; have hcc := row_string hob HBP.out (Below.refl _ _))
    | fail)
  all_goals
    go_wp2_with fail
    go_ret
    exact ⟨rfl, hwb⟩
end Go.Proofs.YtldeoaddogifpaaGreatDoor
/-
  Contract of pairinglaw9.example.
  No condition.
-/
namespace Go.Proofs.YtldeoaddogifpaaGreatDoor
set_option linter.unusedSimpArgs false
set_option linter.unusedVariables false
open Go.RowKit

def sSK1 : ByteArray := ⟨#[83, 75, 49]⟩
def sB737 : ByteArray := ⟨#[98, 55, 51, 55]⟩
def exFlight : GFlight := ⟨sSK1, sAAA, sBBB, 3000, 3060, sB737, 1, 1, 2⟩
def exTT : GTT := ⟨baseZones, baseAirports, [exFlight]⟩
/-- A new timetable is handed back. -/
def TTPost (t : GTT) (w : World) (e : Ending) (w' : World) : Prop :=
  ∃ A1 n1 c1 A2 n2 c2 A3 n3 c3, e = .returned (.agg #[.slice A1 n1 c1, .slice A2 n2 c2, .slice A3 n3 c3]) ∧
    Sl Ty.zone w' (fun b => w.heap.size ≤ b ∧ b < w'.heap.size) A1 n1 c1 t.zones ∧ Sl Ty.airport w' (fun b => w.heap.size ≤ b ∧ b < w'.heap.size) A2 n2 c2 t.airports ∧ Sl Ty.flight w' (fun b => w.heap.size ≤ b ∧ b < w'.heap.size) A3 n3 c3 t.flights ∧ Below w.heap.size w w'

theorem ex_fin {w V : World} {A1 A2 : Option Addr} {n1 c1 n2 c2 : Nat} (F : Nat) (hZ : Sl Ty.zone V (fun b => w.heap.size < b ∧ b < V.heap.size) A1 n1 c1 baseZones) (hA : Sl Ty.airport V (fun b => w.heap.size < b ∧ b < V.heap.size) A2 n2 c2 baseAirports)
    (hF : V.heap[F]? = some (.cells #[.string ⟨#[83, 75, 49]⟩, .string ⟨#[65, 65, 65]⟩, .string ⟨#[66, 66, 66]⟩, .int .i64 3000, .int .i64 3060, .string ⟨#[98, 55, 51, 55]⟩, .int .i64 1, .int .i64 1, .int .i64 2] 47 (0, 0))) (hl : w.heap.size < F) (hb : Below w.heap.size w V) (a b c : Value) :
    TTPost exTT w (.returned (.agg #[.slice A1 n1 c1, .slice A2 n2 c2, .slice (some ⟨F, 0, none⟩) 1 1])) (((V.setCell ⟨w.heap.size, 0, none⟩ a).setCell ⟨w.heap.size, 1, none⟩ b).setCell ⟨w.heap.size, 2, none⟩ c) := by
  have hk : ∀ q, w.heap.size < q → (((V.setCell ⟨w.heap.size, 0, none⟩ a).setCell ⟨w.heap.size, 1, none⟩ b).setCell ⟨w.heap.size, 2, none⟩ c).heap[q]? = V.heap[q]? := fun q hq => by
    rw [heap_setCell_other _ _ _ _ (by simp; omega), heap_setCell_other _ _ _ _ (by simp; omega), heap_setCell_other _ _ _ _ (by simp; omega)]
  refine ⟨_, _, _, _, _, _, _, _, _, rfl, ?_, ?_, ?_, ((hb.setCell (Nat.le_refl _) _).setCell (Nat.le_refl _) _).setCell (Nat.le_refl _) _⟩
  · exact (hZ.keep fun q hq => hk q hq.1).more fun q hq => ⟨by omega, by simpa using hq.2⟩
  · exact (hA.keep fun q hq => hk q hq.1).more fun q hq => ⟨by omega, by simpa using hq.2⟩
  · refine Sl.block (xs := [exFlight]) (t := Ty.flight) ((hk F hl).trans hF) ⟨by omega, by simpa using (Array.getElem?_eq_some_iff.1 hF).1⟩ (by decide) fun i x hi => ?_
    rcases i with _ | i
    · simp at hi; subst hi; rfl
    · simp at hi
set_option maxRecDepth 100000 in
set_option maxHeartbeats 1600000 in
theorem example_any (w : World) : Calls Tryz.prog 15 #[] w (TTPost exTT w) := by
  have HB0 : Hid (∀ o1 o2, Below w.heap.size w ((w.alloc o1).alloc o2)) := fun o1 o2 => ((Below.refl _ _).alloc (Nat.le_refl _) _).alloc (by simp) _
  have HR0 : Hid (∀ o1 o2, ((w.alloc o1).alloc o2).heap[w.heap.size]? = some o1) := fun o1 o2 => heap_alloc2_old _ _ _
  have HR1 : Hid (∀ o1 o2, ((w.alloc o1).alloc o2).heap[w.heap.size + 1]? = some o2) := fun o1 o2 => heap_alloc2_new _ _ _
  have HZ0 : Hid (∀ o1 o2, ((w.alloc o1).alloc o2).heap.size = w.heap.size + 2) := fun o1 o2 => by simp
  go_enter Tryz.func15, Tryz.ntmps15
  go_wp2_with fail
  have hb0 := HB0.out (.cells #[.slice none 0 0, .slice none 0 0, .slice none 0 0] 27) (.cells #[.string sSK1, .string sAAA, .string sBBB, .int .i64 3000, .int .i64 3060, .string sB737, .int .i64 1, .int .i64 1, .int .i64 2] 47)
  have hr0 := HR0.out (.cells #[.slice none 0 0, .slice none 0 0, .slice none 0 0] 27) (.cells #[.string sSK1, .string sAAA, .string sBBB, .int .i64 3000, .int .i64 3060, .string sB737, .int .i64 1, .int .i64 1, .int .i64 2] 47)
  have hr1 := HR1.out (.cells #[.slice none 0 0, .slice none 0 0, .slice none 0 0] 27) (.cells #[.string sSK1, .string sAAA, .string sBBB, .int .i64 3000, .int .i64 3060, .string sB737, .int .i64 1, .int .i64 1, .int .i64 2] 47)
  have hz0 := HZ0.out (.cells #[.slice none 0 0, .slice none 0 0, .slice none 0 0] 27) (.cells #[.string sSK1, .string sAAA, .string sBBB, .int .i64 3000, .int .i64 3060, .string sB737, .int .i64 1, .int .i64 1, .int .i64 2] 47)
  unfold sSK1 sAAA sBBB sB737 at hb0 hr0 hr1 hz0
  generalize (w.alloc (.cells #[.slice none 0 0, .slice none 0 0, .slice none 0 0] 27)).alloc (.cells #[.string ⟨#[83, 75, 49]⟩, .string ⟨#[65, 65, 65]⟩, .string ⟨#[66, 66, 66]⟩, .int .i64 3000, .int .i64 3060, .string ⟨#[98, 55, 51, 55]⟩, .int .i64 1, .int .i64 1, .int .i64 2] 47) = W at *
  clear HB0 HR0 HR1 HZ0
  have hyW : ∀ j, W.cell? ⟨w.heap.size + 1, j, none⟩ = (#[.string ⟨#[83, 75, 49]⟩, .string ⟨#[65, 65, 65]⟩, .string ⟨#[66, 66, 66]⟩, .int .i64 3000, .int .i64 3060, .string ⟨#[98, 55, 51, 55]⟩, .int .i64 1, .int .i64 1, .int .i64 2] : Array Value)[j]? := fun j => block_cell hr1 j
  have hzz : w.heap.size + 2 ≤ W.heap.size := by omega
  have HB0 := Lib.hid hb0; have HR0 := Lib.hid hr0
  clear hb0 hr0 hr1 hz0
  have HD : Hid (∀ q, Below W.heap.size W (W.drewN q)) := fun q => below_drewN (Below.refl _ _) q
  have HDA : Hid (∀ q o, Below W.heap.size W ((W.drewN q).alloc o)) := fun q o => (below_drewN (Below.refl _ _) q).alloc (by simp) o
  go_region_law (first
    | (go_simp; go_at_call 31; refine (zones_any _).mono ?_; rintro e w4 ⟨Az, nz, cz, rfl, hslz, hbz⟩; have hW4 : Below W.heap.size W w4 := (by first | exact (HD.out 1).trans (hbz.mono (HD.out 1).size) | exact (HDA.out 1 _).trans (hbz.mono (HDA.out 1 _).size)); have hs4 := hW4.size; have hy4 : ∀ j, w4.cell? ⟨w.heap.size + 1, j, none⟩ = (#[.string ⟨#[83, 75, 49]⟩, .string ⟨#[65, 65, 65]⟩, .string ⟨#[66, 66, 66]⟩, .int .i64 3000, .int .i64 3060, .string ⟨#[98, 55, 51, 55]⟩, .int .i64 1, .int .i64 1, .int .i64 2] : Array Value)[j]? := fun j => (hW4.cell (by simp; omega)).trans (hyW j); have HZ4 : Hid (∀ V, Below w4.heap.size w4 V → Sl Ty.zone V (fun b => w.heap.size < b ∧ b < V.heap.size) Az nz cz baseZones) := fun V hV => (hslz.keep fun b hb => hV.block b hb.2).more fun b hb => ⟨by have := hb.1; simp at this; omega, by have := hV.size; omega⟩; clear hslz)
    | (go_simp; go_at_call 32; refine (airports_any _).mono ?_; rintro e w5 ⟨Aa, na, ca, rfl, hsla, hba⟩; have h45 : Below w4.heap.size w4 w5 := (by first | exact hba | exact ((Below.refl _ _).alloc (Nat.le_refl _) _).trans (hba.mono (by simp))); have hs5 := h45.size; have hy5 : ∀ j, w5.cell? ⟨w.heap.size + 1, j, none⟩ = (#[.string ⟨#[83, 75, 49]⟩, .string ⟨#[65, 65, 65]⟩, .string ⟨#[66, 66, 66]⟩, .int .i64 3000, .int .i64 3060, .string ⟨#[98, 55, 51, 55]⟩, .int .i64 1, .int .i64 1, .int .i64 2] : Array Value)[j]? := fun j => (h45.cell (by simp; omega)).trans (hy4 j); have HA5 : Hid (∀ V, Below w5.heap.size w5 V → Sl Ty.airport V (fun b => w.heap.size < b ∧ b < V.heap.size) Aa na ca baseAirports) := fun V hV => (hsla.keep fun b hb => hV.block b hb.2).more fun b hb => ⟨by have := hb.1; (try simp at this); omega, by have := hV.size; omega⟩; have hz5 : ∀ j, w5.cell? ⟨w.heap.size, j, none⟩ = (#[.slice none 0 0, .slice none 0 0, .slice none 0 0] : Array Value)[j]? := fun j => ((h45.cell (by simp; omega)).trans (hW4.cell (by simp; omega))).trans (block_cell HR0.out j); have hf5 : ∀ j, w5.frozen? ⟨w.heap.size, j, none⟩ = false := fun j => ((h45.frozen (by simp; omega)).trans (hW4.frozen (by simp; omega))).trans (block_free HR0.out j); have hz6 : ∀ o j, (w5.alloc o).cell? ⟨w.heap.size, j, none⟩ = (#[.slice none 0 0, .slice none 0 0, .slice none 0 0] : Array Value)[j]? := fun o j => (World.cell?_alloc_past _ _ _ (by omega)).trans (hz5 j); have hf6 : ∀ o j, (w5.alloc o).frozen? ⟨w.heap.size, j, none⟩ = false := fun o j => (((Below.refl _ _).alloc (Nat.le_refl _) o).frozen (by simp; omega)).trans (hf5 j); clear hsla)
    | fail)
  · have hwV : ∀ V, Below w5.heap.size w5 V → Below w.heap.size w V := fun V hV => HB0.out.trans ((hW4.mono (by omega)).trans ((h45.mono (by omega)).trans (hV.mono (by omega))))
    have hA : ∀ o, Below w5.heap.size w5 (w5.alloc o) := fun o => (Below.refl _ _).alloc (Nat.le_refl _) o
    have HFIN := Lib.hid (ex_fin (w := w) (V := w5.alloc (.cells #[.string ⟨#[83, 75, 49]⟩, .string ⟨#[65, 65, 65]⟩, .string ⟨#[66, 66, 66]⟩, .int .i64 3000, .int .i64 3060, .string ⟨#[98, 55, 51, 55]⟩, .int .i64 1, .int .i64 1, .int .i64 2] 47)) w5.heap.size (HZ4.out _ (h45.trans ((hA _).mono hs5))) (HA5.out _ (hA _)) (heap_alloc_new _ _) (by omega) (hwV _ (hA _)))
    go_wp2_with fail
    refine bodyPost_ret (v := .agg #[.slice Az nz cz, .slice Aa na ca, .slice (some ⟨w5.heap.size, 0, none⟩) 1 1]) ?_ rfl (HFIN.out _ _ _)
    simp [results, Tryz.results15, go_sem, hz6]
  · have hwV : ∀ V, Below w5.heap.size w5 V → Below w.heap.size w V := fun V hV => HB0.out.trans ((hW4.mono (by omega)).trans ((h45.mono (by omega)).trans (hV.mono (by omega))))
    have hA : ∀ o, Below w5.heap.size w5 (w5.alloc o) := fun o => (Below.refl _ _).alloc (Nat.le_refl _) o
    have HFIN := Lib.hid (ex_fin (w := w) (V := w5.alloc (.cells #[.string ⟨#[83, 75, 49]⟩, .string ⟨#[65, 65, 65]⟩, .string ⟨#[66, 66, 66]⟩, .int .i64 3000, .int .i64 3060, .string ⟨#[98, 55, 51, 55]⟩, .int .i64 1, .int .i64 1, .int .i64 2] 47)) w5.heap.size (HZ4.out _ (h45.trans ((hA _).mono hs5))) (HA5.out _ (hA _)) (heap_alloc_new _ _) (by omega) (hwV _ (hA _)))
    go_wp2_with fail
    refine bodyPost_ret (v := .agg #[.slice Az nz cz, .slice Aa na ca, .slice (some ⟨w5.heap.size, 0, none⟩) 1 1]) ?_ rfl (HFIN.out _ _ _)
    simp [results, Tryz.results15, go_sem, hz6]
  · have hwV : ∀ V, Below w5.heap.size w5 V → Below w.heap.size w V := fun V hV => HB0.out.trans ((hW4.mono (by omega)).trans ((h45.mono (by omega)).trans (hV.mono (by omega))))
    have hA : ∀ o, Below w5.heap.size w5 (w5.alloc o) := fun o => (Below.refl _ _).alloc (Nat.le_refl _) o
    have HFIN := Lib.hid (ex_fin (w := w) (V := w5) w4.heap.size (HZ4.out _ h45) (HA5.out _ (Below.refl _ _)) ((hba.block _ (by simp)).trans (heap_alloc_new _ _)) (by omega) (hwV _ (Below.refl _ _)))
    go_wp2_with fail
    refine bodyPost_ret (v := .agg #[.slice Az nz cz, .slice Aa na ca, .slice (some ⟨w4.heap.size, 0, none⟩) 1 1]) ?_ rfl (HFIN.out _ _ _)
    simp [results, Tryz.results15, go_sem, hz5]
  · have hwV : ∀ V, Below w5.heap.size w5 V → Below w.heap.size w V := fun V hV => HB0.out.trans ((hW4.mono (by omega)).trans ((h45.mono (by omega)).trans (hV.mono (by omega))))
    have hA : ∀ o, Below w5.heap.size w5 (w5.alloc o) := fun o => (Below.refl _ _).alloc (Nat.le_refl _) o
    have HFIN := Lib.hid (ex_fin (w := w) (V := w5.alloc (.cells #[.string ⟨#[83, 75, 49]⟩, .string ⟨#[65, 65, 65]⟩, .string ⟨#[66, 66, 66]⟩, .int .i64 3000, .int .i64 3060, .string ⟨#[98, 55, 51, 55]⟩, .int .i64 1, .int .i64 1, .int .i64 2] 47)) w5.heap.size (HZ4.out _ (h45.trans ((hA _).mono hs5))) (HA5.out _ (hA _)) (heap_alloc_new _ _) (by omega) (hwV _ (hA _)))
    go_wp2_with fail
    refine bodyPost_ret (v := .agg #[.slice Az nz cz, .slice Aa na ca, .slice (some ⟨w5.heap.size, 0, none⟩) 1 1]) ?_ rfl (HFIN.out _ _ _)
    simp [results, Tryz.results15, go_sem, hz6]
  · have hwV : ∀ V, Below w5.heap.size w5 V → Below w.heap.size w V := fun V hV => HB0.out.trans ((hW4.mono (by omega)).trans ((h45.mono (by omega)).trans (hV.mono (by omega))))
    have hA : ∀ o, Below w5.heap.size w5 (w5.alloc o) := fun o => (Below.refl _ _).alloc (Nat.le_refl _) o
    have HFIN := Lib.hid (ex_fin (w := w) (V := w5) w4.heap.size (HZ4.out _ h45) (HA5.out _ (Below.refl _ _)) ((hba.block _ (by simp)).trans (heap_alloc_new _ _)) (by omega) (hwV _ (Below.refl _ _)))
    go_wp2_with fail
    refine bodyPost_ret (v := .agg #[.slice Az nz cz, .slice Aa na ca, .slice (some ⟨w4.heap.size, 0, none⟩) 1 1]) ?_ rfl (HFIN.out _ _ _)
    simp [results, Tryz.results15, go_sem, hz5]
  · have hwV : ∀ V, Below w5.heap.size w5 V → Below w.heap.size w V := fun V hV => HB0.out.trans ((hW4.mono (by omega)).trans ((h45.mono (by omega)).trans (hV.mono (by omega))))
    have hA : ∀ o, Below w5.heap.size w5 (w5.alloc o) := fun o => (Below.refl _ _).alloc (Nat.le_refl _) o
    have HFIN := Lib.hid (ex_fin (w := w) (V := w5) W.heap.size (HZ4.out _ h45) (HA5.out _ (Below.refl _ _)) ((h45.block _ (by have := hbz.size; simp at this; omega)).trans ((hbz.block _ (by simp)).trans (heap_alloc_new W.drew _))) (by omega) (hwV _ (Below.refl _ _)))
    go_wp2_with fail
    refine bodyPost_ret (v := .agg #[.slice Az nz cz, .slice Aa na ca, .slice (some ⟨W.heap.size, 0, none⟩) 1 1]) ?_ rfl (HFIN.out _ _ _)
    simp [results, Tryz.results15, go_sem, hz5]
end Go.Proofs.YtldeoaddogifpaaGreatDoor
/-
  Contract of pairinglaw9.awake: it returns true.
  No condition.
-/
namespace Go.Proofs.YtldeoaddogifpaaGreatDoor
set_option linter.unusedSimpArgs false
set_option linter.unusedVariables false
open Go.RowKit

theorem ex_zero : ttE exTT = 0 := by decide +kernel
def emptyZone : GZone := ⟨⟨#[]⟩, 0, []⟩
def emptyTT : GTT := ⟨[emptyZone], [], []⟩
theorem empty_one : ttE emptyTT = 1 := by decide +kernel
theorem len16 {n : Nat} (h : n ≤ 16) : n ≤ maxLen := by unfold maxLen; omega
theorem GTT.fine.ok {t : GTT} (h : t.fine) : t.ok := by
  refine ⟨fun z hz => ?_, fun a ha => ?_, fun f hf => ?_⟩
  · obtain ⟨h1, h2, h3, h4⟩ := h.z z hz
    exact ⟨len16 h1, by omega, fun s hs => by obtain ⟨g1, g2⟩ := h4 s hs; exact ⟨by omega, by omega⟩⟩
  · obtain ⟨h1, h2⟩ := h.a a ha
    exact ⟨len16 h1, len16 h2⟩
  · obtain ⟨h1, h2, h3, h4, h5, h6, h7, h8, h9⟩ := h.f f hf
    exact ⟨len16 h1, len16 h2, len16 h3, len16 h4, by omega, by omega, by omega, by omega, by omega⟩
theorem ex_ok : exTT.ok := (ttE_zero.1 ex_zero).fine.ok
theorem empty_ok : emptyTT.ok := by
  refine ⟨fun z hz => ?_, fun a ha => (by cases ha), fun f hf => (by cases hf)⟩
  simp [emptyTT] at hz
  subst hz
  exact ⟨len16 (by decide), by decide, fun s hs => by cases hs⟩
def AwPost (w : World) (e : Ending) (w' : World) : Prop := e = .returned (.bool true) ∧ Below w.heap.size w w'
def exBytes : List Int := frameB 1 (bodyB exTT)
theorem ex_bytes : bytesL exBytes := frameB_bytes ⟨by decide, by decide⟩ (bodyB_bytes (ttE_zero.1 ex_zero).fine)
theorem ex_dec : decTT exBytes = (exTT, 0) := decTT_back exTT (ttE_zero.1 ex_zero)

set_option maxRecDepth 100000 in
set_option maxHeartbeats 1600000 in
theorem awake_any (w : World) : Calls Tryz.prog 6 #[] w (AwPost w) := by
  have HE := Lib.hid (example_any w)
  go_enter Tryz.func6, Tryz.ntmps6
  go_wp2_with fail
  refine HE.out.mono ?_
  rintro e w1 ⟨A1, n1, c1, A2, n2, c2, A3, n3, c3, rfl, hs1, hs2, hs3, hb1⟩
  clear HE
  have HEN := Lib.hid (ttEncode_ok exTT A1 A2 A3 n1 n2 n3 c1 c2 c3 w1 ex_ok ex_zero (hs1.more fun b hb => hb.2) (hs2.more fun b hb => hb.2) (hs3.more fun b hb => hb.2))
  clear hs1 hs2 hs3
  go_wp2_with fail
  refine HEN.out.mono ?_
  clear HEN
  rintro e w2 ⟨v2, rfl, hown2, hb2⟩
  obtain ⟨Ab, cb, rfl, hslb⟩ := hown2.sl
  have HD := Lib.hid (ttDecode_any exBytes Ab _ cb w2 (hslb.more fun b hb => hb.2) ex_bytes)
  rw [ex_dec] at HD
  have hlb : (frameB 1 (bodyB exTT)).length = exBytes.length := rfl
  rw [hlb]
  clear hown2 hslb hlb
  go_wp2_with fail
  refine HD.out.mono ?_
  clear HD
  rintro e w3 ⟨B1, m1, d1, B2, m2, d2, B3, m3, d3, rfl, ht1, ht2, ht3, hb3⟩
  have hm3 : m3 = 1 := ht3.len
  subst hm3
  obtain ⟨b, o, rfl, hbS, hat⟩ := ht3.flight_at (k := 0) (by decide)
  have y0 : w3.cell? ⟨b, o, none⟩ = some (.string ⟨#[83, 75, 49]⟩) := hat 0 _ rfl
  have hbl : b < w3.heap.size := hbS.2
  have hy : ∀ o1, (w3.alloc o1).cell? ⟨b, o, none⟩ = some (.string ⟨#[83, 75, 49]⟩) := fun o1 => (World.cell?_alloc_past _ _ _ hbl).trans y0
  have hbF : ∀ o1 o2, Below w.heap.size w ((w3.alloc o1).alloc o2) := fun o1 o2 => by
    have s1 := hb1.size; have s2 := hb2.size; have s3 := hb3.size
    have h3 : Below w.heap.size w w3 := hb1.trans ((hb2.mono s1).trans (hb3.mono (by omega)))
    exact (h3.alloc (by omega) o1).alloc (by simp; omega) o2
  have HBF := Lib.hid hbF
  have HV : Hid (∀ o1, Calls Tryz.prog 17 #[.agg #[.slice (some ⟨w3.heap.size + 1, 0, none⟩) 1 1, .slice none 0 0, .slice none 0 0]] ((w3.alloc o1).alloc (.cells #[.string ⟨#[]⟩, .int .i64 0, .slice none 0 0] 51)) (ErrPost 1 ((w3.alloc o1).alloc (.cells #[.string ⟨#[]⟩, .int .i64 0, .slice none 0 0] 51)))) := fun o1 => by
    have := validate_any emptyTT (some ⟨w3.heap.size + 1, 0, none⟩) none none 1 0 0 1 0 0 ((w3.alloc o1).alloc (.cells #[.string ⟨#[]⟩, .int .i64 0, .slice none 0 0] 51)) empty_ok (Sl.block (xs := [emptyZone]) (t := Ty.zone) (heap_alloc2_new _ _ _) (by show _ < _; simp) (by decide) fun i x hi => by
      rcases i with _ | i
      · simp at hi; subst hi; exact ⟨none, 0, 0, rfl, Sl.nil0⟩
      · simp at hi) Sl.nil0 Sl.nil0
    rw [empty_one] at this
    exact this
  clear ht1 ht2 ht3 hat hbS hbF
  go_wp2_with fail
  refine (HV.out _).mono ?_
  rintro e w4 ⟨rfl, hb4⟩
  have hbf := (HBF.out _ _).trans (hb4.mono (HBF.out _ _).size)
  go_wp2_with fail
  go_ret
  exact ⟨rfl, hbf⟩
end Go.Proofs.YtldeoaddogifpaaGreatDoor
/-
  The plain text of a timetable, and that the plain parser reads it back.
  Condition: the timetable is valid; the text takes no more than 20000 bytes.
-/
namespace Go.Proofs.YtldeoaddogifpaaGreatDoor
set_option linter.unusedSimpArgs false
set_option linter.unusedVariables false
open Go.RowKit

structure ZGood (z : GZone) : Prop where
  name : isNameB z.name = true
  off : -840 ≤ z.off ∧ z.off ≤ 840
  len : z.shifts.length ≤ 16
  s : ∀ s ∈ z.shifts, (0 ≤ s.at_ ∧ s.at_ < 52596000) ∧ -840 ≤ s.off ∧ s.off ≤ 840
structure AGood (a : GAirport) : Prop where
  code : isAirportB a.code = true
  zone : isNameB a.zone = true
structure FGood (x : GFlight) : Prop where
  number : isCodeB x.number = true
  src : isAirportB x.src = true
  dst : isAirportB x.dst = true
  kind : isNameB x.kind = true
  dep : 0 ≤ x.dep ∧ x.dep < 52596000
  arr : 0 ≤ x.arr ∧ x.arr < 52596000
  n0 : 0 ≤ x.n0 ∧ x.n0 ≤ 8
  n1 : 0 ≤ x.n1 ∧ x.n1 ≤ 8
  n2 : 0 ≤ x.n2 ∧ x.n2 ≤ 8
structure TGood (t : GTT) : Prop where
  z : ∀ z ∈ t.zones, ZGood z
  a : ∀ a ∈ t.airports, AGood a
  f : ∀ x ∈ t.flights, FGood x
  l1 : t.zones.length ≤ 16
  l2 : t.airports.length ≤ 64
  l3 : t.flights.length ≤ 200
theorem zoneE_good {z : GZone} (h : zoneE z = 0) : ZGood z := by
  unfold zoneE at h
  split at h
  · exact absurd h (by decide)
  rename_i h1
  split at h
  · exact absurd h (by decide)
  rename_i h2
  split at h
  · exact absurd h (by decide)
  rename_i h3
  refine ⟨not_false_true h1, offOk_iff.1 (not_false_true h2), by omega, fun s hs => ?_⟩
  obtain ⟨i, hi, rfl⟩ := mem_getD hs noShift
  have h4 := firstErr_zero h i hi
  unfold shiftErr at h4
  split at h4
  · exact absurd h4 (by decide)
  · rename_i h5
    exact ⟨insOk_iff.1 (not_false_true fun e => h5 (.inl e)), offOk_iff.1 (not_false_true fun e => h5 (.inr e))⟩
theorem GTT.valid.good {t : GTT} (h : t.valid) : TGood t := by
  have hz : ∀ z ∈ t.zones, ZGood z := fun z hz => by
    obtain ⟨i, hi, rfl⟩ := mem_getD hz noZone
    exact zoneE_good (zErr_zero (h.z i hi)).1
  have ha : ∀ a ∈ t.airports, AGood a := fun a ha => by
    obtain ⟨i, hi, rfl⟩ := mem_getD ha noAirport
    obtain ⟨h1, _, h3⟩ := aErr_zero (h.a i hi)
    rw [hasB_iff, zNames, List.mem_map] at h3
    obtain ⟨z, hzm, e⟩ := h3
    exact ⟨h1, by rw [← e]; exact (hz z hzm).name⟩
  refine ⟨hz, ha, fun f hf => ?_, h.l1, h.l2, h.l3⟩
  obtain ⟨i, hi, rfl⟩ := mem_getD hf noFlight
  have h1 := (fErr_zero (h.f i hi)).1
  have hcode : ∀ c, hasB (aCodes t.airports) c = true → isAirportB c = true := fun c hc => by
    rw [hasB_iff, aCodes, List.mem_map] at hc
    obtain ⟨a, ham, e⟩ := hc
    rw [← e]
    exact (ha a ham).code
  have := h1.dep; have := h1.arr; have := h1.lt
  exact ⟨h1.number, hcode _ h1.src, hcode _ h1.dst, h1.kind, ⟨by omega, by omega⟩, ⟨by omega, by omega⟩, needOk_iff.1 h1.n0, needOk_iff.1 h1.n1, needOk_iff.1 h1.n2⟩
/-- The fields of the lines. -/
noncomputable def sF (s : GShift) : List ByteArray := [insD s.at_, insC s.at_, durF s.off]
noncomputable def zF (z : GZone) : List ByteArray := [zoneS, z.name, durF z.off] ++ z.shifts.flatMap sF
def aF (a : GAirport) : List ByteArray := [airS, a.code, a.zone]
noncomputable def fF (x : GFlight) : List ByteArray := [fliS, x.number, x.src, x.dst, x.kind, insD x.dep, insC x.dep, insD x.arr, insC x.arr, numS x.n0, numS x.n1, numS x.n2]
noncomputable def ttF (t : GTT) : List (List ByteArray) := t.zones.map zF ++ t.airports.map aF ++ t.flights.map fF
noncomputable def ttS (t : GTT) : ByteArray := bs (textT (ttF t))

theorem code_fld {s : ByteArray} (h : isCodeB s = true) : fldOk s := by
  unfold isCodeB at h
  simp only [Bool.and_eq_true, decide_eq_true_eq] at h
  obtain ⟨⟨h1, h2⟩, h3⟩ := h
  refine bytes_fld h1 fun i hi => ?_
  have := allTo_iff.1 h3 i hi
  unfold cdAt upperI numberI at this
  simp only [Bool.or_eq_true, Bool.and_eq_true, decide_eq_true_eq] at this
  omega
theorem zoneS_fld : fldOk zoneS := ⟨by decide, by decide⟩
theorem airS_fld : fldOk airS := ⟨by decide, by decide⟩
theorem fliS_fld : fldOk fliS := ⟨by decide, by decide⟩
theorem zF_fld {z : GZone} (h : ZGood z) : ∀ x ∈ zF z, fldOk x := fun x hx => by
  unfold zF at hx
  rcases List.mem_append.1 hx with hx | hx
  · simp only [List.mem_cons, List.not_mem_nil, or_false] at hx
    rcases hx with rfl | rfl | rfl
    · exact zoneS_fld
    · exact name_fld h.name
    · exact durF_fld _
  · obtain ⟨s, hs, hx⟩ := List.mem_flatMap.1 hx
    have h1 := h.s s hs
    simp only [sF, List.mem_cons, List.not_mem_nil, or_false] at hx
    rcases hx with rfl | rfl | rfl
    · exact (insD_fld h1.1.1 h1.1.2).1
    · exact insC_fld.1
    · exact durF_fld _
theorem aF_fld {a : GAirport} (h : AGood a) : ∀ x ∈ aF a, fldOk x := fun x hx => by
  simp only [aF, List.mem_cons, List.not_mem_nil, or_false] at hx
  rcases hx with rfl | rfl | rfl
  · exact airS_fld
  · exact airport_fld h.code
  · exact name_fld h.zone
theorem fF_fld {y : GFlight} (h : FGood y) : ∀ x ∈ fF y, fldOk x := fun x hx => by
  simp only [fF, List.mem_cons, List.not_mem_nil, or_false] at hx
  rcases hx with rfl | rfl | rfl | rfl | rfl | rfl | rfl | rfl | rfl | rfl | rfl | rfl
  · exact fliS_fld
  · exact code_fld h.number
  · exact airport_fld h.src
  · exact airport_fld h.dst
  · exact name_fld h.kind
  · exact (insD_fld h.dep.1 h.dep.2).1
  · exact insC_fld.1
  · exact (insD_fld h.arr.1 h.arr.2).1
  · exact insC_fld.1
  · exact numS_fld h.n0.1
  · exact numS_fld h.n1.1
  · exact numS_fld h.n2.1
theorem ttF_fld {t : GTT} (h : TGood t) : ∀ f ∈ ttF t, ∀ x ∈ f, fldOk x := fun f hf => by
  unfold ttF at hf
  rcases List.mem_append.1 hf with hf | hf
  · rcases List.mem_append.1 hf with hf | hf
    · obtain ⟨z, hz, rfl⟩ := List.mem_map.1 hf
      exact zF_fld (h.z z hz)
    · obtain ⟨z, hz, rfl⟩ := List.mem_map.1 hf
      exact aF_fld (h.a z hz)
  · obtain ⟨z, hz, rfl⟩ := List.mem_map.1 hf
    exact fF_fld (h.f z hz)
theorem ttF_ne {t : GTT} : ∀ f ∈ ttF t, f ≠ [] := fun f hf => by
  unfold ttF at hf
  rcases List.mem_append.1 hf with hf | hf
  · rcases List.mem_append.1 hf with hf | hf
    · obtain ⟨z, hz, rfl⟩ := List.mem_map.1 hf
      simp [zF]
    · obtain ⟨z, hz, rfl⟩ := List.mem_map.1 hf
      simp [aF]
  · obtain ⟨z, hz, rfl⟩ := List.mem_map.1 hf
    simp [fF]
theorem flat3 : ∀ (l : List GShift) (k j : Nat), k < l.length → j < 3 → (l.flatMap sF).getD (3 * k + j) emS = (sF (l.getD k noShift)).getD j emS
  | [], k, j, h, _ => by simp at h
  | s :: l, 0, j, _, hj => by
    rw [List.flatMap_cons, List.getD_eq_getElem?_getD, List.getElem?_append_left (by show _ < 3; omega)]
    simp [List.getD_eq_getElem?_getD]
  | s :: l, k + 1, j, h, hj => by
    have ih := flat3 l k j (by simpa using h) hj
    rw [List.flatMap_cons, List.getD_eq_getElem?_getD, List.getElem?_append_right (by show 3 ≤ _; omega)]
    rw [show 3 * (k + 1) + j - (sF s).length = 3 * k + j by show 3 * (k + 1) + j - 3 = _; omega]
    rw [← List.getD_eq_getElem?_getD, ih]
    simp
theorem zF_len (z : GZone) : (zF z).length = 3 + 3 * z.shifts.length := by
  unfold zF
  rw [List.length_append]
  have : (z.shifts.flatMap sF).length = 3 * z.shifts.length := by
    induction z.shifts with
    | nil => rfl
    | cons s l ih => rw [List.flatMap_cons, List.length_append, ih, List.length_cons]; show 3 + _ = _; omega
  rw [this]
  rfl
theorem zF_at (z : GZone) {k j : Nat} (hk : k < z.shifts.length) (hj : j < 3) : fld (zF z) (3 + 3 * k + j) = (sF (z.shifts.getD k noShift)).getD j emS := by
  unfold fld zF
  rw [List.getD_eq_getElem?_getD, List.getElem?_append_right (by show 3 ≤ _; omega), show 3 + 3 * k + j - ([zoneS, z.name, durF z.off] : List ByteArray).length = 3 * k + j by show 3 + 3 * k + j - 3 = _; omega, ← List.getD_eq_getElem?_getD]
  exact flat3 _ k j hk hj
theorem insF_at {f : List ByteArray} {i : Nat} {t : Int} (h0 : 0 ≤ t) (h1 : t < 52596000) (a : fld f i = insD t) (b : fld f (i + 1) = insC t) : insF f i = (t, 0) := by
  unfold insF
  rw [a, b]
  exact ins_read h0 h1
theorem line_zone {z : GZone} (h : ZGood z) (t : GTT) : lineT9 (zF z) t = some (t.addZ z) := by
  have e0 : fld (zF z) 0 = zoneS := rfl
  have e1 : fld (zF z) 1 = z.name := rfl
  have e2 : fld (zF z) 2 = durF z.off := rfl
  have el := zF_len z
  have e3 : ((zF z).length - 3) / 3 = z.shifts.length := by omega
  have hs : ∀ k, k < z.shifts.length → insF (zF z) (3 + 3 * k) = ((z.shifts.getD k noShift).at_, 0) ∧ durB (fld (zF z) (5 + 3 * k)) = ((z.shifts.getD k noShift).off, 0) := fun k hk => by
    have hm : z.shifts.getD k noShift ∈ z.shifts := by
      rw [List.getD_eq_getElem?_getD, List.getElem?_eq_getElem hk]
      exact List.getElem_mem hk
    have hg := h.s _ hm
    have a0 := zF_at z hk (j := 0) (by omega)
    have a1 := zF_at z hk (j := 1) (by omega)
    have a2 := zF_at z hk (j := 2) (by omega)
    refine ⟨insF_at hg.1.1 hg.1.2 a0 a1, ?_⟩
    rw [show 5 + 3 * k = 3 + 3 * k + 2 by omega, a2]
    exact dur_back ⟨by omega, by omega⟩
  have hd := dur_back (n := z.off) ⟨by have := h.off; omega, by have := h.off; omega⟩
  have hz : zoneF (zF z) = z := by
    unfold zoneF
    rw [e1, e2, e3, hd]
    have : shiftsF (zF z) z.shifts.length = z.shifts := by
      apply List.ext_getElem?
      intro k
      unfold shiftsF
      rw [List.getElem?_map]
      by_cases hk : k < z.shifts.length
      · rw [List.getElem?_range hk]
        have h1 := hs k hk
        show some (shiftF (zF z) k) = _
        unfold shiftF
        rw [h1.1, h1.2, List.getD_eq_getElem?_getD, List.getElem?_eq_getElem hk]
        rfl
      · rw [List.getElem?_eq_none (by simp; omega), List.getElem?_eq_none (by omega)]
        rfl
    rw [this]
  have hb : zoneBad (zF z) = false := by
    unfold zoneBad
    rw [e2, e3, hd]
    have : shiftsBad (zF z) z.shifts.length = false := by
      unfold shiftsBad
      rw [List.any_eq_false]
      intro k hk
      have h1 := hs k (List.mem_range.1 hk)
      unfold shiftBad
      rw [h1.1, h1.2]
      simp
    rw [this]
    simp
    omega
  unfold lineT9
  rw [e0, if_pos rfl, hb, hz]
  rfl
theorem air_ne : airS ≠ zoneS := by decide
theorem fli_ne : fliS ≠ zoneS ∧ fliS ≠ airS := by decide
theorem line_airport (a : GAirport) (t : GTT) : lineT9 (aF a) t = some (t.addA a) := by
  have e0 : fld (aF a) 0 = airS := rfl
  unfold lineT9
  rw [e0, if_neg air_ne, if_pos rfl]
  rfl
theorem par_back {n : Int} (h : 0 ≤ n ∧ n ≤ 8) : parseB (numS n) = (n, 0) := by
  have := parse_format n
  rw [if_pos (by omega)] at this
  exact this
theorem line_flight {x : GFlight} (h : FGood x) (t : GTT) : lineT9 (fF x) t = some (t.addF x) := by
  have e0 : fld (fF x) 0 = fliS := rfl
  have i5 : insF (fF x) 5 = (x.dep, 0) := insF_at h.dep.1 h.dep.2 rfl rfl
  have i7 : insF (fF x) 7 = (x.arr, 0) := insF_at h.arr.1 h.arr.2 rfl rfl
  have p9 : parseB (fld (fF x) 9) = (x.n0, 0) := par_back h.n0
  have p10 : parseB (fld (fF x) 10) = (x.n1, 0) := par_back h.n1
  have p11 : parseB (fld (fF x) 11) = (x.n2, 0) := par_back h.n2
  have hb : flightBad (fF x) = false := by
    unfold flightBad
    rw [i5, i7, p9, p10, p11]
    rfl
  have hf : flightF (fF x) = x := by
    unfold flightF
    rw [i5, i7, p9, p10, p11]
    rfl
  unfold lineT9
  rw [e0, if_neg fli_ne.1, if_neg fli_ne.2, if_pos rfl, hb, hf]
  rfl
/-- The lines one behind the other. -/
def runT9 : List (List ByteArray) → GTT → Option GTT
  | [], t => some t
  | f :: r, t => (lineT9 f t).bind (runT9 r)
theorem runT9_app : ∀ (a b : List (List ByteArray)) (t : GTT), runT9 (a ++ b) t = (runT9 a t).bind (runT9 b)
  | [], b, t => rfl
  | f :: a, b, t => by
    show (lineT9 f t).bind (runT9 (a ++ b)) = ((lineT9 f t).bind (runT9 a)).bind (runT9 b)
    cases lineT9 f t with
    | none => rfl
    | some t' => exact runT9_app a b t'
theorem run_zones : ∀ (l : List GZone) (t : GTT), (∀ z ∈ l, ZGood z) → runT9 (l.map zF) t = some ⟨t.zones ++ l, t.airports, t.flights⟩
  | [], t, _ => by simp [runT9]
  | z :: l, t, h => by
    show (lineT9 (zF z) t).bind (runT9 (l.map zF)) = _
    rw [line_zone (h z (.head _))]
    show runT9 (l.map zF) (t.addZ z) = _
    rw [run_zones l _ fun y hy => h y (.tail _ hy)]
    simp [GTT.addZ]
theorem run_airports : ∀ (l : List GAirport) (t : GTT), runT9 (l.map aF) t = some ⟨t.zones, t.airports ++ l, t.flights⟩
  | [], t => by simp [runT9]
  | z :: l, t => by
    show (lineT9 (aF z) t).bind (runT9 (l.map aF)) = _
    rw [line_airport]
    show runT9 (l.map aF) (t.addA z) = _
    rw [run_airports l _]
    simp [GTT.addA]
theorem run_flights : ∀ (l : List GFlight) (t : GTT), (∀ z ∈ l, FGood z) → runT9 (l.map fF) t = some ⟨t.zones, t.airports, t.flights ++ l⟩
  | [], t, _ => by simp [runT9]
  | z :: l, t, h => by
    show (lineT9 (fF z) t).bind (runT9 (l.map fF)) = _
    rw [line_flight (h z (.head _))]
    show runT9 (l.map fF) (t.addF z) = _
    rw [run_flights l _ fun y hy => h y (.tail _ hy)]
    simp [GTT.addF]
theorem run_tt {t : GTT} (h : TGood t) : runT9 (ttF t) emTT = some t := by
  unfold ttF
  rw [runT9_app, runT9_app, run_zones _ _ h.z]
  show ((runT9 (t.airports.map aF) ⟨[] ++ t.zones, [], []⟩).bind (runT9 (t.flights.map fF))) = _
  rw [run_airports]
  show runT9 (t.flights.map fF) _ = _
  rw [run_flights _ _ h.f]
  simp
theorem run_at {fs : List (List ByteArray)} {t : GTT} (hne : ∀ f ∈ fs, f ≠ []) (hok : ∀ f ∈ fs, ∀ x ∈ f, fldOk x) (h : runT9 fs emTT = some t) :
    ∀ k, k ≤ fs.length → runT9 (fs.drop k) (ttAt (fs.map fun f => bs (lineT f)) k) = some t ∧ ∀ j, j < k → ttBad (fs.map fun f => bs (lineT f)) j = false
  | 0, _ => ⟨h, fun j hj => by omega⟩
  | k + 1, hk => by
    obtain ⟨h1, h2⟩ := run_at hne hok h k (by omega)
    have hkl : k < fs.length := hk
    have hm : fs[k] ∈ fs := List.getElem_mem hkl
    rw [List.drop_eq_getElem_cons hkl] at h1
    have h1' : (lineT9 fs[k] (ttAt (fs.map fun f => bs (lineT f)) k)).bind (runT9 (fs.drop (k + 1))) = some t := h1
    have hg : (fs.map fun f => bs (lineT f)).getD k emS = bs (lineT fs[k]) := by
      rw [List.getD_eq_getElem?_getD, List.getElem?_map, List.getElem?_eq_getElem hkl]
      rfl
    have hs : stepT9 ((fs.map fun f => bs (lineT f)).getD k emS) (ttAt (fs.map fun f => bs (lineT f)) k) = lineT9 fs[k] (ttAt (fs.map fun f => bs (lineT f)) k) := by
      rw [hg]
      unfold stepT9
      rw [fields_lineT (hok _ hm), if_neg (hne _ hm)]
    cases hl : lineT9 fs[k] (ttAt (fs.map fun f => bs (lineT f)) k) with
    | none => rw [hl] at h1'; cases h1'
    | some t' =>
      rw [hl] at h1' hs
      obtain ⟨a, b⟩ := ttAt_succ hs
      refine ⟨by rw [a]; exact h1', fun j hj => ?_⟩
      rcases Nat.lt_or_eq_of_le (Nat.le_of_lt_succ hj) with h3 | rfl
      · exact h2 j h3
      · exact b
theorem tt_back {t : GTT} (h : ttE t = 0) (hz : (ttS t).size ≤ 20000) : parseT (ttS t) = (t, 0, 0) := by
  have hg := (ttE_zero.1 h).good
  have hl : (ttF t).length ≤ 1000 := by
    have := hg.l1; have := hg.l2; have := hg.l3
    unfold ttF
    simp only [List.length_append, List.length_map]
    omega
  unfold ttS at hz ⊢
  rw [bs_size] at hz
  have hL := linesB_textT (ttF_fld hg) hz hl
  obtain ⟨h1, h2⟩ := run_at (ttF_ne (t := t)) (ttF_fld hg) (run_tt hg) (ttF t).length (Nat.le_refl _)
  rw [List.drop_length] at h1
  have h1' := Option.some.inj h1
  have e1 : (linesB (bs (textT (ttF t)))).1 = (ttF t).map fun f => bs (lineT f) := by rw [hL]
  have e2 : (linesB (bs (textT (ttF t)))).2 = 0 := by rw [hL]
  rw [parseT_all e2 (by rw [e1, List.length_map]; exact h2), e1, List.length_map, h1', if_neg (by simp [h])]
end Go.Proofs.YtldeoaddogifpaaGreatDoor
/-
  Contracts of (*strings.Builder).copyCheck and WriteString, at a builder of the kit's word (Lib.IsBuilder).
  Condition: the builder lies in its block; the new length is no more than 2^47 bytes.
-/
namespace Go.Proofs.YtldeoaddogifpaaGreatDoor
set_option linter.unusedSimpArgs false
set_option linter.unusedVariables false
open Go.RowKit Go

theorem bld_size : (Tryz.prog.info? 76).map (·.size) = some 2 := by kernel_rfl
theorem bld_lies : liesAt Tryz.prog Tryz.prog.depth 76 (2 / Tryz.prog.cellsOf 76) 0 76 1 = true := by kernel_rfl

set_option maxHeartbeats 1600000 in
set_option maxRecDepth 100000 in
theorem copyCheck_any (B b : Nat) (xs : List Value) (w : World) (h : Lib.IsBuilder 76 5 B b xs w) :
    Calls Tryz.prog 74 #[.pointer (some ⟨b, 0, none⟩)] w fun e w' => e = .returned (.tuple #[]) ∧ Lib.BuilderAt 76 5 B b (.pointer (some ⟨b, 0, none⟩)) xs w' ∧ Below B w w' := by
  obtain ⟨j, hj, hjs⟩ := Option.map_eq_some_iff.1 bld_size
  rcases h with h | h
  · have h0 := h.cell0
    have hsh := h.shape
    have hfz := h.frozen0
    have HE : Hid (Lib.BuilderAt 76 5 B b (.pointer (some ⟨b, 0, none⟩)) xs (w.setCell ⟨b, 0, none⟩ (.pointer (some ⟨b, 0, none⟩))) ∧ Below B w (w.setCell ⟨b, 0, none⟩ (.pointer (some ⟨b, 0, none⟩)))) := ⟨h.used _, (Below.refl B w).setCell (p := ⟨b, 0, none⟩) h.1 _⟩
    have HTO := Lib.hid (Lib.run_to_unsafe w ⟨b, 0, none⟩ Tryz.underlying74 Tryz.underlying144 hj (by rw [hjs]; decide) hsh (Nat.zero_lt_succ 1))
    have HFR := Lib.hid (Lib.run_from_unsafe w ⟨b, 0, none⟩ Tryz.underlying144 Tryz.underlying74 hj hsh bld_lies)
    clear h hsh
    go_enter Tryz.func74, Tryz.ntmps74
    go_wp2_with fail
    rw [HTO.out]
    simp only [Result.andThen]
    rw [Oper.upon_value]
    go_wp2_with fail
    rw [run_callFunc_extern Tryz.func117 (by kernel_rfl) (by kernel_rfl) (by kernel_rfl) (e := Extern.AbiNoEscape.same) (by kernel_rfl)]
    rw [Lib.run_noEscape]
    simp only [Result.andThen]
    rw [Oper.upon_value]
    go_wp2_with fail
    rw [HFR.out]
    simp only [Result.andThen]
    rw [Oper.upon_value]
    go_wp2_with fail
    go_end0
    exact ⟨rfl, HE.out⟩
  · have h0 := h.cell0
    have HE : Hid (Lib.BuilderAt 76 5 B b (.pointer (some ⟨b, 0, none⟩)) xs w ∧ Below B w w) := ⟨h, Below.refl B w⟩
    have HN := Lib.hid (Lib.run_neq_ptr_same w ⟨b, 0, none⟩ Tryz.underlying74 hj)
    clear h
    go_enter Tryz.func74, Tryz.ntmps74
    go_wp2_with fail
    rw [HN.out]
    go_wp2_with fail
    go_end0
    exact ⟨rfl, HE.out⟩
set_option maxHeartbeats 1600000 in
set_option maxRecDepth 100000 in
theorem writeString_any (B b : Nat) (xs : List Value) (s : ByteArray) (w : World) (h : Lib.IsBuilder 76 5 B b xs w) (hlen : xs.length + s.size ≤ 140737488355328) (hB : B ≤ w.heap.size) :
    Calls Tryz.prog 35 #[.pointer (some ⟨b, 0, none⟩), .string s] w fun e w' => e = .returned (.tuple #[.int .i64 s.size, .nilIface]) ∧ Lib.BuilderAt 76 5 B b (.pointer (some ⟨b, 0, none⟩)) (xs ++ Lib.strCells s) w' ∧ Below B w w' := by
  obtain ⟨i0, hi, hz0, hz1, hz2⟩ := byte_info
  have HC := Lib.hid (copyCheck_any B b xs w h)
  clear h
  go_enter Tryz.func35, Tryz.ntmps35
  go_wp2_with fail
  refine HC.out.mono ?_
  rintro e w1 ⟨rfl, ⟨hBb, v, hbk, hown, hne⟩, hb1⟩
  have hs1 := hb1.size
  have hlt : b < w1.heap.size := (Array.getElem?_eq_some_iff.1 hbk).1
  have c1 : w1.cell? ⟨b, 1, none⟩ = some v := block_cell hbk 1
  have HB1 := Lib.hid hb1; have HBK := Lib.hid hbk; have HNE := Lib.hid hne
  have HOW := Lib.hid hown
  clear hb1 hbk hne HC hown
  go_wp2_with (at_builtin; refine Lib.wpList_append_own_string _ rfl _ _ 37 9 rfl B 5 i0 Tryz.underlying37 Tryz.underlying9 hi hz0 hz1 hz2 _ _ _ rfl HOW.out s rfl (by unfold maxLen; omega) (by omega) (by omega) ?_)
  intro v' w2 hown' hgrow _
  have hb2 : w2.heap[b]? = some (.cells #[.pointer (some ⟨b, 0, none⟩), v] 76 (0, 0)) := (hgrow.block b hlt (fun e => HNE.out e.symm)).trans HBK.out
  have d1 : w2.cell? ⟨b, 1, none⟩ = some v := block_cell hb2 1
  have f1 : w2.frozen? ⟨b, 1, none⟩ = false := block_free hb2 1
  have HE : Hid (Lib.BuilderAt 76 5 B b (.pointer (some ⟨b, 0, none⟩)) (xs ++ Lib.strCells s) (w2.setCell ⟨b, 1, none⟩ v') ∧ Below B w (w2.setCell ⟨b, 1, none⟩ v')) :=
    ⟨Lib.BuilderAt.put (T := 76) (e := 5) hBb hb2 (bs' := xs ++ Lib.strCells s) (by simpa [Lib.strCells_length] using hown') (by decide),
      (HB1.out.grown hgrow (by omega) (fun k hk => (HOW.out.lt k hk).1)).setCell (p := ⟨b, 1, none⟩) hBb _⟩
  obtain ⟨ao, n', cap, rfl⟩ : ∃ ao n' cap, v' = .slice ao n' cap := by
    rcases hown'.2 with ⟨hv, _⟩ | ⟨g, cap, cur, hv, _⟩
    · exact ⟨_, _, _, hv⟩
    · exact ⟨_, _, _, hv⟩
  clear hown' hgrow hb2 HBK HNE HOW HB1
  go_wp2_with fail
  go_ret2
  exact ⟨rfl, HE.out⟩
end Go.Proofs.YtldeoaddogifpaaGreatDoor
