/-
  Joined texts: R13; QO; QO2; QO3; R19; R20; QP; R14; R16; R17; R15; R18; R21; R22; R23; R24; R25; R26. What each proves stands ahead of it, with its conditions.
-/
import Derived.Test.YthldmlfpebgojaaGreatDoorR12
import Derived.Test.YthldmlfpebgojaaGreatDoorR08
import Derived.Test.YthldmlfpebgojaaGreatDoorQM
import Derived.Test.YthldmlfpebgojaaGreatDoorQN
import Derived.Test.YthldmlfpebgojaaGreatDoorProg
/-
  Contracts: the timetable of the laws' data; zones of airports.
  Condition: the timetable is one of the laws' data.
-/
namespace Go.Proofs.YthldmlfpebgojaaGreatDoor
set_option linter.unusedSimpArgs false
set_option linter.unusedVariables false
set_option maxRecDepth 100000
set_option maxHeartbeats 0
open Go.RowKit Go

def Dt.zv : Dt ZV := ⟨3, fun B cs x => cs = [.string x.name, .int .i64 x.off, x.sh.v] ∧ ZOk B x, by decide, by rintro _ _ _ ⟨rfl, _⟩; rfl, by rintro _ _ _ _ hB ⟨rfl, h⟩; exact ⟨rfl, h.ge hB⟩, by rintro _ _ _ ⟨rfl, _⟩; rfl⟩
/-- The same cells read as other data. -/
theorem Sq.map {α β : Type} {D : Dt α} {E : Dt β} {f : α → β} (hs : D.size = E.size) {B : St} (h : ∀ cs x, D.rep B cs x → E.rep B cs (f x)) {A : Option Addr} {n c : Nat} {xs : List α} (k : Sq D B A n c xs) : Sq E B A n c (xs.map f) := by
  obtain ⟨h1, h2, h3, h4⟩ := k
  refine ⟨by rw [List.length_map]; exact h1, h2, h3, fun hn => ?_⟩
  obtain ⟨b, o, cs, g1, g2, g3, g4⟩ := h4 hn
  refine ⟨b, o, cs, g1, by rw [← hs]; exact g2, by rw [List.length_map, ← hs]; exact g3, fun i y hy => ?_⟩
  rw [List.getElem?_map] at hy
  cases hx : xs[i]? with
  | none => rw [hx] at hy; cases hy
  | some x =>
    rw [hx] at hy
    obtain rfl := some_eq hy
    have := h _ _ (g4 i x hx)
    rw [← hs]
    exact this
def ZV.zn (z : ZV) : Zn := ⟨z.name, z.off, if z.sh.n = 0 then [] else eastZ.shifts⟩
theorem ZV.rep {B : St} (cs : List Value) (z : ZV) (h : Dt.zv.rep B cs z) : Dt.zn.rep B cs z.zn := by
  obtain ⟨rfl, h⟩ := h
  refine ⟨z.sh.a, z.sh.n, z.sh.c, rfl, ?_⟩
  rcases h with rfl | ⟨b, k, rfl, h2, h3⟩
  · exact Sq.nil0
  · refine ⟨rfl, Nat.le_refl _, .inr ⟨_, _, rfl⟩, fun _ => ⟨b, 0, _, rfl, rdT_blk h2 h3 rfl, rfl, fun i x hi => ?_⟩⟩
    cases i with
    | zero => obtain rfl := some_eq hi; rfl
    | succ i => simp [ZV.zn, eastZ] at hi
def apts : List Apt := [⟨⟨#[65, 65, 65]⟩, utcZ.name⟩, ⟨⟨#[66, 66, 66]⟩, utcZ.name⟩, ⟨⟨#[67, 67, 67]⟩, eastZ.name⟩]
/-- A timetable of the laws' data, but for what its flights are. -/
structure TTAt (B : St) (t : TT) (fs : List Flt) : Prop where
  fls : SqS .flt B t.fls fs
  ok : FlsOk fs
  zs : ∃ zu ze, SqS .zv B t.zs [zu, ze] ∧ zu.name = utcZ.name ∧ ze.name = eastZ.name
  aps : SqS .apt B t.aps apts
  codes : ∀ f ∈ fs, isApt f.frm ∧ isApt f.to
theorem TTAt.ge {B B' : St} {t : TT} {fs : List Flt} (h : TTAt B t fs) (hB : Ge B B') : TTAt B' t fs := by
  obtain ⟨zu, ze, h1, h2, h3⟩ := h.zs
  exact ⟨h.fls.ge hB, h.ok, ⟨zu, ze, h1.ge hB, h2, h3⟩, h.aps.ge hB, h.codes⟩
section
variable {B : St} {t : TT} {fs : List Flt}
theorem apt_idx {s : ByteArray} (h : isApt s) {z : Int} (hz : isIdx Apt.code apts s z) : ∃ (i : Nat) (h : i < apts.length), z = (i : Int) ∧ (apts[i].zone = utcZ.name ∨ apts[i].zone = eastZ.name) := by
  rcases hz with ⟨i, hi, rfl, _⟩ | ⟨rfl, hn⟩
  · refine ⟨i, hi, rfl, ?_⟩
    have hi' : i = 0 ∨ i = 1 ∨ i = 2 := by simp [apts] at hi; omega
    rcases hi' with rfl | rfl | rfl
    · exact .inl rfl
    · exact .inl rfl
    · exact .inr rfl
  · exfalso
    rcases h with rfl | rfl | rfl
    · exact hn _ (.head _) rfl
    · exact hn _ (.tail _ (.head _)) rfl
    · exact hn _ (.tail _ (.tail _ (.head _))) rfl
theorem zone9_ev (hT : TTAt B t fs) {s : ByteArray} (hs : isApt s) : EvP Tryz.prog 297 [t.v, .string s] B fun v _ => ∃ z, v = .tuple #[z.v, .bool true] ∧ ZOk B z := by
  obtain ⟨zu, ze, h1, h2, h3⟩ := hT.zs
  have hzn := Sq.map (f := ZV.zn) rfl ZV.rep h1
  refine EvP.go Tryz.func297 rfl Tryz.ntmps297 Tryz.results297 rfl [] rfl ?_
  (repeat' (first | refine J.seq ?_ | refine J.roA rfl ?_ | refine X.ro rfl rfl ?_ | refine X.nil0 ?_ | refine X.l1 0 rfl rfl rfl rfl rfl rfl rfl rfl rfl ?_ | refine X.bx rfl rfl rfl rfl rfl rfl rfl rfl fun b => ?_ | refine X.al rfl rfl rfl rfl rfl rfl rfl fun b => ?_))
  refine X.callq rfl rfl (gV_ok rfl) rfl rfl rfl rfl (en rfl) (airportIndex_ev s hT.aps (by decide)) ?_
  rintro v ⟨k, rfl, hk⟩
  obtain ⟨i, hi, rfl, hzone⟩ := apt_idx hs hk
  (repeat' (first | refine J.seq ?_ | refine J.roA rfl ?_ | refine J.rdA (by kernel_rfl) rfl ?_ | refine X.ro rfl rfl ?_ | refine X.rd rfl rfl ?_ | refine X.nil0 ?_ | refine J.skip ?_ | refine J.cond_f rfl ?_ | refine X.l1 0 rfl rfl rfl rfl rfl rfl rfl rfl rfl ?_))
  have hn := hT.aps.len
  refine X.ix hT.aps (i := i) hi rfl rfl rfl rfl rfl rfl rfl rfl rfl fun b1 f1 cs1 hr1 hx1 => ?_
  obtain rfl := hx1
  (repeat' (first | refine X.rd rfl rfl ?_))
  refine X.ls 1 hr1 rfl (by first | exact .md | exact .mo | exact .mf) (Ge.refl _) rfl rfl rfl rfl rfl rfl rfl ?_
  skip
  refine X.callq rfl rfl (gV_ok rfl) rfl rfl rfl rfl (en rfl) (zoneIndex_ev _ hzn (by simp)) ?_
  rintro v ⟨j, rfl, hj⟩
  have hj2 : ∃ (n : Nat) (h : n < [zu, ze].length), j = (n : Int) := by
    rcases hj with ⟨n, hn, rfl, _⟩ | ⟨rfl, hno⟩
    · exact ⟨n, by simpa using hn, rfl⟩
    · exfalso
      rcases hzone with e | e
      · exact hno (ZV.zn zu) (.head _) (by rw [e]; exact h2)
      · exact hno (ZV.zn ze) (.tail _ (.head _)) (by rw [e]; exact h3)
  obtain ⟨n, hn2, rfl⟩ := hj2
  have hzl := h1.len
  refine X.ix h1 (i := n) hn2 rfl rfl rfl rfl rfl rfl rfl rfl rfl fun b2 f2 cs2 hr2 hx2 => ?_
  obtain ⟨rfl, hz⟩ := hx2
  skip
  refine X.lg 0 hr2 rfl rfl (by first | exact .md | exact .mo | exact .mf) (Ge.refl _) rfl rfl rfl rfl rfl rfl rfl rfl ?_
  (repeat' (first | refine X.rd rfl rfl ?_ | refine X.nil1 ⟨by kernel_rfl, ?_⟩ | refine J.ret ?_ | refine X.st 1 rfl rfl rfl rfl rfl rfl rfl rfl rfl ?_))
  exact ⟨_, .cons (.cellA (p := 1) rfl (ag rfl) (sz rfl) rfl rfl) (.cons (.tmp rfl) .nil), rfl, fun _ _ _ => ⟨_, rfl, hz⟩⟩
theorem zone_ev (hT : TTAt B t fs) {s : ByteArray} (hs : isApt s) : EvP Tryz.prog 239 [t.v, .string s] B fun v _ => ∃ z : ZV, v = z.v ∧ ZOk B z := by
  refine EvP.go Tryz.func239 rfl Tryz.ntmps239 Tryz.results239 rfl [] rfl ?_
  (repeat' (first | refine J.seq ?_ | refine J.roA rfl ?_ | refine X.ro rfl rfl ?_ | refine X.nil0 ?_ | refine X.la 0 rfl rfl rfl rfl rfl rfl rfl rfl rfl rfl ?_ | refine X.bx rfl rfl rfl rfl rfl rfl rfl rfl fun b => ?_ | refine X.al rfl rfl rfl rfl rfl rfl rfl fun b => ?_))
  refine X.callq rfl rfl (gV_ok rfl) rfl rfl rfl rfl (en rfl) (zone9_ev hT hs) ?_
  rintro v ⟨z, rfl, hz⟩
  (repeat' (first | refine J.seq ?_ | refine J.roA rfl ?_ | refine X.ro rfl rfl ?_ | refine X.nil0 ?_ | refine J.ret ?_ | refine X.la 2 rfl rfl rfl rfl rfl rfl rfl rfl rfl rfl ?_ | refine X.al rfl rfl rfl rfl rfl rfl rfl fun b => ?_ | refine X.st 1 rfl rfl rfl rfl rfl rfl rfl rfl rfl ?_ | refine X.st 2 rfl rfl rfl rfl rfl rfl rfl rfl rfl ?_))
  exact ⟨_, .cons (.cellA (p := 1) rfl (ag rfl) (sz rfl) rfl rfl) .nil, rfl, fun _ _ _ => ⟨_, rfl, hz⟩⟩
/-- Numbers of a struct of two. -/
abbrev spV (p q : Int) : Value := .agg #[.int .i64 p, .int .i64 q]
theorem ends_ev (hT : TTAt B t fs) (c : CT) {s1 s2 : ByteArray} (hs1 : isApt s1) (hs2 : isApt s2) (p q : Int) : EvP Tryz.prog 230 [t.v, c.v, .string s1, .string s2, spV p q] B fun v _ => ∃ a b c d e, v = .tuple #[.int .i64 a, .int .i64 b, .int .i64 c, .int .i64 d, .int .i64 e] ∧ inR a ∧ inR b ∧ inR c ∧ inR d ∧ inR e := by
  refine EvP.go Tryz.func230 rfl Tryz.ntmps230 Tryz.results230 rfl [] rfl ?_
  (repeat' (first | refine J.seq ?_ | refine J.roA rfl ?_ | refine J.rfA (id := 1) rfl ?_ | refine X.ro rfl rfl ?_ | refine X.rf rfl rfl ?_ | refine X.nil0 ?_ | refine X.la 0 rfl rfl rfl rfl rfl rfl rfl rfl rfl rfl ?_ | refine X.bx rfl rfl rfl rfl rfl rfl rfl rfl fun b => ?_))
  refine X.callq rfl rfl (gV_ok rfl) rfl rfl rfl rfl (en rfl) (zone_ev hT hs1) ?_
  rintro v ⟨z1, rfl, hz1⟩
  (repeat' (first | refine X.rf rfl rfl ?_ | refine X.la 0 rfl rfl rfl rfl rfl rfl rfl rfl rfl rfl ?_))
  refine X.callq rfl rfl (gV_ok rfl) rfl rfl rfl rfl (en rfl) (zone_ev hT hs2) ?_
  rintro v ⟨z2, rfl, hz2⟩
  (repeat' (first | refine J.seq ?_ | refine J.roA rfl ?_ | refine J.rdA (by kernel_rfl) rfl ?_ | refine X.ro rfl rfl ?_ | refine X.rd rfl rfl ?_ | refine X.nil0 ?_ | refine X.nilF ⟨by kernel_rfl, ?_⟩ | refine J.skip ?_ | refine X.l1 1 rfl rfl rfl rfl rfl rfl rfl rfl rfl ?_ | refine X.l1 2 rfl rfl rfl rfl rfl rfl rfl rfl rfl ?_ | refine X.la 2 rfl rfl rfl rfl rfl rfl rfl rfl rfl rfl ?_ | refine X.la 3 rfl rfl rfl rfl rfl rfl rfl rfl rfl rfl ?_ | refine X.la 4 rfl rfl rfl rfl rfl rfl rfl rfl rfl rfl ?_ | refine X.al rfl rfl rfl rfl rfl rfl rfl fun b => ?_ | refine X.st 3 rfl rfl rfl rfl rfl rfl rfl rfl rfl ?_ | refine X.st 4 rfl rfl rfl rfl rfl rfl rfl rfl rfl ?_ | refine J.cond_d rfl (fun h => ?_) (fun h => ?_)))
  case' refine_1 =>
    refine X.callq rfl rfl (gV_ok rfl) rfl rfl rfl rfl (en rfl) (bandMinutes_ev hz1 p q _ _) ?_
    rintro v ⟨n, e, rfl, hn⟩
    (repeat' (first | refine J.seq ?_ | refine J.rdA (by kernel_rfl) rfl ?_ | refine X.ro rfl rfl ?_ | refine X.rd rfl rfl ?_ | refine X.nil0 ?_ | refine X.l1 2 rfl rfl rfl rfl rfl rfl rfl rfl rfl ?_ | refine X.la 4 rfl rfl rfl rfl rfl rfl rfl rfl rfl rfl ?_))
  all_goals
    refine X.callq rfl rfl (gV_ok rfl) rfl rfl rfl rfl (en rfl) (off_ev hz2 _) ?_
    rintro v ⟨o2, rfl, g1, g2⟩
    (repeat' (first | refine X.rd rfl rfl ?_ | refine X.l1 2 rfl rfl rfl rfl rfl rfl rfl rfl rfl ?_ | refine X.la 3 rfl rfl rfl rfl rfl rfl rfl rfl rfl rfl ?_))
    refine X.callq rfl rfl (gV_ok rfl) rfl rfl rfl rfl (en rfl) (off_ev hz1 _) ?_
    rintro v ⟨o1, rfl, g3, g4⟩
    (repeat' (first | refine J.seq ?_ | refine J.rdA (by kernel_rfl) rfl ?_ | refine X.rd rfl rfl ?_ | refine X.nil1 ⟨by kernel_rfl, ?_⟩ | refine X.l1 2 rfl rfl rfl rfl rfl rfl rfl rfl rfl ?_ | refine X.la 3 rfl rfl rfl rfl rfl rfl rfl rfl rfl rfl ?_ | refine X.sb rfl rfl rfl rfl rfl rfl (by omega) ?_ | refine X.mx rfl rfl rfl rfl rfl rfl ?_ | refine X.sbw rfl rfl rfl rfl rfl rfl ?_))
    refine X.callq rfl rfl (gV_ok rfl) rfl rfl rfl rfl (en rfl) (clock_ev hz1 _) ?_
    rintro v ⟨k1, rfl, g5⟩
    (repeat' (first | refine X.rd rfl rfl ?_ | refine X.l1 2 rfl rfl rfl rfl rfl rfl rfl rfl rfl ?_ | refine X.la 4 rfl rfl rfl rfl rfl rfl rfl rfl rfl rfl ?_))
    refine X.callq rfl rfl (gV_ok rfl) rfl rfl rfl rfl (en rfl) (clock_ev hz2 _) ?_
    rintro v ⟨k2, rfl, g6⟩
    (repeat' (first | refine X.rd rfl rfl ?_ | refine X.nil1 ⟨by kernel_rfl, ?_⟩ | refine J.ret ?_))
  · exact ⟨_, .cons (.tmp rfl) (.cons (.tmp rfl) (.cons (.tmp rfl) (.cons (.tmp rfl) (.cons (.tmp rfl) .nil)))), rfl, fun _ _ _ => ⟨_, _, _, _, _, rfl, inR.wrap _, hn, inR.ite (inR.wrap _) (inR.of (by omega)), g5, g6⟩⟩
  · exact ⟨_, .cons (.tmp rfl) (.cons (.tmp rfl) (.cons (.tmp rfl) (.cons (.tmp rfl) (.cons (.tmp rfl) .nil)))), rfl, fun _ _ _ => ⟨_, _, _, _, _, rfl, inR.wrap _, inR.of (by decide), inR.ite (inR.wrap _) (inR.of (by omega)), g5, g6⟩⟩
end
end Go.Proofs.YthldmlfpebgojaaGreatDoor
/-
  Lists of one's own: their elements; what is appended to them.
  No condition.
-/
namespace Go.Proofs.YthldmlfpebgojaaGreatDoor
set_option linter.unusedSimpArgs false
set_option linter.unusedVariables false
open Go.RowKit Go

/-- The address of a list of one's own. -/
def oa (ob : Option Nat) : Option Addr := ob.map fun b => ⟨b, 0, none⟩
theorem accV_oa {ob : Option Nat} {n : Nat} (h : accOk ob n) : accV ob n = .slice (oa ob) n n := by
  cases ob with
  | none => have : n = 0 := h; subst this; rfl
  | some b => rfl
theorem rdK_cell {cells : List Value} {T sz off : Nat} {v : Value} (hs : 0 < sz) (hv : cells[off]? = some v) : rdK ⟨cells, T, sz⟩ (cut cells off 1) = some [v] := by
  obtain ⟨hlt, hv⟩ := List.getElem?_eq_some_iff.1 hv
  unfold cut
  rw [takeK_eq, dropN_eq, if_pos (by rw [List.length_drop]; omega)]
  unfold rdK
  simp only [id]
  rw [show Nat.blt 0 sz = true from Nat.ble_eq_true_of_le hs, List.drop_eq_getElem_cons hlt, hv]
  rfl
theorem rdK_part {cells cs : List Value} {T sz off n : Nat} (hs : 0 < sz) (hv : (cells.drop off).take n = cs) (hn : cs.length = n) : rdK ⟨cells, T, sz⟩ (cut cells off n) = some cs := by
  subst hv
  rw [List.length_take, List.length_drop] at hn
  unfold cut
  rw [takeK_eq, dropN_eq, List.length_drop]
  unfold rdK
  by_cases h : n ≤ cells.length - off
  · rw [if_pos h]
    simp only [id]
    rw [show Nat.blt 0 sz = true from Nat.ble_eq_true_of_le hs]
    rfl
  · omega
theorem rd_old {B : St} {K : Hp} {M : Mem} (hM : SM B K M) {b o n : Nat} {cs : List Value} (h : rdT B b o n = some cs) : rd M b o n = some cs := by
  obtain ⟨Y, hY⟩ := rdT_get h
  unfold rdT at h
  unfold rd
  rw [hY] at h
  rw [hM.old b Y hY]
  exact h
section
variable {N : Nat} {ops : Array Oper} {d : Md} {l : List Oper} {o : Oper} {B : St} {K : Hp} {L : Loc} {Q : PostX} {t : Nat}
/-- The address of an element of one's own list. -/
theorem X.ixo {n i T e s : Nat} {x j : Operand} {ob : Option Nat} {k : IntKind} {z : Int} (hob : accOk ob n) (hi : i < n) (hg : gV ops o L = some true) (ho : o.op = .indexAddr T x j) (hd : o.dst = some t) (ht : Nat.blt t N = true) (he : lk elT T = some (e, s)) (hx : opvL L x = some (.slice (oa ob) n n)) (hj : opvL L j = some (.int k z)) (hz : z = (i : Int))
    (h : ∀ b, ob = some b → X Tryz.prog N ops (dMap d .inc) l B K ((t, .pointer (some ⟨b, 0 + i * s, none⟩)) :: L) Q) : X Tryz.prog N ops d (o :: l) B K L Q := by
  cases ob with
  | none => have : n = 0 := hob; omega
  | some b => exact X.pure (gV_ok hg) hd ht (.idx ho hx hj (el he) hz hi) (h b rfl)
/-- A new block's elements come to one's own list. -/
theorem X.aps {c : Call} {x y : Operand} {T el sz bytes n k c2 b2 : Nat} {ob : Option Nat} {cells add : List Value} (p q : Nat) (ho : o.op = .call c) (hc : c.callee = .builtin .append) (ha : c.args.toList = [x, y]) (hT : c.argTypes.toList = [T, T]) (hg : gV ops o L = some true) (hd : o.dst = some t) (ht : Nat.blt t N = true)
    (he : lk appT T = some (el, sz, bytes)) (hs : Nat.blt 0 sz = true) (hx : opvL L x = some (.slice (oa ob) n n)) (hy : opvL L y = some (.slice (some ⟨b2, 0, none⟩) k c2)) (hp : K[p]? = some (accE el sz ob cells)) (hcl : cells.length = n * sz) (hob : accOk ob n)
    (hq : K[q]? = some (some (b2, ⟨add, el, sz⟩))) (hr : rdK ⟨add, el, sz⟩ (cut add 0 (k * sz)) = some add) (hpq : Nat.beq p q = false) (hk : Nat.blt 0 k = true) (hb : (n + k) * bytes ≤ 140737488355328) (hm : n + k ≤ 1152921504606846976)
    (h : ∀ ob', accOk ob' (n + k) → X Tryz.prog N ops (dMap d (Dr.mod · p)) l B (K.set p (accE el sz ob' (cells ++ add))) ((t, .slice (oa ob') (n + k) (n + k)) :: L) Q) : X Tryz.prog N ops d (o :: l) B K L Q :=
  X.ap p q ho hc ha hT hg hd ht he hs (by rw [accV_oa hob]; exact hx) hy hp hcl hob hq hr hpq hk hb hm fun ob' h' => by rw [accV_oa h']; exact h ob' h'
/-- The elements of a slice that stands come to one's own list. -/
theorem X.apq {α : Type} {D : Dt α} {ys : List α} {c : Call} {x y : Operand} {T el sz bytes n : Nat} {ob : Option Nat} {cells : List Value} {s2 : Slc} (p : Nat) (hs2 : SqS D B s2 ys) (hD : D.size = sz) (ho : o.op = .call c) (hc : c.callee = .builtin .append) (ha : c.args.toList = [x, y]) (hT : c.argTypes.toList = [T, T]) (hg : gV ops o L = some true) (hd : o.dst = some t) (ht : Nat.blt t N = true)
    (he : lk appT T = some (el, sz, bytes)) (hs : Nat.blt 0 sz = true) (hx : opvL L x = some (.slice (oa ob) n n)) (hy : opvL L y = some s2.v) (hp : K[p]? = some (accE el sz ob cells)) (hcl : cells.length = n * sz) (hob : accOk ob n) (hb : (n + ys.length) * bytes ≤ 140737488355328) (hm : n + ys.length ≤ 1152921504606846976)
    (h : ∀ ob' add, Rows D B add ys → accOk ob' (n + ys.length) → X Tryz.prog N ops (dMap d (Dr.mod · p)) l B (K.set p (accE el sz ob' (cells ++ add))) ((t, .slice (oa ob') (n + ys.length) (n + ys.length)) :: L) Q) : X Tryz.prog N ops d (o :: l) B K L Q := by
  obtain ⟨A, k, c2⟩ := s2
  have hx' : opvL L x = some (accV ob n) := by rw [accV_oa hob]; exact hx
  obtain ⟨h1, h2, h3, h4⟩ := hs2
  dsimp only at h1 h2 h3 h4
  subst h1
  rcases Nat.eq_zero_or_pos ys.length with h0 | h0
  · have hnil : ys = [] := List.length_eq_zero_iff.1 h0
    subst hnil
    refine X.append p ho hc ha hT (gV_ok hg) hd ht (Go.Proofs.YthldmlfpebgojaaGreatDoor.ap he) (Nat.le_of_ble_eq_true hs) hx' hy hp hcl hob (.inl ⟨rfl, rfl, h3⟩) hb hm fun ob' h' => ?_
    rw [accV_oa h']
    exact h ob' [] Rows.nil h'
  · obtain ⟨b, f, cs, rfl, g1, g2⟩ := h4 h0
    obtain ⟨Y, hY⟩ := rdT_get g1
    refine X.append p ho hc ha hT (gV_ok hg) hd ht (Go.Proofs.YthldmlfpebgojaaGreatDoor.ap he) (Nat.le_of_ble_eq_true hs) hx' hy hp hcl hob (.inr ⟨h0, b, f, rfl, fun M hM => by rw [← hD]; exact rd_old hM g1, SM.neOld hp hY⟩) hb hm fun ob' h' => ?_
    rw [accV_oa h']
    exact h ob' cs g2 h'
/-- One's own comes to what stands (in a region in the text's order). -/
theorem X.giveO {P : Program} {p b : Nat} {Y : Blk} (hp : K[p]? = some (some (b, Y))) (h : ∀ B1, Ge B B1 → B1.get b = some Y → X P N ops .o l B1 (K.set p none) L Q) : X P N ops .o l B K L Q := fun hN M F hM hF => by
  obtain ⟨h1, h2⟩ := hM.give hp
  obtain ⟨F1, M1, B1, K1, L1, g1, g2, g3, g4, g5⟩ := h _ h2 (Tr.set_self _ _ _) hN M F h1 hF
  exact ⟨F1, M1, B1, K1, L1, g1, g2, g3, h2.trans g4, g5⟩
end
/-- A list that grew, as a slice. -/
theorem acc_sqs {α : Type} {D : Dt α} {B' : St} {xs : List α} {cells : List Value} {ob : Option Nat} {el n : Nat} (hn : n = xs.length) (hob : accOk ob n) (hr : Rows D B' cells xs) (hB : ∀ b X, accE el D.size ob cells = some (b, X) → B'.get b = some X) : SqS D B' ⟨oa ob, n, n⟩ xs := by
  subst hn
  cases ob with
  | none =>
    have hl : xs = [] := List.length_eq_zero_iff.1 hob
    subst hl
    exact Sq.nil0
  | some b => exact Sq.of_row (hB b _ rfl) hr
theorem accE_some {el sz : Nat} {ob : Option Nat} {cells : List Value} {p : Nat × Blk} (h : accE el sz ob cells = some p) : ∃ b, ob = some b ∧ p = (b, ⟨cells, el, sz⟩) := by
  cases ob with
  | none => cases h
  | some b => exact ⟨b, rfl, (some_eq h)⟩
theorem Rows.flat {α : Type} {D : Dt α} {f : α → List Value} (hD : ∀ B x, D.rep B (f x) x) (B : St) : ∀ xs : List α, Rows D B (xs.map f).flatten xs
  | [] => Rows.nil
  | x :: xs => (Rows.one (hD B x)).app (Rows.flat hD B xs)
end Go.Proofs.YthldmlfpebgojaaGreatDoor
/-
  Literal lists of many elements of one cell.
  No condition.
-/
namespace Go.Proofs.YthldmlfpebgojaaGreatDoor
set_option linter.unusedSimpArgs false
set_option linter.unusedVariables false
open Go.RowKit Go

def one1 (v : Value) : Bool := match v with
  | .agg _ => false
  | .tuple _ => false
  | _ => true
theorem one1_cells {v : Value} (h : one1 v = true) : v.cells = #[v] ∧ cellsOf v = some [v] := by
  cases v <;> first | exact ⟨rfl, rfl⟩ | cases h
theorem fill1 : ∀ (vs : List Value) (i : Nat) (A : List Value), vs.all one1 = true → i + vs.length ≤ A.length → Instr.fill (fun i => some (i * 1, 1)) A.toArray ((List.range' i vs.length).zip vs) = some (A.take i ++ vs ++ A.drop (i + vs.length)).toArray
  | [], i, A, _, _ => by simp [Instr.fill]
  | v :: vs, i, A, h, hl => by
    rw [List.all_cons, Bool.and_eq_true] at h
    rw [List.length_cons] at hl
    have hc := (one1_cells h.1).1
    rw [List.length_cons, List.range'_succ, List.zip_cons_cons, Instr.fill]
    simp only [hc, Nat.mul_one, List.size_toArray, List.length_singleton]
    rw [if_neg (by simp; omega)]
    have e : (#[v].zipIdx.foldl (fun cs (x : Value × Nat) => cs.setIfInBounds (i + x.2) x.1) A.toArray) = (A.set i v).toArray := by
      simp [Array.zipIdx]
    rw [show (Array.foldl (fun cs (x : Value × Nat) => match x with | (c, j) => cs.setIfInBounds (i + j) c) A.toArray #[v].zipIdx) = (A.set i v).toArray from e]
    have := fill1 vs (i + 1) (A.set i v) h.2 (by rw [List.length_set]; omega)
    simp only [Nat.mul_one] at this ⊢
    rw [this]
    congr 2
    have h1 : (A.set i v).take (i + 1) = A.take i ++ [v] := by
      rw [List.take_succ_eq_append_getElem (by rw [List.length_set]; omega), List.getElem_set_self]
      congr 1
      rw [List.take_set_of_le (Nat.le_refl _)]
    have h2 : (A.set i v).drop (i + 1 + vs.length) = A.drop (i + 1 + vs.length) := by rw [List.drop_set_of_lt (by omega)]
    rw [h1, h2, Nat.add_right_comm]
    simp [Nat.add_assoc]
/-- A literal list of elements of one cell. -/
theorem X.bs1 {N : Nat} {ops : Array Oper} {d : Md} {l : List Oper} {o : Oper} {B : St} {K : Hp} {L : Loc} {Q : PostX} {t : Nat} {T el len : Nat} {parts : Array (Nat × Operand)} {vs : List Value} {z : Value} (ho : o.op = .buildSlice T len parts) (hg : gV ops o L = some true) (hd : o.dst = some t) (ht : Nat.blt t N = true) (hel : lk elT T = some (el, 1)) (hz : lk zroT el = some [z]) (hzp : plain1 z = true)
    (hvs : opvsL L (parts.toList.map (·.2)) = some vs) (hidx : parts.toList.map (·.1) = List.range' 0 len) (hlen : Nat.beq vs.length len = true) (hok : (Nat.blt 0 len && Nat.ble len 16777216) = true) (h1 : vs.all one1 = true) (hn : n0B d K.length = true)
    (h : ∀ b, X Tryz.prog N ops (dNew d) l B (K ++ [some (b, ⟨vs, el, 1⟩)]) ((t, .slice (some ⟨b, 0, none⟩) len len) :: L) Q) : X Tryz.prog N ops d (o :: l) B K L Q := by
  have hlen := Nat.eq_of_beq_eq_true hlen
  subst hlen
  rw [Bool.and_eq_true] at hok
  have hzl : ∀ n, zerosL [z] n = List.replicate n z := fun n => by
    unfold zerosL
    refine List.ext_getElem (by simp) fun i h1 h2 => ?_
    simp [Nat.mod_one]
  refine X.bs (vs := vs) (cs := vs) ho hg hd ht hel hz rfl hvs ?_ ?_ (by rw [Nat.mul_one]; exact Nat.beq_refl _) hn h
  · rw [hidx, hzl, Nat.mul_one]
    rw [fill1 vs 0 _ h1 (by simp)]
    simp
  · rw [hzl, Nat.mul_one]
    simp only [Bool.and_eq_true, List.all_replicate]
    refine ⟨⟨⟨⟨?_, hok.1⟩, rfl⟩, hok.2⟩, ?_⟩
    · simp [hzp]
    · rw [List.all_eq_true]
      intro v hv
      rw [(one1_cells (List.all_eq_true.1 h1 v hv)).2]
      rfl
/-- One's own list comes to what stands (in a region in the text's order). -/
theorem X.giveA {N : Nat} {ops : Array Oper} {l : List Oper} {B : St} {K : Hp} {L : Loc} {Q : PostX} {P : Program} {p el sz : Nat} {ob : Option Nat} {cells : List Value} (hp : K[p]? = some (accE el sz ob cells)) (h : ∀ B1, Ge B B1 → (∀ b Y, accE el sz ob cells = some (b, Y) → B1.get b = some Y) → X P N ops .o l B1 (K.set p none) L Q) : X P N ops .o l B K L Q := by
  cases ob with
  | none =>
    have e : K.set p none = K := by
      apply List.ext_getElem?
      intro i
      by_cases hi : p = i
      · subst hi
        have hlt := (List.getElem?_eq_some_iff.1 hp).1
        rw [List.getElem?_set_self hlt, hp]
        rfl
      · rw [List.getElem?_set_ne hi]
    have := h B (Ge.refl B) (fun b Y h => by cases h)
    rwa [e] at this
  | some b =>
    refine X.giveO hp fun B1 h1 h2 => h B1 h1 fun c Y hc => ?_
    have := some_eq hc
    injection this with g1 g2
    subst g1 g2
    exact h2
end Go.Proofs.YthldmlfpebgojaaGreatDoor
/-
  Parts of slices; elements of arrays of three.
  No condition.
-/
namespace Go.Proofs.YthldmlfpebgojaaGreatDoor
set_option linter.unusedSimpArgs false
set_option linter.unusedVariables false
open Go.RowKit Go

theorem Sq.part {α : Type} {D : Dt α} {B : St} {A : Option Addr} {n c : Nat} {xs : List α} (hs : Sq D B A n c xs) {l h : Nat} (h1 : l ≤ h) (h2 : h ≤ n) {A' : Option Addr} (hA : ∀ b f, A = some ⟨b, f, none⟩ → A' = some ⟨b, f + l * D.size, none⟩) (hA0 : A = none → A' = none) : Sq D B A' (h - l) (c - l) ((xs.take h).drop l) := by
  obtain ⟨g1, g2, g3, g4⟩ := hs
  refine ⟨by rw [List.length_drop, List.length_take]; omega, by omega, ?_, fun hn => ?_⟩
  · rcases g3 with h | ⟨b, f, h⟩
    · exact .inl (hA0 h)
    · exact .inr ⟨b, _, hA b f h⟩
  · obtain ⟨b, f, cs, rfl, k1, k2⟩ := g4 (by omega)
    have e1 : l * D.size + (h - l) * D.size ≤ n * D.size := by rw [← Nat.add_mul]; exact Nat.mul_le_mul_right _ (by omega)
    refine ⟨b, f + l * D.size, (cs.drop (l * D.size)).take ((h - l) * D.size), hA b f rfl, rdT_part k1 e1, ?_, fun i x hx => ?_⟩
    · have hlc := k2.1
      rw [List.length_take, List.length_drop, hlc, List.length_drop, List.length_take, ← g1, Nat.min_eq_left h2]
      omega
    · rw [List.getElem?_drop, List.getElem?_take] at hx
      split at hx
      · have h3 := k2.2 (l + i) x hx
        have e2 : i * D.size + D.size ≤ (h - l) * D.size := by rw [← Nat.succ_mul]; exact Nat.mul_le_mul_right _ (by omega)
        rw [List.drop_take, List.drop_drop, List.take_take, Nat.min_eq_left (by omega), ← Nat.add_mul]
        exact h3
      · cases hx
section
variable {N : Nat} {ops : Array Oper} {d : Md} {l : List Oper} {o : Oper} {B : St} {K : Hp} {L : Loc} {Q : PostX} {t : Nat}
/-- A part of a slice that stands. -/
theorem X.slq {α : Type} {D : Dt α} {xs : List α} {C : St} {s : Slc} {T el sz l' h' : Nat} {x : Operand} {lo hi : Option Operand} (hs : SqS D C s xs) (hD : D.size = sz) (ho : o.op = .slice T x lo hi none) (hg : gV ops o L = some true) (hd : o.dst = some t) (ht : Nat.blt t N = true) (he : lk elT T = some (el, sz)) (hx : opvL L x = some s.v)
    (hlo : lo = none ∧ l' = 0 ∨ ∃ q k, lo = some q ∧ opvL L q = some (.int k (l' : Int))) (hhi : hi = none ∧ h' = xs.length ∨ ∃ q k, hi = some q ∧ opvL L q = some (.int k (h' : Int))) (h1 : l' ≤ h') (h2 : h' ≤ xs.length)
    (h : ∀ s' : Slc, SqS D C s' ((xs.take h').drop l') → X Tryz.prog N ops (dMap d .inc) l B K ((t, s'.v) :: L) Q) : X Tryz.prog N ops d (o :: l) B K L Q := by
  obtain ⟨A, n, c⟩ := s
  have hn : n = xs.length := hs.1
  have hc : n ≤ c := hs.2.1
  have hA : A = none ∨ ∃ b f, A = some ⟨b, f, none⟩ := hs.2.2.1
  subst hD
  have h2' : h' ≤ n := by omega
  rcases hA with rfl | ⟨b, f, rfl⟩
  · exact X.pure (gV_ok hg) hd ht (.slice ho hx (Go.Proofs.YthldmlfpebgojaaGreatDoor.el he) (.inl rfl) hlo (by rw [hn]; exact hhi) h1 h2' hc rfl) (h ⟨none, h' - l', c - l'⟩ (Sq.part hs h1 h2' (fun b f h => by cases h) fun _ => rfl))
  · exact X.pure (gV_ok hg) hd ht (.slice ho hx (Go.Proofs.YthldmlfpebgojaaGreatDoor.el he) (.inr ⟨b, f, rfl⟩) hlo (by rw [hn]; exact hhi) h1 h2' hc rfl) (h ⟨some ⟨b, f + l' * D.size, none⟩, h' - l', c - l'⟩ (Sq.part hs h1 h2' (fun b' f' e => by
      injection e with e
      injection e with e1 e2
      subst e1 e2
      rfl) fun e => by cases e))
theorem arr3 : quick Tryz.prog (underlying 101) = some (.array 3 3) := by kernel_rfl
/-- The address of an element of an array of three numbers. -/
theorem X.ia3 {b f i : Nat} {x j : Operand} {k : IntKind} (hi : Nat.blt i 3 = true) (ho : o.op = .indexAddr 101 x j) (hg : gV ops o L = some true) (hd : o.dst = some t) (ht : Nat.blt t N = true) (hx : opvL L x = some (.pointer (some ⟨b, f, none⟩))) (hj : opvL L j = some (.int k (i : Int)))
    (h : X Tryz.prog N ops (dMap d .inc) l B K ((t, .pointer (some ⟨b, f + i * 1, none⟩)) :: L) Q) : X Tryz.prog N ops d (o :: l) B K L Q := by
  refine X.pure (gV_ok hg) hd ht ⟨by unfold isChg; rw [ho], by unfold isRd; rw [ho], fun F M hF => .inr ?_⟩ h
  have hi := Nat.le_of_ble_eq_true hi
  unfold evalOp evIndexAddr
  rw [ho]
  have e : (decide ((0 : Int) ≤ (i : Int)) && decide ((i : Int) < ((3 : Nat) : Int))) = true := by simp; omega
  simp only [hF.opv hx, hF.opv hj, arr3, sz (T := 3) rfl, e, cond_true, Int.toNat_natCast]
end
end Go.Proofs.YthldmlfpebgojaaGreatDoor
/-
  Contracts: a timetable of the laws' data is valid.
  Condition: the timetable is one of the laws' data, its flights are well formed.
-/
namespace Go.Proofs.YthldmlfpebgojaaGreatDoor
set_option linter.unusedSimpArgs false
set_option linter.unusedVariables false
set_option maxRecDepth 100000
set_option maxHeartbeats 0
open Go.RowKit Go

/-- A flight that is well formed. -/
structure FlFine (f : Flt) : Prop where
  num : f.num = ⟨#[70, 48]⟩ ∨ f.num = ⟨#[70, 49]⟩ ∨ f.num = ⟨#[70, 50]⟩ ∨ f.num = ⟨#[70, 51]⟩ ∨ f.num = ⟨#[70, 52]⟩
  typ : f.typ = ⟨#[98, 55, 51, 55]⟩ ∨ f.typ = ⟨#[97, 51, 50, 48]⟩
  ne : f.frm ≠ f.to
  dep : 2880 ≤ f.dep
  arr : f.arr ≤ 52593120
  lt : f.dep < f.arr
  len : f.arr - f.dep ≤ 1440
  n0 : 0 ≤ f.n0 ∧ f.n0 ≤ 8
  n1 : 0 ≤ f.n1 ∧ f.n1 ≤ 8
  n2 : 0 ≤ f.n2 ∧ f.n2 ≤ 8
theorem idx_new {α : Type} {key : α → ByteArray} {xs : List α} {i : Nat} (hi : i < xs.length) {s : ByteArray} (hd : ∀ (j : Nat) (hj : j < xs.length), j < i → key xs[j] ≠ s) {z : Int} (hz : isIdx key ((xs.take i).drop 0) s z) : z = -1 := by
  rcases hz with ⟨j, hj, rfl, h⟩ | ⟨h, _⟩
  · exfalso
    rw [List.drop_zero, List.length_take] at hj
    refine hd j (by omega) (by omega) ?_
    simpa using h
  · exact h
section
variable {B : St} {t : TT} {fs : List Flt}
theorem apt_pos {s : ByteArray} (h : isApt s) {z : Int} (hz : isIdx Apt.code apts s z) : ∃ i : Nat, z = (i : Int) := by
  obtain ⟨i, _, rfl, _⟩ := apt_idx h hz
  exact ⟨i, rfl⟩
theorem flight_ev (hT : TTAt B t fs) (hF : ∀ f ∈ fs, FlFine f) {i : Nat} (hi : i < fs.length) : EvP Tryz.prog 245 [t.v, .int .i64 (i : Int)] B fun v _ => v = .int .i64 0 := by
  have hf := hT.fls
  have hm := List.getElem_mem hi
  have F := hF _ hm
  obtain ⟨hc1, hc2⟩ := hT.codes _ hm
  have q1 := F.dep
  have q2 := F.arr
  have q3 := F.lt
  have q4 := F.len
  have q5 := F.ne
  have q6 := F.n0
  have q7 := F.n1
  have q8 := F.n2
  have hlen := hT.ok.len
  have hq := hT.ok.ord (i - 1) i (by omega) hi
  refine EvP.go Tryz.func245 rfl Tryz.ntmps245 Tryz.results245 rfl [] rfl ?_
  (repeat' (first | refine J.seq ?_ | refine J.roA rfl ?_ | refine X.ro rfl rfl ?_ | refine X.nil0 ?_ | refine X.l1 0 rfl rfl rfl rfl rfl rfl rfl rfl rfl ?_ | refine X.bx rfl rfl rfl rfl rfl rfl rfl rfl fun b => ?_))
  (revert b; intro tb)
  refine X.ix hf hi rfl rfl rfl rfl rfl rfl rfl rfl rfl fun b2 f2 cs2 hr2 hx2 => ?_
  obtain rfl := hx2
  refine X.lg 0 hr2 rfl rfl (by first | exact .md | exact .mo | exact .mf) (Ge.refl _) rfl rfl rfl rfl rfl rfl rfl rfl ?_
  (repeat' (first | refine J.seq ?_ | refine J.roA rfl ?_ | refine X.ro rfl rfl ?_ | refine X.nil0 ?_ | refine X.l1 1 rfl rfl rfl rfl rfl rfl rfl rfl rfl ?_ | refine X.al rfl rfl rfl rfl rfl rfl rfl fun b => ?_ | refine X.st 1 rfl rfl rfl rfl rfl rfl rfl rfl rfl ?_))
  refine X.callq rfl rfl (gV_ok rfl) rfl rfl rfl rfl (en rfl) (isCode_ev F.num) ?_
  rintro v rfl
  (repeat' (first | refine X.ro rfl rfl ?_ | refine X.l1 1 rfl rfl rfl rfl rfl rfl rfl rfl rfl ?_))
  refine X.callq rfl rfl (gV_ok rfl) rfl rfl rfl rfl (en rfl) (isName_ev (.inr (.inr F.typ))) ?_
  rintro v rfl
  (repeat' (first | refine J.seq ?_ | refine J.roA rfl ?_ | refine X.ro rfl rfl ?_ | refine X.nil0 ?_ | refine J.skip ?_ | refine J.cond_f rfl ?_ | refine X.l1 0 rfl rfl rfl rfl rfl rfl rfl rfl rfl ?_ | refine X.l1 1 rfl rfl rfl rfl rfl rfl rfl rfl rfl ?_))
  refine X.callq rfl rfl (gV_ok rfl) rfl rfl rfl rfl (en rfl) (airportIndex_ev fs[i].frm hT.aps (by decide)) ?_
  rintro v ⟨z1, rfl, hz1⟩
  obtain ⟨k1, rfl⟩ := apt_pos hc1 hz1
  (repeat' (first | refine J.seq ?_ | refine J.roA rfl ?_ | refine X.ro rfl rfl ?_ | refine X.nil0 ?_ | refine J.ret ?_ | refine J.cond_t rfl ?_ | refine X.l1 0 rfl rfl rfl rfl rfl rfl rfl rfl rfl ?_ | refine X.l1 1 rfl rfl rfl rfl rfl rfl rfl rfl rfl ?_ | refine X.g_d rfl rfl rfl (fun h => ?_) (fun h => ?_)))
  all_goals try omega
  refine X.callq rfl rfl (gV_ok rfl) rfl rfl rfl rfl (en rfl) (airportIndex_ev fs[i].to hT.aps (by decide)) ?_
  rintro v ⟨z2, rfl, hz2⟩
  obtain ⟨k2, rfl⟩ := apt_pos hc2 hz2
  (repeat' (first | refine J.seq ?_ | refine J.block ?_ | refine J.roA rfl ?_ | refine X.ro rfl rfl ?_ | refine X.nil0 ?_ | refine J.skip ?_ | refine J.ret ?_ | refine J.cond_t rfl ?_ | refine J.cond_f rfl ?_ | refine X.l1 1 rfl rfl rfl rfl rfl rfl rfl rfl rfl ?_ | refine X.sb rfl rfl rfl rfl rfl rfl (by omega) ?_ | refine X.g_d rfl rfl rfl (fun h => ?_) (fun h => ?_) | refine J.cond_d rfl (fun h => ?_) (fun h => ?_)))
  all_goals first | omega | exact absurd (by assumption) q5 | skip
  refine J.loop (σ := Nat) (fun r => [(1, .int .i64 (i : Int)), (2, .pointer (some ⟨tb, 0, none⟩)), (5, .pointer (some ⟨b, 0, none⟩)), (6, .int .i64 (r : Int))]) (fun _ => [some (tb, ⟨[t.zs.v, t.aps.v, t.fls.v], 27, 1⟩), some (b, ⟨[.string fs[i].num, .string fs[i].frm, .string fs[i].to, .int .i64 fs[i].dep, .int .i64 fs[i].arr, .string fs[i].typ, .int .i64 fs[i].n0, .int .i64 fs[i].n1, .int .i64 fs[i].n2], 103, 1⟩)]) (fun B1 r => B1 = B ∧ r ≤ 3) (fun r => 3 - r) 0 ⟨rfl, by decide⟩ ⟨rfl, rfl, rfl, rfl, trivial⟩ (fun _ _ _ h => h) ?_
  rintro r B1 hB ⟨rfl, hr⟩
  (repeat' (first | refine J.seq ?_ | refine J.block ?_ | refine J.roA rfl ?_ | refine X.ro rfl rfl ?_ | refine X.nil0 ?_ | refine J.skip ?_ | refine J.exit ?_ | refine J.ret ?_ | refine X.l1 0 rfl rfl rfl rfl rfl rfl rfl rfl rfl ?_ | refine X.sb rfl rfl rfl rfl rfl rfl (by omega) ?_ | refine J.cond_d rfl (fun h => ?_) (fun h => ?_)))
  · have h3 : r = 0 ∨ r = 1 ∨ r = 2 := by omega
    rcases h3 with rfl | rfl | rfl
    all_goals
      refine X.ia3 rfl rfl rfl rfl rfl rfl rfl ?_
      (repeat' (first | refine J.seq ?_ | refine J.roA rfl ?_ | refine X.ro rfl rfl ?_ | refine X.nil0 ?_ | refine J.ret ?_ | refine J.cond_t rfl ?_ | refine X.l1 1 rfl rfl rfl rfl rfl rfl rfl rfl rfl ?_ | refine X.g_d rfl rfl rfl (fun h => ?_) (fun h => ?_)))
      all_goals try omega
      refine X.ia3 rfl rfl rfl rfl rfl rfl rfl ?_
      (repeat' (first | refine J.seq ?_ | refine J.roA rfl ?_ | refine X.ro rfl rfl ?_ | refine X.nil0 ?_ | refine J.skip ?_ | refine J.ret ?_ | refine X.l1 1 rfl rfl rfl rfl rfl rfl rfl rfl rfl ?_ | refine X.ad rfl rfl rfl rfl rfl rfl (by omega) ?_ | refine J.cond_d rfl (fun h => ?_) (fun h => ?_)))
      all_goals try omega
    · exact ⟨1, ⟨rfl, rfl, rfl, rfl, trivial⟩, (fun _ _ _ h => h), ⟨rfl, by decide⟩, by decide⟩
    · exact ⟨2, ⟨rfl, rfl, rfl, rfl, trivial⟩, (fun _ _ _ h => h), ⟨rfl, by decide⟩, by decide⟩
    · exact ⟨3, ⟨rfl, rfl, rfl, rfl, trivial⟩, (fun _ _ _ h => h), ⟨rfl, by decide⟩, by decide⟩
  · refine X.ix hf (i := i - 1) (by omega) rfl rfl rfl rfl rfl rfl rfl rfl (by omega) fun b3 f3 cs3 hr3 hx3 => ?_
    obtain rfl := hx3
    have hq2 := hq (by omega)
    refine X.lg 0 hr3 rfl rfl (by first | exact .md | exact .mo | exact .mf) (Ge.refl _) rfl rfl rfl rfl rfl rfl rfl rfl ?_
    (repeat' (first | refine J.seq ?_ | refine J.roA rfl ?_ | refine X.ro rfl rfl ?_ | refine X.nil0 ?_ | refine J.skip ?_ | refine J.ret ?_ | refine J.cond_t rfl ?_ | refine J.cond_f rfl ?_ | refine X.l1 1 rfl rfl rfl rfl rfl rfl rfl rfl rfl ?_ | refine X.l1 2 rfl rfl rfl rfl rfl rfl rfl rfl rfl ?_ | refine X.al rfl rfl rfl rfl rfl rfl rfl fun b => ?_ | refine X.st 2 rfl rfl rfl rfl rfl rfl rfl rfl rfl ?_ | refine X.g_d rfl rfl rfl (fun h => ?_) (fun h => ?_)))
    all_goals first | omega | skip
    exact ⟨_, .cons (.tmp rfl) .nil, rfl, fun _ _ _ => rfl⟩
  · exact ⟨_, .cons (.tmp rfl) .nil, rfl, fun _ _ _ => rfl⟩
end
end Go.Proofs.YthldmlfpebgojaaGreatDoor
/-
  Contracts: a timetable of the laws' data is valid.
  Condition: the timetable is one of the laws' data, its flights are well formed.
-/
namespace Go.Proofs.YthldmlfpebgojaaGreatDoor
set_option linter.unusedSimpArgs false
set_option linter.unusedVariables false
set_option maxRecDepth 100000
set_option maxHeartbeats 0
open Go.RowKit Go

section
variable {B : St} {t : TT} {fs : List Flt}
theorem validate9_ev (hT : TTAt B t fs) (hF : ∀ f ∈ fs, FlFine f) (hl200 : fs.length ≤ 200) : EvP Tryz.prog 189 [t.v] B fun v _ => v = .int .i64 0 := by
  obtain ⟨zu, ze, h1, h2, h3⟩ := hT.zs
  have hzl : t.zs.n = 2 := h1.len
  have hal : t.aps.n = 3 := hT.aps.len
  have hfl := hT.fls.len
  have hzn := Sq.map (f := ZV.zn) rfl ZV.rep h1
  refine EvP.go Tryz.func189 rfl Tryz.ntmps189 Tryz.results189 rfl [] rfl ?_
  (repeat' (first | refine J.seq ?_ | refine J.block ?_ | refine J.roA rfl ?_ | refine X.ro rfl rfl ?_ | refine X.nil0 ?_ | refine J.skip ?_ | refine J.ret ?_ | refine J.cond_t rfl ?_ | refine X.l1 0 rfl rfl rfl rfl rfl rfl rfl rfl rfl ?_ | refine X.bx rfl rfl rfl rfl rfl rfl rfl rfl fun b => ?_ | refine X.g_d rfl rfl rfl (fun h => ?_) (fun h => ?_) | refine J.cond_d rfl (fun h => ?_) (fun h => ?_)))
  all_goals first | omega | skip
  have hzd : ∀ (j i : Nat) (hj : j < [zu, ze].length) (hi : i < [zu, ze].length), j < i → [zu, ze][j].name ≠ [zu, ze][i].name := fun j i hj hi h => by
    simp only [List.length_cons, List.length_nil] at hi
    obtain rfl : j = 0 := by omega
    obtain rfl : i = 1 := by omega
    change zu.name ≠ ze.name
    rw [h2, h3]
    decide
  refine J.loop (σ := Nat) (fun i => [(1, .pointer (some ⟨b, 0, none⟩)), (3, .int .i64 (i : Int))]) (fun _ => [some (b, ⟨[t.zs.v, t.aps.v, t.fls.v], 27, 1⟩)]) (fun B1 i => B1 = B ∧ i ≤ 2) (fun i => 2 - i) 0 ⟨rfl, by decide⟩ ⟨rfl, rfl, trivial⟩ (fun _ _ _ h => h) ?_
  rintro i B1 hB ⟨rfl, hi⟩
  (repeat' (first | refine J.seq ?_ | refine J.block ?_ | refine J.roA rfl ?_ | refine X.ro rfl rfl ?_ | refine X.nil0 ?_ | refine J.skip ?_ | refine J.exit ?_ | refine X.l1 0 rfl rfl rfl rfl rfl rfl rfl rfl rfl ?_ | refine J.cond_d rfl (fun h => ?_) (fun h => ?_)))
  · have hi2 : i < [zu, ze].length := by simp only [List.length_cons, List.length_nil]; omega
    refine X.ix h1 (i := i) hi2 rfl rfl rfl rfl rfl rfl rfl rfl rfl fun b2 f2 cs2 hr2 hx2 => ?_
    obtain ⟨rfl, hz⟩ := hx2
    refine X.lg 0 hr2 rfl rfl (by first | exact .md | exact .mo | exact .mf) (Ge.refl _) rfl rfl rfl rfl rfl rfl rfl rfl ?_
    refine X.callq rfl rfl (gV_ok rfl) rfl rfl rfl rfl (en rfl) (validateZone_ev hz) ?_
    rintro v rfl
    (repeat' (first | refine J.seq ?_ | refine J.roA rfl ?_ | refine J.rdA (by kernel_rfl) rfl ?_ | refine X.ro rfl rfl ?_ | refine X.rd rfl rfl ?_ | refine X.nil0 ?_ | refine J.skip ?_ | refine J.cond_f rfl ?_ | refine X.l1 0 rfl rfl rfl rfl rfl rfl rfl rfl rfl ?_))
    refine X.slq (l' := 0) (h' := i) h1 rfl rfl rfl rfl rfl rfl rfl (.inl ⟨rfl, rfl⟩) (.inr ⟨_, _, rfl, rfl⟩) (Nat.zero_le _) (Nat.le_of_lt hi2) fun s' hs' => ?_
    (repeat' (first | refine X.rd rfl rfl ?_ | refine X.l1 0 rfl rfl rfl rfl rfl rfl rfl rfl rfl ?_))
    refine X.ix h1 (i := i) hi2 rfl rfl rfl rfl rfl rfl rfl rfl rfl fun b3 f3 cs3 hr3 hx3 => ?_
    obtain ⟨rfl, hz3⟩ := hx3
    (repeat' (first | refine X.rd rfl rfl ?_))
    refine X.ls 0 hr3 rfl (by first | exact .md | exact .mo | exact .mf) (Ge.refl _) rfl rfl rfl rfl rfl rfl rfl ?_
    refine X.callq rfl rfl (gV_ok rfl) rfl rfl rfl rfl (en rfl) (zoneIndex_ev _ (Sq.map (f := ZV.zn) rfl ZV.rep hs') (by rw [List.length_map, List.length_drop, List.length_take]; omega)) ?_
    rintro v ⟨z, rfl, hz4⟩
    obtain rfl : z = -1 := by
      rw [List.map_drop, List.map_take] at hz4
      exact idx_new (key := Zn.name) (xs := [zu, ze].map ZV.zn) (i := i) (by rw [List.length_map]; exact hi2) (fun j hj h => by
        rw [List.getElem_map]
        exact hzd j i (by simpa using hj) hi2 h) hz4
    (repeat' (first | refine J.roA rfl ?_ | refine X.ro rfl rfl ?_ | refine X.rd rfl rfl ?_ | refine X.nil0 ?_ | refine X.nil1 ⟨by kernel_rfl, ?_⟩ | refine J.skip ?_ | refine J.cond_f rfl ?_ | refine X.ad rfl rfl rfl rfl rfl rfl (by omega) ?_))
    exact ⟨i + 1, ⟨rfl, rfl, trivial⟩, (fun _ _ _ h => h), ⟨rfl, by omega⟩, by dsimp only; omega⟩
  have had : ∀ (j i : Nat) (hj : j < apts.length) (hi : i < apts.length), j < i → apts[j].code ≠ apts[i].code := by
    intro j i hj hi h
    have hi' : i = 1 ∨ i = 2 := by simp [apts] at hi; omega
    rcases hi' with rfl | rfl
    · obtain rfl : j = 0 := by omega
      change (⟨#[65, 65, 65]⟩ : ByteArray) ≠ ⟨#[66, 66, 66]⟩
      decide
    · have hj' : j = 0 ∨ j = 1 := by omega
      rcases hj' with rfl | rfl
      · change (⟨#[65, 65, 65]⟩ : ByteArray) ≠ ⟨#[67, 67, 67]⟩
        decide
      · change (⟨#[66, 66, 66]⟩ : ByteArray) ≠ ⟨#[67, 67, 67]⟩
        decide
  refine J.loop (σ := Nat) (fun i => [(1, .pointer (some ⟨b, 0, none⟩)), (5, .int .i64 (i : Int))]) (fun _ => [some (b, ⟨[t.zs.v, t.aps.v, t.fls.v], 27, 1⟩)]) (fun B2 i => B2 = B1 ∧ i ≤ 3) (fun i => 3 - i) 0 ⟨rfl, by decide⟩ ⟨rfl, rfl, trivial⟩ (fun _ _ _ h => h) ?_
  rintro k B2 hB2 ⟨rfl, hk⟩
  (repeat' (first | refine J.seq ?_ | refine J.block ?_ | refine J.roA rfl ?_ | refine X.ro rfl rfl ?_ | refine X.nil0 ?_ | refine J.skip ?_ | refine J.exit ?_ | refine X.l1 0 rfl rfl rfl rfl rfl rfl rfl rfl rfl ?_ | refine J.cond_d rfl (fun h => ?_) (fun h => ?_)))
  · have hk2 : k < apts.length := by change k < 3; omega
    have hap : isApt apts[k].code ∧ (apts[k].zone = utcZ.name ∨ apts[k].zone = eastZ.name) := by
      have hk' : k = 0 ∨ k = 1 ∨ k = 2 := by change k < 3 at hk2; omega
      rcases hk' with rfl | rfl | rfl
      · exact ⟨.inl rfl, .inl rfl⟩
      · exact ⟨.inr (.inl rfl), .inl rfl⟩
      · exact ⟨.inr (.inr rfl), .inr rfl⟩
    refine X.ix hT.aps (i := k) hk2 rfl rfl rfl rfl rfl rfl rfl rfl rfl fun b2 f2 cs2 hr2 hx2 => ?_
    obtain rfl := hx2
    refine X.lg 0 hr2 rfl rfl (by first | exact .md | exact .mo | exact .mf) (Ge.refl _) rfl rfl rfl rfl rfl rfl rfl rfl ?_
    (repeat' (first | refine J.seq ?_ | refine J.roA rfl ?_ | refine X.ro rfl rfl ?_ | refine X.nil0 ?_ | refine X.l1 1 rfl rfl rfl rfl rfl rfl rfl rfl rfl ?_ | refine X.al rfl rfl rfl rfl rfl rfl rfl fun b => ?_ | refine X.st 1 rfl rfl rfl rfl rfl rfl rfl rfl rfl ?_))
    refine X.callq rfl rfl (gV_ok rfl) rfl rfl rfl rfl (en rfl) (isAirport_ev hap.1) ?_
    rintro v rfl
    (repeat' (first | refine J.seq ?_ | refine J.rdA (by kernel_rfl) rfl ?_ | refine X.ro rfl rfl ?_ | refine X.rd rfl rfl ?_ | refine X.nil0 ?_ | refine J.skip ?_ | refine J.cond_f rfl ?_ | refine X.l1 0 rfl rfl rfl rfl rfl rfl rfl rfl rfl ?_))
    refine X.slq (l' := 0) (h' := k) hT.aps rfl rfl rfl rfl rfl rfl rfl (.inl ⟨rfl, rfl⟩) (.inr ⟨_, _, rfl, rfl⟩) (Nat.zero_le _) (Nat.le_of_lt hk2) fun s' hs' => ?_
    (repeat' (first | refine X.rd rfl rfl ?_ | refine X.l1 1 rfl rfl rfl rfl rfl rfl rfl rfl rfl ?_))
    refine X.callq rfl rfl (gV_ok rfl) rfl rfl rfl rfl (en rfl) (airportIndex_ev _ hs' (by rw [List.length_drop, List.length_take]; omega)) ?_
    rintro v ⟨z, rfl, hz4⟩
    obtain rfl : z = -1 := idx_new (key := Apt.code) (xs := apts) (i := k) hk2 (fun j hj h => had j k hj hk2 h) hz4
    (repeat' (first | refine J.seq ?_ | refine J.roA rfl ?_ | refine X.ro rfl rfl ?_ | refine X.rd rfl rfl ?_ | refine X.nil1 ⟨by kernel_rfl, ?_⟩ | refine J.skip ?_ | refine J.cond_f rfl ?_ | refine X.l1 0 rfl rfl rfl rfl rfl rfl rfl rfl rfl ?_ | refine X.l1 1 rfl rfl rfl rfl rfl rfl rfl rfl rfl ?_))
    refine X.callq rfl rfl (gV_ok rfl) rfl rfl rfl rfl (en rfl) (zoneIndex_ev _ hzn (by simp)) ?_
    rintro v ⟨z, rfl, hz5⟩
    have hz6 : ∃ m : Nat, z = (m : Int) := by
      rcases hz5 with ⟨m, _, h, _⟩ | ⟨_, hno⟩
      · exact ⟨m, h⟩
      · exfalso
        rcases hap.2 with e | e
        · exact hno (ZV.zn zu) (.head _) (by rw [e]; exact h2)
        · exact hno (ZV.zn ze) (.tail _ (.head _)) (by rw [e]; exact h3)
    obtain ⟨m, rfl⟩ := hz6
    (repeat' (first | refine J.roA rfl ?_ | refine X.ro rfl rfl ?_ | refine X.nil0 ?_ | refine J.skip ?_ | refine J.cond_f rfl ?_ | refine X.ad rfl rfl rfl rfl rfl rfl (by omega) ?_))
    all_goals first | omega | skip
    exact ⟨k + 1, ⟨rfl, rfl, trivial⟩, Less.app _ [_], ⟨rfl, by omega⟩, by dsimp only; omega⟩
  refine J.loop (σ := Nat) (fun i => [(1, .pointer (some ⟨b, 0, none⟩)), (7, .int .i64 (i : Int))]) (fun _ => [some (b, ⟨[t.zs.v, t.aps.v, t.fls.v], 27, 1⟩)]) (fun B3 i => B3 = B2 ∧ i ≤ fs.length) (fun i => fs.length - i) 0 ⟨rfl, Nat.zero_le _⟩ ⟨rfl, rfl, trivial⟩ (fun _ _ _ h => h) ?_
  rintro n B3 hB3 ⟨rfl, hn⟩
  (repeat' (first | refine J.seq ?_ | refine J.block ?_ | refine J.roA rfl ?_ | refine X.ro rfl rfl ?_ | refine X.nil0 ?_ | refine J.skip ?_ | refine J.exit ?_ | refine J.ret ?_ | refine X.l1 0 rfl rfl rfl rfl rfl rfl rfl rfl rfl ?_ | refine X.la 0 rfl rfl rfl rfl rfl rfl rfl rfl rfl rfl ?_ | refine J.cond_d rfl (fun h => ?_) (fun h => ?_)))
  · refine X.callq rfl rfl (gV_ok rfl) rfl rfl rfl rfl (en rfl) (flight_ev hT hF (i := n) (by omega)) ?_
    rintro v rfl
    (repeat' (first | refine J.seq ?_ | refine J.roA rfl ?_ | refine X.ro rfl rfl ?_ | refine X.nil0 ?_ | refine J.skip ?_ | refine J.cond_f rfl ?_ | refine X.ad rfl rfl rfl rfl rfl rfl (by omega) ?_))
    exact ⟨n + 1, ⟨rfl, rfl, trivial⟩, (fun _ _ _ h => h), ⟨rfl, by omega⟩, by dsimp only; omega⟩
  · exact ⟨_, .cons (.tmp rfl) .nil, rfl, fun _ _ _ => rfl⟩
end
end Go.Proofs.YthldmlfpebgojaaGreatDoor
/-
  Names of attributes.
  No condition.
-/
namespace Go.Proofs.YthldmlfpebgojaaGreatDoor
set_option linter.unusedSimpArgs false
set_option linter.unusedVariables false
set_option maxRecDepth 100000
open Go.RowKit Go

/-- The names of the attributes of scope 1. -/
def asN1 : List ByteArray := [⟨#[108, 101, 103, 115]⟩, ⟨#[104, 101, 97, 100, 115]⟩, ⟨#[116, 121, 112, 101, 115]⟩, ⟨#[98, 108, 111, 99, 107]⟩, ⟨#[115, 112, 97, 110]⟩, ⟨#[110, 105, 103, 104, 116]⟩, ⟨#[108, 111, 110, 103, 101, 115, 116]⟩, ⟨#[115, 104, 111, 114, 116, 101, 115, 116]⟩, ⟨#[115, 104, 105, 102, 116]⟩, ⟨#[115, 116, 97, 114, 116]⟩, ⟨#[101, 110, 100]⟩]
/-- The names of the attributes of scope 2. -/
def asN2 : List ByteArray := [⟨#[114, 101, 115, 116]⟩, ⟨#[110, 105, 103, 104, 116, 115]⟩, ⟨#[104, 111, 109, 101]⟩, ⟨#[98, 101, 102, 111, 114, 101, 46, 108, 101, 103, 115]⟩, ⟨#[98, 101, 102, 111, 114, 101, 46, 104, 101, 97, 100, 115]⟩, ⟨#[98, 101, 102, 111, 114, 101, 46, 116, 121, 112, 101, 115]⟩, ⟨#[98, 101, 102, 111, 114, 101, 46, 98, 108, 111, 99, 107]⟩, ⟨#[98, 101, 102, 111, 114, 101, 46, 115, 112, 97, 110]⟩, ⟨#[98, 101, 102, 111, 114, 101, 46, 110, 105, 103, 104, 116]⟩, ⟨#[98, 101, 102, 111, 114, 101, 46, 108, 111, 110, 103, 101, 115, 116]⟩, ⟨#[98, 101, 102, 111, 114, 101, 46, 115, 104, 111, 114, 116, 101, 115, 116]⟩, ⟨#[98, 101, 102, 111, 114, 101, 46, 115, 104, 105, 102, 116]⟩, ⟨#[98, 101, 102, 111, 114, 101, 46, 115, 116, 97, 114, 116]⟩, ⟨#[98, 101, 102, 111, 114, 101, 46, 101, 110, 100]⟩, ⟨#[97, 102, 116, 101, 114, 46, 108, 101, 103, 115]⟩, ⟨#[97, 102, 116, 101, 114, 46, 104, 101, 97, 100, 115]⟩, ⟨#[97, 102, 116, 101, 114, 46, 116, 121, 112, 101, 115]⟩, ⟨#[97, 102, 116, 101, 114, 46, 98, 108, 111, 99, 107]⟩, ⟨#[97, 102, 116, 101, 114, 46, 115, 112, 97, 110]⟩, ⟨#[97, 102, 116, 101, 114, 46, 110, 105, 103, 104, 116]⟩, ⟨#[97, 102, 116, 101, 114, 46, 108, 111, 110, 103, 101, 115, 116]⟩, ⟨#[97, 102, 116, 101, 114, 46, 115, 104, 111, 114, 116, 101, 115, 116]⟩, ⟨#[97, 102, 116, 101, 114, 46, 115, 104, 105, 102, 116]⟩, ⟨#[97, 102, 116, 101, 114, 46, 115, 116, 97, 114, 116]⟩, ⟨#[97, 102, 116, 101, 114, 46, 101, 110, 100]⟩]
/-- The names of the attributes of scope 3. -/
def asN3 : List ByteArray := [⟨#[100, 117, 116, 105, 101, 115]⟩, ⟨#[108, 101, 103, 115]⟩, ⟨#[104, 101, 97, 100, 115]⟩, ⟨#[100, 97, 121, 115]⟩, ⟨#[98, 108, 111, 99, 107]⟩, ⟨#[115, 112, 97, 110]⟩, ⟨#[99, 114, 101, 100, 105, 116]⟩]
end Go.Proofs.YthldmlfpebgojaaGreatDoor
/-
  Contracts: names of attributes; lists of attributes.
  Condition: the scope is one of the three.
-/
namespace Go.Proofs.YthldmlfpebgojaaGreatDoor
set_option linter.unusedSimpArgs false
set_option linter.unusedVariables false
set_option maxRecDepth 100000
set_option maxHeartbeats 0
open Go.RowKit Go

noncomputable def strChk : List Value → ByteArray → Bool
  | [.string a], b => bytesEq a.data.toList b.data.toList
  | _, _ => false
theorem strChk_ok {B : St} {r : Nat → Nat} (cs : List Value) (x : ByteArray) (h : strChk cs x = true) : Dt.str.rep B (cs.map (ren1 r)) x := by
  unfold strChk at h
  split at h
  · rw [bytes_of h]; rfl
  · cases h
/-- The names of the attributes of a scope. -/
def asN (s : Int) : List ByteArray := if s = 1 then asN1 else if s = 2 then asN2 else asN3
def isScope (s : Int) : Prop := s = 1 ∨ s = 2 ∨ s = 3
abbrev Att.cells (x : Att) : List Value := [.string x.name, .int .i64 x.val]
section
variable {B : St}
theorem attributes_ev {s : Int} (h : isScope s) : EvP Tryz.prog 286 [.int .i64 s] B fun v B1 => ∃ r : Slc, v = r.v ∧ SqS Dt.str B1 r (asN s) := by
  have key : ∀ (c : Cl) (v : Value) (xs : List ByteArray) (r : Nat → Nat) (B' : St), Copy c.R r B' → sqChk 1 strChk c.R v xs = true → ∃ s : Slc, ren1 r v = s.v ∧ SqS Dt.str B' s xs := fun c v xs r B' hC h => sqChk_ok rfl hC strChk_ok h
  rcases h with rfl | rfl | rfl
  · exact EvP.cl cl_as1 (s := 0) cl_as1_fine (by rfl) (by rfl) rfl (fun p hp => by cases hp) (by rfl) (fun _ => rfl) (fun _ => rfl) fun n B' _ hC => key cl_as1 cl_as1.v asN1 _ B' hC (by rfl)
  · exact EvP.cl cl_as2 (s := 0) cl_as2_fine (by rfl) (by rfl) rfl (fun p hp => by cases hp) (by rfl) (fun _ => rfl) (fun _ => rfl) fun n B' _ hC => key cl_as2 cl_as2.v asN2 _ B' hC (by rfl)
  · exact EvP.cl cl_as3 (s := 0) cl_as3_fine (by rfl) (by rfl) rfl (fun p hp => by cases hp) (by rfl) (fun _ => rfl) (fun _ => rfl) fun n B' _ hC => key cl_as3 cl_as3.v asN3 _ B' hC (by rfl)
/-- A list of attributes of a scope. -/
structure AttsOk (s : Int) (xs : List Att) : Prop where
  names : xs.map (·.name) = asN s
  rng : ∀ x ∈ xs, inR x.val
theorem asN_len {s : Int} (h : isScope s) : (asN s).length ≤ 25 := by rcases h with rfl | rfl | rfl <;> decide
/-- Attributes with these names and values. -/
def attsOf (ns : List ByteArray) (vs : List Int) : List Att := List.zipWith Att.mk ns vs
theorem attrs_ev {s : Int} (h : isScope s) {r : Slc} {vs : List Int} (hv : SqS (Dt.int .i64) B r vs) (hl : (asN s).length ≤ vs.length) (hr : ∀ x ∈ vs, inR x) : EvP Tryz.prog 231 [.int .i64 s, r.v] B fun v B1 => ∃ (q : Slc) (xs : List Att), v = q.v ∧ SqS .att B1 q xs ∧ AttsOk s xs := by
  have hn := hv.len
  have hal := asN_len h
  refine EvP.go Tryz.func231 rfl Tryz.ntmps231 Tryz.results231 rfl [none] rfl ?_
  (repeat' (first | refine J.seq ?_ | refine J.roA rfl ?_ | refine X.ro rfl rfl ?_ | refine X.nil0 ?_))
  refine X.call rfl rfl (gV_ok rfl) rfl rfl rfl rfl (en rfl) (attributes_ev h) ?_
  rintro v B1 hB1 ⟨ns, rfl, hns⟩
  have hnl := hns.len
  have hv1 := hv.ge hB1
  (repeat' (first | refine J.seq ?_ | refine J.block ?_ | refine J.roA rfl ?_ | refine X.ro rfl rfl ?_ | refine X.nil0 ?_))
  generalize hxs : attsOf (asN s) vs = xs
  have hxl : xs.length = (asN s).length := by rw [← hxs]; unfold attsOf; rw [List.length_zipWith]; omega
  have hxi : ∀ (i : Nat) (h1 : i < xs.length) (h2 : i < (asN s).length) (h3 : i < vs.length), xs[i] = ⟨(asN s)[i], vs[i]⟩ := fun i h1 h2 h3 => by subst hxs; exact List.getElem_zipWith
  have hnm : xs.map (·.name) = asN s := by
    refine List.ext_getElem (by rw [List.length_map, hxl]) fun i h1 h2 => ?_
    rw [List.length_map] at h1
    rw [List.getElem_map, hxi i h1 h2 (by omega)]
  have hrg : ∀ x ∈ xs, inR x.val := fun x hx => by
    obtain ⟨i, hi, rfl⟩ := List.getElem_of_mem hx
    rw [hxi i hi (by omega) (by omega)]
    exact hr _ (List.getElem_mem _)
  refine J.loop (σ := Nat × Option Nat) (fun p => [(1, r.v), (5, accV p.2 p.1), (6, ns.v), (7, .int .i64 (p.1 : Int))]) (fun p => [accE 349 2 p.2 ((xs.take p.1).map Att.cells).flatten]) (fun B2 p => B2 = B1 ∧ p.1 ≤ xs.length ∧ accOk p.2 p.1) (fun p => xs.length - p.1) (0, none) ⟨rfl, Nat.zero_le _, rfl⟩ ⟨rfl, rfl, rfl, rfl, trivial⟩ (fun _ _ _ h => h) ?_
  rintro ⟨i, ob⟩ B2 hB2 ⟨rfl, hi1, hob⟩
  dsimp only at hi1 hob ⊢
  (repeat' (first | refine J.seq ?_ | refine J.block ?_ | refine J.roA rfl ?_ | refine J.rdA (by kernel_rfl) rfl ?_ | refine X.ro rfl rfl ?_ | refine X.rd rfl rfl ?_ | refine X.nil0 ?_ | refine J.skip ?_ | refine J.exit ?_ | refine J.ret ?_ | refine J.cond_d rfl (fun h => ?_) (fun h => ?_)))
  · have hi : i < xs.length := by omega
    have hi2 : i < (asN s).length := by omega
    have hi3 : i < vs.length := by omega
    (refine X.ix hns (i := i) (by omega) rfl rfl rfl rfl rfl rfl rfl rfl (by first | rfl | omega) fun b1 f1 cs1 hr1 hx1 => ?_; obtain rfl := hx1; skip; refine X.ls 0 hr1 rfl (by first | exact .md | exact .mo | exact .mf) (Ge.refl _) rfl rfl rfl rfl rfl rfl rfl ?_; (repeat' (first | refine X.rd rfl rfl ?_)))
    (refine X.ix hv1 (i := i) (by omega) rfl rfl rfl rfl rfl rfl rfl rfl (by first | rfl | omega) fun b1 f1 cs1 hr1 hx1 => ?_; obtain rfl := hx1; skip; refine X.ls 0 hr1 rfl (by first | exact .md | exact .mo | exact .mf) (Ge.refl _) rfl rfl rfl rfl rfl rfl rfl ?_; (repeat' (first | refine X.bs rfl rfl rfl rfl rfl rfl (by rfl) rfl rfl (by rfl) (by rfl) rfl (fun b => ?_) | refine X.bd rfl rfl rfl rfl rfl rfl rfl rfl rfl rfl rfl ?_)))
    have hrow : ∀ k, k ≤ xs.length → ((xs.take k).map Att.cells).flatten.length = k * 2 := fun k hk => by
      have := (Rows.flat (D := Dt.att) (f := Att.cells) (fun _ _ => rfl) B2 (xs.take k)).1
      rw [List.length_take, Nat.min_eq_left hk] at this
      exact this
    have e : ((xs.take (i + 1)).map Att.cells).flatten = ((xs.take i).map Att.cells).flatten ++ [.string (asN s)[i], .int .i64 vs[i]] := by
      rw [List.take_succ_eq_append_getElem hi, List.map_append, List.flatten_append, hxi i hi hi2 hi3]
      rfl
    refine X.ap (add := [.string (asN s)[i], .int .i64 vs[i]]) 0 1 rfl rfl rfl rfl rfl rfl rfl rfl rfl rfl rfl rfl (hrow i (by omega)) hob rfl (by rfl) rfl rfl (by show (_ + 1) * 24 ≤ _; omega) (by omega) fun oe hoe => ?_
    (repeat' (first | refine J.roA rfl ?_ | refine X.ro rfl rfl ?_ | refine X.rd rfl rfl ?_ | refine X.nil0 ?_ | refine X.nil1 ⟨by kernel_rfl, ?_⟩ | refine X.ad rfl rfl rfl rfl rfl rfl (by omega) ?_))
    exact ⟨(i + 1, oe), ⟨rfl, rfl, rfl, rfl, trivial⟩, by dsimp only; rw [e]; exact Less.app _ [_], ⟨rfl, by dsimp only; omega, hoe⟩, by dsimp only; omega⟩
  · obtain rfl : i = xs.length := by omega
    rw [List.take_length]
    refine ⟨_, .cons (.tmp rfl) .nil, ?_, fun B' hB' hK => ?_⟩
    · cases ob <;> rfl
    · obtain ⟨q, h1, h2⟩ := acc_sq (D := Dt.att) rfl hob (Rows.flat (D := Dt.att) (f := Att.cells) (fun _ _ => rfl) B' xs) fun b X h => hK b X (by rw [← h]; exact .head _)
      exact ⟨q, xs, h1, h2, hnm, hrg⟩
end
end Go.Proofs.YthldmlfpebgojaaGreatDoor
/-
  Contracts: the value of an expression.
  Condition: the expression has a form that occurs in the six contracts.
-/
namespace Go.Proofs.YthldmlfpebgojaaGreatDoor
set_option linter.unusedSimpArgs false
set_option linter.unusedVariables false
set_option maxRecDepth 100000
set_option maxHeartbeats 0
open Go.RowKit Go

section
variable {B : St}
theorem attr_ev (k n : Int) (hn : inR n) : EvP Tryz.prog 234 [.int .i64 k, .int .i64 n] B fun v _ => isI v := by
  refine EvP.go Tryz.func234 rfl Tryz.ntmps234 Tryz.results234 rfl [] rfl ?_
  (repeat' (first | refine J.seq ?_ | refine J.block ?_ | refine J.roA rfl ?_ | refine X.ro rfl rfl ?_ | refine X.nil0 ?_ | refine J.skip ?_ | refine J.cond_d rfl (fun h => ?_) (fun h => ?_)))
  · refine X.callq rfl rfl (gV_ok rfl) rfl rfl rfl rfl (en rfl) (splitMinute_ev n) ?_
    rintro v ⟨x, y, rfl, h1, h2⟩
    (repeat' (first | refine J.seq ?_ | refine J.roA rfl ?_ | refine X.ro rfl rfl ?_ | refine X.nil0 ?_ | refine J.ret ?_))
    exact ⟨_, .cons (.tmp rfl) .nil, rfl, fun _ _ _ => ⟨_, rfl, h2⟩⟩
  · refine X.callq rfl rfl (gV_ok rfl) rfl rfl rfl rfl (en rfl) (flag_ev _) ?_
    rintro v rfl
    (repeat' (first | refine X.ro rfl rfl ?_ | refine X.nil0 ?_ | refine J.ret ?_))
    exact ⟨_, .cons (.tmp rfl) .nil, rfl, fun _ _ _ => ⟨_, rfl, inR.ite (inR.of (by decide)) (inR.of (by decide))⟩⟩
  · refine X.callq rfl rfl (gV_ok rfl) rfl rfl rfl rfl (en rfl) (clamp_ev n) ?_
    rintro v ⟨x, rfl, h1⟩
    (repeat' (first | refine X.ro rfl rfl ?_ | refine X.nil0 ?_ | refine J.ret ?_))
    exact ⟨_, .cons (.tmp rfl) .nil, rfl, fun _ _ _ => ⟨_, rfl, h1⟩⟩
/-- The operators that occur, with the numbers of their arguments. -/
def opOk (op : Int) (n : Nat) : Prop := n = 0 ∧ (op = 1 ∨ op = 2 ∨ op = 3) ∨ n = 2 ∧ (op = 8 ∨ op = 9 ∨ op = 10 ∨ op = 11 ∨ op = 13 ∨ op = 16 ∨ op = 17 ∨ op = 22) ∨ n = 3 ∧ (op = 14 ∨ op = 15)
theorem apply_ev {op num : Int} {s : Slc} {vs : List Int} (hv : SqS (Dt.int .i64) B s vs) (hr : ∀ x ∈ vs, inR x) (hnum : inR num) (h : opOk op vs.length) : EvP Tryz.prog 237 [.int .i64 op, .int .i64 num, s.v] B fun v _ => isI v := by
  have hn := hv.len
  have hg : ∀ (i : Nat) (hi : i < vs.length), inR vs[i] := fun i hi => hr _ (List.getElem_mem hi)
  rcases h with ⟨hl, rfl | rfl | rfl⟩ | ⟨hl, rfl | rfl | rfl | rfl | rfl | rfl | rfl | rfl⟩ | ⟨hl, rfl | rfl⟩
  · refine EvP.go Tryz.func237 rfl Tryz.ntmps237 Tryz.results237 rfl [] rfl ?_
    (repeat' (first | refine J.seq ?_ | refine J.block ?_ | refine J.roA rfl ?_ | refine X.ro rfl rfl ?_ | refine X.nil0 ?_ | refine J.skip ?_ | refine J.ret ?_ | refine J.cond_t rfl ?_))
    exact ⟨_, .cons (.tmp rfl) .nil, rfl, fun _ _ _ => ⟨_, rfl, hnum⟩⟩
  · refine EvP.go Tryz.func237 rfl Tryz.ntmps237 Tryz.results237 rfl [] rfl ?_
    (repeat' (first | refine J.seq ?_ | refine J.block ?_ | refine J.roA rfl ?_ | refine X.ro rfl rfl ?_ | refine X.nil0 ?_ | refine J.skip ?_ | refine J.ret ?_ | refine J.cond_t rfl ?_ | refine J.cond_f rfl ?_))
    exact ⟨_, .cons (.tmp rfl) .nil, rfl, fun _ _ _ => ⟨_, rfl, hnum⟩⟩
  · refine EvP.go Tryz.func237 rfl Tryz.ntmps237 Tryz.results237 rfl [] rfl ?_
    (repeat' (first | refine J.seq ?_ | refine J.block ?_ | refine J.roA rfl ?_ | refine X.ro rfl rfl ?_ | refine X.nil0 ?_ | refine J.ret ?_ | refine J.cond_t rfl ?_ | refine J.cond_f rfl ?_))
    exact ⟨_, .cons (.tmp rfl) .nil, rfl, fun _ _ _ => ⟨_, rfl, hnum⟩⟩
  · refine EvP.go Tryz.func237 rfl Tryz.ntmps237 Tryz.results237 rfl [] rfl ?_
    (repeat' (first | refine J.seq ?_ | refine J.block ?_ | refine J.roA rfl ?_ | refine J.rdA (by kernel_rfl) rfl ?_ | refine X.ro rfl rfl ?_ | refine X.rd rfl rfl ?_ | refine X.nil0 ?_ | refine J.cond_t rfl ?_ | refine J.cond_f rfl ?_))
    (refine X.ix hv (i := 0) (by omega) rfl rfl rfl rfl rfl rfl rfl rfl (by first | rfl | omega) fun b1 f1 cs1 hr1 hx1 => ?_; obtain rfl := hx1; skip; refine X.ls 0 hr1 rfl (by first | exact .md | exact .mo | exact .mf) (Ge.refl _) rfl rfl rfl rfl rfl rfl rfl ?_; (repeat' (first | refine X.rd rfl rfl ?_)))
    (refine X.ix hv (i := 1) (by omega) rfl rfl rfl rfl rfl rfl rfl rfl (by first | rfl | omega) fun b1 f1 cs1 hr1 hx1 => ?_; obtain rfl := hx1; skip; refine X.ls 0 hr1 rfl (by first | exact .md | exact .mo | exact .mf) (Ge.refl _) rfl rfl rfl rfl rfl rfl rfl ?_; skip)
    (refine X.callq rfl rfl (gV_ok rfl) rfl rfl rfl rfl (en rfl) (satAdd_ev _ _) ?_; rintro v ⟨z, rfl, hz⟩; (repeat' (first | refine X.rd rfl rfl ?_ | refine X.nil1 ⟨by kernel_rfl, ?_⟩ | refine J.ret ?_)))
    all_goals exact ⟨_, .cons (.tmp rfl) .nil, rfl, fun _ _ _ => ⟨_, rfl, by first | exact inR.wrap _ | assumption | exact inR.of (by omega) | (refine inR.ite ?_ ?_ <;> first | exact inR.wrap _ | assumption | exact inR.of (by omega) | (refine inR.ite ?_ ?_ <;> first | exact inR.wrap _ | assumption | exact inR.of (by omega)))⟩⟩
  · refine EvP.go Tryz.func237 rfl Tryz.ntmps237 Tryz.results237 rfl [] rfl ?_
    (repeat' (first | refine J.seq ?_ | refine J.block ?_ | refine J.roA rfl ?_ | refine J.rdA (by kernel_rfl) rfl ?_ | refine X.ro rfl rfl ?_ | refine X.rd rfl rfl ?_ | refine X.nil0 ?_ | refine J.cond_t rfl ?_ | refine J.cond_f rfl ?_))
    (refine X.ix hv (i := 0) (by omega) rfl rfl rfl rfl rfl rfl rfl rfl (by first | rfl | omega) fun b1 f1 cs1 hr1 hx1 => ?_; obtain rfl := hx1; skip; refine X.ls 0 hr1 rfl (by first | exact .md | exact .mo | exact .mf) (Ge.refl _) rfl rfl rfl rfl rfl rfl rfl ?_; (repeat' (first | refine X.rd rfl rfl ?_)))
    (refine X.ix hv (i := 1) (by omega) rfl rfl rfl rfl rfl rfl rfl rfl (by first | rfl | omega) fun b1 f1 cs1 hr1 hx1 => ?_; obtain rfl := hx1; skip; refine X.ls 0 hr1 rfl (by first | exact .md | exact .mo | exact .mf) (Ge.refl _) rfl rfl rfl rfl rfl rfl rfl ?_; (repeat' (first | refine X.rd rfl rfl ?_)))
    (refine X.callq rfl rfl (gV_ok rfl) rfl rfl rfl rfl (en rfl) (satAdd_ev _ _) ?_; rintro v ⟨z, rfl, hz⟩; (repeat' (first | refine X.rd rfl rfl ?_ | refine X.nil1 ⟨by kernel_rfl, ?_⟩ | refine J.ret ?_)))
    all_goals exact ⟨_, .cons (.tmp rfl) .nil, rfl, fun _ _ _ => ⟨_, rfl, by first | exact inR.wrap _ | assumption | exact inR.of (by omega) | (refine inR.ite ?_ ?_ <;> first | exact inR.wrap _ | assumption | exact inR.of (by omega) | (refine inR.ite ?_ ?_ <;> first | exact inR.wrap _ | assumption | exact inR.of (by omega)))⟩⟩
  · refine EvP.go Tryz.func237 rfl Tryz.ntmps237 Tryz.results237 rfl [] rfl ?_
    (repeat' (first | refine J.seq ?_ | refine J.block ?_ | refine J.roA rfl ?_ | refine J.rdA (by kernel_rfl) rfl ?_ | refine X.ro rfl rfl ?_ | refine X.rd rfl rfl ?_ | refine X.nil0 ?_ | refine J.cond_t rfl ?_ | refine J.cond_f rfl ?_))
    (refine X.ix hv (i := 0) (by omega) rfl rfl rfl rfl rfl rfl rfl rfl (by first | rfl | omega) fun b1 f1 cs1 hr1 hx1 => ?_; obtain rfl := hx1; skip; refine X.ls 0 hr1 rfl (by first | exact .md | exact .mo | exact .mf) (Ge.refl _) rfl rfl rfl rfl rfl rfl rfl ?_; (repeat' (first | refine X.rd rfl rfl ?_)))
    (refine X.ix hv (i := 1) (by omega) rfl rfl rfl rfl rfl rfl rfl rfl (by first | rfl | omega) fun b1 f1 cs1 hr1 hx1 => ?_; obtain rfl := hx1; skip; refine X.ls 0 hr1 rfl (by first | exact .md | exact .mo | exact .mf) (Ge.refl _) rfl rfl rfl rfl rfl rfl rfl ?_; skip)
    (refine X.callq rfl rfl (gV_ok rfl) rfl rfl rfl rfl (en rfl) (satMul_ev _ _ (hg 0 (by omega)) (hg 1 (by omega))) ?_; rintro v ⟨z, rfl, hz⟩; (repeat' (first | refine X.rd rfl rfl ?_ | refine X.nil1 ⟨by kernel_rfl, ?_⟩ | refine J.ret ?_)))
    all_goals exact ⟨_, .cons (.tmp rfl) .nil, rfl, fun _ _ _ => ⟨_, rfl, by first | exact inR.wrap _ | assumption | exact inR.of (by omega) | (refine inR.ite ?_ ?_ <;> first | exact inR.wrap _ | assumption | exact inR.of (by omega) | (refine inR.ite ?_ ?_ <;> first | exact inR.wrap _ | assumption | exact inR.of (by omega)))⟩⟩
  · refine EvP.go Tryz.func237 rfl Tryz.ntmps237 Tryz.results237 rfl [] rfl ?_
    (repeat' (first | refine J.seq ?_ | refine J.block ?_ | refine J.roA rfl ?_ | refine J.rdA (by kernel_rfl) rfl ?_ | refine X.ro rfl rfl ?_ | refine X.rd rfl rfl ?_ | refine X.nil0 ?_ | refine J.cond_t rfl ?_ | refine J.cond_f rfl ?_))
    (refine X.ix hv (i := 0) (by omega) rfl rfl rfl rfl rfl rfl rfl rfl (by first | rfl | omega) fun b1 f1 cs1 hr1 hx1 => ?_; obtain rfl := hx1; skip; refine X.ls 0 hr1 rfl (by first | exact .md | exact .mo | exact .mf) (Ge.refl _) rfl rfl rfl rfl rfl rfl rfl ?_; (repeat' (first | refine X.rd rfl rfl ?_)))
    (refine X.ix hv (i := 1) (by omega) rfl rfl rfl rfl rfl rfl rfl rfl (by first | rfl | omega) fun b1 f1 cs1 hr1 hx1 => ?_; obtain rfl := hx1; skip; refine X.ls 0 hr1 rfl (by first | exact .md | exact .mo | exact .mf) (Ge.refl _) rfl rfl rfl rfl rfl rfl rfl ?_; skip)
    (refine X.callq rfl rfl (gV_ok rfl) rfl rfl rfl rfl (en rfl) (satDiv_ev _ _ (hg 0 (by omega)) (hg 1 (by omega))) ?_; rintro v ⟨z, rfl, hz⟩; (repeat' (first | refine X.rd rfl rfl ?_ | refine X.nil1 ⟨by kernel_rfl, ?_⟩ | refine J.ret ?_)))
    all_goals exact ⟨_, .cons (.tmp rfl) .nil, rfl, fun _ _ _ => ⟨_, rfl, by first | exact inR.wrap _ | assumption | exact inR.of (by omega) | (refine inR.ite ?_ ?_ <;> first | exact inR.wrap _ | assumption | exact inR.of (by omega) | (refine inR.ite ?_ ?_ <;> first | exact inR.wrap _ | assumption | exact inR.of (by omega)))⟩⟩
  · refine EvP.go Tryz.func237 rfl Tryz.ntmps237 Tryz.results237 rfl [] rfl ?_
    (repeat' (first | refine J.seq ?_ | refine J.block ?_ | refine J.roA rfl ?_ | refine X.ro rfl rfl ?_ | refine X.nil0 ?_ | refine J.cond_t rfl ?_ | refine J.cond_f rfl ?_))
    (refine X.ix hv (i := 0) (by omega) rfl rfl rfl rfl rfl rfl rfl rfl (by first | rfl | omega) fun b1 f1 cs1 hr1 hx1 => ?_; obtain rfl := hx1; skip; refine X.ls 0 hr1 rfl (by first | exact .md | exact .mo | exact .mf) (Ge.refl _) rfl rfl rfl rfl rfl rfl rfl ?_; (repeat' (first | refine J.seq ?_ | refine J.block ?_ | refine J.roA rfl ?_ | refine X.ro rfl rfl ?_ | refine X.nil0 ?_)))
    refine J.loop (σ := Nat × Int) (fun p => [(0, .int .i64 13), (2, s.v), (7, .int .i64 p.2), (8, .int .i64 (p.1 : Int))]) (fun _ => []) (fun B1 p => B1 = B ∧ p.1 ≤ vs.length ∧ inR p.2) (fun p => vs.length - p.1) (1, vs[0]) ⟨rfl, by dsimp only; omega, hg 0 (by omega)⟩ ⟨rfl, rfl, rfl, rfl, trivial⟩ (Less.refl _) ?_
    rintro ⟨i, m⟩ B1 hB ⟨rfl, hi, hm⟩
    dsimp only at hi hm ⊢
    (repeat' (first | refine J.seq ?_ | refine J.block ?_ | refine J.roA rfl ?_ | refine X.ro rfl rfl ?_ | refine X.nil0 ?_ | refine J.skip ?_ | refine J.exit ?_ | refine J.ret ?_ | refine J.cond_d rfl (fun h => ?_) (fun h => ?_)))
    · (refine X.ix hv (i := i) (by omega) rfl rfl rfl rfl rfl rfl rfl rfl (by first | rfl | omega) fun b1 f1 cs1 hr1 hx1 => ?_; obtain rfl := hx1; skip; refine X.ls 0 hr1 rfl (by first | exact .md | exact .mo | exact .mf) (Ge.refl _) rfl rfl rfl rfl rfl rfl rfl ?_; (repeat' (first | refine J.roA rfl ?_ | refine X.ro rfl rfl ?_ | refine X.nil0 ?_ | refine J.skip ?_ | refine X.ad rfl rfl rfl rfl rfl rfl (by omega) ?_ | refine X.be rfl rfl rfl rfl rfl rfl rfl ?_ | refine J.cond_d rfl (fun h => ?_) (fun h => ?_))))
      · (refine X.ix hv (i := i) (by omega) rfl rfl rfl rfl rfl rfl rfl rfl (by first | rfl | omega) fun b1 f1 cs1 hr1 hx1 => ?_; obtain rfl := hx1; skip; refine X.ls 0 hr1 rfl (by first | exact .md | exact .mo | exact .mf) (Ge.refl _) rfl rfl rfl rfl rfl rfl rfl ?_; (repeat' (first | refine J.roA rfl ?_ | refine X.ro rfl rfl ?_ | refine X.nil0 ?_ | refine X.ad rfl rfl rfl rfl rfl rfl (by omega) ?_)))
        exact ⟨(i + 1, _), ⟨rfl, rfl, rfl, rfl, trivial⟩, Less.refl _, ⟨rfl, by dsimp only; omega, hg i (by omega)⟩, by dsimp only; omega⟩
      · exact ⟨(i + 1, _), ⟨rfl, rfl, rfl, rfl, trivial⟩, Less.refl _, ⟨rfl, by dsimp only; omega, hm⟩, by dsimp only; omega⟩
    · exact ⟨_, .cons (.tmp rfl) .nil, rfl, fun _ _ _ => ⟨_, rfl, hm⟩⟩
  · refine EvP.go Tryz.func237 rfl Tryz.ntmps237 Tryz.results237 rfl [] rfl ?_
    (repeat' (first | refine J.seq ?_ | refine J.block ?_ | refine J.roA rfl ?_ | refine J.rdA (by kernel_rfl) rfl ?_ | refine X.ro rfl rfl ?_ | refine X.rd rfl rfl ?_ | refine X.nil0 ?_ | refine J.cond_t rfl ?_ | refine J.cond_f rfl ?_))
    (refine X.ix hv (i := 0) (by omega) rfl rfl rfl rfl rfl rfl rfl rfl (by first | rfl | omega) fun b1 f1 cs1 hr1 hx1 => ?_; obtain rfl := hx1; skip; refine X.ls 0 hr1 rfl (by first | exact .md | exact .mo | exact .mf) (Ge.refl _) rfl rfl rfl rfl rfl rfl rfl ?_; (repeat' (first | refine X.rd rfl rfl ?_)))
    (refine X.ix hv (i := 1) (by omega) rfl rfl rfl rfl rfl rfl rfl rfl (by first | rfl | omega) fun b1 f1 cs1 hr1 hx1 => ?_; obtain rfl := hx1; skip; refine X.ls 0 hr1 rfl (by first | exact .md | exact .mo | exact .mf) (Ge.refl _) rfl rfl rfl rfl rfl rfl rfl ?_; (repeat' (first | refine X.rd rfl rfl ?_)))
    refine X.callq rfl rfl (gV_ok rfl) rfl rfl rfl rfl (en rfl) (flag_ev _) ?_
    rintro v rfl
    (repeat' (first | refine X.rd rfl rfl ?_ | refine X.nil1 ⟨by kernel_rfl, ?_⟩ | refine J.ret ?_))
    exact ⟨_, .cons (.tmp rfl) .nil, rfl, fun _ _ _ => ⟨_, rfl, inR.ite (inR.of (by decide)) (inR.of (by decide))⟩⟩
  · refine EvP.go Tryz.func237 rfl Tryz.ntmps237 Tryz.results237 rfl [] rfl ?_
    (repeat' (first | refine J.seq ?_ | refine J.block ?_ | refine J.roA rfl ?_ | refine J.rdA (by kernel_rfl) rfl ?_ | refine X.ro rfl rfl ?_ | refine X.rd rfl rfl ?_ | refine X.nil0 ?_ | refine J.cond_t rfl ?_ | refine J.cond_f rfl ?_))
    (refine X.ix hv (i := 0) (by omega) rfl rfl rfl rfl rfl rfl rfl rfl (by first | rfl | omega) fun b1 f1 cs1 hr1 hx1 => ?_; obtain rfl := hx1; skip; refine X.ls 0 hr1 rfl (by first | exact .md | exact .mo | exact .mf) (Ge.refl _) rfl rfl rfl rfl rfl rfl rfl ?_; (repeat' (first | refine X.rd rfl rfl ?_)))
    (refine X.ix hv (i := 1) (by omega) rfl rfl rfl rfl rfl rfl rfl rfl (by first | rfl | omega) fun b1 f1 cs1 hr1 hx1 => ?_; obtain rfl := hx1; skip; refine X.ls 0 hr1 rfl (by first | exact .md | exact .mo | exact .mf) (Ge.refl _) rfl rfl rfl rfl rfl rfl rfl ?_; (repeat' (first | refine X.rd rfl rfl ?_)))
    refine X.callq rfl rfl (gV_ok rfl) rfl rfl rfl rfl (en rfl) (flag_ev _) ?_
    rintro v rfl
    (repeat' (first | refine X.rd rfl rfl ?_ | refine X.nil1 ⟨by kernel_rfl, ?_⟩ | refine J.ret ?_))
    exact ⟨_, .cons (.tmp rfl) .nil, rfl, fun _ _ _ => ⟨_, rfl, inR.ite (inR.of (by decide)) (inR.of (by decide))⟩⟩
  · refine EvP.go Tryz.func237 rfl Tryz.ntmps237 Tryz.results237 rfl [] rfl ?_
    (repeat' (first | refine J.seq ?_ | refine J.block ?_ | refine J.roA rfl ?_ | refine J.rdA (by kernel_rfl) rfl ?_ | refine X.ro rfl rfl ?_ | refine X.rd rfl rfl ?_ | refine X.nil0 ?_ | refine J.skip ?_ | refine J.cond_f rfl ?_))
    (refine X.ix hv (i := 0) (by omega) rfl rfl rfl rfl rfl rfl rfl rfl (by first | rfl | omega) fun b1 f1 cs1 hr1 hx1 => ?_; obtain rfl := hx1; skip; refine X.ls 0 hr1 rfl (by first | exact .md | exact .mo | exact .mf) (Ge.refl _) rfl rfl rfl rfl rfl rfl rfl ?_; skip)
    (repeat' (first | refine X.rd rfl rfl ?_ | refine X.sbw rfl rfl rfl rfl rfl rfl ?_))
    (refine X.ix hv (i := 1) (by omega) rfl rfl rfl rfl rfl rfl rfl rfl (by first | rfl | omega) fun b1 f1 cs1 hr1 hx1 => ?_; obtain rfl := hx1; skip; refine X.ls 0 hr1 rfl (by first | exact .md | exact .mo | exact .mf) (Ge.refl _) rfl rfl rfl rfl rfl rfl rfl ?_; (repeat' (first | refine X.rd rfl rfl ?_ | refine X.nil1 ⟨by kernel_rfl, ?_⟩ | refine J.ret ?_ | refine X.mx rfl rfl rfl rfl rfl rfl ?_)))
    exact ⟨_, .cons (.tmp rfl) .nil, rfl, fun _ _ _ => ⟨_, rfl, inR.ite (hg 1 (by omega)) (inR.wrap _)⟩⟩
  · refine EvP.go Tryz.func237 rfl Tryz.ntmps237 Tryz.results237 rfl [] rfl ?_
    (repeat' (first | refine J.seq ?_ | refine J.block ?_ | refine J.roA rfl ?_ | refine X.ro rfl rfl ?_ | refine X.nil0 ?_ | refine J.cond_t rfl ?_ | refine J.cond_f rfl ?_))
    (refine X.ix hv (i := 0) (by omega) rfl rfl rfl rfl rfl rfl rfl rfl (by first | rfl | omega) fun b1 f1 cs1 hr1 hx1 => ?_; obtain rfl := hx1; skip; refine X.ls 0 hr1 rfl (by first | exact .md | exact .mo | exact .mf) (Ge.refl _) rfl rfl rfl rfl rfl rfl rfl ?_; (repeat' (first | refine J.seq ?_ | refine J.roA rfl ?_ | refine X.ro rfl rfl ?_ | refine X.nil0 ?_ | refine J.skip ?_ | refine J.cond_d rfl (fun h => ?_) (fun h => ?_))))
    · (refine X.ix hv (i := 1) (by omega) rfl rfl rfl rfl rfl rfl rfl rfl (by first | rfl | omega) fun b1 f1 cs1 hr1 hx1 => ?_; obtain rfl := hx1; skip; refine X.ls 0 hr1 rfl (by first | exact .md | exact .mo | exact .mf) (Ge.refl _) rfl rfl rfl rfl rfl rfl rfl ?_; (repeat' (first | refine X.ro rfl rfl ?_ | refine X.nil0 ?_ | refine J.ret ?_)))
      exact ⟨_, .cons (.tmp rfl) .nil, rfl, fun _ _ _ => ⟨_, rfl, hg 1 (by omega)⟩⟩
    · (refine X.ix hv (i := 2) (by omega) rfl rfl rfl rfl rfl rfl rfl rfl (by first | rfl | omega) fun b1 f1 cs1 hr1 hx1 => ?_; obtain rfl := hx1; skip; refine X.ls 0 hr1 rfl (by first | exact .md | exact .mo | exact .mf) (Ge.refl _) rfl rfl rfl rfl rfl rfl rfl ?_; (repeat' (first | refine X.ro rfl rfl ?_ | refine X.nil0 ?_ | refine J.ret ?_)))
      exact ⟨_, .cons (.tmp rfl) .nil, rfl, fun _ _ _ => ⟨_, rfl, hg 2 (by omega)⟩⟩
  · refine EvP.go Tryz.func237 rfl Tryz.ntmps237 Tryz.results237 rfl [] rfl ?_
    (repeat' (first | refine J.seq ?_ | refine J.block ?_ | refine J.roA rfl ?_ | refine J.rdA (by kernel_rfl) rfl ?_ | refine X.ro rfl rfl ?_ | refine X.rd rfl rfl ?_ | refine X.nil0 ?_ | refine J.cond_t rfl ?_ | refine J.cond_f rfl ?_))
    (refine X.ix hv (i := 0) (by omega) rfl rfl rfl rfl rfl rfl rfl rfl (by first | rfl | omega) fun b1 f1 cs1 hr1 hx1 => ?_; obtain rfl := hx1; skip; refine X.ls 0 hr1 rfl (by first | exact .md | exact .mo | exact .mf) (Ge.refl _) rfl rfl rfl rfl rfl rfl rfl ?_; (repeat' (first | refine X.rd rfl rfl ?_)))
    (refine X.ix hv (i := 1) (by omega) rfl rfl rfl rfl rfl rfl rfl rfl (by first | rfl | omega) fun b1 f1 cs1 hr1 hx1 => ?_; obtain rfl := hx1; skip; refine X.ls 0 hr1 rfl (by first | exact .md | exact .mo | exact .mf) (Ge.refl _) rfl rfl rfl rfl rfl rfl rfl ?_; (repeat' (first | refine X.rd rfl rfl ?_)))
    (refine X.ix hv (i := 2) (by omega) rfl rfl rfl rfl rfl rfl rfl rfl (by first | rfl | omega) fun b1 f1 cs1 hr1 hx1 => ?_; obtain rfl := hx1; skip; refine X.ls 0 hr1 rfl (by first | exact .md | exact .mo | exact .mf) (Ge.refl _) rfl rfl rfl rfl rfl rfl rfl ?_; skip)
    refine X.callq rfl rfl (gV_ok rfl) rfl rfl rfl rfl (en rfl) (inBand_ev _ _ _) ?_
    rintro v ⟨w, rfl⟩
    skip
    refine X.callq rfl rfl (gV_ok rfl) rfl rfl rfl rfl (en rfl) (flag_ev _) ?_
    rintro v rfl
    (repeat' (first | refine X.rd rfl rfl ?_ | refine X.nil1 ⟨by kernel_rfl, ?_⟩ | refine J.ret ?_))
    exact ⟨_, .cons (.tmp rfl) .nil, rfl, fun _ _ _ => ⟨_, rfl, inR.ite (inR.of (by decide)) (inR.of (by decide))⟩⟩
/-- The attributes that occur: scope, name. -/
def attrPair (sc : Int) (n : ByteArray) : Prop := sc = 1 ∧ (n = ⟨#[108, 101, 103, 115]⟩ ∨ n = ⟨#[104, 101, 97, 100, 115]⟩ ∨ n = ⟨#[98, 108, 111, 99, 107]⟩ ∨ n = ⟨#[116, 121, 112, 101, 115]⟩ ∨ n = ⟨#[115, 112, 97, 110]⟩ ∨ n = ⟨#[115, 116, 97, 114, 116]⟩) ∨ sc = 2 ∧ n = ⟨#[114, 101, 115, 116]⟩ ∨
  sc = 3 ∧ (n = ⟨#[100, 117, 116, 105, 101, 115]⟩ ∨ n = ⟨#[100, 97, 121, 115]⟩ ∨ n = ⟨#[108, 101, 103, 115]⟩ ∨ n = ⟨#[98, 108, 111, 99, 107]⟩)
theorem attributeType_ev {sc : Int} {n : ByteArray} (h : attrPair sc n) : EvP Tryz.prog 233 [.int .i64 sc, .string n] B fun v _ => ∃ k, v = .tuple #[.int .i64 k, .int .i64 0] := by
  have key : ∀ {k : Int} {f : FuncId} {args : List Value} {c : Cl}, c.Fine → f = c.f → clFns.any (Nat.beq c.f) = true → clPick cls c.f c.as = some c → c.C = [] → Nat.beq c.cn 0 = true → c.as.map (ren2 (· + 0)) = args → (∀ r, ren3 r c.v = .tuple #[.int .i64 k, .int .i64 0]) → EvP Tryz.prog f args B fun v _ => ∃ k, v = .tuple #[.int .i64 k, .int .i64 0] := fun h1 h2 h3 h4 h5 h6 h7 h8 => (EvP.cl0 _ h1 h2 h3 h4 h5 h6 h7 h8).mono fun v B1 _ e => ⟨_, e⟩
  rcases h with ⟨rfl, rfl | rfl | rfl | rfl | rfl | rfl⟩ | ⟨rfl, rfl⟩ | ⟨rfl, rfl | rfl | rfl | rfl⟩
  · exact key cl_at0_fine rfl (by rfl) (by rfl) rfl rfl rfl fun _ => rfl
  · exact key cl_at1_fine rfl (by rfl) (by rfl) rfl rfl rfl fun _ => rfl
  · exact key cl_at2_fine rfl (by rfl) (by rfl) rfl rfl rfl fun _ => rfl
  · exact key cl_at3_fine rfl (by rfl) (by rfl) rfl rfl rfl fun _ => rfl
  · exact key cl_at4_fine rfl (by rfl) (by rfl) rfl rfl rfl fun _ => rfl
  · exact key cl_at5_fine rfl (by rfl) (by rfl) rfl rfl rfl fun _ => rfl
  · exact key cl_at6_fine rfl (by rfl) (by rfl) rfl rfl rfl fun _ => rfl
  · exact key cl_at7_fine rfl (by rfl) (by rfl) rfl rfl rfl fun _ => rfl
  · exact key cl_at8_fine rfl (by rfl) (by rfl) rfl rfl rfl fun _ => rfl
  · exact key cl_at9_fine rfl (by rfl) (by rfl) rfl rfl rfl fun _ => rfl
  · exact key cl_at10_fine rfl (by rfl) (by rfl) rfl rfl rfl fun _ => rfl
theorem attrPair.mem {sc : Int} {n : ByteArray} (h : attrPair sc n) : isScope sc ∧ n ∈ asN sc := by
  have d : ∀ (n : ByteArray) (l : List ByteArray), l.any (fun x => bytesEq x.data.toList n.data.toList) = true → n ∈ l := fun n l h => by
    obtain ⟨x, hx, h1⟩ := List.any_eq_true.1 h
    rw [← bytes_of h1]
    exact hx
  rcases h with ⟨rfl, rfl | rfl | rfl | rfl | rfl | rfl⟩ | ⟨rfl, rfl⟩ | ⟨rfl, rfl | rfl | rfl | rfl⟩
  · exact ⟨.inl rfl, d _ _ (by rfl)⟩
  · exact ⟨.inl rfl, d _ _ (by rfl)⟩
  · exact ⟨.inl rfl, d _ _ (by rfl)⟩
  · exact ⟨.inl rfl, d _ _ (by rfl)⟩
  · exact ⟨.inl rfl, d _ _ (by rfl)⟩
  · exact ⟨.inl rfl, d _ _ (by rfl)⟩
  · exact ⟨.inr (.inl rfl), d _ _ (by rfl)⟩
  · exact ⟨.inr (.inr rfl), d _ _ (by rfl)⟩
  · exact ⟨.inr (.inr rfl), d _ _ (by rfl)⟩
  · exact ⟨.inr (.inr rfl), d _ _ (by rfl)⟩
  · exact ⟨.inr (.inr rfl), d _ _ (by rfl)⟩
/-- An expression whose operators and attributes occur. -/
def wfT (sc : Int) : Nat → Tm → Prop
  | 0, _ => False
  | d + 1, x => (x.op = 6 ∧ attrPair sc x.name) ∨ (x.op ≠ 6 ∧ opOk x.op x.args.length ∧ inR x.num ∧ ∀ y ∈ x.args, wfT sc d y)
end
end Go.Proofs.YthldmlfpebgojaaGreatDoor
/-
  Contracts: the value of an expression in memory.
  Condition: the expression has a form that occurs in the six contracts.
-/
namespace Go.Proofs.YthldmlfpebgojaaGreatDoor
set_option linter.unusedSimpArgs false
set_option linter.unusedVariables false
set_option maxRecDepth 100000
set_option maxHeartbeats 0
open Go.RowKit Go

theorem atts_find {sc : Int} {xs : List Att} (ha : AttsOk sc xs) {n : ByteArray} (hn : n ∈ asN sc) {z : Int} (hz : isIdx (Att.name) xs n z) : ∃ (i : Nat) (h : i < xs.length), z = (i : Int) := by
  rcases hz with ⟨i, hi, rfl, _⟩ | ⟨rfl, hno⟩
  · exact ⟨i, hi, rfl⟩
  · exfalso
    rw [← ha.names, List.mem_map] at hn
    obtain ⟨x, hx, rfl⟩ := hn
    exact hno x hx rfl
theorem atts_len {sc : Int} {xs : List Att} (ha : AttsOk sc xs) (hs : isScope sc) : xs.length ≤ 25 := by
  have := congrArg List.length ha.names
  rw [List.length_map] at this
  have := asN_len hs
  omega
theorem value_ev {sc : Int} {q : Slc} {xs : List Att} (ha : AttsOk sc xs) (hs : isScope sc) : ∀ (d : Nat) {B : St} {x : Tm} {cs : List Value} (r1 r2 : Slc), SqS .att B q xs → (Dt.tm d).rep B cs x → wfT sc d x → EvP Tryz.prog 183 [r1.v, r2.v, .int .i64 sc, q.v, .agg cs.toArray] B fun v _ => isI v
  | 0, B, x, cs, r1, r2, hq, hx, hw => hx.elim
  | d + 1, B, x, cs, r1, r2, hq, hx, hw => by
    obtain ⟨s, rfl, hsq⟩ := tm_open hx
    have hn := hsq.len
    rcases hw with ⟨hop, hat⟩ | ⟨hop, hok, hnum, hargs⟩
    · obtain ⟨_, hmem⟩ := hat.mem
      refine EvP.go Tryz.func183 rfl Tryz.ntmps183 Tryz.results183 rfl [none] rfl ?_
      (repeat' (first | refine J.seq ?_ | refine J.block ?_ | refine J.roA rfl ?_ | refine X.ro rfl rfl ?_ | refine X.nil0 ?_ | refine J.skip ?_ | refine X.l1 1 rfl rfl rfl rfl rfl rfl rfl rfl rfl ?_ | refine X.bx rfl rfl rfl rfl rfl rfl rfl rfl fun b => ?_ | refine J.cond_d rfl (fun h => ?_) (fun h => ?_)))
      · refine X.callq rfl rfl (gV_ok rfl) rfl rfl rfl rfl (en rfl) (attributeType_ev hat) ?_
        rintro v ⟨k, rfl⟩
        (repeat' (first | refine J.seq ?_ | refine J.roA rfl ?_ | refine X.ro rfl rfl ?_ | refine X.nil0 ?_ | refine J.cond_t rfl ?_ | refine X.l1 1 rfl rfl rfl rfl rfl rfl rfl rfl rfl ?_))
        refine X.callq rfl rfl (gV_ok rfl) rfl rfl rfl rfl (en rfl) (find_ev x.name hq (by have := atts_len ha hs; omega)) ?_
        rintro v ⟨z, rfl, hz⟩
        obtain ⟨i, hi, rfl⟩ := atts_find ha hmem hz
        skip
        (refine X.ix hq (i := i) (by omega) rfl rfl rfl rfl rfl rfl rfl rfl (by first | rfl | omega) fun b1 f1 cs1 hr1 hx1 => ?_; obtain rfl := hx1; (repeat' (first | refine X.ro rfl rfl ?_)); refine X.ls 1 hr1 rfl (by first | exact .md | exact .mo | exact .mf) (Ge.refl _) rfl rfl rfl rfl rfl rfl rfl ?_; skip)
        refine X.callq rfl rfl (gV_ok rfl) rfl rfl rfl rfl (en rfl) (attr_ev k _ (ha.rng _ (List.getElem_mem hi))) ?_
        rintro v ⟨w, rfl, hw⟩
        (repeat' (first | refine X.ro rfl rfl ?_ | refine X.nil0 ?_ | refine J.ret ?_))
        exact ⟨_, .cons (.tmp rfl) .nil, rfl, fun _ _ _ => ⟨_, rfl, hw⟩⟩
      · exact absurd hop (by assumption)
    · refine EvP.go Tryz.func183 rfl Tryz.ntmps183 Tryz.results183 rfl [none] rfl ?_
      (repeat' (first | refine J.seq ?_ | refine J.block ?_ | refine J.roA rfl ?_ | refine X.ro rfl rfl ?_ | refine X.nil0 ?_ | refine J.skip ?_ | refine X.l1 1 rfl rfl rfl rfl rfl rfl rfl rfl rfl ?_ | refine X.bx rfl rfl rfl rfl rfl rfl rfl rfl fun b => ?_ | refine J.cond_d rfl (fun h => ?_) (fun h => ?_)))
      · exact absurd (by assumption) hop
      have hal : x.args.length ≤ 3 := by
        rcases hok with ⟨h, _⟩ | ⟨h, _⟩ | ⟨h, _⟩ <;> omega
      refine J.loop (σ := List Int × Option Nat) (fun p => [(0, r1.v), (1, r2.v), (2, .int .i64 sc), (3, q.v), (9, .pointer (some ⟨b, 0, none⟩)), (13, .slice (oa p.2) p.1.length p.1.length), (14, .int .i64 (p.1.length : Int))])
        (fun p => [accE 3 1 p.2 (p.1.map (.int .i64 ·)), some (b, ⟨[.int .i64 x.op, .int .i64 x.num, .string x.name, s.v], 280, 1⟩)]) (fun B1 p => B1 = B ∧ p.1.length ≤ x.args.length ∧ accOk p.2 p.1.length ∧ ∀ z ∈ p.1, inR z) (fun p => x.args.length - p.1.length) ([], none) ⟨rfl, Nat.zero_le _, rfl, fun z h => by cases h⟩ ⟨rfl, rfl, rfl, rfl, rfl, rfl, rfl, trivial⟩ (fun _ _ _ h => h) ?_
      rintro ⟨ws, ob⟩ B1 hB ⟨rfl, hl, hob, hr⟩
      dsimp only at hl hob hr ⊢
      (repeat' (first | refine J.seq ?_ | refine J.block ?_ | refine J.roA rfl ?_ | refine X.ro rfl rfl ?_ | refine X.nil0 ?_ | refine J.skip ?_ | refine J.exit ?_ | refine X.l1 1 rfl rfl rfl rfl rfl rfl rfl rfl rfl ?_ | refine J.cond_d rfl (fun h => ?_) (fun h => ?_)))
      · have hi : ws.length < x.args.length := by omega
        refine X.ix hsq (i := ws.length) hi rfl rfl rfl rfl rfl rfl rfl rfl rfl fun b1 f1 cs1 hr1 hx1 => ?_
        have hl1 := (Dt.tm d).len hx1
        refine X.lg 0 hr1 (ds := cs1) (by rw [List.drop_zero]; exact List.take_of_length_le (Nat.le_of_eq hl1)) rfl (by first | exact .md | exact .mo | exact .mf) (Ge.refl _) rfl rfl rfl rfl rfl rfl rfl ((Dt.tm d).fl hx1) ?_
        refine X.callq rfl rfl (gV_ok rfl) rfl rfl rfl rfl (en rfl) (value_ev ha hs d r1 r2 hq hx1 (hargs _ (List.getElem_mem hi))) ?_
        rintro v ⟨w, rfl, hw⟩
        (repeat' (first | refine X.bs1 rfl rfl rfl rfl rfl rfl rfl rfl rfl rfl rfl rfl rfl (fun b => ?_)))
        refine X.aps (add := [.int .i64 w]) 0 2 rfl rfl rfl rfl rfl rfl rfl rfl rfl rfl rfl rfl (by rw [List.length_map, Nat.mul_one]) hob rfl (by rfl) rfl rfl (by show (_ + 1) * 8 ≤ _; omega) (by omega) fun oe hoe => ?_
        (repeat' (first | refine J.roA rfl ?_ | refine X.ro rfl rfl ?_ | refine X.nil0 ?_ | refine X.ad rfl rfl rfl rfl rfl rfl (by omega) ?_))
        exact ⟨(ws ++ [w], oe), ⟨rfl, rfl, rfl, rfl, rfl, by dsimp only; rw [List.length_append]; rfl, by dsimp only; rw [List.length_append]; rfl, trivial⟩, by dsimp only; rw [List.map_append]; exact Less.app _ [_], ⟨rfl, by dsimp only; rw [List.length_append]; simp; omega, by dsimp only; rw [List.length_append]; exact hoe, fun z hz => by
          rcases List.mem_append.1 hz with h | h
          · exact hr z h
          · rw [List.mem_singleton] at h; subst h; exact hw⟩, by dsimp only; rw [List.length_append]; simp; omega⟩
      · have hwl : ws.length = x.args.length := by omega
        refine X.giveA (p := 0) rfl fun B2 hB2 hA => ?_
        have hv := acc_sqs (D := Dt.int .i64) (n := ws.length) rfl hob (Rows.ints (B := B2) ws) fun b Y h => hA b Y h
        refine X.callq rfl rfl (gV_ok rfl) rfl rfl rfl rfl (en rfl) (apply_ev (s := ⟨oa ob, ws.length, ws.length⟩) hv hr hnum (by rw [hwl]; exact hok)) ?_
        rintro v ⟨w, rfl, hw⟩
        (repeat' (first | refine X.ro rfl rfl ?_ | refine X.nil0 ?_ | refine J.ret ?_))
        exact ⟨_, .cons (.tmp rfl) .nil, rfl, fun _ _ _ => ⟨_, rfl, hw⟩⟩
end Go.Proofs.YthldmlfpebgojaaGreatDoor
/-
  Contracts: the attributes of a duty.
  Condition: the timetable is one of the laws' data; the duty is structurally valid.
-/
namespace Go.Proofs.YthldmlfpebgojaaGreatDoor
set_option linter.unusedSimpArgs false
set_option linter.unusedVariables false
set_option maxRecDepth 100000
set_option maxHeartbeats 0
open Go.RowKit Go

structure DA where
  i : Nat
  ty : List ByteArray
  ob : Option Nat
  lg : Int
  hd : Int
  bl : Int
  lo : Int
  sh : Int
section
variable {B : St} {t : TT} {c : CT} {fs : List Flt} {d : Slc} {ds : Duty}
theorem dutyAttrs_ev (hT : TTAt B t fs) (hC : c.Fit) (hd : SqS .task B d ds) (hD : DOk fs ds) : EvP Tryz.prog 181 [t.v, c.v, d.v] B fun v B1 => ∃ (q : Slc) (xs : List Att), v = q.v ∧ SqS .att B1 q xs ∧ AttsOk 1 xs := by
  have hn := hd.len
  have hF := hT.ok
  have hf := hT.fls
  have hle := hD.le
  refine EvP.go Tryz.func181 rfl Tryz.ntmps181 Tryz.results181 rfl [none] rfl ?_
  (repeat' (first | refine J.seq ?_ | refine J.block ?_ | refine J.roA rfl ?_ | refine X.ro rfl rfl ?_ | refine X.nil0 ?_ | refine X.bx rfl rfl rfl rfl rfl rfl rfl rfl fun b => ?_))
  rename_i b1
  revert b1 b
  intro tb cb
  refine J.loop (σ := DA) (fun s => [(2, d.v), (3, .pointer (some ⟨tb, 0, none⟩)), (4, .pointer (some ⟨cb, 0, none⟩)), (7, .int .i64 s.lg), (8, .int .i64 s.hd), (9, .int .i64 s.bl), (10, .int .i64 s.lo), (11, .int .i64 s.sh), (12, .slice (oa s.ob) s.ty.length s.ty.length), (13, .int .i64 (s.i : Int))])
    (fun s => [accE 9 1 s.ob (s.ty.map .string), some (tb, ⟨[t.zs.v, t.aps.v, t.fls.v], 27, 1⟩), some (cb, ⟨[.int .i64 c.rep, .int .i64 c.rel, .int .i64 c.con, .int .i64 c.sit, .int .i64 c.lay, .int .i64 c.nf, .int .i64 c.nt, c.consts.v, c.rules.v, c.costs.v, c.credit.v, c.limits.v, c.offs.v, .int .i64 c.guar], 35, 1⟩)])
    (fun B1 s => B1 = B ∧ s.i ≤ ds.length ∧ accOk s.ob s.ty.length ∧ s.ty.length ≤ s.i ∧ inR s.lg ∧ inR s.hd ∧ inR s.bl ∧ inR s.lo ∧ inR s.sh) (fun s => ds.length - s.i) ⟨0, [], none, 0, 0, 0, 0, 1440⟩ ⟨rfl, Nat.zero_le _, rfl, Nat.zero_le _, inR.of (by decide), inR.of (by decide), inR.of (by decide), inR.of (by decide), inR.of (by decide)⟩ ⟨rfl, rfl, rfl, rfl, rfl, rfl, rfl, rfl, rfl, rfl, trivial⟩ (fun _ _ _ h => h) ?_
  rintro ⟨i, ty, ob, lg, hd', bl, lo, sh⟩ B1 hB ⟨rfl, hi, hob, hty, r1, r2, r3, r4, r5⟩
  dsimp only at hi hob hty r1 r2 r3 r4 r5 ⊢
  (repeat' (first | refine J.seq ?_ | refine J.block ?_ | refine J.roA rfl ?_ | refine J.rdA (by kernel_rfl) rfl ?_ | refine X.ro rfl rfl ?_ | refine X.rd rfl rfl ?_ | refine X.nil0 ?_ | refine J.skip ?_ | refine J.exit ?_ | refine X.l1 1 rfl rfl rfl rfl rfl rfl rfl rfl rfl ?_ | refine X.la 1 rfl rfl rfl rfl rfl rfl rfl rfl rfl rfl ?_ | refine X.la 2 rfl rfl rfl rfl rfl rfl rfl rfl rfl rfl ?_ | refine J.cond_d rfl (fun h => ?_) (fun h => ?_)))
  · have hi3 : i < ds.length := by omega
    obtain ⟨j, hj, hjl⟩ := hD.rng i hi3
    (refine X.ix hd (i := i) (by omega) rfl rfl rfl rfl rfl rfl rfl rfl (by first | rfl | omega) fun b1 f1 cs1 hr1 hx1 => ?_; obtain rfl := hx1; (repeat' (first | refine X.rd rfl rfl ?_)); refine X.ls 0 hr1 rfl (by first | exact .md | exact .mo | exact .mf) (Ge.refl _) rfl rfl rfl rfl rfl rfl rfl ?_; skip)
    refine X.ix hf hjl rfl rfl rfl rfl rfl rfl rfl rfl hj fun b2 f2 cs2 hr2 hx2 => ?_
    obtain rfl := hx2
    refine X.lg 0 hr2 rfl rfl (by first | exact .md | exact .mo | exact .mf) (Ge.refl _) rfl rfl rfl rfl rfl rfl rfl rfl ?_
    (repeat' (first | refine J.seq ?_ | refine J.roA rfl ?_ | refine J.rdA (by kernel_rfl) rfl ?_ | refine X.ro rfl rfl ?_ | refine X.rd rfl rfl ?_ | refine X.nil0 ?_ | refine X.nil1 ⟨by kernel_rfl, ?_⟩ | refine J.skip ?_ | refine X.l1 1 rfl rfl rfl rfl rfl rfl rfl rfl rfl ?_ | refine X.l1 3 rfl rfl rfl rfl rfl rfl rfl rfl rfl ?_ | refine X.al rfl rfl rfl rfl rfl rfl rfl fun b => ?_ | refine X.st 3 rfl rfl rfl rfl rfl rfl rfl rfl rfl ?_ | refine X.sb rfl rfl rfl rfl rfl rfl (by omega) ?_ | refine J.cond_d rfl (fun h => ?_) (fun h => ?_)))
    case' refine_1 =>
      obtain ⟨j0, hj0, hjl0⟩ := hD.rng (i - 1) (by omega)
      (refine X.ix hd (i := (i - 1)) (by omega) rfl rfl rfl rfl rfl rfl rfl rfl (by first | rfl | omega) fun b1 f1 cs1 hr1 hx1 => ?_; obtain rfl := hx1; (repeat' (first | refine X.rd rfl rfl ?_)); refine X.ls 0 hr1 rfl (by first | exact .md | exact .mo | exact .mf) (Ge.refl _) rfl rfl rfl rfl rfl rfl rfl ?_; skip)
      refine X.ix hf hjl0 rfl rfl rfl rfl rfl rfl rfl rfl hj0 fun b3 f3 cs3 hr3 hx3 => ?_
      obtain rfl := hx3
      (repeat' (first | refine X.rd rfl rfl ?_))
      refine X.ls 4 hr3 rfl (by first | exact .md | exact .mo | exact .mf) (Ge.refl _) rfl rfl rfl rfl rfl rfl rfl ?_
      have q1 := hF.rng j hjl
      have q2 := hF.rng j0 hjl0
      (repeat' (first | refine J.seq ?_ | refine J.roA rfl ?_ | refine X.ro rfl rfl ?_ | refine X.rd rfl rfl ?_ | refine X.nil0 ?_ | refine X.nil1 ⟨by kernel_rfl, ?_⟩ | refine X.sb rfl rfl rfl rfl rfl rfl (by omega) ?_ | refine X.mx rfl rfl rfl rfl rfl rfl ?_ | refine X.mi rfl rfl rfl rfl rfl rfl ?_))
      have r4' : inR (if lo < fs[j].dep - fs[j0].arr then fs[j].dep - fs[j0].arr else lo) := inR.ite (inR.of (by omega)) r4
      have r5' : inR (if fs[j].dep - fs[j0].arr < sh then fs[j].dep - fs[j0].arr else sh) := inR.ite (inR.of (by omega)) r5
      generalize (if lo < fs[j].dep - fs[j0].arr then fs[j].dep - fs[j0].arr else lo) = lo2 at r4' ⊢
      generalize (if fs[j].dep - fs[j0].arr < sh then fs[j].dep - fs[j0].arr else sh) = sh2 at r5' ⊢
    case' refine_2 =>
      have r4' := r4
      have r5' := r5
      generalize lo = lo2 at r4' ⊢
      generalize sh = sh2 at r5' ⊢
    all_goals
      (refine X.ix hd (i := i) (by omega) rfl rfl rfl rfl rfl rfl rfl rfl (by first | rfl | omega) fun b1 f1 cs1 hr1 hx1 => ?_; obtain rfl := hx1; (repeat' (first | refine X.ro rfl rfl ?_)); refine X.ls 1 hr1 rfl (by first | exact .md | exact .mo | exact .mf) (Ge.refl _) rfl rfl rfl rfl rfl rfl rfl ?_; (repeat' (first | refine J.seq ?_ | refine J.roA rfl ?_ | refine J.rdA (by kernel_rfl) rfl ?_ | refine X.ro rfl rfl ?_ | refine X.rd rfl rfl ?_ | refine X.nil0 ?_ | refine J.skip ?_ | refine J.cond rfl (fun h => ?_) (fun h => ?_))))
      (repeat' (first | refine J.seq ?_ | refine J.block ?_ | refine J.roA rfl ?_ | refine X.ro rfl rfl ?_ | refine X.rd rfl rfl ?_ | refine X.nil0 ?_ | refine X.nil1 ⟨by kernel_rfl, ?_⟩ | refine J.exit ?_ | refine X.l1 3 rfl rfl rfl rfl rfl rfl rfl rfl rfl ?_ | refine X.ad rfl rfl rfl rfl rfl rfl (by omega) ?_ | refine X.adw rfl rfl rfl rfl rfl rfl ?_ | refine X.sbw rfl rfl rfl rfl rfl rfl ?_))
    iterate 2
      · exact ⟨⟨i + 1, ty, ob, lg, _, bl, lo2, sh2⟩, ⟨rfl, rfl, rfl, rfl, rfl, rfl, rfl, rfl, rfl, rfl, trivial⟩, Less.app _ [_], ⟨rfl, by dsimp only; omega, hob, by dsimp only; omega, r1, inR.wrap _, r3, r4', r5'⟩, by dsimp only; omega⟩
      · have r1' := inR.wrap (lg + 1)
        have r3' := inR.wrap (IntKind.i64.wrap (bl + fs[j].arr) - fs[j].dep)
        generalize IntKind.i64.wrap (lg + 1) = lg2 at r1' ⊢
        generalize IntKind.i64.wrap (IntKind.i64.wrap (bl + fs[j].arr) - fs[j].dep) = bl2 at r3' ⊢
        refine J.loop (σ := Nat × Bool) (fun s => [(2, d.v), (3, .pointer (some ⟨tb, 0, none⟩)), (4, .pointer (some ⟨cb, 0, none⟩)), (7, .int .i64 lg2), (8, .int .i64 hd'), (9, .int .i64 bl2), (10, .int .i64 lo2), (11, .int .i64 sh2), (12, .slice (oa ob) ty.length ty.length), (13, .int .i64 (i : Int)), (14, .pointer (some ⟨b, 0, none⟩)), (16, .bool s.2), (17, .int .i64 (s.1 : Int))])
          (fun s => [accE 9 1 ob (ty.map .string), some (tb, ⟨[t.zs.v, t.aps.v, t.fls.v], 27, 1⟩), some (cb, ⟨[.int .i64 c.rep, .int .i64 c.rel, .int .i64 c.con, .int .i64 c.sit, .int .i64 c.lay, .int .i64 c.nf, .int .i64 c.nt, c.consts.v, c.rules.v, c.costs.v, c.credit.v, c.limits.v, c.offs.v, .int .i64 c.guar], 35, 1⟩), some (b, ⟨[.string fs[j].num, .string fs[j].frm, .string fs[j].to, .int .i64 fs[j].dep, .int .i64 fs[j].arr, .string fs[j].typ, .int .i64 fs[j].n0, .int .i64 fs[j].n1, .int .i64 fs[j].n2], 103, 1⟩)])
          (fun B2 s => B2 = B1 ∧ s.1 ≤ ty.length) (fun s => ty.length - s.1) (0, false) ⟨rfl, Nat.zero_le _⟩ ⟨rfl, rfl, rfl, rfl, rfl, rfl, rfl, rfl, rfl, rfl, rfl, rfl, rfl, trivial⟩ (fun _ _ _ h => h) ?_
        rintro ⟨k, seen⟩ B2 hB2 ⟨rfl, hk⟩
        dsimp only at hk ⊢
        (repeat' (first | refine J.seq ?_ | refine J.block ?_ | refine J.roA rfl ?_ | refine J.rdA (by kernel_rfl) rfl ?_ | refine X.ro rfl rfl ?_ | refine X.rd rfl rfl ?_ | refine X.nil0 ?_ | refine X.nil1 ⟨by kernel_rfl, ?_⟩ | refine J.skip ?_ | refine J.exit ?_ | refine X.l1 3 rfl rfl rfl rfl rfl rfl rfl rfl rfl ?_ | refine X.ad rfl rfl rfl rfl rfl rfl (by omega) ?_ | refine X.bs1 rfl rfl rfl rfl rfl rfl rfl rfl rfl rfl rfl rfl rfl (fun b => ?_) | ((fail_if_success refine X.kn rfl ?_); refine X.g_b rfl rfl rfl (fun h => ?_) (fun h => ?_)) | refine J.cond_d rfl (fun h => ?_) (fun h => ?_) | refine J.cond rfl (fun h => ?_) (fun h => ?_)))
        · exact ⟨(k + 1, _), ⟨rfl, rfl, rfl, rfl, rfl, rfl, rfl, rfl, rfl, rfl, rfl, rfl, rfl, trivial⟩, (fun _ _ _ h => h), ⟨rfl, by dsimp only; omega⟩, by dsimp only; omega⟩
        · have hk3 : k < ty.length := by omega
          refine X.ixo (i := k) hob hk3 rfl rfl rfl rfl rfl rfl rfl rfl fun b5 hb5 => ?_
          subst hb5
          refine X.l1 0 rfl rfl rfl rfl rfl rfl rfl (rdK_cell (v := .string ty[k]) (by decide) (by simp [hk3])) rfl ?_
          (repeat' (first | refine J.roA rfl ?_ | refine X.ro rfl rfl ?_ | refine X.rd rfl rfl ?_ | refine X.nil0 ?_ | refine X.nil1 ⟨by kernel_rfl, ?_⟩ | refine X.l1 3 rfl rfl rfl rfl rfl rfl rfl rfl rfl ?_ | refine X.ad rfl rfl rfl rfl rfl rfl (by omega) ?_))
          exact ⟨(k + 1, _), ⟨rfl, rfl, rfl, rfl, rfl, rfl, rfl, rfl, rfl, rfl, rfl, rfl, rfl, trivial⟩, (fun _ _ _ h => h), ⟨rfl, by dsimp only; omega⟩, by dsimp only; omega⟩
        · refine X.aps (add := [.string fs[j].typ]) 0 4 rfl rfl rfl rfl rfl rfl rfl rfl rfl rfl rfl rfl (by rw [List.length_map, Nat.mul_one]) hob rfl (by rfl) rfl rfl (by show (_ + 1) * 16 ≤ _; omega) (by omega) fun oe hoe => ?_
          (repeat' (first | refine J.roA rfl ?_ | refine X.ro rfl rfl ?_ | refine X.nil0 ?_ | refine X.ad rfl rfl rfl rfl rfl rfl (by omega) ?_))
          exact ⟨⟨i + 1, ty ++ [fs[j].typ], oe, lg2, hd', bl2, lo2, sh2⟩, ⟨rfl, rfl, rfl, rfl, rfl, rfl, rfl, rfl, by dsimp only; rw [List.length_append]; rfl, rfl, trivial⟩, by dsimp only; rw [List.map_append]; exact Less.app _ [_, _], ⟨rfl, by dsimp only; omega, by dsimp only; rw [List.length_append]; exact hoe, by dsimp only; rw [List.length_append]; simp; omega, r1', r2, r3', r4', r5'⟩, by dsimp only; omega⟩
        · exact ⟨⟨i + 1, ty, ob, lg2, hd', bl2, lo2, sh2⟩, ⟨rfl, rfl, rfl, rfl, rfl, rfl, rfl, rfl, rfl, rfl, trivial⟩, Less.app _ [_], ⟨rfl, by dsimp only; omega, hob, by dsimp only; omega, r1', r2, r3', r4', r5'⟩, by dsimp only; omega⟩
  · have hpos := hD.pos
    obtain ⟨j0, g1, g2⟩ := hD.rng 0 hpos
    obtain ⟨j1, g3, g4⟩ := hD.rng (ds.length - 1) (by omega)
    have q1 := hF.rng j0 g2
    have q2 := hF.rng j1 g4
    have q3 := hC.rep
    have q4 := hC.rel
    refine X.callq rfl rfl (gV_ok rfl) rfl rfl rfl rfl (en rfl) (first_ev hf hd hpos g1 g2) ?_
    rintro v rfl
    (repeat' (first | refine X.rd rfl rfl ?_ | refine X.la 1 rfl rfl rfl rfl rfl rfl rfl rfl rfl rfl ?_ | refine X.fe rfl rfl rfl rfl rfl rfl rfl rfl ?_))
    refine X.callq rfl rfl (gV_ok rfl) rfl rfl rfl rfl (en rfl) (last_ev hf hd hpos (by omega) g3 g4) ?_
    rintro v rfl
    (repeat' (first | refine X.rd rfl rfl ?_ | refine X.la 1 rfl rfl rfl rfl rfl rfl rfl rfl rfl rfl ?_ | refine X.la 2 rfl rfl rfl rfl rfl rfl rfl rfl rfl rfl ?_ | refine X.fe rfl rfl rfl rfl rfl rfl rfl rfl ?_))
    refine X.callq rfl rfl (gV_ok rfl) rfl rfl rfl rfl (en rfl) (span_ev hF hC hf hd hpos (by omega) g1 g2 g3 g4) ?_
    rintro v rfl
    skip
    refine X.callq rfl rfl (gV_ok rfl) rfl rfl rfl rfl (en rfl) (ends_ev hT c (hT.codes _ (List.getElem_mem g2)).1 (hT.codes _ (List.getElem_mem g4)).2 _ _) ?_
    rintro v ⟨a1, a2, a3, a4, a5, rfl, p1, p2, p3, p4, p5⟩
    (repeat' (first | refine J.seq ?_ | refine J.roA rfl ?_ | refine X.ro rfl rfl ?_ | refine X.rd rfl rfl ?_ | refine X.nil1 ⟨by kernel_rfl, ?_⟩ | refine X.bs1 rfl rfl rfl rfl rfl rfl rfl rfl rfl rfl rfl rfl rfl (fun b => ?_)))
    refine X.giveO (p := 3) (b := b) rfl fun B2 hB2 hg => ?_
    have hr : ∀ x ∈ [lg, hd', (ty.length : Int), bl, a1, a2, lo, sh, a3, a4, a5], inR x := by
      have r0 : inR (ty.length : Int) := inR.of (by omega)
      intro x hx
      simp only [List.mem_cons, List.not_mem_nil, or_false] at hx
      rcases hx with rfl | rfl | rfl | rfl | rfl | rfl | rfl | rfl | rfl | rfl | rfl <;> assumption
    refine X.call rfl rfl (gV_ok rfl) rfl rfl rfl rfl (en rfl) (attrs_ev (.inl rfl) (r := ⟨some ⟨b, 0, none⟩, 11, 11⟩) (vs := [lg, hd', (ty.length : Int), bl, a1, a2, lo, sh, a3, a4, a5]) (Sq.of_row (t := Dt.int .i64) hg (Rows.ints [lg, hd', (ty.length : Int), bl, a1, a2, lo, sh, a3, a4, a5])) (Nat.le_refl 11) hr) ?_
    rintro v B3 hB3 ⟨q, xs, rfl, hq, hx⟩
    (repeat' (first | refine X.ro rfl rfl ?_ | refine X.nil0 ?_ | refine J.ret ?_))
    exact ⟨_, .cons (.tmp rfl) .nil, rfl, fun B' hB' _ => ⟨q, xs, rfl, hq.ge hB', hx⟩⟩
end
end Go.Proofs.YthldmlfpebgojaaGreatDoor
/-
  Contracts: rules and costs of a contract.
  Condition: the contract has the form of the six.
-/
namespace Go.Proofs.YthldmlfpebgojaaGreatDoor
set_option linter.unusedSimpArgs false
set_option linter.unusedVariables false
set_option maxRecDepth 100000
set_option maxHeartbeats 0
open Go.RowKit Go

/-- A contract of the laws' data. -/
structure CTAt (B : St) (c : CT) : Prop where
  fit : c.Fit
  consts : c.consts = ⟨none, 0, 0⟩
  rules : ∃ rs, SqS (Dt.rule 6) B c.rules rs ∧ rs.length ≤ 40 ∧ ∀ r ∈ rs, wfT r.scope 6 r.expr
  costs : ∃ xs, SqS (Dt.cost 6) B c.costs xs ∧ xs.length ≤ 40 ∧ ∀ x ∈ xs, wfT x.scope 6 x.expr
  credit : ∃ xs, SqS (Dt.tm 6) B c.credit xs ∧ xs.length ≤ 40 ∧ ∀ x ∈ xs, wfT 1 6 x
  chk : ∀ B', Ge B B' → EvP Tryz.prog 190 [c.v] B' fun v _ => v = .int .i64 0
theorem CTAt.ge {B B' : St} {c : CT} (h : CTAt B c) (hB : Ge B B') : CTAt B' c := by
  obtain ⟨rs, h1, h2⟩ := h.rules
  obtain ⟨xs, h3, h4⟩ := h.costs
  obtain ⟨ys, h5, h6⟩ := h.credit
  exact ⟨h.fit, h.consts, ⟨rs, h1.ge hB, h2⟩, ⟨xs, h3.ge hB, h4⟩, ⟨ys, h5.ge hB, h6⟩, fun B2 hB2 => h.chk B2 (hB.trans hB2)⟩
abbrev CT.cells (c : CT) : List Value := [.int .i64 c.rep, .int .i64 c.rel, .int .i64 c.con, .int .i64 c.sit, .int .i64 c.lay, .int .i64 c.nf, .int .i64 c.nt, c.consts.v, c.rules.v, c.costs.v, c.credit.v, c.limits.v, c.offs.v, .int .i64 c.guar]
structure Viol where
  scope : Int
  index : Int
  rule : ByteArray
abbrev Viol.cells (x : Viol) : List Value := [.int .i64 x.scope, .int .i64 x.index, .string x.rule]
def Dt.viol : Dt Viol := .flat 3 Viol.cells (by decide) (fun _ => rfl) fun _ => rfl
section
variable {B : St} {c : CT}
theorem consts_ev : EvP Tryz.prog 182 [.slice none 0 0] B fun v _ => v = .slice none 0 0 := by
  refine EvP.go Tryz.func182 rfl Tryz.ntmps182 Tryz.results182 rfl [] rfl ?_
  (repeat' (first | refine J.seq ?_ | refine J.block ?_ | refine J.roA rfl ?_ | refine X.ro rfl rfl ?_ | refine X.nil0 ?_))
  refine J.loop (σ := Unit) (fun _ => [(0, .slice none 0 0), (3, .slice none 0 0), (4, .int .i64 0)]) (fun _ => []) (fun B1 p => B1 = B) (fun _ => 0) () rfl ⟨rfl, rfl, rfl, trivial⟩ (Less.refl _) ?_
  rintro ⟨⟩ B1 hB rfl
  (repeat' (first | refine J.seq ?_ | refine J.roA rfl ?_ | refine X.ro rfl rfl ?_ | refine X.nil0 ?_ | refine J.exit ?_ | refine J.ret ?_ | refine J.cond_f rfl ?_))
  exact ⟨_, .cons (.tmp rfl) .nil, rfl, fun _ _ _ => rfl⟩
theorem credit_ev (hC : CTAt B c) {q : Slc} {xs : List Att} (hq : SqS .att B q xs) (ha : AttsOk 1 xs) : EvP Tryz.prog 240 [c.v, q.v] B fun v _ => isI v := by
  obtain ⟨ts, h1, h2, h3⟩ := hC.credit
  have hn := h1.len
  have hal := atts_len ha (.inl rfl)
  refine EvP.go Tryz.func240 rfl Tryz.ntmps240 Tryz.results240 rfl [] rfl ?_
  (repeat' (first | refine J.seq ?_ | refine J.roA rfl ?_ | refine J.rdA (by kernel_rfl) rfl ?_ | refine X.ro rfl rfl ?_ | refine X.rd rfl rfl ?_ | refine X.nil0 ?_ | refine J.skip ?_ | refine X.l1 0 rfl rfl rfl rfl rfl rfl rfl rfl rfl ?_ | refine X.bx rfl rfl rfl rfl rfl rfl rfl rfl fun b => ?_ | refine J.cond_d rfl (fun h => ?_) (fun h => ?_)))
  · refine X.callq rfl rfl (gV_ok rfl) rfl rfl rfl rfl (en rfl) (find_ev _ hq (by omega)) ?_
    rintro v ⟨z, rfl, hz⟩
    have hb : attrPair 1 ⟨#[98, 108, 111, 99, 107]⟩ := .inl ⟨rfl, .inr (.inr (.inl rfl))⟩
    obtain ⟨i, hi, rfl⟩ := atts_find ha hb.mem.2 hz
    skip
    (refine X.ix hq (i := i) (by omega) rfl rfl rfl rfl rfl rfl rfl rfl (by first | rfl | omega) fun b1 f1 cs1 hr1 hx1 => ?_; obtain rfl := hx1; (repeat' (first | refine X.ro rfl rfl ?_)); refine X.ls 1 hr1 rfl (by first | exact .md | exact .mo | exact .mf) (Ge.refl _) rfl rfl rfl rfl rfl rfl rfl ?_; (repeat' (first | refine X.ro rfl rfl ?_ | refine X.nil0 ?_ | refine J.ret ?_)))
    exact ⟨_, .cons (.tmp rfl) .nil, rfl, fun _ _ _ => ⟨_, rfl, ha.rng _ (List.getElem_mem hi)⟩⟩
  · rw [hC.consts]
    refine X.callq rfl rfl (gV_ok rfl) rfl rfl rfl rfl (en rfl) (consts_ev) ?_
    rintro v rfl
    (repeat' (first | refine X.rd rfl rfl ?_ | refine X.l1 0 rfl rfl rfl rfl rfl rfl rfl rfl rfl ?_))
    refine X.ix h1 (i := 0) (by omega) rfl rfl rfl rfl rfl rfl rfl rfl rfl fun b1 f1 cs1 hr1 hx1 => ?_
    have hl1 := (Dt.tm 6).len hx1
    skip
    refine X.lg 0 hr1 (ds := cs1) (by rw [List.drop_zero]; exact List.take_of_length_le (Nat.le_of_eq hl1)) rfl (by first | exact .md | exact .mo | exact .mf) (Ge.refl _) rfl rfl rfl rfl rfl rfl rfl ((Dt.tm 6).fl hx1) ?_
    skip
    refine X.callq rfl rfl (gV_ok rfl) rfl rfl rfl rfl (en rfl) (value_ev ha (.inl rfl) 6 ⟨none, 0, 0⟩ ⟨none, 0, 0⟩ hq hx1 (h3 _ (List.getElem_mem (by omega)))) ?_
    rintro v ⟨w, rfl, hw⟩
    (repeat' (first | refine X.rd rfl rfl ?_ | refine X.nil1 ⟨by kernel_rfl, ?_⟩ | refine J.ret ?_))
    exact ⟨_, .cons (.tmp rfl) .nil, rfl, fun _ _ _ => ⟨_, rfl, hw⟩⟩
theorem cost_ev (hC : CTAt B c) {sc : Int} (hsc : isScope sc) {q : Slc} {xs : List Att} (hq : SqS .att B q xs) (ha : AttsOk sc xs) : EvP Tryz.prog 186 [c.v, .int .i64 sc, q.v] B fun v _ => isI v := by
  obtain ⟨ts, h1, h2, h3⟩ := hC.costs
  have hn := h1.len
  refine EvP.go Tryz.func186 rfl Tryz.ntmps186 Tryz.results186 rfl [] rfl ?_
  (repeat' (first | refine J.seq ?_ | refine J.roA rfl ?_ | refine X.ro rfl rfl ?_ | refine X.nil0 ?_ | refine X.l1 0 rfl rfl rfl rfl rfl rfl rfl rfl rfl ?_ | refine X.bx rfl rfl rfl rfl rfl rfl rfl rfl fun b => ?_))
  rw [hC.consts]
  refine X.callq rfl rfl (gV_ok rfl) rfl rfl rfl rfl (en rfl) (consts_ev) ?_
  rintro v rfl
  (repeat' (first | refine J.seq ?_ | refine J.block ?_ | refine J.roA rfl ?_ | refine X.ro rfl rfl ?_ | refine X.nil0 ?_))
  refine J.loop (σ := Nat × Int) (fun p => [(1, .int .i64 sc), (2, q.v), (3, .pointer (some ⟨b, 0, none⟩)), (7, .int .i64 p.2), (8, .slice none 0 0), (9, .int .i64 (p.1 : Int))]) (fun _ => [some (b, ⟨c.cells, 35, 1⟩)]) (fun B1 p => B1 = B ∧ p.1 ≤ ts.length ∧ inR p.2) (fun p => ts.length - p.1) (0, 0) ⟨rfl, Nat.zero_le _, inR.of (by decide)⟩ ⟨rfl, rfl, rfl, rfl, rfl, rfl, trivial⟩ ?_ ?_
  · rw [← hC.consts]
    exact fun _ _ _ h => h
  rintro ⟨i, m⟩ B1 hB ⟨rfl, hi, hm⟩
  dsimp only at hi hm ⊢
  (repeat' (first | refine J.seq ?_ | refine J.block ?_ | refine J.roA rfl ?_ | refine X.ro rfl rfl ?_ | refine X.nil0 ?_ | refine J.skip ?_ | refine J.exit ?_ | refine J.ret ?_ | refine X.l1 0 rfl rfl rfl rfl rfl rfl rfl rfl rfl ?_ | refine J.cond_d rfl (fun h => ?_) (fun h => ?_)))
  · have hi3 : i < ts.length := by omega
    refine X.ix h1 (i := i) hi3 rfl rfl rfl rfl rfl rfl rfl rfl rfl fun b1 f1 cs1 hr1 hx1 => ?_
    obtain ⟨es, rfl, hx2⟩ := hx1
    have hl2 := (Dt.tm 6).len hx2
    (repeat' (first | refine X.ro rfl rfl ?_))
    refine X.ls 0 hr1 rfl (by first | exact .md | exact .mo | exact .mf) (Ge.refl _) rfl rfl rfl rfl rfl rfl rfl ?_
    (repeat' (first | refine J.roA rfl ?_ | refine J.rdA (by kernel_rfl) rfl ?_ | refine X.ro rfl rfl ?_ | refine X.rd rfl rfl ?_ | refine X.nil0 ?_ | refine J.skip ?_ | refine X.l1 0 rfl rfl rfl rfl rfl rfl rfl rfl rfl ?_ | refine X.ad rfl rfl rfl rfl rfl rfl (by omega) ?_ | refine J.cond_d rfl (fun h => ?_) (fun h => ?_)))
    · refine X.ix h1 (i := i) hi3 rfl rfl rfl rfl rfl rfl rfl rfl rfl fun b2 f2 cs2 hr2 hx2 => ?_
      obtain ⟨es, rfl, hx2⟩ := hx2
      have hl2 := (Dt.tm 6).len hx2
      (repeat' (first | refine X.rd rfl rfl ?_))
      refine X.lg 1 hr2 (ds := es) (by exact List.take_of_length_le (Nat.le_of_eq hl2)) rfl (by first | exact .md | exact .mo | exact .mf) (Ge.refl _) rfl rfl rfl rfl rfl rfl rfl ((Dt.tm 6).fl hx2) ?_
      have hw := h3 _ (List.getElem_mem hi3)
      rw [h] at hw
      refine X.callq rfl rfl (gV_ok rfl) rfl rfl rfl rfl (en rfl) (value_ev ha hsc 6 ⟨none, 0, 0⟩ c.consts hq hx2 hw) ?_
      rintro v ⟨w, rfl, hw2⟩
      (repeat' (first | refine J.roA rfl ?_ | refine X.ro rfl rfl ?_ | refine X.rd rfl rfl ?_ | refine X.nil0 ?_ | refine X.nil1 ⟨by kernel_rfl, ?_⟩ | refine X.ad rfl rfl rfl rfl rfl rfl (by omega) ?_ | refine X.adw rfl rfl rfl rfl rfl rfl ?_))
      exact ⟨(i + 1, _), ⟨rfl, rfl, rfl, rfl, rfl, rfl, trivial⟩, (fun _ _ _ h => h), ⟨rfl, by dsimp only; omega, inR.wrap _⟩, by dsimp only; omega⟩
    · exact ⟨(i + 1, m), ⟨rfl, rfl, rfl, rfl, rfl, rfl, trivial⟩, (fun _ _ _ h => h), ⟨rfl, by dsimp only; omega, hm⟩, by dsimp only; omega⟩
  · exact ⟨_, .cons (.tmp rfl) .nil, rfl, fun _ _ _ => ⟨_, rfl, hm⟩⟩
theorem violations_ev (hC : CTAt B c) {sc : Int} (hsc : isScope sc) (ix : Int) {q : Slc} {xs : List Att} (hq : SqS .att B q xs) (ha : AttsOk sc xs) : EvP Tryz.prog 112 [c.v, .int .i64 sc, .int .i64 ix, q.v] B fun v B1 => ∃ (r : Slc) (vs : List Viol), v = r.v ∧ SqS .viol B1 r vs ∧ vs.length ≤ 40 := by
  obtain ⟨rs, h1, h2, h3⟩ := hC.rules
  have hn := h1.len
  refine EvP.go Tryz.func112 rfl Tryz.ntmps112 Tryz.results112 rfl [none] rfl ?_
  (repeat' (first | refine J.seq ?_ | refine J.roA rfl ?_ | refine X.ro rfl rfl ?_ | refine X.nil0 ?_ | refine X.l1 1 rfl rfl rfl rfl rfl rfl rfl rfl rfl ?_ | refine X.bx rfl rfl rfl rfl rfl rfl rfl rfl fun b => ?_))
  rw [hC.consts]
  refine X.callq rfl rfl (gV_ok rfl) rfl rfl rfl rfl (en rfl) (consts_ev) ?_
  rintro v rfl
  (repeat' (first | refine J.seq ?_ | refine J.block ?_ | refine J.roA rfl ?_ | refine X.ro rfl rfl ?_ | refine X.nil0 ?_))
  refine J.loop (σ := Nat × List Viol × Option Nat) (fun p => [(1, .int .i64 sc), (2, .int .i64 ix), (3, q.v), (4, .pointer (some ⟨b, 0, none⟩)), (9, .slice (oa p.2.2) p.2.1.length p.2.1.length), (10, .slice none 0 0), (11, .int .i64 (p.1 : Int))]) (fun p => [accE 301 3 p.2.2 (p.2.1.map Viol.cells).flatten, some (b, ⟨c.cells, 35, 1⟩)]) (fun B1 p => B1 = B ∧ p.1 ≤ rs.length ∧ p.2.1.length ≤ p.1 ∧ accOk p.2.2 p.2.1.length) (fun p => rs.length - p.1) (0, [], none) ⟨rfl, Nat.zero_le _, Nat.le_refl _, rfl⟩ ⟨rfl, rfl, rfl, rfl, rfl, rfl, rfl, trivial⟩ ?_ ?_
  · rw [← hC.consts]
    exact fun _ _ _ h => h
  rintro ⟨i, vs, ob⟩ B1 hB ⟨rfl, hi, hv, hob⟩
  dsimp only at hi hv hob ⊢
  (repeat' (first | refine J.seq ?_ | refine J.block ?_ | refine J.roA rfl ?_ | refine X.ro rfl rfl ?_ | refine X.nil0 ?_ | refine J.skip ?_ | refine J.exit ?_ | refine J.ret ?_ | refine X.l1 1 rfl rfl rfl rfl rfl rfl rfl rfl rfl ?_ | refine J.cond_d rfl (fun h => ?_) (fun h => ?_)))
  · have hi3 : i < rs.length := by omega
    refine X.ix h1 (i := i) hi3 rfl rfl rfl rfl rfl rfl rfl rfl rfl fun b1 f1 cs1 hr1 hx1 => ?_
    obtain ⟨es, rfl, hx2⟩ := hx1
    obtain ⟨s2, rfl, hs2⟩ := tm_open hx2
    skip
    refine X.lg 0 hr1 rfl rfl (by first | exact .md | exact .mo | exact .mf) (Ge.refl _) rfl rfl rfl rfl rfl rfl rfl rfl ?_
    (repeat' (first | refine J.seq ?_ | refine J.roA rfl ?_ | refine X.ro rfl rfl ?_ | refine X.nil0 ?_ | refine J.skip ?_ | refine J.cond_f rfl ?_ | refine X.l1 1 rfl rfl rfl rfl rfl rfl rfl rfl rfl ?_ | refine X.l1 2 rfl rfl rfl rfl rfl rfl rfl rfl rfl ?_ | refine X.la 2 rfl rfl rfl rfl rfl rfl rfl rfl rfl rfl ?_ | refine X.al rfl rfl rfl rfl rfl rfl rfl fun b => ?_ | refine X.st 2 rfl rfl rfl rfl rfl rfl rfl rfl rfl ?_ | refine X.ad rfl rfl rfl rfl rfl rfl (by omega) ?_ | refine X.g_d rfl rfl rfl (fun h => ?_) (fun h => ?_)))
    · have hw := h3 _ (List.getElem_mem hi3)
      rw [h] at hw
      refine X.callq rfl rfl (gV_ok rfl) rfl rfl rfl rfl (en rfl) (value_ev ha hsc 6 ⟨none, 0, 0⟩ c.consts hq hx2 hw) ?_
      rintro v ⟨w, rfl, hw2⟩
      (repeat' (first | refine J.roA rfl ?_ | refine X.ro rfl rfl ?_ | refine X.nil0 ?_ | refine J.skip ?_ | refine X.l1 2 rfl rfl rfl rfl rfl rfl rfl rfl rfl ?_ | refine X.ad rfl rfl rfl rfl rfl rfl (by omega) ?_ | refine X.bs rfl rfl rfl rfl rfl rfl (by rfl) rfl rfl (by rfl) (by rfl) rfl (fun b => ?_) | refine X.bd rfl rfl rfl rfl rfl rfl rfl rfl rfl rfl rfl ?_ | refine J.cond_d rfl (fun h => ?_) (fun h => ?_)))
      · have hrow := (Rows.flat (D := Dt.viol) (f := Viol.cells) (fun _ _ => rfl) B1 vs).1
        refine X.aps (add := [.int .i64 sc, .int .i64 ix, .string rs[i].name]) 0 3 rfl rfl rfl rfl rfl rfl rfl rfl rfl rfl rfl rfl hrow hob rfl (by rfl) rfl rfl (by show (_ + 1) * 32 ≤ _; omega) (by omega) fun oe hoe => ?_
        (repeat' (first | refine J.roA rfl ?_ | refine X.ro rfl rfl ?_ | refine X.nil0 ?_ | refine X.ad rfl rfl rfl rfl rfl rfl (by omega) ?_))
        exact ⟨(i + 1, vs ++ [⟨sc, ix, rs[i].name⟩], oe), ⟨rfl, rfl, rfl, rfl, by dsimp only; rw [List.length_append]; rfl, rfl, rfl, trivial⟩, by dsimp only; rw [List.map_append, List.flatten_append]; exact Less.app _ [_, _], ⟨rfl, by dsimp only; omega, by dsimp only; rw [List.length_append]; simp; omega, by dsimp only; rw [List.length_append]; exact hoe⟩, by dsimp only; omega⟩
      · exact ⟨(i + 1, vs, ob), ⟨rfl, rfl, rfl, rfl, rfl, rfl, rfl, trivial⟩, Less.app _ [_], ⟨rfl, by dsimp only; omega, by dsimp only; omega, hob⟩, by dsimp only; omega⟩
    · exact ⟨(i + 1, vs, ob), ⟨rfl, rfl, rfl, rfl, rfl, rfl, rfl, trivial⟩, Less.app _ [_], ⟨rfl, by dsimp only; omega, by dsimp only; omega, hob⟩, by dsimp only; omega⟩
  · have hfl := Rows.flat (D := Dt.viol) (f := Viol.cells) (fun _ _ => rfl)
    refine ⟨_, .cons (.tmp rfl) .nil, rfl, fun B' hB' hK => ⟨⟨oa ob, vs.length, vs.length⟩, vs, rfl, acc_sqs (D := Dt.viol) rfl hob (hfl B' vs) fun b X h => hK b X (by rw [← h]; exact .head _), by omega⟩⟩
end
end Go.Proofs.YthldmlfpebgojaaGreatDoor
/-
  Contracts: legality of duties and rests.
  Condition: timetable and contract are ones of the laws' data.
-/
namespace Go.Proofs.YthldmlfpebgojaaGreatDoor
set_option linter.unusedSimpArgs false
set_option linter.unusedVariables false
set_option maxRecDepth 100000
set_option maxHeartbeats 0
open Go.RowKit Go

/-- Timetable and contract of the laws' data. -/
structure DAt (B : St) (t : TT) (c : CT) (fs : List Flt) : Prop where
  tt : TTAt B t fs
  ct : CTAt B c
  fine : ∀ f ∈ fs, FlFine f
  n5 : fs.length ≤ 5
theorem DAt.ge {B B' : St} {t : TT} {c : CT} {fs : List Flt} (h : DAt B t c fs) (hB : Ge B B') : DAt B' t c fs := ⟨h.tt.ge hB, h.ct.ge hB, h.fine, h.n5⟩
section
variable {B : St} {t : TT} {c : CT} {fs : List Flt} (hD : DAt B t c fs)
include hD
theorem check_ev : EvP Tryz.prog 125 [t.v, c.v] B fun v _ => v = .int .i64 0 := by
  refine EvP.go Tryz.func125 rfl Tryz.ntmps125 Tryz.results125 rfl [] rfl ?_
  (repeat' (first | refine J.seq ?_ | refine J.roA rfl ?_ | refine X.ro rfl rfl ?_ | refine X.nil0 ?_ | refine X.la 0 rfl rfl rfl rfl rfl rfl rfl rfl rfl rfl ?_ | refine X.bx rfl rfl rfl rfl rfl rfl rfl rfl fun b => ?_))
  refine X.callq rfl rfl (gV_ok rfl) rfl rfl rfl rfl (en rfl) (validate9_ev hD.tt hD.fine (by have := hD.n5; omega)) ?_
  rintro v rfl
  (repeat' (first | refine J.seq ?_ | refine J.roA rfl ?_ | refine X.ro rfl rfl ?_ | refine X.nil0 ?_ | refine J.skip ?_ | refine J.cond_f rfl ?_ | refine X.la 1 rfl rfl rfl rfl rfl rfl rfl rfl rfl rfl ?_))
  refine X.callq rfl rfl (gV_ok rfl) rfl rfl rfl rfl (en rfl) (hD.ct.chk B (Ge.refl B)) ?_
  rintro v rfl
  (repeat' (first | refine X.ro rfl rfl ?_ | refine X.nil0 ?_ | refine J.ret ?_))
  exact ⟨_, .cons (.tmp rfl) .nil, rfl, fun _ _ _ => rfl⟩
variable {d : Slc} {ds : Duty} (hd : SqS .task B d ds)
include hd
theorem dutyStructure_ev : EvP Tryz.prog 180 [t.v, c.v, d.v] B fun v _ => ∃ e, v = .int .i64 e ∧ (e = 0 → DOk fs ds) := by
  refine EvP.go Tryz.func180 rfl Tryz.ntmps180 Tryz.results180 rfl [] rfl ?_
  (repeat' (first | refine J.seq ?_ | refine J.roA rfl ?_ | refine X.ro rfl rfl ?_ | refine X.nil0 ?_ | refine X.la 0 rfl rfl rfl rfl rfl rfl rfl rfl rfl rfl ?_ | refine X.la 1 rfl rfl rfl rfl rfl rfl rfl rfl rfl rfl ?_ | refine X.bx rfl rfl rfl rfl rfl rfl rfl rfl fun b => ?_))
  refine X.callq rfl rfl (gV_ok rfl) rfl rfl rfl rfl (en rfl) (check_ev hD) ?_
  rintro v rfl
  (repeat' (first | refine J.seq ?_ | refine J.roA rfl ?_ | refine X.ro rfl rfl ?_ | refine X.nil0 ?_ | refine J.skip ?_ | refine J.cond_f rfl ?_ | refine X.la 0 rfl rfl rfl rfl rfl rfl rfl rfl rfl rfl ?_ | refine X.la 1 rfl rfl rfl rfl rfl rfl rfl rfl rfl rfl ?_))
  refine X.callq rfl rfl (gV_ok rfl) rfl rfl rfl rfl (en rfl) (structure_ev hD.tt.ok hD.ct.fit hD.tt.fls hd) ?_
  rintro v ⟨e, rfl, he⟩
  (repeat' (first | refine X.ro rfl rfl ?_ | refine X.nil0 ?_ | refine J.ret ?_))
  exact ⟨_, .cons (.tmp rfl) .nil, rfl, fun _ _ _ => ⟨_, rfl, he⟩⟩
theorem dutyAttributes_ev : EvP Tryz.prog 111 [t.v, c.v, d.v] B fun v B1 => ∃ (r : Slc) (e : Int), v = .tuple #[r.v, .int .i64 e] ∧ (e = 0 → DOk fs ds ∧ ∃ xs, SqS .att B1 r xs ∧ AttsOk 1 xs) := by
  refine EvP.go Tryz.func111 rfl Tryz.ntmps111 Tryz.results111 rfl [] rfl ?_
  (repeat' (first | refine J.seq ?_ | refine J.roA rfl ?_ | refine X.ro rfl rfl ?_ | refine X.nil0 ?_ | refine X.la 0 rfl rfl rfl rfl rfl rfl rfl rfl rfl rfl ?_ | refine X.la 1 rfl rfl rfl rfl rfl rfl rfl rfl rfl rfl ?_ | refine X.bx rfl rfl rfl rfl rfl rfl rfl rfl fun b => ?_))
  refine X.callq rfl rfl (gV_ok rfl) rfl rfl rfl rfl (en rfl) (dutyStructure_ev hD hd) ?_
  rintro v ⟨e, rfl, he⟩
  (repeat' (first | refine J.seq ?_ | refine J.roA rfl ?_ | refine X.ro rfl rfl ?_ | refine X.nil0 ?_ | refine J.skip ?_ | refine J.ret ?_ | refine X.la 0 rfl rfl rfl rfl rfl rfl rfl rfl rfl rfl ?_ | refine X.la 1 rfl rfl rfl rfl rfl rfl rfl rfl rfl rfl ?_ | refine J.cond_nd rfl (fun h => ?_) (fun h => ?_)))
  · exact ⟨_, .cons (.tmp rfl) (.cons (.tmp rfl) .nil), rfl, fun _ _ _ => ⟨⟨none, 0, 0⟩, _, rfl, fun h => absurd h (by assumption)⟩⟩
  · have hok := he (by assumption)
    refine X.call rfl rfl (gV_ok rfl) rfl rfl rfl rfl (en rfl) (dutyAttrs_ev hD.tt hD.ct.fit hd hok) ?_
    rintro v B1 hB1 ⟨q, xs, rfl, hq, hx⟩
    (repeat' (first | refine X.ro rfl rfl ?_ | refine X.nil0 ?_ | refine J.ret ?_))
    exact ⟨_, .cons (.tmp rfl) (.cons (.tmp rfl) .nil), rfl, fun B' hB' _ => ⟨q, _, rfl, fun _ => ⟨hok, xs, hq.ge hB', hx⟩⟩⟩
theorem checkDuty_ev : EvP Tryz.prog 65 [t.v, c.v, d.v] B fun v B1 => ∃ (r : Slc) (vs : List Viol) (e : Int), v = .tuple #[r.v, .int .i64 e] ∧ SqS .viol B1 r vs ∧ (e = 0 → DOk fs ds) := by
  refine EvP.go Tryz.func65 rfl Tryz.ntmps65 Tryz.results65 rfl [] rfl ?_
  (repeat' (first | refine J.seq ?_ | refine J.roA rfl ?_ | refine X.ro rfl rfl ?_ | refine X.nil0 ?_ | refine X.la 0 rfl rfl rfl rfl rfl rfl rfl rfl rfl rfl ?_ | refine X.la 1 rfl rfl rfl rfl rfl rfl rfl rfl rfl rfl ?_ | refine X.bx rfl rfl rfl rfl rfl rfl rfl rfl fun b => ?_))
  refine X.call rfl rfl (gV_ok rfl) rfl rfl rfl rfl (en rfl) (dutyAttributes_ev hD hd) ?_
  rintro v B1 hB1 ⟨q, e, rfl, he⟩
  (repeat' (first | refine J.seq ?_ | refine J.roA rfl ?_ | refine X.ro rfl rfl ?_ | refine X.nil0 ?_ | refine J.skip ?_ | refine J.ret ?_ | refine X.la 1 rfl rfl rfl rfl rfl rfl rfl rfl rfl rfl ?_ | refine J.cond_nd rfl (fun h => ?_) (fun h => ?_)))
  · exact ⟨_, .cons (.tmp rfl) (.cons (.tmp rfl) .nil), rfl, fun _ _ _ => ⟨⟨none, 0, 0⟩, [], _, rfl, Sq.nil0, fun h => absurd h (by assumption)⟩⟩
  · obtain ⟨hok, xs, hq, hx⟩ := he (by assumption)
    refine X.call rfl rfl (gV_ok rfl) rfl rfl rfl rfl (en rfl) (violations_ev (hD.ct.ge hB1) (.inl rfl) 0 hq hx) ?_
    rintro v B2 hB2 ⟨r, vs, rfl, hr, hv⟩
    (repeat' (first | refine X.ro rfl rfl ?_ | refine X.nil0 ?_ | refine J.ret ?_))
    exact ⟨_, .cons (.tmp rfl) (.cons (.tmp rfl) .nil), rfl, fun B' hB' _ => ⟨r, vs, _, rfl, hr.ge hB', fun _ => hok⟩⟩
end
end Go.Proofs.YthldmlfpebgojaaGreatDoor
/-
  Contracts: the attributes of a rest.
  Condition: timetable and contract are ones of the laws' data; the duties are structurally valid.
-/
namespace Go.Proofs.YthldmlfpebgojaaGreatDoor
set_option linter.unusedSimpArgs false
set_option linter.unusedVariables false
set_option maxRecDepth 100000
set_option maxHeartbeats 0
open Go.RowKit Go

theorem atts_len_eq {sc : Int} {xs : List Att} (ha : AttsOk sc xs) : xs.length = (asN sc).length := by
  have := congrArg List.length ha.names
  rwa [List.length_map] at this
theorem Less.at3 {x : Option (Nat × Blk)} {K : Hp} (h : K[3]? = some x) : Less [none, none, none, x] K := fun p b X hp => by
  match p, hp with
  | 0, hp => cases hp
  | 1, hp => cases hp
  | 2, hp => cases hp
  | 3, hp => rw [h]; exact hp
section
variable {B : St} {t : TT} {c : CT} {fs : List Flt} (hD : DAt B t c fs)
include hD
variable {d1 d2 : Slc} {x y : Duty} (h1 : SqS .task B d1 x) (h2 : SqS .task B d2 y) (hx : DOk fs x) (hy : DOk fs y)
include h1 h2 hx hy
theorem restAttrs_ev (base : ByteArray) : EvP Tryz.prog 184 [t.v, c.v, .string base, d1.v, d2.v] B fun v B1 => ∃ (q : Slc) (xs : List Att), v = q.v ∧ SqS .att B1 q xs ∧ AttsOk 2 xs := by
  have hF := hD.tt.ok
  have hf := hD.tt.fls
  have hC := hD.ct.fit
  have p1 := hx.pos
  have l1 := hx.le
  have p2 := hy.pos
  have l2 := hy.le
  obtain ⟨i1, g1, g2⟩ := hx.rng 0 p1
  obtain ⟨j1, g3, g4⟩ := hx.rng (x.length - 1) (by omega)
  obtain ⟨i2, g5, g6⟩ := hy.rng 0 p2
  obtain ⟨j2, g7, g8⟩ := hy.rng (y.length - 1) (by omega)
  have r1 := hF.rng i2 g6
  have r2 := hF.rng j1 g4
  have r3 := hC.rep
  have r4 := hC.rel
  refine EvP.go Tryz.func184 rfl Tryz.ntmps184 Tryz.results184 rfl [] rfl ?_
  (repeat' (first | refine J.seq ?_ | refine J.roA rfl ?_ | refine J.rfA (id := 1) rfl ?_ | refine X.ro rfl rfl ?_ | refine X.rf rfl rfl ?_ | refine X.nil0 ?_ | refine X.la 0 rfl rfl rfl rfl rfl rfl rfl rfl rfl rfl ?_ | refine X.la 1 rfl rfl rfl rfl rfl rfl rfl rfl rfl rfl ?_ | refine X.bx rfl rfl rfl rfl rfl rfl rfl rfl fun b => ?_))
  refine X.callq rfl rfl (gV_ok rfl) rfl rfl rfl rfl (en rfl) (span_ev hF hC hf h1 p1 (by omega) g1 g2 g3 g4) ?_
  rintro v rfl
  (repeat' (first | refine X.rf rfl rfl ?_ | refine X.la 0 rfl rfl rfl rfl rfl rfl rfl rfl rfl rfl ?_ | refine X.la 1 rfl rfl rfl rfl rfl rfl rfl rfl rfl rfl ?_ | refine X.fe rfl rfl rfl rfl rfl rfl rfl rfl ?_))
  refine X.callq rfl rfl (gV_ok rfl) rfl rfl rfl rfl (en rfl) (span_ev hF hC hf h2 p2 (by omega) g5 g6 g7 g8) ?_
  rintro v rfl
  (repeat' (first | refine J.seq ?_ | refine J.roA rfl ?_ | refine X.ro rfl rfl ?_ | refine X.nilF ⟨by kernel_rfl, ?_⟩ | refine X.la 0 rfl rfl rfl rfl rfl rfl rfl rfl rfl rfl ?_ | refine X.al rfl rfl rfl rfl rfl rfl rfl fun b => ?_ | refine X.fe rfl rfl rfl rfl rfl rfl rfl rfl ?_ | refine X.st 2 rfl rfl rfl rfl rfl rfl rfl rfl rfl ?_ | refine X.bd rfl rfl rfl rfl rfl rfl rfl rfl rfl rfl rfl ?_))
  refine X.callq rfl rfl (gV_ok rfl) rfl rfl rfl rfl (en rfl) (last_ev hf h1 p1 (by omega) g3 g4) ?_
  rintro v rfl
  (repeat' (first | refine J.seq ?_ | refine J.rdA (by kernel_rfl) rfl ?_ | refine X.ro rfl rfl ?_ | refine X.rd rfl rfl ?_ | refine X.nil0 ?_ | refine X.la 0 rfl rfl rfl rfl rfl rfl rfl rfl rfl rfl ?_ | refine X.fe rfl rfl rfl rfl rfl rfl rfl rfl ?_))
  refine X.callq rfl rfl (gV_ok rfl) rfl rfl rfl rfl (en rfl) (zone_ev hD.tt (hD.tt.codes _ (List.getElem_mem g4)).2) ?_
  rintro v ⟨z, rfl, hz⟩
  (repeat' (first | refine X.rd rfl rfl ?_ | refine X.l1 1 rfl rfl rfl rfl rfl rfl rfl rfl rfl ?_ | refine X.la 2 rfl rfl rfl rfl rfl rfl rfl rfl rfl rfl ?_))
  refine X.callq rfl rfl (gV_ok rfl) rfl rfl rfl rfl (en rfl) (nights_ev hz _ _ _ _) ?_
  rintro v ⟨n, e, rfl, hn⟩
  (repeat' (first | refine J.seq ?_ | refine J.rdA (by kernel_rfl) rfl ?_ | refine X.rd rfl rfl ?_ | refine X.nil1 ⟨by kernel_rfl, ?_⟩ | refine X.l1 2 rfl rfl rfl rfl rfl rfl rfl rfl rfl ?_ | refine X.sb rfl rfl rfl rfl rfl rfl (by omega) ?_))
  refine X.callq rfl rfl (gV_ok rfl) rfl rfl rfl rfl (en rfl) (flag_ev _) ?_
  rintro v rfl
  (repeat' (first | refine J.seq ?_ | refine J.rdA (by kernel_rfl) rfl ?_ | refine X.rd rfl rfl ?_ | refine X.nil1 ⟨by kernel_rfl, ?_⟩ | refine X.la 0 rfl rfl rfl rfl rfl rfl rfl rfl rfl rfl ?_ | refine X.la 1 rfl rfl rfl rfl rfl rfl rfl rfl rfl rfl ?_ | refine X.bs1 rfl rfl rfl rfl rfl rfl rfl rfl rfl rfl rfl rfl rfl (fun b => ?_)))
  have hfl : inR (if decide (fs[j1].to = base) = true then 1 else 0) := inR.ite (inR.of (by decide)) (inR.of (by decide))
  generalize (if decide (fs[j1].to = base) = true then (1 : Int) else 0) = w at hfl ⊢
  have hsb : inR (fs[i2].dep - c.rep - (fs[j1].arr + c.rel)) := inR.of (by omega)
  generalize fs[i2].dep - c.rep - (fs[j1].arr + c.rel) = s0 at hsb ⊢
  refine X.call rfl rfl (gV_ok rfl) rfl rfl rfl rfl (en rfl) (dutyAttrs_ev hD.tt hC h1 hx) ?_
  rintro v B1 hB1 ⟨q1, xs1, rfl, hq1, hx1⟩
  (repeat' (first | refine X.rd rfl rfl ?_ | refine X.la 0 rfl rfl rfl rfl rfl rfl rfl rfl rfl rfl ?_ | refine X.la 1 rfl rfl rfl rfl rfl rfl rfl rfl rfl rfl ?_))
  refine X.call rfl rfl (gV_ok rfl) rfl rfl rfl rfl (en rfl) (dutyAttrs_ev (hD.ge hB1).tt hC (h2.ge hB1) hy) ?_
  rintro v B2 hB2 ⟨q2, xs2, rfl, hq2, hx2⟩
  (repeat' (first | refine J.seq ?_ | refine J.block ?_ | refine J.roA rfl ?_ | refine X.ro rfl rfl ?_ | refine X.rd rfl rfl ?_ | refine X.nil0 ?_ | refine X.nil1 ⟨by kernel_rfl, ?_⟩))
  have hl1 : xs1.length = 11 := atts_len_eq hx1
  have hl2 : xs2.length = 11 := atts_len_eq hx2
  have hn1 := hq1.len
  have hn2 := hq2.len
  have hq1 := hq1.ge hB2
  refine J.loop (σ := Nat × List Int × Option Nat) (fun p => [(15, .slice (oa p.2.2) p.2.1.length p.2.1.length), (16, q1.v), (17, q2.v), (18, .int .i64 (p.1 : Int))]) (fun p => [none, none, none, accE 3 1 p.2.2 (p.2.1.map (.int .i64 ·))]) (fun B3 p => B3 = B2 ∧ p.1 ≤ 11 ∧ p.2.1.length = 3 + p.1 ∧ accOk p.2.2 p.2.1.length ∧ ∀ a ∈ p.2.1, inR a) (fun p => 11 - p.1) (0, [s0, n, w], some b) ⟨rfl, Nat.zero_le _, rfl, Nat.zero_lt_succ 2, fun a ha => by
    simp only [List.mem_cons, List.not_mem_nil, or_false] at ha
    rcases ha with rfl | rfl | rfl <;> assumption⟩ ⟨rfl, rfl, rfl, rfl, trivial⟩ ?_ ?_
  · exact Less.at3 rfl
  rintro ⟨i, ws, ob⟩ B3 hB3 ⟨rfl, hi, hw, hob, hr⟩
  dsimp only at hi hw hob hr ⊢
  (repeat' (first | refine J.seq ?_ | refine J.block ?_ | refine J.roA rfl ?_ | refine X.ro rfl rfl ?_ | refine X.nil0 ?_ | refine J.skip ?_ | refine J.exit ?_ | refine J.cond_d rfl (fun h => ?_) (fun h => ?_)))
  · (refine X.ix hq1 (i := i) (by omega) rfl rfl rfl rfl rfl rfl rfl rfl (by first | rfl | omega) fun b1 f1 cs1 hr1 hx1 => ?_; obtain rfl := hx1; (repeat' (first | refine X.ro rfl rfl ?_)); refine X.ls 1 hr1 rfl (by first | exact .md | exact .mo | exact .mf) (Ge.refl _) rfl rfl rfl rfl rfl rfl rfl ?_; (repeat' (first | refine X.bs1 rfl rfl rfl rfl rfl rfl rfl rfl rfl rfl rfl rfl rfl (fun b => ?_))))
    refine X.aps (add := [.int .i64 xs1[i].val]) 3 4 rfl rfl rfl rfl rfl rfl rfl rfl rfl rfl rfl rfl (by rw [List.length_map, Nat.mul_one]) hob rfl (by rfl) rfl rfl (by show (_ + 1) * 8 ≤ _; omega) (by omega) fun oe hoe => ?_
    (repeat' (first | refine J.roA rfl ?_ | refine X.ro rfl rfl ?_ | refine X.nil0 ?_ | refine X.ad rfl rfl rfl rfl rfl rfl (by omega) ?_))
    exact ⟨(i + 1, ws ++ [xs1[i].val], oe), ⟨by dsimp only; rw [List.length_append]; rfl, rfl, rfl, rfl, trivial⟩, by dsimp only; rw [List.map_append]; exact Less.app _ [_], ⟨rfl, by dsimp only; omega, by dsimp only; rw [List.length_append]; simp; omega, by dsimp only; rw [List.length_append]; exact hoe, fun a ha => by
      rcases List.mem_append.1 ha with h | h
      · exact hr a h
      · rw [List.mem_singleton] at h; subst h; exact hx1.rng _ (List.getElem_mem _)⟩, by dsimp only; omega⟩
  refine J.loop (σ := Nat × List Int × Option Nat) (fun p => [(15, .slice (oa p.2.2) p.2.1.length p.2.1.length), (17, q2.v), (19, .int .i64 (p.1 : Int))]) (fun p => [none, none, none, accE 3 1 p.2.2 (p.2.1.map (.int .i64 ·))]) (fun B4 p => B4 = B3 ∧ p.1 ≤ 11 ∧ p.2.1.length = 14 + p.1 ∧ accOk p.2.2 p.2.1.length ∧ ∀ a ∈ p.2.1, inR a) (fun p => 11 - p.1) (0, ws, ob) ⟨rfl, Nat.zero_le _, by dsimp only; omega, hob, hr⟩ ⟨rfl, rfl, rfl, trivial⟩ (Less.refl _) ?_
  rintro ⟨k, us, oc⟩ B4 hB4 ⟨rfl, hk, hu, hoc, hs⟩
  dsimp only at hk hu hoc hs ⊢
  (repeat' (first | refine J.seq ?_ | refine J.block ?_ | refine J.roA rfl ?_ | refine X.ro rfl rfl ?_ | refine X.nil0 ?_ | refine J.skip ?_ | refine J.exit ?_ | refine J.cond_d rfl (fun h => ?_) (fun h => ?_)))
  · (refine X.ix hq2 (i := k) (by omega) rfl rfl rfl rfl rfl rfl rfl rfl (by first | rfl | omega) fun b1 f1 cs1 hr1 hx1 => ?_; obtain rfl := hx1; (repeat' (first | refine X.ro rfl rfl ?_)); refine X.ls 1 hr1 rfl (by first | exact .md | exact .mo | exact .mf) (Ge.refl _) rfl rfl rfl rfl rfl rfl rfl ?_; (repeat' (first | refine X.bs1 rfl rfl rfl rfl rfl rfl rfl rfl rfl rfl rfl rfl rfl (fun b => ?_))))
    refine X.aps (add := [.int .i64 xs2[k].val]) 3 4 rfl rfl rfl rfl rfl rfl rfl rfl rfl rfl rfl rfl (by rw [List.length_map, Nat.mul_one]) hoc rfl (by rfl) rfl rfl (by show (_ + 1) * 8 ≤ _; omega) (by omega) fun oe hoe => ?_
    (repeat' (first | refine J.roA rfl ?_ | refine X.ro rfl rfl ?_ | refine X.nil0 ?_ | refine X.ad rfl rfl rfl rfl rfl rfl (by omega) ?_))
    exact ⟨(k + 1, us ++ [xs2[k].val], oe), ⟨by dsimp only; rw [List.length_append]; rfl, rfl, rfl, trivial⟩, by dsimp only; rw [List.map_append]; exact Less.app _ [_], ⟨rfl, by dsimp only; omega, by dsimp only; rw [List.length_append]; simp; omega, by dsimp only; rw [List.length_append]; exact hoe, fun a ha => by
      rcases List.mem_append.1 ha with h | h
      · exact hs a h
      · rw [List.mem_singleton] at h; subst h; exact hx2.rng _ (List.getElem_mem _)⟩, by dsimp only; omega⟩
  refine X.giveA (p := 3) rfl fun B5 hB5 hA => ?_
  have hv := acc_sqs (D := Dt.int .i64) (n := us.length) rfl hoc (Rows.ints (B := B5) us) fun b Y h => hA b Y h
  refine X.call rfl rfl (gV_ok rfl) rfl rfl rfl rfl (en rfl) (attrs_ev (.inr (.inl rfl)) (r := ⟨oa oc, us.length, us.length⟩) (vs := us) hv (by change 25 ≤ us.length; omega) hs) ?_
  rintro v B6 hB6 ⟨q, xs, rfl, hq, hxx⟩
  (repeat' (first | refine X.ro rfl rfl ?_ | refine X.nil0 ?_ | refine J.ret ?_))
  exact ⟨_, .cons (.tmp rfl) .nil, rfl, fun B' hB' _ => ⟨q, xs, rfl, hq.ge hB', hxx⟩⟩
end
end Go.Proofs.YthldmlfpebgojaaGreatDoor
/-
  Contracts: legality of rests.
  Condition: timetable and contract are ones of the laws' data.
-/
namespace Go.Proofs.YthldmlfpebgojaaGreatDoor
set_option linter.unusedSimpArgs false
set_option linter.unusedVariables false
set_option maxRecDepth 100000
set_option maxHeartbeats 0
open Go.RowKit Go

/-- What Between says when it is content. -/
def BOk (fs : List Flt) (x y : Duty) : Prop := DOk fs x ∧ DOk fs y ∧ ∀ (k : Nat) (hk : k < x.length) (j : Nat) (hj : j < y.length) (a b : Nat) (ha : a < fs.length) (hb : b < fs.length), k + 1 = x.length → j = 0 → x[k].flight = (a : Int) → y[j].flight = (b : Int) → fs[a].arr ≤ fs[b].dep
section
variable {B : St} {t : TT} {c : CT} {fs : List Flt} (hD : DAt B t c fs)
include hD
variable {d1 d2 : Slc} {x y : Duty} (h1 : SqS .task B d1 x) (h2 : SqS .task B d2 y)
include h1 h2
theorem restAttributes_ev (base : ByteArray) : EvP Tryz.prog 124 [t.v, c.v, .string base, d1.v, d2.v] B fun v B1 => ∃ (r : Slc) (e : Int), v = .tuple #[r.v, .int .i64 e] ∧ (e = 0 → BOk fs x y ∧ ∃ xs, SqS .att B1 r xs ∧ AttsOk 2 xs) := by
  refine EvP.go Tryz.func124 rfl Tryz.ntmps124 Tryz.results124 rfl [] rfl ?_
  (repeat' (first | refine J.seq ?_ | refine J.roA rfl ?_ | refine X.ro rfl rfl ?_ | refine X.nil0 ?_ | refine X.la 0 rfl rfl rfl rfl rfl rfl rfl rfl rfl rfl ?_ | refine X.la 1 rfl rfl rfl rfl rfl rfl rfl rfl rfl rfl ?_ | refine X.bx rfl rfl rfl rfl rfl rfl rfl rfl fun b => ?_))
  refine X.callq rfl rfl (gV_ok rfl) rfl rfl rfl rfl (en rfl) (check_ev hD) ?_
  rintro v rfl
  (repeat' (first | refine J.seq ?_ | refine J.roA rfl ?_ | refine X.ro rfl rfl ?_ | refine X.nil0 ?_ | refine J.skip ?_ | refine J.cond_f rfl ?_ | refine X.l1 0 rfl rfl rfl rfl rfl rfl rfl rfl rfl ?_))
  refine X.callq rfl rfl (gV_ok rfl) rfl rfl rfl rfl (en rfl) (airportIndex_ev base hD.tt.aps (by decide)) ?_
  rintro v ⟨z, rfl, hz⟩
  (repeat' (first | refine J.seq ?_ | refine J.roA rfl ?_ | refine X.ro rfl rfl ?_ | refine X.nil0 ?_ | refine J.skip ?_ | refine J.ret ?_ | refine X.la 0 rfl rfl rfl rfl rfl rfl rfl rfl rfl rfl ?_ | refine X.la 1 rfl rfl rfl rfl rfl rfl rfl rfl rfl rfl ?_ | refine J.cond_d rfl (fun h => ?_) (fun h => ?_)))
  · exact ⟨_, .cons (.tmp rfl) (.cons (.tmp rfl) .nil), rfl, fun _ _ _ => ⟨⟨none, 0, 0⟩, _, rfl, fun h => absurd h (by decide)⟩⟩
  refine X.callq rfl rfl (gV_ok rfl) rfl rfl rfl rfl (en rfl) (between_ev hD.tt.ok hD.ct.fit hD.tt.fls h1 h2) ?_
  rintro v ⟨e, rfl, he⟩
  (repeat' (first | refine J.seq ?_ | refine J.roA rfl ?_ | refine X.ro rfl rfl ?_ | refine X.nil0 ?_ | refine J.skip ?_ | refine J.ret ?_ | refine X.la 0 rfl rfl rfl rfl rfl rfl rfl rfl rfl rfl ?_ | refine X.la 1 rfl rfl rfl rfl rfl rfl rfl rfl rfl rfl ?_ | refine J.cond_nd rfl (fun h => ?_) (fun h => ?_)))
  · exact ⟨_, .cons (.tmp rfl) (.cons (.tmp rfl) .nil), rfl, fun _ _ _ => ⟨⟨none, 0, 0⟩, _, rfl, fun h => absurd h (by assumption)⟩⟩
  have hok := he (by assumption)
  refine X.call rfl rfl (gV_ok rfl) rfl rfl rfl rfl (en rfl) (restAttrs_ev hD h1 h2 hok.1 hok.2.1 base) ?_
  rintro v B1 hB1 ⟨q, xs, rfl, hq, hx⟩
  (repeat' (first | refine X.ro rfl rfl ?_ | refine X.nil0 ?_ | refine J.ret ?_))
  exact ⟨_, .cons (.tmp rfl) (.cons (.tmp rfl) .nil), rfl, fun B' hB' _ => ⟨q, _, rfl, fun _ => ⟨hok, xs, hq.ge hB', hx⟩⟩⟩
theorem checkRest_ev (base : ByteArray) : EvP Tryz.prog 70 [t.v, c.v, .string base, d1.v, d2.v] B fun v B1 => ∃ (r : Slc) (vs : List Viol) (e : Int), v = .tuple #[r.v, .int .i64 e] ∧ SqS .viol B1 r vs ∧ (e = 0 → BOk fs x y) := by
  refine EvP.go Tryz.func70 rfl Tryz.ntmps70 Tryz.results70 rfl [] rfl ?_
  (repeat' (first | refine J.seq ?_ | refine J.roA rfl ?_ | refine X.ro rfl rfl ?_ | refine X.nil0 ?_ | refine X.la 0 rfl rfl rfl rfl rfl rfl rfl rfl rfl rfl ?_ | refine X.la 1 rfl rfl rfl rfl rfl rfl rfl rfl rfl rfl ?_ | refine X.bx rfl rfl rfl rfl rfl rfl rfl rfl fun b => ?_))
  refine X.call rfl rfl (gV_ok rfl) rfl rfl rfl rfl (en rfl) (restAttributes_ev hD h1 h2 base) ?_
  rintro v B1 hB1 ⟨q, e, rfl, he⟩
  (repeat' (first | refine J.seq ?_ | refine J.roA rfl ?_ | refine X.ro rfl rfl ?_ | refine X.nil0 ?_ | refine J.skip ?_ | refine J.ret ?_ | refine X.la 1 rfl rfl rfl rfl rfl rfl rfl rfl rfl rfl ?_ | refine J.cond_nd rfl (fun h => ?_) (fun h => ?_)))
  · exact ⟨_, .cons (.tmp rfl) (.cons (.tmp rfl) .nil), rfl, fun _ _ _ => ⟨⟨none, 0, 0⟩, [], _, rfl, Sq.nil0, fun h => absurd h (by assumption)⟩⟩
  · obtain ⟨hok, xs, hq, hx⟩ := he (by assumption)
    refine X.call rfl rfl (gV_ok rfl) rfl rfl rfl rfl (en rfl) (violations_ev (hD.ct.ge hB1) (.inr (.inl rfl)) 0 hq hx) ?_
    rintro v B2 hB2 ⟨r, vs, rfl, hr, hv⟩
    (repeat' (first | refine X.ro rfl rfl ?_ | refine X.nil0 ?_ | refine J.ret ?_))
    exact ⟨_, .cons (.tmp rfl) (.cons (.tmp rfl) .nil), rfl, fun B' hB' _ => ⟨r, vs, _, rfl, hr.ge hB', fun _ => hok⟩⟩
end
end Go.Proofs.YthldmlfpebgojaaGreatDoor
/-
  Contracts: the attributes of a pairing.
  Condition: timetable and contract are ones of the laws' data.
-/
namespace Go.Proofs.YthldmlfpebgojaaGreatDoor
set_option linter.unusedSimpArgs false
set_option linter.unusedVariables false
set_option maxRecDepth 100000
set_option maxHeartbeats 0
open Go.RowKit Go

/-- A pairing that Whole is content with. -/
structure WOk (fs : List Flt) (p : Pair) : Prop where
  pos : 0 < p.duties.length
  le : p.duties.length ≤ 6
  du : ∀ d ∈ p.duties, DOk fs d
  base : isApt p.base
theorem giveInts {B : St} {b T : Nat} {cs : List Value} (hg : B.get b = some ⟨cs, T, 1⟩) (vs : List Int) (e : cs = vs.map (.int .i64 ·)) : SqS (Dt.int .i64) B ⟨some ⟨b, 0, none⟩, vs.length, vs.length⟩ vs := by
  subst e
  exact Sq.of_row (t := Dt.int .i64) hg (Rows.ints vs)
section
variable {B : St} {t : TT} {c : CT} {fs : List Flt} (hD : DAt B t c fs)
include hD
variable {s : Slc} {x : Pair} (hs : SqS .duty B s x.duties)
include hs
theorem pairingAttrs_ev (hw : WOk fs x) : EvP Tryz.prog 185 [t.v, c.v, x.sv s] B fun v B1 => ∃ (q : Slc) (xs : List Att), v = q.v ∧ SqS .att B1 q xs ∧ AttsOk 3 xs := by
  have hn := hs.len
  have hle := hw.le
  have hpos := hw.pos
  refine EvP.go Tryz.func185 rfl Tryz.ntmps185 Tryz.results185 rfl [] rfl ?_
  (repeat' (first | refine J.seq ?_ | refine J.block ?_ | refine J.roA rfl ?_ | refine X.ro rfl rfl ?_ | refine X.nil0 ?_ | refine X.l1 2 rfl rfl rfl rfl rfl rfl rfl rfl rfl ?_ | refine X.bx rfl rfl rfl rfl rfl rfl rfl rfl fun b => ?_))
  rename_i tb cb
  refine J.loop (σ := Nat × Int × Int × Int × Int) (fun p => [(3, .pointer (some ⟨tb, 0, none⟩)), (4, .pointer (some ⟨cb, 0, none⟩)), (5, .pointer (some ⟨b, 0, none⟩)), (7, .int .i64 p.2.1), (8, .int .i64 p.2.2.1), (9, .int .i64 p.2.2.2.1), (10, .int .i64 p.2.2.2.2), (11, .int .i64 (s.n : Int)), (12, .int .i64 (p.1 : Int))])
    (fun _ => [some (tb, ⟨[t.zs.v, t.aps.v, t.fls.v], 27, 1⟩), some (cb, ⟨c.cells, 35, 1⟩), some (b, ⟨[.string x.base, s.v], 78, 1⟩)]) (fun B1 p => Ge B B1 ∧ p.1 ≤ x.duties.length ∧ inR p.2.1 ∧ inR p.2.2.1 ∧ inR p.2.2.2.1 ∧ inR p.2.2.2.2) (fun p => x.duties.length - p.1) (0, 0, 0, 0, 0) ⟨Ge.refl B, Nat.zero_le _, inR.of (by decide), inR.of (by decide), inR.of (by decide), inR.of (by decide)⟩ ⟨rfl, rfl, rfl, rfl, rfl, rfl, rfl, rfl, rfl, trivial⟩ (fun _ _ _ h => h) ?_
  rintro ⟨i, a1, a2, a3, a4⟩ B1 hB ⟨hB1, hi, r1, r2, r3, r4⟩
  dsimp only at hi r1 r2 r3 r4 ⊢
  have hs1 := hs.ge hB1
  have hD1 := hD.ge hB1
  (repeat' (first | refine J.seq ?_ | refine J.block ?_ | refine J.roA rfl ?_ | refine J.rfA (id := 9) rfl ?_ | refine J.rdA (by kernel_rfl) rfl ?_ | refine X.ro rfl rfl ?_ | refine X.rd rfl rfl ?_ | refine X.rf rfl rfl ?_ | refine X.nil0 ?_ | refine J.skip ?_ | refine J.exit ?_ | refine X.l1 2 rfl rfl rfl rfl rfl rfl rfl rfl rfl ?_ | refine X.la 0 rfl rfl rfl rfl rfl rfl rfl rfl rfl rfl ?_ | refine X.la 1 rfl rfl rfl rfl rfl rfl rfl rfl rfl rfl ?_ | refine J.cond_d rfl (fun h => ?_) (fun h => ?_)))
  · have hi3 : i < x.duties.length := by omega
    have hok := hw.du _ (List.getElem_mem hi3)
    (refine X.ix hs1 (i := i) (by omega) rfl rfl rfl rfl rfl rfl rfl rfl (by first | rfl | omega) fun b1 f1 cs1 hr1 hx1 => ?_); obtain ⟨ua, un, uc, rfl, uq⟩ := hx1; (skip); (refine X.ls 0 hr1 rfl (by first | exact .md | exact .mo | exact .mf) (Ge.refl _) rfl rfl rfl rfl rfl rfl rfl ?_); (skip)
    refine X.call rfl rfl (gV_ok rfl) rfl rfl rfl rfl (en rfl) (dutyAttrs_ev (d := ⟨ua, un, uc⟩) hD1.tt hD.ct.fit uq hok) ?_
    rintro v B2 hB2 ⟨q, xs, rfl, hq, hx⟩
    have hxl : xs.length = 11 := atts_len_eq hx
    (repeat' (first | refine J.seq ?_ | refine J.rdA (by kernel_rfl) rfl ?_ | refine X.rd rfl rfl ?_ | refine X.nil1 ⟨by kernel_rfl, ?_⟩))
    (refine X.ix hq (i := 0) (by omega) rfl rfl rfl rfl rfl rfl rfl rfl (by first | rfl | omega) fun b1 f1 cs1 hr1 hx1 => ?_; obtain rfl := hx1; (repeat' (first | refine X.rd rfl rfl ?_)); refine X.ls 1 hr1 rfl (by first | exact .md | exact .mo | exact .mf) (Ge.refl _) rfl rfl rfl rfl rfl rfl rfl ?_; skip)
    (repeat' (first | refine X.rd rfl rfl ?_ | refine X.adw rfl rfl rfl rfl rfl rfl ?_))
    (refine X.ix hq (i := 1) (by omega) rfl rfl rfl rfl rfl rfl rfl rfl (by first | rfl | omega) fun b1 f1 cs1 hr1 hx1 => ?_; obtain rfl := hx1; (repeat' (first | refine X.rd rfl rfl ?_)); refine X.ls 1 hr1 rfl (by first | exact .md | exact .mo | exact .mf) (Ge.refl _) rfl rfl rfl rfl rfl rfl rfl ?_; skip)
    (repeat' (first | refine X.rd rfl rfl ?_ | refine X.adw rfl rfl rfl rfl rfl rfl ?_))
    (refine X.ix hq (i := 3) (by omega) rfl rfl rfl rfl rfl rfl rfl rfl (by first | rfl | omega) fun b1 f1 cs1 hr1 hx1 => ?_; obtain rfl := hx1; (repeat' (first | refine X.rd rfl rfl ?_)); refine X.ls 1 hr1 rfl (by first | exact .md | exact .mo | exact .mf) (Ge.refl _) rfl rfl rfl rfl rfl rfl rfl ?_; skip)
    (repeat' (first | refine J.roA rfl ?_ | refine X.ro rfl rfl ?_ | refine X.rd rfl rfl ?_ | refine X.nil1 ⟨by kernel_rfl, ?_⟩ | refine X.la 1 rfl rfl rfl rfl rfl rfl rfl rfl rfl rfl ?_ | refine X.adw rfl rfl rfl rfl rfl rfl ?_))
    refine X.callq rfl rfl (gV_ok rfl) rfl rfl rfl rfl (en rfl) (credit_ev (hD1.ge hB2).ct hq hx) ?_
    rintro v ⟨w, rfl, hw2⟩
    (repeat' (first | refine J.roA rfl ?_ | refine X.ro rfl rfl ?_ | refine X.nil0 ?_ | refine X.ad rfl rfl rfl rfl rfl rfl (by omega) ?_ | refine X.adw rfl rfl rfl rfl rfl rfl ?_))
    exact ⟨(i + 1, _, _, _, _), ⟨rfl, rfl, rfl, rfl, rfl, rfl, rfl, rfl, rfl, trivial⟩, (fun _ _ _ h => h), ⟨hB1.trans hB2, by dsimp only; omega, inR.wrap _, inR.wrap _, inR.wrap _, inR.wrap _⟩, by dsimp only; omega⟩
  have hF := hD.tt.ok
  have hC := hD.ct.fit
  have hf := hD1.tt.fls
  have D1 := hw.du _ (List.getElem_mem hpos)
  have D2 := hw.du _ (List.getElem_mem (show x.duties.length - 1 < x.duties.length by omega))
  have p1 := D1.pos
  have l1 := D1.le
  have p2 := D2.pos
  have l2 := D2.le
  obtain ⟨i1, g1, g2⟩ := D1.rng 0 p1
  obtain ⟨j1, g3, g4⟩ := D1.rng (x.duties[0].length - 1) (by omega)
  obtain ⟨i2, g5, g6⟩ := D2.rng 0 p2
  obtain ⟨j2, g7, g8⟩ := D2.rng (x.duties[x.duties.length - 1].length - 1) (by omega)
  have q1 := hF.rng i1 g2
  have q2 := hF.rng j2 g8
  have q3 := hC.rep
  have q4 := hC.rel
  (refine X.ix hs1 (i := 0) (by omega) rfl rfl rfl rfl rfl rfl rfl rfl (by first | rfl | omega) fun b1 f1 cs1 hr1 hx1 => ?_); obtain ⟨ua, un, uc, rfl, uq⟩ := hx1; (skip); (refine X.ls 0 hr1 rfl (by first | exact .md | exact .mo | exact .mf) (Ge.refl _) rfl rfl rfl rfl rfl rfl rfl ?_); (skip)
  refine X.callq rfl rfl (gV_ok rfl) rfl rfl rfl rfl (en rfl) (span_ev (d := ⟨ua, un, uc⟩) hF hC hf uq p1 (by omega) g1 g2 g3 g4) ?_
  rintro v rfl
  (repeat' (first | refine X.rf rfl rfl ?_ | refine X.l1 2 rfl rfl rfl rfl rfl rfl rfl rfl rfl ?_ | refine X.la 0 rfl rfl rfl rfl rfl rfl rfl rfl rfl rfl ?_ | refine X.la 1 rfl rfl rfl rfl rfl rfl rfl rfl rfl rfl ?_ | refine X.fe rfl rfl rfl rfl rfl rfl rfl rfl ?_ | refine X.sb rfl rfl rfl rfl rfl rfl (by omega) ?_))
  (refine X.ix hs1 (i := (x.duties.length - 1)) (by omega) rfl rfl rfl rfl rfl rfl rfl rfl (by first | rfl | omega) fun b1 f1 cs1 hr1 hx1 => ?_); obtain ⟨wa, wn, wc, rfl, wq⟩ := hx1; (skip); (refine X.ls 0 hr1 rfl (by first | exact .md | exact .mo | exact .mf) (Ge.refl _) rfl rfl rfl rfl rfl rfl rfl ?_); (skip)
  refine X.callq rfl rfl (gV_ok rfl) rfl rfl rfl rfl (en rfl) (span_ev (d := ⟨wa, wn, wc⟩) hF hC hf wq p2 (by omega) g5 g6 g7 g8) ?_
  rintro v rfl
  (repeat' (first | refine J.seq ?_ | refine J.rdA (by kernel_rfl) rfl ?_ | refine X.rd rfl rfl ?_ | refine X.nilF ⟨by kernel_rfl, ?_⟩ | refine X.l1 2 rfl rfl rfl rfl rfl rfl rfl rfl rfl ?_ | refine X.la 0 rfl rfl rfl rfl rfl rfl rfl rfl rfl rfl ?_ | refine X.al rfl rfl rfl rfl rfl rfl rfl fun b => ?_ | refine X.fe rfl rfl rfl rfl rfl rfl rfl rfl ?_ | refine X.st 3 rfl rfl rfl rfl rfl rfl rfl rfl rfl ?_ | refine X.bd rfl rfl rfl rfl rfl rfl rfl rfl rfl rfl rfl ?_))
  refine X.callq rfl rfl (gV_ok rfl) rfl rfl rfl rfl (en rfl) (zone_ev hD1.tt hw.base) ?_
  rintro v ⟨z, rfl, hz⟩
  (repeat' (first | refine X.la 3 rfl rfl rfl rfl rfl rfl rfl rfl rfl rfl ?_))
  refine X.callq rfl rfl (gV_ok rfl) rfl rfl rfl rfl (en rfl) (localDays_ev hz _ _) ?_
  rintro v ⟨da, db, de, rfl, hda, hdb⟩
  (repeat' (first | refine J.seq ?_ | refine J.roA rfl ?_ | refine X.ro rfl rfl ?_ | refine X.rd rfl rfl ?_ | refine X.nil1 ⟨by kernel_rfl, ?_⟩ | refine X.l1 3 rfl rfl rfl rfl rfl rfl rfl rfl rfl ?_ | refine X.sb rfl rfl rfl rfl rfl rfl (by omega) ?_ | refine X.bs1 rfl rfl rfl rfl rfl rfl rfl rfl rfl rfl rfl rfl rfl (fun b => ?_) | refine X.adw rfl rfl rfl rfl rfl rfl ?_ | refine X.sbw rfl rfl rfl rfl rfl rfl ?_))
  refine X.giveO (p := 4) (b := b) rfl fun B2 hB2 hg => ?_
  have hv := giveInts hg [(s.n : Int), a1, a2, IntKind.i64.wrap (IntKind.i64.wrap (db - da) + 1), a3, fs[j2].arr + c.rel - (fs[i1].dep - c.rep), a4] rfl
  have hall : ∀ a ∈ [(s.n : Int), a1, a2, IntKind.i64.wrap (IntKind.i64.wrap (db - da) + 1), a3, fs[j2].arr + c.rel - (fs[i1].dep - c.rep), a4], inR a := by
    intro a ha
    simp only [List.mem_cons, List.not_mem_nil, or_false] at ha
    rcases ha with rfl | rfl | rfl | rfl | rfl | rfl | rfl
    · exact inR.of (by omega)
    · exact r1
    · exact r2
    · exact inR.wrap _
    · exact r3
    · exact inR.of (by omega)
    · exact r4
  refine X.call rfl rfl (gV_ok rfl) rfl rfl rfl rfl (en rfl) (attrs_ev (.inr (.inr rfl)) hv (Nat.le_refl 7) hall) ?_
  rintro v B3 hB3 ⟨q, xs, rfl, hq, hx⟩
  (repeat' (first | refine X.ro rfl rfl ?_ | refine X.nil0 ?_ | refine J.ret ?_))
  exact ⟨_, .cons (.tmp rfl) .nil, rfl, fun B' hB' _ => ⟨q, xs, rfl, hq.ge hB', hx⟩⟩
end
end Go.Proofs.YthldmlfpebgojaaGreatDoor
/-
  Contracts: cost and violations of a pairing.
  Condition: timetable and contract are ones of the laws' data; the pairing is structurally valid.
-/
namespace Go.Proofs.YthldmlfpebgojaaGreatDoor
set_option linter.unusedSimpArgs false
set_option linter.unusedVariables false
set_option maxRecDepth 100000
set_option maxHeartbeats 0
open Go.RowKit Go

section
variable {B : St} {t : TT} {c : CT} {fs : List Flt} (hD : DAt B t c fs)
include hD
variable {s : Slc} {x : Pair} (hs : SqS .duty B s x.duties)
include hs
theorem total_ev (hw : WOk fs x) : EvP Tryz.prog 117 [t.v, c.v, x.sv s] B fun v _ => isI v := by
  have hn := hs.len
  have hle := hw.le
  refine EvP.go Tryz.func117 rfl Tryz.ntmps117 Tryz.results117 rfl [] rfl ?_
  (repeat' (first | refine J.seq ?_ | refine J.roA rfl ?_ | refine J.rdA (by kernel_rfl) rfl ?_ | refine X.ro rfl rfl ?_ | refine X.nil0 ?_ | refine X.la 0 rfl rfl rfl rfl rfl rfl rfl rfl rfl rfl ?_ | refine X.la 1 rfl rfl rfl rfl rfl rfl rfl rfl rfl rfl ?_ | refine X.la 2 rfl rfl rfl rfl rfl rfl rfl rfl rfl rfl ?_ | refine X.bx rfl rfl rfl rfl rfl rfl rfl rfl fun b => ?_))
  rename_i tb cb
  refine X.call rfl rfl (gV_ok rfl) rfl rfl rfl rfl (en rfl) (pairingAttrs_ev hD hs hw) ?_
  rintro v B0 hB0 ⟨q, xs, rfl, hq, hx⟩
  skip
  refine X.callq rfl rfl (gV_ok rfl) rfl rfl rfl rfl (en rfl) (cost_ev (hD.ct.ge hB0) (.inr (.inr rfl)) hq hx) ?_
  rintro v ⟨n0, rfl, hn0⟩
  (repeat' (first | refine J.seq ?_ | refine J.block ?_ | refine J.roA rfl ?_ | refine X.ro rfl rfl ?_ | refine X.rd rfl rfl ?_ | refine X.nil0 ?_ | refine X.nil1 ⟨by kernel_rfl, ?_⟩))
  have hs0 := hs.ge hB0
  have hD0 := hD.ge hB0
  refine J.loop (σ := Nat × Int) (fun p => [(3, .pointer (some ⟨tb, 0, none⟩)), (4, .pointer (some ⟨cb, 0, none⟩)), (5, .pointer (some ⟨b, 0, none⟩)), (7, .int .i64 p.2), (8, .int .i64 (p.1 : Int))])
    (fun _ => [some (tb, ⟨[t.zs.v, t.aps.v, t.fls.v], 27, 1⟩), some (cb, ⟨c.cells, 35, 1⟩), some (b, ⟨[.string x.base, s.v], 78, 1⟩)]) (fun B1 p => Ge B0 B1 ∧ p.1 ≤ x.duties.length ∧ inR p.2) (fun p => x.duties.length - p.1) (0, n0) ⟨Ge.refl B0, Nat.zero_le _, hn0⟩ ⟨rfl, rfl, rfl, rfl, rfl, trivial⟩ (fun _ _ _ h => h) ?_
  rintro ⟨i, m⟩ B1 hB ⟨hB1, hi, hm⟩
  dsimp only at hi hm ⊢
  have hs1 := hs0.ge hB1
  have hD1 := hD0.ge hB1
  (repeat' (first | refine J.seq ?_ | refine J.block ?_ | refine J.roA rfl ?_ | refine J.rdA (by kernel_rfl) rfl ?_ | refine X.ro rfl rfl ?_ | refine X.rd rfl rfl ?_ | refine X.nil0 ?_ | refine J.skip ?_ | refine J.exit ?_ | refine J.ret ?_ | refine X.l1 2 rfl rfl rfl rfl rfl rfl rfl rfl rfl ?_ | refine X.la 0 rfl rfl rfl rfl rfl rfl rfl rfl rfl rfl ?_ | refine X.la 1 rfl rfl rfl rfl rfl rfl rfl rfl rfl rfl ?_ | refine J.cond_d rfl (fun h => ?_) (fun h => ?_)))
  · have hi3 : i < x.duties.length := by omega
    have hok := hw.du _ (List.getElem_mem hi3)
    (refine X.ix hs1 (i := i) (by omega) rfl rfl rfl rfl rfl rfl rfl rfl (by first | rfl | omega) fun b1 f1 cs1 hr1 hx1 => ?_); obtain ⟨ua, un, uc, rfl, uq⟩ := hx1; (skip); (refine X.ls 0 hr1 rfl (by first | exact .md | exact .mo | exact .mf) (Ge.refl _) rfl rfl rfl rfl rfl rfl rfl ?_); (skip)
    refine X.call rfl rfl (gV_ok rfl) rfl rfl rfl rfl (en rfl) (dutyAttrs_ev (d := ⟨ua, un, uc⟩) hD1.tt hD.ct.fit uq hok) ?_
    rintro v B2 hB2 ⟨q2, xs2, rfl, hq2, hx2⟩
    skip
    refine X.callq rfl rfl (gV_ok rfl) rfl rfl rfl rfl (en rfl) (cost_ev (hD1.ge hB2).ct (.inl rfl) hq2 hx2) ?_
    rintro v ⟨w, rfl, hw2⟩
    (repeat' (first | refine J.seq ?_ | refine J.roA rfl ?_ | refine J.rdA (by kernel_rfl) rfl ?_ | refine X.ro rfl rfl ?_ | refine X.rd rfl rfl ?_ | refine X.nil0 ?_ | refine X.nil1 ⟨by kernel_rfl, ?_⟩ | refine J.skip ?_ | refine X.l1 2 rfl rfl rfl rfl rfl rfl rfl rfl rfl ?_ | refine X.la 0 rfl rfl rfl rfl rfl rfl rfl rfl rfl rfl ?_ | refine X.la 1 rfl rfl rfl rfl rfl rfl rfl rfl rfl rfl ?_ | refine X.ad rfl rfl rfl rfl rfl rfl (by omega) ?_ | refine J.cond_d rfl (fun h => ?_) (fun h => ?_) | refine X.adw rfl rfl rfl rfl rfl rfl ?_))
    · have hi4 : i + 1 < x.duties.length := by omega
      have hok2 := hw.du _ (List.getElem_mem hi4)
      have hs2 := hs1.ge hB2
      have hD2 := hD1.ge hB2
      (refine X.ix hs2 (i := i) (by omega) rfl rfl rfl rfl rfl rfl rfl rfl (by first | rfl | omega) fun b1 f1 cs1 hr1 hx1 => ?_); obtain ⟨ya, yn, yc, rfl, yq⟩ := hx1; (skip); (refine X.ls 0 hr1 rfl (by first | exact .md | exact .mo | exact .mf) (Ge.refl _) rfl rfl rfl rfl rfl rfl rfl ?_); ((repeat' (first | refine X.rd rfl rfl ?_ | refine X.l1 2 rfl rfl rfl rfl rfl rfl rfl rfl rfl ?_ | refine X.ad rfl rfl rfl rfl rfl rfl (by omega) ?_)))
      (refine X.ix hs2 (i := (i + 1)) (by omega) rfl rfl rfl rfl rfl rfl rfl rfl (by first | rfl | omega) fun b1 f1 cs1 hr1 hx1 => ?_); obtain ⟨za, zn, zc, rfl, zq⟩ := hx1; (skip); (refine X.ls 0 hr1 rfl (by first | exact .md | exact .mo | exact .mf) (Ge.refl _) rfl rfl rfl rfl rfl rfl rfl ?_); (skip)
      refine X.call rfl rfl (gV_ok rfl) rfl rfl rfl rfl (en rfl) (restAttrs_ev (d1 := ⟨ya, yn, yc⟩) (d2 := ⟨za, zn, zc⟩) hD2 yq zq hok hok2 x.base) ?_
      rintro v B3 hB3 ⟨q3, xs3, rfl, hq3, hx3⟩
      skip
      refine X.callq rfl rfl (gV_ok rfl) rfl rfl rfl rfl (en rfl) (cost_ev (hD2.ge hB3).ct (.inr (.inl rfl)) hq3 hx3) ?_
      rintro v ⟨w3, rfl, hw3⟩
      (repeat' (first | refine J.roA rfl ?_ | refine X.ro rfl rfl ?_ | refine X.rd rfl rfl ?_ | refine X.nil0 ?_ | refine X.nil1 ⟨by kernel_rfl, ?_⟩ | refine X.ad rfl rfl rfl rfl rfl rfl (by omega) ?_ | refine X.adw rfl rfl rfl rfl rfl rfl ?_))
      exact ⟨(i + 1, _), ⟨rfl, rfl, rfl, rfl, rfl, trivial⟩, (fun _ _ _ h => h), ⟨(hB1.trans hB2).trans hB3, by dsimp only; omega, inR.wrap _⟩, by dsimp only; omega⟩
    · exact ⟨(i + 1, _), ⟨rfl, rfl, rfl, rfl, rfl, trivial⟩, (fun _ _ _ h => h), ⟨hB1.trans hB2, by dsimp only; omega, inR.wrap _⟩, by dsimp only; omega⟩
  · exact ⟨_, .cons (.tmp rfl) .nil, rfl, fun _ _ _ => ⟨_, rfl, hm⟩⟩
theorem viols_ev (hw : WOk fs x) : EvP Tryz.prog 116 [t.v, c.v, x.sv s] B fun v B1 => ∃ (r : Slc) (vs : List Viol), v = r.v ∧ SqS .viol B1 r vs := by
  have hn := hs.len
  have hle := hw.le
  refine EvP.go Tryz.func116 rfl Tryz.ntmps116 Tryz.results116 rfl [none] rfl ?_
  (repeat' (first | refine J.seq ?_ | refine J.block ?_ | refine J.roA rfl ?_ | refine X.ro rfl rfl ?_ | refine X.nil0 ?_ | refine X.bx rfl rfl rfl rfl rfl rfl rfl rfl fun b => ?_))
  rename_i tb cb
  refine J.loop (σ := Nat × List Value × Nat × Option Nat) (fun p => [(3, .pointer (some ⟨tb, 0, none⟩)), (4, .pointer (some ⟨cb, 0, none⟩)), (5, .pointer (some ⟨b, 0, none⟩)), (7, .slice (oa p.2.2.2) p.2.2.1 p.2.2.1), (8, .int .i64 (p.1 : Int))])
    (fun p => [accE 301 3 p.2.2.2 p.2.1, some (tb, ⟨[t.zs.v, t.aps.v, t.fls.v], 27, 1⟩), some (cb, ⟨c.cells, 35, 1⟩), some (b, ⟨[.string x.base, s.v], 78, 1⟩)]) (fun B1 p => Ge B B1 ∧ p.1 ≤ x.duties.length ∧ p.2.2.1 ≤ 80 * p.1 ∧ accOk p.2.2.2 p.2.2.1 ∧ ∃ vs, vs.length = p.2.2.1 ∧ Rows .viol B1 p.2.1 vs) (fun p => x.duties.length - p.1) (0, [], 0, none) ⟨Ge.refl B, Nat.zero_le _, Nat.le_refl _, rfl, [], rfl, Rows.nil⟩ ⟨rfl, rfl, rfl, rfl, rfl, trivial⟩ (fun _ _ _ h => h) ?_
  rintro ⟨i, cells, n, ob⟩ B1 hB ⟨hB1, hi, hnb, hob, vs, hvl, hrow⟩
  dsimp only at hi hnb hob hvl hrow ⊢
  have hs1 := hs.ge hB1
  have hD1 := hD.ge hB1
  have hcl : cells.length = n * 3 := by have := hrow.1; rw [hvl] at this; exact this
  (repeat' (first | refine J.seq ?_ | refine J.block ?_ | refine J.roA rfl ?_ | refine J.rdA (by kernel_rfl) rfl ?_ | refine X.ro rfl rfl ?_ | refine X.rd rfl rfl ?_ | refine X.nil0 ?_ | refine J.skip ?_ | refine J.exit ?_ | refine X.l1 3 rfl rfl rfl rfl rfl rfl rfl rfl rfl ?_ | refine X.la 1 rfl rfl rfl rfl rfl rfl rfl rfl rfl rfl ?_ | refine X.la 2 rfl rfl rfl rfl rfl rfl rfl rfl rfl rfl ?_ | refine X.la 3 rfl rfl rfl rfl rfl rfl rfl rfl rfl rfl ?_ | refine J.cond_d rfl (fun h => ?_) (fun h => ?_)))
  · have hi3 : i < x.duties.length := by omega
    have hok := hw.du _ (List.getElem_mem hi3)
    (refine X.ix hs1 (i := i) (by omega) rfl rfl rfl rfl rfl rfl rfl rfl (by first | rfl | omega) fun b1 f1 cs1 hr1 hx1 => ?_); obtain ⟨ua, un, uc, rfl, uq⟩ := hx1; (skip); (refine X.ls 0 hr1 rfl (by first | exact .md | exact .mo | exact .mf) (Ge.refl _) rfl rfl rfl rfl rfl rfl rfl ?_); (skip)
    refine X.call rfl rfl (gV_ok rfl) rfl rfl rfl rfl (en rfl) (dutyAttrs_ev (d := ⟨ua, un, uc⟩) hD1.tt hD.ct.fit uq hok) ?_
    rintro v B2 hB2 ⟨q2, xs2, rfl, hq2, hx2⟩
    skip
    refine X.call rfl rfl (gV_ok rfl) rfl rfl rfl rfl (en rfl) (violations_ev (hD1.ge hB2).ct (.inl rfl) (i : Int) hq2 hx2) ?_
    rintro v B3 hB3 ⟨r3, vs3, rfl, hr3, hv3⟩
    skip
    have hrow := hrow.ge (hB2.trans hB3)
    refine X.apq (ys := vs3) (s2 := r3) 0 hr3 rfl rfl rfl rfl rfl rfl rfl rfl rfl rfl rfl rfl rfl hcl hob (by show (_ + _) * 32 ≤ _; omega) (by omega) fun oe add hadd hoe => ?_
    have hrow2 := hrow.app hadd
    have hcl2 : (cells ++ add).length = (n + vs3.length) * 3 := by have := hrow2.1; rw [this, List.length_append, hvl]; rfl
    (repeat' (first | refine J.seq ?_ | refine J.roA rfl ?_ | refine J.rdA (by kernel_rfl) rfl ?_ | refine X.ro rfl rfl ?_ | refine X.rd rfl rfl ?_ | refine X.nil0 ?_ | refine X.nil1 ⟨by kernel_rfl, ?_⟩ | refine J.skip ?_ | refine X.l1 3 rfl rfl rfl rfl rfl rfl rfl rfl rfl ?_ | refine X.la 1 rfl rfl rfl rfl rfl rfl rfl rfl rfl rfl ?_ | refine X.la 2 rfl rfl rfl rfl rfl rfl rfl rfl rfl rfl ?_ | refine X.ad rfl rfl rfl rfl rfl rfl (by omega) ?_ | refine J.cond_d rfl (fun h => ?_) (fun h => ?_)))
    · have hi4 : i + 1 < x.duties.length := by omega
      have hok2 := hw.du _ (List.getElem_mem hi4)
      have hs2 := hs1.ge (hB2.trans hB3)
      have hD2 := hD1.ge (hB2.trans hB3)
      (refine X.ix hs2 (i := i) (by omega) rfl rfl rfl rfl rfl rfl rfl rfl (by first | rfl | omega) fun b1 f1 cs1 hr1 hx1 => ?_); obtain ⟨ya, yn, yc, rfl, yq⟩ := hx1; (skip); (refine X.ls 0 hr1 rfl (by first | exact .md | exact .mo | exact .mf) (Ge.refl _) rfl rfl rfl rfl rfl rfl rfl ?_); ((repeat' (first | refine X.rd rfl rfl ?_ | refine X.l1 3 rfl rfl rfl rfl rfl rfl rfl rfl rfl ?_ | refine X.ad rfl rfl rfl rfl rfl rfl (by omega) ?_)))
      (refine X.ix hs2 (i := (i + 1)) (by omega) rfl rfl rfl rfl rfl rfl rfl rfl (by first | rfl | omega) fun b1 f1 cs1 hr1 hx1 => ?_); obtain ⟨za, zn, zc, rfl, zq⟩ := hx1; (skip); (refine X.ls 0 hr1 rfl (by first | exact .md | exact .mo | exact .mf) (Ge.refl _) rfl rfl rfl rfl rfl rfl rfl ?_); (skip)
      refine X.call rfl rfl (gV_ok rfl) rfl rfl rfl rfl (en rfl) (restAttrs_ev (d1 := ⟨ya, yn, yc⟩) (d2 := ⟨za, zn, zc⟩) hD2 yq zq hok hok2 x.base) ?_
      rintro v B4 hB4 ⟨q4, xs4, rfl, hq4, hx4⟩
      skip
      refine X.call rfl rfl (gV_ok rfl) rfl rfl rfl rfl (en rfl) (violations_ev (hD2.ge hB4).ct (.inr (.inl rfl)) (i : Int) hq4 hx4) ?_
      rintro v B5 hB5 ⟨r5, vs5, rfl, hr5, hv5⟩
      skip
      have hrow2 := hrow2.ge (hB4.trans hB5)
      refine X.apq (ys := vs5) (s2 := r5) 0 hr5 rfl rfl rfl rfl rfl rfl rfl rfl rfl rfl rfl rfl rfl hcl2 hoe (by show (_ + _) * 32 ≤ _; omega) (by omega) fun og add2 hadd2 hog => ?_
      (repeat' (first | refine J.roA rfl ?_ | refine X.ro rfl rfl ?_ | refine X.rd rfl rfl ?_ | refine X.nil0 ?_ | refine X.nil1 ⟨by kernel_rfl, ?_⟩ | refine X.ad rfl rfl rfl rfl rfl rfl (by omega) ?_))
      exact ⟨(i + 1, cells ++ add ++ add2, n + vs3.length + vs5.length, og), ⟨rfl, rfl, rfl, rfl, rfl, trivial⟩, (fun _ _ _ h => h), ⟨(hB1.trans (hB2.trans hB3)).trans (hB4.trans hB5), by dsimp only; omega, by dsimp only; omega, hog, vs ++ vs3 ++ vs5, by rw [List.length_append, List.length_append, hvl], hrow2.app hadd2⟩, by dsimp only; omega⟩
    · exact ⟨(i + 1, cells ++ add, n + vs3.length, oe), ⟨rfl, rfl, rfl, rfl, rfl, trivial⟩, (fun _ _ _ h => h), ⟨hB1.trans (hB2.trans hB3), by dsimp only; omega, by dsimp only; omega, hoe, vs ++ vs3, by rw [List.length_append, hvl], hrow2⟩, by dsimp only; omega⟩
  refine X.call rfl rfl (gV_ok rfl) rfl rfl rfl rfl (en rfl) (pairingAttrs_ev hD1 hs1 hw) ?_
  rintro v B2 hB2 ⟨q2, xs2, rfl, hq2, hx2⟩
  skip
  refine X.call rfl rfl (gV_ok rfl) rfl rfl rfl rfl (en rfl) (violations_ev (hD1.ge hB2).ct (.inr (.inr rfl)) 0 hq2 hx2) ?_
  rintro v B3 hB3 ⟨r3, vs3, rfl, hr3, hv3⟩
  skip
  have hrow := hrow.ge (hB2.trans hB3)
  refine X.apq (ys := vs3) (s2 := r3) 0 hr3 rfl rfl rfl rfl rfl rfl rfl rfl rfl rfl rfl rfl rfl hcl hob (by show (_ + _) * 32 ≤ _; omega) (by omega) fun oe add hadd hoe => ?_
  (repeat' (first | refine X.rd rfl rfl ?_ | refine X.nil1 ⟨by kernel_rfl, ?_⟩ | refine J.ret ?_))
  refine ⟨_, .cons (.tmp rfl) .nil, rfl, fun B' hB' hK => ⟨⟨oa oe, n + vs3.length, n + vs3.length⟩, vs ++ vs3, rfl, acc_sqs (D := Dt.viol) (el := 301) (by rw [List.length_append, hvl]) hoe ((hrow.app hadd).ge hB') fun b X h => hK b X (by rw [← h]; exact .head _)⟩⟩
end
end Go.Proofs.YthldmlfpebgojaaGreatDoor
/-
  Contracts: the structure of a pairing.
  Condition: timetable and contract are ones of the laws' data.
-/
namespace Go.Proofs.YthldmlfpebgojaaGreatDoor
set_option linter.unusedSimpArgs false
set_option linter.unusedVariables false
set_option maxRecDepth 100000
set_option maxHeartbeats 0
open Go.RowKit Go

theorem apt_of {s : ByteArray} {z : Int} (hz : isIdx Apt.code apts s z) (h : ¬ z < 0) : isApt s := by
  rcases hz with ⟨i, hi, rfl, he⟩ | ⟨rfl, _⟩
  · have hi' : i = 0 ∨ i = 1 ∨ i = 2 := by simp [apts] at hi; omega
    rcases hi' with rfl | rfl | rfl
    · exact .inl he.symm
    · exact .inr (.inl he.symm)
    · exact .inr (.inr he.symm)
  · exact absurd (by decide) h
section
variable {B : St} {t : TT} {c : CT} {fs : List Flt} (hD : DAt B t c fs)
include hD
variable {s : Slc} {x : Pair} (hs : SqS .duty B s x.duties)
include hs
theorem whole_ev : EvP Tryz.prog 114 [t.v, c.v, x.sv s] B fun v _ => ∃ e, v = .int .i64 e ∧ (e = 0 → WOk fs x) := by
  have hn := hs.len
  have hF := hD.tt.ok
  have hC := hD.ct.fit
  have hf := hD.tt.fls
  refine EvP.go Tryz.func114 rfl Tryz.ntmps114 Tryz.results114 rfl [] rfl ?_
  (repeat' (first | refine J.seq ?_ | refine J.roA rfl ?_ | refine X.ro rfl rfl ?_ | refine X.nil0 ?_ | refine X.l1 0 rfl rfl rfl rfl rfl rfl rfl rfl rfl ?_ | refine X.l1 2 rfl rfl rfl rfl rfl rfl rfl rfl rfl ?_ | refine X.bx rfl rfl rfl rfl rfl rfl rfl rfl fun b => ?_))
  rename_i tb cb
  refine X.callq rfl rfl (gV_ok rfl) rfl rfl rfl rfl (en rfl) (airportIndex_ev x.base hD.tt.aps (by decide)) ?_
  rintro v ⟨z, rfl, hz⟩
  (repeat' (first | refine J.seq ?_ | refine J.block ?_ | refine J.roA rfl ?_ | refine X.ro rfl rfl ?_ | refine X.nil0 ?_ | refine J.skip ?_ | refine J.ret ?_ | refine J.cond_t rfl ?_ | refine X.l1 2 rfl rfl rfl rfl rfl rfl rfl rfl rfl ?_ | refine X.g_d rfl rfl rfl (fun h => ?_) (fun h => ?_) | refine J.cond_d rfl (fun h => ?_) (fun h => ?_)))
  · exact ⟨_, .cons (.tmp rfl) .nil, rfl, fun _ _ _ => ⟨_, rfl, fun h => absurd h (by decide)⟩⟩
  · exact ⟨_, .cons (.tmp rfl) .nil, rfl, fun _ _ _ => ⟨_, rfl, fun h => absurd h (by decide)⟩⟩
  · exact ⟨_, .cons (.tmp rfl) .nil, rfl, fun _ _ _ => ⟨_, rfl, fun h => absurd h (by decide)⟩⟩
  have hpos : 0 < x.duties.length := by omega
  have hle : x.duties.length ≤ 6 := by omega
  have hba := apt_of hz (by assumption)
  refine J.loop (σ := Nat × Bool) (fun p => [(3, .pointer (some ⟨tb, 0, none⟩)), (4, .pointer (some ⟨cb, 0, none⟩)), (5, .pointer (some ⟨b, 0, none⟩)), (7, .int .i64 (s.n : Int)), (8, .bool p.2), (9, .int .i64 (p.1 : Int))])
    (fun _ => [some (tb, ⟨[t.zs.v, t.aps.v, t.fls.v], 27, 1⟩), some (cb, ⟨c.cells, 35, 1⟩), some (b, ⟨[.string x.base, s.v], 78, 1⟩)]) (fun B1 p => B1 = B ∧ p.1 ≤ x.duties.length ∧ ∀ (j : Nat) (hj : j < x.duties.length), j < p.1 → DOk fs x.duties[j]) (fun p => x.duties.length - p.1) (0, false) ⟨rfl, Nat.zero_le _, fun j _ h => absurd h (Nat.not_lt_zero j)⟩ ⟨rfl, rfl, rfl, rfl, rfl, rfl, trivial⟩ (fun _ _ _ h => h) ?_
  rintro ⟨i, op⟩ B1 hB ⟨rfl, hi, hdu⟩
  dsimp only at hi hdu ⊢
  (repeat' (first | refine J.seq ?_ | refine J.block ?_ | refine J.roA rfl ?_ | refine J.rdA (by kernel_rfl) rfl ?_ | refine X.ro rfl rfl ?_ | refine X.rd rfl rfl ?_ | refine X.nil0 ?_ | refine J.skip ?_ | refine J.exit ?_ | refine X.l1 2 rfl rfl rfl rfl rfl rfl rfl rfl rfl ?_ | refine X.la 0 rfl rfl rfl rfl rfl rfl rfl rfl rfl rfl ?_ | refine X.la 1 rfl rfl rfl rfl rfl rfl rfl rfl rfl rfl ?_ | refine J.cond_d rfl (fun h => ?_) (fun h => ?_)))
  · have hi3 : i < x.duties.length := by omega
    (refine X.ix hs (i := i) (by omega) rfl rfl rfl rfl rfl rfl rfl rfl (by first | rfl | omega) fun b1 f1 cs1 hr1 hx1 => ?_); obtain ⟨ua, un, uc, rfl, uq⟩ := hx1; (skip); (refine X.ls 0 hr1 rfl (by first | exact .md | exact .mo | exact .mf) (Ge.refl _) rfl rfl rfl rfl rfl rfl rfl ?_); (skip)
    refine X.callq rfl rfl (gV_ok rfl) rfl rfl rfl rfl (en rfl) (structure_ev (d := ⟨ua, un, uc⟩) hF hC hf uq) ?_
    rintro v ⟨e, rfl, he⟩
    (repeat' (first | refine J.seq ?_ | refine J.block ?_ | refine J.roA rfl ?_ | refine X.ro rfl rfl ?_ | refine X.rd rfl rfl ?_ | refine X.nil0 ?_ | refine X.nil1 ⟨by kernel_rfl, ?_⟩ | refine J.skip ?_ | refine J.ret ?_ | refine J.cond_nd rfl (fun h => ?_) (fun h => ?_)))
    · exact ⟨_, .cons (.tmp rfl) .nil, rfl, fun _ _ _ => ⟨_, rfl, fun h => absurd h (by assumption)⟩⟩
    have hok := he (by assumption)
    have hul : un = x.duties[i].length := uq.1
    have hle2 := hok.le
    refine J.loop (σ := Nat × Bool) (fun p => [(3, .pointer (some ⟨tb, 0, none⟩)), (4, .pointer (some ⟨cb, 0, none⟩)), (5, .pointer (some ⟨b, 0, none⟩)), (7, .int .i64 (s.n : Int)), (8, .bool p.2), (9, .int .i64 (i : Int)), (11, .int .i64 (p.1 : Int))])
      (fun _ => [some (tb, ⟨[t.zs.v, t.aps.v, t.fls.v], 27, 1⟩), some (cb, ⟨c.cells, 35, 1⟩), some (b, ⟨[.string x.base, s.v], 78, 1⟩)]) (fun B2 p => B2 = B1 ∧ p.1 ≤ x.duties[i].length) (fun p => x.duties[i].length - p.1) (0, op) ⟨rfl, Nat.zero_le _⟩ ⟨rfl, rfl, rfl, rfl, rfl, rfl, rfl, trivial⟩ (fun _ _ _ h => h) ?_
    rintro ⟨k, op2⟩ B2 hB2 ⟨rfl, hk⟩
    dsimp only at hk ⊢
    (repeat' (first | refine J.seq ?_ | refine J.roA rfl ?_ | refine X.ro rfl rfl ?_ | refine X.l1 2 rfl rfl rfl rfl rfl rfl rfl rfl rfl ?_))
    (refine X.ix hs (i := i) (by omega) rfl rfl rfl rfl rfl rfl rfl rfl (by first | rfl | omega) fun b1 f1 cs1 hr1 hx1 => ?_); obtain ⟨ya, yn, yc, rfl, yq⟩ := hx1; (skip); (refine X.ls 0 hr1 rfl (by first | exact .md | exact .mo | exact .mf) (Ge.refl _) rfl rfl rfl rfl rfl rfl rfl ?_); ((repeat' (first | refine J.seq ?_ | refine J.block ?_ | refine J.roA rfl ?_ | refine X.ro rfl rfl ?_ | refine X.nil0 ?_ | refine J.skip ?_ | refine J.exit ?_ | refine X.l1 2 rfl rfl rfl rfl rfl rfl rfl rfl rfl ?_ | refine X.ad rfl rfl rfl rfl rfl rfl (by omega) ?_ | ((fail_if_success refine X.kn rfl ?_); refine X.g_b rfl rfl rfl (fun h => ?_) (fun h => ?_)) | refine J.cond_d rfl (fun h => ?_) (fun h => ?_))))
    · exact ⟨(k + 1, _), ⟨rfl, rfl, rfl, rfl, rfl, rfl, rfl, trivial⟩, (fun _ _ _ h => h), ⟨rfl, by have hyl : yn = x.duties[i].length := yq.1; dsimp only; omega⟩, by have hyl : yn = x.duties[i].length := yq.1; dsimp only; omega⟩
    · have hyl : yn = x.duties[i].length := yq.1
      (refine X.ix hs (i := i) (by omega) rfl rfl rfl rfl rfl rfl rfl rfl (by first | rfl | omega) fun b1 f1 cs1 hr1 hx1 => ?_); obtain ⟨wa, wn, wc, rfl, wq⟩ := hx1; (skip); (refine X.ls 0 hr1 rfl (by first | exact .md | exact .mo | exact .mf) (Ge.refl _) rfl rfl rfl rfl rfl rfl rfl ?_); ((repeat' (first | refine X.ro rfl rfl ?_)))
      (refine X.ix wq (i := k) (by omega) rfl rfl rfl rfl rfl rfl rfl rfl (by first | rfl | omega) fun b1 f1 cs1 hr1 hx1 => ?_; obtain rfl := hx1; (repeat' (first | refine X.ro rfl rfl ?_)); refine X.ls 1 hr1 rfl (by first | exact .md | exact .mo | exact .mf) (Ge.refl _) rfl rfl rfl rfl rfl rfl rfl ?_; (repeat' (first | refine J.roA rfl ?_ | refine X.ro rfl rfl ?_ | refine X.nil0 ?_ | refine X.ad rfl rfl rfl rfl rfl rfl (by omega) ?_)))
      exact ⟨(k + 1, _), ⟨rfl, rfl, rfl, rfl, rfl, rfl, rfl, trivial⟩, (fun _ _ _ h => h), ⟨rfl, by dsimp only; omega⟩, by dsimp only; omega⟩
    · exact ⟨(i + 1, op2), ⟨rfl, rfl, rfl, rfl, rfl, rfl, trivial⟩, (fun _ _ _ h => h), ⟨rfl, by dsimp only; omega, fun j hj h => by
        rcases Nat.lt_or_eq_of_le (Nat.le_of_lt_succ h) with h4 | rfl
        · exact hdu j hj h4
        · exact hok⟩, by dsimp only; omega⟩
  have hall : ∀ (j : Nat) (hj : j < x.duties.length), DOk fs x.duties[j] := fun j hj => hdu j hj (by omega)
  refine J.loop (σ := Nat) (fun p => [(3, .pointer (some ⟨tb, 0, none⟩)), (4, .pointer (some ⟨cb, 0, none⟩)), (5, .pointer (some ⟨b, 0, none⟩)), (7, .int .i64 (s.n : Int)), (8, .bool op), (12, .int .i64 (p : Int))])
    (fun _ => [some (tb, ⟨[t.zs.v, t.aps.v, t.fls.v], 27, 1⟩), some (cb, ⟨c.cells, 35, 1⟩), some (b, ⟨[.string x.base, s.v], 78, 1⟩)]) (fun B2 p => B2 = B1 ∧ 1 ≤ p ∧ p ≤ x.duties.length) (fun p => x.duties.length - p) 1 ⟨rfl, Nat.le_refl _, hpos⟩ ⟨rfl, rfl, rfl, rfl, rfl, rfl, trivial⟩ (fun _ _ _ h => h) ?_
  rintro k B2 hB2 ⟨rfl, hk1, hk⟩
  (repeat' (first | refine J.seq ?_ | refine J.block ?_ | refine J.roA rfl ?_ | refine J.rdA (by kernel_rfl) rfl ?_ | refine X.ro rfl rfl ?_ | refine X.rd rfl rfl ?_ | refine X.nil0 ?_ | refine J.skip ?_ | refine J.exit ?_ | refine X.l1 2 rfl rfl rfl rfl rfl rfl rfl rfl rfl ?_ | refine X.la 0 rfl rfl rfl rfl rfl rfl rfl rfl rfl rfl ?_ | refine X.la 1 rfl rfl rfl rfl rfl rfl rfl rfl rfl rfl ?_ | refine X.sb rfl rfl rfl rfl rfl rfl (by omega) ?_ | refine J.cond_d rfl (fun h => ?_) (fun h => ?_)))
  · (refine X.ix hs (i := (k - 1)) (by omega) rfl rfl rfl rfl rfl rfl rfl rfl (by first | rfl | omega) fun b1 f1 cs1 hr1 hx1 => ?_); obtain ⟨ua, un, uc, rfl, uq⟩ := hx1; (skip); (refine X.ls 0 hr1 rfl (by first | exact .md | exact .mo | exact .mf) (Ge.refl _) rfl rfl rfl rfl rfl rfl rfl ?_); ((repeat' (first | refine X.rd rfl rfl ?_ | refine X.l1 2 rfl rfl rfl rfl rfl rfl rfl rfl rfl ?_)))
    (refine X.ix hs (i := k) (by omega) rfl rfl rfl rfl rfl rfl rfl rfl (by first | rfl | omega) fun b1 f1 cs1 hr1 hx1 => ?_); obtain ⟨wa, wn, wc, rfl, wq⟩ := hx1; (skip); (refine X.ls 0 hr1 rfl (by first | exact .md | exact .mo | exact .mf) (Ge.refl _) rfl rfl rfl rfl rfl rfl rfl ?_); (skip)
    refine X.callq rfl rfl (gV_ok rfl) rfl rfl rfl rfl (en rfl) (between_ev (d1 := ⟨ua, un, uc⟩) (d2 := ⟨wa, wn, wc⟩) hF hC hf uq wq) ?_
    rintro v ⟨e, rfl, he⟩
    (repeat' (first | refine J.seq ?_ | refine J.roA rfl ?_ | refine X.ro rfl rfl ?_ | refine X.rd rfl rfl ?_ | refine X.nil0 ?_ | refine X.nil1 ⟨by kernel_rfl, ?_⟩ | refine J.skip ?_ | refine J.ret ?_ | refine X.ad rfl rfl rfl rfl rfl rfl (by omega) ?_ | refine J.cond_nd rfl (fun h => ?_) (fun h => ?_)))
    · exact ⟨_, .cons (.tmp rfl) .nil, rfl, fun _ _ _ => ⟨_, rfl, fun h => absurd h (by assumption)⟩⟩
    · exact ⟨k + 1, ⟨rfl, rfl, rfl, rfl, rfl, rfl, trivial⟩, (fun _ _ _ h => h), ⟨rfl, by omega, by omega⟩, by dsimp only; omega⟩
  have D1 := hall 0 hpos
  have D2 := hall (x.duties.length - 1) (by omega)
  have p1 := D1.pos
  have p2 := D2.pos
  have l2 := D2.le
  obtain ⟨i1, g1, g2⟩ := D1.rng 0 p1
  obtain ⟨j2, g3, g4⟩ := D2.rng (x.duties[x.duties.length - 1].length - 1) (by omega)
  have fin : WOk fs x := ⟨hpos, hle, fun d hd => by
    obtain ⟨j, hj, rfl⟩ := List.getElem_of_mem hd
    exact hall j hj, hba⟩
  (refine X.ix hs (i := 0) (by omega) rfl rfl rfl rfl rfl rfl rfl rfl (by first | rfl | omega) fun b1 f1 cs1 hr1 hx1 => ?_); obtain ⟨ua, un, uc, rfl, uq⟩ := hx1; (skip); (refine X.ls 0 hr1 rfl (by first | exact .md | exact .mo | exact .mf) (Ge.refl _) rfl rfl rfl rfl rfl rfl rfl ?_); (skip)
  refine X.callq rfl rfl (gV_ok rfl) rfl rfl rfl rfl (en rfl) (first_ev (d := ⟨ua, un, uc⟩) hf uq p1 g1 g2) ?_
  rintro v rfl
  (repeat' (first | refine J.seq ?_ | refine J.roA rfl ?_ | refine X.ro rfl rfl ?_ | refine X.rd rfl rfl ?_ | refine X.nil0 ?_ | refine X.nil1 ⟨by kernel_rfl, ?_⟩ | refine J.ret ?_ | refine J.cond_t rfl ?_ | refine X.l1 2 rfl rfl rfl rfl rfl rfl rfl rfl rfl ?_ | refine X.la 0 rfl rfl rfl rfl rfl rfl rfl rfl rfl rfl ?_ | refine X.fe rfl rfl rfl rfl rfl rfl rfl rfl ?_ | refine X.sb rfl rfl rfl rfl rfl rfl (by omega) ?_ | refine X.g_n rfl rfl rfl (fun h => ?_) (fun h => ?_)))
  · exact ⟨_, .cons (.tmp rfl) .nil, rfl, fun _ _ _ => ⟨_, rfl, fun _ => fin⟩⟩
  (refine X.ix hs (i := (x.duties.length - 1)) (by omega) rfl rfl rfl rfl rfl rfl rfl rfl (by first | rfl | omega) fun b1 f1 cs1 hr1 hx1 => ?_); obtain ⟨wa, wn, wc, rfl, wq⟩ := hx1; (skip); (refine X.ls 0 hr1 rfl (by first | exact .md | exact .mo | exact .mf) (Ge.refl _) rfl rfl rfl rfl rfl rfl rfl ?_); (skip)
  refine X.callq rfl rfl (gV_ok rfl) rfl rfl rfl rfl (en rfl) (last_ev (d := ⟨wa, wn, wc⟩) hf wq p2 (by omega) g3 g4) ?_
  rintro v rfl
  (repeat' (first | refine J.seq ?_ | refine J.roA rfl ?_ | refine X.ro rfl rfl ?_ | refine X.rd rfl rfl ?_ | refine X.nil0 ?_ | refine X.nil1 ⟨by kernel_rfl, ?_⟩ | refine J.skip ?_ | refine J.ret ?_ | refine J.cond_t rfl ?_ | refine X.l1 2 rfl rfl rfl rfl rfl rfl rfl rfl rfl ?_ | refine X.fe rfl rfl rfl rfl rfl rfl rfl rfl ?_ | refine X.g_n rfl rfl rfl (fun h => ?_) (fun h => ?_) | refine J.cond rfl (fun h => ?_) (fun h => ?_)))
  all_goals exact ⟨_, .cons (.tmp rfl) .nil, rfl, fun _ _ _ => ⟨_, rfl, fun _ => fin⟩⟩
end
end Go.Proofs.YthldmlfpebgojaaGreatDoor
