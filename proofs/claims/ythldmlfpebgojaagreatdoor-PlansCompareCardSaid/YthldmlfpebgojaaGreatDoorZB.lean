/-
  Joined texts: R27; QO4; QO5; QO6; QO7; QO8; R28; R29; R33; QO9; QOA; R34; R06; R36; R10; R35; R38. What each proves stands ahead of it, with its conditions.
-/
import Derived.Test.YthldmlfpebgojaaGreatDoorZA
import Derived.Test.YthldmlfpebgojaaGreatDoorR05
/-
  Contracts: a column of a problem.
  Condition: the problem is one of the laws' data.
-/
namespace Go.Proofs.YthldmlfpebgojaaGreatDoor
set_option linter.unusedSimpArgs false
set_option linter.unusedVariables false
set_option maxRecDepth 100000
set_option maxHeartbeats 0
open Go.RowKit Go

/-- A problem's parts. -/
structure PV where
  t : TT
  c : CT
  bases : Slc
  op : Slc
  heads : Int
  pen : Int
abbrev PV.cells (p : PV) : List Value := [p.t.zs.v, p.t.aps.v, p.t.fls.v, .int .i64 p.c.rep, .int .i64 p.c.rel, .int .i64 p.c.con, .int .i64 p.c.sit, .int .i64 p.c.lay, .int .i64 p.c.nf, .int .i64 p.c.nt, p.c.consts.v, p.c.rules.v, p.c.costs.v, p.c.credit.v, p.c.limits.v, p.c.offs.v, .int .i64 p.c.guar, p.bases.v, p.op.v, .int .i64 p.heads, .int .i64 p.pen]
abbrev PV.v (p : PV) : Value := .agg #[p.t.zs.v, p.t.aps.v, p.t.fls.v, .int .i64 p.c.rep, .int .i64 p.c.rel, .int .i64 p.c.con, .int .i64 p.c.sit, .int .i64 p.c.lay, .int .i64 p.c.nf, .int .i64 p.c.nt, p.c.consts.v, p.c.rules.v, p.c.costs.v, p.c.credit.v, p.c.limits.v, p.c.offs.v, .int .i64 p.c.guar, p.bases.v, p.op.v, .int .i64 p.heads, .int .i64 p.pen]
/-- A problem of the laws' data. -/
structure PAt (B : St) (p : PV) (fs : List Flt) (bs : List ByteArray) (os : List Int) : Prop where
  d : DAt B p.t p.c fs
  hbs : SqS Dt.str B p.bases bs
  hop : SqS (Dt.int .i64) B p.op os
  heads : p.heads = 0 ∨ p.heads = 1
  pen : 0 ≤ p.pen ∧ p.pen ≤ 4294967296
  bsv : bs = [⟨#[65, 65, 65]⟩] ∨ bs = [⟨#[65, 65, 65]⟩, ⟨#[66, 66, 66]⟩]
  opl : 0 < os.length ∧ os.length ≤ 5
  opr : ∀ o ∈ os, ∃ i : Nat, o = (i : Int) ∧ i < fs.length
  opa : ∀ (i j : Nat) (hi : i < os.length) (hj : j < os.length), i < j → os[i] < os[j]
  need : ∀ o ∈ os, ∀ (i : Nat) (h : i < fs.length) (h0 : 0 < fs.length), o = (i : Int) → fs[i].n0 = fs[0].n0 ∧ fs[i].n1 = fs[0].n1 ∧ fs[i].n2 = fs[0].n2
  needs : ∀ f ∈ fs, f.n0 = 1 ∧ (f.n1 = 0 ∨ f.n1 = 1) ∧ f.n2 = 0
theorem PAt.ge {B B' : St} {p : PV} {fs : List Flt} {bs : List ByteArray} {os : List Int} (h : PAt B p fs bs os) (hB : Ge B B') : PAt B' p fs bs os := ⟨h.d.ge hB, h.hbs.ge hB, h.hop.ge hB, h.heads, h.pen, h.bsv, h.opl, h.opr, h.opa, h.need, h.needs⟩
theorem WOk.b {fs : List Flt} {x : Pair} (h : WOk fs x) : PairB x := ⟨by have := h.le; omega, fun d hd => by have := (h.du d hd).le; omega⟩
abbrev colV (b : ByteArray) (s : Slc) (k : Int) : Value := .agg #[.string b, s.v, .int .i64 k]
section
variable {B : St} {p : PV} {fs : List Flt} {bs : List ByteArray} {os : List Int} (hP : PAt B p fs bs os)
include hP
variable {s : Slc} {x : Pair} (hs : SqS .duty B s x.duties)
include hs
theorem newColumn_ev : EvP Tryz.prog 67 [p.v, x.sv s] B fun v B1 => ∃ (b : ByteArray) (s' : Slc) (k e : Int), v = .tuple #[colV b s' k, .int .i64 e] ∧ (e = 0 → b = x.base ∧ s' = s ∧ WOk fs x) := by
  have hn := hs.len
  have hbl : bs.length ≤ 2 := by rcases hP.bsv with h | h <;> rw [h] <;> decide
  have hol := hP.opl
  refine EvP.go Tryz.func67 rfl Tryz.ntmps67 Tryz.results67 rfl [] rfl ?_
  (repeat' (first | refine J.seq ?_ | refine J.roA rfl ?_ | refine X.ro rfl rfl ?_ | refine X.nil0 ?_ | refine X.l1 0 rfl rfl rfl rfl rfl rfl rfl rfl rfl ?_ | refine X.l1 1 rfl rfl rfl rfl rfl rfl rfl rfl rfl ?_ | refine X.bx rfl rfl rfl rfl rfl rfl rfl rfl fun b => ?_ | refine X.al rfl rfl rfl rfl rfl rfl rfl fun b => ?_))
  rename_i pb xb
  refine X.callq rfl rfl (gV_ok rfl) rfl rfl rfl rfl (en rfl) (hasText_ev x.base hP.hbs (by omega)) ?_
  rintro v ⟨w, rfl, hw⟩
  (repeat' (first | refine J.seq ?_ | refine J.roA rfl ?_ | refine X.ro rfl rfl ?_ | refine X.nil0 ?_ | refine J.skip ?_ | refine J.ret ?_ | refine X.la 0 rfl rfl rfl rfl rfl rfl rfl rfl rfl rfl ?_ | refine X.la 1 rfl rfl rfl rfl rfl rfl rfl rfl rfl rfl ?_ | refine X.st 2 rfl rfl rfl rfl rfl rfl rfl rfl rfl ?_ | refine X.bd rfl rfl rfl rfl rfl rfl rfl rfl rfl rfl rfl ?_ | refine J.cond rfl (fun h => ?_) (fun h => ?_)))
  · exact ⟨_, .cons (.cellA (p := 2) rfl (ag rfl) (sz rfl) rfl rfl) (.cons (.tmp rfl) .nil), rfl, fun _ _ _ => ⟨_, ⟨none, 0, 0⟩, _, _, rfl, fun h => absurd h (by decide)⟩⟩
  refine X.callq rfl rfl (gV_ok rfl) rfl rfl rfl rfl (en rfl) (whole_ev hP.d hs) ?_
  rintro v ⟨e, rfl, he⟩
  (repeat' (first | refine J.seq ?_ | refine J.roA rfl ?_ | refine X.ro rfl rfl ?_ | refine X.nil0 ?_ | refine J.skip ?_ | refine J.ret ?_ | refine X.la 1 rfl rfl rfl rfl rfl rfl rfl rfl rfl rfl ?_ | refine X.st 2 rfl rfl rfl rfl rfl rfl rfl rfl rfl ?_ | refine X.bd rfl rfl rfl rfl rfl rfl rfl rfl rfl rfl rfl ?_ | refine J.cond_nd rfl (fun h => ?_) (fun h => ?_)))
  · exact ⟨_, .cons (.cellA (p := 2) rfl (ag rfl) (sz rfl) rfl rfl) (.cons (.tmp rfl) .nil), rfl, fun _ _ _ => ⟨_, ⟨none, 0, 0⟩, _, _, rfl, fun h => absurd h (by assumption)⟩⟩
  have hW := he (by assumption)
  have hle := hW.le
  refine X.call rfl rfl (gV_ok rfl) rfl rfl rfl rfl (en rfl) (operated_ev hs hW.b) ?_
  rintro v B1 hB1 ⟨r, rfl, hr⟩
  have hrl := hr.len
  have hol2 := operated_len (ds := x.duties) fun d h => hW.b.d d h
  (repeat' (first | refine J.seq ?_ | refine J.block ?_ | refine J.roA rfl ?_ | refine X.ro rfl rfl ?_ | refine X.nil0 ?_ | refine X.l1 0 rfl rfl rfl rfl rfl rfl rfl rfl rfl ?_ | refine X.g_d rfl rfl rfl (fun h => ?_) (fun h => ?_)))
  case' refine_2 =>
    refine X.callq rfl rfl (gV_ok rfl) rfl rfl rfl rfl (en rfl) (within_ev hr (hP.hop.ge hB1) (by omega) (by omega)) ?_
    rintro v ⟨w2, rfl⟩
    (repeat' (first | refine J.seq ?_ | refine J.block ?_ | refine J.roA rfl ?_ | refine X.ro rfl rfl ?_ | refine X.nil0 ?_))
  all_goals
    refine J.loop (σ := Nat × Bool) (fun q => [(2, .pointer (some ⟨pb, 0, none⟩)), (3, .pointer (some ⟨xb, 0, none⟩)), (4, .pointer (some ⟨b, 0, none⟩)), (8, .bool q.2), (9, .int .i64 (q.1 : Int))])
      (fun _ => [some (pb, ⟨p.cells, 38, 1⟩), some (xb, ⟨[.string x.base, s.v], 78, 1⟩), some (b, ⟨[.string ⟨#[]⟩, .slice none 0 0, .int .i64 0], 80, 1⟩)]) (fun B2 q => B2 = B1 ∧ q.1 ≤ x.duties.length) (fun q => x.duties.length - q.1) (0, _) ⟨rfl, Nat.zero_le _⟩ ⟨rfl, rfl, rfl, rfl, rfl, trivial⟩ (fun _ _ _ h => h) ?_
    rintro ⟨i, bad⟩ B2 hB2 ⟨rfl, hi⟩
    dsimp only at hi ⊢
    have hs1 := hs.ge hB1
    (repeat' (first | refine J.seq ?_ | refine J.block ?_ | refine J.roA rfl ?_ | refine J.rdA (by kernel_rfl) rfl ?_ | refine X.ro rfl rfl ?_ | refine X.rd rfl rfl ?_ | refine X.nil0 ?_ | refine X.nil1 ⟨by kernel_rfl, ?_⟩ | refine J.skip ?_ | refine J.exit ?_ | refine J.ret ?_ | refine X.l1 1 rfl rfl rfl rfl rfl rfl rfl rfl rfl ?_ | refine X.la 0 rfl rfl rfl rfl rfl rfl rfl rfl rfl rfl ?_ | refine X.la 1 rfl rfl rfl rfl rfl rfl rfl rfl rfl rfl ?_ | refine X.st 2 rfl rfl rfl rfl rfl rfl rfl rfl rfl ?_ | refine X.ad rfl rfl rfl rfl rfl rfl (by omega) ?_ | refine X.bd rfl rfl rfl rfl rfl rfl rfl rfl rfl rfl rfl ?_ | ((fail_if_success refine X.kn rfl ?_); refine X.g_b rfl rfl rfl (fun h => ?_) (fun h => ?_)) | refine J.cond_d rfl (fun h => ?_) (fun h => ?_) | refine J.cond rfl (fun h => ?_) (fun h => ?_)))
    · exact ⟨(i + 1, _), ⟨rfl, rfl, rfl, rfl, rfl, trivial⟩, (fun _ _ _ h => h), ⟨rfl, by dsimp only; omega⟩, by dsimp only; omega⟩
    · have hi3 : i < x.duties.length := by omega
      have hdl := (hW.du _ (List.getElem_mem hi3)).le
      (refine X.ix hs1 (i := i) (by omega) rfl rfl rfl rfl rfl rfl rfl rfl (by first | rfl | omega) fun b1 f1 cs1 hr1 hx1 => ?_); obtain ⟨ua, un, uc, rfl, uq⟩ := hx1; (skip); (refine X.ls 0 hr1 rfl (by first | exact .md | exact .mo | exact .mf) (Ge.refl _) rfl rfl rfl rfl rfl rfl rfl ?_); (skip)
      refine X.callq rfl rfl (gV_ok rfl) rfl rfl rfl rfl (en rfl) (heads_ev (s := ⟨ua, un, uc⟩) uq (by omega)) ?_
      rintro v ⟨h2, rfl, hh2⟩
      (repeat' (first | refine J.roA rfl ?_ | refine X.ro rfl rfl ?_ | refine X.rd rfl rfl ?_ | refine X.nil0 ?_ | refine X.nil1 ⟨by kernel_rfl, ?_⟩ | refine X.l1 0 rfl rfl rfl rfl rfl rfl rfl rfl rfl ?_ | refine X.ad rfl rfl rfl rfl rfl rfl (by omega) ?_))
      exact ⟨(i + 1, _), ⟨rfl, rfl, rfl, rfl, rfl, trivial⟩, (fun _ _ _ h => h), ⟨rfl, by dsimp only; omega⟩, by dsimp only; omega⟩
    · exact ⟨_, .cons (.cellA (p := 2) rfl (ag rfl) (sz rfl) rfl rfl) (.cons (.tmp rfl) .nil), rfl, fun _ _ _ => ⟨_, ⟨none, 0, 0⟩, _, _, rfl, fun h => absurd h (by decide)⟩⟩
    · refine X.call rfl rfl (gV_ok rfl) rfl rfl rfl rfl (en rfl) (viols_ev (hP.ge hB1).d hs1 hW) ?_
      rintro v B3 hB3 ⟨r3, vs, rfl, hr3⟩
      (repeat' (first | refine J.seq ?_ | refine J.roA rfl ?_ | refine J.rdA (by kernel_rfl) rfl ?_ | refine X.ro rfl rfl ?_ | refine X.rd rfl rfl ?_ | refine X.nil0 ?_ | refine J.skip ?_ | refine J.ret ?_ | refine X.la 0 rfl rfl rfl rfl rfl rfl rfl rfl rfl rfl ?_ | refine X.la 1 rfl rfl rfl rfl rfl rfl rfl rfl rfl rfl ?_ | refine X.st 2 rfl rfl rfl rfl rfl rfl rfl rfl rfl ?_ | refine X.bd rfl rfl rfl rfl rfl rfl rfl rfl rfl rfl rfl ?_ | refine J.cond_d rfl (fun h => ?_) (fun h => ?_)))
      · exact ⟨_, .cons (.cellA (p := 2) rfl (ag rfl) (sz rfl) rfl rfl) (.cons (.tmp rfl) .nil), rfl, fun _ _ _ => ⟨_, ⟨none, 0, 0⟩, _, _, rfl, fun h => absurd h (by decide)⟩⟩
      · refine X.callq rfl rfl (gV_ok rfl) rfl rfl rfl rfl (en rfl) (total_ev (hP.ge (hB1.trans hB3)).d (hs1.ge hB3) hW) ?_
        rintro v ⟨k, rfl, hk⟩
        (repeat' (first | refine X.rd rfl rfl ?_ | refine X.nil1 ⟨by kernel_rfl, ?_⟩ | refine J.ret ?_ | refine X.st 2 rfl rfl rfl rfl rfl rfl rfl rfl rfl ?_ | refine X.bd rfl rfl rfl rfl rfl rfl rfl rfl rfl rfl rfl ?_))
        exact ⟨_, .cons (.cellA (p := 2) rfl (ag rfl) (sz rfl) rfl rfl) (.cons (.tmp rfl) .nil), rfl, fun _ _ _ => ⟨_, s, _, _, rfl, fun _ => ⟨rfl, rfl, hW⟩⟩⟩
end
end Go.Proofs.YthldmlfpebgojaaGreatDoor
/-
  Array literals of three numbers; shifts.
  No condition.
-/
namespace Go.Proofs.YthldmlfpebgojaaGreatDoor
set_option linter.unusedSimpArgs false
set_option linter.unusedVariables false
open Go.RowKit Go

section
variable {N : Nat} {ops : Array Oper} {d : Md} {l : List Oper} {o : Oper} {B : St} {K : Hp} {L : Loc} {Q : PostX} {t : Nat}
theorem zero3 : quick Tryz.prog (zeroValue 101) = some (.agg #[.int .i64 0, .int .i64 0, .int .i64 0]) := by kernel_rfl
/-- A literal array of three numbers. -/
theorem X.bd3 {parts : Array (Nat × Operand)} {vs cs : List Value} (ho : o.op = .build 101 parts) (hg : gV ops o L = some true) (hd : o.dst = some t) (ht : Nat.blt t N = true) (hvs : opvsL L (parts.toList.map (·.2)) = some vs) (hall : vs.all (fun v => (cellsOf v).isSome) = true)
    (hf : Instr.fill (fun i => some (i * 1, 1)) #[.int .i64 0, .int .i64 0, .int .i64 0] ((parts.toList.map (·.1)).zip vs) = some cs.toArray) (h : X Tryz.prog N ops (dMap d .inc) l B K ((t, .agg cs.toArray) :: L) Q) : X Tryz.prog N ops d (o :: l) B K L Q := by
  refine X.pure (gV_ok hg) hd ht ⟨by unfold isChg; rw [ho], by unfold isRd; rw [ho], fun F M hF => .inr ?_⟩ h
  unfold evalOp evBuild
  rw [ho]
  simp only [hF.opvs hvs, zero3, arr3]
  unfold evBuildA
  simp only [sz (T := 3) rfl]
  rw [show (plain (.agg #[.int .i64 0, .int .i64 0, .int .i64 0]) && vs.all (fun v => (cellsOf v).isSome)) = true by rw [hall]; rfl]
  simp only [cond_true]
  rw [show (Value.agg #[.int .i64 0, .int .i64 0, .int .i64 0]).cells = #[.int .i64 0, .int .i64 0, .int .i64 0] from rfl, hf]
end
end Go.Proofs.YthldmlfpebgojaaGreatDoor
/-
  Lists that grow, with their elements.
  No condition.
-/
namespace Go.Proofs.YthldmlfpebgojaaGreatDoor
set_option linter.unusedSimpArgs false
set_option linter.unusedVariables false
open Go.RowKit Go

/-- A list of one's own: its cells, its elements, its block. -/
structure Acc (α : Type) where
  cells : List Value
  xs : List α
  ob : Option Nat
abbrev Acc.v {α : Type} (a : Acc α) : Value := .slice (oa a.ob) a.xs.length a.xs.length
abbrev Acc.e {α : Type} (a : Acc α) (T sz : Nat) : Option (Nat × Blk) := accE T sz a.ob a.cells
def Acc.nil {α : Type} : Acc α := ⟨[], [], none⟩
structure Acc.Ok {α : Type} (D : Dt α) (B : St) (a : Acc α) : Prop where
  rows : Rows D B a.cells a.xs
  ob : accOk a.ob a.xs.length
theorem Acc.Ok.nil {α : Type} {D : Dt α} {B : St} : (Acc.nil : Acc α).Ok D B := ⟨Rows.nil, rfl⟩
theorem Acc.Ok.ge {α : Type} {D : Dt α} {B B' : St} {a : Acc α} (h : a.Ok D B) (hB : Ge B B') : a.Ok D B' := ⟨h.rows.ge hB, h.ob⟩
theorem Acc.Ok.sq {α : Type} {D : Dt α} {B : St} {a : Acc α} {T : Nat} (h : a.Ok D B) (hB : ∀ b X, a.e T D.size = some (b, X) → B.get b = some X) : SqS D B ⟨oa a.ob, a.xs.length, a.xs.length⟩ a.xs := acc_sqs rfl h.ob h.rows hB
/-- The cells of an element. -/
theorem Acc.Ok.at_ {α : Type} {D : Dt α} {B : St} {a : Acc α} (h : a.Ok D B) {i : Nat} (hi : i < a.xs.length) : D.rep B ((a.cells.drop (i * D.size)).take D.size) a.xs[i] := h.rows.2 i _ (List.getElem?_eq_getElem hi)
/-- An element of one cell. -/
theorem Acc.Ok.at1 {α : Type} {D : Dt α} {B : St} {a : Acc α} (h : a.Ok D B) (hD : D.size = 1) {i : Nat} (hi : i < a.xs.length) : ∃ v, a.cells[0 + i * 1]? = some v ∧ D.rep B [v] a.xs[i] := by
  have h1 := h.at_ hi
  have hl := h.rows.1
  rw [hD, Nat.mul_one] at h1 hl
  have hlt : i < a.cells.length := by omega
  refine ⟨a.cells[i], by rw [Nat.zero_add, Nat.mul_one]; exact List.getElem?_eq_getElem hlt, ?_⟩
  rw [List.drop_eq_getElem_cons hlt] at h1
  exact h1
section
variable {N : Nat} {ops : Array Oper} {d : Md} {l : List Oper} {o : Oper} {B : St} {K : Hp} {L : Loc} {Q : PostX} {t : Nat}
/-- One element comes to a list of one's own. -/
theorem X.ac1 {α : Type} {D : Dt α} {a : Acc α} {z : α} {c : Call} {x y : Operand} {T el sz bytes c2 b2 : Nat} {add : List Value} (p q : Nat) (hok : a.Ok D B) (hD : D.size = sz) (hrep : D.rep B add z) (ho : o.op = .call c) (hc : c.callee = .builtin .append) (ha : c.args.toList = [x, y]) (hT : c.argTypes.toList = [T, T]) (hg : gV ops o L = some true) (hd : o.dst = some t) (ht : Nat.blt t N = true)
    (he : lk appT T = some (el, sz, bytes)) (hs : Nat.blt 0 sz = true) (hx : opvL L x = some a.v) (hy : opvL L y = some (.slice (some ⟨b2, 0, none⟩) 1 c2)) (hp : K[p]? = some (a.e el sz))
    (hq : K[q]? = some (some (b2, ⟨add, el, sz⟩))) (hpq : Nat.beq p q = false) (hb : (a.xs.length + 1) * bytes ≤ 140737488355328) (hm : a.xs.length + 1 ≤ 1152921504606846976)
    (h : ∀ a' : Acc α, a'.xs = a.xs ++ [z] → a'.Ok D B → X Tryz.prog N ops (dMap d (Dr.mod · p)) l B (K.set p (a'.e el sz)) ((t, a'.v) :: L) Q) : X Tryz.prog N ops d (o :: l) B K L Q := by
  have hl := D.len hrep
  have hcl := hok.rows.1
  refine X.aps p q ho hc ha hT hg hd ht he hs hx hy hp (by rw [← hD]; exact hcl) hok.ob hq ?_ hpq rfl hb hm fun ob' h' => ?_
  · rw [Nat.one_mul]
    exact rdK_part (Nat.le_of_ble_eq_true hs) (by rw [List.drop_zero, ← hD, ← hl, List.take_length]) (by rw [hl, hD])
  · have h2 := h ⟨a.cells ++ add, a.xs ++ [z], ob'⟩ rfl ⟨hok.rows.snoc hrep, by rw [List.length_append]; exact h'⟩
    have e : (a.xs ++ [z]).length = a.xs.length + 1 := by rw [List.length_append]; rfl
    have h3 : X Tryz.prog N ops (dMap d (Dr.mod · p)) l B (K.set p (accE el sz ob' (a.cells ++ add))) ((t, .slice (oa ob') (a.xs ++ [z]).length (a.xs ++ [z]).length) :: L) Q := h2
    rw [e] at h3
    exact h3
/-- A slice that stands comes to an empty list. -/
theorem X.acq {α : Type} {D : Dt α} {ys : List α} {c : Call} {x y : Operand} {T el sz bytes : Nat} {s2 : Slc} (p : Nat) (hs2 : SqS D B s2 ys) (hD : D.size = sz) (ho : o.op = .call c) (hc : c.callee = .builtin .append) (ha : c.args.toList = [x, y]) (hT : c.argTypes.toList = [T, T]) (hg : gV ops o L = some true) (hd : o.dst = some t) (ht : Nat.blt t N = true)
    (he : lk appT T = some (el, sz, bytes)) (hs : Nat.blt 0 sz = true) (hx : opvL L x = some (.slice none 0 0)) (hy : opvL L y = some s2.v) (hp : K[p]? = some none) (hb : (0 + ys.length) * bytes ≤ 140737488355328) (hm : 0 + ys.length ≤ 1152921504606846976)
    (h : ∀ a' : Acc α, a'.xs = ys → a'.Ok D B → X Tryz.prog N ops (dMap d (Dr.mod · p)) l B (K.set p (a'.e el sz)) ((t, a'.v) :: L) Q) : X Tryz.prog N ops d (o :: l) B K L Q := by
  refine X.apq (ob := none) (n := 0) (cells := []) p hs2 hD ho hc ha hT hg hd ht he hs hx hy hp (by rw [Nat.zero_mul]; rfl) rfl hb hm fun ob' add hadd hob => ?_
  have h2 := h ⟨add, ys, ob'⟩ rfl ⟨hadd, by rw [Nat.zero_add] at hob; exact hob⟩
  rw [Nat.zero_add, List.nil_append]
  exact h2
end
end Go.Proofs.YthldmlfpebgojaaGreatDoor
/-
  One's own comes to what stands in any region; calls that take a list of one's own and give one back.
  No condition.
-/
namespace Go.Proofs.YthldmlfpebgojaaGreatDoor
set_option linter.unusedSimpArgs false
set_option linter.unusedVariables false
open Go.RowKit Go

section
variable {P : Program} {N : Nat} {ops : Array Oper} {l : List Oper} {B : St} {K : Hp} {L : Loc} {Q : PostX}
theorem HOk.give {d : Dr} {B0 : St} {lds : List Ld} {ml : List Mem} (h : HOk P d B0 B K lds ml) {p b : Nat} {Y : Blk} (hp : K[p]? = some (some (b, Y))) (hB : Ge B (B.set b (some Y))) : HOk P d B0 (B.set b (some Y)) (K.set p none) lds ml := by
  have key : ∀ (q : Nat) c Z, (K.set p none)[q]? = some (some (c, Z)) → K[q]? = some (some (c, Z)) := fun q c Z hq => by
    by_cases e : p = q
    · subst e
      rw [List.getElem?_set] at hq
      split at hq
      · split at hq <;> simp at hq
      · exact absurd rfl (by assumption)
    · rwa [List.getElem?_set_ne e] at hq
  refine ⟨h.len, h.ge.trans hB, h.all, fun q hq hD c Z hc => h.own q hq hD c Z (key q c Z hc), fun ld hld => ?_⟩
  obtain ⟨h1, h2⟩ := h.lds ld hld
  refine ⟨h1, ?_⟩
  rcases h2 with h2 | ⟨q, c, Z, g1, g2, g3⟩ | h2
  · exact .inl fun M' hM' => h2 M' fun c Z hc => hM' c Z (hB c Z hc)
  · by_cases e : p = q
    · subst e
      rw [hp] at g2
      have := some_eq (some_eq g2)
      injection this with e1 e2
      subst e1 e2
      exact .inl fun M' hM' => g3 M' (hM' _ _ (Tr.set_self _ _ _))
    · exact .inr (.inl ⟨q, c, Z, g1, by rw [List.getElem?_set_ne e]; exact g2, g3⟩)
  · exact .inr (.inr h2)
/-- One's own comes to what stands. -/
theorem X.give {d : Md} {p b : Nat} {Y : Blk} (hp : K[p]? = some (some (b, Y))) (h : ∀ B1, Ge B B1 → B1.get b = some Y → X P N ops d l B1 (K.set p none) L Q) : X P N ops d l B K L Q := fun hN => by
  cases d with
  | o => exact X.giveO hp h hN
  | d d B0 =>
    intro M F lds mems hM hF hH
    obtain ⟨h1, h2⟩ := hM.give hp
    obtain ⟨need, F1, M1, B1, K1, L1, g1, g2, g3, g4, g5, g6⟩ := h _ h2 (Tr.set_self _ _ _) hN M F lds mems h1 hF (hH.give hp h2)
    exact ⟨need, F1, M1, B1, K1, L1, g1, g2, g3, g4, h2.trans g5, g6⟩
  | f d B0 =>
    intro M F lds mems k hM hF hH hk
    obtain ⟨h1, h2⟩ := hM.give hp
    obtain ⟨need, F1, M1, B1, K1, L1, g1, g2, g3, g4, g5, g6⟩ := h _ h2 (Tr.set_self _ _ _) hN M F lds mems k h1 hF (hH.give hp h2) hk
    exact ⟨need, F1, M1, B1, K1, L1, g1, g2, g3, g4, h2.trans g5, g6⟩
/-- One's own list comes to what stands. -/
theorem X.giveAcc {α : Type} {D : Dt α} {d : Md} {p T : Nat} {a : Acc α} (hp : K[p]? = some (a.e T D.size)) (ha : a.Ok D B) (h : ∀ B1, Ge B B1 → SqS D B1 ⟨oa a.ob, a.xs.length, a.xs.length⟩ a.xs → X P N ops d l B1 (K.set p none) L Q) : X P N ops d l B K L Q := by
  obtain ⟨cells, xs, ob⟩ := a
  cases ob with
  | none =>
    have e : K.set p none = K := by
      apply List.ext_getElem?
      intro i
      by_cases hi : p = i
      · subst hi
        have hlt := (List.getElem?_eq_some_iff.1 hp).1
        rw [List.getElem?_set_self hlt, hp]
        rfl
      · rw [List.getElem?_set_ne hi]
    have := h B (Ge.refl B) (ha.sq (T := T) fun b Y h => by cases h)
    rwa [e] at this
  | some b => exact X.give hp fun B1 h1 h2 => h B1 h1 ((ha.ge h1).sq (T := T) fun c Y hc => by
      have := some_eq hc
      injection this with g1 g2
      subst g1 g2
      exact h2)
end

/-- What stands, with one block more. -/
noncomputable def putO (B : St) : Option (Nat × Blk) → St
  | none => B
  | some (b, Y) => B.set b (some Y)
/-- A call that takes a block of the caller's own and gives one back. -/
def EvC (P : Program) (f : FuncId) (args : List Value) (B : St) (ob : Option (Nat × Blk)) (Q : Value → St → Option (Nat × Blk) → Prop) : Prop :=
  ∀ n, (∀ b Y, (putO B ob).get b = some Y → b < n) → (∀ b Y, ob = some (b, Y) → B.get b = none) → ∃ v M1 B1 oc, orc P f args ⟨putO B ob, n⟩ = some (v, M1) ∧ SM B1 [oc] M1 ∧ Ge B B1 ∧ Q v B1 oc
theorem putO_old {B : St} {ob : Option (Nat × Blk)} (hs : ∀ b Y, ob = some (b, Y) → B.get b = none) {b : Nat} {Y : Blk} (h : B.get b = some Y) : (putO B ob).get b = some Y := by
  cases ob with
  | none => exact h
  | some q =>
    obtain ⟨c, Z⟩ := q
    unfold putO
    rw [Tr.set_other _ _ fun e => by subst e; rw [hs _ _ rfl] at h; cases h]
    exact h
theorem putO_some {B : St} {ob : Option (Nat × Blk)} {b : Nat} {Y : Blk} (h : (putO B ob).get b = some Y) : B.get b = some Y ∨ ob = some (b, Y) := by
  cases ob with
  | none => exact .inl h
  | some q =>
    obtain ⟨c, Z⟩ := q
    unfold putO at h
    by_cases e : c = b
    · subst e
      rw [Tr.set_self] at h
      obtain rfl := some_eq h
      exact .inr rfl
    · rw [Tr.set_other _ _ e] at h
      exact .inl h
theorem putO_none {B : St} {ob : Option (Nat × Blk)} {b : Nat} (h : B.get b = none) (h2 : ∀ Y, ob ≠ some (b, Y)) : (putO B ob).get b = none := by
  cases hg : (putO B ob).get b with
  | none => rfl
  | some Y =>
    rcases putO_some hg with h3 | h3
    · rw [h] at h3; cases h3
    · exact absurd h3 (h2 Y)
section
variable {P : Program} {f : FuncId} {args : List Value} {B : St} {ob : Option (Nat × Blk)} {Q : Value → St → Option (Nat × Blk) → Prop}
theorem EvC.beside (h : EvC P f args B ob Q) {K : Hp} {M : Mem} (hM : SM B K M) {p : Nat} (hp : K[p]? = some ob) :
    ∃ v M1 B1 oc, orc P f args M = some (v, M1) ∧ SM B1 (K.set p oc) M1 ∧ Ge B B1 ∧ Q v B1 oc := by
  have hs : ∀ b Y, ob = some (b, Y) → B.get b = none := fun b Y e => by subst e; exact hM.sep b Y (at_mem hp)
  have hle : ML ⟨putO B ob, M.nx⟩ M := ⟨rfl, fun b Y hb => by
    rcases putO_some hb with h1 | h1
    · exact hM.old b Y h1
    · subst h1; exact hM.own b Y (at_mem hp)⟩
  obtain ⟨v, M1, B1, oc, h1, h2, h3, h4⟩ := h M.nx (fun b Y hb => hM.wf b Y (hle.get b Y hb)) hs
  obtain ⟨M1', h5, h6⟩ := orc_le f args _ M v M1 hle h1
  have hlt : p < K.length := (List.getElem?_eq_some_iff.1 hp).1
  have other : ∀ (q : Nat) b Y, q ≠ p → K[q]? = some (some (b, Y)) → (putO B ob).get b = none ∧ M1.t.get b = none := fun q b Y hqp hq => by
    have g1 : (putO B ob).get b = none := putO_none (hM.sep b Y (at_mem hq)) fun Z e => by
      subst e
      exact hqp (hM.nd q p b Y Z hq hp)
    exact ⟨g1, h6.dom b (hM.wf b Y (hM.own b Y (at_mem hq))) g1⟩
  have split : ∀ (q : Nat) b Y, (K.set p oc)[q]? = some (some (b, Y)) → (q = p ∧ oc = some (b, Y)) ∨ (q ≠ p ∧ K[q]? = some (some (b, Y))) := fun q b Y hq => by
    by_cases e : p = q
    · subst e
      rw [List.getElem?_set_self hlt] at hq
      exact .inl ⟨rfl, Option.some.inj hq⟩
    · rw [List.getElem?_set_ne e] at hq
      exact .inr ⟨fun e2 => e e2.symm, hq⟩
  have ocw : ∀ b Y, oc = some (b, Y) → some (b, Y) ∈ [oc] := fun b Y e => by rw [e]; exact .head _
  refine ⟨v, M1', B1, oc, h5, ⟨h6.wf hM.wf, fun b Y hb => h6.le.get b Y (h2.old b Y hb), fun b Y hb => ?_, fun b Y hb => ?_, fun q r b Y Z hq hr => ?_⟩, h3, h4⟩
  · obtain ⟨q, hq⟩ := mem_at hb
    rcases split q b Y hq with ⟨_, e⟩ | ⟨hqp, hq⟩
    · exact h6.le.get b Y (h2.own b Y (ocw b Y e))
    · have hown := hM.own b Y (at_mem hq)
      exact h6.keep b Y (hM.wf b Y hown) (other q b Y hqp hq).1 hown
  · obtain ⟨q, hq⟩ := mem_at hb
    rcases split q b Y hq with ⟨_, e⟩ | ⟨hqp, hq⟩
    · exact h2.sep b Y (ocw b Y e)
    · cases hg : B1.get b with
      | none => rfl
      | some Z =>
        have := h2.old b Z hg
        rw [(other q b Y hqp hq).2] at this
        cases this
  · rcases split q b Y hq with ⟨rfl, e⟩ | ⟨hqp, hq'⟩ <;> rcases split r b Z hr with ⟨rfl, e2⟩ | ⟨hrp, hr'⟩
    · rfl
    · have := h2.own b Y (ocw b Y e)
      rw [(other r b Z hrp hr').2] at this
      cases this
    · have := h2.own b Z (ocw b Z e2)
      rw [(other q b Y hqp hq').2] at this
      cases this
    · exact hM.nd q r b Y Z hq' hr'
/-- What is to be shown when the body returns. -/
def retC (P : Program) (rs : List ResultVar) (Q : Value → St → Option (Nat × Blk) → Prop) : PostC
  | .exit _, _, _, _ => False
  | _, B, K, L => ∃ vs oc, Ress P B K L rs vs ∧ vs.all flatV = true ∧ K[0]? = some oc ∧ Q (tupleE vs) B oc
theorem EvC.enter {fn : Func} {c : Code} (hd : clFns.any (Nat.beq f) = false) (hf : P.funcs[f]? = some fn) (hb : fn.body = some c) (hn : (Nat.ble args.length fn.ntmps && Nat.ble fn.ntmps 512) = true)
    (h : J P fn.ntmps B [ob] (argsL 0 args) c (retC P fn.results.toList Q)) : EvC P f args B ob Q := fun n hB hs => by
  simp only [Bool.and_eq_true] at hn
  have hn1 := Nat.le_of_ble_eq_true hn.1
  have hn2 := Nat.le_of_ble_eq_true hn.2
  have hSM : SM B [ob] ⟨putO B ob, n⟩ := by
    refine ⟨hB, fun b Y hb => putO_old hs hb, fun b Y hm => ?_, fun b Y hm => ?_, fun q r b Y Z hq hr => ?_⟩
    · rw [List.mem_singleton] at hm
      subst hm
      exact Tr.set_self _ _ _
    · rw [List.mem_singleton] at hm
      exact hs b Y hm.symm
    · match q, r, hq, hr with
      | 0, 0, _, _ => rfl
      | 0, r + 1, _, hr => simp at hr
      | q + 1, _, hq, _ => simp at hq
  obtain ⟨fuel, ex, F1, M1, B1, K1, L1, h1, h2, h3, h4, h5⟩ := h ⟨putO B ob, n⟩ (frArgs 0 args fr0) hSM fun t v ht => by
    obtain ⟨g1, g2⟩ := argsL_look args 0 t v ht
    exact frArgs_put args 0 fr0 t v (by omega) g1 g2
  have fin : ∀ {e : Ex}, ex = e → (∀ id, e ≠ .exit id) → (∃ vs oc, Ress P B1 K1 L1 fn.results.toList vs ∧ vs.all flatV = true ∧ K1[0]? = some oc ∧ Q (tupleE vs) B1 oc) →
      ∃ v M1 B1 oc, orc P f args ⟨putO B ob, n⟩ = some (v, M1) ∧ SM B1 [oc] M1 ∧ Ge B B1 ∧ Q v B1 oc := by
    rintro e rfl hne ⟨vs, oc, g1, g2, g3, g4⟩
    refine ⟨tupleE vs, M1, B1, oc, orc_body (fuel := fuel) hd ?_, h2.less fun q b Y hq => ?_, h4, g4⟩
    · unfold callStep
      rw [hf]
      simp only
      unfold bodyK
      rw [hb]
      simp only
      rw [Nat.ble_eq_true_of_le hn1, Nat.ble_eq_true_of_le hn2, h1]
      simp only [Bool.and_self, cond_true]
      unfold endK
      have hr := g1.ev h2 h3
      cases ex with
      | exit id => exact absurd rfl (hne id)
      | normal => simp only [hr, g2, cond_true]
      | ret => simp only [hr, g2, cond_true]
    · match q, hq with
      | 0, hq => rw [g3]; exact hq
      | q + 1, hq => simp at hq
  cases ex with
  | exit id => exact h5.elim
  | normal => exact fin rfl (fun id e => by cases e) h5
  | ret => exact fin rfl (fun id e => by cases e) h5
/-- A call by its body, the parts named. -/
theorem EvC.go {fn : Func} {c : Code} {N : Nat} {rs : Array ResultVar} (hf : P.funcs[f]? = some fn) (hb : fn.body = some c) (hN : fn.ntmps = N) (hr : fn.results = rs) (hn : (Nat.ble args.length N && Nat.ble N 512) = true)
    (K0 : Hp) (hK : K0.all Option.isNone = true) (h : J P N B (ob :: K0) (argsL 0 args) c (retC P rs.toList Q)) (hd : clFns.any (Nat.beq f) = false := by rfl) : EvC P f args B ob Q := by
  subst hN hr
  have hlk : ∀ (args : List Value) (k : Nat) (p : Nat × Value), p ∈ argsL k args → k ≤ p.1 ∧ look (argsL k args) p.1 = some p.2 := by
    intro args
    induction args with
    | nil => intro k p hp; cases hp
    | cons x xs ih =>
      intro k p hp
      rcases List.mem_cons.1 hp with e | hp
      · subst e
        exact ⟨Nat.le_refl _, by unfold argsL look; simp⟩
      · obtain ⟨h1, h2⟩ := ih (k + 1) p hp
        refine ⟨by omega, ?_⟩
        unfold argsL look
        rw [show Nat.beq k p.1 = false from by
          cases hb : Nat.beq k p.1 with
          | true => have := Nat.eq_of_beq_eq_true hb; omega
          | false => rfl]
        exact h2
  refine EvC.enter hd hf hb hn (h.less (Subs.refl _ _ (fun _ _ h => h) fun p hp => (hlk args 0 p hp).2) fun q b Y hq => ?_)
  match q, hq with
  | 0, hq => exact hq
  | q + 1, hq =>
    have := List.all_eq_true.1 hK _ (at_mem (p := q) hq)
    cases this
end
/-- Such a call: p is the place of the block that is taken and given back. -/
theorem X.callC {N : Nat} {ops : Array Oper} {d : Md} {l : List Oper} {o : Oper} {B : St} {K : Hp} {L : Loc} {Q : PostX} {t : Nat} {P : Program} {c : Call} {x : Operand} {f : FuncId} {vs : List Value} {ob : Option (Nat × Blk)} {Qc : Value → St → Option (Nat × Blk) → Prop} (p : Nat) (ho : o.op = .call c) (hc : c.callee = .value x) (hg : gOk ops o L true) (hd : o.dst = some t) (ht : Nat.blt t N = true) (hx : opvL L x = some (.func (.func f) #[] #[])) (hvs : opvsL L c.args.toList = some vs) (hent : entered P f = true) (hp : K[p]? = some ob) (h : EvC P f vs B ob Qc)
    (k : ∀ v B1 oc, Ge B B1 → Qc v B1 oc → X P N ops (dMap d (Dr.mod · p)) l B1 (K.set p oc) ((t, v) :: L) Q) : X P N ops d (o :: l) B K L Q := by
  refine X.mod (R := fun v B1 x => Ge B B1 ∧ Qc v B1 x) p (noFl.of (by unfold isFl; rw [ho])) hg hd ht ⟨by unfold isChg; rw [ho]; simp only [hc], fun F M hF hM => .inr ?_⟩ fun v B1 x hB hR => k v B1 x hR.1 hR.2
  obtain ⟨v, M1, B1, oc, h1, h2, h3, h4⟩ := h.beside hM hp
  refine ⟨f, vs, v, M1, B1, K.set p oc, ?_, h1, h2, h3, oc, rfl, h3, h4⟩
  have hfn : evFunc P f c.args.toList F = some (.call f vs) := by
    unfold evFunc
    simp only [hF.opvs hvs, hent, cond_true]
  unfold evalOp evCall
  rw [ho]
  cases x with
  | func g =>
    have e : g = f := by
      have := some_eq hx
      injection this with h1
      injection h1 with h1
      exact h1.symm
    subst e
    simp only [hc]
    exact hfn
  | tmp t =>
    simp only [hc]
    unfold evDyn
    simp only [hF.opv hx]
    exact hfn
  | const u =>
    simp only [hc]
    unfold evDyn
    simp only [hF.opv hx]
    exact hfn
  | global g => cases hx
end Go.Proofs.YthldmlfpebgojaaGreatDoor
/-
  Elements of a list of one's own: read and written.
  No condition.
-/
namespace Go.Proofs.YthldmlfpebgojaaGreatDoor
set_option linter.unusedSimpArgs false
set_option linter.unusedVariables false
open Go.RowKit Go

theorem Rows.set {α : Type} {D : Dt α} {B : St} {cells vs : List Value} {xs : List α} {z : α} (h : Rows D B cells xs) {i : Nat} (hi : i < xs.length) (hz : D.rep B vs z) : Rows D B (putCells cells (i * D.size) vs) (xs.set i z) := by
  have hl := D.len hz
  have hlen := h.1
  have hle : i * D.size + D.size ≤ cells.length := by
    rw [hlen, ← Nat.succ_mul]
    exact Nat.mul_le_mul_right _ hi
  have htl : (cells.take (i * D.size)).length = i * D.size := by rw [List.length_take]; omega
  unfold putCells
  refine ⟨by rw [List.length_append, List.length_append, List.length_take, List.length_drop, List.length_set, hl, ← hlen]; omega, fun j x hx => ?_⟩
  have hj : j < xs.length := by have := (List.getElem?_eq_some_iff.1 hx).1; rwa [List.length_set] at this
  have hjl : j * D.size + D.size ≤ cells.length := by
    rw [hlen, ← Nat.succ_mul]
    exact Nat.mul_le_mul_right _ hj
  rcases Nat.lt_trichotomy j i with hlt | rfl | hgt
  · rw [List.getElem?_set_ne (by omega)] at hx
    have h1 : j * D.size + D.size ≤ i * D.size := by rw [← Nat.succ_mul]; exact Nat.mul_le_mul_right _ hlt
    have h2 := h.2 j x hx
    rw [List.drop_append_of_le_length (by omega), List.take_append_of_le_length (by rw [List.length_drop]; omega), List.drop_take, List.take_take, Nat.min_eq_left (by omega)]
    exact h2
  · rw [List.getElem?_set_self hi] at hx
    obtain rfl := some_eq hx
    have e : (cells.take (j * D.size) ++ (vs ++ cells.drop (j * D.size + vs.length))).drop (j * D.size) = vs ++ cells.drop (j * D.size + vs.length) := by
      conv => lhs; arg 1; rw [← htl]
      rw [List.drop_left]
    rw [e, ← hl, List.take_left]
    exact hz
  · rw [List.getElem?_set_ne (by omega)] at hx
    have h1 : i * D.size + D.size ≤ j * D.size := by rw [← Nat.succ_mul]; exact Nat.mul_le_mul_right _ hgt
    have h2 := h.2 j x hx
    have e : (cells.take (i * D.size) ++ (vs ++ cells.drop (i * D.size + vs.length))).drop (j * D.size) = cells.drop (j * D.size) := by
      rw [List.drop_append, List.drop_eq_nil_of_le (by omega), List.nil_append, htl, List.drop_append, List.drop_eq_nil_of_le (by omega), List.nil_append, List.drop_drop, hl]
      congr 1
      omega
    rw [e]
    exact h2
theorem Acc.ob_some {α : Type} {D : Dt α} {B : St} {a : Acc α} (h : a.Ok D B) (hl : 0 < a.xs.length) : ∃ b, a.ob = some b := by
  have := h.ob
  cases hb : a.ob with
  | none => rw [hb] at this; have : a.xs.length = 0 := this; omega
  | some b => exact ⟨b, rfl⟩
section
variable {N : Nat} {ops : Array Oper} {d : Md} {l : List Oper} {o : Oper} {B : St} {K : Hp} {L : Loc} {Q : PostX} {t : Nat}
/-- A struct out of an element of one's own list: its cells f, f + 1, .. -/
theorem X.acl {α : Type} {D : Dt α} {a : Acc α} {i T T' sz b m : Nat} {x : Operand} (p f : Nat) (hok : a.Ok D B) (hi : i < a.xs.length) (hD : D.size = sz) (hb : a.ob = some b) (hfm : Nat.ble (f + m) sz = true) (hs : Nat.blt 0 sz = true) (hg : gV ops o L = some true) (ho : o.op = .load T x) (hd : o.dst = some t) (ht : Nat.blt t N = true) (ha : lk aggT T = some true) (hn : lk sizT T = some m)
    (hx : opvL L x = some (.pointer (some ⟨b, 0 + i * sz + f, none⟩))) (hp : K[p]? = some (a.e T' sz)) (h : ∀ cs, D.rep B cs a.xs[i] → X Tryz.prog N ops (dMap d (Dr.loadK · p)) l B K ((t, .agg ((cs.drop f).take m).toArray) :: L) Q) : X Tryz.prog N ops d (o :: l) B K L Q := by
  have hr := hok.at_ hi
  have hl := D.len hr
  have hfm := Nat.le_of_ble_eq_true hfm
  have e : (a.cells.drop (0 + i * sz + f)).take m = (((a.cells.drop (i * D.size)).take D.size).drop f).take m := by
    rw [List.drop_take, List.drop_drop, List.take_take, Nat.min_eq_left (by omega), hD, Nat.zero_add]
  refine X.la p hg ho hd ht ha hn hx (cells := a.cells) (T' := T') (sz := sz) (by rw [hp, Acc.e, hb]; rfl) (rdK_part (Nat.le_of_ble_eq_true hs) e (by rw [List.length_take, List.length_drop, hl]; omega)) ?_ (h _ hr)
  have hfl := D.fl hr
  rw [List.all_eq_true] at hfl ⊢
  exact fun u hu => hfl u (List.mem_of_mem_drop (List.mem_of_mem_take hu))
/-- An element of one's own list is written. -/
theorem X.acs {α : Type} {D : Dt α} {a : Acc α} {z : α} {i T T' sz b : Nat} {x y : Operand} {v : Value} {vs : List Value} (p : Nat) (hok : a.Ok D B) (hi : i < a.xs.length) (hD : D.size = sz) (hb : a.ob = some b) (hz : D.rep B vs z) (hs : Nat.blt 0 sz = true) (ho : o.op = .store T x y) (hg : gV ops o L = some true) (hd : o.dst = none) (hx : opvL L x = some (.pointer (some ⟨b, 0 + i * sz, none⟩))) (hy : opvL L y = some v) (hp : K[p]? = some (a.e T' sz)) (hn : lk sizT T = some sz) (hv : cellsOf v = some vs)
    (h : ∀ a' : Acc α, a'.xs = a.xs.set i z → a'.ob = a.ob → a'.Ok D B → X Tryz.prog N ops (dMap d (Dr.mod · p)) l B (K.set p (a'.e T' sz)) L Q) : X Tryz.prog N ops d (o :: l) B K L Q := by
  have hl := D.len hz
  have hle : i * D.size + D.size ≤ a.cells.length := by
    rw [hok.rows.1, ← Nat.succ_mul]
    exact Nat.mul_le_mul_right _ hi
  refine X.st p ho hg hd hx hy (cells := a.cells) (T' := T') (sz := sz) (by rw [hp, Acc.e, hb]; rfl) hn hv ?_ ?_
  · rw [hs, hl, hD, Nat.beq_refl, Nat.zero_add]
    rw [Nat.ble_eq_true_of_le (by rw [← hD]; exact hle)]
    rfl
  · have h2 := h ⟨putCells a.cells (i * D.size) vs, a.xs.set i z, a.ob⟩ rfl rfl ⟨hok.rows.set hi hz, by rw [List.length_set]; exact hok.ob⟩
    rw [Nat.zero_add, ← hD]
    rw [Acc.e, hb, hD] at h2
    rw [← hD] at h2
    exact h2
end
end Go.Proofs.YthldmlfpebgojaaGreatDoor
/-
  Bits; strings behind each other.
  No condition.
-/
namespace Go.Proofs.YthldmlfpebgojaaGreatDoor
set_option linter.unusedSimpArgs false
set_option linter.unusedVariables false
open Go.RowKit Go

theorem and_ffff (n : Int) : bits .and .i64 n 65535 = n % 65536 := by
  show IntKind.i64.wrap ((BitVec.ofInt 64 n &&& BitVec.ofInt 64 65535).toNat : Int) = _
  have e1 : (BitVec.ofInt 64 65535).toNat = 2 ^ 16 - 1 := by decide
  rw [BitVec.toNat_and, e1, Nat.and_two_pow_sub_one_eq_mod, BitVec.toNat_ofInt, IntKind.wrap_i64]
  omega
theorem and_low (n : Int) (k : Nat) (hk : k ≤ 62) : bits .and .i64 n ((2 ^ k - 1 : Nat) : Int) = n % ((2 ^ k : Nat) : Int) := by
  show IntKind.i64.wrap ((BitVec.ofInt 64 n &&& BitVec.ofInt 64 ((2 ^ k - 1 : Nat) : Int)).toNat : Int) = _
  have hp : 2 ^ k ≤ 2 ^ 62 := Nat.pow_le_pow_right (by decide) hk
  have hp0 : 0 < 2 ^ k := Nat.pow_pos (by decide)
  have hd : ∃ q, 2 ^ 64 = 2 ^ k * q := ⟨2 ^ (64 - k), by rw [← Nat.pow_add]; congr 1; omega⟩
  have e1 : (BitVec.ofInt 64 ((2 ^ k - 1 : Nat) : Int)).toNat = 2 ^ k - 1 := by
    rw [BitVec.toNat_ofInt]
    omega
  rw [BitVec.toNat_and, e1, Nat.and_two_pow_sub_one_eq_mod, BitVec.toNat_ofInt, IntKind.wrap_i64]
  obtain ⟨q, hq⟩ := hd
  generalize 2 ^ k = p at *
  have h1 : ((n % ((2 ^ 64 : Nat) : Int)).toNat % p : Nat) < p := Nat.mod_lt _ hp0
  have h2 : (((n % ((2 ^ 64 : Nat) : Int)).toNat % p : Nat) : Int) = n % (p : Int) := by
    rw [Int.natCast_emod, Int.toNat_of_nonneg (by omega)]
    rw [hq]
    exact Int.emod_emod_of_dvd n ⟨(q : Int), by simp⟩
  omega
/-- A comparison of closed values. -/
theorem X.bq {N : Nat} {ops : Array Oper} {d : Md} {l : List Oper} {o : Oper} {B : St} {K : Hp} {L : Loc} {Q : PostX} {t : Nat} {op : BinOp} {T U : TypeId} {x y : Operand} {a b v : Value} (ho : o.op = .binOp op T x y U) (hg : gV ops o L = some true) (hd : o.dst = some t) (ht : Nat.blt t N = true) (hx : opvL L x = some a) (hy : opvL L y = some b) (ha : plain a = true) (hb : plain b = true) (hv : plain v = true) (hq : quick Tryz.prog (binRun op T x y a b) = some v)
    (h : X Tryz.prog N ops (dMap d .inc) l B K ((t, v) :: L) Q) : X Tryz.prog N ops d (o :: l) B K L Q := X.pure (gV_ok hg) hd ht (.bin ho hx hy ha hb hv hq) h
section
variable {N : Nat} {ops : Array Oper} {d : Md} {l : List Oper} {o : Oper} {B : St} {K : Hp} {L : Loc} {Q : PostX} {t : Nat}
/-- The last k bits of a number. -/
theorem X.andk (k : Nat) {T U : TypeId} {x y : Operand} {a m : Int} (hk : Nat.ble k 62 = true) (hm : m = ((2 ^ k - 1 : Nat) : Int)) (ho : o.op = .binOp .and T x y U) (hg : gV ops o L = some true) (hd : o.dst = some t) (ht : Nat.blt t N = true) (hx : opvL L x = some (.int .i64 a)) (hy : opvL L y = some (.int .i64 m))
    (h : X Tryz.prog N ops (dMap d .inc) l B K ((t, .int .i64 (a % ((2 ^ k : Nat) : Int))) :: L) Q) : X Tryz.prog N ops d (o :: l) B K L Q := by
  refine X.pure (gV_ok hg) hd ht (.bin ho hx hy rfl rfl rfl ?_) h
  rw [← and_low a k (Nat.le_of_ble_eq_true hk), ← hm]
  rfl
/-- A number shifted to the right. -/
theorem X.shr {T U : TypeId} {x y : Operand} {a : Int} {k : Nat} (ho : o.op = .binOp .shr T x y U) (hg : gV ops o L = some true) (hd : o.dst = some t) (ht : Nat.blt t N = true) (hx : opvL L x = some (.int .i64 a)) (hy : opvL L y = some (.int .i64 (k : Int))) {w : Int} (hw : quick Tryz.prog (binRun .shr T x y (.int .i64 a) (.int .i64 (k : Int))) = some (.int .i64 w))
    (h : X Tryz.prog N ops (dMap d .inc) l B K ((t, .int .i64 w) :: L) Q) : X Tryz.prog N ops d (o :: l) B K L Q :=
  X.pure (gV_ok hg) hd ht (.bin ho hx hy rfl rfl rfl hw) h
end
end Go.Proofs.YthldmlfpebgojaaGreatDoor
/-
  Contracts: a problem of the laws' data is valid.
  Condition: the problem is one of the laws' data.
-/
namespace Go.Proofs.YthldmlfpebgojaaGreatDoor
set_option linter.unusedSimpArgs false
set_option linter.unusedVariables false
set_option maxRecDepth 100000
set_option maxHeartbeats 0
open Go.RowKit Go

section
variable {B : St} {p : PV} {fs : List Flt} {bs : List ByteArray} {os : List Int} (hP : PAt B p fs bs os)
include hP
theorem validate27_ev : EvP Tryz.prog 71 [p.v] B fun v _ => v = .int .i64 0 := by
  have hbn := hP.hbs.len
  have hon := hP.hop.len
  have hol := hP.opl
  have hpn := hP.pen
  have hfn := hP.d.tt.fls.len
  have hbl : 1 ≤ bs.length ∧ bs.length ≤ 2 := by rcases hP.bsv with h | h <;> rw [h] <;> decide
  have hhd : 0 ≤ p.heads ∧ p.heads ≤ 1 := by rcases hP.heads with h | h <;> rw [h] <;> decide
  refine EvP.go Tryz.func71 rfl Tryz.ntmps71 Tryz.results71 rfl [] rfl ?_
  (repeat' (first | refine J.seq ?_ | refine J.roA rfl ?_ | refine X.ro rfl rfl ?_ | refine X.nil0 ?_ | refine X.la 0 rfl rfl rfl rfl rfl rfl rfl rfl rfl rfl ?_ | refine X.bx rfl rfl rfl rfl rfl rfl rfl rfl fun b => ?_))
  (revert b; intro pb)
  refine X.callq rfl rfl (gV_ok rfl) rfl rfl rfl rfl (en rfl) (check_ev hP.d) ?_
  rintro v rfl
  (repeat' (first | refine J.seq ?_ | refine J.block ?_ | refine J.roA rfl ?_ | refine X.ro rfl rfl ?_ | refine X.nil0 ?_ | refine J.skip ?_ | refine J.ret ?_ | refine J.cond_t rfl ?_ | refine J.cond_f rfl ?_ | refine X.l1 0 rfl rfl rfl rfl rfl rfl rfl rfl rfl ?_ | refine X.g_d rfl rfl rfl (fun h => ?_) (fun h => ?_) | refine J.cond_d rfl (fun h => ?_) (fun h => ?_)))
  all_goals first | omega | skip
  refine J.loop (σ := Nat) (fun i => [(1, .pointer (some ⟨pb, 0, none⟩)), (4, .int .i64 (i : Int))]) (fun _ => [some (pb, ⟨p.cells, 38, 1⟩)]) (fun B1 i => B1 = B ∧ i ≤ bs.length) (fun i => bs.length - i) 0 ⟨rfl, Nat.zero_le _⟩ ⟨rfl, rfl, trivial⟩ (fun _ _ _ h => h) ?_
  rintro i B1 hB ⟨rfl, hi⟩
  (repeat' (first | refine J.seq ?_ | refine J.block ?_ | refine J.roA rfl ?_ | refine J.rdA (by kernel_rfl) rfl ?_ | refine X.ro rfl rfl ?_ | refine X.rd rfl rfl ?_ | refine X.nil0 ?_ | refine J.skip ?_ | refine J.exit ?_ | refine X.l1 0 rfl rfl rfl rfl rfl rfl rfl rfl rfl ?_ | refine J.cond_d rfl (fun h => ?_) (fun h => ?_)))
  · have hi3 : i < bs.length := by omega
    have hap : isApt bs[i] := by
      have hm := List.getElem_mem hi3
      generalize bs[i] = z at hm
      rcases hP.bsv with h | h
      · rw [h, List.mem_singleton] at hm; exact .inl hm
      · rw [h] at hm
        simp only [List.mem_cons, List.not_mem_nil, or_false] at hm
        rcases hm with h | h
        · exact .inl h
        · exact .inr (.inl h)
    (refine X.ix hP.hbs (i := i) (by omega) rfl rfl rfl rfl rfl rfl rfl rfl (by first | rfl | omega) fun b1 f1 cs1 hr1 hx1 => ?_; obtain rfl := hx1; skip; refine X.ls 0 hr1 rfl (by first | exact .md | exact .mo | exact .mf) (Ge.refl _) rfl rfl rfl rfl rfl rfl rfl ?_; skip)
    refine X.callq rfl rfl (gV_ok rfl) rfl rfl rfl rfl (en rfl) (airportIndex_ev bs[i] hP.d.tt.aps (by decide)) ?_
    rintro v ⟨z1, rfl, hz1⟩
    obtain ⟨k1, rfl⟩ := apt_pos hap hz1
    (repeat' (first | refine J.seq ?_ | refine J.roA rfl ?_ | refine J.rdA (by kernel_rfl) rfl ?_ | refine X.ro rfl rfl ?_ | refine X.rd rfl rfl ?_ | refine X.nil0 ?_ | refine X.nil1 ⟨by kernel_rfl, ?_⟩ | refine J.skip ?_ | refine J.cond_f rfl ?_ | refine X.l1 0 rfl rfl rfl rfl rfl rfl rfl rfl rfl ?_ | refine X.ad rfl rfl rfl rfl rfl rfl (by omega) ?_ | refine X.g_d rfl rfl rfl (fun h => ?_) (fun h => ?_)))
    all_goals first | omega | skip
    · obtain rfl : i = 1 := by omega
      rcases hP.bsv with rfl | rfl
      · exact absurd hi3 (by decide)
      · (refine X.ix hP.hbs (i := 1) (by omega) rfl rfl rfl rfl rfl rfl rfl rfl (by first | rfl | omega) fun b1 f1 cs1 hr1 hx1 => ?_; obtain rfl := hx1; skip; refine X.ls 0 hr1 rfl (by first | exact .md | exact .mo | exact .mf) (Ge.refl _) rfl rfl rfl rfl rfl rfl rfl ?_; (repeat' (first | refine X.rd rfl rfl ?_ | refine X.l1 0 rfl rfl rfl rfl rfl rfl rfl rfl rfl ?_ | refine X.sb rfl rfl rfl rfl rfl rfl (by omega) ?_)))
        (refine X.ix hP.hbs (i := 0) (by omega) rfl rfl rfl rfl rfl rfl rfl rfl (by first | rfl | omega) fun b1 f1 cs1 hr1 hx1 => ?_; obtain rfl := hx1; skip; refine X.ls 0 hr1 rfl (by first | exact .md | exact .mo | exact .mf) (Ge.refl _) rfl rfl rfl rfl rfl rfl rfl ?_; skip)
        refine X.bq (v := .bool false) rfl rfl rfl rfl rfl rfl rfl rfl rfl (by kernel_rfl) ?_
        (repeat' (first | refine J.roA rfl ?_ | refine X.ro rfl rfl ?_ | refine X.rd rfl rfl ?_ | refine X.nil0 ?_ | refine X.nil1 ⟨by kernel_rfl, ?_⟩ | refine J.skip ?_ | refine J.cond_f rfl ?_ | refine X.ad rfl rfl rfl rfl rfl rfl (by omega) ?_))
        exact ⟨2, ⟨rfl, rfl, trivial⟩, (fun _ _ _ h => h), ⟨rfl, by decide⟩, by decide⟩
    · exact ⟨i + 1, ⟨rfl, rfl, trivial⟩, (fun _ _ _ h => h), ⟨rfl, by omega⟩, by dsimp only; omega⟩
  refine J.loop (σ := Nat) (fun i => [(1, .pointer (some ⟨pb, 0, none⟩)), (5, p.t.fls.v), (6, .int .i64 (i : Int))]) (fun _ => [some (pb, ⟨p.cells, 38, 1⟩)]) (fun B2 i => B2 = B1 ∧ i ≤ os.length) (fun i => os.length - i) 0 ⟨rfl, Nat.zero_le _⟩ ⟨rfl, rfl, rfl, trivial⟩ (fun _ _ _ h => h) ?_
  rintro k B2 hB2 ⟨rfl, hk⟩
  (repeat' (first | refine J.seq ?_ | refine J.block ?_ | refine J.roA rfl ?_ | refine X.ro rfl rfl ?_ | refine X.nil0 ?_ | refine J.skip ?_ | refine J.exit ?_ | refine J.ret ?_ | refine X.l1 0 rfl rfl rfl rfl rfl rfl rfl rfl rfl ?_ | refine J.cond_d rfl (fun h => ?_) (fun h => ?_)))
  · have hk3 : k < os.length := by omega
    have hkm := List.getElem_mem hk3
    obtain ⟨j, hj, hjl⟩ := hP.opr _ hkm
    have hord := hP.opa (k - 1) k (by omega) hk3
    have h0m := List.getElem_mem hol.1
    obtain ⟨j0, hj0, hjl0⟩ := hP.opr _ h0m
    have hnk := hP.need _ hkm j hjl (by omega) hj
    have hn0 := hP.need _ h0m j0 hjl0 (by omega) hj0
    have hns := hP.needs _ (List.getElem_mem (show 0 < fs.length by omega))
    have hf := hP.d.tt.fls
    (refine X.ix hP.hop (i := k) (by omega) rfl rfl rfl rfl rfl rfl rfl rfl (by first | rfl | omega) fun b1 f1 cs1 hr1 hx1 => ?_; obtain rfl := hx1; skip; refine X.ls 0 hr1 rfl (by first | exact .md | exact .mo | exact .mf) (Ge.refl _) rfl rfl rfl rfl rfl rfl rfl ?_; (repeat' (first | refine J.seq ?_ | refine J.roA rfl ?_ | refine J.rdA (by kernel_rfl) rfl ?_ | refine X.ro rfl rfl ?_ | refine X.rd rfl rfl ?_ | refine X.nil0 ?_ | refine J.skip ?_ | refine J.ret ?_ | refine J.cond_t rfl ?_ | refine J.cond_f rfl ?_ | refine X.l1 0 rfl rfl rfl rfl rfl rfl rfl rfl rfl ?_ | refine X.sb rfl rfl rfl rfl rfl rfl (by omega) ?_ | refine X.g_d rfl rfl rfl (fun h => ?_) (fun h => ?_) | refine J.cond_d rfl (fun h => ?_) (fun h => ?_))))
    all_goals first | omega | skip
    case' refine_1 =>
      have hord2 := hord (by omega)
      (refine X.ix hP.hop (i := (k - 1)) (by omega) rfl rfl rfl rfl rfl rfl rfl rfl (by first | rfl | omega) fun b1 f1 cs1 hr1 hx1 => ?_; obtain rfl := hx1; skip; refine X.ls 0 hr1 rfl (by first | exact .md | exact .mo | exact .mf) (Ge.refl _) rfl rfl rfl rfl rfl rfl rfl ?_; (repeat' (first | refine J.seq ?_ | refine J.roA rfl ?_ | refine J.rdA (by kernel_rfl) rfl ?_ | refine X.ro rfl rfl ?_ | refine X.rd rfl rfl ?_ | refine X.nil0 ?_ | refine J.skip ?_ | refine J.ret ?_ | refine J.cond_d rfl (fun h => ?_) (fun h => ?_))))
    all_goals first | omega | skip
    all_goals
      obtain ⟨e0, e1, e2⟩ := hns
      rcases e1 with e1 | e1
      · refine X.ix hf hjl rfl rfl rfl rfl rfl rfl rfl rfl hj fun b2 f2 cs2 hr2 hx2 => ?_
        obtain rfl := hx2
        (repeat' (first | refine X.rd rfl rfl ?_))
        refine X.lg 6 hr2 (ds := [.int .i64 1, .int .i64 0, .int .i64 0]) (by
          show [Value.int .i64 _, .int .i64 _, .int .i64 _] = _
          rw [hnk.1, hnk.2.1, hnk.2.2, e0, e1, e2]) rfl (by first | exact .md | exact .mo | exact .mf) (Ge.refl _) rfl rfl rfl rfl rfl rfl rfl rfl ?_
        skip
        refine X.bd3 rfl rfl rfl rfl rfl rfl rfl ?_
        refine X.bq (v := .bool false) rfl rfl rfl rfl rfl rfl rfl rfl rfl (by kernel_rfl) ?_
        (repeat' (first | refine X.rd rfl rfl ?_))
        refine X.ix hf hjl rfl rfl rfl rfl rfl rfl rfl rfl hj fun b3 f3 cs3 hr3 hx3 => ?_
        obtain rfl := hx3
        (repeat' (first | refine X.rd rfl rfl ?_))
        refine X.lg 6 hr3 (ds := [.int .i64 1, .int .i64 0, .int .i64 0]) (by
          show [Value.int .i64 _, .int .i64 _, .int .i64 _] = _
          rw [hnk.1, hnk.2.1, hnk.2.2, e0, e1, e2]) rfl (by first | exact .md | exact .mo | exact .mf) (Ge.refl _) rfl rfl rfl rfl rfl rfl rfl rfl ?_
        (repeat' (first | refine X.rd rfl rfl ?_ | refine X.l1 0 rfl rfl rfl rfl rfl rfl rfl rfl rfl ?_))
        (refine X.ix hP.hop (i := 0) (by omega) rfl rfl rfl rfl rfl rfl rfl rfl (by first | rfl | omega) fun b1 f1 cs1 hr1 hx1 => ?_; obtain rfl := hx1; skip; refine X.ls 0 hr1 rfl (by first | exact .md | exact .mo | exact .mf) (Ge.refl _) rfl rfl rfl rfl rfl rfl rfl ?_; skip)
        refine X.ix hf hjl0 rfl rfl rfl rfl rfl rfl rfl rfl hj0 fun b4 f4 cs4 hr4 hx4 => ?_
        obtain rfl := hx4
        (repeat' (first | refine X.rd rfl rfl ?_))
        refine X.lg 6 hr4 (ds := [.int .i64 1, .int .i64 0, .int .i64 0]) (by
          show [Value.int .i64 _, .int .i64 _, .int .i64 _] = _
          rw [hn0.1, hn0.2.1, hn0.2.2, e0, e1, e2]) rfl (by first | exact .md | exact .mo | exact .mf) (Ge.refl _) rfl rfl rfl rfl rfl rfl rfl rfl ?_
        skip
        refine X.bq (v := .bool false) rfl rfl rfl rfl rfl rfl rfl rfl rfl (by kernel_rfl) ?_
        (repeat' (first | refine J.roA rfl ?_ | refine X.ro rfl rfl ?_ | refine X.rd rfl rfl ?_ | refine X.nil0 ?_ | refine X.nil1 ⟨by kernel_rfl, ?_⟩ | refine J.skip ?_ | refine J.cond_f rfl ?_ | refine X.ad rfl rfl rfl rfl rfl rfl (by omega) ?_))
        exact ⟨k + 1, ⟨rfl, rfl, rfl, trivial⟩, (fun _ _ _ h => h), ⟨rfl, by omega⟩, by dsimp only; omega⟩
      · refine X.ix hf hjl rfl rfl rfl rfl rfl rfl rfl rfl hj fun b2 f2 cs2 hr2 hx2 => ?_
        obtain rfl := hx2
        (repeat' (first | refine X.rd rfl rfl ?_))
        refine X.lg 6 hr2 (ds := [.int .i64 1, .int .i64 1, .int .i64 0]) (by
          show [Value.int .i64 _, .int .i64 _, .int .i64 _] = _
          rw [hnk.1, hnk.2.1, hnk.2.2, e0, e1, e2]) rfl (by first | exact .md | exact .mo | exact .mf) (Ge.refl _) rfl rfl rfl rfl rfl rfl rfl rfl ?_
        skip
        refine X.bd3 rfl rfl rfl rfl rfl rfl rfl ?_
        refine X.bq (v := .bool false) rfl rfl rfl rfl rfl rfl rfl rfl rfl (by kernel_rfl) ?_
        (repeat' (first | refine X.rd rfl rfl ?_))
        refine X.ix hf hjl rfl rfl rfl rfl rfl rfl rfl rfl hj fun b3 f3 cs3 hr3 hx3 => ?_
        obtain rfl := hx3
        (repeat' (first | refine X.rd rfl rfl ?_))
        refine X.lg 6 hr3 (ds := [.int .i64 1, .int .i64 1, .int .i64 0]) (by
          show [Value.int .i64 _, .int .i64 _, .int .i64 _] = _
          rw [hnk.1, hnk.2.1, hnk.2.2, e0, e1, e2]) rfl (by first | exact .md | exact .mo | exact .mf) (Ge.refl _) rfl rfl rfl rfl rfl rfl rfl rfl ?_
        (repeat' (first | refine X.rd rfl rfl ?_ | refine X.l1 0 rfl rfl rfl rfl rfl rfl rfl rfl rfl ?_))
        (refine X.ix hP.hop (i := 0) (by omega) rfl rfl rfl rfl rfl rfl rfl rfl (by first | rfl | omega) fun b1 f1 cs1 hr1 hx1 => ?_; obtain rfl := hx1; skip; refine X.ls 0 hr1 rfl (by first | exact .md | exact .mo | exact .mf) (Ge.refl _) rfl rfl rfl rfl rfl rfl rfl ?_; skip)
        refine X.ix hf hjl0 rfl rfl rfl rfl rfl rfl rfl rfl hj0 fun b4 f4 cs4 hr4 hx4 => ?_
        obtain rfl := hx4
        (repeat' (first | refine X.rd rfl rfl ?_))
        refine X.lg 6 hr4 (ds := [.int .i64 1, .int .i64 1, .int .i64 0]) (by
          show [Value.int .i64 _, .int .i64 _, .int .i64 _] = _
          rw [hn0.1, hn0.2.1, hn0.2.2, e0, e1, e2]) rfl (by first | exact .md | exact .mo | exact .mf) (Ge.refl _) rfl rfl rfl rfl rfl rfl rfl rfl ?_
        skip
        refine X.bq (v := .bool false) rfl rfl rfl rfl rfl rfl rfl rfl rfl (by kernel_rfl) ?_
        (repeat' (first | refine J.roA rfl ?_ | refine X.ro rfl rfl ?_ | refine X.rd rfl rfl ?_ | refine X.nil0 ?_ | refine X.nil1 ⟨by kernel_rfl, ?_⟩ | refine J.skip ?_ | refine J.cond_f rfl ?_ | refine X.ad rfl rfl rfl rfl rfl rfl (by omega) ?_))
        exact ⟨k + 1, ⟨rfl, rfl, rfl, trivial⟩, (fun _ _ _ h => h), ⟨rfl, by omega⟩, by dsimp only; omega⟩
  · exact ⟨_, .cons (.tmp rfl) .nil, rfl, fun _ _ _ => rfl⟩
end
end Go.Proofs.YthldmlfpebgojaaGreatDoor
/-
  Contracts: all duties of a problem.
  Condition: the problem is one of the laws' data.
-/
namespace Go.Proofs.YthldmlfpebgojaaGreatDoor
set_option linter.unusedSimpArgs false
set_option linter.unusedVariables false
set_option maxRecDepth 100000
set_option maxHeartbeats 0
open Go.RowKit Go

/-- The last flight of a duty. -/
def lastI (d : Duty) : Nat := match d.getLast? with
  | some x => x.flight.toNat
  | none => 0
/-- How many duties begin with this one, at most. -/
def pot (d : Duty) : Nat := 3 ^ (4 - lastI d)
def potL (l : List Duty) : Nat := (l.map pot).sum
theorem lastI_app (d : Duty) (i : Nat) (h : Bool) : lastI (d ++ [⟨(i : Int), h⟩]) = i := by
  unfold lastI
  rw [List.getLast?_concat]
  rfl
theorem pot_app (d : Duty) (i : Nat) (h : Bool) : pot (d ++ [⟨(i : Int), h⟩]) = 3 ^ (4 - i) := by unfold pot; rw [lastI_app]
theorem pot_one (i : Nat) (h : Bool) : pot [⟨(i : Int), h⟩] = 3 ^ (4 - i) := pot_app [] i h
theorem potL_app (l : List Duty) (d : Duty) : potL (l ++ [d]) = potL l + pot d := by unfold potL; simp
theorem pot_pos (d : Duty) : 1 ≤ pot d := Nat.pos_of_ne_zero (by unfold pot; exact Nat.ne_of_gt (Nat.pow_pos (by decide)))
theorem potL_len : ∀ l : List Duty, l.length ≤ potL l
  | [] => Nat.zero_le _
  | d :: l => by
    have h1 := potL_len l
    have h2 := pot_pos d
    have e : potL (d :: l) = pot d + potL l := by unfold potL; simp
    rw [e, List.length_cons]
    omega
theorem potL_drop {l : List Duty} {k : Nat} (hk : k < l.length) : potL (l.drop k) = pot l[k] + potL (l.drop (k + 1)) := by
  rw [List.drop_eq_getElem_cons hk]
  unfold potL
  rw [List.map_cons, List.sum_cons]
/-- A duty whose flights exist. -/
structure DR (n : Nat) (d : Duty) : Prop where
  pos : 0 < d.length
  le : d.length ≤ 7
  rng : ∀ (k : Nat) (h : k < d.length), ∃ i : Nat, d[k].flight = (i : Int) ∧ i < n
theorem DR.one {n i : Nat} (hi : i < n) (h : Bool) : DR n [⟨(i : Int), h⟩] := ⟨Nat.one_pos, by simp, fun k hk => by
  rw [List.length_singleton] at hk
  obtain rfl : k = 0 := by omega
  exact ⟨i, rfl, hi⟩⟩
theorem DR.app {n i : Nat} {d : Duty} (hd : DR n d) (hl : d.length ≤ 6) (hi : i < n) (h : Bool) : DR n (d ++ [⟨(i : Int), h⟩]) := ⟨by rw [List.length_append]; simp, by rw [List.length_append]; simp; omega, fun k hk => by
  by_cases hlt : k < d.length
  · rw [List.getElem_append_left hlt]
    exact hd.rng k hlt
  · rw [List.getElem_append_right (by omega)]
    simp only [List.getElem_singleton]
    exact ⟨i, rfl, hi⟩⟩
theorem DR.last {n : Nat} {d : Duty} (hd : DR n d) : (d[d.length - 1]'(by have := hd.pos; omega)).flight = (lastI d : Int) ∧ lastI d < n := by
  have hp := hd.pos
  obtain ⟨i, h1, h2⟩ := hd.rng (d.length - 1) (by omega)
  have e : lastI d = i := by
    unfold lastI
    rw [List.getLast?_eq_getElem?, List.getElem?_eq_getElem (by omega)]
    simp only [h1]
    rfl
  rw [e]
  exact ⟨h1, h2⟩
theorem pow5 {i : Nat} (h : i < 5) : 3 ^ (5 - i) = 3 * 3 ^ (4 - i) := by
  rw [show 5 - i = (4 - i) + 1 by omega, Nat.pow_succ, Nat.mul_comm]
theorem pow5' (i : Nat) : 3 ^ (5 - (i + 1)) = 3 ^ (4 - i) := by rw [show 5 - (i + 1) = 4 - i by omega]
theorem duty1 {B : St} {b el : Nat} {i : Int} {h : Bool} (hg : B.get b = some ⟨[.int .i64 i, .bool h], el, 2⟩) : Dt.duty.rep B [.slice (some ⟨b, 0, none⟩) 1 1] [⟨i, h⟩] :=
  ⟨_, _, _, rfl, Sq.of_row (t := .task) hg (Rows.one (t := .task) (y := ⟨i, h⟩) rfl)⟩
theorem pow_1 (n : Nat) : 1 ≤ 3 ^ n := Nat.pos_of_ne_zero (Nat.ne_of_gt (Nat.pow_pos (by decide)))
/-- What is left of a duty's extensions before flight f. -/
def rst (l f : Nat) : Nat := 3 ^ min (4 - l) (5 - f)
theorem rst_0 (l : Nat) : rst l 0 = 3 ^ (4 - l) := by unfold rst; rw [Nat.min_eq_left (by omega)]
theorem rst_le (l f : Nat) : rst l (f + 1) ≤ rst l f := Nat.pow_le_pow_right (by decide) (by omega)
theorem rst_1 (l f : Nat) : 1 ≤ rst l f := pow_1 _
theorem rst_join {l f : Nat} (h : l < f) (hf : f < 5) : rst l (f + 1) + 2 * 3 ^ (4 - f) = rst l f := by
  unfold rst
  rw [Nat.min_eq_right (by omega), Nat.min_eq_right (by omega), pow5' f, pow5 hf]
  omega
theorem join_lt {fs : List Flt} (hF : FlsOk fs) {i j : Nat} (hi : i < fs.length) (hj : j < fs.length) {c : Int} (hc : 0 ≤ c) (h : fs[i].arr + c ≤ fs[j].dep) : i < j := by
  have h1 := hF.rng i hi
  have h2 := hF.rng j hj
  rcases Nat.lt_trichotomy i j with h3 | h3 | h3
  · exact h3
  · subst h3
    omega
  · have := hF.ord j i hj hi h3
    omega
-- KEEP 8
section
variable {B : St} {p : PV} {fs : List Flt} {bs : List ByteArray} {os : List Int} (hP : PAt B p fs bs os)
include hP
theorem duties_ev : EvP Tryz.prog 29 [p.v] B fun v B1 => ∃ (r : Slc) (ds : List Duty), v = r.v ∧ SqS .duty B1 r ds ∧ ds.length ≤ 242 ∧ ∀ d ∈ ds, DR fs.length d := by
  have hfn := hP.d.tt.fls.len
  have hn5 := hP.d.n5
  have hol := hP.opl
  refine EvP.go Tryz.func29 rfl Tryz.ntmps29 Tryz.results29 rfl [none, none, none, none] rfl ?_
  (repeat' (first | refine J.seq ?_ | refine J.block ?_ | refine J.roA rfl ?_ | refine J.rfA (id := 1) rfl ?_ | refine X.ro rfl rfl ?_ | refine X.rf rfl rfl ?_ | refine X.nil0 ?_ | refine X.nilF ⟨by kernel_rfl, ?_⟩ | refine X.la 4 rfl rfl rfl rfl rfl rfl rfl rfl rfl rfl ?_ | refine X.bx rfl rfl rfl rfl rfl rfl rfl rfl fun b => ?_ | refine X.al rfl rfl rfl rfl rfl rfl rfl fun b => ?_ | refine X.st 5 rfl rfl rfl rfl rfl rfl rfl rfl rfl ?_ | refine X.st 6 rfl rfl rfl rfl rfl rfl rfl rfl rfl ?_))
  rename_i pb tb
  (revert b; intro cb)
  refine J.loop (σ := Nat × Acc Duty) (fun q => [(1, .pointer (some ⟨pb, 0, none⟩)), (3, .pointer (some ⟨tb, 0, none⟩)), (4, .pointer (some ⟨cb, 0, none⟩)), (5, .slice none 0 0), (6, q.2.v), (7, .int .i64 (q.1 : Int))])
    (fun q => [none, q.2.e 143 1, none, none, some (pb, ⟨p.cells, 38, 1⟩), some (tb, ⟨[p.t.zs.v, p.t.aps.v, p.t.fls.v], 27, 1⟩), some (cb, ⟨p.c.cells, 35, 1⟩)])
    (fun B1 q => Ge B B1 ∧ q.1 ≤ fs.length ∧ q.2.Ok .duty B1 ∧ potL q.2.xs + 3 ^ (5 - q.1) ≤ 243 ∧ ∀ d ∈ q.2.xs, DR fs.length d ∧ d.length = 1) (fun q => fs.length - q.1) (0, .nil) ⟨Ge.refl B, Nat.zero_le _, .nil, by decide, fun d h => by cases h⟩ ⟨rfl, rfl, rfl, rfl, rfl, rfl, trivial⟩ (fun _ _ _ h => h) ?_
  rintro ⟨i, a⟩ B1 hB ⟨hB1, hi, ha, hpot, hdr⟩
  dsimp only at hi ha hpot hdr ⊢
  have hal := potL_len a.xs
  have hpp : 1 ≤ 3 ^ (5 - i) := Nat.pos_of_ne_zero (Nat.ne_of_gt (Nat.pow_pos (by decide)))
  (repeat' (first | refine J.seq ?_ | refine J.block ?_ | refine J.roA rfl ?_ | refine X.ro rfl rfl ?_ | refine X.nil0 ?_ | refine J.skip ?_ | refine J.exit ?_ | refine X.l1 5 rfl rfl rfl rfl rfl rfl rfl rfl rfl ?_ | refine X.bs1 rfl rfl rfl rfl rfl rfl rfl rfl rfl rfl rfl rfl rfl (fun b => ?_) | refine X.bs rfl rfl rfl rfl rfl rfl (by rfl) rfl rfl (by rfl) (by rfl) rfl (fun b => ?_) | refine X.bd rfl rfl rfl rfl rfl rfl rfl rfl rfl rfl rfl ?_ | refine J.cond_d rfl (fun h => ?_) (fun h => ?_)))
  · refine X.give (p := 7) rfl fun B2 hB2 hg2 => ?_
    refine X.ac1 1 8 (z := [⟨(i : Int), true⟩]) (ha.ge hB2) rfl (duty1 hg2) rfl rfl rfl rfl rfl rfl rfl rfl rfl rfl rfl rfl rfl rfl (by show (_ + 1) * 24 ≤ _; omega) (by omega) fun a2 e2 ha2 => ?_
    (repeat' (first | refine J.seq ?_ | refine J.roA rfl ?_ | refine X.ro rfl rfl ?_ | refine X.nil0 ?_ | refine X.l1 4 rfl rfl rfl rfl rfl rfl rfl rfl rfl ?_))
    refine X.callq rfl rfl (gV_ok rfl) rfl rfl rfl rfl (en rfl) (hasS_ev (i : Int) (hP.hop.ge (hB1.trans hB2)) (by omega)) ?_
    rintro v rfl
    (repeat' (first | refine J.roA rfl ?_ | refine X.ro rfl rfl ?_ | refine X.nil0 ?_ | refine J.skip ?_ | refine X.ad rfl rfl rfl rfl rfl rfl (by omega) ?_ | refine X.bs1 rfl rfl rfl rfl rfl rfl rfl rfl rfl rfl rfl rfl rfl (fun b => ?_) | refine X.bs rfl rfl rfl rfl rfl rfl (by rfl) rfl rfl (by rfl) (by rfl) rfl (fun b => ?_) | refine X.bd rfl rfl rfl rfl rfl rfl rfl rfl rfl rfl rfl ?_ | refine J.cond_d rfl (fun h => ?_) (fun h => ?_)))
    · refine X.give (p := 9) rfl fun B3 hB3 hg3 => ?_
      refine X.ac1 1 10 (z := [⟨(i : Int), false⟩]) (ha2.ge hB3) rfl (duty1 hg3) rfl rfl rfl rfl rfl rfl rfl rfl rfl rfl rfl rfl rfl rfl (by rw [e2, List.length_append]; show (_ + 1 + 1) * 24 ≤ _; omega) (by rw [e2, List.length_append, List.length_singleton]; omega) fun a3 e3 ha3 => ?_
      clear hg2 hg3
      (repeat' (first | refine J.roA rfl ?_ | refine X.ro rfl rfl ?_ | refine X.nil0 ?_ | refine X.ad rfl rfl rfl rfl rfl rfl (by omega) ?_))
      have h5 := pow5 (i := i) (by omega)
      refine ⟨(i + 1, a3), ⟨rfl, rfl, rfl, rfl, rfl, rfl, trivial⟩, Less.app _ [_, _, _, _], ⟨hB1.trans (hB2.trans hB3), by dsimp only; omega, ha3, ?_, ?_⟩, by dsimp only; omega⟩
      · dsimp only
        rw [e3, e2, potL_app, potL_app, pot_one, pot_one, pow5']
        omega
      · dsimp only
        rw [e3, e2]
        intro d hd
        simp only [List.mem_append, List.mem_singleton] at hd
        rcases hd with (hd | rfl) | rfl
        · exact hdr d hd
        · exact ⟨.one (by omega) _, rfl⟩
        · exact ⟨.one (by omega) _, rfl⟩
    · clear hg2
      have h5 := pow5 (i := i) (by omega)
      refine ⟨(i + 1, a2), ⟨rfl, rfl, rfl, rfl, rfl, rfl, trivial⟩, Less.app _ [_, _], ⟨hB1.trans hB2, by dsimp only; omega, ha2, ?_, ?_⟩, by dsimp only; omega⟩
      · dsimp only
        rw [e2, potL_app, pot_one, pow5']
        omega
      · dsimp only
        rw [e2]
        intro d hd
        simp only [List.mem_append, List.mem_singleton] at hd
        rcases hd with hd | rfl
        · exact hdr d hd
        · exact ⟨.one (by omega) _, rfl⟩
  refine J.loop (σ := Nat × Acc Duty × Acc Duty) (fun q => [(1, .pointer (some ⟨pb, 0, none⟩)), (3, .pointer (some ⟨tb, 0, none⟩)), (4, .pointer (some ⟨cb, 0, none⟩)), (5, q.2.1.v), (6, q.2.2.v), (8, .int .i64 (q.1 : Int))])
    (fun q => [q.2.1.e 143 1, q.2.2.e 143 1, none, none, some (pb, ⟨p.cells, 38, 1⟩), some (tb, ⟨[p.t.zs.v, p.t.aps.v, p.t.fls.v], 27, 1⟩), some (cb, ⟨p.c.cells, 35, 1⟩)])
    (fun B2 q => Ge B1 B2 ∧ 1 ≤ q.1 ∧ q.1 ≤ 7 ∧ q.2.1.Ok .duty B2 ∧ q.2.2.Ok .duty B2 ∧ q.2.1.xs.length + potL q.2.2.xs ≤ 242 ∧ (∀ d ∈ q.2.1.xs, DR fs.length d) ∧ ∀ d ∈ q.2.2.xs, DR fs.length d ∧ d.length ≤ q.1) (fun q => 7 - q.1) (1, .nil, a) ⟨Ge.refl B1, Nat.le_refl 1, (by show 1 ≤ 7; decide), .nil, ha, (by show 0 + potL a.xs ≤ 242; omega), fun d h => (by cases h), fun d h => ⟨(hdr d h).1, by rw [(hdr d h).2]; exact Nat.le_refl 1⟩⟩ ⟨rfl, rfl, rfl, rfl, rfl, rfl, trivial⟩ (fun _ _ _ h => h) ?_
  clear hpot hal hpp hdr ha
  rintro ⟨k, A, Z⟩ B2 hB ⟨hB2, hk1, hk, hA, hX, hpot, hdA, hdX⟩
  dsimp only at hk1 hk hA hX hpot hdA hdX ⊢
  repeat (first | refine J.seq ?_ | refine J.block ?_ | refine J.scope ?_)
  refine J.roA rfl ?_
  refine X.giveAcc (D := .duty) (p := 1) (T := 143) rfl hX fun B3 hB3 hXs => ?_
  have hal := potL_len Z.xs
  (repeat' (first | refine J.seq ?_ | refine J.block ?_ | refine J.roA rfl ?_ | refine X.ro rfl rfl ?_ | refine X.nil0 ?_ | refine J.skip ?_ | refine J.exit ?_ | refine J.ret ?_ | refine J.cond_d rfl (fun h => ?_) (fun h => ?_)))
  · refine J.loop (σ := Nat × Acc Duty × Acc Duty) (fun q => [(1, .pointer (some ⟨pb, 0, none⟩)), (3, .pointer (some ⟨tb, 0, none⟩)), (4, .pointer (some ⟨cb, 0, none⟩)), (5, q.2.1.v), (6, Z.v), (8, .int .i64 (k : Int)), (9, q.2.2.v), (10, .int .i64 (q.1 : Int))])
      (fun q => [q.2.1.e 143 1, q.2.2.e 143 1, none, none, some (pb, ⟨p.cells, 38, 1⟩), some (tb, ⟨[p.t.zs.v, p.t.aps.v, p.t.fls.v], 27, 1⟩), some (cb, ⟨p.c.cells, 35, 1⟩)])
      (fun B4 q => Ge B3 B4 ∧ q.1 ≤ Z.xs.length ∧ q.2.1.Ok .duty B4 ∧ q.2.2.Ok .duty B4 ∧ q.2.1.xs.length + potL q.2.2.xs + potL (Z.xs.drop q.1) ≤ 242 ∧ (∀ d ∈ q.2.1.xs, DR fs.length d) ∧ ∀ d ∈ q.2.2.xs, DR fs.length d ∧ d.length ≤ k + 1) (fun q => Z.xs.length - q.1) (0, A, .nil) ⟨Ge.refl B3, Nat.zero_le _, hA.ge hB3, .nil, by dsimp only; rw [List.drop_zero]; show _ + 0 + _ ≤ _; omega, hdA, fun d h => by cases h⟩ ⟨rfl, rfl, rfl, rfl, rfl, rfl, rfl, rfl, trivial⟩ (fun _ _ _ h => h) ?_
    rintro ⟨j, A', N⟩ B4 hB' ⟨hB4, hj, hA', hN, hpot', hdA', hdN⟩
    dsimp only at hj hA' hN hpot' hdA' hdN ⊢
    have hXs4 := hXs.ge hB4
    (repeat' (first | refine J.seq ?_ | refine J.block ?_ | refine J.roA rfl ?_ | refine J.rdA (by kernel_rfl) rfl ?_ | refine X.ro rfl rfl ?_ | refine X.rd rfl rfl ?_ | refine X.nil0 ?_ | refine J.skip ?_ | refine J.exit ?_ | refine X.ad rfl rfl rfl rfl rfl rfl (by omega) ?_ | refine J.cond_d rfl (fun h => ?_) (fun h => ?_)))
    · have hj2 : j < Z.xs.length := by omega
      have hdr := (hdX _ (List.getElem_mem hj2)).1
      have hdl := (hdX _ (List.getElem_mem hj2)).2
      have hdp := potL_drop hj2
      have hlast := hdr.last
      have hle7 := hdr.le
      have hpos := hdr.pos
      (refine X.ix hXs4 (i := j) (by omega) rfl rfl rfl rfl rfl rfl rfl rfl (by first | rfl | omega) fun b1 f1 cs1 hr1 hx1 => ?_); obtain ⟨ua, un, uc, rfl, uq⟩ := hx1; (skip); (refine X.ls 0 hr1 rfl (by first | exact .md | exact .mo | exact .mf) (Ge.refl _) rfl rfl rfl rfl rfl rfl rfl ?_); (skip)
      refine X.callq rfl rfl (gV_ok rfl) rfl rfl rfl rfl (en rfl) (heads_ev (s := ⟨ua, un, uc⟩) uq (by omega)) ?_
      rintro v ⟨h2, rfl, hh2⟩
      (repeat' (first | refine J.seq ?_ | refine J.roA rfl ?_ | refine J.rdA (by kernel_rfl) rfl ?_ | refine X.ro rfl rfl ?_ | refine X.rd rfl rfl ?_ | refine X.nil0 ?_ | refine X.nil1 ⟨by kernel_rfl, ?_⟩ | refine J.skip ?_ | refine J.exit ?_ | refine X.l1 4 rfl rfl rfl rfl rfl rfl rfl rfl rfl ?_ | refine X.la 5 rfl rfl rfl rfl rfl rfl rfl rfl rfl rfl ?_ | refine X.la 6 rfl rfl rfl rfl rfl rfl rfl rfl rfl rfl ?_ | refine X.ad rfl rfl rfl rfl rfl rfl (by omega) ?_ | refine J.cond_d rfl (fun h => ?_) (fun h => ?_)))
      · exact ⟨(j + 1, A', N), ⟨rfl, rfl, rfl, rfl, rfl, rfl, rfl, rfl, trivial⟩, (fun _ _ _ h => h), ⟨hB4, by dsimp only; omega, hA', hN, by dsimp only; omega, hdA', hdN⟩, by dsimp only; omega⟩
      (refine X.ix hXs4 (i := j) (by omega) rfl rfl rfl rfl rfl rfl rfl rfl (by first | rfl | omega) fun b1 f1 cs1 hr1 hx1 => ?_); obtain ⟨wa, wn, wc, rfl, wq⟩ := hx1; (skip); (refine X.ls 0 hr1 rfl (by first | exact .md | exact .mo | exact .mf) (Ge.refl _) rfl rfl rfl rfl rfl rfl rfl ?_); (skip)
      refine X.call rfl rfl (gV_ok rfl) rfl rfl rfl rfl (en rfl) (checkDuty_ev (d := ⟨wa, wn, wc⟩) (hP.ge (hB1.trans (hB2.trans (hB3.trans hB4)))).d wq) ?_
      rintro v B5 hB5 ⟨r, vs, e, rfl, hr, he⟩
      have hrl := hr.len
      have hXs5 := hXs4.ge hB5
      have hPB := hP.ge (hB1.trans (hB2.trans (hB3.trans (hB4.trans hB5))))
      have hl4 : lastI Z.xs[j] < 5 := by omega
      have hp1 : pot Z.xs[j] = 3 ^ (4 - lastI Z.xs[j]) := rfl
      have hp2 := pow_1 (4 - lastI Z.xs[j])
      (repeat' (first | refine J.seq ?_ | refine J.block ?_ | refine J.roA rfl ?_ | refine X.ro rfl rfl ?_ | refine X.rd rfl rfl ?_ | refine X.nil0 ?_ | refine X.nil1 ⟨by kernel_rfl, ?_⟩ | refine J.skip ?_ | refine J.cond_d rfl (fun h => ?_) (fun h => ?_)))
      case' refine_1 =>
        (refine X.ix hXs5 (i := j) (by omega) rfl rfl rfl rfl rfl rfl rfl rfl (by first | rfl | omega) fun b1 f1 cs1 hr1 hx1 => ?_); obtain ⟨ya, yn, yc, rfl, yq⟩ := hx1; (skip); (refine X.ls 0 hr1 rfl (by first | exact .md | exact .mo | exact .mf) (Ge.refl _) rfl rfl rfl rfl rfl rfl rfl ?_); ((repeat' (first | refine X.bs1 rfl rfl rfl rfl rfl rfl rfl rfl rfl rfl rfl rfl rfl (fun b => ?_))))
        refine X.ac1 (D := .duty) 0 7 (z := Z.xs[j]) (hA'.ge hB5) rfl ⟨_, _, _, rfl, yq⟩ rfl rfl rfl rfl rfl rfl rfl rfl rfl rfl rfl rfl rfl rfl (by show (_ + 1) * 24 ≤ _; omega) (by omega) fun A' e2 hA2 => ?_
        have hA2d : ∀ d ∈ A'.xs, DR fs.length d := fun d hd => by
          rw [e2, List.mem_append, List.mem_singleton] at hd
          rcases hd with hd | rfl
          · exact hdA' d hd
          · exact hdr
        have hq : A'.xs.length + potL N.xs + rst (lastI Z.xs[j]) 0 + potL (Z.xs.drop (j + 1)) ≤ 243 := by
          rw [e2, rst_0, List.length_append, List.length_singleton]
          omega
        clear hdA' hpot' hdA hA
        (repeat' (first | refine J.seq ?_ | refine J.block ?_ | refine J.roA rfl ?_ | refine X.ro rfl rfl ?_ | refine X.nil0 ?_))
      case' refine_2 =>
        have hA2 := hA'.ge hB5
        have hA2d := hdA'
        have hq : A'.xs.length + potL N.xs + rst (lastI Z.xs[j]) 0 + potL (Z.xs.drop (j + 1)) ≤ 243 := by
          rw [rst_0]
          omega
        clear hA' hdA' hpot' hdA hA
      all_goals
        refine J.loop (σ := Nat × Acc Duty) (fun q => [(1, .pointer (some ⟨pb, 0, none⟩)), (3, .pointer (some ⟨tb, 0, none⟩)), (4, .pointer (some ⟨cb, 0, none⟩)), (5, A'.v), (6, Z.v), (8, .int .i64 (k : Int)), (9, q.2.v), (10, .int .i64 (j : Int)), (13, .int .i64 (q.1 : Int))])
          (fun q => [A'.e 143 1, q.2.e 143 1, none, none, some (pb, ⟨p.cells, 38, 1⟩), some (tb, ⟨[p.t.zs.v, p.t.aps.v, p.t.fls.v], 27, 1⟩), some (cb, ⟨p.c.cells, 35, 1⟩)])
          (fun B6 q => Ge B5 B6 ∧ q.1 ≤ fs.length ∧ q.2.Ok .duty B6 ∧ A'.xs.length + potL q.2.xs + rst (lastI Z.xs[j]) q.1 + potL (Z.xs.drop (j + 1)) ≤ 243 ∧ ∀ d ∈ q.2.xs, DR fs.length d ∧ d.length ≤ k + 1) (fun q => fs.length - q.1) (0, N) ⟨Ge.refl B5, Nat.zero_le _, hN.ge hB5, hq, hdN⟩ ⟨rfl, rfl, rfl, rfl, rfl, rfl, rfl, rfl, rfl, trivial⟩ (by first | exact (fun _ _ _ h => h) | exact Less.app _ [_]) ?_
        rintro ⟨f, N2⟩ B6 hB'' ⟨hB6, hf, hN2, hpot2, hdN2⟩
        dsimp only at hf hN2 hpot2 hdN2 ⊢
        have hXs6 := hXs5.ge hB6
        (repeat' (first | refine J.seq ?_ | refine J.block ?_ | refine J.roA rfl ?_ | refine J.rdA (by kernel_rfl) rfl ?_ | refine X.ro rfl rfl ?_ | refine X.rd rfl rfl ?_ | refine X.nil0 ?_ | refine J.skip ?_ | refine J.exit ?_ | refine X.l1 5 rfl rfl rfl rfl rfl rfl rfl rfl rfl ?_ | refine X.la 5 rfl rfl rfl rfl rfl rfl rfl rfl rfl rfl ?_ | refine X.la 6 rfl rfl rfl rfl rfl rfl rfl rfl rfl rfl ?_ | refine X.ad rfl rfl rfl rfl rfl rfl (by omega) ?_ | refine J.cond_d rfl (fun h => ?_) (fun h => ?_)))
        · have hf2 : f < fs.length := by omega
          (refine X.ix hXs6 (i := j) (by omega) rfl rfl rfl rfl rfl rfl rfl rfl (by first | rfl | omega) fun b1 f1 cs1 hr1 hx1 => ?_); obtain ⟨ma, mn, mc, rfl, mq⟩ := hx1; (skip); (refine X.ls 0 hr1 rfl (by first | exact .md | exact .mo | exact .mf) (Ge.refl _) rfl rfl rfl rfl rfl rfl rfl ?_); ((repeat' (first | refine X.rd rfl rfl ?_)))
          (refine X.ix hXs6 (i := j) (by omega) rfl rfl rfl rfl rfl rfl rfl rfl (by first | rfl | omega) fun b1 f1 cs1 hr1 hx1 => ?_); obtain ⟨na, nn, nc, rfl, nq⟩ := hx1; (skip); (refine X.ls 0 hr1 rfl (by first | exact .md | exact .mo | exact .mf) (Ge.refl _) rfl rfl rfl rfl rfl rfl rfl ?_); ((repeat' (first | refine X.rd rfl rfl ?_)))
          have hnl : nn = Z.xs[j].length := nq.len
          (repeat' (first | refine X.sb rfl rfl rfl rfl rfl rfl (by omega) ?_))
          (refine X.ix mq (i := (Z.xs[j].length - 1)) (by omega) rfl rfl rfl rfl rfl rfl rfl rfl (by first | rfl | omega) fun b1 f1 cs1 hr1 hx1 => ?_; obtain rfl := hx1; (repeat' (first | refine X.rd rfl rfl ?_)); refine X.ls 0 hr1 rfl (by first | exact .md | exact .mo | exact .mf) (Ge.refl _) rfl rfl rfl rfl rfl rfl rfl ?_; (repeat' (first | refine X.rd rfl rfl ?_)))
          refine X.callq (vs := [p.t.v, p.c.v, .int .i64 (lastI Z.xs[j] : Int), .int .i64 (f : Int)]) rfl rfl (.none rfl) rfl rfl rfl (by rw [← hlast.1]; rfl) (en rfl) (joins_ev (hPB.ge hB6).d.tt.ok (hPB.ge hB6).d.ct.fit (hPB.ge hB6).d.tt.fls hlast.2 hf2) ?_
          rintro v ⟨w, rfl, hw⟩
          (repeat' (first | refine J.seq ?_ | refine J.roA rfl ?_ | refine X.ro rfl rfl ?_ | refine X.rd rfl rfl ?_ | refine X.nil0 ?_ | refine X.nil1 ⟨by kernel_rfl, ?_⟩ | refine J.skip ?_ | refine J.exit ?_ | refine X.ad rfl rfl rfl rfl rfl rfl (by omega) ?_ | refine J.cond rfl (fun h => ?_) (fun h => ?_)))
          · exact ⟨(f + 1, N2), ⟨rfl, rfl, rfl, rfl, rfl, rfl, rfl, rfl, rfl, trivial⟩, (fun _ _ _ h => h), ⟨hB6, by dsimp only; omega, hN2, by dsimp only; have := rst_le (lastI Z.xs[j]) f; omega, hdN2⟩, by dsimp only; omega⟩
          · have hwt : w = true := by revert h; cases w <;> simp
            have hlt := join_lt (hPB.ge hB6).d.tt.ok hlast.2 hf2 (hPB.ge hB6).d.ct.fit.con.1 (hw hwt)
            have hrj := rst_join hlt (by omega)
            have hr1 := rst_1 (lastI Z.xs[j]) (f + 1)
            have hnl2 := potL_len N2.xs
            have hk6 : k ≤ 6 := by omega
            have hdf := hdr
            (refine X.ix hXs6 (i := j) (by omega) rfl rfl rfl rfl rfl rfl rfl rfl (by first | rfl | omega) fun b1 f1 cs1 hr1 hx1 => ?_); obtain ⟨ya, yn, yc, rfl, yq⟩ := hx1; (skip); (refine X.ls 0 hr1 rfl (by first | exact .md | exact .mo | exact .mf) (Ge.refl _) rfl rfl rfl rfl rfl rfl rfl ?_); (skip)
            refine X.acq (D := .task) (s2 := ⟨ya, yn, yc⟩) 2 yq rfl rfl rfl rfl rfl rfl rfl rfl rfl rfl rfl rfl rfl (by show (0 + _) * 16 ≤ _; omega) (by omega) fun d1 i1 hd1 => ?_
            (repeat' (first | refine X.ro rfl rfl ?_ | refine X.bs rfl rfl rfl rfl rfl rfl (by rfl) rfl rfl (by rfl) (by rfl) rfl (fun b => ?_) | refine X.bd rfl rfl rfl rfl rfl rfl rfl rfl rfl rfl rfl ?_))
            refine X.ac1 (D := .task) 2 7 (z := ⟨(f : Int), true⟩) hd1 rfl rfl rfl rfl rfl rfl rfl rfl rfl rfl rfl rfl rfl rfl rfl rfl (by rw [i1]; show (_ + 1) * 16 ≤ _; omega) (by rw [i1]; omega) fun d2 i2 hd2 => ?_
            (repeat' (first | refine X.bs1 rfl rfl rfl rfl rfl rfl rfl rfl rfl rfl rfl rfl rfl (fun b => ?_)))
            refine X.giveAcc (D := .task) (p := 2) (T := 145) rfl hd2 fun B7 hB7 hsB7 => ?_
            refine X.ac1 (D := .duty) 1 8 (z := d2.xs) (hN2.ge hB7) rfl ⟨_, _, _, rfl, hsB7⟩ rfl rfl rfl rfl rfl rfl rfl rfl rfl rfl rfl rfl rfl rfl (by show (_ + 1) * 24 ≤ _; omega) (by omega) fun N3 e3 hN3 => ?_
            rw [i2, i1] at e3
            clear hd1 hd2 i1 i2 hsB7
            (repeat' (first | refine J.seq ?_ | refine J.roA rfl ?_ | refine X.ro rfl rfl ?_ | refine X.nil0 ?_ | refine X.l1 4 rfl rfl rfl rfl rfl rfl rfl rfl rfl ?_))
            refine X.callq rfl rfl (gV_ok rfl) rfl rfl rfl rfl (en rfl) (hasS_ev (f : Int) ((hPB.ge hB6).ge hB7).hop (by omega)) ?_
            rintro v rfl
            have hn3 : N3.xs.length = N2.xs.length + 1 := by rw [e3, List.length_append]; rfl
            have hdN3 : ∀ d ∈ N3.xs, DR fs.length d ∧ d.length ≤ k + 1 := fun d hd => by
              rw [e3, List.mem_append, List.mem_singleton] at hd
              rcases hd with hd | rfl
              · exact hdN2 d hd
              · exact ⟨hdr.app (by omega) hf2 _, by rw [List.length_append, List.length_singleton]; omega⟩
            have hpN3 : potL N3.xs = potL N2.xs + 3 ^ (4 - f) := by rw [e3, potL_app, pot_app]
            (repeat' (first | refine J.roA rfl ?_ | refine X.ro rfl rfl ?_ | refine X.nil0 ?_ | refine J.skip ?_ | refine X.ad rfl rfl rfl rfl rfl rfl (by omega) ?_ | refine J.cond_d rfl (fun h => ?_) (fun h => ?_)))
            · have hXs7 := hXs6.ge hB7
              (refine X.ix hXs7 (i := j) (by omega) rfl rfl rfl rfl rfl rfl rfl rfl (by first | rfl | omega) fun b1 f1 cs1 hr1 hx1 => ?_); obtain ⟨xa, xn, xc, rfl, xq⟩ := hx1; (skip); (refine X.ls 0 hr1 rfl (by first | exact .md | exact .mo | exact .mf) (Ge.refl _) rfl rfl rfl rfl rfl rfl rfl ?_); (skip)
              refine X.acq (D := .task) (s2 := ⟨xa, xn, xc⟩) 2 xq rfl rfl rfl rfl rfl rfl rfl rfl rfl rfl rfl rfl rfl (by show (0 + _) * 16 ≤ _; omega) (by omega) fun d1 i1 hd1 => ?_
              (repeat' (first | refine X.ro rfl rfl ?_ | refine X.bs rfl rfl rfl rfl rfl rfl (by rfl) rfl rfl (by rfl) (by rfl) rfl (fun b => ?_) | refine X.bd rfl rfl rfl rfl rfl rfl rfl rfl rfl rfl rfl ?_))
              refine X.ac1 (D := .task) 2 9 (z := ⟨(f : Int), false⟩) hd1 rfl rfl rfl rfl rfl rfl rfl rfl rfl rfl rfl rfl rfl rfl rfl rfl (by rw [i1]; show (_ + 1) * 16 ≤ _; omega) (by rw [i1]; omega) fun d2 i2 hd2 => ?_
              (repeat' (first | refine X.bs1 rfl rfl rfl rfl rfl rfl rfl rfl rfl rfl rfl rfl rfl (fun b => ?_)))
              refine X.giveAcc (D := .task) (p := 2) (T := 145) rfl hd2 fun B8 hB8 hsB8 => ?_
              refine X.ac1 (D := .duty) 1 10 (z := d2.xs) (hN3.ge hB8) rfl ⟨_, _, _, rfl, hsB8⟩ rfl rfl rfl rfl rfl rfl rfl rfl rfl rfl rfl rfl rfl rfl (by show (_ + 1) * 24 ≤ _; omega) (by omega) fun N4 e4 hN4 => ?_
              rw [i2, i1] at e4
              clear hd1 hd2 i1 i2 hsB8
              (repeat' (first | refine J.roA rfl ?_ | refine X.ro rfl rfl ?_ | refine X.nil0 ?_ | refine X.ad rfl rfl rfl rfl rfl rfl (by omega) ?_))
              have hdN4 : ∀ d ∈ N4.xs, DR fs.length d ∧ d.length ≤ k + 1 := fun d hd => by
                rw [e4, List.mem_append, List.mem_singleton] at hd
                rcases hd with hd | rfl
                · exact hdN3 d hd
                · exact ⟨hdr.app (by omega) hf2 _, by rw [List.length_append, List.length_singleton]; omega⟩
              have hpN4 : potL N4.xs = potL N3.xs + 3 ^ (4 - f) := by rw [e4, potL_app, pot_app]
              exact ⟨(f + 1, N4), ⟨rfl, rfl, rfl, rfl, rfl, rfl, rfl, rfl, rfl, trivial⟩, Less.app _ [_, _, _, _], ⟨hB6.trans (hB7.trans hB8), by dsimp only; omega, hN4, by dsimp only; omega, hdN4⟩, by dsimp only; omega⟩
            · exact ⟨(f + 1, N3), ⟨rfl, rfl, rfl, rfl, rfl, rfl, rfl, rfl, rfl, trivial⟩, Less.app _ [_, _], ⟨hB6.trans hB7, by dsimp only; omega, hN3, by dsimp only; omega, hdN3⟩, by dsimp only; omega⟩
        · have hr1 := rst_1 (lastI Z.xs[j]) f
          exact ⟨(j + 1, A', N2), ⟨rfl, rfl, rfl, rfl, rfl, rfl, rfl, rfl, trivial⟩, (fun _ _ _ h => h), ⟨hB4.trans (hB5.trans hB6), by dsimp only; omega, hA2.ge hB6, hN2, by dsimp only; omega, hA2d, hdN2⟩, by dsimp only; omega⟩
    · exact ⟨(k + 1, A', N), ⟨rfl, rfl, rfl, rfl, rfl, rfl, trivial⟩, (fun _ _ _ h => h), ⟨hB2.trans (hB3.trans hB4), by dsimp only; omega, by dsimp only; omega, hA', hN, by dsimp only; omega, hdA', hdN⟩, by dsimp only; omega⟩
  · exact ⟨_, .cons (.tmp rfl) .nil, rfl, fun B' hB' hK => ⟨⟨oa A.ob, A.xs.length, A.xs.length⟩, A.xs, rfl, ((hA.ge hB3).ge hB').sq (T := 143) fun b Y h => hK b Y (by rw [← h]; exact .head _), by omega, hdA⟩⟩
end
end Go.Proofs.YthldmlfpebgojaaGreatDoor
/-
  Columns as data; how many columns grow from a pairing.
  No condition.
-/
namespace Go.Proofs.YthldmlfpebgojaaGreatDoor
set_option linter.unusedSimpArgs false
set_option linter.unusedVariables false
set_option maxHeartbeats 0
open Go.RowKit Go

/-- A column. -/
structure Col where
  pair : Pair
  cost : Int
  deriving DecidableEq
def Dt.col : Dt Col := ⟨3, fun B cs x => ∃ A n c, cs = [.string x.pair.base, .slice A n c, .int .i64 x.cost] ∧ Sq .duty B A n c x.pair.duties, by decide, by rintro _ _ _ ⟨_, _, _, rfl, _⟩; rfl, by rintro _ _ _ _ hB ⟨_, _, _, rfl, h⟩; exact ⟨_, _, _, rfl, h.ge hB⟩, by rintro _ _ _ ⟨_, _, _, rfl, _⟩; rfl⟩
theorem col_rep {B : St} {b : ByteArray} {s : Slc} {k : Int} {ds : List Duty} (h : SqS .duty B s ds) : Dt.col.rep B [.string b, s.v, .int .i64 k] ⟨⟨b, ds⟩, k⟩ := ⟨_, _, _, rfl, h⟩
/-- How many columns grow from a pairing with r flights ahead, at most. -/
def gro (r : Nat) : Nat := 243 ^ r
theorem gro_pos (r : Nat) : 1 ≤ gro r := Nat.pos_of_ne_zero (Nat.ne_of_gt (Nat.pow_pos (by decide)))
theorem gro_succ (r : Nat) : gro (r + 1) = 243 * gro r := by unfold gro; rw [Nat.pow_succ, Nat.mul_comm]
theorem gro_mono {r s : Nat} (h : r ≤ s) : gro r ≤ gro s := Nat.pow_le_pow_right (by decide) h
/-- One column and 242 that grow further. -/
theorem gro_step (r : Nat) : 1 + 242 * gro r ≤ gro (r + 1) := by
  have h1 := gro_pos r
  have h2 := gro_succ r
  omega
theorem gro_5 : gro 5 = 847288609443 := by decide
theorem gro_le {r : Nat} (h : r ≤ 5) : gro r ≤ 847288609443 := by
  have := gro_mono h
  rw [gro_5] at this
  exact this
end Go.Proofs.YthldmlfpebgojaaGreatDoor
/-
  A cut in the code: what holds where two ways meet.
  No condition.
-/
namespace Go.Proofs.YthldmlfpebgojaaGreatDoor
set_option linter.unusedSimpArgs false
set_option linter.unusedVariables false
open Go.RowKit Go

section
variable {P : Program} {N : Nat} {B : St} {K : Hp} {L : Loc} {Q : PostC} {a b : Code}
/-- A part of the code, by what holds at its end. -/
theorem J.cutT {σ : Type} (Lf : σ → Loc) (Kf : σ → Hp) (I : St → σ → Prop) (h1 : J P N B K L a (fun ex B1 K1 L1 => ex = .normal ∧ ∃ s, Subs L1 (Lf s) ∧ Less (Kf s) K1 ∧ I B1 s)) (h2 : ∀ s B1, Ge B B1 → I B1 s → J P N B1 (Kf s) (Lf s) b Q) : J P N B K L a (thenJ P N b Q) := by
  refine h1.imp fun ex B1 K1 L1 hB hq => ?_
  obtain ⟨rfl, s, hL, hK, hI⟩ := hq
  exact (h2 s B1 hB hI).less hL hK
end
end Go.Proofs.YthldmlfpebgojaaGreatDoor
/-
  Empty literals, slices of zeros, comparison of a slice with nil.
  No condition.
-/
namespace Go.Proofs.YthldmlfpebgojaaGreatDoor
set_option linter.unusedSimpArgs false
set_option linter.unusedVariables false
open Go.RowKit Go

theorem Acc.v_eq {α : Type} {a a' : Acc α} (h : a'.ob = a.ob) (k : a'.xs.length = a.xs.length) : a'.v = a.v := by
  unfold Acc.v
  rw [h, k]
theorem made_rows {α : Type} {D : Dt α} {z : List Value} {z0 : α} (hz : ∀ B, D.rep B z z0) (n : Nat) (B : St) : Rows D B (madeCells z.toArray (n * D.size)).toList (List.replicate n z0) := by
  have hl := D.len (hz B)
  have hp := D.pos
  refine ⟨by unfold madeCells; simp, fun i x hi => ?_⟩
  obtain ⟨hin, hx⟩ := List.getElem?_eq_some_iff.1 hi
  rw [List.length_replicate] at hin
  rw [List.getElem_replicate] at hx
  subst hx
  have e : (((madeCells z.toArray (n * D.size)).toList.drop (i * D.size)).take D.size) = z := by
    have h1 : i * D.size + D.size ≤ n * D.size := by rw [← Nat.succ_mul]; exact Nat.mul_le_mul_right _ hin
    refine List.ext_getElem (by unfold madeCells; simp; omega) fun j h2 h3 => ?_
    rw [List.getElem_take, List.getElem_drop]
    unfold madeCells
    simp only [Array.getElem_toList, Array.getElem_map, Array.getElem_range]
    have hj : (i * D.size + j) % z.toArray.size = j := by
      rw [List.size_toArray, hl, Nat.mul_comm, Nat.mul_add_mod, Nat.mod_eq_of_lt (by omega)]
    rw [hj, getElem!_pos z.toArray j (by simpa using h3)]
    simp
  rw [e]
  exact hz B
section
variable {N : Nat} {ops : Array Oper} {d : Md} {l : List Oper} {o : Oper} {B : St} {K : Hp} {L : Loc} {Q : PostX} {t : Nat}
/-- An empty literal. -/
theorem X.be0 {T el sz : Nat} {parts : Array (Nat × Operand)} (ho : o.op = .buildSlice T 0 parts) (hp : parts.toList = []) (hg : gV ops o L = some true) (hd : o.dst = some t) (ht : Nat.blt t N = true) (hel : lk elT T = some (el, sz)) (hs : Nat.blt 0 sz = true) (hn : n0B d K.length = true)
    (h : ∀ b, X Tryz.prog N ops (dNew d) l B (K ++ [some (b, ⟨[], el, sz⟩)]) ((t, empV) :: L) Q) : X Tryz.prog N ops d (o :: l) B K L Q := X.bs0 ho hp (gV_ok hg) hd ht (Go.Proofs.YthldmlfpebgojaaGreatDoor.el hel) hs hn h
/-- A slice that stands comes to an empty literal. -/
theorem X.acqE {α : Type} {D : Dt α} {ys : List α} {c : Call} {x y : Operand} {T el sz bytes : Nat} {s2 : Slc} (p : Nat) (hs2 : SqS D B s2 ys) (hy0 : 0 < ys.length) (hD : D.size = sz) (ho : o.op = .call c) (hc : c.callee = .builtin .append) (ha : c.args.toList = [x, y]) (hT : c.argTypes.toList = [T, T]) (hg : gV ops o L = some true) (hd : o.dst = some t) (ht : Nat.blt t N = true)
    (he : lk appT T = some (el, sz, bytes)) (hs : Nat.blt 0 sz = true) (hx : opvL L x = some empV) (hy : opvL L y = some s2.v) (hp : K[p]? = some none) (hb : ys.length * bytes ≤ 140737488355328) (hm : ys.length ≤ 1152921504606846976)
    (h : ∀ a' : Acc α, a'.xs = ys → a'.Ok D B → X Tryz.prog N ops (dMap d (Dr.mod · p)) l B (K.set p (a'.e el sz)) ((t, a'.v) :: L) Q) : X Tryz.prog N ops d (o :: l) B K L Q := by
  obtain ⟨A, k, c2⟩ := s2
  obtain ⟨h1, h2, h3, h4⟩ := hs2
  dsimp only at h1 h2 h3 h4
  subst h1
  obtain ⟨b, f, cs, rfl, g1, g2⟩ := h4 hy0
  exact X.appendE p ho hc ha hT (gV_ok hg) hd ht (Go.Proofs.YthldmlfpebgojaaGreatDoor.ap he) (Nat.le_of_ble_eq_true hs) hx hy hp hy0 (fun M hM => by rw [← hD]; exact rd_old hM g1) hb hm fun b => h ⟨cs, ys, some b⟩ rfl ⟨g2, hy0⟩
/-- A slice of zeros, as a list of one's own. -/
theorem X.mkA {α : Type} {D : Dt α} {z0 : α} {T el sz bytes n : Nat} {x y : Operand} {k k' : IntKind} {z : List Value} (hz0 : ∀ B, D.rep B z z0) (hD : D.size = sz) (ho : o.op = .makeSlice T x y) (hg : gV ops o L = some true) (hd : o.dst = some t) (ht : Nat.blt t N = true) (he : lk appT T = some (el, sz, bytes)) (hz : lk zroT el = some z) (hm : lk makT el = some z) (hzp : z.all plain1 = true) (hs : Nat.blt 0 sz = true) (hx : opvL L x = some (.int k (n : Int))) (hy : opvL L y = some (.int k' (n : Int)))
    (hb : bytes * n ≤ 281474976710656) (hn1 : n * sz ≤ 1152921504606846976) (hn : n0B d K.length = true) (h0 : 0 < n)
    (h : ∀ a : Acc α, a.xs = List.replicate n z0 → a.Ok D B → (∃ b, a.ob = some b) → X Tryz.prog N ops (dMap d .chg) l B (K ++ [a.e el sz]) ((t, a.v) :: L) Q) : X Tryz.prog N ops d (o :: l) B K L Q := by
  refine X.make ho (gV_ok hg) hd ht (Go.Proofs.YthldmlfpebgojaaGreatDoor.ap he) (zr hz) hzp (Nat.le_of_ble_eq_true hs) hx hy hb hn1 hn (mk hm) fun b => ?_
  have h2 := h ⟨(madeCells z.toArray (n * sz)).toList, List.replicate n z0, some b⟩ rfl ⟨by rw [← hD]; exact made_rows hz0 n B, by simp only [List.length_replicate]; exact h0⟩ ⟨b, rfl⟩
  simp only [Acc.v, Acc.e, accE, oa, List.length_replicate] at h2
  exact h2
/-- A slice is not nil. -/
theorem X.nilS {T el sz U b f n c : Nat} {x y : Operand} (ho : o.op = .binOp .eql T x y U) (hg : gV ops o L = some true) (hd : o.dst = some t) (ht : Nat.blt t N = true) (hel : lk elT T = some (el, sz)) (hx : opvL L x = some (.slice (some ⟨b, f, none⟩) n c)) (hy : opvL L y = some (.slice none 0 0))
    (h : X Tryz.prog N ops (dMap d .inc) l B K ((t, .bool false) :: L) Q) : X Tryz.prog N ops d (o :: l) B K L Q := by
  obtain ⟨g1, g2⟩ := elemC_some (Go.Proofs.YthldmlfpebgojaaGreatDoor.el hel)
  refine X.pure (gV_ok hg) hd ht ⟨by unfold isChg; rw [ho], by unfold isRd; rw [ho], fun F M hF => .inl ?_⟩ h
  unfold evalOp evBin evBinSlow
  rw [ho]
  simp only [hF.opv hx, hF.opv hy, plain, plain1, Bool.false_and, cond_false, nilPair, g1, nilOp]
end
end Go.Proofs.YthldmlfpebgojaaGreatDoor
/-
  Contracts: columns that grow from a pairing.
  Condition: the problem is one of the laws' data.
-/
namespace Go.Proofs.YthldmlfpebgojaaGreatDoor
set_option linter.unusedSimpArgs false
set_option linter.unusedVariables false
set_option maxRecDepth 100000
set_option maxHeartbeats 0
open Go.RowKit Go

/-- How many flights lie ahead of a pairing, at most r. -/
def Gr (n r : Nat) (x : Pair) : Prop := match x.duties.getLast? with
  | none => 5 ≤ r
  | some d => DR n d ∧ 4 ≤ lastI d + r
/-- How many columns a call of the recursion may add. -/
def g1 : Nat → Nat
  | 0 => 0
  | r + 1 => gro r
theorem g1_step (r : Nat) : 1 + 242 * g1 r ≤ gro r := by
  cases r with
  | zero => exact gro_pos 0
  | succ r => exact gro_step r
theorem dok_first {fs : List Flt} (hF : FlsOk fs) {y : Duty} (h : DOk fs y) : ∀ (k : Nat) (hk : k < y.length) (i j : Nat), (y[0]'(by omega)).flight = (i : Int) → y[k].flight = (j : Int) → i ≤ j := by
  intro k
  induction k with
  | zero =>
    intro hk i j h1 h2
    have : (i : Int) = j := h1.symm.trans h2
    omega
  | succ k ih =>
    intro hk i j h1 h2
    obtain ⟨m, hm, hmn⟩ := h.rng k (by omega)
    obtain ⟨j', hj', hjn⟩ := h.rng (k + 1) hk
    obtain rfl : j' = j := by omega
    have h3 := ih (by omega) i m h1 hm
    have h4 := join_lt hF hmn hjn (c := 0) (by omega) (by have := h.joins k hk m j' hmn hjn hm h2; omega)
    omega
/-- One duty more: one flight less ahead. -/
theorem gr_step {fs : List Flt} (hF : FlsOk fs) (n5 : fs.length ≤ 5) {x : Pair} {y : Duty} {r : Nat} (hr : Gr fs.length r x) (hy : DR fs.length y)
    (hb : ∀ h : 0 < x.duties.length, DOk fs x.duties[x.duties.length - 1] ∧ DOk fs y ∧ ∀ (k : Nat) (hk : k < x.duties[x.duties.length - 1].length) (j : Nat) (hj : j < y.length) (a b : Nat) (ha : a < fs.length) (hb : b < fs.length), k + 1 = x.duties[x.duties.length - 1].length → j = 0 → x.duties[x.duties.length - 1][k].flight = (a : Int) → y[j].flight = (b : Int) → fs[a].arr ≤ fs[b].dep) :
    ∃ r', r' + 1 = r ∧ Gr fs.length r' ⟨x.base, x.duties ++ [y]⟩ := by
  have hyl := hy.last
  rcases Nat.eq_zero_or_pos x.duties.length with h0 | h0
  · have hnil : x.duties = [] := List.length_eq_zero_iff.1 h0
    have h5 : 5 ≤ r := by
      unfold Gr at hr
      rw [hnil] at hr
      exact hr
    refine ⟨r - 1, by omega, ?_⟩
    unfold Gr
    rw [List.getLast?_concat]
    exact ⟨hy, by omega⟩
  · obtain ⟨d1, d2, hab⟩ := hb h0
    have hl : x.duties.getLast? = some x.duties[x.duties.length - 1] := by rw [List.getLast?_eq_getElem?, List.getElem?_eq_getElem (by omega)]
    unfold Gr at hr
    rw [hl] at hr
    obtain ⟨hd, h4⟩ := hr
    have hdl := hd.last
    obtain ⟨f, hf, hfn⟩ := d2.rng 0 d2.pos
    have hp := hd.pos
    have h6 := join_lt hF hdl.2 hfn (c := 0) (by omega) (by have := hab (x.duties[x.duties.length - 1].length - 1) (by omega) 0 d2.pos _ f hdl.2 hfn (by omega) rfl hdl.1 hf; omega)
    have hyp := hy.pos
    have h7 := dok_first hF d2 (y.length - 1) (by omega) f _ hf hyl.1
    refine ⟨r - 1, by omega, ?_⟩
    unfold Gr
    rw [List.getLast?_concat]
    exact ⟨hy, by omega⟩
theorem mem_set_col {l : List Col} {k : Nat} {z c : Col} (h : c ∈ l.set k z) : c = z ∨ c ∈ l := (List.mem_or_eq_of_mem_set h).symm
-- KEEP 8
section
variable {p : PV} {fs : List Flt} {bs : List ByteArray} {os : List Int}
theorem grow_ev : ∀ (r : Nat) {B : St} (hP : PAt B p fs bs os) {s : Slc} {ds : List Duty} (hs : SqS .duty B s ds) (hn : ds.length ≤ 242) (hds : ∀ d ∈ ds, DR fs.length d) {sx : Slc} {x : Pair} (hx : SqS .duty B sx x.duties) (hl : x.duties.length ≤ 6) (hr : Gr fs.length r x) {a : Acc Col} (ha : a.Ok .col B) (hw : ∀ c ∈ a.xs, WOk fs c.pair) (hb : a.xs.length + gro r ≤ 2000000000000),
    EvC Tryz.prog 30 [p.v, s.v, x.sv sx, a.v] B (a.e 80 3) fun v B1 oc => ∃ a' : Acc Col, v = a'.v ∧ oc = a'.e 80 3 ∧ a'.Ok .col B1 ∧ a'.xs.length ≤ a.xs.length + gro r ∧ ∀ c ∈ a'.xs, WOk fs c.pair := by
  intro r
  induction r using Nat.strongRecOn with
  | ind r ih =>
    intro B hP s ds hs hn hds sx x hx hl hr a ha hw hb
    have hgp := g1_step r
    have hsn := hs.len
    have hxn := hx.len
    refine EvC.go Tryz.func30 rfl Tryz.ntmps30 Tryz.results30 rfl [none] rfl ?_
    (repeat' (first | refine J.seq ?_ | refine J.roA rfl ?_ | refine X.ro rfl rfl ?_ | refine X.nil0 ?_ | refine X.la 2 rfl rfl rfl rfl rfl rfl rfl rfl rfl rfl ?_ | refine X.la 3 rfl rfl rfl rfl rfl rfl rfl rfl rfl rfl ?_ | refine X.bx rfl rfl rfl rfl rfl rfl rfl rfl fun b => ?_))
    rename_i pb
    (revert b; intro xb)
    refine X.call rfl rfl (gV_ok rfl) rfl rfl rfl rfl (en rfl) (newColumn_ev hP hx) ?_
    rintro v B1 hB1 ⟨cb, cs, k, e, rfl, he⟩
    (repeat' (first | refine J.seq ?_ | refine J.roA rfl ?_ | refine X.ro rfl rfl ?_ | refine X.nil0 ?_ | refine X.al rfl rfl rfl rfl rfl rfl rfl fun b => ?_ | refine X.st 4 rfl rfl rfl rfl rfl rfl rfl rfl rfl ?_))
    refine J.cutT (σ := Acc Col) (fun q => [(1, s.v), (3, q.v), (4, .pointer (some ⟨pb, 0, none⟩)), (6, .pointer (some ⟨xb, 0, none⟩))]) (fun q => [q.e 80 3, none, some (pb, ⟨p.cells, 38, 1⟩), some (xb, ⟨[.string x.base, sx.v], 78, 1⟩)])
      (fun B2 q => Ge B1 B2 ∧ q.Ok .col B2 ∧ q.xs.length ≤ a.xs.length + 1 ∧ ∀ c ∈ q.xs, WOk fs c.pair) ?_ ?_
    · (repeat' (first | refine J.seq ?_ | refine J.roA rfl ?_ | refine X.ro rfl rfl ?_ | refine J.skip ?_ | refine X.la 4 rfl rfl rfl rfl rfl rfl rfl rfl rfl rfl ?_ | refine X.bs rfl rfl rfl rfl rfl rfl (by rfl) rfl rfl (by rfl) (by rfl) rfl (fun b => ?_) | refine J.cond_d rfl (fun h => ?_) (fun h => ?_)))
      · obtain ⟨rfl, e3, hW⟩ := he (by assumption)
        have hxc : SqS .duty B cs x.duties := by rw [e3]; exact hx
        refine X.ac1 (D := .col) 0 5 (z := ⟨⟨x.base, x.duties⟩, k⟩) (ha.ge hB1) rfl (col_rep (hxc.ge hB1)) rfl rfl rfl rfl rfl rfl rfl rfl rfl rfl rfl rfl rfl rfl (by show (_ + 1) * 48 ≤ _; omega) (by omega) fun a2 e2 ha2 => ?_
        have l2 : a2.xs.length = a.xs.length + 1 := by rw [e2, List.length_append]; rfl
        have w2 : ∀ c ∈ a2.xs, WOk fs c.pair := fun c hc => by
          rw [e2, List.mem_append, List.mem_singleton] at hc
          rcases hc with hc | rfl
          · exact hw c hc
          · exact hW
        clear e2
        (repeat' (first | refine J.seq ?_ | refine J.block ?_ | refine J.roA rfl ?_ | refine X.ro rfl rfl ?_ | refine X.nil0 ?_ | refine X.sb rfl rfl rfl rfl rfl rfl (by omega) ?_))
        refine J.loop (σ := Nat × Acc Col) (fun q => [(1, s.v), (3, q.2.v), (4, .pointer (some ⟨pb, 0, none⟩)), (6, .pointer (some ⟨xb, 0, none⟩)), (11, .int .i64 (q.1 : Int))]) (fun q => [q.2.e 80 3, none, some (pb, ⟨p.cells, 38, 1⟩), some (xb, ⟨[.string x.base, sx.v], 78, 1⟩)])
          (fun B2 q => Ge B1 B2 ∧ q.1 < q.2.xs.length ∧ q.2.Ok .col B2 ∧ q.2.xs.length = a.xs.length + 1 ∧ ∀ c ∈ q.2.xs, WOk fs c.pair) (fun q => q.1) (a.xs.length, a2) ⟨Ge.refl _, by dsimp only; omega, ha2, l2, w2⟩ ⟨rfl, rfl, rfl, rfl, (by show some _ = some _; congr 2; omega), trivial⟩ (Less.app [_, _, _, _] _) ?_
        rintro ⟨i, q⟩ B2 hB2 ⟨hB12, hi, hq, hql, hqw⟩
        dsimp only at hi hq hql hqw ⊢
        obtain ⟨qb, hqb⟩ := Acc.ob_some hq (by omega)
        (repeat' (first | refine J.seq ?_ | refine J.rdA (by kernel_rfl) rfl ?_ | refine X.rd rfl rfl ?_ | refine X.nil1 ⟨by kernel_rfl, ?_⟩ | refine J.exit ?_ | refine J.cond_f rfl ?_ | refine X.g_d rfl rfl rfl (fun h => ?_) (fun h => ?_)))
        · refine X.ixo hq.ob (i := i) hi rfl rfl rfl rfl rfl rfl rfl rfl fun b' hb' => ?_
          obtain rfl := some_eq (hqb.symm.trans hb')
          (repeat' (first | refine X.rd rfl rfl ?_))
          refine X.acl (D := .col) 0 0 hq hi rfl hqb rfl rfl rfl rfl rfl rfl rfl rfl rfl rfl ?_
          rintro _ ⟨A1, n1, c1, rfl, hq1⟩
          (repeat' (first | refine X.rd rfl rfl ?_ | refine X.sb rfl rfl rfl rfl rfl rfl (by omega) ?_))
          have hi1 : i - 1 < q.xs.length := by omega
          refine X.ixo hq.ob (i := i - 1) hi1 rfl rfl rfl rfl rfl rfl rfl (by omega) fun b' hb' => ?_
          obtain rfl := some_eq (hqb.symm.trans hb')
          (repeat' (first | refine X.rd rfl rfl ?_))
          refine X.acl (D := .col) 0 0 hq hi1 rfl hqb rfl rfl rfl rfl rfl rfl rfl rfl rfl rfl ?_
          rintro _ ⟨A2, n2, c2, rfl, hq2⟩
          skip
          refine X.callq rfl rfl (gV_ok rfl) rfl rfl rfl rfl (en rfl) (comparePairings_ev (s1 := ⟨A1, n1, c1⟩) (s2 := ⟨A2, n2, c2⟩) hq1 hq2 (hqw _ (List.getElem_mem hi)).b (hqw _ (List.getElem_mem hi1)).b) ?_
          rintro v rfl
          (repeat' (first | refine J.seq ?_ | refine J.block ?_ | refine J.rdA (by kernel_rfl) rfl ?_ | refine X.rd rfl rfl ?_ | refine X.nil1 ⟨by kernel_rfl, ?_⟩ | refine J.skip ?_ | refine J.exit ?_ | refine X.sb rfl rfl rfl rfl rfl rfl (by omega) ?_ | refine J.cond_d rfl (fun h => ?_) (fun h => ?_)))
          · refine X.ixo hq.ob (i := i - 1) hi1 rfl rfl rfl rfl rfl rfl rfl (by omega) fun b' hb' => ?_
            obtain rfl := some_eq (hqb.symm.trans hb')
            skip
            refine X.acl (D := .col) 0 0 hq hi1 rfl hqb rfl rfl rfl rfl rfl rfl rfl rfl rfl rfl ?_
            rintro _ ⟨A3, n3, c3, rfl, hq3⟩
            (repeat' (first | refine X.rd rfl rfl ?_))
            refine X.ixo hq.ob (i := i) hi rfl rfl rfl rfl rfl rfl rfl rfl fun b' hb' => ?_
            obtain rfl := some_eq (hqb.symm.trans hb')
            skip
            refine X.acl (D := .col) 0 0 hq hi rfl hqb rfl rfl rfl rfl rfl rfl rfl rfl rfl rfl ?_
            rintro _ ⟨A4, n4, c4, rfl, hq4⟩
            skip
            refine X.ixo hq.ob (i := i) hi rfl rfl rfl rfl rfl rfl rfl rfl fun b' hb' => ?_
            obtain rfl := some_eq (hqb.symm.trans hb')
            skip
            refine X.acs (D := .col) (z := q.xs[i - 1]) 0 hq hi rfl hqb ⟨_, _, _, rfl, hq3⟩ rfl rfl rfl rfl rfl rfl rfl rfl rfl fun u1 e1 o1 k1 => ?_
            skip
            refine X.ixo hq.ob (i := i - 1) hi1 rfl rfl rfl rfl rfl rfl rfl (by omega) fun b' hb' => ?_
            obtain rfl := some_eq (hqb.symm.trans hb')
            skip
            refine X.acs (D := .col) (z := q.xs[i]) 0 k1 (i := i - 1) (by rw [e1, List.length_set]; exact hi1) rfl (o1.trans hqb) ⟨_, _, _, rfl, hq4⟩ rfl rfl rfl rfl rfl rfl rfl rfl rfl fun u2 e2 o2 k2 => ?_
            (repeat' (first | refine J.roA rfl ?_ | refine X.ro rfl rfl ?_ | refine X.nil0 ?_ | refine X.nil1 ⟨by kernel_rfl, ?_⟩ | refine X.sb rfl rfl rfl rfl rfl rfl (by omega) ?_))
            have hul : u2.xs.length = q.xs.length := by rw [e2, List.length_set, e1, List.length_set]
            refine ⟨(i - 1, u2), ⟨rfl, ?_, rfl, rfl, (by show some _ = some _; congr 2; dsimp only; omega), trivial⟩, (fun _ _ _ h => h), ⟨hB12, by dsimp only; omega, k2, by dsimp only; omega, fun c hc => ?_⟩, by dsimp only; omega⟩
            · show some _ = some u2.v
              rw [Acc.v_eq (o2.trans o1) hul]
            · dsimp only at hc
              rw [e2, e1] at hc
              rcases mem_set_col hc with rfl | hc
              · exact hqw _ (List.getElem_mem hi)
              · rcases mem_set_col hc with rfl | hc
                · exact hqw _ (List.getElem_mem hi1)
                · exact hqw _ hc
          · exact ⟨rfl, q, ⟨rfl, rfl, rfl, rfl, trivial⟩, (fun _ _ _ h => h), hB12, hq, by omega, hqw⟩
        · exact ⟨rfl, q, ⟨rfl, rfl, rfl, rfl, trivial⟩, (fun _ _ _ h => h), hB12, hq, by omega, hqw⟩
      · exact ⟨rfl, a, ⟨rfl, rfl, rfl, rfl, trivial⟩, Less.app [_, _, _, _] _, Ge.refl _, ha.ge hB1, by omega, hw⟩
    · rintro q B2 hB2 ⟨hB12, hq, hql, hqw⟩
      dsimp only at hq hql hqw ⊢
      (repeat' (first | refine J.seq ?_ | refine J.block ?_ | refine J.roA rfl ?_ | refine X.ro rfl rfl ?_ | refine X.nil0 ?_ | refine J.skip ?_ | refine J.ret ?_ | refine X.l1 3 rfl rfl rfl rfl rfl rfl rfl rfl rfl ?_ | refine J.cond_d rfl (fun h => ?_) (fun h => ?_)))
      · exact ⟨_, _, .cons (.tmp rfl) .nil, rfl, rfl, q, rfl, rfl, hq, by omega, hqw⟩
      refine J.loop (σ := Nat × Acc Col) (fun z => [(1, s.v), (3, z.2.v), (4, .pointer (some ⟨pb, 0, none⟩)), (6, .pointer (some ⟨xb, 0, none⟩)), (12, .int .i64 (z.1 : Int))]) (fun z => [z.2.e 80 3, none, some (pb, ⟨p.cells, 38, 1⟩), some (xb, ⟨[.string x.base, sx.v], 78, 1⟩)])
        (fun B3 z => Ge B2 B3 ∧ z.1 ≤ ds.length ∧ z.2.Ok .col B3 ∧ z.2.xs.length ≤ a.xs.length + 1 + z.1 * g1 r ∧ ∀ c ∈ z.2.xs, WOk fs c.pair) (fun z => ds.length - z.1) (0, q) ⟨Ge.refl _, Nat.zero_le _, hq, by dsimp only; omega, hqw⟩ ⟨rfl, rfl, rfl, rfl, rfl, trivial⟩ (fun _ _ _ h => h) ?_
      rintro ⟨j, z⟩ B3 hB3 ⟨hB23, hj, hz, hzl, hzw⟩
      dsimp only at hj hz hzl hzw ⊢
      have hP3 := hP.ge (hB1.trans (hB12.trans hB23))
      have hs3 := hs.ge (hB1.trans (hB12.trans hB23))
      have hx3 := hx.ge (hB1.trans (hB12.trans hB23))
      have hm2 : (j + 1) * g1 r = j * g1 r + g1 r := Nat.succ_mul _ _
      have hm1 : j < ds.length → (j + 1) * g1 r ≤ 242 * g1 r := fun h => Nat.mul_le_mul_right _ (by omega)
      (repeat' (first | refine J.seq ?_ | refine J.block ?_ | refine J.roA rfl ?_ | refine J.rfA (id := 19) rfl ?_ | refine J.rdA (by kernel_rfl) rfl ?_ | refine X.ro rfl rfl ?_ | refine X.rd rfl rfl ?_ | refine X.rf rfl rfl ?_ | refine X.nil0 ?_ | refine X.nil1 ⟨by kernel_rfl, ?_⟩ | refine J.skip ?_ | refine J.exit ?_ | refine J.ret ?_ | refine J.cond_f rfl ?_ | refine X.l1 2 rfl rfl rfl rfl rfl rfl rfl rfl rfl ?_ | refine X.l1 3 rfl rfl rfl rfl rfl rfl rfl rfl rfl ?_ | refine X.la 2 rfl rfl rfl rfl rfl rfl rfl rfl rfl rfl ?_ | refine X.sb rfl rfl rfl rfl rfl rfl (by omega) ?_ | refine X.g_d rfl rfl rfl (fun h => ?_) (fun h => ?_) | refine J.cond_d rfl (fun h => ?_) (fun h => ?_)))
      all_goals first | omega | skip
      · have hj2 : j < ds.length := by omega
        have hd := hds _ (List.getElem_mem hj2)
        have hdp := hd.pos
        obtain ⟨f, hf, hfn⟩ := hd.rng 0 hdp
        have hfl := hP3.d.tt.fls
        have hm1 := hm1 hj2
        (refine X.ix hs3 (i := j) (by omega) rfl rfl rfl rfl rfl rfl rfl rfl (by first | rfl | omega) fun b1 f1 cs1 hr1 hx1 => ?_); obtain ⟨ua, un, uc, rfl, uq⟩ := hx1; (skip); (refine X.ls 0 hr1 rfl (by first | exact .md | exact .mo | exact .mf) (Ge.refl _) rfl rfl rfl rfl rfl rfl rfl ?_); (skip)
        (refine X.ix uq (i := 0) (by omega) rfl rfl rfl rfl rfl rfl rfl rfl (by first | rfl | omega) fun b1 f1 cs1 hr1 hx1 => ?_; obtain rfl := hx1; (repeat' (first | refine X.rd rfl rfl ?_)); refine X.ls 0 hr1 rfl (by first | exact .md | exact .mo | exact .mf) (Ge.refl _) rfl rfl rfl rfl rfl rfl rfl ?_; skip)
        (refine X.ix hfl (i := f) (by omega) rfl rfl rfl rfl rfl rfl rfl rfl (by first | rfl | omega) fun b1 f1 cs1 hr1 hx1 => ?_; obtain rfl := hx1; (repeat' (first | refine X.rd rfl rfl ?_)); refine X.ls 1 hr1 rfl (by first | exact .md | exact .mo | exact .mf) (Ge.refl _) rfl rfl rfl rfl rfl rfl rfl ?_; (repeat' (first | refine J.seq ?_ | refine J.roA rfl ?_ | refine J.rfA (id := 19) rfl ?_ | refine J.rdA (by kernel_rfl) rfl ?_ | refine X.ro rfl rfl ?_ | refine X.rd rfl rfl ?_ | refine X.rf rfl rfl ?_ | refine X.nil0 ?_ | refine X.nil1 ⟨by kernel_rfl, ?_⟩ | refine J.skip ?_ | refine J.exit ?_ | refine J.cond_f rfl ?_ | refine X.l1 3 rfl rfl rfl rfl rfl rfl rfl rfl rfl ?_ | refine X.la 2 rfl rfl rfl rfl rfl rfl rfl rfl rfl rfl ?_ | refine X.ad rfl rfl rfl rfl rfl rfl (by omega) ?_ | refine X.sb rfl rfl rfl rfl rfl rfl (by omega) ?_ | refine X.g_d rfl rfl rfl (fun h => ?_) (fun h => ?_) | refine J.cond_d rfl (fun h => ?_) (fun h => ?_) | refine J.cond_nd rfl (fun h => ?_) (fun h => ?_))))
        all_goals first | omega | skip
        · exact ⟨(j + 1, z), ⟨rfl, rfl, rfl, rfl, rfl, trivial⟩, (fun _ _ _ h => h), ⟨hB23, by dsimp only; omega, hz, by dsimp only; omega, hzw⟩, by dsimp only; omega⟩
        · obtain ⟨r', rfl, hG⟩ := gr_step hP.d.tt.ok hP.d.n5 hr hd (fun h => absurd h (by omega))
          have hg1 : g1 (r' + 1) = gro r' := rfl
          refine X.acq (D := .duty) (s2 := sx) 1 hx3 rfl rfl rfl rfl rfl rfl rfl rfl rfl rfl rfl rfl rfl (by show (0 + _) * 24 ≤ _; omega) (by omega) fun d1 i1 hd1 => ?_
          (repeat' (first | refine X.rf rfl rfl ?_))
          (refine X.ix hs3 (i := j) (by omega) rfl rfl rfl rfl rfl rfl rfl rfl (by first | rfl | omega) fun b1 f1 cs1 hr1 hx1 => ?_); obtain ⟨ya, yn, yc, rfl, yq⟩ := hx1; (skip); (refine X.ls 0 hr1 rfl (by first | exact .md | exact .mo | exact .mf) (Ge.refl _) rfl rfl rfl rfl rfl rfl rfl ?_); ((repeat' (first | refine X.bs1 rfl rfl rfl rfl rfl rfl rfl rfl rfl rfl rfl rfl rfl (fun b => ?_))))
          refine X.ac1 (D := .duty) 1 4 (z := ds[j]) hd1 rfl ⟨_, _, _, rfl, yq⟩ rfl rfl rfl rfl rfl rfl rfl rfl rfl rfl rfl rfl rfl rfl (by rw [i1]; show (_ + 1) * 24 ≤ _; omega) (by rw [i1]; omega) fun d2 i2 hd2 => ?_
          (repeat' (first | refine X.rf rfl rfl ?_ | refine X.bd rfl rfl rfl rfl rfl rfl rfl rfl rfl rfl rfl ?_))
          refine X.giveAcc (D := .duty) (p := 1) (T := 143) rfl hd2 fun B5 hB5 hsB => ?_
          rw [i1] at i2
          refine X.callC 0 rfl rfl (gV_ok rfl) rfl rfl rfl rfl (en rfl) rfl (ih r' (by omega) (x := ⟨x.base, d2.xs⟩) (sx := ⟨oa d2.ob, d2.xs.length, d2.xs.length⟩) (a := z) (hP3.ge hB5) (Sq.ge hs3 hB5) hn hds hsB (by dsimp only; rw [i2, List.length_append, List.length_singleton]; omega) (by rw [i2]; exact hG) (hz.ge hB5) hzw (by omega)) ?_
          rintro v B6 oc hB6 ⟨z2, rfl, rfl, hz2, hzl2, hzw2⟩
          (repeat' (first | refine J.roA rfl ?_ | refine X.ro rfl rfl ?_ | refine X.rf rfl rfl ?_ | refine X.nil0 ?_ | refine X.nilF ⟨by kernel_rfl, ?_⟩ | refine X.ad rfl rfl rfl rfl rfl rfl (by omega) ?_))
          exact ⟨(j + 1, z2), ⟨rfl, rfl, rfl, rfl, rfl, trivial⟩, Less.app [_, _, _, _] _, ⟨hB23.trans ((hB5.trans hB6)), by dsimp only; omega, hz2, by dsimp only; omega, hzw2⟩, by dsimp only; omega⟩
      · have hj2 : j < ds.length := by omega
        have hd := hds _ (List.getElem_mem hj2)
        have hdp := hd.pos
        have hm1 := hm1 hj2
        (refine X.ix hx3 (i := (x.duties.length - 1)) (by omega) rfl rfl rfl rfl rfl rfl rfl rfl (by first | rfl | omega) fun b1 f1 cs1 hr1 hx1 => ?_); obtain ⟨ua, un, uc, rfl, uq⟩ := hx1; (skip); (refine X.ls 0 hr1 rfl (by first | exact .md | exact .mo | exact .mf) (Ge.refl _) rfl rfl rfl rfl rfl rfl rfl ?_); ((repeat' (first | refine X.rd rfl rfl ?_)))
        (refine X.ix hs3 (i := j) (by omega) rfl rfl rfl rfl rfl rfl rfl rfl (by first | rfl | omega) fun b1 f1 cs1 hr1 hx1 => ?_); obtain ⟨wa, wn, wc, rfl, wq⟩ := hx1; (skip); (refine X.ls 0 hr1 rfl (by first | exact .md | exact .mo | exact .mf) (Ge.refl _) rfl rfl rfl rfl rfl rfl rfl ?_); (skip)
        refine X.callq rfl rfl (gV_ok rfl) rfl rfl rfl rfl (en rfl) (between_ev (d1 := ⟨ua, un, uc⟩) (d2 := ⟨wa, wn, wc⟩) hP3.d.tt.ok hP3.d.ct.fit hP3.d.tt.fls uq wq) ?_
        rintro v ⟨e1, rfl, hb1⟩
        (repeat' (first | refine J.seq ?_ | refine J.roA rfl ?_ | refine J.rfA (id := 19) rfl ?_ | refine J.rdA (by kernel_rfl) rfl ?_ | refine X.ro rfl rfl ?_ | refine X.rd rfl rfl ?_ | refine X.rf rfl rfl ?_ | refine X.nil0 ?_ | refine X.nil1 ⟨by kernel_rfl, ?_⟩ | refine J.skip ?_ | refine J.exit ?_ | refine X.l1 3 rfl rfl rfl rfl rfl rfl rfl rfl rfl ?_ | refine X.la 2 rfl rfl rfl rfl rfl rfl rfl rfl rfl rfl ?_ | refine X.ad rfl rfl rfl rfl rfl rfl (by omega) ?_ | refine X.sb rfl rfl rfl rfl rfl rfl (by omega) ?_ | refine J.cond_d rfl (fun h => ?_) (fun h => ?_) | refine J.cond_nd rfl (fun h => ?_) (fun h => ?_)))
        all_goals first | omega | skip
        · exact ⟨(j + 1, z), ⟨rfl, rfl, rfl, rfl, rfl, trivial⟩, (fun _ _ _ h => h), ⟨hB23, by dsimp only; omega, hz, by dsimp only; omega, hzw⟩, by dsimp only; omega⟩
        · have hbt := hb1 (by assumption)
          (refine X.ix hx3 (i := (x.duties.length - 1)) (by omega) rfl rfl rfl rfl rfl rfl rfl rfl (by first | rfl | omega) fun b1 f1 cs1 hr1 hx1 => ?_); obtain ⟨ma, mn, mc, rfl, mq⟩ := hx1; (skip); (refine X.ls 0 hr1 rfl (by first | exact .md | exact .mo | exact .mf) (Ge.refl _) rfl rfl rfl rfl rfl rfl rfl ?_); ((repeat' (first | refine X.rd rfl rfl ?_)))
          (refine X.ix hs3 (i := j) (by omega) rfl rfl rfl rfl rfl rfl rfl rfl (by first | rfl | omega) fun b1 f1 cs1 hr1 hx1 => ?_); obtain ⟨ka, kn, kc, rfl, kq⟩ := hx1; (skip); (refine X.ls 0 hr1 rfl (by first | exact .md | exact .mo | exact .mf) (Ge.refl _) rfl rfl rfl rfl rfl rfl rfl ?_); (skip)
          refine X.call rfl rfl (gV_ok rfl) rfl rfl rfl rfl (en rfl) (checkRest_ev (d1 := ⟨ma, mn, mc⟩) (d2 := ⟨ka, kn, kc⟩) hP3.d mq kq x.base) ?_
          rintro v B4 hB4 ⟨rv, vs, e2, rfl, hrv, he2⟩
          have hvl := hrv.len
          have hx4 := Sq.ge hx3 hB4
          have hs4 := Sq.ge hs3 hB4
          have hP4 := hP3.ge hB4
          have hz4 := hz.ge hB4
          (repeat' (first | refine J.seq ?_ | refine J.roA rfl ?_ | refine J.rfA (id := 19) rfl ?_ | refine X.ro rfl rfl ?_ | refine X.rd rfl rfl ?_ | refine X.rf rfl rfl ?_ | refine X.nil0 ?_ | refine X.nil1 ⟨by kernel_rfl, ?_⟩ | refine J.skip ?_ | refine J.exit ?_ | refine J.cond_t rfl ?_ | refine X.l1 3 rfl rfl rfl rfl rfl rfl rfl rfl rfl ?_ | refine X.la 2 rfl rfl rfl rfl rfl rfl rfl rfl rfl rfl ?_ | refine X.ad rfl rfl rfl rfl rfl rfl (by omega) ?_ | refine X.g_n rfl rfl rfl (fun h => ?_) (fun h => ?_) | refine J.cond_d rfl (fun h => ?_) (fun h => ?_)))
          · exact ⟨(j + 1, z), ⟨rfl, rfl, rfl, rfl, rfl, trivial⟩, (fun _ _ _ h => h), ⟨hB23.trans hB4, by dsimp only; omega, hz4, by dsimp only; omega, hzw⟩, by dsimp only; omega⟩
          · exact ⟨(j + 1, z), ⟨rfl, rfl, rfl, rfl, rfl, trivial⟩, (fun _ _ _ h => h), ⟨hB23.trans hB4, by dsimp only; omega, hz4, by dsimp only; omega, hzw⟩, by dsimp only; omega⟩
          · obtain ⟨r', rfl, hG⟩ := gr_step hP.d.tt.ok hP.d.n5 hr hd (fun h => hbt)
            have hg1 : g1 (r' + 1) = gro r' := rfl
            refine X.acq (D := .duty) (s2 := sx) 1 hx4 rfl rfl rfl rfl rfl rfl rfl rfl rfl rfl rfl rfl rfl (by show (0 + _) * 24 ≤ _; omega) (by omega) fun d1 i1 hd1 => ?_
            (repeat' (first | refine X.rf rfl rfl ?_))
            (refine X.ix hs4 (i := j) (by omega) rfl rfl rfl rfl rfl rfl rfl rfl (by first | rfl | omega) fun b1 f1 cs1 hr1 hx1 => ?_); obtain ⟨ya, yn, yc, rfl, yq⟩ := hx1; (skip); (refine X.ls 0 hr1 rfl (by first | exact .md | exact .mo | exact .mf) (Ge.refl _) rfl rfl rfl rfl rfl rfl rfl ?_); ((repeat' (first | refine X.bs1 rfl rfl rfl rfl rfl rfl rfl rfl rfl rfl rfl rfl rfl (fun b => ?_))))
            refine X.ac1 (D := .duty) 1 4 (z := ds[j]) hd1 rfl ⟨_, _, _, rfl, yq⟩ rfl rfl rfl rfl rfl rfl rfl rfl rfl rfl rfl rfl rfl rfl (by rw [i1]; show (_ + 1) * 24 ≤ _; omega) (by rw [i1]; omega) fun d2 i2 hd2 => ?_
            (repeat' (first | refine X.rf rfl rfl ?_ | refine X.bd rfl rfl rfl rfl rfl rfl rfl rfl rfl rfl rfl ?_))
            refine X.giveAcc (D := .duty) (p := 1) (T := 143) rfl hd2 fun B5 hB5 hsB => ?_
            rw [i1] at i2
            refine X.callC 0 rfl rfl (gV_ok rfl) rfl rfl rfl rfl (en rfl) rfl (ih r' (by omega) (x := ⟨x.base, d2.xs⟩) (sx := ⟨oa d2.ob, d2.xs.length, d2.xs.length⟩) (a := z) (hP4.ge hB5) (Sq.ge hs4 hB5) hn hds hsB (by dsimp only; rw [i2, List.length_append, List.length_singleton]; omega) (by rw [i2]; exact hG) (hz4.ge hB5) hzw (by omega)) ?_
            rintro v B6 oc hB6 ⟨z2, rfl, rfl, hz2, hzl2, hzw2⟩
            (repeat' (first | refine J.roA rfl ?_ | refine X.ro rfl rfl ?_ | refine X.rf rfl rfl ?_ | refine X.nil0 ?_ | refine X.nilF ⟨by kernel_rfl, ?_⟩ | refine X.ad rfl rfl rfl rfl rfl rfl (by omega) ?_))
            exact ⟨(j + 1, z2), ⟨rfl, rfl, rfl, rfl, rfl, trivial⟩, Less.app [_, _, _, _] _, ⟨hB23.trans (hB4.trans ((hB5.trans hB6))), by dsimp only; omega, hz2, by dsimp only; omega, hzw2⟩, by dsimp only; omega⟩
      · exact ⟨_, _, .cons (.tmp rfl) .nil, rfl, rfl, z, rfl, rfl, hz, by
          have : j * g1 r ≤ 242 * g1 r := Nat.mul_le_mul_right _ (by omega)
          omega, hzw⟩
end
end Go.Proofs.YthldmlfpebgojaaGreatDoor
/-
  Contracts of the order of pairings in the program under study, through the library's CompareFunc.
  Condition: the lists lie in memory.
-/
namespace Go.Proofs.YthldmlfpebgojaaGreatDoor
set_option linter.unusedSimpArgs false
set_option linter.unusedVariables false
set_option maxHeartbeats 0
set_option maxRecDepth 20000
open Go.RowKit Go

section
variable {B : St}
theorem lex_short {α : Type} (c : α → α → Int) (x y : List α) (h : ∀ (j : Nat) (hx : j < x.length) (hy : j < y.length), j < y.length → c x[j] y[j] = 0) (hxy : y.length < x.length) : lex c x y = 1 := by
  rw [lex_end c x y y.length h (by omega) (Nat.le_refl _) (.inr rfl)]
  unfold cmpI
  rw [if_neg (by omega), if_pos (by omega)]
theorem lex_done {α : Type} (c : α → α → Int) (x y : List α) (h : ∀ (j : Nat) (hx : j < x.length) (hy : j < y.length), j < x.length → c x[j] y[j] = 0) (hxy : x.length ≤ y.length) : lex c x y = if x.length < y.length then -1 else 0 := by
  rw [lex_end c x y x.length h (Nat.le_refl _) hxy (.inl rfl)]
  unfold cmpI
  by_cases h2 : x.length < y.length
  · rw [if_pos (by omega), if_pos h2]
  · rw [if_neg (by omega), if_neg (by omega), if_neg h2]
theorem cfT_ev {s1 s2 : Slc} {x y : Duty} (hx : SqS .task B s1 x) (hy : SqS .task B s2 y) (bx : x.length ≤ 1000) (by' : y.length ≤ 1000) :
    EvP Tryz.prog 194 [s1.v, s2.v, .func (.func 195) #[] #[]] B fun v _ => v = .int .i64 (cmpD x y) := by
  have hnx := hx.len
  have hny := hy.len
  refine EvP.go Tryz.func194 rfl Tryz.ntmps194 Tryz.results194 rfl [] rfl ?_
  (repeat' (first | refine J.seq ?_ | refine J.block ?_ | refine J.roA rfl ?_ | refine X.ro rfl rfl ?_ | refine X.nil0 ?_))
  refine J.loop (σ := Nat) (fun i => [(0, s1.v), (1, s2.v), (2, .func (.func 195) #[] #[]), (11, s1.v), (12, .int .i64 (s1.n : Int)), (13, .int .i64 (i : Int))]) (fun _ => []) (fun B1 i => B1 = B ∧ i ≤ x.length ∧ i ≤ y.length ∧ ∀ (j : Nat) (hx : j < x.length) (hy : j < y.length), j < i → cmpT x[j] y[j] = 0) (fun i => x.length - i) 0 ⟨rfl, Nat.zero_le _, Nat.zero_le _, fun j _ _ h => absurd h (by omega)⟩ ⟨rfl, rfl, rfl, rfl, rfl, rfl, trivial⟩ (Less.refl _) fun i B1 hB hI => ?_
  obtain ⟨rfl, hi1, hi2, hj⟩ := hI
  (repeat' (first | refine J.seq ?_ | refine J.block ?_ | refine J.roA rfl ?_ | refine X.ro rfl rfl ?_ | refine X.nil0 ?_ | refine J.skip ?_ | refine J.exit ?_ | refine J.ret ?_ | refine J.cond_d rfl (fun h => ?_) (fun h => ?_)))
  · have hi3 : i < x.length := by omega
    (refine X.ix hx (i := i) (by omega) rfl rfl rfl rfl rfl rfl rfl rfl (by first | rfl | omega) fun b1 f1 cs1 hr1 hx1 => ?_; obtain rfl := hx1; skip; refine X.lg 0 hr1 rfl rfl (by first | exact .md | exact .mo | exact .mf) (Ge.refl _) rfl rfl rfl rfl rfl rfl rfl rfl ?_; (repeat' (first | refine J.seq ?_ | refine J.roA rfl ?_ | refine X.ro rfl rfl ?_ | refine X.nil0 ?_ | refine J.skip ?_ | refine J.ret ?_ | refine X.al rfl rfl rfl rfl rfl rfl rfl fun b => ?_ | refine X.st 0 rfl rfl rfl rfl rfl rfl rfl rfl rfl ?_ | refine J.cond_d rfl (fun h => ?_) (fun h => ?_))))
    · exact ⟨_, .cons (.tmp rfl) .nil, rfl, fun _ _ _ => (by
        obtain rfl : i = y.length := by omega
        show Value.int .i64 1 = Value.int .i64 (lex cmpT x y)
        rw [lex_short cmpT x y hj (by omega)])⟩
    · have hi4 : i < y.length := by omega
      (refine X.ix hy (i := i) (by omega) rfl rfl rfl rfl rfl rfl rfl rfl (by first | rfl | omega) fun b1 f1 cs1 hr1 hx1 => ?_; obtain rfl := hx1; skip; refine X.lg 0 hr1 rfl rfl (by first | exact .md | exact .mo | exact .mf) (Ge.refl _) rfl rfl rfl rfl rfl rfl rfl rfl ?_; (repeat' (first | refine J.seq ?_ | refine J.roA rfl ?_ | refine X.ro rfl rfl ?_ | refine X.nil0 ?_ | refine X.la 0 rfl rfl rfl rfl rfl rfl rfl rfl rfl rfl ?_ | refine X.la 1 rfl rfl rfl rfl rfl rfl rfl rfl rfl rfl ?_ | refine X.al rfl rfl rfl rfl rfl rfl rfl fun b => ?_ | refine X.st 1 rfl rfl rfl rfl rfl rfl rfl rfl rfl ?_)))
      refine X.callq rfl rfl (gV_ok rfl) rfl rfl rfl rfl (en rfl) (compareTasksM_ev x[i] y[i]) ?_
      rintro v rfl
      (repeat' (first | refine J.seq ?_ | refine J.roA rfl ?_ | refine X.ro rfl rfl ?_ | refine X.nil0 ?_ | refine J.skip ?_ | refine J.ret ?_ | refine X.ad rfl rfl rfl rfl rfl rfl (by omega) ?_ | refine J.cond_nd rfl (fun h => ?_) (fun h => ?_)))
      · exact ⟨_, .cons (.tmp rfl) .nil, rfl, fun _ _ _ => (by show Value.int .i64 (cmpT x[i] y[i]) = Value.int .i64 (lex cmpT x y); rw [lex_at cmpT _ _ i hj hi3 hi4 (by assumption)])⟩
      · refine ⟨i + 1, ⟨rfl, rfl, rfl, rfl, rfl, rfl, trivial⟩, fun p b X h => by simp at h, ⟨rfl, by omega, by omega, fun j h1 h2 h3 => ?_⟩, by dsimp only; omega⟩
        rcases Nat.lt_or_eq_of_le (Nat.le_of_lt_succ h3) with h4 | rfl
        · exact hj j h1 h2 h4
        · assumption
  · obtain rfl : i = x.length := by omega
    exact ⟨_, .cons (.tmp rfl) .nil, rfl, fun _ _ _ => (by show Value.int .i64 (-1) = Value.int .i64 (lex cmpT x y); rw [lex_done cmpT x y hj hi2, if_pos (by omega)])⟩
  · obtain rfl : i = x.length := by omega
    exact ⟨_, .cons (.tmp rfl) .nil, rfl, fun _ _ _ => (by show Value.int .i64 0 = Value.int .i64 (lex cmpT x y); rw [lex_done cmpT x y hj hi2, if_neg (by omega)])⟩
theorem compareDutiesM_ev {s1 s2 : Slc} {x y : Duty} (hx : SqS .task B s1 x) (hy : SqS .task B s2 y) (bx : x.length ≤ 1000) (by' : y.length ≤ 1000) : EvP Tryz.prog 131 [s1.v, s2.v] B fun v _ => v = .int .i64 (cmpD x y) := by
  refine EvP.go Tryz.func131 rfl Tryz.ntmps131 Tryz.results131 rfl [] rfl ?_
  (repeat' (first | refine J.seq ?_ | refine J.roA rfl ?_ | refine X.ro rfl rfl ?_ | refine X.nil0 ?_))
  refine X.callq rfl rfl (gV_ok rfl) rfl rfl rfl rfl (en rfl) (cfT_ev hx hy bx by') ?_
  rintro v rfl
  (repeat' (first | refine X.ro rfl rfl ?_ | refine X.nil0 ?_ | refine J.ret ?_))
  exact ⟨_, .cons (.tmp rfl) .nil, rfl, fun _ _ _ => rfl⟩
theorem cfD_ev {s1 s2 : Slc} {x y : List Duty} (hx : SqS .duty B s1 x) (hy : SqS .duty B s2 y) (bx : x.length ≤ 1000) (by' : y.length ≤ 1000) (dx : ∀ d ∈ x, d.length ≤ 1000) (dy : ∀ d ∈ y, d.length ≤ 1000) :
    EvP Tryz.prog 130 [s1.v, s2.v, .func (.func 131) #[] #[]] B fun v _ => v = .int .i64 (lex cmpD x y) := by
  have hnx := hx.len
  have hny := hy.len
  refine EvP.go Tryz.func130 rfl Tryz.ntmps130 Tryz.results130 rfl [] rfl ?_
  (repeat' (first | refine J.seq ?_ | refine J.block ?_ | refine J.roA rfl ?_ | refine X.ro rfl rfl ?_ | refine X.nil0 ?_))
  refine J.loop (σ := Nat) (fun i => [(0, s1.v), (1, s2.v), (2, .func (.func 131) #[] #[]), (11, s1.v), (12, .int .i64 (s1.n : Int)), (13, .int .i64 (i : Int))]) (fun _ => []) (fun B1 i => B1 = B ∧ i ≤ x.length ∧ i ≤ y.length ∧ ∀ (j : Nat) (hx : j < x.length) (hy : j < y.length), j < i → cmpD x[j] y[j] = 0) (fun i => x.length - i) 0 ⟨rfl, Nat.zero_le _, Nat.zero_le _, fun j _ _ h => absurd h (by omega)⟩ ⟨rfl, rfl, rfl, rfl, rfl, rfl, trivial⟩ (Less.refl _) fun i B1 hB hI => ?_
  obtain ⟨rfl, hi1, hi2, hj⟩ := hI
  (repeat' (first | refine J.seq ?_ | refine J.block ?_ | refine J.roA rfl ?_ | refine X.ro rfl rfl ?_ | refine X.nil0 ?_ | refine J.skip ?_ | refine J.exit ?_ | refine J.ret ?_ | refine J.cond_d rfl (fun h => ?_) (fun h => ?_)))
  · have hi3 : i < x.length := by omega
    (refine X.ix hx (i := i) (by omega) rfl rfl rfl rfl rfl rfl rfl rfl (by first | rfl | omega) fun b1 f1 cs1 hr1 hx1 => ?_); obtain ⟨ua, un, uc, rfl, uq⟩ := hx1; (skip); (refine X.ls 0 hr1 rfl (by first | exact .md | exact .mo | exact .mf) (Ge.refl _) rfl rfl rfl rfl rfl rfl rfl ?_); ((repeat' (first | refine J.seq ?_ | refine J.roA rfl ?_ | refine X.ro rfl rfl ?_ | refine X.nil0 ?_ | refine J.skip ?_ | refine J.ret ?_ | refine J.cond_d rfl (fun h => ?_) (fun h => ?_))))
    · exact ⟨_, .cons (.tmp rfl) .nil, rfl, fun _ _ _ => (by
        obtain rfl : i = y.length := by omega
        show Value.int .i64 1 = Value.int .i64 (lex cmpD x y)
        rw [lex_short cmpD x y hj (by omega)])⟩
    · have hi4 : i < y.length := by omega
      (refine X.ix hy (i := i) (by omega) rfl rfl rfl rfl rfl rfl rfl rfl (by first | rfl | omega) fun b1 f1 cs1 hr1 hx1 => ?_); obtain ⟨wa, wn, wc, rfl, wq⟩ := hx1; (skip); (refine X.ls 0 hr1 rfl (by first | exact .md | exact .mo | exact .mf) (Ge.refl _) rfl rfl rfl rfl rfl rfl rfl ?_); ((repeat' (first | refine J.seq ?_ | refine J.roA rfl ?_ | refine X.ro rfl rfl ?_ | refine X.nil0 ?_)))
      refine X.callq rfl rfl (gV_ok rfl) rfl rfl rfl rfl (en rfl) (compareDutiesM_ev (s1 := ⟨ua, un, uc⟩) (s2 := ⟨wa, wn, wc⟩) uq wq (dx _ (List.getElem_mem _)) (dy _ (List.getElem_mem _))) ?_
      rintro v rfl
      (repeat' (first | refine J.seq ?_ | refine J.roA rfl ?_ | refine X.ro rfl rfl ?_ | refine X.nil0 ?_ | refine J.skip ?_ | refine J.ret ?_ | refine X.ad rfl rfl rfl rfl rfl rfl (by omega) ?_ | refine J.cond_nd rfl (fun h => ?_) (fun h => ?_)))
      · exact ⟨_, .cons (.tmp rfl) .nil, rfl, fun _ _ _ => (by show Value.int .i64 (cmpD x[i] y[i]) = Value.int .i64 (lex cmpD x y); rw [lex_at cmpD _ _ i hj hi3 hi4 (by assumption)])⟩
      · refine ⟨i + 1, ⟨rfl, rfl, rfl, rfl, rfl, rfl, trivial⟩, fun p b X h => by simp at h, ⟨rfl, by omega, by omega, fun j h1 h2 h3 => ?_⟩, by dsimp only; omega⟩
        rcases Nat.lt_or_eq_of_le (Nat.le_of_lt_succ h3) with h4 | rfl
        · exact hj j h1 h2 h4
        · assumption
  · obtain rfl : i = x.length := by omega
    exact ⟨_, .cons (.tmp rfl) .nil, rfl, fun _ _ _ => (by show Value.int .i64 (-1) = Value.int .i64 (lex cmpD x y); rw [lex_done cmpD x y hj hi2, if_pos (by omega)])⟩
  · obtain rfl : i = x.length := by omega
    exact ⟨_, .cons (.tmp rfl) .nil, rfl, fun _ _ _ => (by show Value.int .i64 0 = Value.int .i64 (lex cmpD x y); rw [lex_done cmpD x y hj hi2, if_neg (by omega)])⟩
theorem comparePairingsM_ev {s1 s2 : Slc} {x y : Pair} (hx : SqS .duty B s1 x.duties) (hy : SqS .duty B s2 y.duties) (bx : PairB x) (by' : PairB y) : EvP Tryz.prog 75 [x.sv s1, y.sv s2] B fun v _ => v = .int .i64 (cmpP x y) := by
  refine EvP.go Tryz.func75 rfl Tryz.ntmps75 Tryz.results75 rfl [] rfl ?_
  (repeat' (first | refine J.seq ?_ | refine J.roA rfl ?_ | refine X.ro rfl rfl ?_ | refine X.nil0 ?_ | refine X.l1 0 rfl rfl rfl rfl rfl rfl rfl rfl rfl ?_ | refine X.l1 1 rfl rfl rfl rfl rfl rfl rfl rfl rfl ?_ | refine X.bx rfl rfl rfl rfl rfl rfl rfl rfl fun b => ?_))
  refine X.callq rfl rfl (gV_ok rfl) rfl rfl rfl rfl (en rfl) (cmps_ev _ _) ?_
  rintro v rfl
  (repeat' (first | refine J.seq ?_ | refine J.roA rfl ?_ | refine X.ro rfl rfl ?_ | refine X.nil0 ?_ | refine J.skip ?_ | refine J.ret ?_ | refine X.l1 0 rfl rfl rfl rfl rfl rfl rfl rfl rfl ?_ | refine X.l1 1 rfl rfl rfl rfl rfl rfl rfl rfl rfl ?_ | refine J.cond_nd rfl (fun h => ?_) (fun h => ?_)))
  · exact ⟨_, .cons (.tmp rfl) .nil, rfl, fun _ _ _ => (by unfold cmpP; rw [if_neg (by assumption)]; rfl)⟩
  · refine X.callq rfl rfl (gV_ok rfl) rfl rfl rfl rfl (en rfl) (cfD_ev hx hy bx.n by'.n bx.d by'.d) ?_
    rintro v rfl
    (repeat' (first | refine X.ro rfl rfl ?_ | refine X.nil0 ?_ | refine J.ret ?_))
    exact ⟨_, .cons (.tmp rfl) .nil, rfl, fun _ _ _ => (by unfold cmpP; rw [if_pos (by assumption)]; rfl)⟩
theorem samePairing_ev {s1 s2 : Slc} {x y : Pair} (hx : SqS .duty B s1 x.duties) (hy : SqS .duty B s2 y.duties) (bx : PairB x) (by' : PairB y) : EvP Tryz.prog 37 [x.sv s1, y.sv s2] B fun v _ => v = .bool (decide (cmpP x y = 0)) := by
  refine EvP.go Tryz.func37 rfl Tryz.ntmps37 Tryz.results37 rfl [] rfl ?_
  (repeat' (first | refine J.seq ?_ | refine J.roA rfl ?_ | refine X.ro rfl rfl ?_ | refine X.nil0 ?_ | refine X.la 0 rfl rfl rfl rfl rfl rfl rfl rfl rfl rfl ?_ | refine X.la 1 rfl rfl rfl rfl rfl rfl rfl rfl rfl rfl ?_ | refine X.bx rfl rfl rfl rfl rfl rfl rfl rfl fun b => ?_))
  refine X.callq rfl rfl (gV_ok rfl) rfl rfl rfl rfl (en rfl) (comparePairings_ev hx hy bx by') ?_
  rintro v rfl
  (repeat' (first | refine X.ro rfl rfl ?_ | refine X.nil0 ?_ | refine J.ret ?_))
  exact ⟨_, .cons (.tmp rfl) .nil, rfl, fun _ _ _ => rfl⟩
end
end Go.Proofs.YthldmlfpebgojaaGreatDoor
/-
  Contracts: a pairing in new memory.
  Condition: its duties are not empty.
-/
namespace Go.Proofs.YthldmlfpebgojaaGreatDoor
set_option linter.unusedSimpArgs false
set_option linter.unusedVariables false
set_option maxRecDepth 100000
set_option maxHeartbeats 0
open Go.RowKit Go

/-- A pairing with duties that are not empty. -/
structure PairC (x : Pair) : Prop where
  p : 0 < x.duties.length
  n : x.duties.length ≤ 1000
  d : ∀ d ∈ x.duties, 0 < d.length ∧ d.length ≤ 1000
theorem PairC.b {x : Pair} (h : PairC x) : PairB x := ⟨h.n, fun d hd => (h.d d hd).2⟩
-- KEEP 8
section
variable {B : St}
theorem clone_ev {s : Slc} {x : Duty} (hs : SqS .task B s x) (hp : 0 < x.length) (hl : x.length ≤ 1000) : EvP Tryz.prog 127 [s.v] B fun v B1 => ∃ r : Slc, v = r.v ∧ SqS .task B1 r x := by
  have hs' := hs
  obtain ⟨A, n, c⟩ := s
  obtain ⟨h1, h2, h3, h4⟩ := hs'
  dsimp only at h1 h2 h3 h4
  subst h1
  obtain ⟨b0, f0, cs0, rfl, g1, g2⟩ := h4 hp
  refine EvP.go Tryz.func127 rfl Tryz.ntmps127 Tryz.results127 rfl [none] rfl ?_
  (repeat' (first | refine J.seq ?_ | refine J.roA rfl ?_ | refine X.ro rfl rfl ?_ | refine X.nil0 ?_))
  refine X.nilS rfl rfl rfl rfl rfl rfl rfl ?_
  (repeat' (first | refine J.seq ?_ | refine J.roA rfl ?_ | refine X.nil0 ?_ | refine J.skip ?_ | refine J.cond_f rfl ?_))
  refine X.be0 rfl rfl rfl rfl rfl rfl rfl rfl fun b => ?_
  (repeat' (first | refine X.ro rfl rfl ?_))
  refine X.acqE (D := .task) 0 hs hp rfl rfl rfl rfl rfl rfl rfl rfl rfl rfl rfl rfl rfl (by show _ * 16 ≤ _; omega) (by omega) fun a e ha => ?_
  (repeat' (first | refine X.ro rfl rfl ?_ | refine X.nil0 ?_ | refine J.ret ?_))
  exact ⟨_, .cons (.tmp rfl) .nil, rfl, fun B' hB' hK => ⟨⟨oa a.ob, a.xs.length, a.xs.length⟩, rfl, e ▸ (ha.ge hB').sq (T := 145) fun b Y h => hK b Y (by rw [← h]; exact .head _)⟩⟩
theorem copyPairing_ev {s : Slc} {x : Pair} (hs : SqS .duty B s x.duties) (hx : PairC x) : EvP Tryz.prog 73 [x.sv s] B fun v B1 => ∃ r : Slc, v = x.sv r ∧ SqS .duty B1 r x.duties := by
  have hn := hs.len
  have hx0 := hx.p
  have hxn := hx.n
  refine EvP.go Tryz.func73 rfl Tryz.ntmps73 Tryz.results73 rfl [] rfl ?_
  (repeat' (first | refine J.seq ?_ | refine J.roA rfl ?_ | refine J.rfA (id := 1) rfl ?_ | refine X.rf rfl rfl ?_ | refine X.nil0 ?_ | refine X.l1 0 rfl rfl rfl rfl rfl rfl rfl rfl rfl ?_ | refine X.bx rfl rfl rfl rfl rfl rfl rfl rfl fun b => ?_ | refine X.al rfl rfl rfl rfl rfl rfl rfl fun b => ?_))
  rename_i xb
  (revert b; intro zb)
  refine X.mkA (D := .duty) (z0 := []) (n := s.n) (fun B => ⟨none, 0, 0, rfl, Sq.nil0⟩) rfl rfl rfl rfl rfl rfl rfl rfl rfl rfl rfl rfl (by omega) (by show _ * 1 ≤ _; omega) rfl (by omega) fun a0 e0 ha0 hb0 => ?_
  obtain ⟨qb, hqb⟩ := hb0
  have l0 : a0.xs.length = x.duties.length := by rw [e0, List.length_replicate, hn]
  (repeat' (first | refine J.seq ?_ | refine J.block ?_ | refine J.roA rfl ?_ | refine X.ro rfl rfl ?_ | refine X.nil0 ?_ | refine X.nilF ⟨by kernel_rfl, ?_⟩ | refine X.l1 0 rfl rfl rfl rfl rfl rfl rfl rfl rfl ?_ | refine X.al rfl rfl rfl rfl rfl rfl rfl fun b => ?_ | refine X.st 3 rfl rfl rfl rfl rfl rfl rfl rfl rfl ?_ | refine X.bd rfl rfl rfl rfl rfl rfl rfl rfl rfl rfl rfl ?_))
  (revert b; intro ob)
  refine J.loop (σ := Nat × Acc Duty) (fun q => [(1, .pointer (some ⟨xb, 0, none⟩)), (2, .pointer (some ⟨zb, 0, none⟩)), (3, .pointer (some ⟨ob, 0, none⟩)), (14, s.v), (15, .int .i64 (s.n : Int)), (16, .int .i64 (q.1 : Int))])
    (fun q => [none, some (zb, ⟨[.string ⟨#[]⟩, .slice none 0 0], 78, 1⟩), q.2.e 143 1, some (ob, ⟨[.string x.base, a0.v], 78, 1⟩)])
    (fun B1 q => Ge B B1 ∧ q.1 ≤ x.duties.length ∧ q.2.ob = a0.ob ∧ q.2.Ok .duty B1 ∧ q.2.xs.length = x.duties.length ∧ ∀ k, k < q.1 → q.2.xs[k]? = x.duties[k]?) (fun q => x.duties.length - q.1) (0, a0) ⟨Ge.refl _, Nat.zero_le _, rfl, ha0, l0, fun k h => absurd h (by dsimp only; omega)⟩ ⟨rfl, rfl, rfl, rfl, rfl, rfl, trivial⟩ (by
      intro p b X h
      match p, h with
      | 0, h => cases h
      | 1, h => exact h
      | 2, h => exact h
      | 3, h => exact h
      | p + 4, h => cases h) ?_
  rintro ⟨i, a⟩ B1 hB ⟨hB1, hi, hob, ha, hal, hk⟩
  dsimp only at hi hob ha hal hk ⊢
  have hab := hob.trans hqb
  have hs1 := hs.ge hB1
  (repeat' (first | refine J.seq ?_ | refine J.block ?_ | refine J.roA rfl ?_ | refine X.ro rfl rfl ?_ | refine X.nil0 ?_ | refine J.skip ?_ | refine J.exit ?_ | refine J.ret ?_ | refine X.la 3 rfl rfl rfl rfl rfl rfl rfl rfl rfl rfl ?_ | refine X.st 1 rfl rfl rfl rfl rfl rfl rfl rfl rfl ?_ | refine J.cond_d rfl (fun h => ?_) (fun h => ?_)))
  · have hi2 : i < x.duties.length := by omega
    have hd := hx.d _ (List.getElem_mem hi2)
    (refine X.ix hs1 (i := i) (by omega) rfl rfl rfl rfl rfl rfl rfl rfl (by first | rfl | omega) fun b1 f1 cs1 hr1 hx1 => ?_); obtain ⟨ya, yn, yc, rfl, yq⟩ := hx1; (skip); (refine X.ls 0 hr1 rfl (by first | exact .md | exact .mo | exact .mf) (Ge.refl _) rfl rfl rfl rfl rfl rfl rfl ?_); ((repeat' (first | refine J.rdA (by kernel_rfl) rfl ?_ | refine X.ro rfl rfl ?_ | refine X.rd rfl rfl ?_ | refine X.nil0 ?_ | refine X.l1 3 rfl rfl rfl rfl rfl rfl rfl rfl rfl ?_)))
    refine X.call rfl rfl (gV_ok rfl) rfl rfl rfl rfl (en rfl) (clone_ev (s := ⟨ya, yn, yc⟩) yq hd.1 hd.2) ?_
    rintro v B2 hB2 ⟨r, rfl, hr⟩
    skip
    (refine X.ixo ha0.ob (i := i) (by omega) rfl rfl rfl rfl rfl rfl rfl (by first | rfl | omega) fun b1 hb1 => ?_); obtain rfl := some_eq (hqb.symm.trans hb1); (skip)
    refine X.acs (D := .duty) (z := x.duties[i]) 2 (ha.ge hB2) (i := i) (by omega) rfl hab ⟨_, _, _, rfl, hr⟩ rfl rfl rfl rfl rfl rfl rfl rfl rfl fun u e o k => ?_
    (repeat' (first | refine J.roA rfl ?_ | refine X.ro rfl rfl ?_ | refine X.nil0 ?_ | refine X.nil1 ⟨by kernel_rfl, ?_⟩ | refine X.ad rfl rfl rfl rfl rfl rfl (by omega) ?_))
    refine ⟨(i + 1, u), ⟨rfl, rfl, rfl, rfl, rfl, rfl, trivial⟩, (fun _ _ _ h => h), ⟨hB1.trans hB2, by dsimp only; omega, o.trans hob, k, by dsimp only; rw [e, List.length_set]; exact hal, fun j hj => ?_⟩, by dsimp only; omega⟩
    dsimp only at hj ⊢
    rw [e]
    by_cases e2 : i = j
    · subst e2
      rw [List.getElem?_set_self (by omega), List.getElem?_eq_getElem hi2]
    · rw [List.getElem?_set_ne e2]
      exact hk j (by omega)
  · have e3 : a.xs = x.duties := List.ext_getElem? fun j => by
      by_cases hj : j < x.duties.length
      · exact hk j (by omega)
      · rw [List.getElem?_eq_none (by omega), List.getElem?_eq_none (by omega)]
    have hv : a.v = a0.v := Acc.v_eq hob (by omega)
    exact ⟨_, .cons (.cellA (p := 1) rfl (ag rfl) (sz rfl) rfl rfl) .nil, rfl, fun _ _ _ => ⟨⟨oa a.ob, a.xs.length, a.xs.length⟩, by show Value.agg #[.string x.base, a0.v] = .agg #[.string x.base, a.v]; rw [hv], e3 ▸ (ha.ge (by assumption)).sq (T := 143) fun b Y h => by rename_i hK; exact hK b Y (by rw [← h]; exact .tail _ (.tail _ (.head _)))⟩⟩
end
end Go.Proofs.YthldmlfpebgojaaGreatDoor
/-
  Contracts: lists of pairings (the reference of chapter 42).
  Condition: the lists lie in memory.
-/
namespace Go.Proofs.YthldmlfpebgojaaGreatDoor
set_option linter.unusedSimpArgs false
set_option linter.unusedVariables false
set_option maxHeartbeats 0
set_option maxRecDepth 20000
open Go.RowKit Go

/-- How often a pairing occurs. -/
def occ (l : List Pair) (x : Pair) : Nat := (l.filter fun y => decide (cmpP y x = 0)).length
theorem occ_take {l : List Pair} {x : Pair} {i : Nat} (hi : i < l.length) : occ (l.take (i + 1)) x = occ (l.take i) x + if cmpP l[i] x = 0 then 1 else 0 := by
  unfold occ
  rw [List.take_succ_eq_append_getElem hi, List.filter_append, List.length_append]
  congr 1
  by_cases h : cmpP l[i] x = 0 <;> simp [h]
section
variable {B : St}
theorem has42_ev {s s1 : Slc} {l : List Pair} {x : Pair} (hs : SqS .pair B s l) (hx : SqS .duty B s1 x.duties) (bl : ∀ y ∈ l, PairB y) (bx : PairB x) (hl : l.length ≤ 1000000000000) : EvP Tryz.prog 76 [s.v, x.sv s1] B fun v _ => v = .int .i64 (occ l x : Int) := by
  have hn := hs.len
  refine EvP.go Tryz.func76 rfl Tryz.ntmps76 Tryz.results76 rfl [] rfl ?_
  (repeat' (first | refine J.seq ?_ | refine J.block ?_ | refine J.roA rfl ?_ | refine X.ro rfl rfl ?_ | refine X.nil0 ?_ | refine X.bx rfl rfl rfl rfl rfl rfl rfl rfl fun b => ?_))
  refine J.loop (σ := Nat) (fun i => [(0, s.v), (3, .pointer (some ⟨b, 0, none⟩)), (5, .int .i64 (occ (l.take i) x : Int)), (6, .int .i64 (i : Int))]) (fun _ => _) (fun B1 i => B1 = B ∧ i ≤ l.length) (fun i => l.length - i) 0 ⟨rfl, Nat.zero_le _⟩ ⟨rfl, rfl, rfl, rfl, trivial⟩ (Less.refl _) fun i B1 hB hI => ?_
  obtain ⟨rfl, hi1⟩ := hI
  have ho : occ (l.take i) x ≤ 1000000000000 := Nat.le_trans (List.length_filter_le _ _) (by rw [List.length_take]; omega)
  (repeat' (first | refine J.seq ?_ | refine J.block ?_ | refine J.roA rfl ?_ | refine J.rdA (by kernel_rfl) rfl ?_ | refine X.ro rfl rfl ?_ | refine X.rd rfl rfl ?_ | refine X.nil0 ?_ | refine J.skip ?_ | refine J.exit ?_ | refine J.ret ?_ | refine J.cond_d rfl (fun h => ?_) (fun h => ?_)))
  · have hi3 : i < l.length := by omega
    refine X.ix hs (i := i) (by omega) rfl rfl rfl rfl rfl rfl rfl rfl rfl fun b1 f1 cs1 hr1 hx1 => ?_
    obtain ⟨ya, yn, yc, rfl, yq⟩ := hx1
    refine X.lg 0 hr1 rfl rfl (by first | exact .md | exact .mo | exact .mf) (Ge.refl _) rfl rfl rfl rfl rfl rfl rfl rfl ?_
    (repeat' (first | refine X.la 0 rfl rfl rfl rfl rfl rfl rfl rfl rfl rfl ?_))
    refine X.callq rfl rfl (gV_ok rfl) rfl rfl rfl rfl (en rfl) (samePairing_ev (s1 := ⟨ya, yn, yc⟩) yq hx (bl _ (List.getElem_mem hi3)) bx) ?_
    rintro v rfl
    (repeat' (first | refine J.roA rfl ?_ | refine X.ro rfl rfl ?_ | refine X.nil0 ?_ | refine X.nil1 ⟨by kernel_rfl, ?_⟩ | refine J.skip ?_ | refine X.ad rfl rfl rfl rfl rfl rfl (by omega) ?_ | refine J.cond_d rfl (fun h => ?_) (fun h => ?_)))
    · refine ⟨i + 1, ⟨rfl, rfl, ?_, rfl, trivial⟩, Less.refl _, ⟨rfl, by omega⟩, by dsimp only; omega⟩
      rw [occ_take hi3, if_pos (by assumption)]
      rfl
    · refine ⟨i + 1, ⟨rfl, rfl, ?_, rfl, trivial⟩, Less.refl _, ⟨rfl, by omega⟩, by dsimp only; omega⟩
      rw [occ_take hi3, if_neg (by assumption)]
      rfl
  · obtain rfl : i = l.length := by omega
    exact ⟨_, .cons (.tmp rfl) .nil, rfl, fun _ _ _ => (by rw [List.take_length]; rfl)⟩
theorem samePairings_ev {s1 s2 : Slc} {x y : List Pair} (hx : SqS .pair B s1 x) (hy : SqS .pair B s2 y) (bx : ∀ p ∈ x, PairB p) (by' : ∀ p ∈ y, PairB p) (hl : x.length ≤ 1000000000000) (he : x.length = y.length) (hc : ∀ (i : Nat) (h1 : i < x.length) (h2 : i < y.length), cmpP x[i] y[i] = 0) : EvP Tryz.prog 17 [s1.v, s2.v] B fun v _ => v = .bool true := by
  have hn := hx.len
  have hm := hy.len
  refine EvP.go Tryz.func17 rfl Tryz.ntmps17 Tryz.results17 rfl [] rfl ?_
  (repeat' (first | refine J.seq ?_ | refine J.block ?_ | refine J.roA rfl ?_ | refine X.ro rfl rfl ?_ | refine X.nil0 ?_ | refine J.skip ?_ | refine J.ret ?_ | refine J.cond_nd rfl (fun h => ?_) (fun h => ?_)))
  · exact absurd (show (s1.n : Int) = s2.n by rw [hn, hm, he]) (by assumption)
  refine J.loop (σ := Nat) (fun i => [(0, s1.v), (1, s2.v), (5, .int .i64 (i : Int))]) (fun _ => []) (fun B1 i => B1 = B ∧ i ≤ x.length) (fun i => x.length - i) 0 ⟨rfl, Nat.zero_le _⟩ ⟨rfl, rfl, rfl, trivial⟩ (Less.refl _) fun i B1 hB hI => ?_
  obtain ⟨rfl, hi1⟩ := hI
  (repeat' (first | refine J.seq ?_ | refine J.block ?_ | refine J.roA rfl ?_ | refine J.rdA (by kernel_rfl) rfl ?_ | refine X.ro rfl rfl ?_ | refine X.rd rfl rfl ?_ | refine X.nil0 ?_ | refine J.skip ?_ | refine J.exit ?_ | refine J.ret ?_ | refine J.cond_d rfl (fun h => ?_) (fun h => ?_)))
  · have hi3 : i < x.length := by omega
    have hi4 : i < y.length := by omega
    refine X.ix hx (i := i) (by omega) rfl rfl rfl rfl rfl rfl rfl rfl rfl fun b1 f1 cs1 hr1 hx1 => ?_
    obtain ⟨ua, un, uc, rfl, uq⟩ := hx1
    refine X.lg 0 hr1 rfl rfl (by first | exact .md | exact .mo | exact .mf) (Ge.refl _) rfl rfl rfl rfl rfl rfl rfl rfl ?_
    (repeat' (first | refine X.rd rfl rfl ?_))
    refine X.ix hy (i := i) (by omega) rfl rfl rfl rfl rfl rfl rfl rfl rfl fun b1 f1 cs1 hr1 hx1 => ?_
    obtain ⟨ya, yn, yc, rfl, yq⟩ := hx1
    refine X.lg 0 hr1 rfl rfl (by first | exact .md | exact .mo | exact .mf) (Ge.refl _) rfl rfl rfl rfl rfl rfl rfl rfl ?_
    skip
    refine X.callq rfl rfl (gV_ok rfl) rfl rfl rfl rfl (en rfl) (samePairing_ev (s1 := ⟨ua, un, uc⟩) (s2 := ⟨ya, yn, yc⟩) uq yq (bx _ (List.getElem_mem hi3)) (by' _ (List.getElem_mem hi4))) ?_
    rintro v rfl
    (repeat' (first | refine J.seq ?_ | refine J.roA rfl ?_ | refine X.ro rfl rfl ?_ | refine X.rd rfl rfl ?_ | refine X.nil0 ?_ | refine X.nil1 ⟨by kernel_rfl, ?_⟩ | refine J.skip ?_ | refine J.ret ?_ | refine X.ad rfl rfl rfl rfl rfl rfl (by omega) ?_ | refine J.cond_nd rfl (fun h => ?_) (fun h => ?_)))
    · exact absurd (hc i hi3 hi4) (by assumption)
    · exact ⟨i + 1, ⟨rfl, rfl, rfl, trivial⟩, Less.refl _, ⟨rfl, by omega⟩, by dsimp only; omega⟩
  · exact ⟨_, .cons (.tmp rfl) .nil, rfl, fun _ _ _ => rfl⟩
end
end Go.Proofs.YthldmlfpebgojaaGreatDoor
/-
  The order of pairings; sorted lists; what is in one list more often than in another (no program).
  No condition.
-/
namespace Go.Proofs.YthldmlfpebgojaaGreatDoor
set_option linter.unusedSimpArgs false
set_option linter.unusedVariables false
set_option maxHeartbeats 0
open Go.RowKit Go

/-- A comparison that is an order. -/
structure Cmp {α : Type} (c : α → α → Int) : Prop where
  eq : ∀ a b, c a b = 0 ↔ a = b
  sw : ∀ a b, c a b < 0 ↔ 0 < c b a
  tr : ∀ a b d, c a b < 0 → c b d < 0 → c a d < 0
theorem Cmp.rfl_ {α : Type} {c : α → α → Int} (h : Cmp c) (a : α) : c a a = 0 := (h.eq a a).2 rfl
theorem Cmp.lexi {α : Type} {c : α → α → Int} (h : Cmp c) : Cmp (lex c) := by
  refine ⟨fun a => ?_, fun a => ?_, fun a => ?_⟩
  · induction a with
    | nil => intro b; cases b <;> simp [Go.Proofs.YthldmlfpebgojaaGreatDoor.lex]
    | cons a x ih =>
      intro b
      cases b with
      | nil => simp [Go.Proofs.YthldmlfpebgojaaGreatDoor.lex]
      | cons b y =>
        unfold Go.Proofs.YthldmlfpebgojaaGreatDoor.lex
        by_cases h0 : c a b = 0
        · rw [if_pos h0, ih, (h.eq a b).1 h0]; simp
        · rw [if_neg h0]
          constructor
          · exact fun e => absurd e h0
          · intro e; injection e with e1 e2; exact absurd ((h.eq a b).2 e1) h0
  · induction a with
    | nil => intro b; cases b <;> simp [Go.Proofs.YthldmlfpebgojaaGreatDoor.lex]
    | cons a x ih =>
      intro b
      cases b with
      | nil => simp [Go.Proofs.YthldmlfpebgojaaGreatDoor.lex]
      | cons b y =>
        unfold Go.Proofs.YthldmlfpebgojaaGreatDoor.lex
        by_cases h0 : c a b = 0
        · have e := (h.eq a b).1 h0
          subst e
          rw [if_pos h0, if_pos h0, ih]
        · have h1 : c b a ≠ 0 := fun e => h0 (by rw [(h.eq b a).1 e]; exact h.rfl_ _)
          rw [if_neg h0, if_neg h1, h.sw]
  · induction a with
    | nil => intro b d h1 h2; cases b <;> cases d <;> simp [Go.Proofs.YthldmlfpebgojaaGreatDoor.lex] at h1 h2 ⊢
    | cons a x ih =>
      intro b d h1 h2
      cases b with
      | nil => simp [Go.Proofs.YthldmlfpebgojaaGreatDoor.lex] at h1
      | cons b y =>
        cases d with
        | nil => simp [Go.Proofs.YthldmlfpebgojaaGreatDoor.lex] at h2
        | cons d z =>
          unfold Go.Proofs.YthldmlfpebgojaaGreatDoor.lex at h1 h2 ⊢
          by_cases h3 : c a b = 0
          · have e := (h.eq a b).1 h3
            subst e
            rw [if_pos h3] at h1
            by_cases h4 : c a d = 0
            · rw [if_pos h4] at h2 ⊢
              exact ih _ _ h1 h2
            · rw [if_neg h4] at h2 ⊢
              exact h2
          · rw [if_neg h3] at h1
            by_cases h4 : c b d = 0
            · have e := (h.eq b d).1 h4
              subst e
              rw [if_neg h3]
              exact h1
            · rw [if_neg h4] at h2
              have h5 := h.tr _ _ _ h1 h2
              rw [if_neg (by omega)]
              exact h5
theorem cmpT_ok : Cmp cmpT := by
  refine ⟨fun a b => ?_, fun a b => ?_, fun a b d => ?_⟩
  · obtain ⟨f, x⟩ := a
    obtain ⟨g, y⟩ := b
    unfold cmpT bI
    simp only [Task.mk.injEq]
    cases x <;> cases y <;> (repeat' split) <;> simp_all <;> omega
  · obtain ⟨f, x⟩ := a
    obtain ⟨g, y⟩ := b
    unfold cmpT bI
    cases x <;> cases y <;> simp only <;> (repeat' split) <;> simp_all <;> omega
  · obtain ⟨f, x⟩ := a
    obtain ⟨g, y⟩ := b
    obtain ⟨k, z⟩ := d
    unfold cmpT bI
    cases x <;> cases y <;> cases z <;> simp only <;> (repeat' split) <;> simp_all <;> omega
theorem bl_tr : ∀ a b d : List UInt8, Op.bytesLess a b = true → Op.bytesLess b d = true → Op.bytesLess a d = true
  | [], b, d, h1, h2 => by cases d with
    | nil => cases b <;> simp [Op.bytesLess] at h2
    | cons => rfl
  | a :: x, b, d, h1, h2 => by
    cases b with
    | nil => simp [Op.bytesLess] at h1
    | cons b y =>
      cases d with
      | nil => simp [Op.bytesLess] at h2
      | cons d z =>
        have ih := bl_tr x y z
        simp only [Op.bytesLess, Bool.or_eq_true, decide_eq_true_eq, Bool.and_eq_true, beq_iff_eq] at h1 h2 ⊢
        rcases h1 with h1 | ⟨rfl, h1⟩ <;> rcases h2 with h2 | ⟨rfl, h2⟩
        · exact .inl (UInt8.lt_trans h1 h2)
        · exact .inl h1
        · exact .inl h2
        · exact .inr ⟨rfl, ih h1 h2⟩
theorem bl_tot : ∀ a b : List UInt8, a ≠ b → Op.bytesLess a b = !Op.bytesLess b a
  | [], b, h => by cases b with
    | nil => exact absurd rfl h
    | cons => rfl
  | a :: x, b, h => by
    cases b with
    | nil => rfl
    | cons b y =>
      have ih := bl_tot x y
      unfold Op.bytesLess
      by_cases e : a = b
      · subst e
        rw [ih fun e => h (by rw [e])]
        have : ¬ a < a := UInt8.lt_irrefl a
        simp [this]
      · have e2 : (a == b) = false := by simpa using e
        have e3 : (b == a) = false := by simpa using fun h => e h.symm
        rw [e2, e3]
        by_cases h1 : a < b
        · have h2 : ¬ b < a := fun h2 => UInt8.lt_irrefl a (UInt8.lt_trans h1 h2)
          simp [h1, h2]
        · have h2 : b < a := by
            rcases UInt8.lt_or_lt_of_ne e with h3 | h3
            · exact absurd h3 h1
            · exact h3
          simp [h1, h2]
theorem cmpS_ok : Cmp cmpS := by
  refine ⟨fun a b => ?_, fun a b => ?_, fun a b d => ?_⟩
  · unfold cmpS
    by_cases e : a = b
    · simp [e]
    · rw [if_neg e]
      split <;> simp [e]
  · unfold cmpS
    by_cases e : a = b
    · subst e; simp
    · have e2 : ¬ b = a := fun h => e h.symm
      have e3 := bl_tot a.toList b.toList fun h => e (toList_inj h)
      rw [if_neg e, if_neg e2, e3]
      cases Op.bytesLess b.toList a.toList <;> simp
  · have key : ∀ u v, cmpS u v < 0 ↔ Op.bytesLess u.toList v.toList = true := fun u v => by
      unfold cmpS
      by_cases e : u = v
      · subst e; rw [if_pos rfl, bl_irr]; simp
      · rw [if_neg e]
        cases Op.bytesLess u.toList v.toList <;> simp
    rw [key, key, key]
    exact bl_tr _ _ _
theorem cmpP_ok : Cmp cmpP := by
  have hS := cmpS_ok
  have hD : Cmp (lex cmpD) := (cmpT_ok.lexi).lexi
  refine ⟨fun a b => ?_, fun a b => ?_, fun a b d h1 h2 => ?_⟩
  · unfold cmpP
    by_cases h0 : cmpS a.base b.base = 0
    · rw [if_pos h0, hD.eq]
      have e := (hS.eq _ _).1 h0
      obtain ⟨x, y⟩ := a
      obtain ⟨u, v⟩ := b
      subst e
      simp
    · rw [if_neg h0]
      exact ⟨fun e => absurd e h0, fun e => by rw [e]; exact hS.rfl_ _⟩
  · unfold cmpP
    by_cases h0 : cmpS a.base b.base = 0
    · rw [if_pos h0, if_pos (by rw [(hS.eq _ _).1 h0]; exact hS.rfl_ _), hD.sw]
    · rw [if_neg h0, if_neg fun e => h0 (by rw [(hS.eq _ _).1 e]; exact hS.rfl_ _), hS.sw]
  · unfold cmpP at h1 h2 ⊢
    by_cases h3 : cmpS a.base b.base = 0
    · rw [if_pos h3] at h1
      rw [(hS.eq _ _).1 h3]
      by_cases h4 : cmpS b.base d.base = 0
      · rw [if_pos h4] at h2 ⊢
        exact hD.tr _ _ _ h1 h2
      · rw [if_neg h4] at h2 ⊢
        exact h2
    · rw [if_neg h3] at h1
      by_cases h4 : cmpS b.base d.base = 0
      · rw [← (hS.eq _ _).1 h4, if_neg h3]
        exact h1
      · rw [if_neg h4] at h2
        have h5 := hS.tr _ _ _ h1 h2
        rw [if_neg (by omega)]
        exact h5

/-- In ascending order. -/
def Srt (l : List Pair) : Prop := l.Pairwise fun a b => cmpP a b ≤ 0
theorem le_of {a b : Pair} (h : ¬ cmpP a b < 0) : cmpP b a ≤ 0 := by
  have := (cmpP_ok.sw b a).2
  have := (cmpP_ok.sw a b)
  omega
theorem le_tr {a b d : Pair} (h : cmpP a b ≤ 0) (k : cmpP b d ≤ 0) : cmpP a d ≤ 0 := by
  by_cases h0 : cmpP a b = 0
  · rw [(cmpP_ok.eq _ _).1 h0]; exact k
  · by_cases k0 : cmpP b d = 0
    · rw [← (cmpP_ok.eq _ _).1 k0]; exact h
    · have := cmpP_ok.tr a b d (by omega) (by omega)
      omega
theorem le_an {a b : Pair} (h : cmpP a b ≤ 0) (k : cmpP b a ≤ 0) : a = b := by
  have := cmpP_ok.sw a b
  exact (cmpP_ok.eq _ _).1 (by omega)
theorem Srt.same {x y : List Pair} (hx : Srt x) (hy : Srt y) (h : x.Perm y) : x = y := List.Perm.eq_of_pairwise (fun a b _ _ h k => le_an h k) hx hy h
/-- One element, at place k, is not yet in its place. -/
def Bub (l : List Pair) (k : Nat) : Prop := ∃ p z q, l = p ++ z :: q ∧ p.length = k ∧ Srt (p ++ q) ∧ ∀ y ∈ q, cmpP z y ≤ 0
theorem Bub.start {l : List Pair} (h : Srt l) (z : Pair) : Bub (l ++ [z]) l.length := ⟨l, z, [], rfl, rfl, by rw [List.append_nil]; exact h, fun y h => by cases h⟩
theorem Bub.swap {l : List Pair} {k : Nat} (h : Bub l (k + 1)) (hk : k + 1 < l.length) (hc : cmpP l[k + 1] l[k] < 0) : Bub ((l.set (k + 1) l[k]).set k l[k + 1]) k ∧ ((l.set (k + 1) l[k]).set k l[k + 1]).Perm l := by
  obtain ⟨p, z, q, rfl, hp, hs, hq⟩ := h
  obtain ⟨p, y, rfl⟩ : ∃ p' y, p = p' ++ [y] := ⟨p.dropLast, p.getLast (by intro e; rw [e] at hp; simp at hp), by rw [List.dropLast_concat_getLast]⟩
  have hk2 : p.length = k := by rw [List.length_append] at hp; simpa using hp
  subst hk2
  have e1 : (p ++ [y] ++ z :: q)[p.length + 1] = z := by simp
  have e2 : (p ++ [y] ++ z :: q)[p.length] = y := by simp
  rw [e1, e2] at hc ⊢
  have e3 : ((p ++ [y] ++ z :: q).set (p.length + 1) y).set p.length z = p ++ z :: (y :: q) := by
    simp [List.set_append]
  rw [e3]
  refine ⟨⟨p, z, y :: q, rfl, rfl, by simpa using hs, fun w hw => ?_⟩, ?_⟩
  · rcases List.mem_cons.1 hw with rfl | hw
    · omega
    · exact hq w hw
  · rw [List.append_assoc]
    exact (List.Perm.swap _ _ _).append_left p
theorem Bub.done {l : List Pair} {k : Nat} (h : Bub l k) (hk : k < l.length) (hc : k = 0 ∨ ∃ h0 : 0 < k, ¬ cmpP l[k] l[k - 1] < 0) : Srt l := by
  obtain ⟨p, z, q, rfl, hp, hs, hq⟩ := h
  unfold Srt at hs ⊢
  rw [List.pairwise_append] at hs ⊢
  obtain ⟨h1, h2, h3⟩ := hs
  refine ⟨h1, List.pairwise_cons.2 ⟨hq, h2⟩, fun a ha b hb => ?_⟩
  rcases List.mem_cons.1 hb with rfl | hb
  · rcases hc with rfl | ⟨h0, hc⟩
    · rw [List.length_eq_zero_iff.1 hp] at ha; cases ha
    · obtain ⟨p, y, rfl⟩ : ∃ p' y, p = p' ++ [y] := ⟨p.dropLast, p.getLast (by intro e; rw [e] at hp; simp at hp; omega), by rw [List.dropLast_concat_getLast]⟩
      have hk2 : p.length + 1 = k := by rw [List.length_append] at hp; simpa using hp
      subst hk2
      have e1 : (p ++ [y] ++ b :: q)[p.length + 1] = b := by simp
      have e2 : (p ++ [y] ++ b :: q)[p.length + 1 - 1] = y := by simp
      rw [e1, e2] at hc
      have hle := le_of hc
      rw [List.mem_append] at ha
      rcases ha with ha | ha
      · exact le_tr ((List.pairwise_append.1 h1).2.2 a ha y (by simp)) hle
      · rw [List.mem_singleton.1 ha]; exact hle
  · exact h3 a ha b hb
/-- What is in one sorted list more often than in another. -/
def wo : List Pair → List Pair → List Pair
  | [], _ => []
  | x :: a, b => match b.dropWhile fun y => decide (cmpP y x < 0) with
    | [] => x :: wo a []
    | y :: b' => if cmpP y x = 0 then wo a b' else x :: wo a (y :: b')
theorem wo_sub : ∀ a b, (wo a b).Sublist a
  | [], _ => .slnil
  | x :: a, b => by
    unfold wo
    split
    · exact (wo_sub a []).cons_cons x
    · split
      · exact (wo_sub a _).cons x
      · exact (wo_sub a _).cons_cons x
theorem count_drop (b : List Pair) (x z : Pair) (h : cmpP x z ≤ 0) : (b.dropWhile fun y => decide (cmpP y x < 0)).count z = b.count z := by
  induction b with
  | nil => rfl
  | cons y b ih =>
    rw [List.dropWhile_cons]
    by_cases hy : cmpP y x < 0
    · simp only [hy, decide_true, if_true]
      rw [ih, List.count_cons]
      have : ¬ y = z := fun e => by
        subst e
        have := cmpP_ok.sw y x
        omega
      simp [this]
    · simp [hy]
theorem wo_count : ∀ (a b : List Pair), Srt a → Srt b → ∀ z, (wo a b).count z = a.count z - b.count z
  | [], b, _, _, z => by simp [wo]
  | x :: a, b, ha, hb, z => by
    have hxa := List.pairwise_cons.1 ha
    have hD := List.Pairwise.sublist (List.dropWhile_sublist fun y => decide (cmpP y x < 0)) hb
    by_cases hz : z ∈ x :: a
    · have hxz : cmpP x z ≤ 0 := by
        rcases List.mem_cons.1 hz with rfl | hz
        · rw [cmpP_ok.rfl_]; omega
        · exact hxa.1 z hz
      rw [← count_drop b x z hxz]
      have hne : ∀ y b', (b.dropWhile fun y => decide (cmpP y x < 0)) = y :: b' → ¬ cmpP y x < 0 := fun y b' e => by
        have := List.head_dropWhile_not (fun y => decide (cmpP y x < 0)) (l := b) (by rw [e]; simp)
        simp only [e, List.head_cons, decide_eq_false_iff_not] at this
        exact this
      unfold wo
      split
      · rename_i e
        rw [e, List.count_cons, List.count_cons, wo_count a [] hxa.2 (by exact List.Pairwise.nil)]
        simp
      · rename_i y b' e
        have hn := hne y b' e
        rw [e] at hD ⊢
        have hyb := List.pairwise_cons.1 hD
        split
        · rename_i h0
          have h0 := (cmpP_ok.eq _ _).1 h0
          subst h0
          rw [wo_count a b' hxa.2 hyb.2, List.count_cons, List.count_cons]
          omega
        · rename_i h0
          rw [List.count_cons, List.count_cons, wo_count a (y :: b') hxa.2 hD]
          by_cases e2 : x = z
          · subst e2
            have : (y :: b').count x = 0 := by
              rw [List.count_eq_zero]
              intro hm
              rcases List.mem_cons.1 hm with rfl | hm
              · exact h0 (cmpP_ok.rfl_ _)
              · have h1 := hyb.1 x hm
                have := le_of hn
                have := le_an h1 this
                exact h0 (by rw [this]; exact cmpP_ok.rfl_ _)
            rw [this]
            simp
          · simp [e2]
    · have h1 : (x :: a).count z = 0 := List.count_eq_zero.2 hz
      rw [h1, List.count_eq_zero.2 fun h => hz ((wo_sub (x :: a) b).subset h)]
      omega
theorem wo_srt {a : List Pair} (b : List Pair) (h : Srt a) : Srt (wo a b) := List.Pairwise.sublist (wo_sub a b) h
theorem occ_count (l : List Pair) (x : Pair) : occ l x = l.count x := by
  unfold occ
  rw [List.count_eq_length_filter]
  congr 1
  apply List.filter_congr
  intro y _
  by_cases h : y = x
  · subst h; simp [cmpP_ok.rfl_]
  · have h2 : ¬ cmpP y x = 0 := fun e => h ((cmpP_ok.eq _ _).1 e)
    simp [h, h2]
/-- A list that holds, after i elements of x, what is in them more often than in y. -/
def More (x y : List Pair) (i : Nat) (o : List Pair) : Prop := Srt o ∧ ∀ z, o.count z = (x.take i).count z - y.count z
theorem More.nil (x y : List Pair) : More x y 0 [] := ⟨.nil, fun z => by simp⟩
theorem More.skip {x y : List Pair} {i : Nat} {o : List Pair} (h : More x y i o) (hi : i < x.length) (hc : occ (x.take (i + 1)) x[i] ≤ occ y x[i]) : More x y (i + 1) o := by
  rw [occ_count, occ_count] at hc
  refine ⟨h.1, fun z => ?_⟩
  rw [h.2 z]
  rw [List.take_succ_eq_append_getElem hi] at hc ⊢
  rw [List.count_append] at hc ⊢
  by_cases e : x[i] = z
  · subst e
    simp at hc ⊢
    omega
  · simp [e]
theorem More.add {x y : List Pair} {i : Nat} {o o' : List Pair} (h : More x y i o) (hi : i < x.length) (hc : ¬ occ (x.take (i + 1)) x[i] ≤ occ y x[i]) (hs : Srt o') (hp : o'.Perm (o ++ [x[i]])) : More x y (i + 1) o' := by
  rw [occ_count, occ_count] at hc
  refine ⟨hs, fun z => ?_⟩
  rw [List.perm_iff_count.1 hp, List.count_append, h.2 z]
  rw [List.take_succ_eq_append_getElem hi] at hc ⊢
  rw [List.count_append] at hc ⊢
  by_cases e : x[i] = z
  · subst e
    simp at hc ⊢
    omega
  · simp [e]
theorem More.same {x y o sx sy : List Pair} (h : More x y x.length o) (hx : Srt sx) (px : sx.Perm x) (hy : Srt sy) (py : sy.Perm y) : wo sx sy = o := by
  refine (wo_srt sy hx).same h.1 (List.perm_iff_count.2 fun z => ?_)
  rw [wo_count _ _ hx hy, h.2 z, List.take_length, List.perm_iff_count.1 px, List.perm_iff_count.1 py]
end Go.Proofs.YthldmlfpebgojaaGreatDoor
/-
  Contracts: the stable sort of few pairings.
  Condition: at most twenty.
-/
namespace Go.Proofs.YthldmlfpebgojaaGreatDoor
set_option linter.unusedSimpArgs false
set_option linter.unusedVariables false
set_option maxRecDepth 100000
set_option maxHeartbeats 0
open Go.RowKit Go

theorem bub_step {l : List Pair} {i j : Nat} (hb : Bub (l.take (i + 1)) (j + 1)) (hj : j < i) (hi : i < l.length) (hc : cmpP (l[j + 1]'(by omega)) (l[j]'(by omega)) < 0) : Bub (((l.set (j + 1) (l[j]'(by omega))).set j (l[j + 1]'(by omega))).take (i + 1)) j := by
  have h1 : j + 1 < (l.take (i + 1)).length := by rw [List.length_take]; omega
  have e1 : (l.take (i + 1))[j + 1] = l[j + 1]'(by omega) := List.getElem_take
  have e2 : (l.take (i + 1))[j]'(by omega) = l[j]'(by omega) := List.getElem_take
  have := (hb.swap h1 (by rw [e1, e2]; exact hc)).1
  rw [e1, e2] at this
  rw [List.take_set, List.take_set]
  exact this
theorem bub_end {l : List Pair} {i j : Nat} (hb : Bub (l.take (i + 1)) j) (hj : j ≤ i) (hi : i < l.length) (hc : j = 0 ∨ ∃ h0 : 0 < j, ¬ cmpP (l[j]'(by omega)) (l[j - 1]'(by omega)) < 0) : Srt (l.take (i + 1)) := by
  refine hb.done (by rw [List.length_take]; omega) ?_
  rcases hc with h | ⟨h0, h⟩
  · exact .inl h
  · exact .inr ⟨h0, by rw [List.getElem_take, List.getElem_take]; exact h⟩
theorem bub_start {l : List Pair} {i : Nat} (h : Srt (l.take i)) (hi : i < l.length) : Bub (l.take (i + 1)) i := by
  rw [List.take_succ_eq_append_getElem hi]
  have := Bub.start h l[i]
  rwa [List.length_take, Nat.min_eq_left (by omega)] at this
theorem srt_one (l : List Pair) : Srt (l.take 1) := by
  cases l with
  | nil => exact .nil
  | cons a l => simp [Srt]
abbrev cmpF : Value := .func (.func 75) #[] #[]
-- KEEP 6
section
variable {B : St}
theorem insSort_ev {a0 : Acc Pair} (ha0 : a0.Ok .pair B) (hw0 : ∀ x ∈ a0.xs, PairB x) (hl : a0.xs.length ≤ 20) (h0 : 0 < a0.xs.length) :
    EvC Tryz.prog 191 [a0.v, .int .i64 0, .int .i64 (a0.xs.length : Int), cmpF] B (a0.e 78 2) fun v B1 oc => v = .tuple #[] ∧ ∃ a : Acc Pair, oc = a.e 78 2 ∧ a.ob = a0.ob ∧ a.Ok .pair B1 ∧ a.xs.Perm a0.xs ∧ Srt a.xs := by
  obtain ⟨qb, hqb⟩ := Acc.ob_some ha0 h0
  refine EvC.go Tryz.func191 rfl Tryz.ntmps191 Tryz.results191 rfl [] rfl ?_
  (repeat' (first | refine J.seq ?_ | refine J.block ?_ | refine J.roA rfl ?_ | refine X.ro rfl rfl ?_ | refine X.nil0 ?_ | refine X.ad rfl rfl rfl rfl rfl rfl (by omega) ?_))
  refine J.loop (σ := Nat × Acc Pair) (fun q => [(0, a0.v), (1, .int .i64 0), (2, .int .i64 (a0.xs.length : Int)), (3, cmpF), (8, .int .i64 (q.1 : Int))]) (fun q => [q.2.e 78 2])
    (fun B1 q => Ge B B1 ∧ 1 ≤ q.1 ∧ q.1 ≤ a0.xs.length ∧ q.2.ob = a0.ob ∧ q.2.Ok .pair B1 ∧ q.2.xs.Perm a0.xs ∧ Srt (q.2.xs.take q.1)) (fun q => a0.xs.length - q.1) (1, a0) ⟨Ge.refl _, Nat.le_refl _, h0, rfl, ha0, .refl _, srt_one _⟩ ⟨rfl, rfl, rfl, rfl, rfl, trivial⟩ (fun _ _ _ h => h) ?_
  rintro ⟨i, a⟩ B1 hB ⟨hB1, h1, hi, hob, ha, hp, hsrt⟩
  dsimp only at h1 hi hob ha hp hsrt ⊢
  have hal : a.xs.length = a0.xs.length := hp.length_eq
  (repeat' (first | refine J.seq ?_ | refine J.block ?_ | refine J.roA rfl ?_ | refine X.ro rfl rfl ?_ | refine X.nil0 ?_ | refine J.skip ?_ | refine J.exit ?_ | refine J.cond_d rfl (fun h => ?_) (fun h => ?_)))
  · refine J.loop (σ := Nat × Acc Pair) (fun q => [(0, a0.v), (1, .int .i64 0), (2, .int .i64 (a0.xs.length : Int)), (3, cmpF), (8, .int .i64 (i : Int)), (9, .int .i64 (q.1 : Int))]) (fun q => [q.2.e 78 2])
      (fun B2 q => Ge B1 B2 ∧ q.1 ≤ i ∧ q.2.ob = a0.ob ∧ q.2.Ok .pair B2 ∧ q.2.xs.Perm a0.xs ∧ Bub (q.2.xs.take (i + 1)) q.1) (fun q => q.1) (i, a) ⟨Ge.refl _, Nat.le_refl _, hob, ha, hp, bub_start hsrt (show i < a.xs.length by omega)⟩ ⟨rfl, rfl, rfl, rfl, rfl, rfl, trivial⟩ (fun _ _ _ h => h) ?_
    rintro ⟨j, u⟩ B2 hB2 ⟨hB12, hj, hob2, hu, hup, hbub⟩
    dsimp only at hj hob2 hu hup hbub ⊢
    have hul : u.xs.length = a0.xs.length := hup.length_eq
    have hub := hob2.trans hqb
    have hw : ∀ x ∈ u.xs, PairB x := fun x hx => hw0 x (hup.mem_iff.1 hx)
    (repeat' (first | refine J.seq ?_ | refine J.roA rfl ?_ | refine J.rdA (by kernel_rfl) rfl ?_ | refine X.ro rfl rfl ?_ | refine X.rd rfl rfl ?_ | refine X.nil0 ?_ | refine X.nil1 ⟨by kernel_rfl, ?_⟩ | refine J.exit ?_ | refine J.cond_f rfl ?_ | refine X.ad rfl rfl rfl rfl rfl rfl (by omega) ?_ | refine X.g_d rfl rfl rfl (fun h => ?_) (fun h => ?_)))
    · obtain ⟨k, rfl⟩ : ∃ k, j = k + 1 := ⟨j - 1, by omega⟩
      have hk1 : k + 1 < u.xs.length := by omega
      have hk0 : k < u.xs.length := by omega
      (refine X.ixo ha0.ob (i := (k + 1)) (by omega) rfl rfl rfl rfl rfl rfl rfl (by first | rfl | omega) fun b1 hb1 => ?_); obtain rfl := some_eq (hqb.symm.trans hb1); (skip)
      (refine X.acl (D := .pair) 0 0 hu (i := (k + 1)) (by omega) rfl hub rfl rfl rfl rfl rfl rfl rfl rfl rfl rfl ?_); rintro _ ⟨ya, yn, yc, rfl, yq⟩; ((repeat' (first | refine X.rd rfl rfl ?_ | refine X.sb rfl rfl rfl rfl rfl rfl (by omega) ?_)))
      (refine X.ixo ha0.ob (i := k) (by omega) rfl rfl rfl rfl rfl rfl rfl (by first | rfl | omega) fun b1 hb1 => ?_); obtain rfl := some_eq (hqb.symm.trans hb1); (skip)
      (refine X.acl (D := .pair) 0 0 hu (i := k) (by omega) rfl hub rfl rfl rfl rfl rfl rfl rfl rfl rfl rfl ?_); rintro _ ⟨za, zn, zc, rfl, zq⟩; (skip)
      refine X.callq rfl rfl (gV_ok rfl) rfl rfl rfl rfl (en rfl) (comparePairingsM_ev (s1 := ⟨ya, yn, yc⟩) (s2 := ⟨za, zn, zc⟩) yq zq (hw _ (List.getElem_mem hk1)) (hw _ (List.getElem_mem hk0))) ?_
      rintro v rfl
      (repeat' (first | refine J.seq ?_ | refine J.block ?_ | refine J.roA rfl ?_ | refine J.rdA (by kernel_rfl) rfl ?_ | refine X.ro rfl rfl ?_ | refine X.rd rfl rfl ?_ | refine X.nil0 ?_ | refine X.nil1 ⟨by kernel_rfl, ?_⟩ | refine J.skip ?_ | refine J.exit ?_ | refine X.ad rfl rfl rfl rfl rfl rfl (by omega) ?_ | refine X.sb rfl rfl rfl rfl rfl rfl (by omega) ?_ | refine J.cond_d rfl (fun h => ?_) (fun h => ?_)))
      · have hc := h
        (refine X.ixo ha0.ob (i := k) (by omega) rfl rfl rfl rfl rfl rfl rfl (by first | rfl | omega) fun b1 hb1 => ?_); obtain rfl := some_eq (hqb.symm.trans hb1); (skip)
        (refine X.acl (D := .pair) 0 0 hu (i := k) (by omega) rfl hub rfl rfl rfl rfl rfl rfl rfl rfl rfl rfl ?_); rintro _ ⟨ma, mn, mc, rfl, mq⟩; ((repeat' (first | refine X.rd rfl rfl ?_)))
        (refine X.ixo ha0.ob (i := (k + 1)) (by omega) rfl rfl rfl rfl rfl rfl rfl (by first | rfl | omega) fun b1 hb1 => ?_); obtain rfl := some_eq (hqb.symm.trans hb1); (skip)
        (refine X.acl (D := .pair) 0 0 hu (i := (k + 1)) (by omega) rfl hub rfl rfl rfl rfl rfl rfl rfl rfl rfl rfl ?_); rintro _ ⟨na, nn, nc, rfl, nq⟩; (skip)
        (refine X.ixo ha0.ob (i := (k + 1)) (by omega) rfl rfl rfl rfl rfl rfl rfl (by first | rfl | omega) fun b1 hb1 => ?_); obtain rfl := some_eq (hqb.symm.trans hb1); (skip)
        refine X.acs (D := .pair) (z := u.xs[k]) 0 hu hk1 rfl hub ⟨_, _, _, rfl, mq⟩ rfl rfl rfl rfl rfl rfl rfl rfl rfl fun u1 e1 o1 k1 => ?_
        skip
        (refine X.ixo ha0.ob (i := k) (by omega) rfl rfl rfl rfl rfl rfl rfl (by first | rfl | omega) fun b1 hb1 => ?_); obtain rfl := some_eq (hqb.symm.trans hb1); (skip)
        refine X.acs (D := .pair) (z := u.xs[k + 1]) 0 k1 (i := k) (by rw [e1, List.length_set]; exact hk0) rfl (o1.trans hub) ⟨_, _, _, rfl, nq⟩ rfl rfl rfl rfl rfl rfl rfl rfl rfl fun u2 e2 o2 k2 => ?_
        (repeat' (first | refine J.roA rfl ?_ | refine X.ro rfl rfl ?_ | refine X.nil0 ?_ | refine X.nil1 ⟨by kernel_rfl, ?_⟩ | refine X.sb rfl rfl rfl rfl rfl rfl (by omega) ?_))
        rw [e1] at e2
        refine ⟨(k, u2), ⟨rfl, rfl, rfl, rfl, rfl, (by show some _ = some _; congr 2; dsimp only; omega), trivial⟩, (fun _ _ _ h => h), ⟨hB12, by dsimp only; omega, (o2.trans o1).trans hob2, k2, ?_, ?_⟩, by dsimp only; omega⟩
        · dsimp only
          rw [e2]
          exact (List.set_set_perm hk1 hk0).trans hup
        · dsimp only
          rw [e2]
          exact bub_step hbub (by omega) (by omega) hc
      · have hc := h
        exact ⟨(i + 1, u), ⟨rfl, rfl, rfl, rfl, rfl, trivial⟩, (fun _ _ _ h => h), ⟨hB1.trans hB12, by dsimp only; omega, by dsimp only; omega, hob2, hu, hup, bub_end hbub hj (show i < u.xs.length by omega) (.inr ⟨by omega, hc⟩)⟩, by dsimp only; omega⟩
    · exact ⟨(i + 1, u), ⟨rfl, rfl, rfl, rfl, rfl, trivial⟩, (fun _ _ _ h => h), ⟨hB1.trans hB12, by dsimp only; omega, by dsimp only; omega, hob2, hu, hup, bub_end hbub hj (show i < u.xs.length by omega) (.inl (by omega))⟩, by dsimp only; omega⟩
  · refine ⟨_, _, .nil, rfl, rfl, rfl, a, rfl, hob, ha, hp, ?_⟩
    have e : i = a.xs.length := by omega
    rw [e, List.take_length] at hsrt
    exact hsrt
theorem stable_ev {a0 : Acc Pair} (ha0 : a0.Ok .pair B) (hw0 : ∀ x ∈ a0.xs, PairB x) (hl : a0.xs.length ≤ 12) (h0 : 0 < a0.xs.length) :
    EvC Tryz.prog 128 [a0.v, .int .i64 (a0.xs.length : Int), cmpF] B (a0.e 78 2) fun v B1 oc => v = .tuple #[] ∧ ∃ a : Acc Pair, oc = a.e 78 2 ∧ a.ob = a0.ob ∧ a.Ok .pair B1 ∧ a.xs.Perm a0.xs ∧ Srt a.xs := by
  refine EvC.go Tryz.func128 rfl Tryz.ntmps128 Tryz.results128 rfl [] rfl ?_
  (repeat' (first | refine J.seq ?_ | refine J.block ?_ | refine J.roA rfl ?_ | refine X.ro rfl rfl ?_ | refine X.nil0 ?_))
  refine J.loop (σ := Unit) (fun _ => [(0, a0.v), (1, .int .i64 (a0.xs.length : Int)), (2, cmpF), (6, .int .i64 20), (7, .int .i64 0), (8, .int .i64 20)]) (fun _ => [a0.e 78 2]) (fun B1 _ => B1 = B) (fun _ => 0) () rfl ⟨rfl, rfl, rfl, rfl, rfl, rfl, trivial⟩ (fun _ _ _ h => h) ?_
  rintro _ B1 hB1 rfl
  (repeat' (first | refine J.seq ?_ | refine J.block ?_ | refine J.roA rfl ?_ | refine X.ro rfl rfl ?_ | refine X.nil0 ?_ | refine J.skip ?_ | refine J.exit ?_ | refine J.cond_d rfl (fun h => ?_) (fun h => ?_)))
  · omega
  · refine X.callC 0 rfl rfl (gV_ok rfl) rfl rfl rfl rfl (en rfl) rfl (insSort_ev ha0 hw0 (by omega) h0) ?_
    rintro v B2 oc hB2 ⟨rfl, a, rfl, hob, ha, hp, hsrt⟩
    (repeat' (first | refine J.block ?_ | refine X.nil0 ?_))
    refine J.loop (σ := Unit) (fun _ => [(0, a0.v), (1, .int .i64 (a0.xs.length : Int)), (2, cmpF), (6, .int .i64 20)]) (fun _ => [a.e 78 2]) (fun B1 _ => B1 = B2) (fun _ => 0) () rfl ⟨rfl, rfl, rfl, rfl, trivial⟩ (fun _ _ _ h => h) ?_
    rintro _ B3 hB3 rfl
    (repeat' (first | refine J.seq ?_ | refine J.block ?_ | refine J.roA rfl ?_ | refine X.ro rfl rfl ?_ | refine X.nil0 ?_ | refine J.skip ?_ | refine J.exit ?_ | refine J.cond_d rfl (fun h => ?_) (fun h => ?_)))
    · omega
    · exact ⟨_, _, .nil, rfl, rfl, rfl, a, rfl, hob, ha, hp, hsrt⟩
theorem sortStable_ev {a0 : Acc Pair} (ha0 : a0.Ok .pair B) (hw0 : ∀ x ∈ a0.xs, PairB x) (hl : a0.xs.length ≤ 12) (h0 : 0 < a0.xs.length) :
    EvC Tryz.prog 74 [a0.v, cmpF] B (a0.e 78 2) fun v B1 oc => v = .tuple #[] ∧ ∃ a : Acc Pair, oc = a.e 78 2 ∧ a.ob = a0.ob ∧ a.Ok .pair B1 ∧ a.xs.Perm a0.xs ∧ Srt a.xs := by
  refine EvC.go Tryz.func74 rfl Tryz.ntmps74 Tryz.results74 rfl [] rfl ?_
  (repeat' (first | refine J.roA rfl ?_ | refine X.ro rfl rfl ?_))
  refine X.callC 0 rfl rfl (gV_ok rfl) rfl rfl rfl rfl (en rfl) rfl (stable_ev ha0 hw0 hl h0) ?_
  rintro v B2 oc hB2 ⟨rfl, a, rfl, hob, ha, hp, hsrt⟩
  (repeat' (first | refine X.nil0 ?_))
  exact ⟨_, _, .nil, rfl, rfl, rfl, a, rfl, hob, ha, hp, hsrt⟩
end
end Go.Proofs.YthldmlfpebgojaaGreatDoor
