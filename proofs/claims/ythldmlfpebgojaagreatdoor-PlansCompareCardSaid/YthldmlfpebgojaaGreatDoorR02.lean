/-
  Contracts of the reference's small functions on duties.
  Condition: the lists lie in memory.
-/
import Derived.Test.YthldmlfpebgojaaGreatDoorQK
namespace Go.Proofs.YthldmlfpebgojaaGreatDoor
set_option linter.unusedSimpArgs false
set_option linter.unusedVariables false
set_option maxHeartbeats 0
set_option maxRecDepth 20000
open Go.RowKit Go

section
variable {B : St} {t : TT} {c : CT} {d : Slc} {fs : List Flt} {ds : List Task}
theorem first_ev (hf : SqS .flt B t.fls fs) (hd : SqS .task B d ds) (h0 : 0 < ds.length) {i : Nat} (hi : ds[0].flight = (i : Int)) (hlt : i < fs.length) :
    EvP Tryz.prog 123 [t.v, d.v] B fun v _ => v = fs[i].v := by
  refine EvP.go Tryz.func123 rfl Tryz.ntmps123 Tryz.results123 rfl [] rfl ?_
  (repeat' (first | refine J.seq ?_ | refine J.roA rfl ?_ | refine J.rdA (by kernel_rfl) rfl ?_ | refine X.rd rfl rfl ?_ | refine X.nil0 ?_ | refine X.l1 0 rfl rfl rfl rfl rfl rfl rfl rfl rfl ?_ | refine X.bx rfl rfl rfl rfl rfl rfl rfl rfl fun b => ?_ | refine X.al rfl rfl rfl rfl rfl rfl rfl fun b => ?_))
  refine X.ix hd h0 rfl rfl rfl rfl rfl rfl rfl rfl rfl fun b1 f1 cs1 hr1 hx1 => ?_
  obtain rfl := hx1
  (repeat' (first | refine X.rd rfl rfl ?_))
  refine X.ls 0 hr1 rfl (by first | exact .md | exact .mo | exact .mf) (Ge.refl _) rfl rfl rfl rfl rfl rfl rfl ?_
  refine X.ix hf hlt rfl rfl rfl rfl rfl rfl rfl rfl hi fun b2 f2 cs2 hr2 hx2 => ?_
  obtain rfl := hx2
  refine X.lg 0 hr2 rfl rfl (by first | exact .md | exact .mo | exact .mf) (Ge.refl _) rfl rfl rfl rfl rfl rfl rfl rfl ?_
  (repeat' (first | refine X.nil1 ⟨by kernel_rfl, ?_⟩ | refine J.ret ?_ | refine X.st 1 rfl rfl rfl rfl rfl rfl rfl rfl rfl ?_))
  exact ⟨_, .cons (.cellA (p := 1) rfl (ag rfl) (sz rfl) rfl rfl) .nil, rfl, fun _ _ _ => rfl⟩
theorem last_ev (hf : SqS .flt B t.fls fs) (hd : SqS .task B d ds) (h0 : 0 < ds.length) (hb : ds.length ≤ 1000) {i : Nat} (hi : (ds[ds.length - 1]'(by omega)).flight = (i : Int)) (hlt : i < fs.length) :
    EvP Tryz.prog 122 [t.v, d.v] B fun v _ => v = fs[i].v := by
  have hn := hd.len
  refine EvP.go Tryz.func122 rfl Tryz.ntmps122 Tryz.results122 rfl [] rfl ?_
  (repeat' (first | refine J.seq ?_ | refine J.roA rfl ?_ | refine J.rdA (by kernel_rfl) rfl ?_ | refine X.rd rfl rfl ?_ | refine X.nil0 ?_ | refine X.l1 0 rfl rfl rfl rfl rfl rfl rfl rfl rfl ?_ | refine X.bx rfl rfl rfl rfl rfl rfl rfl rfl fun b => ?_ | refine X.al rfl rfl rfl rfl rfl rfl rfl fun b => ?_ | refine X.sb rfl rfl rfl rfl rfl rfl (by omega) ?_))
  refine X.ix (i := ds.length - 1) hd (by omega) rfl rfl rfl rfl rfl rfl rfl rfl (by omega) fun b1 f1 cs1 hr1 hx1 => ?_
  obtain rfl := hx1
  (repeat' (first | refine X.rd rfl rfl ?_))
  refine X.ls 0 hr1 rfl (by first | exact .md | exact .mo | exact .mf) (Ge.refl _) rfl rfl rfl rfl rfl rfl rfl ?_
  refine X.ix hf hlt rfl rfl rfl rfl rfl rfl rfl rfl hi fun b2 f2 cs2 hr2 hx2 => ?_
  obtain rfl := hx2
  refine X.lg 0 hr2 rfl rfl (by first | exact .md | exact .mo | exact .mf) (Ge.refl _) rfl rfl rfl rfl rfl rfl rfl rfl ?_
  (repeat' (first | refine X.nil1 ⟨by kernel_rfl, ?_⟩ | refine J.ret ?_ | refine X.st 1 rfl rfl rfl rfl rfl rfl rfl rfl rfl ?_))
  exact ⟨_, .cons (.cellA (p := 1) rfl (ag rfl) (sz rfl) rfl rfl) .nil, rfl, fun _ _ _ => rfl⟩
theorem span_ev (hF : FlsOk fs) (hC : c.Fit) (hf : SqS .flt B t.fls fs) (hd : SqS .task B d ds) (h0 : 0 < ds.length) (hb : ds.length ≤ 1000) {i j : Nat} (hi : ds[0].flight = (i : Int)) (hlt : i < fs.length) (hj : (ds[ds.length - 1]'(by omega)).flight = (j : Int)) (hjl : j < fs.length) :
    EvP Tryz.prog 121 [t.v, c.v, d.v] B fun v _ => v = .agg #[.int .i64 (fs[i].dep - c.rep), .int .i64 (fs[j].arr + c.rel)] := by
  have h1 := hF.rng i hlt
  have h2 := hF.rng j hjl
  have h3 := hC.rep
  have h4 := hC.rel
  refine EvP.go Tryz.func121 rfl Tryz.ntmps121 Tryz.results121 rfl [] rfl ?_
  (repeat' (first | refine J.seq ?_ | refine J.roA rfl ?_ | refine J.rdA (by kernel_rfl) rfl ?_ | refine X.rd rfl rfl ?_ | refine X.nil0 ?_ | refine X.la 0 rfl rfl rfl rfl rfl rfl rfl rfl rfl rfl ?_ | refine X.bx rfl rfl rfl rfl rfl rfl rfl rfl fun b => ?_ | refine X.al rfl rfl rfl rfl rfl rfl rfl fun b => ?_))
  refine X.callq rfl rfl (.none rfl) rfl rfl rfl rfl (en rfl) (first_ev hf hd h0 hi hlt) ?_
  rintro v rfl
  (repeat' (first | refine X.rd rfl rfl ?_ | refine X.l1 1 rfl rfl rfl rfl rfl rfl rfl rfl rfl ?_ | refine X.la 0 rfl rfl rfl rfl rfl rfl rfl rfl rfl rfl ?_ | refine X.fe rfl rfl rfl rfl rfl rfl rfl rfl ?_ | refine X.sb rfl rfl rfl rfl rfl rfl (by omega) ?_))
  refine X.callq rfl rfl (.none rfl) rfl rfl rfl rfl (en rfl) (last_ev hf hd h0 hb hj hjl) ?_
  rintro v rfl
  (repeat' (first | refine X.rd rfl rfl ?_ | refine X.nil1 ⟨by kernel_rfl, ?_⟩ | refine J.ret ?_ | refine X.l1 1 rfl rfl rfl rfl rfl rfl rfl rfl rfl ?_ | refine X.fe rfl rfl rfl rfl rfl rfl rfl rfl ?_ | refine X.st 2 rfl rfl rfl rfl rfl rfl rfl rfl rfl ?_ | refine X.ad rfl rfl rfl rfl rfl rfl (by omega) ?_ | refine X.bd rfl rfl rfl rfl rfl rfl rfl rfl rfl rfl rfl ?_))
  exact ⟨_, .cons (.cellA (p := 2) rfl (ag rfl) (sz rfl) rfl rfl) .nil, rfl, fun _ _ _ => rfl⟩
theorem joins_ev (hF : FlsOk fs) (hC : c.Fit) (hf : SqS .flt B t.fls fs) {i j : Nat} (hi : i < fs.length) (hj : j < fs.length) :
    EvP Tryz.prog 66 [t.v, c.v, .int .i64 (i : Int), .int .i64 (j : Int)] B fun v _ => ∃ b, v = .bool b ∧ (b = true → fs[i].arr + c.con ≤ fs[j].dep) := by
  have h1 := hF.rng i hi
  have h2 := hF.rng j hj
  refine EvP.go Tryz.func66 rfl Tryz.ntmps66 Tryz.results66 rfl [] rfl ?_
  (repeat' (first | refine J.seq ?_ | refine J.roA rfl ?_ | refine J.rdA (by kernel_rfl) rfl ?_ | refine X.ro rfl rfl ?_ | refine X.rd rfl rfl ?_ | refine X.nil0 ?_ | refine X.l1 0 rfl rfl rfl rfl rfl rfl rfl rfl rfl ?_ | refine X.bx rfl rfl rfl rfl rfl rfl rfl rfl fun b => ?_))
  refine X.ix hf hj rfl rfl rfl rfl rfl rfl rfl rfl rfl fun b1 f1 cs1 hr1 hx1 => ?_
  obtain rfl := hx1
  (repeat' (first | refine X.rd rfl rfl ?_))
  refine X.ls 3 hr1 rfl (by first | exact .md | exact .mo | exact .mf) (Ge.refl _) rfl rfl rfl rfl rfl rfl rfl ?_
  (repeat' (first | refine X.rd rfl rfl ?_ | refine X.l1 0 rfl rfl rfl rfl rfl rfl rfl rfl rfl ?_))
  refine X.ix hf hi rfl rfl rfl rfl rfl rfl rfl rfl rfl fun b2 f2 cs2 hr2 hx2 => ?_
  obtain rfl := hx2
  (repeat' (first | refine X.rd rfl rfl ?_))
  refine X.ls 4 hr2 rfl (by first | exact .md | exact .mo | exact .mf) (Ge.refl _) rfl rfl rfl rfl rfl rfl rfl ?_
  (repeat' (first | refine J.seq ?_ | refine J.rdA (by kernel_rfl) rfl ?_ | refine X.rd rfl rfl ?_ | refine X.nil1 ⟨by kernel_rfl, ?_⟩ | refine X.l1 0 rfl rfl rfl rfl rfl rfl rfl rfl rfl ?_ | refine X.sb rfl rfl rfl rfl rfl rfl (by omega) ?_))
  refine X.ix hf hi rfl rfl rfl rfl rfl rfl rfl rfl rfl fun b3 f3 cs3 hr3 hx3 => ?_
  obtain rfl := hx3
  (repeat' (first | refine X.rd rfl rfl ?_))
  refine X.ls 2 hr3 rfl (by first | exact .md | exact .mo | exact .mf) (Ge.refl _) rfl rfl rfl rfl rfl rfl rfl ?_
  (repeat' (first | refine X.rd rfl rfl ?_ | refine X.l1 0 rfl rfl rfl rfl rfl rfl rfl rfl rfl ?_))
  refine X.ix hf hj rfl rfl rfl rfl rfl rfl rfl rfl rfl fun b4 f4 cs4 hr4 hx4 => ?_
  obtain rfl := hx4
  (repeat' (first | refine X.rd rfl rfl ?_))
  refine X.ls 1 hr4 rfl (by first | exact .md | exact .mo | exact .mf) (Ge.refl _) rfl rfl rfl rfl rfl rfl rfl ?_
  (repeat' (first | refine X.rd rfl rfl ?_ | refine X.nil1 ⟨by kernel_rfl, ?_⟩ | refine J.ret ?_ | refine X.l1 1 rfl rfl rfl rfl rfl rfl rfl rfl rfl ?_ | refine X.g_d rfl rfl rfl (fun h => ?_) (fun h => ?_)))
  · exact ⟨_, .cons (.tmp rfl) .nil, rfl, fun _ _ _ => ⟨_, rfl, fun _ => by omega⟩⟩
  · exact ⟨_, .cons (.tmp rfl) .nil, rfl, fun _ _ _ => ⟨_, rfl, fun h => by cases h⟩⟩
  · exact ⟨_, .cons (.tmp rfl) .nil, rfl, fun _ _ _ => ⟨_, rfl, fun h => by cases h⟩⟩
end
end Go.Proofs.YthldmlfpebgojaaGreatDoor
