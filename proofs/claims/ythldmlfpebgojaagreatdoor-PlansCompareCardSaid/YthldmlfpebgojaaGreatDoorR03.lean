/-
  Contracts: the structure of duties and rests.
  Condition: the lists lie in memory.
-/
import Derived.Test.YthldmlfpebgojaaGreatDoorR02
namespace Go.Proofs.YthldmlfpebgojaaGreatDoor
set_option linter.unusedSimpArgs false
set_option linter.unusedVariables false
set_option maxHeartbeats 0
set_option maxRecDepth 20000
open Go.RowKit Go

/-- A duty that is structurally valid. -/
structure DOk (fs : List Flt) (ds : List Task) : Prop where
  pos : 0 < ds.length
  le : ds.length ≤ 6
  rng : ∀ (k : Nat) (h : k < ds.length), ∃ i : Nat, ds[k].flight = (i : Int) ∧ i < fs.length
  joins : ∀ (k : Nat) (h : k + 1 < ds.length) (i j : Nat) (hi : i < fs.length) (hj : j < fs.length), ds[k].flight = (i : Int) → ds[k + 1].flight = (j : Int) → fs[i].arr ≤ fs[j].dep
section
variable {B : St} {t : TT} {c : CT} {d : Slc} {fs : List Flt} {ds : List Task}
theorem structure_ev (hF : FlsOk fs) (hC : c.Fit) (hf : SqS .flt B t.fls fs) (hd : SqS .task B d ds) :
    EvP Tryz.prog 120 [t.v, c.v, d.v] B fun v _ => ∃ e, v = .int .i64 e ∧ (e = 0 → DOk fs ds) := by
  have hn := hd.len
  have hnf := hf.len
  have hfl := hF.len
  refine EvP.go Tryz.func120 rfl Tryz.ntmps120 Tryz.results120 rfl [] rfl ?_
  (repeat' (first | refine J.seq ?_ | refine J.block ?_ | refine J.roA rfl ?_ | refine X.ro rfl rfl ?_ | refine X.nil0 ?_ | refine J.skip ?_ | refine J.ret ?_ | refine J.cond_t rfl ?_ | refine X.bx rfl rfl rfl rfl rfl rfl rfl rfl fun b => ?_ | refine X.g_d rfl rfl rfl (fun h => ?_) (fun h => ?_) | refine J.cond_d rfl (fun h => ?_) (fun h => ?_)))
  · exact ⟨_, .cons (.tmp rfl) .nil, rfl, fun _ _ _ => ⟨_, rfl, fun h => by cases h⟩⟩
  · exact ⟨_, .cons (.tmp rfl) .nil, rfl, fun _ _ _ => ⟨_, rfl, fun h => by cases h⟩⟩
  rename_i b0 h1
  refine J.loop (σ := Nat) (fun i => [(2, d.v), (3, .pointer (some ⟨b0, 0, none⟩)), (4, .pointer (some ⟨b, 0, none⟩)), (7, .int .i64 (i : Int))]) (fun _ => _) (fun B1 i => B1 = B ∧ i ≤ ds.length ∧ ∀ k (h : k < ds.length), k < i → ∃ j : Nat, ds[k].flight = (j : Int) ∧ j < fs.length) (fun i => ds.length - i) 0 ⟨rfl, Nat.zero_le _, fun k _ h => absurd h (by omega)⟩ ⟨rfl, rfl, rfl, rfl, trivial⟩ (Less.refl _) fun i B1 hB hI => ?_
  obtain ⟨rfl, hi, hr⟩ := hI
  (repeat' (first | refine J.seq ?_ | refine J.block ?_ | refine J.roA rfl ?_ | refine J.rdA (by kernel_rfl) rfl ?_ | refine X.ro rfl rfl ?_ | refine X.rd rfl rfl ?_ | refine X.nil0 ?_ | refine J.skip ?_ | refine J.exit ?_ | refine J.cond_d rfl (fun h => ?_) (fun h => ?_)))
  · refine X.ix hd (i := i) (by omega) rfl rfl rfl rfl rfl rfl rfl rfl rfl fun b1 f1 cs1 hr1 hx1 => ?_
    obtain rfl := hx1
    (repeat' (first | refine X.rd rfl rfl ?_))
    refine X.ls 0 hr1 rfl (by first | exact .md | exact .mo | exact .mf) (Ge.refl _) rfl rfl rfl rfl rfl rfl rfl ?_
    (repeat' (first | refine J.seq ?_ | refine J.roA rfl ?_ | refine X.ro rfl rfl ?_ | refine X.rd rfl rfl ?_ | refine X.nil0 ?_ | refine X.nil1 ⟨by kernel_rfl, ?_⟩ | refine J.ret ?_ | refine J.cond_t rfl ?_ | refine X.g_d rfl rfl rfl (fun h => ?_) (fun h => ?_)))
    · exact ⟨_, .cons (.tmp rfl) .nil, rfl, fun _ _ _ => ⟨_, rfl, fun h => by cases h⟩⟩
    · refine X.ix hd (i := i) (by omega) rfl rfl rfl rfl rfl rfl rfl rfl rfl fun b1 f1 cs1 hr1 hx1 => ?_
      obtain rfl := hx1
      (repeat' (first | refine X.rd rfl rfl ?_))
      refine X.ls 0 hr1 rfl (by first | exact .md | exact .mo | exact .mf) (Ge.refl _) rfl rfl rfl rfl rfl rfl rfl ?_
      (repeat' (first | refine J.seq ?_ | refine J.roA rfl ?_ | refine X.ro rfl rfl ?_ | refine X.rd rfl rfl ?_ | refine X.nil0 ?_ | refine X.nil1 ⟨by kernel_rfl, ?_⟩ | refine J.skip ?_ | refine J.ret ?_ | refine X.l1 0 rfl rfl rfl rfl rfl rfl rfl rfl rfl ?_ | refine X.ad rfl rfl rfl rfl rfl rfl (by omega) ?_ | refine J.cond_d rfl (fun h => ?_) (fun h => ?_)))
      · exact ⟨_, .cons (.tmp rfl) .nil, rfl, fun _ _ _ => ⟨_, rfl, fun h => by cases h⟩⟩
      · refine ⟨i + 1, ⟨rfl, rfl, rfl, rfl, trivial⟩, Less.refl _, ⟨rfl, by omega, fun k hk hki => ?_⟩, by dsimp only; omega⟩
        rcases Nat.lt_or_eq_of_le (Nat.le_of_lt_succ hki) with h3 | rfl
        · exact hr k hk h3
        · exact ⟨ds[k].flight.toNat, by omega, by omega⟩
  · have hr : ∀ (k : Nat) (h : k < ds.length), ∃ j : Nat, ds[k].flight = (j : Int) ∧ j < fs.length := fun k h => hr k h (by omega)
    refine J.loop (σ := Nat) (fun i => [(2, d.v), (3, .pointer (some ⟨b0, 0, none⟩)), (4, .pointer (some ⟨b, 0, none⟩)), (8, .int .i64 (i : Int))]) (fun _ => _) (fun B2 i => B2 = B1 ∧ 1 ≤ i ∧ i ≤ ds.length ∧ ∀ (k : Nat) (h : k + 1 < ds.length), k + 1 < i → ∀ (i j : Nat) (hi : i < fs.length) (hj : j < fs.length), ds[k].flight = (i : Int) → ds[k + 1].flight = (j : Int) → fs[i].arr ≤ fs[j].dep) (fun i => ds.length - i) 1 ⟨rfl, Nat.le_refl _, by omega, fun k _ h => absurd h (by omega)⟩ ⟨rfl, rfl, rfl, rfl, trivial⟩ (Less.refl _) fun i B2 hB hI => ?_
    obtain ⟨rfl, hi1, hi, hj⟩ := hI
    (repeat' (first | refine J.seq ?_ | refine J.block ?_ | refine J.roA rfl ?_ | refine J.rdA (by kernel_rfl) rfl ?_ | refine X.ro rfl rfl ?_ | refine X.rd rfl rfl ?_ | refine X.nil0 ?_ | refine J.skip ?_ | refine J.exit ?_ | refine J.ret ?_ | refine X.la 0 rfl rfl rfl rfl rfl rfl rfl rfl rfl rfl ?_ | refine X.la 1 rfl rfl rfl rfl rfl rfl rfl rfl rfl rfl ?_ | refine X.sb rfl rfl rfl rfl rfl rfl (by omega) ?_ | refine J.cond_d rfl (fun h => ?_) (fun h => ?_)))
    · obtain ⟨i1, g1, g2⟩ := hr (i - 1) (by omega)
      obtain ⟨i2, g3, g4⟩ := hr i (by omega)
      refine X.ix hd (i := i - 1) (by omega) rfl rfl rfl rfl rfl rfl rfl rfl (by omega) fun b1 f1 cs1 hr1 hx1 => ?_
      obtain rfl := hx1
      (repeat' (first | refine X.rd rfl rfl ?_))
      refine X.ls 0 hr1 rfl (by first | exact .md | exact .mo | exact .mf) (Ge.refl _) rfl rfl rfl rfl rfl rfl rfl ?_
      (repeat' (first | refine X.rd rfl rfl ?_))
      refine X.ix hd (i := i) (by omega) rfl rfl rfl rfl rfl rfl rfl rfl rfl fun b1 f1 cs1 hr1 hx1 => ?_
      obtain rfl := hx1
      (repeat' (first | refine X.rd rfl rfl ?_))
      refine X.ls 0 hr1 rfl (by first | exact .md | exact .mo | exact .mf) (Ge.refl _) rfl rfl rfl rfl rfl rfl rfl ?_
      refine X.callq (vs := [t.v, c.v, .int .i64 (i1 : Int), .int .i64 (i2 : Int)]) rfl rfl (.none rfl) rfl rfl rfl (by rw [← g1, ← g3]; rfl) (en rfl) (joins_ev hF hC hf g2 g4) ?_
      rintro v ⟨jb, rfl, hjb⟩
      (repeat' (first | refine J.seq ?_ | refine J.roA rfl ?_ | refine X.ro rfl rfl ?_ | refine X.rd rfl rfl ?_ | refine X.nil0 ?_ | refine X.nil1 ⟨by kernel_rfl, ?_⟩ | refine J.skip ?_ | refine J.ret ?_ | refine X.ad rfl rfl rfl rfl rfl rfl (by omega) ?_ | refine J.cond rfl (fun h => ?_) (fun h => ?_)))
      · exact ⟨_, .cons (.tmp rfl) .nil, rfl, fun _ _ _ => ⟨_, rfl, fun h => by cases h⟩⟩
      · refine ⟨i + 1, ⟨rfl, rfl, rfl, rfl, trivial⟩, Less.refl _, ⟨rfl, by omega, by omega, fun k hk hki a b ha hb ea eb => ?_⟩, by dsimp only; omega⟩
        by_cases h3 : k + 1 < i
        · exact hj k hk h3 a b ha hb ea eb
        · obtain rfl : i = k + 1 := by omega
          simp only [Nat.add_sub_cancel] at g1
          obtain rfl : a = i1 := by omega
          obtain rfl : b = i2 := by omega
          have h9 : (!jb) = false := by assumption
          have := hjb (by simpa using h9)
          have := hC.con
          omega
    · exact ⟨_, .cons (.tmp rfl) .nil, rfl, fun _ _ _ => ⟨_, rfl, fun _ => ⟨by omega, by omega, hr, fun k h => hj k h (by omega)⟩⟩⟩
end
end Go.Proofs.YthldmlfpebgojaaGreatDoor
