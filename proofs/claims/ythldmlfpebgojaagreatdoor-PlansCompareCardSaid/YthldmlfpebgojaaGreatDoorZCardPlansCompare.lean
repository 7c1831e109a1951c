/-
  Joined texts: R45; QP2; R46; Open; FitsI; CardPlansCompare. What each proves stands ahead of it, with its conditions.
-/
import Derived.Test.YthldmlfpebgojaaGreatDoorZC
import Derived.Test.YthldmlfpebgojaaGreatDoorQK
import Derived.Test.YthldmlfpebgojaaGreatDoorLib
import Derived.ProofKit
import Derived.Deep.Slices
import Derived.OpenShut
import Derived.Test.YthldmlfpebgojaaGreatDoorProg
import Derived.Test.YthldmlfpebgojaaGreatDoorCardLib
import Derived.Stop.LaidErr
/-
  The law PlansCompare, in the evaluator.
  Condition: the three lists lie in memory.
-/
namespace Go.Proofs.YthldmlfpebgojaaGreatDoor
set_option linter.unusedSimpArgs false
set_option linter.unusedVariables false
set_option maxRecDepth 100000
set_option maxHeartbeats 0
open Go.RowKit Go

theorem known_ev {B : St} : EvP Tryz.prog 10 [] B fun v _ => v = .bool true := EvP.cl0 cl_kn cl_kn_fine rfl (by rfl) (by rfl) rfl rfl rfl fun _ => rfl
theorem u64_nn (a : Int) : 0 ≤ IntKind.u64.wrap a := by
  rw [IntKind.wrap_u64]
  omega
theorem bit_nat (w : Int) {m : Nat} (hm : 0 < m) : ∃ j : Nat, (w % ((2 ^ 6 : Nat) : Int)).tmod (m : Int) = (j : Int) ∧ j < m := by
  have h0 : 0 ≤ w % ((2 ^ 6 : Nat) : Int) := by omega
  rw [Int.tmod_eq_emod_of_nonneg h0]
  have h1 := Int.emod_nonneg (w % ((2 ^ 6 : Nat) : Int)) (b := (m : Int)) (by omega)
  have h2 := Int.emod_lt_of_pos (w % ((2 ^ 6 : Nat) : Int)) (b := (m : Int)) (by omega)
  exact ⟨((w % ((2 ^ 6 : Nat) : Int)) % (m : Int)).toNat, by omega, by omega⟩
theorem sameP_ev {B : St} {s1 s2 : Slc} {x : List Pair} (hx : SqS .pair B s1 x) (hy : SqS .pair B s2 x) (bx : ∀ p ∈ x, PairB p) (hl : x.length ≤ 1000000000000) : EvP Tryz.prog 17 [s1.v, s2.v] B fun v _ => v = .bool true :=
  samePairings_ev hx hy bx bx hl rfl fun i h1 h2 => cmpP_ok.rfl_ _
-- KEEP 8
section
variable {B : St}
theorem planCompare_ev {sl sa sb : Slc} {l a b : List Int} (n : Int) (hl : SqS (Dt.int .i64) B sl l) (ha : SqS (Dt.int .i64) B sa a) (hb : SqS (Dt.int .i64) B sb b) (ll : l.length ≤ 9223372036854775807) (la : a.length ≤ 9223372036854775807) (lb : b.length ≤ 9223372036854775807) :
    EvP Tryz.prog 5 [sl.v, sa.v, sb.v, .int .i64 n] B fun v _ => v = .bool true := by
  refine EvP.go Tryz.func5 rfl Tryz.ntmps5 Tryz.results5 rfl [none, none] rfl ?_
  (repeat' (first | refine J.seq ?_ | refine J.roA rfl ?_ | refine X.ro rfl rfl ?_ | refine X.nil0 ?_))
  refine X.call rfl rfl (gV_ok rfl) rfl rfl rfl rfl (en rfl) (problem_ev hl ll) ?_
  rintro v B1 hB1 ⟨p, fs, bs, os, rfl, hP⟩
  (repeat' (first | refine J.seq ?_ | refine J.roA rfl ?_ | refine X.nil0 ?_ | refine X.la 2 rfl rfl rfl rfl rfl rfl rfl rfl rfl rfl ?_ | refine X.al rfl rfl rfl rfl rfl rfl rfl fun b => ?_ | refine X.st 2 rfl rfl rfl rfl rfl rfl rfl rfl rfl ?_))
  (revert b; intro pb)
  refine X.call rfl rfl (gV_ok rfl) rfl rfl rfl rfl (en rfl) (columns_ev hP) ?_
  rintro v B2 hB2 ⟨sc, cs, rfl, hc, hcl, hcw⟩
  (repeat' (first | refine J.seq ?_ | refine J.rfA (id := 3) rfl ?_ | refine X.ro rfl rfl ?_ | refine X.rf rfl rfl ?_ | refine X.nil0 ?_ | refine X.la 2 rfl rfl rfl rfl rfl rfl rfl rfl rfl rfl ?_))
  refine X.callC 0 rfl rfl (gV_ok rfl) rfl rfl rfl rfl (en rfl) rfl (planOf_ev (hP.ge hB2) hc hcl hcw ((ha.ge hB1).ge hB2) la) ?_
  rintro v B3 oc hB3 ⟨x0, sox, kx, rfl, rfl, hx0, hxl0, hxw0⟩
  (repeat' (first | refine X.rf rfl rfl ?_ | refine X.la 2 rfl rfl rfl rfl rfl rfl rfl rfl rfl rfl ?_))
  refine X.callC 1 rfl rfl (gV_ok rfl) rfl rfl rfl rfl (en rfl) rfl (planOf_ev ((hP.ge hB2).ge hB3) (hc.ge hB3) hcl hcw (((hb.ge hB1).ge hB2).ge hB3) lb) ?_
  rintro v B4 oc hB4 ⟨y0, soy, ky, rfl, rfl, hy0, hyl0, hyw0⟩
  (repeat' (first | refine J.seq ?_ | refine J.block ?_ | refine J.roA rfl ?_ | refine X.ro rfl rfl ?_ | refine X.nil0 ?_ | refine X.nilF ⟨by kernel_rfl, ?_⟩ | refine X.al rfl rfl rfl rfl rfl rfl rfl fun b => ?_ | refine X.st 3 rfl rfl rfl rfl rfl rfl rfl rfl rfl ?_ | refine X.st 4 rfl rfl rfl rfl rfl rfl rfl rfl rfl ?_))
  (revert b; intro yb)
  (revert b; intro xb)
  refine J.loop (σ := Nat × Acc Pair × Acc Pair) (fun q => [(3, .int .i64 n), (10, sc.v), (11, .pointer (some ⟨xb, 0, none⟩)), (12, .pointer (some ⟨yb, 0, none⟩)), (8, .bool false), (13, .int .i64 (q.1 : Int))])
    (fun q => [q.2.1.e 78 2, q.2.2.e 78 2, none, some (xb, ⟨[q.2.1.v, sox.v, .int .i64 kx], 66, 1⟩), some (yb, ⟨[q.2.2.v, soy.v, .int .i64 ky], 66, 1⟩)])
    (fun B5 q => Ge B4 B5 ∧ q.1 ≤ 3 ∧ q.2.1.Ok .pair B5 ∧ q.2.2.Ok .pair B5 ∧ q.2.1.xs.length ≤ 6 + q.1 ∧ q.2.2.xs.length ≤ 6 + q.1 ∧ (∀ x ∈ q.2.1.xs, WOk fs x) ∧ ∀ x ∈ q.2.2.xs, WOk fs x) (fun q => 3 - q.1) (0, x0, y0) ⟨Ge.refl _, Nat.zero_le _, hx0.ge hB4, hy0, hxl0, hyl0, hxw0, hyw0⟩ ⟨rfl, rfl, rfl, rfl, rfl, rfl, trivial⟩ ?less ?_
  case less =>
    intro p' b' X h
    match p', h with
    | 0, h => exact h
    | 1, h => exact h
    | 2, h => cases h
    | 3, h => exact h
    | 4, h => exact h
    | p' + 5, h => cases h
  rintro ⟨i, x, y⟩ B5 hB5 ⟨hB45, hi, hx, hy, hxl, hyl, hxw, hyw⟩
  dsimp only at hi hx hy hxl hyl hxw hyw ⊢
  have hc5 := (hc.ge hB3).ge (hB4.trans hB45)
  have hcn := hc.len
  (repeat' (first | refine J.seq ?_ | refine J.block ?_ | refine J.roA rfl ?_ | refine J.rfA (id := 11) rfl ?_ | refine X.ro rfl rfl ?_ | refine X.nil0 ?_ | refine J.skip ?_ | refine J.exit ?_ | refine J.cond_f rfl ?_ | refine X.la 3 rfl rfl rfl rfl rfl rfl rfl rfl rfl rfl ?_ | refine X.la 4 rfl rfl rfl rfl rfl rfl rfl rfl rfl rfl ?_ | refine X.g_d rfl rfl rfl (fun h => ?_) (fun h => ?_) | refine J.cond_d rfl (fun h => ?_) (fun h => ?_)))
  · have hpos : 0 < sc.n := by omega
    have hne : (sc.n : Int) ≠ 0 := by omega
    have hc0 : 0 ≤ IntKind.u64.wrap (IntKind.i64.wrap (2 * (i : Int))) := u64_nn _
    have hc1 : 0 ≤ IntKind.u64.wrap (IntKind.i64.wrap (IntKind.i64.wrap (2 * (i : Int)) + 1)) := u64_nn _
    (repeat' (first | refine X.muw rfl rfl rfl rfl rfl rfl ?_ | refine X.cv rfl rfl rfl rfl rfl rfl (by kernel_rfl) ?_))
    refine X.shA hc0 rfl rfl rfl rfl rfl rfl fun w => ?_
    skip
    refine X.andk 1 rfl rfl rfl rfl rfl rfl rfl rfl ?_
    (repeat' (first | refine J.seq ?_ | refine J.roA rfl ?_ | refine J.rdA (by kernel_rfl) rfl ?_ | refine X.ro rfl rfl ?_ | refine X.rd rfl rfl ?_ | refine X.nil0 ?_ | refine J.skip ?_ | refine X.l1 3 rfl rfl rfl rfl rfl rfl rfl rfl rfl ?_ | refine J.cond_d rfl (fun h => ?_) (fun h => ?_)))
    · skip
      refine X.shA (by decide) rfl rfl rfl rfl rfl rfl fun w2 => ?_
      skip
      refine X.andk 6 rfl rfl rfl rfl rfl rfl rfl rfl ?_
      (repeat' (first | refine X.rd rfl rfl ?_))
      refine X.rew rfl rfl rfl rfl rfl rfl hne ?_
      obtain ⟨m, hm, hmn⟩ := bit_nat w2 hpos
      have hW := hcw _ (List.getElem_mem (by omega : m < cs.length))
      skip
      refine X.ix hc5 (i := m) (by omega) rfl rfl rfl rfl rfl rfl rfl rfl hm fun b1 f1 cs1 hr1 hx1 => ?_
      obtain ⟨ya, yn, yc, rfl, yq⟩ := hx1
      (repeat' (first | refine X.rd rfl rfl ?_))
      refine X.lg 0 hr1 rfl rfl (by first | exact .md | exact .mo | exact .mf) (Ge.refl _) rfl rfl rfl rfl rfl rfl rfl rfl ?_
      (repeat' (first | refine X.bs rfl rfl rfl rfl rfl rfl (by rfl) rfl rfl (by rfl) (by rfl) rfl (fun b => ?_)))
      refine X.ac1 (D := .pair) 0 5 (z := cs[m].pair) hx rfl ⟨_, _, _, rfl, yq⟩ rfl rfl rfl rfl rfl rfl rfl rfl rfl rfl rfl rfl rfl rfl (by show (_ + 1) * 40 ≤ _; omega) (by omega) fun x2 ex2 hx2 => ?_
      have lx2 : x2.xs.length = x.xs.length + 1 := by rw [ex2, List.length_append]; rfl
      have wx2 : ∀ x ∈ x2.xs, WOk fs x := fun x hx => by
        rw [ex2, List.mem_append, List.mem_singleton] at hx
        rcases hx with hx | rfl
        · exact hxw x hx
        · exact hW
      clear ex2
      (repeat' (first | refine J.seq ?_ | refine J.roA rfl ?_ | refine X.ro rfl rfl ?_ | refine X.rd rfl rfl ?_ | refine X.nil1 ⟨by kernel_rfl, ?_⟩ | refine X.st 3 rfl rfl rfl rfl rfl rfl rfl rfl rfl ?_ | refine X.adw rfl rfl rfl rfl rfl rfl ?_ | refine X.muw rfl rfl rfl rfl rfl rfl ?_ | refine X.cv rfl rfl rfl rfl rfl rfl (by kernel_rfl) ?_))
      refine X.shA hc1 rfl rfl rfl rfl rfl rfl fun w => ?_
      skip
      refine X.andk 1 rfl rfl rfl rfl rfl rfl rfl rfl ?_
      (repeat' (first | refine J.roA rfl ?_ | refine J.rdA (by kernel_rfl) rfl ?_ | refine X.ro rfl rfl ?_ | refine X.rd rfl rfl ?_ | refine X.nil0 ?_ | refine J.skip ?_ | refine X.l1 4 rfl rfl rfl rfl rfl rfl rfl rfl rfl ?_ | refine X.ad rfl rfl rfl rfl rfl rfl (by omega) ?_ | refine J.cond_d rfl (fun h => ?_) (fun h => ?_)))
      · skip
        refine X.shA (by decide) rfl rfl rfl rfl rfl rfl fun w2 => ?_
        skip
        refine X.andk 6 rfl rfl rfl rfl rfl rfl rfl rfl ?_
        (repeat' (first | refine X.rd rfl rfl ?_))
        refine X.rew rfl rfl rfl rfl rfl rfl hne ?_
        obtain ⟨m, hm, hmn⟩ := bit_nat w2 hpos
        have hW := hcw _ (List.getElem_mem (by omega : m < cs.length))
        skip
        refine X.ix hc5 (i := m) (by omega) rfl rfl rfl rfl rfl rfl rfl rfl hm fun b1 f1 cs1 hr1 hx1 => ?_
        obtain ⟨ya, yn, yc, rfl, yq⟩ := hx1
        (repeat' (first | refine X.rd rfl rfl ?_))
        refine X.lg 0 hr1 rfl rfl (by first | exact .md | exact .mo | exact .mf) (Ge.refl _) rfl rfl rfl rfl rfl rfl rfl rfl ?_
        (repeat' (first | refine X.bs rfl rfl rfl rfl rfl rfl (by rfl) rfl rfl (by rfl) (by rfl) rfl (fun b => ?_)))
        refine X.ac1 (D := .pair) 1 6 (z := cs[m].pair) hy rfl ⟨_, _, _, rfl, yq⟩ rfl rfl rfl rfl rfl rfl rfl rfl rfl rfl rfl rfl rfl rfl (by show (_ + 1) * 40 ≤ _; omega) (by omega) fun y2 ey2 hy2 => ?_
        have ly2 : y2.xs.length = y.xs.length + 1 := by rw [ey2, List.length_append]; rfl
        have wy2 : ∀ x ∈ y2.xs, WOk fs x := fun x hx => by
          rw [ey2, List.mem_append, List.mem_singleton] at hx
          rcases hx with hx | rfl
          · exact hyw x hx
          · exact hW
        clear ey2
        (repeat' (first | refine J.roA rfl ?_ | refine X.ro rfl rfl ?_ | refine X.rd rfl rfl ?_ | refine X.nil0 ?_ | refine X.nil1 ⟨by kernel_rfl, ?_⟩ | refine X.st 4 rfl rfl rfl rfl rfl rfl rfl rfl rfl ?_ | refine X.ad rfl rfl rfl rfl rfl rfl (by omega) ?_))
        exact ⟨(i + 1, x2, y2), ⟨rfl, rfl, rfl, rfl, rfl, rfl, trivial⟩, Less.app [_, _, _, _, _] _, ⟨hB45, by dsimp only; omega, hx2, hy2, by dsimp only; omega, by dsimp only; omega, wx2, wy2⟩, by dsimp only; omega⟩
      · exact ⟨(i + 1, x2, y), ⟨rfl, rfl, rfl, rfl, rfl, rfl, trivial⟩, Less.app [_, _, _, _, _] _, ⟨hB45, by dsimp only; omega, hx2, hy, by dsimp only; omega, by dsimp only; omega, wx2, hyw⟩, by dsimp only; omega⟩
    · (repeat' (first | refine X.adw rfl rfl rfl rfl rfl rfl ?_ | refine X.muw rfl rfl rfl rfl rfl rfl ?_ | refine X.cv rfl rfl rfl rfl rfl rfl (by kernel_rfl) ?_))
      refine X.shA hc1 rfl rfl rfl rfl rfl rfl fun w => ?_
      skip
      refine X.andk 1 rfl rfl rfl rfl rfl rfl rfl rfl ?_
      (repeat' (first | refine J.roA rfl ?_ | refine J.rdA (by kernel_rfl) rfl ?_ | refine X.ro rfl rfl ?_ | refine X.rd rfl rfl ?_ | refine X.nil0 ?_ | refine J.skip ?_ | refine X.l1 4 rfl rfl rfl rfl rfl rfl rfl rfl rfl ?_ | refine X.ad rfl rfl rfl rfl rfl rfl (by omega) ?_ | refine J.cond_d rfl (fun h => ?_) (fun h => ?_)))
      · skip
        refine X.shA (by decide) rfl rfl rfl rfl rfl rfl fun w2 => ?_
        skip
        refine X.andk 6 rfl rfl rfl rfl rfl rfl rfl rfl ?_
        (repeat' (first | refine X.rd rfl rfl ?_))
        refine X.rew rfl rfl rfl rfl rfl rfl hne ?_
        obtain ⟨m, hm, hmn⟩ := bit_nat w2 hpos
        have hW := hcw _ (List.getElem_mem (by omega : m < cs.length))
        skip
        refine X.ix hc5 (i := m) (by omega) rfl rfl rfl rfl rfl rfl rfl rfl hm fun b1 f1 cs1 hr1 hx1 => ?_
        obtain ⟨ya, yn, yc, rfl, yq⟩ := hx1
        (repeat' (first | refine X.rd rfl rfl ?_))
        refine X.lg 0 hr1 rfl rfl (by first | exact .md | exact .mo | exact .mf) (Ge.refl _) rfl rfl rfl rfl rfl rfl rfl rfl ?_
        (repeat' (first | refine X.bs rfl rfl rfl rfl rfl rfl (by rfl) rfl rfl (by rfl) (by rfl) rfl (fun b => ?_)))
        refine X.ac1 (D := .pair) 1 5 (z := cs[m].pair) hy rfl ⟨_, _, _, rfl, yq⟩ rfl rfl rfl rfl rfl rfl rfl rfl rfl rfl rfl rfl rfl rfl (by show (_ + 1) * 40 ≤ _; omega) (by omega) fun y2 ey2 hy2 => ?_
        have ly2 : y2.xs.length = y.xs.length + 1 := by rw [ey2, List.length_append]; rfl
        have wy2 : ∀ x ∈ y2.xs, WOk fs x := fun x hx => by
          rw [ey2, List.mem_append, List.mem_singleton] at hx
          rcases hx with hx | rfl
          · exact hyw x hx
          · exact hW
        clear ey2
        (repeat' (first | refine J.roA rfl ?_ | refine X.ro rfl rfl ?_ | refine X.rd rfl rfl ?_ | refine X.nil0 ?_ | refine X.nil1 ⟨by kernel_rfl, ?_⟩ | refine X.st 4 rfl rfl rfl rfl rfl rfl rfl rfl rfl ?_ | refine X.ad rfl rfl rfl rfl rfl rfl (by omega) ?_))
        exact ⟨(i + 1, x, y2), ⟨rfl, rfl, rfl, rfl, rfl, rfl, trivial⟩, Less.app [_, _, _, _, _] _, ⟨hB45, by dsimp only; omega, hx, hy2, by dsimp only; omega, by dsimp only; omega, hxw, wy2⟩, by dsimp only; omega⟩
      · exact ⟨(i + 1, x, y), ⟨rfl, rfl, rfl, rfl, rfl, rfl, trivial⟩, Less.app [_, _, _, _, _] _, ⟨hB45, by dsimp only; omega, hx, hy, by dsimp only; omega, by dsimp only; omega, hxw, hyw⟩, by dsimp only; omega⟩
  · refine X.giveAcc (D := .pair) (p := 0) (T := 78) rfl hx fun B6 hB6 hsx => ?_
    refine X.giveAcc (D := .pair) (p := 1) (T := 78) rfl (hy.ge hB6) fun B7 hB7 hsy => ?_
    have hsx7 := hsx.ge hB7
    refine X.call rfl rfl (gV_ok rfl) rfl rfl rfl rfl (en rfl) (compareP_ev (sx := ⟨oa x.ob, x.xs.length, x.xs.length⟩) (sy := ⟨oa y.ob, y.xs.length, y.xs.length⟩) (ox := sox) (oy := soy) (cx := kx) (cy := ky) hsx7 hsy (fun q hq => (hxw q hq).c) (fun q hq => (hyw q hq).c) (by omega) (by omega)) ?_
    rintro v B8 hB8 ⟨r1, r2, u, w, rfl, h1, h2, s1, p1, s2, p2⟩
    (repeat' (first | refine X.la 3 rfl rfl rfl rfl rfl rfl rfl rfl rfl rfl ?_ | refine X.la 4 rfl rfl rfl rfl rfl rfl rfl rfl rfl rfl ?_))
    refine X.call rfl rfl (gV_ok rfl) rfl rfl rfl rfl (en rfl) (compareR_ev (sx := ⟨oa x.ob, x.xs.length, x.xs.length⟩) (sy := ⟨oa y.ob, y.xs.length, y.xs.length⟩) (ox := sox) (oy := soy) (cx := kx) (cy := ky) (hsx7.ge hB8) (hsy.ge hB8) (fun q hq => (hxw q hq).b) (fun q hq => (hyw q hq).b) (by omega) (by omega)) ?_
    rintro v B9 hB9 ⟨t1, t2, o1, o2, rfl, g1, g2, m1, m2⟩
    have e1 := m1.same s1 p1 s2 p2
    have e2 := m2.same s2 p2 s1 p1
    subst e1 e2
    have b1 : ∀ q ∈ wo u w, PairB q := fun q hq => (hxw q (p1.mem_iff.1 ((wo_sub u w).subset hq))).b
    have b2 : ∀ q ∈ wo w u, PairB q := fun q hq => (hyw q (p2.mem_iff.1 ((wo_sub w u).subset hq))).b
    have c1 : (wo u w).length ≤ 1000000000000 := by have := (wo_sub u w).length_le; rw [p1.length_eq] at this; omega
    have c2 : (wo w u).length ≤ 1000000000000 := by have := (wo_sub w u).length_le; rw [p2.length_eq] at this; omega
    (repeat' (first | refine J.seq ?_ | refine J.roA rfl ?_ | refine X.ro rfl rfl ?_ | refine X.nilF ⟨by kernel_rfl, ?_⟩ | refine X.l1 5 rfl rfl rfl rfl rfl rfl rfl rfl rfl ?_ | refine X.l1 6 rfl rfl rfl rfl rfl rfl rfl rfl rfl ?_ | refine X.al rfl rfl rfl rfl rfl rfl rfl fun b => ?_ | refine X.st 5 rfl rfl rfl rfl rfl rfl rfl rfl rfl ?_ | refine X.st 6 rfl rfl rfl rfl rfl rfl rfl rfl rfl ?_))
    refine X.callq rfl rfl (gV_ok rfl) rfl rfl rfl rfl (en rfl) (sameP_ev (h1.ge hB9) g1 b1 c1) ?_
    rintro v rfl
    (repeat' (first | refine X.ro rfl rfl ?_ | refine X.l1 5 rfl rfl rfl rfl rfl rfl rfl rfl rfl ?_ | refine X.l1 6 rfl rfl rfl rfl rfl rfl rfl rfl rfl ?_))
    refine X.callq rfl rfl (gV_ok rfl) rfl rfl rfl rfl (en rfl) (sameP_ev (h2.ge hB9) g2 b2 c2) ?_
    rintro v rfl
    (repeat' (first | refine X.ro rfl rfl ?_))
    refine X.callq rfl rfl (gV_ok rfl) rfl rfl rfl rfl (en rfl) (known_ev) ?_
    rintro v rfl
    (repeat' (first | refine X.ro rfl rfl ?_ | refine X.nil0 ?_ | refine J.ret ?_))
    exact ⟨_, .cons (.tmp rfl) .nil, rfl, fun _ _ _ => rfl⟩
  · refine X.giveAcc (D := .pair) (p := 0) (T := 78) rfl hx fun B6 hB6 hsx => ?_
    refine X.giveAcc (D := .pair) (p := 1) (T := 78) rfl (hy.ge hB6) fun B7 hB7 hsy => ?_
    have hsx7 := hsx.ge hB7
    refine X.call rfl rfl (gV_ok rfl) rfl rfl rfl rfl (en rfl) (compareP_ev (sx := ⟨oa x.ob, x.xs.length, x.xs.length⟩) (sy := ⟨oa y.ob, y.xs.length, y.xs.length⟩) (ox := sox) (oy := soy) (cx := kx) (cy := ky) hsx7 hsy (fun q hq => (hxw q hq).c) (fun q hq => (hyw q hq).c) (by omega) (by omega)) ?_
    rintro v B8 hB8 ⟨r1, r2, u, w, rfl, h1, h2, s1, p1, s2, p2⟩
    (repeat' (first | refine X.la 3 rfl rfl rfl rfl rfl rfl rfl rfl rfl rfl ?_ | refine X.la 4 rfl rfl rfl rfl rfl rfl rfl rfl rfl rfl ?_))
    refine X.call rfl rfl (gV_ok rfl) rfl rfl rfl rfl (en rfl) (compareR_ev (sx := ⟨oa x.ob, x.xs.length, x.xs.length⟩) (sy := ⟨oa y.ob, y.xs.length, y.xs.length⟩) (ox := sox) (oy := soy) (cx := kx) (cy := ky) (hsx7.ge hB8) (hsy.ge hB8) (fun q hq => (hxw q hq).b) (fun q hq => (hyw q hq).b) (by omega) (by omega)) ?_
    rintro v B9 hB9 ⟨t1, t2, o1, o2, rfl, g1, g2, m1, m2⟩
    have e1 := m1.same s1 p1 s2 p2
    have e2 := m2.same s2 p2 s1 p1
    subst e1 e2
    have b1 : ∀ q ∈ wo u w, PairB q := fun q hq => (hxw q (p1.mem_iff.1 ((wo_sub u w).subset hq))).b
    have b2 : ∀ q ∈ wo w u, PairB q := fun q hq => (hyw q (p2.mem_iff.1 ((wo_sub w u).subset hq))).b
    have c1 : (wo u w).length ≤ 1000000000000 := by have := (wo_sub u w).length_le; rw [p1.length_eq] at this; omega
    have c2 : (wo w u).length ≤ 1000000000000 := by have := (wo_sub w u).length_le; rw [p2.length_eq] at this; omega
    (repeat' (first | refine J.seq ?_ | refine J.roA rfl ?_ | refine X.ro rfl rfl ?_ | refine X.nilF ⟨by kernel_rfl, ?_⟩ | refine X.l1 5 rfl rfl rfl rfl rfl rfl rfl rfl rfl ?_ | refine X.l1 6 rfl rfl rfl rfl rfl rfl rfl rfl rfl ?_ | refine X.al rfl rfl rfl rfl rfl rfl rfl fun b => ?_ | refine X.st 5 rfl rfl rfl rfl rfl rfl rfl rfl rfl ?_ | refine X.st 6 rfl rfl rfl rfl rfl rfl rfl rfl rfl ?_))
    refine X.callq rfl rfl (gV_ok rfl) rfl rfl rfl rfl (en rfl) (sameP_ev (h1.ge hB9) g1 b1 c1) ?_
    rintro v rfl
    (repeat' (first | refine X.ro rfl rfl ?_ | refine X.l1 5 rfl rfl rfl rfl rfl rfl rfl rfl rfl ?_ | refine X.l1 6 rfl rfl rfl rfl rfl rfl rfl rfl rfl ?_))
    refine X.callq rfl rfl (gV_ok rfl) rfl rfl rfl rfl (en rfl) (sameP_ev (h2.ge hB9) g2 b2 c2) ?_
    rintro v rfl
    (repeat' (first | refine X.ro rfl rfl ?_))
    refine X.callq rfl rfl (gV_ok rfl) rfl rfl rfl rfl (en rfl) (known_ev) ?_
    rintro v rfl
    (repeat' (first | refine X.ro rfl rfl ?_ | refine X.nil0 ?_ | refine J.ret ?_))
    exact ⟨_, .cons (.tmp rfl) .nil, rfl, fun _ _ _ => rfl⟩
end
end Go.Proofs.YthldmlfpebgojaaGreatDoor
/-
  Arguments of a law come into the evaluator's memory: lists of numbers that are only read.
  No condition.
-/
namespace Go.Proofs.YthldmlfpebgojaaGreatDoor
set_option linter.unusedSimpArgs false
set_option linter.unusedVariables false
open Go.RowKit Go

/-- More of the same memory is known. -/
structure Imp (w : World) (e : Env) (M : Mem) (e' : Env) (M' : Mem) : Prop where
  mr : MR w.heap.size e' M' w
  wf : WfM M'
  ge : Ge M.t M'.t
  up : ∀ b p, e.f b = some p → e'.f b = some p
theorem imp_ints {w : World} {e : Env} {M : Mem} (h : MR w.heap.size e M w) (hwf : WfM M) {A : Option Addr} {n c : Nat} {l : List Int} (hs : Sl (Ty.int .i64) w (all_ w) A n c l) :
    ∃ (e' : Env) (M' : Mem) (s : Slc), Imp w e M e' M' ∧ V3 e' s.v (.slice A n c) ∧ SqS (Dt.int .i64) M'.t s l := by
  obtain ⟨h1, h2, h3, h4⟩ := hs
  subst h1
  rcases Nat.eq_zero_or_pos l.length with h0 | h0
  · have hnil : l = [] := List.length_eq_zero_iff.1 h0
    subst hnil
    cases A with
    | none => exact ⟨e, M, ⟨none, 0, c⟩, ⟨h, hwf, Ge.refl _, fun _ _ h => h⟩, .two (.one (.plain rfl)), Sq.nil none (.inl rfl) c⟩
    | some a => exact ⟨e, M, ⟨some ⟨0, 0, none⟩, 0, c⟩, ⟨h, hwf, Ge.refl _, fun _ _ h => h⟩, .two (.one .slc0), Sq.nil _ (.inr ⟨_, _, rfl⟩) c⟩
  · obtain ⟨g, o, rfl, hg, hc⟩ := h4 h0
    have hnone : e.f M.nx = none := h.len.2 _ (Nat.le_refl _)
    have hfresh : M.t.get M.nx = none := by
      cases hb : M.t.get M.nx with
      | none => rfl
      | some X => exact absurd (hwf _ _ hb) (Nat.lt_irrefl _)
    let cells : List Value := List.replicate o Go.undef ++ l.map (Value.int .i64 ·)
    have hup : ∀ b p, e.f b = some p → (e.put M.nx (g, 0) (M.nx + 1)).f b = some p := fun b p hp => by
      show (if b = M.nx then _ else e.f b) = _
      rw [if_neg fun e2 => by subst e2; rw [hnone] at hp; cases hp]
      exact hp
    have hge : Ge M.t (M.t.set M.nx (some ⟨cells, 3, 0⟩)) := fun b X hb => by
      rw [Tr.set_other _ _ fun e2 => by subst e2; rw [hfresh] at hb; cases hb]
      exact hb
    have split : ∀ b X, (M.t.set M.nx (some ⟨cells, 3, 0⟩)).get b = some X → (b = M.nx ∧ X = ⟨cells, 3, 0⟩) ∨ M.t.get b = some X := fun b X hb => by
      by_cases e2 : M.nx = b
      · subst e2
        rw [Tr.set_self] at hb
        exact .inl ⟨rfl, some_eq hb⟩
      · rw [Tr.set_other _ _ e2] at hb
        exact .inr hb
    refine ⟨e.put M.nx (g, 0) (M.nx + 1), ⟨M.t.set M.nx (some ⟨cells, 3, 0⟩), M.nx + 1⟩, ⟨some ⟨M.nx, o, none⟩, l.length, c⟩, ⟨⟨h.bs, ⟨rfl, fun b hb => ?_⟩, fun b b' d hb => ?_, fun b X hb hz => ?_, fun b X hb hz => ?_, fun b b2 b' b2' d f X Y hb hc2 hz hy => ?_⟩, fun b X hb => ?_, hge, hup⟩, ?_, ?_⟩
    · show (if b = M.nx then _ else e.f b) = _
      have hb : M.nx + 1 ≤ b := hb
      rw [if_neg (by omega)]
      exact h.len.2 b (by omega)
    · have hb : (if b = M.nx then some (g, 0) else e.f b) = some (b', d) := hb
      split at hb
      · have := some_eq hb
        injection this with h5 h6
        subst h5
        exact hg
      · exact h.low b b' d hb
    · rcases split b X hb with ⟨_, rfl⟩ | hb
      · exact absurd hz (by show ¬ 0 < 0; decide)
      · obtain ⟨b', d, cs, sp, g1, g2, g3⟩ := h.blk b X hb hz
        exact ⟨b', d, cs, sp, hup _ _ g1, g2.imp fun _ _ h => h.ext' hup, g3⟩
    · rcases split b X hb with ⟨rfl, rfl⟩ | hb
      · refine ⟨g, 0, if_pos rfl, hg, fun i u hu hok => ?_⟩
        have hu : (List.replicate o Go.undef ++ l.map (Value.int .i64 ·))[i]? = some u := hu
        by_cases hi : i < o
        · rw [List.getElem?_append_left (by simpa using hi), List.getElem?_replicate, if_pos hi] at hu
          obtain rfl := some_eq hu
          cases hok
        · rw [List.getElem?_append_right (by simpa using Nat.le_of_not_lt hi), List.length_replicate, List.getElem?_map] at hu
          cases hx : l[i - o]? with
          | none => rw [hx] at hu; cases hu
          | some x =>
            rw [hx] at hu
            obtain rfl := some_eq hu
            obtain ⟨cs, hcs, hat⟩ := hc (i - o) x hx
            have hcs : cs = [.int .i64 x] := hcs
            subst hcs
            have := hat 0 _ rfl
            refine ⟨_, ?_, .plain rfl⟩
            have e3 : o + (i - o) * 1 + 0 = i := by omega
            rw [show o + (i - o) * (Ty.int .i64).size + 0 = i from e3] at this
            exact this
      · obtain ⟨b', d, g1, g2, g3⟩ := h.ro b X hb hz
        refine ⟨b', d, hup _ _ g1, g2, fun i u hu hok => ?_⟩
        obtain ⟨u', g4, g5⟩ := g3 i u hu hok
        exact ⟨u', g4, g5.ext' hup⟩
    · intro e1 e2 e3
      rcases split b X hb with ⟨_, rfl⟩ | hb
      · exact absurd hz (by show ¬ 0 < 0; decide)
      · rcases split b2 Y hc2 with ⟨_, rfl⟩ | hc2
        · exact absurd hy (by show ¬ 0 < 0; decide)
        · have key : ∀ {b X}, M.t.get b = some X → ∀ p, (e.put M.nx (g, 0) (M.nx + 1)).f b = some p → e.f b = some p := fun {b X} hb p hp => by
            have hp : (if b = M.nx then some (g, 0) else e.f b) = some p := hp
            rwa [if_neg fun e2 => by subst e2; rw [hfresh] at hb; cases hb] at hp
          exact h.inj b b2 b' b2' d f X Y hb hc2 hz hy (key hb _ e1) (key hc2 _ e2) e3
    · rcases split b X hb with ⟨rfl, _⟩ | hb
      · exact Nat.lt_succ_self _
      · exact Nat.lt_succ_of_lt (hwf _ _ hb)
    · have := V1.slc (e := e.put M.nx (g, 0) (M.nx + 1)) (o := o) (n := l.length) (c := c) (d := 0) (b := M.nx) (b' := g) (if_pos rfl)
      exact .two (.one this)
    · refine ⟨rfl, h2, .inr ⟨_, _, rfl⟩, fun _ => ⟨M.nx, o, l.map (.int .i64 ·), rfl, ?_, by rw [List.length_map]; exact (Nat.mul_one _).symm, fun i x hi => ?_⟩⟩
      · show rdT (M.t.set M.nx (some ⟨cells, 3, 0⟩)) M.nx o (l.length * 1) = _
        unfold rdT
        rw [Tr.set_self, Nat.mul_one]
        simp only
        have hcut : cut cells o l.length = some (l.map (Value.int .i64 ·)) := by
          unfold cut
          rw [takeK_eq, dropN_eq]
          have e1 : cells.drop o = l.map (Value.int .i64 ·) := by
            show (List.replicate o Go.undef ++ l.map (Value.int .i64 ·)).drop o = _
            rw [List.drop_append, List.drop_eq_nil_of_le (by simp), List.nil_append]
            simp
          rw [e1, if_pos (by simp)]
          have e2 : (l.map (Value.int .i64 ·)).take l.length = l.map (Value.int .i64 ·) := List.take_of_length_le (by simp)
          rw [e2]
          rfl
        rw [hcut]
        unfold rdK
        simp only
        have hall : (l.map (Value.int .i64 ·)).all ok1 = true := by
          rw [List.all_eq_true]
          intro v hv
          obtain ⟨x, _, rfl⟩ := List.mem_map.1 hv
          rfl
        rw [hall]
        simp
      · show ((l.map (Value.int .i64 ·)).drop (i * 1)).take 1 = [.int .i64 x]
        have hlt := (List.getElem?_eq_some_iff.1 hi).1
        rw [Nat.mul_one, List.drop_eq_getElem_cons (by rw [List.length_map]; exact hlt)]
        simp [(List.getElem?_eq_some_iff.1 hi).2]
end Go.Proofs.YthldmlfpebgojaaGreatDoor
/-
  The law PlansCompare: for every three lists of numbers and every number it returns true, and leaves what stood.
  No condition.
-/
namespace Go.Proofs.YthldmlfpebgojaaGreatDoor
set_option linter.unusedSimpArgs false
set_option linter.unusedVariables false
set_option maxRecDepth 100000
set_option maxHeartbeats 0
open Go.RowKit Go

/-- True is returned, and what stood is as it was. -/
def TruePost (w : World) (e : Ending) (w' : World) : Prop := e = .returned (.bool true) ∧ Below w.heap.size w w'
theorem follows_ok : Tryz.prog.follows .mixedOrders = true := by kernel_rfl
theorem wf_mem0 : WfM mem0 := fun b X h => by simp [mem0, Tr.e_get] at h
theorem Sl.len_le {w : World} {A : Option Addr} {n c : Nat} {l : List Int} (h : Sl (Ty.int .i64) w (all_ w) A n c l) : l.length ≤ 9223372036854775807 := by
  obtain ⟨h1, h2, h3, _⟩ := h
  unfold maxLen at h3
  omega
theorem lawCompare_any (l a b : List Int) (A0 : Option Addr) (n0 c0 : Nat) (A1 : Option Addr) (n1 c1 : Nat) (A2 : Option Addr) (n2 c2 : Nat) (n : Int) (w : World) (h0 : Sl (Ty.int .i64) w (all_ w) A0 n0 c0 l) (h1 : Sl (Ty.int .i64) w (all_ w) A1 n1 c1 a) (h2 : Sl (Ty.int .i64) w (all_ w) A2 n2 c2 b) :
    Calls Tryz.prog 5 #[.slice A0 n0 c0, .slice A1 n1 c1, .slice A2 n2 c2, .int .i64 n] w (TruePost w) := by
  obtain ⟨e1, M1, s0, i1, v0, q0⟩ := imp_ints (MR.start w) wf_mem0 h0
  obtain ⟨e2, M2, s1, i2, v1, q1⟩ := imp_ints i1.mr i1.wf h1
  obtain ⟨e3, M3, s2, i3, v2, q2⟩ := imp_ints i2.mr i2.wf h2
  obtain ⟨v, M4, ho, hge, hv⟩ := planCompare_ev (B := M3.t) n (Sq.ge (Sq.ge q0 i2.ge) i3.ge) (Sq.ge q1 i3.ge) q2 h0.len_le h1.len_le h2.len_le M3.nx i3.wf
  subst hv
  have hc := orc_ok follows_ok cls_ok w.heap.size _ _ ⟨M3.t, M3.nx⟩ _ _ ho e3 w [.slice A0 n0 c0, .slice A1 n1 c1, .slice A2 n2 c2, .int .i64 n]
    (.cons (v0.ext' fun b p h => i3.up _ _ (i2.up _ _ h)) (.cons (v1.ext' i3.up) (.cons v2 (.cons (.two (.one (.plain rfl))) .nil)))) i3.mr
  refine hc.mono fun e w' ⟨v', e', he, _, hv', _, hb⟩ => ⟨?_, hb⟩
  rw [he, V3.bool hv']
end Go.Proofs.YthldmlfpebgojaaGreatDoor
/-
  How an argument's reading gives a descriptor's datum: for integers, bools, strings, slices and structs, at any depth.
  No condition.
-/
namespace Go.Proofs.YthldmlfpebgojaaGreatDoor
set_option linter.unusedSimpArgs false
set_option linter.unusedVariables false
open Go.ChangeShapes Go.WideShapes Go.ChangeAt Go.RowKit Go.Deep

/-- Whatever is read at the type t is a datum of T. -/
def Fits {α : Type} (P : Program) (t : TypeId) (T : Ty α) : Prop :=
  P.cellsOf t = T.size ∧ ∀ {H : Type} (enc : TypeId × Value → H) (w : World) (spare : Nat → Bool) (held : Bool) (fuel : Nat) (cs : List Value) (x : DataW H × List MemPlace),
    DataW.trod enc P w 0 spare held fuel t cs = some x → (∀ p ∈ x.2, p.block < w.heap.size) → ∃ d : α, T.rep w (all_ w) cs d ∧ T.ok d

theorem fits_int {P : Program} {t : TypeId} {k : IntKind} (ht : P.underlying t = some (.int k)) (hc : P.cellsOf t = 1) : Fits P t (Ty.int k) := by
  refine ⟨hc, fun enc w spare held fuel cs x h _ => ?_⟩
  obtain ⟨n, rfl, _, hw⟩ := DataW.trod_int ht h
  simp only [Lit.wf, Bool.and_eq_true, decide_eq_true_eq] at hw
  exact ⟨n, rfl, hw⟩
theorem fits_bool {P : Program} {t : TypeId} (ht : P.underlying t = some .bool) (hc : P.cellsOf t = 1) : Fits P t Ty.bool := by
  refine ⟨hc, fun enc w spare held fuel cs x h _ => ?_⟩
  obtain ⟨b, rfl, _⟩ := DataW.trod_bool ht h
  exact ⟨b, rfl, trivial⟩
theorem fits_str {P : Program} {t : TypeId} (ht : P.underlying t = some .string) (hc : P.cellsOf t = 1) : Fits P t Ty.str := by
  refine ⟨hc, fun enc w spare held fuel cs x h _ => ?_⟩
  obtain ⟨s, rfl, _, hs⟩ := DataW.trod_string ht h
  exact ⟨s, rfl, hs⟩
theorem choose_list {α : Type} (R : Nat → α → Prop) : ∀ n, (∀ i, i < n → ∃ x, R i x) → ∃ l : List α, l.length = n ∧ ∀ i x, l[i]? = some x → R i x
  | 0, _ => ⟨[], rfl, fun i x h => by simp at h⟩
  | n + 1, h => by
    obtain ⟨l, hl, hr⟩ := choose_list R n fun i hi => h i (by omega)
    obtain ⟨x, hx⟩ := h n (by omega)
    refine ⟨l ++ [x], by simp [hl], fun i y hi => ?_⟩
    rcases Nat.lt_trichotomy i n with h1 | h1 | h1
    · rw [List.getElem?_append_left (by omega)] at hi
      exact hr i y hi
    · subst h1
      rw [List.getElem?_append_right (by omega), hl] at hi
      simp at hi
      subst hi
      exact hx
    · rw [List.getElem?_append_right (by omega), hl] at hi
      have : i - n ≠ 0 := by omega
      rw [List.getElem?_eq_none (by simp; omega)] at hi
      cases hi
theorem fits_slice {α : Type} {P : Program} {t e : TypeId} {T : Ty α} (ht : P.underlying t = some (.slice e)) (hc : P.cellsOf t = 1) (he : Fits P e T) : Fits P t (Ty.slice T) := by
  refine ⟨hc, fun enc w spare held fuel cs x h hlt => ?_⟩
  rcases open_slice ht h with ⟨rfl, _⟩ | ⟨a, len, cap, m, n, D, Pl, rfl, _, hl, hm, hmm, rfl, hi⟩
  · exact ⟨[], ⟨none, 0, 0, rfl, Sl.nil0⟩, fun x hx => by cases hx⟩
  · have hml : len ≤ m := by rw [hmm]; split <;> omega
    have key : ∀ i, i < len → ∃ d : α, (∃ cs', T.rep w (all_ w) cs' d ∧ ∀ j u, cs'[j]? = some u → w.cell? (a.add (i * T.size + j)) = some u) ∧ T.ok d := by
      intro i hil
      obtain ⟨cs', h1, h2⟩ := hi i (by omega)
      obtain ⟨d, hd, ho⟩ := he.2 enc w spare held n cs' _ h2 fun p hp => hlt p (by
        rw [List.mem_append]
        exact .inr (List.mem_flatMap.2 ⟨i, List.mem_range.2 (by omega), hp⟩))
      refine ⟨d, ⟨cs', hd, fun j u hu => ?_⟩, ho⟩
      obtain ⟨_, hcl, hat⟩ := World.cells?_some h1
      have hj : j < cs'.length := (List.getElem?_eq_some_iff.1 hu).1
      rw [← Go.Deep.add_add, ← he.1, hat j (by omega), hu]
    obtain ⟨l, hll, hlr⟩ := choose_list _ len key
    refine ⟨l, ⟨some a, len, cap, rfl, hll.symm, hl, hm, fun hpos => ?_⟩, fun y hy => ?_⟩
    · have h0 := hlr 0 l[0] (List.getElem?_eq_getElem (by omega))
      obtain ⟨⟨cs0, hr0, hc0⟩, _⟩ := h0
      have hl0 := T.len hr0
      have hp := T.pos
      obtain ⟨b, off, spot⟩ := a
      have hspot : spot = none := by
        have := hc0 0 cs0[0] (List.getElem?_eq_getElem (by omega))
        simpa [Addr.add] using World.cell?_spot this
      subst hspot
      have hrow : (0 : Nat) < m * P.cellsOf e := Nat.mul_pos (by omega) (by rw [he.1]; exact hp)
      have hb : b < w.heap.size := by
        have hcell := hc0 0 cs0[0] (List.getElem?_eq_getElem (by omega))
        have := World.block_lt_of_cell? w _ hcell
        rw [addr_add] at this
        exact this
      refine ⟨b, off, rfl, hb, fun i x hx => ?_⟩
      obtain ⟨⟨cs', hr, hcc⟩, _⟩ := hlr i x hx
      refine ⟨cs', hr, fun j u hu => ?_⟩
      have := hcc j u hu
      rw [addr_add] at this
      rw [Nat.add_assoc]
      exact this
    · obtain ⟨i, hi', rfl⟩ := List.getElem_of_mem hy
      exact (hlr i _ (List.getElem?_eq_getElem hi')).2

/-- An argument's datum. -/
theorem open_fits {α : Type} {P : Program} {t : TypeId} {T : Ty α} (hf : Fits P t T) {H : Type} {enc : TypeId × Value → H} {w : World} {spare : Nat → Bool} {held : Bool} {v : Value} {d : DataW H} {p : List MemPlace}
    (h : DataW.Trod enc P w 0 spare held t v d p) (hlt : ∀ x ∈ p, x.block < w.heap.size) : ∃ y : α, T.rep w (all_ w) v.cells.toList y ∧ T.ok y := by
  obtain ⟨fuel, hfu⟩ := h
  exact hf.2 enc w spare held fuel _ _ hfu hlt
theorem open_fits_slice {α : Type} {P : Program} {t e : TypeId} {T : Ty α} (ht : P.underlying t = some (.slice e)) (hc : P.cellsOf t = 1) (hf : Fits P e T) {H : Type} {enc : TypeId × Value → H} {w : World} {base : Nat} {spare : Nat → Bool} {held : Bool} {v : Value} {d : DataW H} {p : List MemPlace}
    (hv : Value.okWide P w .any base t v) (h : DataW.Trod enc P w 0 spare held t v d p) (hlt : ∀ x ∈ p, x.block < w.heap.size) : ∃ A n c l, v = .slice A n c ∧ Sl T w (all_ w) A n c l ∧ ∀ x ∈ l, T.ok x := by
  obtain ⟨a0, len, cap, rfl⟩ := okWide_slice ht hv
  obtain ⟨l, ⟨A, n, c, e1, hs⟩, ho⟩ := open_fits (fits_slice ht hc hf) h hlt
  simp only [Value.cells, List.cons.injEq, Value.slice.injEq, and_true] at e1
  obtain ⟨rfl, rfl, rfl⟩ := e1
  exact ⟨_, _, _, l, rfl, hs, ho⟩
end Go.Proofs.YthldmlfpebgojaaGreatDoor
/-
  How an argument's reading gives a list of numbers.
  No condition.
-/
namespace Go.Proofs.YthldmlfpebgojaaGreatDoor
open Go.ChangeShapes Go.WideShapes Go.ChangeAt Go.RowKit Go.Deep

theorem fits_i64 : Fits Tryz.prog 3 (Ty.int .i64) := fits_int Tryz.underlying3 (by kernel_rfl)
end Go.Proofs.YthldmlfpebgojaaGreatDoor
/-
  The card of PlansCompare: for every three lists of ints and every int the law returns true, and the arguments read as before. No condition.
-/
namespace Go.Proofs.YthldmlfpebgojaaGreatDoor.plansCompare
set_option linter.unusedSimpArgs false
set_option linter.unusedVariables false
open Go.ChangeShapes Go.WideShapes Go.ChangeAt Go.RowKit
open Go.ChangeMaps (open_string shut_string)
theorem reads_all : (Tryz.f5.params.toList.all fun t => Tryz.prog.readableRec t && decide (t < Tryz.prog.types.size)) = true := by kernel_rfl
theorem reads_ok : ∀ t ∈ Tryz.f5.params.toList, Tryz.prog.readableRec t = true := fun t ht => by
  have h := List.all_eq_true.1 reads_all t ht
  rw [Bool.and_eq_true] at h
  exact h.1
theorem reads_lt : ∀ t ∈ Tryz.f5.params.toList, t < Tryz.prog.types.size := fun t ht => by
  have h := List.all_eq_true.1 reads_all t ht
  rw [Bool.and_eq_true] at h
  exact of_decide_eq_true h.2
set_option maxRecDepth 100000 in
theorem contract (H : Type) (enc : TypeId × Value → H) (W : World) (base : Nat) (args : Array Value) (ds gs : List (DataW H)) (before : List MemPlace)
    (hval : ∀ (j : Nat) t v, Tryz.f5.params[j]? = some t → args[j]? = some v → Value.okWide Tryz.prog W .any base t v)
    (hW : DataW.Whole enc Tryz.prog Tryz.f5.params.toList Rows.plansCompareSpec.vars false W args.toList ds gs before) (hL : laidMetH Tryz.prog Rows.plansCompareRow.laid W) (hsh : W.ShapedOpen Tryz.prog)
    (hreach : (DataW.weightsEach Tryz.prog (Tryz.f5.params.toList ++ (OpenSpec.ofChange Rows.plansCompareSpec).bare.plain.varTypes Tryz.prog) (ds ++ gs)).all (· ≤ reachBytes) = true) :
    Calls Tryz.prog 5 args W fun e W' => ∃ v, e = .returned v ∧ Rows.plansCompareSpec.post enc Tryz.prog Tryz.f5 false true false false W args v W' := by
  have hW' := hW
  obtain ⟨p, q, hA0, hV, rfl, hfz, hnd⟩ := hW
  have hA : DataW.TrodAll enc Tryz.prog W 0 (fun _ => true) true Tryz.f5.params.toList args.toList ds p := hA0
  rw [Tryz.params5] at hA hval
  obtain ⟨v0, vs0, d0, ds0, p0, q0, hargs, rfl, rfl, h0, r0⟩ := trodAll_cons hA
  obtain ⟨v1, vs1, d1, ds1, p1, q1, rfl, rfl, rfl, h1, r1⟩ := trodAll_cons r0
  obtain ⟨v2, vs2, d2, ds2, p2, q2, rfl, rfl, rfl, h2, r2⟩ := trodAll_cons r1
  obtain ⟨v3, vs3, d3, ds3, p3, q3, rfl, rfl, rfl, h3, r3⟩ := trodAll_cons r2
  obtain ⟨rfl, rfl, rfl⟩ := trodAll_nil r3
  obtain rfl : args = #[v0, v1, v2, v3] := by cases args; simp_all
  obtain ⟨rfl, rfl⟩ := trodVars_none hV
  have hlt0 : ∀ x ∈ p0, x.block < W.heap.size := fun x hx => hW'.lt x (by simp [hx])
  obtain ⟨A0, n0, c0, l0, rfl, s0, _⟩ := open_fits_slice Tryz.underlying22 (by kernel_rfl) fits_i64 (hval 0 22 v0 rfl rfl) h0 hlt0
  have hlt1 : ∀ x ∈ p1, x.block < W.heap.size := fun x hx => hW'.lt x (by simp [hx])
  obtain ⟨A1, n1, c1, l1, rfl, s1, _⟩ := open_fits_slice Tryz.underlying22 (by kernel_rfl) fits_i64 (hval 1 22 v1 rfl rfl) h1 hlt1
  have hlt2 : ∀ x ∈ p2, x.block < W.heap.size := fun x hx => hW'.lt x (by simp [hx])
  obtain ⟨A2, n2, c2, l2, rfl, s2, _⟩ := open_fits_slice Tryz.underlying22 (by kernel_rfl) fits_i64 (hval 2 22 v2 rfl rfl) h2 hlt2
  obtain ⟨a3, rfl, rfl, rfl, wf3⟩ := open_int Tryz.underlying3 (hval 3 3 v3 rfl rfl) h3
  refine (lawCompare_any l0 l1 l2 A0 n0 c0 A1 n1 c1 A2 n2 c2 a3 W s0 s1 s2).mono fun e W' ⟨he, hb⟩ => ?_
  subst he
  exact ⟨_, rfl, law_post laidOut_true Tryz.underlying4 rfl rfl (fun t ht => ⟨by revert t; exact reads_ok, by revert t; exact reads_lt⟩) ⟨rfl, rfl, rfl⟩ hW' hb⟩
theorem reads (os : Os) {H : Type} (enc : TypeId × Value → H) : ∃ places, DataW.whole enc Tryz.prog ((World.laidAll Tryz.prog os Rows.plansCompareRow.laid).forCall (fun _ _ => 0) ⟨#[], #[.slice none 0 0, .slice none 0 0, .slice none 0 0, .int .i64 0], []⟩).memory Tryz.f5.params.toList Rows.plansCompareSpec.vars false (#[.slice none 0 0, .slice none 0 0, .slice none 0 0, .int .i64 0] : Array Value).toList 8 = some ([.nil, .nil, .nil, .lit (.int .i64 0)], [], places) :=
  ⟨[], by kernel_rfl⟩
theorem laid_met (os : Os) : laidMetH Tryz.prog Rows.plansCompareRow.laid ((World.laidAll Tryz.prog os Rows.plansCompareRow.laid).forCall (fun _ _ => 0) ⟨#[], #[.slice none 0 0, .slice none 0 0, .slice none 0 0, .int .i64 0], []⟩).memory := by
  rw [MakeChecks.laidMetH_plain _ _ _ (by kernel_rfl)]
  exact laidMet_laidAll _ (by kernel_rfl) (by kernel_rfl)
set_option maxRecDepth 100000 in
theorem lifted (os : Os) (started : os.Started) (H : Type) (enc : TypeId × Value → H) (F : Stop.Interp) :
    ReturnsInHanded {} Tryz.checked os 5 .any ((OpenSpec.ofChange Rows.plansCompareSpec).preRow enc Tryz.prog Tryz.f5 Rows.plansCompareRow.domain false Rows.plansCompareRow.laid) (((OpenSpec.ofChange Rows.plansCompareSpec).at F).post enc Tryz.prog Tryz.f5 false true false false) := by
  obtain ⟨places, hx⟩ := reads os enc
  refine returnsInHanded_of_row (C := Tryz.checked) (s := OpenSpec.ofChange Rows.plansCompareSpec) ownKnob_none started (by kernel_rfl) Tryz.func5
    (witness_row_shaped (enc := enc) (C := Tryz.checked) false (World.laidAll Tryz.prog os Rows.plansCompareRow.laid) #[.slice none 0 0, .slice none 0 0, .slice none 0 0, .int .i64 0] (World.laidAll_os _ _ _) (World.shaped_of_ZipB (by kernel_rfl) (by kernel_rfl)) (by kernel_rfl)
      (OpenSpec.preRow_of_cond 8 hx (by kernel_rfl) (fun k hk => by cases hk) (by kernel_rfl) (laid_met os))) ?_
  intro W base args ds gs before hval hW _ hcond hreach hL hsh _
  exact contract H enc W base args ds gs before hval hW hL hsh hreach
set_option maxHeartbeats 0 in
theorem closed_ok : joinedFacts Tryz.pinned.checked.prog 5 Tryz.f5 (OpenSpec.ofChange Rows.plansCompareSpec).bare Rows.plansCompareRow = true := by
  unfold joinedFacts
  simp only [Bool.and_eq_true]
  repeat' apply And.intro
  all_goals (as_aux_lemma => kernel_rfl)
theorem said : Rows.PlansCompareSaid :=
  OpenClaim.holds_of_cond 5 Tryz.f5 rfl rfl rfl rfl rfl rfl rfl ⟨rfl, rfl, rfl, rfl, rfl⟩ rfl rfl rfl rfl rfl (by as_aux_lemma => kernel_rfl) Tryz.func5 closed_ok
    (of_decide_eq_true (by as_aux_lemma => kernel_rfl)) (by unfold Func.isWrapper; first | (rw [if_pos (by decide +kernel)]; kernel_rfl) | (rw [if_neg (by decide +kernel)]; exact ⟨rfl, rfl⟩))
    (fun os started H enc _ F => by rw [OpenClaim.pre_eq_preRow]; exact lifted os started H enc F)
theorem plain (f : FuncId) (fn : Func) (hf : Tryz.pinned.checked.prog.funcNamed Rows.plansCompareRow.func = some f) (hfn : Tryz.pinned.checked.prog.funcs[f]? = some fn) :
    false = Tryz.pinned.checked.prog.looks [] ∧ ∀ (j : Nat) t, fn.params[j]? = some t → Tryz.pinned.checked.prog.wantsStandIn t = false := by
  obtain rfl : f = 5 := Option.some.inj ((show Tryz.prog.funcNamed Rows.plansCompareRow.func = some 5 by kernel_rfl).symm.trans hf) |>.symm
  obtain rfl : fn = Tryz.f5 := (Option.some.inj (Tryz.func5.symm.trans hfn)).symm
  refine ⟨by kernel_rfl, fun j t ht => ?_⟩
  have hall : (Tryz.f5.params.toList.all fun u => !Tryz.prog.wantsStandIn u) = true := by kernel_rfl
  have hm : t ∈ Tryz.f5.params.toList := by simpa using Array.mem_of_getElem? ht
  have h := List.all_eq_true.1 hall t hm
  exact (show Tryz.prog.wantsStandIn t = false by simpa using h)
theorem card : Rows.PlansCompareCardSaid :=
  Claim7.holds_tied_plain_at .later [] _ _ _ _ said (fun _ h => by cases h) (by as_aux_lemma => kernel_rfl) (fun _ h => by cases h) plansCompare_row_tie rfl ⟨rfl, rfl⟩ (by as_aux_lemma => kernel_rfl) rfl plain (by as_aux_lemma => kernel_rfl)
end Go.Proofs.YthldmlfpebgojaaGreatDoor.plansCompare
