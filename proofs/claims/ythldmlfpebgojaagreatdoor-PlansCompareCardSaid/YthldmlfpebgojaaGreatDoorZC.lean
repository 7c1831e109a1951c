/-
  Joined texts: R39; QOB; R43; R42; R30; R44; QOC; QOD; R37; R31; R32; R41; R40; QOE. What each proves stands ahead of it, with its conditions.
-/
import Derived.Test.YthldmlfpebgojaaGreatDoorZB
import Derived.Test.YthldmlfpebgojaaGreatDoorR07
import Derived.Test.YthldmlfpebgojaaGreatDoorZA
/-
  Contracts: sorted copies of pairings; what is in one list more often than in another; the difference of two plans (the program).
  Condition: at most twelve pairings, with duties that are not empty.
-/
namespace Go.Proofs.YthldmlfpebgojaaGreatDoor
set_option linter.unusedSimpArgs false
set_option linter.unusedVariables false
set_option maxRecDepth 100000
set_option maxHeartbeats 0
open Go.RowKit Go

abbrev planV (s o : Slc) (c : Int) : Value := .agg #[s.v, o.v, .int .i64 c]
theorem wo_step {x : Pair} {a b : List Pair} {j : Nat} (hj : j < b.length) (h : cmpP b[j] x < 0) : wo (x :: a) (b.drop j) = wo (x :: a) (b.drop (j + 1)) := by
  rw [List.drop_eq_getElem_cons hj]
  conv => lhs; unfold wo
  conv => rhs; unfold wo
  rw [List.dropWhile_cons]
  simp only [h, decide_true, if_true]
theorem wo_end {x : Pair} {a b : List Pair} {j : Nat} (hj : b.length ≤ j) : wo (x :: a) (b.drop j) = x :: wo a (b.drop j) := by
  rw [List.drop_eq_nil_of_le hj]
  rfl
theorem wo_eq {x : Pair} {a b : List Pair} {j : Nat} (hj : j < b.length) (h : cmpP b[j] x = 0) : wo (x :: a) (b.drop j) = wo a (b.drop (j + 1)) := by
  rw [List.drop_eq_getElem_cons hj]
  conv => lhs; unfold wo
  rw [List.dropWhile_cons, if_neg (by rw [h]; decide)]
  exact if_pos h
theorem wo_gt {x : Pair} {a b : List Pair} {j : Nat} (hj : j < b.length) (h : ¬ cmpP b[j] x < 0) (h0 : ¬ cmpP b[j] x = 0) : wo (x :: a) (b.drop j) = x :: wo a (b.drop j) := by
  rw [List.drop_eq_getElem_cons hj]
  conv => lhs; unfold wo
  rw [List.dropWhile_cons, if_neg (by rw [decide_eq_true_eq]; exact h)]
  exact if_neg h0
theorem wo_nil (b : List Pair) : wo [] b = [] := by unfold wo; rfl
-- KEEP 6
section
variable {B : St}
theorem ins0_ev (w : Value) (hw : flatV w = true) : EvP Tryz.prog 191 [w, .int .i64 0, .int .i64 0, cmpF] B fun v B1 => v = .tuple #[] := by
  refine EvP.go Tryz.func191 rfl Tryz.ntmps191 Tryz.results191 rfl [] rfl ?_
  (repeat' (first | refine J.seq ?_ | refine J.block ?_ | refine J.roA rfl ?_ | refine X.ro rfl rfl ?_ | refine X.nil0 ?_ | refine X.ad rfl rfl rfl rfl rfl rfl (by omega) ?_))
  refine J.loop (σ := Unit) (fun _ => [(2, .int .i64 0), (8, .int .i64 1)]) (fun _ => []) (fun B1 _ => B1 = B) (fun _ => 0) () rfl ⟨rfl, rfl, trivial⟩ (fun _ _ _ h => by cases h) ?_
  rintro _ B1 hB rfl
  (repeat' (first | refine J.seq ?_ | refine J.roA rfl ?_ | refine X.ro rfl rfl ?_ | refine X.nil0 ?_ | refine J.exit ?_ | refine J.cond_f rfl ?_))
  exact ⟨_, .nil, rfl, fun _ _ _ => rfl⟩
theorem st0_ev (w : Value) (hw : flatV w = true) : EvP Tryz.prog 128 [w, .int .i64 0, cmpF] B fun v B1 => v = .tuple #[] := by
  refine EvP.go Tryz.func128 rfl Tryz.ntmps128 Tryz.results128 rfl [] rfl ?_
  (repeat' (first | refine J.seq ?_ | refine J.block ?_ | refine J.roA rfl ?_ | refine X.ro rfl rfl ?_ | refine X.nil0 ?_))
  refine J.loop (σ := Unit) (fun _ => [(0, w), (1, .int .i64 0), (2, cmpF), (6, .int .i64 20), (7, .int .i64 0), (8, .int .i64 20)]) (fun _ => []) (fun B1 _ => B1 = B) (fun _ => 0) () rfl ⟨rfl, rfl, rfl, rfl, rfl, rfl, trivial⟩ (fun _ _ _ h => by cases h) ?_
  rintro _ B1 hB rfl
  (repeat' (first | refine J.seq ?_ | refine J.roA rfl ?_ | refine X.ro rfl rfl ?_ | refine X.nil0 ?_ | refine J.exit ?_ | refine J.cond_f rfl ?_))
  refine X.callq rfl rfl (gV_ok rfl) rfl rfl rfl rfl (en rfl) (ins0_ev w hw) ?_
  rintro v rfl
  (repeat' (first | refine J.block ?_ | refine X.nil0 ?_))
  refine J.loop (σ := Unit) (fun _ => [(1, .int .i64 0), (6, .int .i64 20)]) (fun _ => []) (fun B2 _ => B2 = B1) (fun _ => 0) () rfl ⟨rfl, rfl, trivial⟩ (fun _ _ _ h => by cases h) ?_
  rintro _ B2 hB rfl
  (repeat' (first | refine J.seq ?_ | refine J.roA rfl ?_ | refine X.ro rfl rfl ?_ | refine X.nil0 ?_ | refine J.exit ?_ | refine J.cond_f rfl ?_))
  exact ⟨_, .nil, rfl, fun _ _ _ => rfl⟩
theorem sort0_ev (b : Nat) : EvP Tryz.prog 74 [.slice (some ⟨b, 0, none⟩) 0 0, cmpF] B fun v B1 => v = .tuple #[] := by
  refine EvP.go Tryz.func74 rfl Tryz.ntmps74 Tryz.results74 rfl [] rfl ?_
  (repeat' (first | refine J.roA rfl ?_ | refine X.ro rfl rfl ?_))
  refine X.callq rfl rfl (gV_ok rfl) rfl rfl rfl rfl (en rfl) (st0_ev _ rfl) ?_
  rintro v rfl
  (repeat' (first | refine X.nil0 ?_))
  exact ⟨_, .nil, rfl, fun _ _ _ => rfl⟩
theorem sorted_ev {s : Slc} {l : List Pair} (hs : SqS .pair B s l) (hw : ∀ x ∈ l, PairC x) (hl : l.length ≤ 12) : EvP Tryz.prog 34 [s.v] B fun v B1 => ∃ (r : Slc) (l' : List Pair), v = r.v ∧ SqS .pair B1 r l' ∧ l'.Perm l ∧ Srt l' := by
  have hn := hs.len
  rcases Nat.eq_zero_or_pos l.length with h0 | h0
  · have hnil : l = [] := List.length_eq_zero_iff.1 h0
    subst hnil
    obtain ⟨A, n, c⟩ := s
    have hn : n = 0 := hn
    subst hn
    refine EvP.go Tryz.func34 rfl Tryz.ntmps34 Tryz.results34 rfl [] rfl ?_
    (repeat' (first | refine J.seq ?_ | refine J.roA rfl ?_ | refine X.ro rfl rfl ?_ | refine X.nil0 ?_))
    refine X.make (n := 0) rfl (gV_ok rfl) rfl rfl (ap rfl) (zr rfl) rfl (by decide) rfl rfl (by decide) (by decide) rfl (mk rfl) fun b => ?_
    (repeat' (first | refine J.seq ?_ | refine J.block ?_ | refine J.roA rfl ?_ | refine X.ro rfl rfl ?_ | refine X.nil0 ?_))
    refine J.loop (σ := Unit) (fun _ => [(3, .slice (some ⟨b, 0, none⟩) 0 0), (10, .int .i64 0), (11, .int .i64 0)]) (fun _ => []) (fun B1 _ => B1 = B) (fun _ => 0) () rfl ⟨rfl, rfl, rfl, trivial⟩ (fun _ _ _ h => by cases h) ?_
    rintro _ B1 hB rfl
    (repeat' (first | refine J.seq ?_ | refine J.roA rfl ?_ | refine X.ro rfl rfl ?_ | refine X.nil0 ?_ | refine J.exit ?_ | refine J.cond_f rfl ?_))
    · refine X.callq rfl rfl (gV_ok rfl) rfl rfl rfl rfl (en rfl) (sort0_ev _) ?_
      rintro v rfl
      (repeat' (first | refine J.seq ?_ | refine J.roA rfl ?_ | refine X.ro rfl rfl ?_ | refine X.nil0 ?_ | refine J.ret ?_))
      exact ⟨_, .cons (.tmp rfl) .nil, rfl, fun _ _ _ => ⟨⟨some ⟨b, 0, none⟩, 0, 0⟩, [], rfl, Sq.nil _ (.inr ⟨_, _, rfl⟩) 0, .refl _, .nil⟩⟩
  refine EvP.go Tryz.func34 rfl Tryz.ntmps34 Tryz.results34 rfl [] rfl ?_
  (repeat' (first | refine J.seq ?_ | refine J.roA rfl ?_ | refine X.ro rfl rfl ?_ | refine X.nil0 ?_))
  refine X.mkA (D := .pair) (z0 := ⟨⟨#[]⟩, []⟩) (fun B => ⟨none, 0, 0, rfl, Sq.nil0⟩) rfl rfl rfl rfl rfl rfl rfl rfl rfl rfl rfl rfl (by omega) (by show _ * 2 ≤ _; omega) rfl (by omega) fun a0 e0 ha0 hb0 => ?_
  obtain ⟨qb, hqb⟩ := hb0
  have l0 : a0.xs.length = l.length := by rw [e0, List.length_replicate, hn]
  (repeat' (first | refine J.seq ?_ | refine J.block ?_ | refine J.roA rfl ?_ | refine X.ro rfl rfl ?_ | refine X.nil0 ?_))
  refine J.loop (σ := Nat × Acc Pair) (fun q => [(3, a0.v), (9, s.v), (10, .int .i64 (s.n : Int)), (11, .int .i64 (q.1 : Int))]) (fun q => [q.2.e 78 2])
    (fun B1 q => Ge B B1 ∧ q.1 ≤ l.length ∧ q.2.ob = a0.ob ∧ q.2.Ok .pair B1 ∧ q.2.xs.length = l.length ∧ ∀ k, k < q.1 → q.2.xs[k]? = l[k]?) (fun q => l.length - q.1) (0, a0) ⟨Ge.refl _, Nat.zero_le _, rfl, ha0, l0, fun k h => absurd h (by dsimp only; omega)⟩ ⟨rfl, rfl, rfl, rfl, trivial⟩ (fun _ _ _ h => h) ?_
  rintro ⟨i, a⟩ B1 hB ⟨hB1, hi, hob, ha, hal, hk⟩
  dsimp only at hi hob ha hal hk ⊢
  have hab := hob.trans hqb
  have hs1 := hs.ge hB1
  (repeat' (first | refine J.seq ?_ | refine J.block ?_ | refine J.roA rfl ?_ | refine X.ro rfl rfl ?_ | refine X.nil0 ?_ | refine J.skip ?_ | refine J.exit ?_ | refine J.cond_d rfl (fun h => ?_) (fun h => ?_)))
  · have hi2 : i < l.length := by omega
    (refine X.ix hs1 (i := i) (by omega) rfl rfl rfl rfl rfl rfl rfl rfl (by first | rfl | omega) fun b1 f1 cs1 hr1 hx1 => ?_); obtain ⟨ya, yn, yc, rfl, yq⟩ := hx1; (skip); (refine X.lg 0 hr1 rfl rfl (by first | exact .md | exact .mo | exact .mf) (Ge.refl _) rfl rfl rfl rfl rfl rfl rfl rfl ?_); ((repeat' (first | refine J.roA rfl ?_ | refine X.ro rfl rfl ?_ | refine X.nil0 ?_ | refine X.la 1 rfl rfl rfl rfl rfl rfl rfl rfl rfl rfl ?_ | refine X.al rfl rfl rfl rfl rfl rfl rfl fun b => ?_ | refine X.st 1 rfl rfl rfl rfl rfl rfl rfl rfl rfl ?_)))
    refine X.call rfl rfl (gV_ok rfl) rfl rfl rfl rfl (en rfl) (copyPairing_ev (x := l[i]) (s := ⟨ya, yn, yc⟩) yq (hw _ (List.getElem_mem hi2))) ?_
    rintro v B2 hB2 ⟨r, rfl, hr⟩
    skip
    (refine X.ixo ha0.ob (i := i) (by omega) rfl rfl rfl rfl rfl rfl rfl (by first | rfl | omega) fun b1 hb1 => ?_); obtain rfl := some_eq (hqb.symm.trans hb1); (skip)
    refine X.acs (D := .pair) (z := l[i]) 0 (ha.ge hB2) (i := i) (by omega) rfl hab ⟨_, _, _, rfl, hr⟩ rfl rfl rfl rfl rfl rfl rfl rfl rfl fun u e o k => ?_
    (repeat' (first | refine J.roA rfl ?_ | refine X.ro rfl rfl ?_ | refine X.nil0 ?_ | refine X.ad rfl rfl rfl rfl rfl rfl (by omega) ?_))
    refine ⟨(i + 1, u), ⟨rfl, rfl, rfl, rfl, trivial⟩, Less.app [_] _, ⟨hB1.trans hB2, by dsimp only; omega, o.trans hob, k, by dsimp only; rw [e, List.length_set]; exact hal, fun j hj => ?_⟩, by dsimp only; omega⟩
    dsimp only at hj ⊢
    rw [e]
    by_cases e2 : i = j
    · subst e2
      rw [List.getElem?_set_self (by omega), List.getElem?_eq_getElem hi2]
    · rw [List.getElem?_set_ne e2]
      exact hk j (by omega)
  · have e3 : a.xs = l := List.ext_getElem? fun j => by
      by_cases hj : j < l.length
      · exact hk j (by omega)
      · rw [List.getElem?_eq_none (by omega), List.getElem?_eq_none (by omega)]
    have hv : a.v = a0.v := Acc.v_eq hob (by omega)
    refine X.callC 0 rfl rfl (gV_ok rfl) rfl rfl rfl (by rw [← hv]; rfl) (en rfl) rfl (sortStable_ev (a0 := a) ha (by rw [e3]; exact fun x hx => (hw x hx).b) (by omega) (by omega)) ?_
    rintro v B2 oc hB2 ⟨rfl, u, rfl, o, k, hp, hsrt⟩
    (repeat' (first | refine J.seq ?_ | refine J.roA rfl ?_ | refine X.ro rfl rfl ?_ | refine X.nil0 ?_ | refine J.ret ?_))
    have hv2 : u.v = a0.v := Acc.v_eq (o.trans hob) (by rw [hp.length_eq]; omega)
    exact ⟨_, .cons (.tmp rfl) .nil, rfl, fun B' hB' hK => ⟨⟨oa u.ob, u.xs.length, u.xs.length⟩, u.xs, hv2.symm, (k.ge hB').sq (T := 78) fun b Y h => hK b Y (by rw [← h]; exact .head _), by rw [← e3]; exact hp, hsrt⟩⟩
theorem without_ev {sa sb : Slc} {a c : List Pair} (ha : SqS .pair B sa a) (hb : SqS .pair B sb c) (wa : ∀ x ∈ a, PairB x) (wb : ∀ x ∈ c, PairB x) (la : a.length ≤ 12) (lb : c.length ≤ 12) :
    EvP Tryz.prog 35 [sa.v, sb.v] B fun v B1 => ∃ r : Slc, v = r.v ∧ SqS .pair B1 r (wo a c) := by
  have hna := ha.len
  have hnb := hb.len
  refine EvP.go Tryz.func35 rfl Tryz.ntmps35 Tryz.results35 rfl [none] rfl ?_
  (repeat' (first | refine J.seq ?_ | refine J.block ?_ | refine J.roA rfl ?_ | refine X.ro rfl rfl ?_ | refine X.nil0 ?_))
  refine J.loop (σ := Nat × Nat × Acc Pair) (fun q => [(1, sb.v), (5, q.2.2.v), (6, .int .i64 (q.2.1 : Int)), (9, sa.v), (10, .int .i64 (sa.n : Int)), (11, .int .i64 (q.1 : Int))]) (fun q => [q.2.2.e 78 2])
    (fun B1 q => Ge B B1 ∧ q.1 ≤ a.length ∧ q.2.1 ≤ c.length ∧ q.2.2.Ok .pair B1 ∧ q.2.2.xs.length ≤ q.1 ∧ wo a c = q.2.2.xs ++ wo (a.drop q.1) (c.drop q.2.1)) (fun q => a.length - q.1) (0, 0, .nil) ⟨Ge.refl _, Nat.zero_le _, Nat.zero_le _, .nil, Nat.zero_le _, rfl⟩ ⟨rfl, rfl, rfl, rfl, rfl, rfl, trivial⟩ (fun _ _ _ h => h) ?_
  rintro ⟨i, j0, o⟩ B1 hB ⟨hB1, hi, hj0, ho, hol, hwo⟩
  dsimp only at hi hj0 ho hol hwo ⊢
  have ha1 := ha.ge hB1
  (repeat' (first | refine J.seq ?_ | refine J.block ?_ | refine J.roA rfl ?_ | refine X.ro rfl rfl ?_ | refine X.nil0 ?_ | refine J.skip ?_ | refine J.exit ?_ | refine J.ret ?_ | refine J.cond_d rfl (fun h => ?_) (fun h => ?_)))
  · have hi2 : i < a.length := by omega
    rw [List.drop_eq_getElem_cons hi2] at hwo
    (refine X.ix ha1 (i := i) (by omega) rfl rfl rfl rfl rfl rfl rfl rfl (by first | rfl | omega) fun b1 f1 cs1 hr1 hx1 => ?_); obtain ⟨xa, xn, xc, rfl, xq⟩ := hx1; (skip); (refine X.lg 0 hr1 rfl rfl (by first | exact .md | exact .mo | exact .mf) (Ge.refl _) rfl rfl rfl rfl rfl rfl rfl rfl ?_); ((repeat' (first | refine J.seq ?_ | refine J.block ?_ | refine X.nil0 ?_ | refine X.al rfl rfl rfl rfl rfl rfl rfl fun b => ?_ | refine X.st 1 rfl rfl rfl rfl rfl rfl rfl rfl rfl ?_)))
    (revert b; intro pb)
    refine J.loop (σ := Nat) (fun j => [(1, sb.v), (5, o.v), (6, .int .i64 (j : Int)), (8, .pointer (some ⟨pb, 0, none⟩)), (9, sa.v), (10, .int .i64 (sa.n : Int)), (11, .int .i64 (i : Int))]) (fun _ => [o.e 78 2, some (pb, ⟨[.string a[i].base, .slice xa xn xc], 78, 1⟩)])
      (fun B2 j => Ge B1 B2 ∧ j ≤ c.length ∧ wo a c = o.xs ++ wo (a[i] :: a.drop (i + 1)) (c.drop j)) (fun j => c.length - j) j0 ⟨Ge.refl _, hj0, hwo⟩ ⟨rfl, rfl, rfl, rfl, rfl, rfl, rfl, trivial⟩ (fun _ _ _ h => h) ?_
    rintro j B2 hB2 ⟨hB12, hj, hwo2⟩
    have hb2 := hb.ge (hB1.trans hB12)
    have hx2 := Sq.ge xq hB12
    have wx := wa _ (List.getElem_mem hi2)
    (repeat' (first | refine J.seq ?_ | refine J.roA rfl ?_ | refine J.rdA (by kernel_rfl) rfl ?_ | refine X.ro rfl rfl ?_ | refine X.rd rfl rfl ?_ | refine X.nil1 ⟨by kernel_rfl, ?_⟩ | refine J.exit ?_ | refine J.cond_f rfl ?_ | refine X.la 1 rfl rfl rfl rfl rfl rfl rfl rfl rfl rfl ?_ | refine X.bs rfl rfl rfl rfl rfl rfl (by rfl) rfl rfl (by rfl) (by rfl) rfl (fun b => ?_) | refine X.g_d rfl rfl rfl (fun h => ?_) (fun h => ?_)))
    all_goals first | omega | skip
    · have hj2 : j < c.length := by omega
      have wy := wb _ (List.getElem_mem hj2)
      (refine X.ix hb2 (i := j) (by omega) rfl rfl rfl rfl rfl rfl rfl rfl (by first | rfl | omega) fun b1 f1 cs1 hr1 hx1 => ?_); obtain ⟨ya, yn, yc, rfl, yq⟩ := hx1; (skip); (refine X.lg 0 hr1 rfl rfl (by first | exact .md | exact .mo | exact .mf) (Ge.refl _) rfl rfl rfl rfl rfl rfl rfl rfl ?_); ((repeat' (first | refine X.la 1 rfl rfl rfl rfl rfl rfl rfl rfl rfl rfl ?_)))
      refine X.callq rfl rfl (gV_ok rfl) rfl rfl rfl rfl (en rfl) (comparePairingsM_ev (s1 := ⟨ya, yn, yc⟩) (s2 := ⟨xa, xn, xc⟩) (x := c[j]) (y := a[i]) yq hx2 wy wx) ?_
      rintro v rfl
      (repeat' (first | refine J.seq ?_ | refine J.block ?_ | refine J.roA rfl ?_ | refine J.rdA (by kernel_rfl) rfl ?_ | refine X.ro rfl rfl ?_ | refine X.rd rfl rfl ?_ | refine X.nil0 ?_ | refine X.nil1 ⟨by kernel_rfl, ?_⟩ | refine J.skip ?_ | refine J.exit ?_ | refine J.cond_f rfl ?_ | refine X.la 1 rfl rfl rfl rfl rfl rfl rfl rfl rfl rfl ?_ | refine X.ad rfl rfl rfl rfl rfl rfl (by omega) ?_ | refine X.bs rfl rfl rfl rfl rfl rfl (by rfl) rfl rfl (by rfl) (by rfl) rfl (fun b => ?_) | refine X.g_d rfl rfl rfl (fun h => ?_) (fun h => ?_) | refine J.cond_d rfl (fun h => ?_) (fun h => ?_)))
      all_goals first | omega | skip
      · have hc : cmpP c[j] a[i] < 0 := by assumption
        exact ⟨j + 1, ⟨rfl, rfl, rfl, rfl, rfl, rfl, rfl, trivial⟩, (fun _ _ _ h => h), ⟨hB12, by omega, by rw [hwo2, wo_step hj2 hc]⟩, by dsimp only; omega⟩
      · have hc : ¬ cmpP c[j] a[i] < 0 := by assumption
        (refine X.ix hb2 (i := j) (by omega) rfl rfl rfl rfl rfl rfl rfl rfl (by first | rfl | omega) fun b1 f1 cs1 hr1 hx1 => ?_); obtain ⟨za, zn, zc, rfl, zq⟩ := hx1; (skip); (refine X.lg 0 hr1 rfl rfl (by first | exact .md | exact .mo | exact .mf) (Ge.refl _) rfl rfl rfl rfl rfl rfl rfl rfl ?_); ((repeat' (first | refine X.la 1 rfl rfl rfl rfl rfl rfl rfl rfl rfl rfl ?_)))
        refine X.callq rfl rfl (gV_ok rfl) rfl rfl rfl rfl (en rfl) (comparePairingsM_ev (s1 := ⟨za, zn, zc⟩) (s2 := ⟨xa, xn, xc⟩) (x := c[j]) (y := a[i]) zq hx2 wy wx) ?_
        rintro v rfl
        (repeat' (first | refine J.roA rfl ?_ | refine X.ro rfl rfl ?_ | refine X.rd rfl rfl ?_ | refine X.nil0 ?_ | refine X.nil1 ⟨by kernel_rfl, ?_⟩ | refine X.la 1 rfl rfl rfl rfl rfl rfl rfl rfl rfl rfl ?_ | refine X.ad rfl rfl rfl rfl rfl rfl (by omega) ?_ | refine X.bs rfl rfl rfl rfl rfl rfl (by rfl) rfl rfl (by rfl) (by rfl) rfl (fun b => ?_) | refine J.cond_d rfl (fun h => ?_) (fun h => ?_)))
        · have hc0 : cmpP c[j] a[i] = 0 := by assumption
          refine ⟨(i + 1, j + 1, o), ⟨rfl, rfl, rfl, rfl, rfl, rfl, trivial⟩, Less.app [_] _, ⟨hB1.trans hB12, by dsimp only; omega, by dsimp only; omega, ho.ge hB12, by dsimp only; omega, ?_⟩, by dsimp only; omega⟩
          dsimp only
          rw [hwo2, wo_eq hj2 hc0]
        · have hc0 : ¬ cmpP c[j] a[i] = 0 := by assumption
          refine X.ac1 (D := .pair) 0 2 (z := a[i]) (ho.ge hB12) rfl ⟨_, _, _, rfl, hx2⟩ rfl rfl rfl rfl rfl rfl rfl rfl rfl rfl rfl rfl rfl rfl (by show (_ + 1) * 40 ≤ _; omega) (by omega) fun o2 e2 ho2 => ?_
          (repeat' (first | refine J.roA rfl ?_ | refine X.ro rfl rfl ?_ | refine X.nil0 ?_ | refine X.ad rfl rfl rfl rfl rfl rfl (by omega) ?_))
          refine ⟨(i + 1, j, o2), ⟨rfl, rfl, rfl, rfl, rfl, rfl, trivial⟩, Less.app [_] _, ⟨hB1.trans hB12, by dsimp only; omega, hj, ho2, by dsimp only; rw [e2, List.length_append, List.length_singleton]; omega, ?_⟩, by dsimp only; omega⟩
          dsimp only
          rw [hwo2, wo_gt hj2 hc hc0, e2, List.append_assoc]
          rfl
    · have hj2 : c.length ≤ j := by omega
      refine X.ac1 (D := .pair) 0 2 (z := a[i]) (ho.ge hB12) rfl ⟨_, _, _, rfl, hx2⟩ rfl rfl rfl rfl rfl rfl rfl rfl rfl rfl rfl rfl rfl rfl (by show (_ + 1) * 40 ≤ _; omega) (by omega) fun o2 e2 ho2 => ?_
      (repeat' (first | refine J.roA rfl ?_ | refine X.ro rfl rfl ?_ | refine X.nil0 ?_ | refine X.ad rfl rfl rfl rfl rfl rfl (by omega) ?_))
      refine ⟨(i + 1, j, o2), ⟨rfl, rfl, rfl, rfl, rfl, rfl, trivial⟩, Less.app [_] _, ⟨hB1.trans hB12, by dsimp only; omega, hj, ho2, by dsimp only; rw [e2, List.length_append, List.length_singleton]; omega, ?_⟩, by dsimp only; omega⟩
      dsimp only
      rw [hwo2, wo_end hj2, e2, List.append_assoc]
      rfl
  · have e : i = a.length := by omega
    rw [e, List.drop_length, wo_nil, List.append_nil] at hwo
    exact ⟨_, .cons (.tmp rfl) .nil, rfl, fun B' hB' hK => ⟨⟨oa o.ob, o.xs.length, o.xs.length⟩, rfl, hwo ▸ (ho.ge hB').sq (T := 78) fun b Y h => hK b Y (by rw [← h]; exact .head _)⟩⟩
theorem compareP_ev {sx ox sy oy : Slc} {cx cy : Int} {x y : List Pair} (hx : SqS .pair B sx x) (hy : SqS .pair B sy y) (wx : ∀ p ∈ x, PairC p) (wy : ∀ p ∈ y, PairC p) (lx : x.length ≤ 12) (ly : y.length ≤ 12) :
    EvP Tryz.prog 15 [planV sx ox cx, planV sy oy cy] B fun v B1 => ∃ (r1 r2 : Slc) (u w : List Pair), v = .agg #[r1.v, r2.v] ∧ SqS .pair B1 r1 (wo u w) ∧ SqS .pair B1 r2 (wo w u) ∧ Srt u ∧ u.Perm x ∧ Srt w ∧ w.Perm y := by
  refine EvP.go Tryz.func15 rfl Tryz.ntmps15 Tryz.results15 rfl [] rfl ?_
  (repeat' (first | refine J.seq ?_ | refine J.roA rfl ?_ | refine J.rdA (by kernel_rfl) rfl ?_ | refine X.rd rfl rfl ?_ | refine X.nil0 ?_ | refine X.l1 0 rfl rfl rfl rfl rfl rfl rfl rfl rfl ?_ | refine X.bx rfl rfl rfl rfl rfl rfl rfl rfl fun b => ?_ | refine X.al rfl rfl rfl rfl rfl rfl rfl fun b => ?_))
  refine X.call rfl rfl (gV_ok rfl) rfl rfl rfl rfl (en rfl) (sorted_ev hx wx lx) ?_
  rintro v B1 hB1 ⟨ra, u, rfl, ha, pa, qa⟩
  (repeat' (first | refine X.rd rfl rfl ?_ | refine X.l1 1 rfl rfl rfl rfl rfl rfl rfl rfl rfl ?_))
  refine X.call rfl rfl (gV_ok rfl) rfl rfl rfl rfl (en rfl) (sorted_ev (hy.ge hB1) wy ly) ?_
  rintro v B2 hB2 ⟨rb, w, rfl, hb, pb, qb⟩
  (repeat' (first | refine J.seq ?_ | refine J.roA rfl ?_ | refine X.ro rfl rfl ?_ | refine X.rd rfl rfl ?_ | refine X.nil1 ⟨by kernel_rfl, ?_⟩))
  have wu : ∀ p ∈ u, PairB p := fun p hp => (wx p (pa.mem_iff.1 hp)).b
  have ww : ∀ p ∈ w, PairB p := fun p hp => (wy p (pb.mem_iff.1 hp)).b
  have lu : u.length ≤ 12 := by rw [pa.length_eq]; exact lx
  have lw : w.length ≤ 12 := by rw [pb.length_eq]; exact ly
  refine X.call rfl rfl (gV_ok rfl) rfl rfl rfl rfl (en rfl) (without_ev (ha.ge hB2) hb wu ww lu lw) ?_
  rintro v B3 hB3 ⟨r1, rfl, h1⟩
  (repeat' (first | refine X.ro rfl rfl ?_))
  refine X.call rfl rfl (gV_ok rfl) rfl rfl rfl rfl (en rfl) (without_ev (hb.ge hB3) ((ha.ge hB2).ge hB3) ww wu lw lu) ?_
  rintro v B4 hB4 ⟨r2, rfl, h2⟩
  (repeat' (first | refine X.nil0 ?_ | refine J.ret ?_ | refine X.st 2 rfl rfl rfl rfl rfl rfl rfl rfl rfl ?_ | refine X.bd rfl rfl rfl rfl rfl rfl rfl rfl rfl rfl rfl ?_))
  exact ⟨_, .cons (.cellA (p := 2) rfl (ag rfl) (sz rfl) rfl rfl) .nil, rfl, fun B' hB' _ => ⟨r1, r2, u, w, rfl, (h1.ge hB4).ge hB', h2.ge hB', qa, pa, qb, pb⟩⟩
end
end Go.Proofs.YthldmlfpebgojaaGreatDoor
/-
  Lists of one's own that a call only reads; lists that grow by a slice; results that are dropped.
  No condition.
-/
namespace Go.Proofs.YthldmlfpebgojaaGreatDoor
set_option linter.unusedSimpArgs false
set_option linter.unusedVariables false
open Go.RowKit Go

section
variable {P : Program} {f : FuncId} {args : List Value} {B : St} {ob : Option (Nat × Blk)}
/-- A call that only reads a block of the caller's own. -/
theorem EvP.lend {Q : Value → Prop} (h : (∀ b Y, ob = some (b, Y) → B.get b = none) → EvP P f args (putO B ob) fun v _ => Q v) : EvC P f args B ob fun v B1 oc => oc = ob ∧ Q v := fun n hB hs => by
  obtain ⟨v, M1, B1, h1, h2, h3, h4⟩ := (h hs).beside (SM.start hB)
  cases ob with
  | none => exact ⟨v, M1, B1, none, h1, ⟨h2.wf, h2.old, fun b X hm => by simp at hm, fun b X hm => by simp at hm, fun p q b X Y hp _ => by
      match p, hp with
      | 0, hp => simp at hp
      | p + 1, hp => simp at hp⟩, h3, rfl, h4⟩
  | some q =>
    obtain ⟨b, Y⟩ := q
    have hb : B1.get b = some Y := h3 b Y (Tr.set_self _ _ _)
    refine ⟨v, M1, B1.set b none, some (b, Y), h1, ⟨h2.wf, fun c X hc => ?_, fun c X hm => ?_, fun c X hm => ?_, fun p q c X Z hp hq => ?_⟩, fun c X hc => ?_, rfl, h4⟩
    · by_cases e : b = c
      · subst e; rw [Tr.set_self] at hc; cases hc
      · rw [Tr.set_other _ _ e] at hc; exact h2.old c X hc
    · rw [List.mem_singleton] at hm
      injection hm with hm
      injection hm with e1 e2
      subst e1 e2
      exact h2.old _ _ hb
    · rw [List.mem_singleton] at hm
      injection hm with hm
      injection hm with e1 e2
      subst e1 e2
      exact Tr.set_self _ _ _
    · match p, q, hp, hq with
      | 0, 0, _, _ => rfl
      | 0, q + 1, _, hq => simp at hq
      | p + 1, _, hp, _ => simp at hp
    · have e : b ≠ c := fun e => by
        subst e
        rw [hs b Y rfl] at hc
        cases hc
      rw [Tr.set_other _ _ e]
      exact h3 c X (by
        show (B.set b (some Y)).get c = some X
        rw [Tr.set_other _ _ e]
        exact hc)
/-- What is given back may be dropped. -/
theorem EvC.drop {Q R : Value → St → Option (Nat × Blk) → Prop} (h : EvC P f args B ob Q) (k : ∀ v B1 oc, Q v B1 oc → R v B1 oc ∨ R v B1 none) : EvC P f args B ob R := fun n hB hs => by
  obtain ⟨v, M1, B1, oc, h1, h2, h3, h4⟩ := h n hB hs
  rcases k v B1 oc h4 with h5 | h5
  · exact ⟨v, M1, B1, oc, h1, h2, h3, h5⟩
  · exact ⟨v, M1, B1, none, h1, h2.less fun p b X hp => by
      match p, hp with
      | 0, hp => simp at hp
      | p + 1, hp => simp at hp, h3, h5⟩
end
theorem Acc.Ok.lent {α : Type} {D : Dt α} {B : St} {a : Acc α} {T : Nat} (ha : a.Ok D B) (hs : ∀ b Y, a.e T D.size = some (b, Y) → B.get b = none) : SqS D (putO B (a.e T D.size)) ⟨oa a.ob, a.xs.length, a.xs.length⟩ a.xs :=
  (ha.ge fun b X hb => putO_old hs hb).sq (T := T) fun b X h => by rw [h]; exact Tr.set_self _ _ _
section
variable {N : Nat} {ops : Array Oper} {d : Md} {l : List Oper} {o : Oper} {B : St} {K : Hp} {L : Loc} {Q : PostX} {t : Nat}
/-- A slice that stands comes to a list of one's own. -/
theorem X.acA {α : Type} {D : Dt α} {ys : List α} {a : Acc α} {c : Call} {x y : Operand} {T el sz bytes : Nat} {s2 : Slc} (p : Nat) (hok : a.Ok D B) (hs2 : SqS D B s2 ys) (hD : D.size = sz) (ho : o.op = .call c) (hc : c.callee = .builtin .append) (ha : c.args.toList = [x, y]) (hT : c.argTypes.toList = [T, T]) (hg : gV ops o L = some true) (hd : o.dst = some t) (ht : Nat.blt t N = true)
    (he : lk appT T = some (el, sz, bytes)) (hs : Nat.blt 0 sz = true) (hx : opvL L x = some a.v) (hy : opvL L y = some s2.v) (hp : K[p]? = some (a.e el sz)) (hb : (a.xs.length + ys.length) * bytes ≤ 140737488355328) (hm : a.xs.length + ys.length ≤ 1152921504606846976)
    (h : ∀ a' : Acc α, a'.xs = a.xs ++ ys → a'.Ok D B → X Tryz.prog N ops (dMap d (Dr.mod · p)) l B (K.set p (a'.e el sz)) ((t, a'.v) :: L) Q) : X Tryz.prog N ops d (o :: l) B K L Q := by
  refine X.apq (ob := a.ob) (n := a.xs.length) (cells := a.cells) p hs2 hD ho hc ha hT hg hd ht he hs hx hy hp (by rw [hok.rows.1, hD]) hok.ob hb hm fun ob' add hadd hob => ?_
  have h2 := h ⟨a.cells ++ add, a.xs ++ ys, ob'⟩ rfl ⟨hok.rows.app hadd, by rw [List.length_append]; exact hob⟩
  have e : (a.xs ++ ys).length = a.xs.length + ys.length := List.length_append
  have h3 : X Tryz.prog N ops (dMap d (Dr.mod · p)) l B (K.set p (accE el sz ob' (a.cells ++ add))) ((t, .slice (oa ob') (a.xs ++ ys).length (a.xs ++ ys).length) :: L) Q := h2
  rw [e] at h3
  exact h3
end
end Go.Proofs.YthldmlfpebgojaaGreatDoor
/-
  Contracts: a plan of pairings.
  Condition: the problem is one of the laws' data; at most six pairings.
-/
namespace Go.Proofs.YthldmlfpebgojaaGreatDoor
set_option linter.unusedSimpArgs false
set_option linter.unusedVariables false
set_option maxRecDepth 100000
set_option maxHeartbeats 0
open Go.RowKit Go

theorem WOk.c {fs : List Flt} {x : Pair} (h : WOk fs x) : PairC x := ⟨h.pos, by have := h.le; omega, fun d hd => ⟨(h.du d hd).pos, by have := (h.du d hd).le; omega⟩⟩
section
variable {B : St}
theorem hasL_ev {a : Acc Int} (ha : a.Ok (.int .i64) B) (n : Int) (hl : a.xs.length ≤ 1000000000000) : EvC Tryz.prog 32 [a.v, .int .i64 n] B (a.e 3 1) fun v B1 oc => oc = a.e 3 1 ∧ v = .bool (decide (n ∈ a.xs)) :=
  EvP.lend fun hs => hasS_ev n (ha.lent (T := 3) hs) hl
theorem meetsL_ev {a : Acc Int} {s : Slc} {x : List Int} (hx : SqS (.int .i64) B s x) (ha : a.Ok (.int .i64) B) (lx : x.length ≤ 1000000000000) (hl : a.xs.length ≤ 1000000000000) : EvC Tryz.prog 72 [s.v, a.v] B (a.e 3 1) fun v B1 oc => oc = a.e 3 1 ∧ ∃ b, v = .bool b :=
  EvP.lend (Q := fun v => ∃ b, v = .bool b) fun hs => meets_ev (hx.ge fun b X hb => putO_old hs hb) (ha.lent (T := 3) hs) lx hl
end
-- KEEP 8
section
variable {B : St} {p : PV} {fs : List Flt} {bs : List ByteArray} {os : List Int} (hP : PAt B p fs bs os)
include hP
/-- What a plan is, in a list of one's own. -/
def PlanPost (fs : List Flt) (v : Value) (B1 : St) (oc : Option (Nat × Blk)) : Prop := ∃ (a : Acc Pair) (so : Slc) (k : Int), v = planV ⟨oa a.ob, a.xs.length, a.xs.length⟩ so k ∧ oc = a.e 78 2 ∧ a.Ok .pair B1 ∧ a.xs.length ≤ 6 ∧ ∀ x ∈ a.xs, WOk fs x
theorem newPlan_ev' {s : Slc} {l : List Pair} (hs : SqS .pair B s l) (hl : l.length ≤ 6) (hw : ∀ x ∈ l, PairC x) : EvC Tryz.prog 33 [p.v, s.v] B none fun v B1 oc => (∃ e, v = .tuple #[planV ⟨none, 0, 0⟩ ⟨none, 0, 0⟩ 0, .int .i64 e]) ∨ ∃ u e, v = .tuple #[u, .int .i64 e] ∧ PlanPost fs u B1 oc := by
  have hsn := hs.len
  have hol := hP.opl
  have hopn := hP.hop.len
  refine EvC.go Tryz.func33 rfl Tryz.ntmps33 Tryz.results33 rfl [none, none] rfl ?_
  (repeat' (first | refine J.seq ?_ | refine J.roA rfl ?_ | refine X.ro rfl rfl ?_ | refine X.nil0 ?_ | refine X.la 3 rfl rfl rfl rfl rfl rfl rfl rfl rfl rfl ?_ | refine X.bx rfl rfl rfl rfl rfl rfl rfl rfl fun b => ?_ | refine X.al rfl rfl rfl rfl rfl rfl rfl fun b => ?_))
  rename_i pb
  (revert b; intro zb)
  refine X.callq rfl rfl (gV_ok rfl) rfl rfl rfl rfl (en rfl) (validate27_ev hP) ?_
  rintro v rfl
  (repeat' (first | refine J.seq ?_ | refine J.block ?_ | refine J.roA rfl ?_ | refine X.ro rfl rfl ?_ | refine X.nil0 ?_ | refine J.skip ?_ | refine J.cond_f rfl ?_ | refine X.al rfl rfl rfl rfl rfl rfl rfl fun b => ?_))
  (revert b; intro xb)
  refine J.loop (σ := Nat × Acc Pair × Acc Int × Int) (fun q => [(1, s.v), (2, .pointer (some ⟨pb, 0, none⟩)), (4, .pointer (some ⟨zb, 0, none⟩)), (7, .pointer (some ⟨xb, 0, none⟩)), (8, q.2.2.1.v), (9, .int .i64 (q.1 : Int))])
    (fun q => [q.2.1.e 78 2, q.2.2.1.e 3 1, none, some (pb, ⟨p.cells, 38, 1⟩), some (zb, ⟨[.slice none 0 0, .slice none 0 0, .int .i64 0], 66, 1⟩), some (xb, ⟨[q.2.1.v, .slice none 0 0, .int .i64 q.2.2.2], 66, 1⟩)])
    (fun B1 q => Ge B B1 ∧ q.1 ≤ l.length ∧ q.2.1.Ok .pair B1 ∧ q.2.1.xs.length ≤ q.1 ∧ (∀ x ∈ q.2.1.xs, WOk fs x) ∧ q.2.2.1.Ok (.int .i64) B1 ∧ q.2.2.1.xs.length ≤ q.1 * 6000) (fun q => l.length - q.1) (0, .nil, .nil, 0) ⟨Ge.refl _, Nat.zero_le _, .nil, Nat.zero_le _, (fun x h => by cases h), .nil, Nat.zero_le _⟩ ⟨rfl, rfl, rfl, rfl, rfl, rfl, trivial⟩ (fun _ _ _ h => h) ?_
  rintro ⟨i, a, u, c⟩ B1 hB ⟨hB1, hi, ha, hal, haw, hu, hul⟩
  dsimp only at hi ha hal haw hu hul ⊢
  have hP1 := hP.ge hB1
  have hs1 := hs.ge hB1
  have hum : i * 6000 ≤ 36000 := by omega
  (repeat' (first | refine J.seq ?_ | refine J.block ?_ | refine J.roA rfl ?_ | refine J.rfA (id := 9) rfl ?_ | refine X.ro rfl rfl ?_ | refine X.rf rfl rfl ?_ | refine X.nil0 ?_ | refine J.skip ?_ | refine J.exit ?_ | refine X.la 3 rfl rfl rfl rfl rfl rfl rfl rfl rfl rfl ?_ | refine J.cond_d rfl (fun h => ?_) (fun h => ?_)))
  · have hi2 : i < l.length := by omega
    (refine X.ix hs1 (i := i) (by omega) rfl rfl rfl rfl rfl rfl rfl rfl (by first | rfl | omega) fun b1 f1 cs1 hr1 hx1 => ?_); obtain ⟨ya, yn, yc, rfl, yq⟩ := hx1; (skip); (refine X.lg 0 hr1 rfl rfl (by first | exact .md | exact .mo | exact .mf) (Ge.refl _) rfl rfl rfl rfl rfl rfl rfl rfl ?_); (skip)
    refine X.call rfl rfl (gV_ok rfl) rfl rfl rfl rfl (en rfl) (newColumn_ev (x := l[i]) (s := ⟨ya, yn, yc⟩) hP1 yq) ?_
    rintro v B2 hB2 ⟨cb, cs, k, e, rfl, he⟩
    have hs2 := Sq.ge hs1 hB2
    (repeat' (first | refine J.seq ?_ | refine J.roA rfl ?_ | refine X.ro rfl rfl ?_ | refine X.rf rfl rfl ?_ | refine X.nil0 ?_ | refine X.nilF ⟨by kernel_rfl, ?_⟩ | refine J.skip ?_ | refine J.ret ?_ | refine X.al rfl rfl rfl rfl rfl rfl rfl fun b => ?_ | refine X.st 4 rfl rfl rfl rfl rfl rfl rfl rfl rfl ?_ | refine X.st 6 rfl rfl rfl rfl rfl rfl rfl rfl rfl ?_ | refine X.bd rfl rfl rfl rfl rfl rfl rfl rfl rfl rfl rfl ?_ | refine J.cond_nd rfl (fun h => ?_) (fun h => ?_)))
    · exact ⟨_, _, .cons (.cellA (p := 4) rfl (ag rfl) (sz rfl) rfl rfl) (.cons (.tmp rfl) .nil), rfl, rfl, .inl ⟨_, rfl⟩⟩
    · obtain ⟨rfl, e3, hW⟩ := he (by assumption)
      (refine X.ix hs2 (i := i) (by omega) rfl rfl rfl rfl rfl rfl rfl rfl (by first | rfl | omega) fun b1 f1 cs1 hr1 hx1 => ?_); obtain ⟨wa, wn, wc, rfl, wq⟩ := hx1; (skip); (refine X.lg 0 hr1 rfl rfl (by first | exact .md | exact .mo | exact .mf) (Ge.refl _) rfl rfl rfl rfl rfl rfl rfl rfl ?_); (skip)
      refine X.call rfl rfl (gV_ok rfl) rfl rfl rfl rfl (en rfl) (operated_ev (x := l[i]) (s := ⟨wa, wn, wc⟩) wq hW.b) ?_
      rintro v B3 hB3 ⟨r, rfl, hr⟩
      have hol2 := operated_len (ds := l[i].duties) fun d h => hW.b.d d h
      have hWl := hW.le
      have hu3 := (hu.ge hB2).ge hB3
      (repeat' (first | refine J.seq ?_ | refine J.roA rfl ?_ | refine X.ro rfl rfl ?_ | refine X.nil0 ?_))
      refine X.callC 1 rfl rfl (gV_ok rfl) rfl rfl rfl rfl (en rfl) rfl (meetsL_ev hr hu3 (by omega) (by omega)) ?_
      rintro v B4 oc hB4 ⟨rfl, w1, rfl⟩
      (repeat' (first | refine J.seq ?_ | refine J.roA rfl ?_ | refine X.ro rfl rfl ?_ | refine X.nil0 ?_ | refine J.skip ?_ | refine J.ret ?_ | refine X.st 4 rfl rfl rfl rfl rfl rfl rfl rfl rfl ?_ | refine X.bd rfl rfl rfl rfl rfl rfl rfl rfl rfl rfl rfl ?_ | refine J.cond rfl (fun h => ?_) (fun h => ?_)))
      · exact ⟨_, _, .cons (.cellA (p := 4) rfl (ag rfl) (sz rfl) rfl rfl) (.cons (.tmp rfl) .nil), rfl, rfl, .inl ⟨_, rfl⟩⟩
      · refine X.acA (D := .int .i64) 1 (hu3.ge hB4) (Sq.ge hr hB4) rfl rfl rfl rfl rfl rfl rfl rfl rfl rfl rfl rfl rfl (by show (_ + _) * 8 ≤ _; omega) (by omega) fun u2 e2 hu2 => ?_
        (repeat' (first | refine J.seq ?_ | refine J.roA rfl ?_ | refine J.rdA (by kernel_rfl) rfl ?_ | refine X.ro rfl rfl ?_ | refine X.rd rfl rfl ?_ | refine X.nil0 ?_ | refine X.l1 5 rfl rfl rfl rfl rfl rfl rfl rfl rfl ?_ | refine X.l1 6 rfl rfl rfl rfl rfl rfl rfl rfl rfl ?_ | refine X.st 5 rfl rfl rfl rfl rfl rfl rfl rfl rfl ?_ | refine X.adw rfl rfl rfl rfl rfl rfl ?_))
        have hs4 := Sq.ge (Sq.ge hs2 hB3) hB4
        (refine X.ix hs4 (i := i) (by omega) rfl rfl rfl rfl rfl rfl rfl rfl (by first | rfl | omega) fun b1 f1 cs1 hr1 hx1 => ?_); obtain ⟨za, zn, zc, rfl, zq⟩ := hx1; (skip); (refine X.lg 0 hr1 rfl rfl (by first | exact .md | exact .mo | exact .mf) (Ge.refl _) rfl rfl rfl rfl rfl rfl rfl rfl ?_); ((repeat' (first | refine X.bs rfl rfl rfl rfl rfl rfl (by rfl) rfl rfl (by rfl) (by rfl) rfl (fun b => ?_))))
        refine X.ac1 (D := .pair) 0 7 (z := l[i]) ((((ha.ge hB2).ge hB3).ge hB4)) rfl ⟨_, _, _, rfl, zq⟩ rfl rfl rfl rfl rfl rfl rfl rfl rfl rfl rfl rfl rfl rfl (by show (_ + 1) * 40 ≤ _; omega) (by omega) fun a2 f2 ha2 => ?_
        have l2 : a2.xs.length = a.xs.length + 1 := by rw [f2, List.length_append]; rfl
        have w2 : ∀ x ∈ a2.xs, WOk fs x := fun x hx => by
          rw [f2, List.mem_append, List.mem_singleton] at hx
          rcases hx with hx | rfl
          · exact haw x hx
          · exact hW
        have ul2 : u2.xs.length ≤ (i + 1) * 6000 := by rw [e2, List.length_append]; omega
        obtain ⟨qb, hqb⟩ := Acc.ob_some ha2 (by omega)
        clear f2 e2
        (repeat' (first | refine J.seq ?_ | refine J.block ?_ | refine J.roA rfl ?_ | refine X.ro rfl rfl ?_ | refine X.rd rfl rfl ?_ | refine X.nil0 ?_ | refine X.nil1 ⟨by kernel_rfl, ?_⟩ | refine X.l1 5 rfl rfl rfl rfl rfl rfl rfl rfl rfl ?_ | refine X.st 5 rfl rfl rfl rfl rfl rfl rfl rfl rfl ?_ | refine X.sb rfl rfl rfl rfl rfl rfl (by omega) ?_))
        refine J.loop (σ := Nat × Acc Pair) (fun q => [(1, s.v), (2, .pointer (some ⟨pb, 0, none⟩)), (4, .pointer (some ⟨zb, 0, none⟩)), (7, .pointer (some ⟨xb, 0, none⟩)), (8, u2.v), (9, .int .i64 (i : Int)), (13, .int .i64 (q.1 : Int))])
          (fun q => [q.2.e 78 2, u2.e 3 1, none, some (pb, ⟨p.cells, 38, 1⟩), some (zb, ⟨[.slice none 0 0, .slice none 0 0, .int .i64 0], 66, 1⟩), some (xb, ⟨[a2.v, .slice none 0 0, .int .i64 (IntKind.i64.wrap (c + k))], 66, 1⟩)])
          (fun B5 q => Ge B4 B5 ∧ q.1 < a2.xs.length ∧ q.2.ob = a2.ob ∧ q.2.Ok .pair B5 ∧ q.2.xs.length = a2.xs.length ∧ ∀ x ∈ q.2.xs, WOk fs x) (fun q => q.1) (a.xs.length, a2) ⟨Ge.refl _, by dsimp only; omega, rfl, ha2, rfl, w2⟩ ⟨rfl, rfl, rfl, rfl, rfl, rfl, (by show some _ = some _; congr 2; omega), trivial⟩ (Less.app [_, _, _, _, _, _] _) ?_
        rintro ⟨j, w⟩ B5 hB5 ⟨hB45, hj, hob2, hwk, hwl, hww⟩
        dsimp only at hj hob2 hwk hwl hww ⊢
        have hwb := hob2.trans hqb
        have hv : w.v = a2.v := Acc.v_eq hob2 hwl
        have hBx := hB1.trans (hB2.trans (hB3.trans (hB4.trans hB45)))
        (repeat' (first | refine J.seq ?_ | refine J.roA rfl ?_ | refine J.rdA (by kernel_rfl) rfl ?_ | refine X.ro rfl rfl ?_ | refine X.rd rfl rfl ?_ | refine X.nil0 ?_ | refine X.nil1 ⟨by kernel_rfl, ?_⟩ | refine J.exit ?_ | refine J.cond_f rfl ?_ | refine X.l1 5 rfl rfl rfl rfl rfl rfl rfl rfl rfl ?_ | refine X.ad rfl rfl rfl rfl rfl rfl (by omega) ?_ | refine X.g_d rfl rfl rfl (fun h => ?_) (fun h => ?_)))
        · obtain ⟨m, rfl⟩ : ∃ m, j = m + 1 := ⟨j - 1, by omega⟩
          have hk1 : m + 1 < w.xs.length := by omega
          have hk0 : m < w.xs.length := by omega
          (refine X.ixo ha2.ob (i := (m + 1)) (by omega) rfl rfl rfl rfl rfl rfl rfl (by first | rfl | omega) fun b1 hb1 => ?_); obtain rfl := some_eq (hqb.symm.trans hb1); (skip)
          (refine X.acl (D := .pair) 0 0 hwk (i := (m + 1)) (by omega) rfl hwb rfl rfl rfl rfl rfl rfl rfl rfl rfl rfl ?_); rintro _ ⟨fa, fn, fc, rfl, fq⟩; ((repeat' (first | refine X.rd rfl rfl ?_ | refine X.l1 5 rfl rfl rfl rfl rfl rfl rfl rfl rfl ?_ | refine X.sb rfl rfl rfl rfl rfl rfl (by omega) ?_)))
          (refine X.ixo ha2.ob (i := m) (by omega) rfl rfl rfl rfl rfl rfl rfl (by first | rfl | omega) fun b1 hb1 => ?_); obtain rfl := some_eq (hqb.symm.trans hb1); (skip)
          (refine X.acl (D := .pair) 0 0 hwk (i := m) (by omega) rfl hwb rfl rfl rfl rfl rfl rfl rfl rfl rfl rfl ?_); rintro _ ⟨ga, gn, gc, rfl, gq⟩; (skip)
          refine X.callq rfl rfl (gV_ok rfl) rfl rfl rfl rfl (en rfl) (comparePairings_ev (s1 := ⟨fa, fn, fc⟩) (s2 := ⟨ga, gn, gc⟩) fq gq (hww _ (List.getElem_mem hk1)).b (hww _ (List.getElem_mem hk0)).b) ?_
          rintro v rfl
          (repeat' (first | refine J.seq ?_ | refine J.block ?_ | refine J.roA rfl ?_ | refine J.rdA (by kernel_rfl) rfl ?_ | refine X.ro rfl rfl ?_ | refine X.rd rfl rfl ?_ | refine X.nil0 ?_ | refine X.nil1 ⟨by kernel_rfl, ?_⟩ | refine J.skip ?_ | refine J.exit ?_ | refine X.l1 5 rfl rfl rfl rfl rfl rfl rfl rfl rfl ?_ | refine X.ad rfl rfl rfl rfl rfl rfl (by omega) ?_ | refine X.sb rfl rfl rfl rfl rfl rfl (by omega) ?_ | refine J.cond_d rfl (fun h => ?_) (fun h => ?_)))
          · (refine X.ixo ha2.ob (i := m) (by omega) rfl rfl rfl rfl rfl rfl rfl (by first | rfl | omega) fun b1 hb1 => ?_); obtain rfl := some_eq (hqb.symm.trans hb1); (skip)
            (refine X.acl (D := .pair) 0 0 hwk (i := m) (by omega) rfl hwb rfl rfl rfl rfl rfl rfl rfl rfl rfl rfl ?_); rintro _ ⟨m1a, m1n, m1c, rfl, m1q⟩; ((repeat' (first | refine X.rd rfl rfl ?_ | refine X.l1 5 rfl rfl rfl rfl rfl rfl rfl rfl rfl ?_)))
            (refine X.ixo ha2.ob (i := (m + 1)) (by omega) rfl rfl rfl rfl rfl rfl rfl (by first | rfl | omega) fun b1 hb1 => ?_); obtain rfl := some_eq (hqb.symm.trans hb1); (skip)
            (refine X.acl (D := .pair) 0 0 hwk (i := (m + 1)) (by omega) rfl hwb rfl rfl rfl rfl rfl rfl rfl rfl rfl rfl ?_); rintro _ ⟨m2a, m2n, m2c, rfl, m2q⟩; (skip)
            (refine X.ixo ha2.ob (i := (m + 1)) (by omega) rfl rfl rfl rfl rfl rfl rfl (by first | rfl | omega) fun b1 hb1 => ?_); obtain rfl := some_eq (hqb.symm.trans hb1); (skip)
            refine X.acs (D := .pair) (z := w.xs[m]) 0 hwk hk1 rfl hwb ⟨_, _, _, rfl, m1q⟩ rfl rfl rfl rfl rfl rfl rfl rfl rfl fun y1 e1 o1 k1 => ?_
            skip
            (refine X.ixo ha2.ob (i := m) (by omega) rfl rfl rfl rfl rfl rfl rfl (by first | rfl | omega) fun b1 hb1 => ?_); obtain rfl := some_eq (hqb.symm.trans hb1); (skip)
            refine X.acs (D := .pair) (z := w.xs[m + 1]) 0 k1 (i := m) (by rw [e1, List.length_set]; exact hk0) rfl (o1.trans hwb) ⟨_, _, _, rfl, m2q⟩ rfl rfl rfl rfl rfl rfl rfl rfl rfl fun y2 e2 o2 k2 => ?_
            (repeat' (first | refine J.roA rfl ?_ | refine X.ro rfl rfl ?_ | refine X.nil0 ?_ | refine X.nil1 ⟨by kernel_rfl, ?_⟩ | refine X.sb rfl rfl rfl rfl rfl rfl (by omega) ?_))
            refine ⟨(m, y2), ⟨rfl, rfl, rfl, rfl, rfl, rfl, (by show some _ = some _; congr 2; dsimp only; omega), trivial⟩, (fun _ _ _ h => h), ⟨hB45, by dsimp only; omega, (o2.trans o1).trans hob2, k2, by dsimp only; rw [e2, List.length_set, e1, List.length_set]; exact hwl, fun x hx => ?_⟩, by dsimp only; omega⟩
            dsimp only at hx
            rw [e2, e1] at hx
            exact hww _ ((List.set_set_perm hk1 hk0).mem_iff.1 hx)
          · exact ⟨(i + 1, w, u2, IntKind.i64.wrap (c + k)), ⟨rfl, rfl, rfl, rfl, rfl, rfl, trivial⟩, (by dsimp only; rw [hv]; exact Less.refl _), ⟨hBx, by dsimp only; omega, hwk, by dsimp only; omega, hww, hu2.ge hB45, ul2⟩, by dsimp only; omega⟩
        · exact ⟨(i + 1, w, u2, IntKind.i64.wrap (c + k)), ⟨rfl, rfl, rfl, rfl, rfl, rfl, trivial⟩, (by dsimp only; rw [hv]; exact Less.refl _), ⟨hBx, by dsimp only; omega, hwk, by dsimp only; omega, hww, hu2.ge hB45, ul2⟩, by dsimp only; omega⟩
  · refine J.loop (σ := Nat × Acc Int × Int) (fun q => [(2, .pointer (some ⟨pb, 0, none⟩)), (4, .pointer (some ⟨zb, 0, none⟩)), (7, .pointer (some ⟨xb, 0, none⟩)), (8, u.v), (14, .int .i64 (q.1 : Int))])
      (fun q => [a.e 78 2, u.e 3 1, q.2.1.e 3 1, some (pb, ⟨p.cells, 38, 1⟩), some (zb, ⟨[.slice none 0 0, .slice none 0 0, .int .i64 0], 66, 1⟩), some (xb, ⟨[a.v, q.2.1.v, .int .i64 q.2.2], 66, 1⟩)])
      (fun B2 q => Ge B1 B2 ∧ q.1 ≤ os.length ∧ q.2.1.Ok (.int .i64) B2 ∧ q.2.1.xs.length ≤ q.1) (fun q => os.length - q.1) (0, .nil, c) ⟨Ge.refl _, Nat.zero_le _, .nil, Nat.zero_le _⟩ ⟨rfl, rfl, rfl, rfl, rfl, trivial⟩ (fun _ _ _ h => h) ?_
    rintro ⟨j, o, c2⟩ B2 hB2 ⟨hB12, hj, ho, hol2⟩
    dsimp only at hj ho hol2 ⊢
    have hop2 := (hP1.ge hB12).hop
    have hu2 := hu.ge hB12
    (repeat' (first | refine J.seq ?_ | refine J.block ?_ | refine J.roA rfl ?_ | refine X.ro rfl rfl ?_ | refine X.nil0 ?_ | refine J.skip ?_ | refine J.exit ?_ | refine J.ret ?_ | refine X.l1 3 rfl rfl rfl rfl rfl rfl rfl rfl rfl ?_ | refine X.la 5 rfl rfl rfl rfl rfl rfl rfl rfl rfl rfl ?_ | refine X.st 4 rfl rfl rfl rfl rfl rfl rfl rfl rfl ?_ | refine J.cond_d rfl (fun h => ?_) (fun h => ?_)))
    · have hj2 : j < os.length := by omega
      (refine X.ix hop2 (i := j) (by omega) rfl rfl rfl rfl rfl rfl rfl rfl (by first | rfl | omega) fun b1 f1 cs1 hr1 hx1 => ?_; obtain rfl := hx1; skip; refine X.ls 0 hr1 rfl (by first | exact .md | exact .mo | exact .mf) (Ge.refl _) rfl rfl rfl rfl rfl rfl rfl ?_; skip)
      refine X.callC 1 rfl rfl (gV_ok rfl) rfl rfl rfl rfl (en rfl) rfl (hasL_ev hu2 os[j] (by omega)) ?_
      rintro v B3 oc hB3 ⟨rfl, rfl⟩
      have hop3 := ((hP1.ge hB12).ge hB3).hop
      (repeat' (first | refine J.seq ?_ | refine J.roA rfl ?_ | refine J.rdA (by kernel_rfl) rfl ?_ | refine X.ro rfl rfl ?_ | refine X.rd rfl rfl ?_ | refine X.nil0 ?_ | refine J.skip ?_ | refine X.l1 3 rfl rfl rfl rfl rfl rfl rfl rfl rfl ?_ | refine X.l1 5 rfl rfl rfl rfl rfl rfl rfl rfl rfl ?_ | refine X.ad rfl rfl rfl rfl rfl rfl (by omega) ?_ | refine J.cond_nd rfl (fun h => ?_) (fun h => ?_)))
      · (refine X.ix hop3 (i := j) (by omega) rfl rfl rfl rfl rfl rfl rfl rfl (by first | rfl | omega) fun b1 f1 cs1 hr1 hx1 => ?_; obtain rfl := hx1; skip; refine X.ls 0 hr1 rfl (by first | exact .md | exact .mo | exact .mf) (Ge.refl _) rfl rfl rfl rfl rfl rfl rfl ?_; (repeat' (first | refine X.bs1 rfl rfl rfl rfl rfl rfl rfl rfl rfl rfl rfl rfl rfl (fun b => ?_))))
        refine X.ac1 (D := .int .i64) 2 6 (z := os[j]) (ho.ge hB3) rfl rfl rfl rfl rfl rfl rfl rfl rfl rfl rfl rfl rfl rfl rfl rfl (by show (_ + 1) * 8 ≤ _; omega) (by omega) fun o2 f2 ho2 => ?_
        have l2 : o2.xs.length = o.xs.length + 1 := by rw [f2, List.length_append]; rfl
        (repeat' (first | refine J.roA rfl ?_ | refine X.ro rfl rfl ?_ | refine X.rd rfl rfl ?_ | refine X.nil0 ?_ | refine X.nil1 ⟨by kernel_rfl, ?_⟩ | refine X.l1 3 rfl rfl rfl rfl rfl rfl rfl rfl rfl ?_ | refine X.l1 5 rfl rfl rfl rfl rfl rfl rfl rfl rfl ?_ | refine X.st 5 rfl rfl rfl rfl rfl rfl rfl rfl rfl ?_ | refine X.ad rfl rfl rfl rfl rfl rfl (by omega) ?_ | refine X.adw rfl rfl rfl rfl rfl rfl ?_))
        exact ⟨(j + 1, o2, _), ⟨rfl, rfl, rfl, rfl, rfl, trivial⟩, Less.app [_, _, _, _, _, _] _, ⟨hB12.trans hB3, by dsimp only; omega, ho2, by dsimp only; omega⟩, by dsimp only; omega⟩
      · exact ⟨(j + 1, o, c2), ⟨rfl, rfl, rfl, rfl, rfl, trivial⟩, (fun _ _ _ h => h), ⟨hB12.trans hB3, by dsimp only; omega, ho.ge hB3, by dsimp only; omega⟩, by dsimp only; omega⟩
    · exact ⟨_, _, .cons (.cellA (p := 4) rfl (ag rfl) (sz rfl) rfl rfl) (.cons (.tmp rfl) .nil), rfl, rfl, .inr ⟨_, _, rfl, a, ⟨oa o.ob, o.xs.length, o.xs.length⟩, c2, rfl, rfl, ha.ge hB12, by omega, haw⟩⟩
theorem newPlan_ev {s : Slc} {l : List Pair} (hs : SqS .pair B s l) (hl : l.length ≤ 6) (hw : ∀ x ∈ l, PairC x) : EvC Tryz.prog 33 [p.v, s.v] B none fun v B1 oc => ∃ u e, v = .tuple #[u, .int .i64 e] ∧ PlanPost fs u B1 oc :=
  (newPlan_ev' hP hs hl hw).drop fun v B1 oc h => by
    rcases h with ⟨e, rfl⟩ | h
    · exact .inr ⟨_, e, rfl, .nil, ⟨none, 0, 0⟩, 0, rfl, rfl, .nil, Nat.zero_le _, fun x h => by cases h⟩
    · exact .inl h
end
end Go.Proofs.YthldmlfpebgojaaGreatDoor
/-
  Contracts: all columns of a problem.
  Condition: the problem is one of the laws' data.
-/
namespace Go.Proofs.YthldmlfpebgojaaGreatDoor
set_option linter.unusedSimpArgs false
set_option linter.unusedVariables false
set_option maxRecDepth 100000
set_option maxHeartbeats 0
open Go.RowKit Go

section
variable {B : St} {p : PV} {fs : List Flt} {bs : List ByteArray} {os : List Int} (hP : PAt B p fs bs os)
include hP
theorem columns_ev : EvP Tryz.prog 13 [p.v] B fun v B1 => ∃ (r : Slc) (cs : List Col), v = r.v ∧ SqS .col B1 r cs ∧ cs.length ≤ 2000000000000 ∧ ∀ c ∈ cs, WOk fs c.pair := by
  have hbl : bs.length ≤ 2 := by rcases hP.bsv with h | h <;> rw [h] <;> decide
  have hbn := hP.hbs.len
  have g5 := gro_5
  refine EvP.go Tryz.func13 rfl Tryz.ntmps13 Tryz.results13 rfl [none] rfl ?_
  (repeat' (first | refine J.seq ?_ | refine J.roA rfl ?_ | refine X.ro rfl rfl ?_ | refine X.nil0 ?_ | refine X.la 1 rfl rfl rfl rfl rfl rfl rfl rfl rfl rfl ?_ | refine X.bx rfl rfl rfl rfl rfl rfl rfl rfl fun b => ?_))
  (revert b; intro pb)
  refine X.call rfl rfl (gV_ok rfl) rfl rfl rfl rfl (en rfl) (duties_ev hP) ?_
  rintro v B1 hB1 ⟨s, ds, rfl, hs, hn, hds⟩
  (repeat' (first | refine J.seq ?_ | refine J.block ?_ | refine J.roA rfl ?_ | refine X.ro rfl rfl ?_ | refine X.nil0 ?_))
  refine J.loop (σ := Nat × Acc Col) (fun q => [(1, .pointer (some ⟨pb, 0, none⟩)), (3, s.v), (4, q.2.v), (5, .int .i64 (q.1 : Int))]) (fun q => [q.2.e 80 3, some (pb, ⟨p.cells, 38, 1⟩)])
    (fun B2 q => Ge B1 B2 ∧ q.1 ≤ bs.length ∧ q.2.Ok .col B2 ∧ q.2.xs.length ≤ q.1 * gro 5 ∧ ∀ c ∈ q.2.xs, WOk fs c.pair) (fun q => bs.length - q.1) (0, .nil) ⟨Ge.refl _, Nat.zero_le _, .nil, Nat.zero_le _, fun c h => by cases h⟩ ⟨rfl, rfl, rfl, rfl, trivial⟩ (fun _ _ _ h => h) ?_
  rintro ⟨i, a⟩ B2 hB2 ⟨hB12, hi, ha, hal, hw⟩
  dsimp only at hi ha hal hw ⊢
  have hP2 := hP.ge (hB1.trans hB12)
  have hbs2 := hP2.hbs
  have hm : i * gro 5 ≤ 2 * gro 5 := Nat.mul_le_mul_right _ (by omega)
  (repeat' (first | refine J.seq ?_ | refine J.block ?_ | refine J.roA rfl ?_ | refine J.rdA (by kernel_rfl) rfl ?_ | refine X.ro rfl rfl ?_ | refine X.rd rfl rfl ?_ | refine X.nil0 ?_ | refine J.skip ?_ | refine J.exit ?_ | refine J.ret ?_ | refine X.l1 1 rfl rfl rfl rfl rfl rfl rfl rfl rfl ?_ | refine X.la 1 rfl rfl rfl rfl rfl rfl rfl rfl rfl rfl ?_ | refine J.cond_d rfl (fun h => ?_) (fun h => ?_)))
  · have hi2 : i < bs.length := by omega
    (refine X.ix hbs2 (i := i) (by omega) rfl rfl rfl rfl rfl rfl rfl rfl (by first | rfl | omega) fun b1 f1 cs1 hr1 hx1 => ?_; obtain rfl := hx1; skip; refine X.ls 0 hr1 rfl (by first | exact .md | exact .mo | exact .mf) (Ge.refl _) rfl rfl rfl rfl rfl rfl rfl ?_; (repeat' (first | refine X.rd rfl rfl ?_ | refine X.bd rfl rfl rfl rfl rfl rfl rfl rfl rfl rfl rfl ?_)))
    refine X.callC 0 rfl rfl (gV_ok rfl) rfl rfl rfl rfl (en rfl) rfl (grow_ev 5 (x := ⟨bs[i], []⟩) (sx := ⟨none, 0, 0⟩) (a := a) hP2 (Sq.ge hs hB12) hn hds Sq.nil0 (Nat.zero_le _) (Nat.le_refl 5) ha hw (by rw [g5] at *; omega)) ?_
    rintro v B3 oc hB3 ⟨z, rfl, rfl, hz, hzl, hzw⟩
    (repeat' (first | refine J.roA rfl ?_ | refine X.ro rfl rfl ?_ | refine X.rd rfl rfl ?_ | refine X.nil0 ?_ | refine X.nil1 ⟨by kernel_rfl, ?_⟩ | refine X.ad rfl rfl rfl rfl rfl rfl (by omega) ?_))
    exact ⟨(i + 1, z), ⟨rfl, rfl, rfl, rfl, trivial⟩, (fun _ _ _ h => h), ⟨hB12.trans hB3, by dsimp only; omega, hz, by dsimp only; rw [Nat.succ_mul]; omega, hzw⟩, by dsimp only; omega⟩
  · exact ⟨_, .cons (.tmp rfl) .nil, rfl, fun B' hB' hK => ⟨⟨oa a.ob, a.xs.length, a.xs.length⟩, a.xs, rfl, (ha.ge hB').sq (T := 80) fun b Y h => hK b Y (by rw [← h]; exact .head _), by rw [g5] at *; omega, hw⟩⟩
end
end Go.Proofs.YthldmlfpebgojaaGreatDoor
/-
  Contracts: numbers out of the laws' arguments.
  Condition: the list lies in memory.
-/
namespace Go.Proofs.YthldmlfpebgojaaGreatDoor
set_option linter.unusedSimpArgs false
set_option linter.unusedVariables false
set_option maxRecDepth 100000
set_option maxHeartbeats 0
open Go.RowKit Go

section
variable {B : St}
theorem at_ev {s : Slc} {xs : List Int} (hs : SqS (Dt.int .i64) B s xs) (hl : xs.length ≤ 9223372036854775807) (i : Nat) (hi : i ≤ 1000) : EvP Tryz.prog 18 [s.v, .int .i64 (i : Int)] B fun v _ => ∃ z, v = .int .i64 z ∧ 0 ≤ z ∧ z ≤ 66535 := by
  have hn := hs.len
  refine EvP.go Tryz.func18 rfl Tryz.ntmps18 Tryz.results18 rfl [] rfl ?_
  (repeat' (first | refine J.seq ?_ | refine J.roA rfl ?_ | refine J.rdA (by kernel_rfl) rfl ?_ | refine X.ro rfl rfl ?_ | refine X.rd rfl rfl ?_ | refine X.nil0 ?_ | refine J.skip ?_ | refine J.cond_d rfl (fun h => ?_) (fun h => ?_)))
  · refine X.andk 16 rfl rfl rfl rfl rfl rfl rfl rfl ?_
    (repeat' (first | refine X.ro rfl rfl ?_ | refine X.nil0 ?_ | refine J.ret ?_))
    exact ⟨_, .cons (.tmp rfl) .nil, rfl, fun _ _ _ => ⟨_, rfl, by omega, by omega⟩⟩
  · have h0 : (s.n : Int) ≠ 0 := by omega
    refine X.rew rfl rfl rfl rfl rfl rfl h0 ?_
    skip
    have hm : Int.tmod (i : Int) (s.n : Int) = ((i % s.n : Nat) : Int) := rfl
    refine X.ix hs (i := i % s.n) (by rw [hn]; exact Nat.mod_lt _ (by omega)) rfl rfl rfl rfl rfl rfl rfl rfl hm fun b1 f1 cs1 hr1 hx1 => ?_
    obtain rfl := hx1
    refine X.ls 0 hr1 rfl (by first | exact .md | exact .mo | exact .mf) (Ge.refl _) rfl rfl rfl rfl rfl rfl rfl ?_
    refine X.andk 16 rfl rfl rfl rfl rfl rfl rfl rfl ?_
    (repeat' (first | refine X.rd rfl rfl ?_))
    refine X.quw rfl rfl rfl rfl rfl rfl h0 ?_
    have h2 : i / s.n ≤ i := Nat.div_le_self _ _
    have h1 : Int.tdiv (i : Int) (s.n : Int) = ((i / s.n : Nat) : Int) := rfl
    rw [h1]
    generalize i / s.n = w at h2 ⊢
    have hq : IntKind.i64.wrap (w : Int) = (w : Int) := by rw [IntKind.wrap_i64]; omega
    rw [hq]
    (repeat' (first | refine X.rd rfl rfl ?_ | refine X.nil1 ⟨by kernel_rfl, ?_⟩ | refine J.ret ?_ | refine X.ad rfl rfl rfl rfl rfl rfl (by omega) ?_))
    exact ⟨_, .cons (.tmp rfl) .nil, rfl, fun _ _ _ => ⟨_, rfl, by omega, by omega⟩⟩
end
end Go.Proofs.YthldmlfpebgojaaGreatDoor
/-
  Contracts: a plan of a problem's columns.
  Condition: the problem is one of the laws' data.
-/
namespace Go.Proofs.YthldmlfpebgojaaGreatDoor
set_option linter.unusedSimpArgs false
set_option linter.unusedVariables false
set_option maxRecDepth 100000
set_option maxHeartbeats 0
open Go.RowKit Go

-- KEEP 8
section
variable {B : St} {p : PV} {fs : List Flt} {bs : List ByteArray} {os : List Int} (hP : PAt B p fs bs os)
include hP
theorem planOf_ev {sc : Slc} {cs : List Col} (hc : SqS .col B sc cs) (hcl : cs.length ≤ 2000000000000) (hcw : ∀ c ∈ cs, WOk fs c.pair) {s : Slc} {xs : List Int} (hs : SqS (Dt.int .i64) B s xs) (hl : xs.length ≤ 9223372036854775807) :
    EvC Tryz.prog 14 [p.v, sc.v, s.v] B none fun v B1 oc => PlanPost fs v B1 oc := by
  have hcn := hc.len
  refine EvC.go Tryz.func14 rfl Tryz.ntmps14 Tryz.results14 rfl [none, none] rfl ?_
  (repeat' (first | refine J.seq ?_ | refine J.block ?_ | refine J.roA rfl ?_ | refine X.ro rfl rfl ?_ | refine X.nil0 ?_ | refine X.bx rfl rfl rfl rfl rfl rfl rfl rfl fun b => ?_ | refine X.al rfl rfl rfl rfl rfl rfl rfl fun b => ?_))
  rename_i pb
  (revert b; intro zb)
  refine J.loop (σ := Nat × Acc Pair × Acc Int) (fun q => [(1, sc.v), (2, s.v), (3, .pointer (some ⟨pb, 0, none⟩)), (6, .pointer (some ⟨zb, 0, none⟩)), (7, q.2.1.v), (8, q.2.2.v), (9, .int .i64 (q.1 : Int))])
    (fun q => [none, q.2.1.e 78 2, q.2.2.e 3 1, some (pb, ⟨p.cells, 38, 1⟩), some (zb, ⟨[.slice none 0 0, .slice none 0 0, .int .i64 0], 66, 1⟩)])
    (fun B1 q => Ge B B1 ∧ q.1 ≤ 6 ∧ q.2.1.Ok .pair B1 ∧ q.2.1.xs.length ≤ q.1 ∧ (∀ x ∈ q.2.1.xs, WOk fs x) ∧ q.2.2.Ok (.int .i64) B1 ∧ q.2.2.xs.length ≤ q.1 * 6000) (fun q => 6 - q.1) (0, .nil, .nil) ⟨Ge.refl _, Nat.zero_le _, .nil, Nat.zero_le _, (fun x h => by cases h), .nil, Nat.zero_le _⟩ ⟨rfl, rfl, rfl, rfl, rfl, rfl, rfl, trivial⟩ (fun _ _ _ h => h) ?_
  rintro ⟨i, a, u⟩ B1 hB ⟨hB1, hi, ha, hal, haw, hu, hul⟩
  dsimp only at hi ha hal haw hu hul ⊢
  have hum : i * 6000 ≤ 36000 := by omega
  have hc1 := hc.ge hB1
  have hs1 := hs.ge hB1
  have hP1 := hP.ge hB1
  (repeat' (first | refine J.seq ?_ | refine J.block ?_ | refine J.roA rfl ?_ | refine X.ro rfl rfl ?_ | refine X.nil0 ?_ | refine J.skip ?_ | refine J.exit ?_ | refine J.cond_f rfl ?_ | refine X.la 3 rfl rfl rfl rfl rfl rfl rfl rfl rfl rfl ?_ | refine X.g_d rfl rfl rfl (fun h => ?_) (fun h => ?_) | refine J.cond_d rfl (fun h => ?_) (fun h => ?_)))
  · refine X.callq rfl rfl (gV_ok rfl) rfl rfl rfl rfl (en rfl) (at_ev hs1 hl i (by omega)) ?_
    rintro v ⟨z, rfl, hz0, hz1⟩
    (repeat' (first | refine X.ro rfl rfl ?_))
    have h0 : (sc.n : Int) ≠ 0 := by omega
    refine X.rew rfl rfl rfl rfl rfl rfl h0 ?_
    obtain ⟨m, hm, hmn⟩ : ∃ m : Nat, z.tmod (sc.n : Int) = (m : Int) ∧ m < cs.length := by
      rw [Int.tmod_eq_emod_of_nonneg hz0]
      have h1 := Int.emod_nonneg z h0
      have h2 := Int.emod_lt_of_pos z (b := (sc.n : Int)) (by omega)
      exact ⟨(z % (sc.n : Int)).toNat, by omega, by omega⟩
    have hW := hcw _ (List.getElem_mem hmn)
    have hWl := hW.le
    have hol2 := operated_len (ds := cs[m].pair.duties) fun d h => hW.b.d d h
    skip
    refine X.ix hc1 (i := m) hmn rfl rfl rfl rfl rfl rfl rfl rfl hm fun b1 f1 cs1 hr1 hx1 => ?_
    obtain ⟨ya, yn, yc, rfl, yq⟩ := hx1
    skip
    refine X.lg 0 hr1 rfl rfl (by first | exact .md | exact .mo | exact .mf) (Ge.refl _) rfl rfl rfl rfl rfl rfl rfl rfl ?_
    (repeat' (first | refine J.seq ?_ | refine J.roA rfl ?_ | refine X.ro rfl rfl ?_ | refine X.nil0 ?_ | refine X.la 5 rfl rfl rfl rfl rfl rfl rfl rfl rfl rfl ?_ | refine X.al rfl rfl rfl rfl rfl rfl rfl fun b => ?_ | refine X.st 5 rfl rfl rfl rfl rfl rfl rfl rfl rfl ?_))
    (revert b; intro kb)
    refine X.call rfl rfl (gV_ok rfl) rfl rfl rfl rfl (en rfl) (operated_ev (x := cs[m].pair) (s := ⟨ya, yn, yc⟩) yq hW.b) ?_
    rintro v B2 hB2 ⟨r, rfl, hr⟩
    have hrn := hr.len
    (repeat' (first | refine J.seq ?_ | refine J.block ?_ | refine J.roA rfl ?_ | refine X.ro rfl rfl ?_ | refine X.nil0 ?_))
    refine J.loop (σ := Nat × Bool) (fun q => [(1, sc.v), (2, s.v), (3, .pointer (some ⟨pb, 0, none⟩)), (6, .pointer (some ⟨zb, 0, none⟩)), (7, a.v), (8, u.v), (9, .int .i64 (i : Int)), (10, .pointer (some ⟨kb, 0, none⟩)), (11, r.v), (12, .bool q.2), (13, .int .i64 (q.1 : Int))])
      (fun _ => [none, a.e 78 2, u.e 3 1, some (pb, ⟨p.cells, 38, 1⟩), some (zb, ⟨[.slice none 0 0, .slice none 0 0, .int .i64 0], 66, 1⟩), some (kb, ⟨[.string cs[m].pair.base, .slice ya yn yc, .int .i64 cs[m].cost], 80, 1⟩)])
      (fun B3 q => Ge B2 B3 ∧ q.1 ≤ (operated cs[m].pair.duties).length) (fun q => (operated cs[m].pair.duties).length - q.1) (0, true) ⟨Ge.refl _, Nat.zero_le _⟩ ⟨rfl, rfl, rfl, rfl, rfl, rfl, rfl, rfl, rfl, rfl, rfl, trivial⟩ (fun _ _ _ h => h) ?_
    rintro ⟨k, fr⟩ B3 hB3 ⟨hB23, hk⟩
    dsimp only at hk ⊢
    have hr3 := Sq.ge hr hB23
    have hu3 := (hu.ge hB2).ge hB23
    have ha3 := (ha.ge hB2).ge hB23
    have hq3 := Sq.ge (Sq.ge yq hB2) hB23
    have hBx := hB1.trans (hB2.trans hB23)
    (repeat' (first | refine J.seq ?_ | refine J.block ?_ | refine J.roA rfl ?_ | refine X.ro rfl rfl ?_ | refine X.nil0 ?_ | refine J.skip ?_ | refine J.exit ?_ | refine X.la 5 rfl rfl rfl rfl rfl rfl rfl rfl rfl rfl ?_ | refine X.ad rfl rfl rfl rfl rfl rfl (by omega) ?_ | refine X.bs rfl rfl rfl rfl rfl rfl (by rfl) rfl rfl (by rfl) (by rfl) rfl (fun b => ?_) | ((fail_if_success refine X.kn rfl ?_); refine X.g_b rfl rfl rfl (fun h => ?_) (fun h => ?_)) | refine J.cond_d rfl (fun h => ?_) (fun h => ?_) | refine J.cond rfl (fun h => ?_) (fun h => ?_)))
    · have hk2 : k < (operated cs[m].pair.duties).length := by omega
      (refine X.ix hr3 (i := k) (by omega) rfl rfl rfl rfl rfl rfl rfl rfl (by first | rfl | omega) fun b1 f1 cs1 hr1 hx1 => ?_; obtain rfl := hx1; skip; refine X.ls 0 hr1 rfl (by first | exact .md | exact .mo | exact .mf) (Ge.refl _) rfl rfl rfl rfl rfl rfl rfl ?_; skip)
      refine X.callC 2 rfl rfl (gV_ok rfl) rfl rfl rfl rfl (en rfl) rfl (hasL_ev hu3 _ (by omega)) ?_
      rintro v B4 oc hB4 ⟨rfl, rfl⟩
      (repeat' (first | refine J.roA rfl ?_ | refine X.ro rfl rfl ?_ | refine X.nil0 ?_ | refine X.ad rfl rfl rfl rfl rfl rfl (by omega) ?_))
      all_goals exact ⟨(k + 1, _), ⟨rfl, rfl, rfl, rfl, rfl, rfl, rfl, rfl, rfl, rfl, rfl, trivial⟩, (fun _ _ _ h => h), ⟨hB23.trans hB4, by dsimp only; omega⟩, by dsimp only; omega⟩
    · exact ⟨(k + 1, _), ⟨rfl, rfl, rfl, rfl, rfl, rfl, rfl, rfl, rfl, rfl, rfl, trivial⟩, (fun _ _ _ h => h), ⟨hB23, by dsimp only; omega⟩, by dsimp only; omega⟩
    · refine X.ac1 (D := .pair) 1 6 (z := cs[m].pair) ha3 rfl ⟨_, _, _, rfl, hq3⟩ rfl rfl rfl rfl rfl rfl rfl rfl rfl rfl rfl rfl rfl rfl (by show (_ + 1) * 40 ≤ _; omega) (by omega) fun a2 e2 ha2 => ?_
      (repeat' (first | refine X.ro rfl rfl ?_))
      refine X.acA (D := .int .i64) 2 hu3 hr3 rfl rfl rfl rfl rfl rfl rfl rfl rfl rfl rfl rfl rfl (by show (_ + _) * 8 ≤ _; omega) (by omega) fun u2 f2 hu2 => ?_
      (repeat' (first | refine J.roA rfl ?_ | refine X.ro rfl rfl ?_ | refine X.nil0 ?_ | refine X.ad rfl rfl rfl rfl rfl rfl (by omega) ?_))
      exact ⟨(i + 1, a2, u2), ⟨rfl, rfl, rfl, rfl, rfl, rfl, rfl, trivial⟩, Less.app [_, _, _, _, _] _, ⟨hBx, by dsimp only; omega, ha2, by dsimp only; rw [e2, List.length_append, List.length_singleton]; omega, fun x hx => by
        dsimp only at hx
        rw [e2, List.mem_append, List.mem_singleton] at hx
        rcases hx with hx | rfl
        · exact haw x hx
        · exact hW, hu2, by dsimp only; rw [f2, List.length_append]; omega⟩, by dsimp only; omega⟩
    · exact ⟨(i + 1, a, u), ⟨rfl, rfl, rfl, rfl, rfl, rfl, rfl, trivial⟩, Less.app [_, _, _, _, _] _, ⟨hBx, by dsimp only; omega, ha3, by dsimp only; omega, haw, hu3, by dsimp only; omega⟩, by dsimp only; omega⟩
  · skip
    refine X.giveAcc (D := .pair) (p := 1) (T := 78) rfl ha fun B2 hB2 hsa => ?_
    refine X.callC 0 rfl rfl (gV_ok rfl) rfl rfl rfl rfl (en rfl) rfl (newPlan_ev (hP1.ge hB2) (s := ⟨oa a.ob, a.xs.length, a.xs.length⟩) hsa (by omega) (fun x hx => (haw x hx).c)) ?_
    rintro v B3 oc hB3 ⟨w, e, rfl, a3, so, k, rfl, rfl, ha3, hal3, haw3⟩
    (repeat' (first | refine J.seq ?_ | refine J.roA rfl ?_ | refine X.ro rfl rfl ?_ | refine X.nil0 ?_ | refine J.ret ?_ | refine X.la 5 rfl rfl rfl rfl rfl rfl rfl rfl rfl rfl ?_ | refine X.al rfl rfl rfl rfl rfl rfl rfl fun b => ?_ | refine X.st 4 rfl rfl rfl rfl rfl rfl rfl rfl rfl ?_ | refine X.st 5 rfl rfl rfl rfl rfl rfl rfl rfl rfl ?_))
    exact ⟨_, _, .cons (.cellA (p := 4) rfl (ag rfl) (sz rfl) rfl rfl) .nil, rfl, rfl, a3, so, k, rfl, rfl, ha3, hal3, haw3⟩
  · skip
    refine X.giveAcc (D := .pair) (p := 1) (T := 78) rfl ha fun B2 hB2 hsa => ?_
    refine X.callC 0 rfl rfl (gV_ok rfl) rfl rfl rfl rfl (en rfl) rfl (newPlan_ev (hP1.ge hB2) (s := ⟨oa a.ob, a.xs.length, a.xs.length⟩) hsa (by omega) (fun x hx => (haw x hx).c)) ?_
    rintro v B3 oc hB3 ⟨w, e, rfl, a3, so, k, rfl, rfl, ha3, hal3, haw3⟩
    (repeat' (first | refine J.seq ?_ | refine J.roA rfl ?_ | refine X.ro rfl rfl ?_ | refine X.nil0 ?_ | refine J.ret ?_ | refine X.la 5 rfl rfl rfl rfl rfl rfl rfl rfl rfl rfl ?_ | refine X.al rfl rfl rfl rfl rfl rfl rfl fun b => ?_ | refine X.st 4 rfl rfl rfl rfl rfl rfl rfl rfl rfl ?_ | refine X.st 5 rfl rfl rfl rfl rfl rfl rfl rfl rfl ?_))
    exact ⟨_, _, .cons (.cellA (p := 4) rfl (ag rfl) (sz rfl) rfl rfl) .nil, rfl, rfl, a3, so, k, rfl, rfl, ha3, hal3, haw3⟩
end
end Go.Proofs.YthldmlfpebgojaaGreatDoor
/-
  Literal lists of structs: their cells, one element behind the other.
  No condition.
-/
namespace Go.Proofs.YthldmlfpebgojaaGreatDoor
set_option linter.unusedSimpArgs false
set_option linter.unusedVariables false
open Go.RowKit Go

/-- The cells of elements of one size. -/
def litC (sz : Nat) : List Value → Option (List Value)
  | [] => some []
  | v :: vs => match cellsOf v, litC sz vs with
    | some c, some r => bif Nat.beq c.length sz then some (c ++ r) else none
    | _, _ => none
theorem cellsOf_eq {v : Value} {c : List Value} (h : cellsOf v = some c) : v.cells = c.toArray := by
  cases v <;> simp [cellsOf] at h <;> subst h <;> simp [Value.cells]
theorem fold_put : ∀ (c : List Value) (off j : Nat) (A : List Value), off + j + c.length ≤ A.length → (c.zipIdx j).foldl (fun cs (x : Value × Nat) => match x with | (u, k) => cs.setIfInBounds (off + k) u) A.toArray = (A.take (off + j) ++ c ++ A.drop (off + j + c.length)).toArray
  | [], off, j, A, _ => by simp
  | v :: c, off, j, A, h => by
    rw [List.length_cons] at h
    rw [List.zipIdx_cons, List.foldl_cons]
    simp only [List.setIfInBounds_toArray]
    rw [fold_put c off (j + 1) (A.set (off + j) v) (by rw [List.length_set]; omega)]
    congr 1
    have h1 : (A.set (off + j) v).take (off + (j + 1)) = A.take (off + j) ++ [v] := by
      rw [← Nat.add_assoc, List.take_succ_eq_append_getElem (by rw [List.length_set]; omega), List.getElem_set_self]
      congr 1
      rw [List.take_set_of_le (Nat.le_refl _)]
    have h2 : (A.set (off + j) v).drop (off + (j + 1) + c.length) = A.drop (off + j + (v :: c).length) := by
      rw [List.drop_set_of_lt (by omega), List.length_cons]
      congr 1
      omega
    rw [h1, h2]
    simp
theorem fillM (sz : Nat) : ∀ (vs cs : List Value) (i : Nat) (A : List Value), litC sz vs = some cs → (i + vs.length) * sz ≤ A.length → Instr.fill (fun i => some (i * sz, sz)) A.toArray ((List.range' i vs.length).zip vs) = some (A.take (i * sz) ++ cs ++ A.drop ((i + vs.length) * sz)).toArray
  | [], cs, i, A, h, _ => by
    obtain rfl := some_eq h
    simp [Instr.fill]
  | v :: vs, cs, i, A, h, hl => by
    unfold litC at h
    split at h
    · rename_i c r hc hr
      obtain ⟨hn, rfl⟩ := some_bif h
      have hn := Nat.eq_of_beq_eq_true hn
      have hvc := cellsOf_eq hc
      rw [List.length_cons] at hl
      have hm : (i + (vs.length + 1)) * sz = i * sz + sz + vs.length * sz := by
        rw [Nat.add_mul, Nat.add_mul, Nat.one_mul, Nat.add_assoc, Nat.add_comm (vs.length * sz)]
      rw [List.length_cons, List.range'_succ, List.zip_cons_cons, Instr.fill]
      simp only [hvc, List.size_toArray]
      rw [if_neg (by simp; omega)]
      have e := fold_put c (i * sz) 0 A (by omega)
      simp only [Nat.add_zero] at e
      have e2 : (Array.foldl (fun cs (x : Value × Nat) => match x with | (c, j) => cs.setIfInBounds (i * sz + j) c) A.toArray c.toArray.zipIdx) = (A.take (i * sz) ++ c ++ A.drop (i * sz + c.length)).toArray := by
        rw [← e, ← Array.foldl_toList, Array.toList_zipIdx]
      rw [e2]
      have hl2 : (A.take (i * sz) ++ c ++ A.drop (i * sz + c.length)).length = A.length := by simp; omega
      have hi1 : (i + 1) * sz = i * sz + c.length := by rw [Nat.add_mul, Nat.one_mul, hn]
      have := fillM sz vs r (i + 1) _ hr (by rw [hl2, show i + 1 + vs.length = i + (vs.length + 1) by omega]; exact hl)
      rw [this]
      congr 2
      have h1 : (A.take (i * sz) ++ c ++ A.drop (i * sz + c.length)).take ((i + 1) * sz) = A.take (i * sz) ++ c := by
        rw [hi1]
        have e3 : (A.take (i * sz) ++ c).length = i * sz + c.length := by simp; omega
        rw [← e3, List.take_left]
      have h2 : (A.take (i * sz) ++ c ++ A.drop (i * sz + c.length)).drop ((i + 1 + vs.length) * sz) = A.drop ((i + (vs.length + 1)) * sz) := by
        have e3 : (A.take (i * sz) ++ c).length = i * sz + c.length := by simp; omega
        rw [List.drop_append, List.drop_eq_nil_of_le (by rw [e3, show i + 1 + vs.length = i + (vs.length + 1) by omega, hm]; omega), List.nil_append, List.drop_drop, e3]
        congr 1
        rw [show i + 1 + vs.length = i + (vs.length + 1) by omega, hm]
        omega
      rw [h1, h2]
      simp
    · cases h
section
variable {N : Nat} {ops : Array Oper} {d : Md} {l : List Oper} {o : Oper} {B : St} {K : Hp} {L : Loc} {Q : PostX} {t : Nat}
/-- A literal list. -/
theorem X.bsM {T el sz len : Nat} {parts : Array (Nat × Operand)} {vs z cs : List Value} (ho : o.op = .buildSlice T len parts) (hg : gV ops o L = some true) (hd : o.dst = some t) (ht : Nat.blt t N = true) (hel : lk elT T = some (el, sz)) (hz : lk zroT el = some z) (hzl : z.length = sz) (hzp : z.all plain1 = true)
    (hvs : opvsL L (parts.toList.map (·.2)) = some vs) (hidx : parts.toList.map (·.1) = List.range' 0 len) (hlen : Nat.beq vs.length len = true) (hok : (Nat.blt 0 len && Nat.blt 0 sz && Nat.ble (len * sz) 16777216) = true) (hc : litC sz vs = some cs) (hn : n0B d K.length = true)
    (h : ∀ b, X Tryz.prog N ops (dNew d) l B (K ++ [some (b, ⟨cs, el, sz⟩)]) ((t, .slice (some ⟨b, 0, none⟩) len len) :: L) Q) : X Tryz.prog N ops d (o :: l) B K L Q := by
  have hlen := Nat.eq_of_beq_eq_true hlen
  subst hlen
  simp only [Bool.and_eq_true] at hok
  have hs := Nat.le_of_ble_eq_true hok.1.2
  have hzn : (zerosL z (vs.length * sz)).length = vs.length * sz := by unfold zerosL; simp
  have hcs : ∀ (ws ds : List Value), litC sz ws = some ds → ds.length = ws.length * sz ∧ ws.all (fun v => (cellsOf v).isSome) = true := fun ws => by
    induction ws with
    | nil => intro ds h; obtain rfl := some_eq h; exact ⟨by simp, rfl⟩
    | cons w ws ih =>
      intro ds h
      unfold litC at h
      split at h
      · rename_i c r hc hr
        obtain ⟨hn, rfl⟩ := some_bif h
        have hn := Nat.eq_of_beq_eq_true hn
        obtain ⟨g1, g2⟩ := ih r hr
        refine ⟨by rw [List.length_append, List.length_cons, g1, hn, Nat.add_mul]; omega, ?_⟩
        rw [List.all_cons, hc, g2]
        rfl
      · cases h
  obtain ⟨g1, g2⟩ := hcs vs cs hc
  refine X.bs (vs := vs) (cs := cs) ho hg hd ht hel hz hzl hvs ?_ ?_ (by rw [g1]; exact Nat.beq_refl _) hn h
  · rw [hidx, fillM sz vs cs 0 _ hc (by rw [hzn, Nat.zero_add]; exact Nat.le_refl _)]
    rw [Nat.zero_mul, List.take_zero, List.nil_append, Nat.zero_add, List.drop_eq_nil_of_le (by rw [hzn]; exact Nat.le_refl _), List.append_nil]
  · simp only [Bool.and_eq_true]
    refine ⟨⟨⟨⟨?_, hok.1.1⟩, hok.1.2⟩, hok.2⟩, g2⟩
    rw [List.all_eq_true] at hzp ⊢
    intro v hv
    unfold zerosL at hv
    simp only [List.mem_map, List.mem_range] at hv
    obtain ⟨j, _, rfl⟩ := hv
    have hlt : j % z.length < z.length := Nat.mod_lt _ (by omega)
    rw [getElem!_pos z (j % z.length) hlt]
    exact hzp _ (List.getElem_mem hlt)
end
end Go.Proofs.YthldmlfpebgojaaGreatDoor
/-
  Literal values and stores whose cells are written out at once.
  No condition.
-/
namespace Go.Proofs.YthldmlfpebgojaaGreatDoor
set_option linter.unusedSimpArgs false
set_option linter.unusedVariables false
open Go.RowKit Go

abbrev KC := List Value → Option (List Value)
def overS : List Value → List Value → KC → Option (List Value)
  | [], z, k => k z
  | v :: c, z, k => match z with
    | [] => none
    | _ :: z => overS c z fun r => k (v :: r)
def putS : Nat → List Value → List Value → KC → Option (List Value)
  | 0, z, c, k => overS c z k
  | n + 1, z, c, k => match z with
    | [] => none
    | a :: z => putS n z c fun r => k (a :: r)
theorem overS_eq : ∀ (c z : List Value) (k : KC) (r : List Value), overS c z k = some r → c.length ≤ z.length ∧ k (c ++ z.drop c.length) = some r
  | [], z, k, r, h => ⟨Nat.zero_le _, h⟩
  | v :: c, [], k, r, h => by cases h
  | v :: c, _ :: z, k, r, h => by
    obtain ⟨h1, h2⟩ := overS_eq c z _ r h
    exact ⟨Nat.succ_le_succ h1, h2⟩
theorem putS_eq : ∀ (n : Nat) (z c : List Value) (k : KC) (r : List Value), putS n z c k = some r → n + c.length ≤ z.length ∧ k (putCells z n c) = some r
  | 0, z, c, k, r, h => by
    obtain ⟨h1, h2⟩ := overS_eq c z k r h
    refine ⟨by omega, ?_⟩
    unfold putCells
    rw [Nat.zero_add]
    exact h2
  | n + 1, [], c, k, r, h => by cases h
  | n + 1, a :: z, c, k, r, h => by
    obtain ⟨h1, h2⟩ := putS_eq n z c _ r h
    refine ⟨by rw [List.length_cons]; omega, ?_⟩
    unfold putCells at h2 ⊢
    rw [show n + 1 + c.length = (n + c.length) + 1 by omega]
    exact h2
/-- Parts at their places. -/
def buildS (pl : Nat → Option (Nat × Nat)) : List Value → List (Nat × Value) → KC → Option (List Value)
  | z, [], k => k z
  | z, (i, v) :: rest, k => match pl i, cellsOf v with
    | some (off, size), some c => bif Nat.beq c.length size then putS off z c fun z' => buildS pl z' rest k else none
    | _, _ => none
theorem buildS_fill (pl : Nat → Option (Nat × Nat)) : ∀ (parts : List (Nat × Value)) (z : List Value) (k : KC) (r : List Value), buildS pl z parts k = some r → ∃ z', k z' = some r ∧ Instr.fill pl z.toArray parts = some z'.toArray ∧ z'.length = z.length ∧ (parts.map (·.2)).all (fun v => (cellsOf v).isSome) = true
  | [], z, k, r, h => ⟨z, h, rfl, rfl, rfl⟩
  | (i, v) :: rest, z, k, r, h => by
    unfold buildS at h
    split at h
    · rename_i off size c hp hc
      obtain ⟨hn, h⟩ := cond_run h
      have hn := Nat.eq_of_beq_eq_true hn
      obtain ⟨h1, h2⟩ := putS_eq _ _ _ _ _ h
      obtain ⟨z', g1, g2, g3, g4⟩ := buildS_fill pl rest _ k r h2
      have hpl : (putCells z off c).length = z.length := by unfold putCells; simp; omega
      refine ⟨z', g1, ?_, g3.trans hpl, ?_⟩
      · rw [Instr.fill]
        have hvc := cellsOf_eq hc
        simp only [hp, hvc, List.size_toArray]
        rw [if_neg (by simp; omega)]
        have e := fold_put c off 0 z (by omega)
        simp only [Nat.add_zero] at e
        have e2 : (Array.foldl (fun cs (x : Value × Nat) => match x with | (c, j) => cs.setIfInBounds (off + j) c) z.toArray c.toArray.zipIdx) = (putCells z off c).toArray := by
          rw [← Array.foldl_toList, Array.toList_zipIdx]
          unfold putCells
          rw [← List.append_assoc, ← e]
        rw [e2]
        exact g2
      · rw [List.map_cons, List.all_cons, hc, g4]
        rfl
    · cases h
section
variable {N : Nat} {ops : Array Oper} {d : Md} {l : List Oper} {o : Oper} {B : St} {K : Hp} {L : Loc} {Q : PostX} {v : Value} {t : Nat}
theorem zip_snd {α β : Type} : ∀ (a : List α) (b : List β), a.length = b.length → (a.zip b).map (·.2) = b
  | [], [], _ => rfl
  | a :: u, b :: w, h => by
    rw [List.zip_cons_cons, List.map_cons, zip_snd u w (by simpa using h)]
theorem opvs_len {L : Loc} : ∀ {xs : List Operand} {vs : List Value}, opvsL L xs = some vs → xs.length = vs.length
  | [], vs, h => by obtain rfl := some_eq h; rfl
  | x :: xs, vs, h => by
    unfold opvsL at h
    split at h
    · split at h
      · rename_i us hus
        obtain rfl := some_eq h
        rw [List.length_cons, List.length_cons, opvs_len hus]
      · cases h
    · cases h
/-- A literal struct. -/
theorem X.bdM {T : TypeId} {parts : Array (Nat × Operand)} {vs z cs : List Value} {ps : List (Nat × Nat)} (ho : o.op = .build T parts) (hg : gV ops o L = some true) (hd : o.dst = some t) (ht : Nat.blt t N = true) (hz : lk zroT T = some z) (hps : lk plcT T = some ps) (hvs : opvsL L (parts.toList.map (·.2)) = some vs) (hzp : z.all plain1 = true)
    (hf : buildS (ps[·]?) z ((parts.toList.map (·.1)).zip vs) some = some cs) (hag : lk aggT T = some true) (h : X Tryz.prog N ops (dMap d .inc) l B K ((t, .agg cs.toArray) :: L) Q) : X Tryz.prog N ops d (o :: l) B K L Q := by
  obtain ⟨z', e, g1, g2, g3⟩ := buildS_fill _ _ _ _ _ hf
  obtain rfl := some_eq e
  refine X.bd ho hg hd ht hz hps hvs hzp ?_ ?_ hag h
  · rw [zip_snd _ _ (by rw [List.length_map, ← opvs_len hvs, List.length_map])] at g3
    exact g3
  · rw [← g1]
    congr 1
    funext i
    simp
/-- A literal array of three numbers. -/
theorem X.bd3M {parts : Array (Nat × Operand)} {vs cs : List Value} (ho : o.op = .build 101 parts) (hg : gV ops o L = some true) (hd : o.dst = some t) (ht : Nat.blt t N = true) (hvs : opvsL L (parts.toList.map (·.2)) = some vs)
    (hf : buildS (fun i => some (i * 1, 1)) [.int .i64 0, .int .i64 0, .int .i64 0] ((parts.toList.map (·.1)).zip vs) some = some cs) (h : X Tryz.prog N ops (dMap d .inc) l B K ((t, .agg cs.toArray) :: L) Q) : X Tryz.prog N ops d (o :: l) B K L Q := by
  obtain ⟨z', e, g1, g2, g3⟩ := buildS_fill _ _ _ _ _ hf
  obtain rfl := some_eq e
  refine X.bd3 ho hg hd ht hvs ?_ g1 h
  rw [zip_snd _ _ (by rw [List.length_map, ← opvs_len hvs, List.length_map])] at g3
  exact g3
/-- A literal list. -/
theorem X.bsN {T el sz len : Nat} {parts : Array (Nat × Operand)} {vs z cs : List Value} (ho : o.op = .buildSlice T len parts) (hg : gV ops o L = some true) (hd : o.dst = some t) (ht : Nat.blt t N = true) (hel : lk elT T = some (el, sz)) (hz : lk zroT el = some z) (hzl : z.length = sz) (hzp : z.all plain1 = true)
    (hvs : opvsL L (parts.toList.map (·.2)) = some vs) (hf : buildS (fun i => some (i * sz, sz)) (zerosL z (len * sz)) ((parts.toList.map (·.1)).zip vs) some = some cs) (hok : (Nat.blt 0 len && Nat.blt 0 sz && Nat.ble (len * sz) 16777216) = true) (hn : n0B d K.length = true)
    (h : ∀ b, X Tryz.prog N ops (dNew d) l B (K ++ [some (b, ⟨cs, el, sz⟩)]) ((t, .slice (some ⟨b, 0, none⟩) len len) :: L) Q) : X Tryz.prog N ops d (o :: l) B K L Q := by
  simp only [Bool.and_eq_true] at hok
  have hs := Nat.le_of_ble_eq_true hok.1.2
  obtain ⟨z', e, g1, g2, g3⟩ := buildS_fill _ _ _ _ _ hf
  obtain rfl := some_eq e
  have hzn : (zerosL z (len * sz)).length = len * sz := by unfold zerosL; simp
  rw [zip_snd _ _ (by rw [List.length_map, ← opvs_len hvs, List.length_map])] at g3
  refine X.bs ho hg hd ht hel hz hzl hvs g1 ?_ (by rw [g2, hzn]; exact Nat.beq_refl _) hn h
  simp only [Bool.and_eq_true]
  refine ⟨⟨⟨⟨?_, hok.1.1⟩, hok.1.2⟩, hok.2⟩, g3⟩
  rw [List.all_eq_true] at hzp ⊢
  intro v hv
  unfold zerosL at hv
  simp only [List.mem_map, List.mem_range] at hv
  obtain ⟨j, _, rfl⟩ := hv
  have hlt : j % z.length < z.length := Nat.mod_lt _ (by omega)
  rw [getElem!_pos z (j % z.length) hlt]
  exact hzp _ (List.getElem_mem hlt)
/-- The end of a region in the text's order. -/
theorem X.nil0S {P : Program} {S : St → Hp → Loc → Prop} (h : S B K L) : X P N ops .o [] B K L fun _ B K L => S B K L := X.nil0 (R := fun _ => S) h
/-- A store into one's own. -/
theorem X.stM (p : Nat) {T b off n : Nat} {x y : Operand} {cells vs cs : List Value} {T' sz : Nat} (ho : o.op = .store T x y) (hg : gV ops o L = some true) (hd : o.dst = none) (hx : opvL L x = some (.pointer (some ⟨b, off, none⟩))) (hy : opvL L y = some v) (hp : K[p]? = some (some (b, ⟨cells, T', sz⟩)))
    (hn : lk sizT T = some n) (hv : cellsOf v = some vs) (hl : (Nat.beq vs.length n && Nat.blt 0 sz) = true) (hf : putS off cells vs some = some cs)
    (h : X Tryz.prog N ops (dMap d (Dr.mod · p)) l B (K.set p (some (b, ⟨cs, T', sz⟩))) L Q) : X Tryz.prog N ops d (o :: l) B K L Q := by
  obtain ⟨g1, g2⟩ := putS_eq _ _ _ _ _ hf
  obtain rfl := some_eq g2
  rw [Bool.and_eq_true] at hl
  exact X.st p ho hg hd hx hy hp hn hv (by rw [hl.1, hl.2, Nat.ble_eq_true_of_le g1]; rfl) h
end
end Go.Proofs.YthldmlfpebgojaaGreatDoor
/-
  Contracts: the timetable of the laws' data.
  Condition: one to five flights.
-/
namespace Go.Proofs.YthldmlfpebgojaaGreatDoor
set_option linter.unusedSimpArgs false
set_option linter.unusedVariables false
set_option maxRecDepth 100000
set_option maxHeartbeats 0
open Go.RowKit Go

def sA : ByteArray := ⟨#[65, 65, 65]⟩
def sB : ByteArray := ⟨#[66, 66, 66]⟩
def sC : ByteArray := ⟨#[67, 67, 67]⟩
def routes : List (List ByteArray) := [[sA, sB], [sB, sA], [sA, sC], [sC, sA], [sB, sC], [sC, sB]]
def nums : List ByteArray := [⟨#[70, 48]⟩, ⟨#[70, 49]⟩, ⟨#[70, 50]⟩, ⟨#[70, 51]⟩, ⟨#[70, 52]⟩, ⟨#[70, 53]⟩, ⟨#[70, 54]⟩, ⟨#[70, 55]⟩, ⟨#[70, 56]⟩]
def gaps : List Int := [75, 100, 130, 240, 60, 700, 95, 110]
theorem routes_ok : ∀ (r : Nat) (h : r < routes.length), ∃ a b, routes[r] = [a, b] ∧ isApt a ∧ isApt b ∧ a ≠ b
  | 0, _ => ⟨sA, sB, rfl, .inl rfl, .inr (.inl rfl), by decide⟩
  | 1, _ => ⟨sB, sA, rfl, .inr (.inl rfl), .inl rfl, by decide⟩
  | 2, _ => ⟨sA, sC, rfl, .inl rfl, .inr (.inr rfl), by decide⟩
  | 3, _ => ⟨sC, sA, rfl, .inr (.inr rfl), .inl rfl, by decide⟩
  | 4, _ => ⟨sB, sC, rfl, .inr (.inl rfl), .inr (.inr rfl), by decide⟩
  | 5, _ => ⟨sC, sB, rfl, .inr (.inr rfl), .inr (.inl rfl), by decide⟩
  | r + 6, h => absurd h (by show ¬ r + 6 < 6; omega)
theorem nums_ok : ∀ (i : Nat) (h : i < nums.length), i < 5 → nums[i] = ⟨#[70, 48]⟩ ∨ nums[i] = ⟨#[70, 49]⟩ ∨ nums[i] = ⟨#[70, 50]⟩ ∨ nums[i] = ⟨#[70, 51]⟩ ∨ nums[i] = ⟨#[70, 52]⟩
  | 0, _, _ => .inl rfl
  | 1, _, _ => .inr (.inl rfl)
  | 2, _, _ => .inr (.inr (.inl rfl))
  | 3, _, _ => .inr (.inr (.inr (.inl rfl)))
  | 4, _, _ => .inr (.inr (.inr (.inr rfl)))
  | i + 5, _, h => absurd h (by omega)
theorem gaps_ok (i : Nat) (h : i < gaps.length) : 60 ≤ gaps[i] ∧ gaps[i] ≤ 700 := by
  have : ∀ x ∈ gaps, 60 ≤ x ∧ x ≤ 700 := by decide
  exact this _ (List.getElem_mem h)
theorem Rows.strs {B : St} (xs : List ByteArray) : Rows Dt.str B (xs.map (.string ·)) xs := by
  refine ⟨by rw [List.length_map]; exact (Nat.mul_one _).symm, fun i x h => ?_⟩
  have hlt := (List.getElem?_eq_some_iff.1 h).1
  change ((xs.map (Value.string ·)).drop (i * 1)).take 1 = [.string x]
  rw [Nat.mul_one, List.drop_eq_getElem_cons (by rw [List.length_map]; exact hlt)]
  simp [(List.getElem?_eq_some_iff.1 h).2]
theorem giveStrs {B : St} {b T : Nat} {cs : List Value} (hg : B.get b = some ⟨cs, T, 1⟩) (vs : List ByteArray) (e : cs = vs.map (.string ·)) : SqS Dt.str B ⟨some ⟨b, 0, none⟩, vs.length, vs.length⟩ vs := by
  subst e
  exact Sq.of_row (t := Dt.str) hg (Rows.strs vs)
theorem giveSlc {α : Type} {D : Dt α} {B : St} {A : Option Addr} {n c : Nat} {xs : List α} (h : Sq D B A n c xs) : Rows D.slice B [.slice A n c] [xs] := Rows.one (t := D.slice) ⟨_, _, _, rfl, h⟩
/-- Flights so far, and the next departure. -/
structure FI (xs : List Flt) (z : Int) (i : Nat) : Prop where
  len : xs.length = i
  fine : ∀ f ∈ xs, FlFine f
  codes : ∀ f ∈ xs, isApt f.frm ∧ isApt f.to
  needs : ∀ f ∈ xs, f.n0 = 1 ∧ (f.n1 = 0 ∨ f.n1 = 1) ∧ f.n2 = 0
  lo : 12960360 ≤ z
  hi : z ≤ 12960360 + 700 * (i : Int)
  bef : ∀ f ∈ xs, f.dep < z
  ord : ∀ (j k : Nat) (hj : j < xs.length) (hk : k < xs.length), j < k → xs[j].dep < xs[k].dep
theorem FI.nil : FI [] 12960360 0 := ⟨rfl, (fun f h => by cases h), (fun f h => by cases h), (fun f h => by cases h), by decide, by decide, (fun f h => by cases h), fun j k hj => absurd hj (by simp)⟩
theorem FI.add {xs : List Flt} {z w : Int} {i : Nat} {f : Flt} (h : FI xs z i) (h1 : FlFine f) (h2 : isApt f.frm ∧ isApt f.to) (h3 : f.n0 = 1 ∧ (f.n1 = 0 ∨ f.n1 = 1) ∧ f.n2 = 0) (hd : f.dep = z) (hw : z + 60 ≤ w ∧ w ≤ z + 700) : FI (xs ++ [f]) w (i + 1) := by
  have hm : ∀ g ∈ xs ++ [f], g ∈ xs ∨ g = f := fun g hg => by
    rw [List.mem_append, List.mem_singleton] at hg
    exact hg
  have hlo := h.lo
  have hhi := h.hi
  refine ⟨by rw [List.length_append, h.len]; rfl, fun g hg => ?_, fun g hg => ?_, fun g hg => ?_, by omega, by omega, fun g hg => ?_, fun j k hj hk hjk => ?_⟩
  · rcases hm g hg with hg | rfl
    · exact h.fine g hg
    · exact h1
  · rcases hm g hg with hg | rfl
    · exact h.codes g hg
    · exact h2
  · rcases hm g hg with hg | rfl
    · exact h.needs g hg
    · exact h3
  · rcases hm g hg with hg | rfl
    · have := h.bef g hg; omega
    · omega
  · rw [List.length_append, List.length_singleton] at hj hk
    have hj2 : j < xs.length := by omega
    rw [List.getElem_append_left hj2]
    by_cases hk2 : k < xs.length
    · rw [List.getElem_append_left hk2]
      exact h.ord j k hj2 hk2 hjk
    · rw [List.getElem_append_right (by omega)]
      simp only [List.getElem_singleton]
      have := h.bef _ (List.getElem_mem hj2)
      omega
theorem FI.ok {xs : List Flt} {z : Int} {i : Nat} (h : FI xs z i) (hi : i ≤ 5) : FlsOk xs := ⟨fun j hj => by
  have h1 := h.fine _ (List.getElem_mem hj)
  have h2 := h1.dep
  have h3 := h1.arr
  have h4 := h1.lt
  omega, h.ord, by rw [h.len]; omega⟩
-- KEEP 16
-- BSM
section
variable {B : St}
theorem timetable_ev {s : Slc} {xs : List Int} (hs : SqS (Dt.int .i64) B s xs) (hl : xs.length ≤ 9223372036854775807) (n : Nat) (hn : 1 ≤ n ∧ n ≤ 5) :
    EvP Tryz.prog 27 [s.v, .int .i64 (n : Int)] B fun v B1 => ∃ (t : TT) (fs : List Flt), v = t.v ∧ TTAt B1 t fs ∧ fs.length = n ∧ (∀ f ∈ fs, FlFine f) ∧ ∀ f ∈ fs, f.n0 = 1 ∧ (f.n1 = 0 ∨ f.n1 = 1) ∧ f.n2 = 0 := by
  refine EvP.go Tryz.func27 rfl Tryz.ntmps27 Tryz.results27 rfl [none] rfl ?_
  refine J.seq ?_
  refine J.roA rfl ?_
  (repeat' (first | refine X.nil0S ?_ | refine X.al rfl rfl rfl rfl rfl rfl rfl fun b => ?_))
  refine J.seq ?_
  refine J.cutT (σ := Nat × Nat × Nat) (fun q => [(0, s.v), (1, .int .i64 (n : Int)), (4, .pointer (some ⟨b, 0, none⟩)), (5, .pointer (some ⟨q.2.2, 0, none⟩))])
    (fun q => [none, some (b, ⟨[.slice none 0 0, .slice none 0 0, .slice none 0 0], 27, 1⟩), some (q.1, ⟨[.int .i64 12961060, .int .i64 60], 154, 2⟩),
      some (q.2.1, ⟨[.string ⟨#[117, 116, 99]⟩, .int .i64 0, .slice none 0 0, .string ⟨#[101, 97, 115, 116]⟩, .int .i64 120, .slice (some ⟨q.1, 0, none⟩) 1 1], 152, 3⟩),
      some (q.2.2, ⟨[.slice (some ⟨q.2.1, 0, none⟩) 2 2, .slice none 0 0, .slice none 0 0], 27, 1⟩)]) (fun B1 _ => B1 = B) ?_ ?_
  · refine J.roA rfl ?_
    (repeat' (first | refine X.nil0S ?_ | refine X.al rfl rfl rfl rfl rfl rfl rfl fun b => ?_ | refine X.stM 4 rfl rfl rfl rfl rfl rfl rfl rfl rfl rfl ?_ | refine X.bsN rfl rfl rfl rfl rfl rfl rfl rfl rfl rfl rfl rfl (fun b => ?_) | refine X.bdM rfl rfl rfl rfl rfl rfl rfl rfl rfl rfl ?_))
    exact ⟨rfl, (_, _, _), ⟨rfl, rfl, rfl, rfl, trivial⟩, (fun _ _ _ h => h), rfl⟩
  rintro ⟨sb, zb, tb⟩ B1 hB1 rfl
  dsimp only
  refine J.give (p := 2) rfl fun B1 hB1 hsb => ?_
  refine J.give (p := 3) rfl fun B2 hB2 hzb => ?_
  refine J.less (K' := [none, some (b, ⟨[.slice none 0 0, .slice none 0 0, .slice none 0 0], 27, 1⟩), none, none, some (tb, ⟨[.slice (some ⟨zb, 0, none⟩) 2 2, .slice none 0 0, .slice none 0 0], 27, 1⟩)]) (L' := [(0, s.v), (1, .int .i64 (n : Int)), (4, .pointer (some ⟨b, 0, none⟩)), (5, .pointer (some ⟨tb, 0, none⟩))]) ?_ ⟨rfl, rfl, rfl, rfl, trivial⟩ (fun _ _ _ h => h)
  refine J.seq ?_
  refine J.cutT (σ := Nat) (fun q => [(0, s.v), (1, .int .i64 (n : Int)), (4, .pointer (some ⟨b, 0, none⟩)), (5, .pointer (some ⟨tb, 0, none⟩))])
    (fun q => [none, some (b, ⟨[.slice none 0 0, .slice none 0 0, .slice none 0 0], 27, 1⟩), none, none, some (tb, ⟨[.slice (some ⟨zb, 0, none⟩) 2 2, .slice (some ⟨q, 0, none⟩) 3 3, .slice none 0 0], 27, 1⟩),
      some (q, ⟨[.string sA, .string ⟨#[117, 116, 99]⟩, .string sB, .string ⟨#[117, 116, 99]⟩, .string sC, .string ⟨#[101, 97, 115, 116]⟩], 156, 2⟩)]) (fun B3 _ => B3 = B2) ?_ ?_
  · refine J.roA rfl ?_
    (repeat' (first | refine X.nil0S ?_ | refine X.ro rfl rfl ?_ | refine X.stM 4 rfl rfl rfl rfl rfl rfl rfl rfl rfl rfl ?_ | refine X.bsN rfl rfl rfl rfl rfl rfl rfl rfl rfl rfl rfl rfl (fun b => ?_) | refine X.bdM rfl rfl rfl rfl rfl rfl rfl rfl rfl rfl ?_))
    exact ⟨rfl, _, ⟨rfl, rfl, rfl, rfl, trivial⟩, (fun _ _ _ h => h), rfl⟩
  rintro ab B3 hB3 rfl
  refine J.give (p := 5) rfl fun B3 hB3 hab => ?_
  refine J.less (K' := [none, some (b, ⟨[.slice none 0 0, .slice none 0 0, .slice none 0 0], 27, 1⟩), none, none, some (tb, ⟨[.slice (some ⟨zb, 0, none⟩) 2 2, .slice (some ⟨ab, 0, none⟩) 3 3, .slice none 0 0], 27, 1⟩), none]) (L' := [(0, s.v), (1, .int .i64 (n : Int)), (4, .pointer (some ⟨b, 0, none⟩)), (5, .pointer (some ⟨tb, 0, none⟩))]) ?_ ⟨rfl, rfl, rfl, rfl, trivial⟩ (fun _ _ _ h => h)
  refine J.seq ?_
  refine J.roA rfl ?_
  (repeat' (first | refine X.nil0S ?_ | refine X.ro rfl rfl ?_))
  refine J.seq ?_
  refine J.cutT (σ := Nat × Nat × Nat × Nat × Nat × Nat × Nat) (fun q => [(0, s.v), (1, .int .i64 (n : Int)), (4, .pointer (some ⟨b, 0, none⟩)), (5, .pointer (some ⟨tb, 0, none⟩)), (6, .int .i64 12960360), (7, .slice (some ⟨q.2.2.2.2.2.2, 0, none⟩) 6 6)])
    (fun q => [none, some (b, ⟨[.slice none 0 0, .slice none 0 0, .slice none 0 0], 27, 1⟩), none, none, some (tb, ⟨[.slice (some ⟨zb, 0, none⟩) 2 2, .slice (some ⟨ab, 0, none⟩) 3 3, .slice none 0 0], 27, 1⟩), none,
      some (q.1, ⟨[.string sA, .string sB], 9, 1⟩), some (q.2.1, ⟨[.string sB, .string sA], 9, 1⟩), some (q.2.2.1, ⟨[.string sA, .string sC], 9, 1⟩), some (q.2.2.2.1, ⟨[.string sC, .string sA], 9, 1⟩), some (q.2.2.2.2.1, ⟨[.string sB, .string sC], 9, 1⟩), some (q.2.2.2.2.2.1, ⟨[.string sC, .string sB], 9, 1⟩),
      some (q.2.2.2.2.2.2, ⟨[.slice (some ⟨q.1, 0, none⟩) 2 2, .slice (some ⟨q.2.1, 0, none⟩) 2 2, .slice (some ⟨q.2.2.1, 0, none⟩) 2 2, .slice (some ⟨q.2.2.2.1, 0, none⟩) 2 2, .slice (some ⟨q.2.2.2.2.1, 0, none⟩) 2 2, .slice (some ⟨q.2.2.2.2.2.1, 0, none⟩) 2 2], 36, 1⟩)]) (fun B4 _ => B4 = B3) ?_ ?_
  · refine J.roA rfl ?_
    (repeat' (first | refine X.nil0S ?_ | refine X.ro rfl rfl ?_ | refine X.bs1 rfl rfl rfl rfl rfl rfl rfl rfl rfl rfl rfl rfl rfl (fun b => ?_)))
    exact ⟨rfl, (_, _, _, _, _, _, _), ⟨rfl, rfl, rfl, rfl, rfl, rfl, trivial⟩, (fun _ _ _ h => h), rfl⟩
  rintro ⟨r1, r2, r3, r4, r5, r6, rr⟩ B4 hB4 hB4e
  subst hB4e
  dsimp only
  refine J.give (p := 6) rfl fun C1 k1 g1 => ?_
  refine J.give (p := 7) rfl fun C2 k2 g2 => ?_
  refine J.give (p := 8) rfl fun C3 k3 g3 => ?_
  refine J.give (p := 9) rfl fun C4 k4 g4 => ?_
  refine J.give (p := 10) rfl fun C5 k5 g5 => ?_
  refine J.give (p := 11) rfl fun C6 k6 g6 => ?_
  refine J.give (p := 12) rfl fun C7 k7 g7 => ?_
  have k67 := k6.trans k7
  have k57 := k5.trans k67
  have k47 := k4.trans k57
  have k37 := k3.trans k47
  have k27 := k2.trans k37
  have k17 := k1.trans k27
  have hR : SqS Dt.str.slice C7 ⟨some ⟨rr, 0, none⟩, 6, 6⟩ routes := Sq.of_row (t := Dt.str.slice) g7 ((giveSlc ((giveStrs g1 [sA, sB] rfl).ge k27)).app ((giveSlc ((giveStrs g2 [sB, sA] rfl).ge k37)).app ((giveSlc ((giveStrs g3 [sA, sC] rfl).ge k47)).app ((giveSlc ((giveStrs g4 [sC, sA] rfl).ge k57)).app ((giveSlc ((giveStrs g5 [sB, sC] rfl).ge k67)).app (giveSlc ((giveStrs g6 [sC, sB] rfl).ge k7)))))))
  have hZ : ∃ zu ze, SqS .zv C7 ⟨some ⟨zb, 0, none⟩, 2, 2⟩ [zu, ze] ∧ zu.name = utcZ.name ∧ ze.name = eastZ.name := by
    refine ⟨⟨utcZ.name, 0, ⟨none, 0, 0⟩⟩, ⟨eastZ.name, 120, ⟨some ⟨sb, 0, none⟩, 1, 1⟩⟩, Sq.of_row (t := .zv) (k17 _ _ (hB3 _ _ hzb)) ((Rows.one (t := .zv) ⟨rfl, .inl rfl⟩).app (Rows.one (t := .zv) ⟨rfl, .inr ⟨sb, 2, rfl, k17 _ _ (hB3 _ _ (hB2 _ _ hsb)), by decide⟩⟩)), rfl, rfl⟩
  have hA : SqS .apt C7 ⟨some ⟨ab, 0, none⟩, 3, 3⟩ apts := Sq.of_row (t := .apt) (k17 _ _ hab) ((Rows.one (t := .apt) (y := ⟨sA, utcZ.name⟩) rfl).app ((Rows.one (t := .apt) (y := ⟨sB, utcZ.name⟩) rfl).app (Rows.one (t := .apt) (y := ⟨sC, eastZ.name⟩) rfl)))
  refine J.less (K' := [none, some (b, ⟨[.slice none 0 0, .slice none 0 0, .slice none 0 0], 27, 1⟩), none, none, some (tb, ⟨[.slice (some ⟨zb, 0, none⟩) 2 2, .slice (some ⟨ab, 0, none⟩) 3 3, .slice none 0 0], 27, 1⟩)]) (L' := [(0, s.v), (1, .int .i64 (n : Int)), (4, .pointer (some ⟨b, 0, none⟩)), (5, .pointer (some ⟨tb, 0, none⟩)), (6, .int .i64 12960360), (7, .slice (some ⟨rr, 0, none⟩) 6 6)]) ?_ ⟨rfl, rfl, rfl, rfl, rfl, rfl, trivial⟩ (Less.app [_, _, _, _, _] _)
  (repeat' (first | refine X.nil0S ?_ | refine J.seq ?_ | refine J.roA rfl ?_ | refine X.ro rfl rfl ?_))
  refine J.block ?_
  refine J.loop (σ := Nat × Int × Acc Flt) (fun q => [(0, s.v), (1, .int .i64 (n : Int)), (4, .pointer (some ⟨b, 0, none⟩)), (5, .pointer (some ⟨tb, 0, none⟩)), (6, .int .i64 q.2.1), (7, .slice (some ⟨rr, 0, none⟩) 6 6), (8, .int .i64 (q.1 : Int))]) (fun q => [q.2.2.e 103 9, some (b, ⟨[.slice none 0 0, .slice none 0 0, .slice none 0 0], 27, 1⟩), none, none, some (tb, ⟨[.slice (some ⟨zb, 0, none⟩) 2 2, .slice (some ⟨ab, 0, none⟩) 3 3, q.2.2.v], 27, 1⟩)])
    (fun D1 q => Ge C7 D1 ∧ q.1 ≤ n ∧ q.2.2.Ok .flt D1 ∧ FI q.2.2.xs q.2.1 q.1) (fun q => n - q.1) (0, 12960360, .nil) ⟨Ge.refl _, Nat.zero_le _, .nil, FI.nil⟩ ⟨rfl, rfl, rfl, rfl, rfl, rfl, rfl, trivial⟩ (fun _ _ _ h => h) ?_
  rintro ⟨i, z, a⟩ D1 hD ⟨hD1, hi, ha, hF⟩
  dsimp only at hi ha hF ⊢
  have hlo := hF.lo
  have hhi := hF.hi
  have hs1 := (((((hs.ge hB1).ge hB2).ge hB3).ge k17).ge hD1)
  (repeat' (first | refine X.nil0S ?_ | refine J.seq ?_ | refine J.roA rfl ?_ | refine X.ro rfl rfl ?_))
  refine J.cond_d rfl (fun h => ?_) (fun h => ?_)
  · (repeat' (first | refine J.seq ?_ | refine J.skip ?_))
    refine J.block ?_
    (repeat' (first | refine J.seq ?_ | refine J.roA rfl ?_ | refine X.ro rfl rfl ?_))
    refine X.callq rfl rfl (gV_ok rfl) rfl rfl rfl rfl (en rfl) (at_ev hs1 hl i (by omega)) ?_
    rintro v ⟨k, rfl, hk0, hk1⟩
    (repeat' (first | refine X.nil0S ?_ | refine J.seq ?_ | refine J.roA rfl ?_ | refine X.ro rfl rfl ?_))
    refine X.andk 1 rfl rfl rfl rfl rfl rfl rfl rfl ?_
    (repeat' (first | refine X.nil0S ?_ | refine J.seq ?_ | refine J.roA rfl ?_ | refine X.ro rfl rfl ?_))
    refine X.andk 3 rfl rfl rfl rfl rfl rfl rfl rfl ?_
    (repeat' (first | refine X.nil0S ?_))
    refine J.cutT (σ := Nat) (fun r => [(0, s.v), (1, .int .i64 (n : Int)), (4, .pointer (some ⟨b, 0, none⟩)), (5, .pointer (some ⟨tb, 0, none⟩)), (6, .int .i64 z), (7, .slice (some ⟨rr, 0, none⟩) 6 6), (8, .int .i64 (i : Int)), (9, .int .i64 k), (10, .int .i64 (r : Int))]) (fun _ => [a.e 103 9, some (b, ⟨[.slice none 0 0, .slice none 0 0, .slice none 0 0], 27, 1⟩), none, none, some (tb, ⟨[.slice (some ⟨zb, 0, none⟩) 2 2, .slice (some ⟨ab, 0, none⟩) 3 3, a.v], 27, 1⟩)]) (fun D2 r => D2 = D1 ∧ r < 6) ?_ ?_
    · have hd8 : k.fdiv (2 ^ 3) = k / 8 := Int.fdiv_eq_ediv_of_nonneg _ (by decide)
      (repeat' (first | refine X.nil0S ?_ | refine J.seq ?_ | refine J.block ?_ | refine J.roA rfl ?_ | refine X.ro rfl rfl ?_ | refine J.skip ?_ | refine J.cond_d rfl (fun h => ?_) (fun h => ?_)))
      · refine X.andk 1 rfl rfl rfl rfl rfl rfl rfl rfl ?_
        (repeat' (first | refine X.nil0S ?_ | refine X.ro rfl rfl ?_ | refine X.ad rfl rfl rfl rfl rfl rfl (by omega) ?_))
        exact ⟨rfl, 2 + i % 2, ⟨rfl, rfl, rfl, rfl, rfl, rfl, rfl, rfl, (by show some _ = some _; congr 2 <;> omega), trivial⟩, (fun _ _ _ h => h), rfl, by omega⟩
      · refine X.andk 1 rfl rfl rfl rfl rfl rfl rfl rfl ?_
        (repeat' (first | refine X.nil0S ?_ | refine X.ro rfl rfl ?_ | refine X.sb rfl rfl rfl rfl rfl rfl (by omega) ?_))
        exact ⟨rfl, 3 - i % 2, ⟨rfl, rfl, rfl, rfl, rfl, rfl, rfl, rfl, (by show some _ = some _; congr 2 <;> omega), trivial⟩, (fun _ _ _ h => h), rfl, by omega⟩
      · refine X.bq (v := .int .i64 (k.fdiv (2 ^ 3))) rfl rfl rfl rfl rfl rfl rfl rfl rfl rfl ?_
        rw [hd8]
        skip
        refine X.rew rfl rfl rfl rfl rfl rfl (by decide) ?_
        have hm6 : (k / 8).tmod 6 = (((k / 8) % 6).toNat : Int) := by
          rw [Int.tmod_eq_emod_of_nonneg (by omega)]
          omega
        rw [hm6]
        (repeat' (first | refine X.nil0S ?_ | refine X.ro rfl rfl ?_))
        exact ⟨rfl, ((k / 8) % 6).toNat, ⟨rfl, rfl, rfl, rfl, rfl, rfl, rfl, rfl, rfl, trivial⟩, (fun _ _ _ h => h), rfl, by omega⟩
      · show _ ∧ _
        exact ⟨rfl, i % 2, ⟨rfl, rfl, rfl, rfl, rfl, rfl, rfl, rfl, (by show some _ = some _; congr 2 <;> omega), trivial⟩, (fun _ _ _ h => h), rfl, by omega⟩
    · rintro r D2 hD2 ⟨hD2e, hr⟩
      subst hD2e
      refine J.seq ?_
      refine J.cutT (σ := Nat × Flt) (fun q => [(0, s.v), (1, .int .i64 (n : Int)), (4, .pointer (some ⟨b, 0, none⟩)), (5, .pointer (some ⟨tb, 0, none⟩)), (6, .int .i64 z), (7, .slice (some ⟨rr, 0, none⟩) 6 6), (8, .int .i64 (i : Int)), (9, .int .i64 k), (11, .pointer (some ⟨q.1, 0, none⟩))])
        (fun q => [a.e 103 9, some (b, ⟨[.slice none 0 0, .slice none 0 0, .slice none 0 0], 27, 1⟩), none, none, some (tb, ⟨[.slice (some ⟨zb, 0, none⟩) 2 2, .slice (some ⟨ab, 0, none⟩) 3 3, a.v], 27, 1⟩), none, some (q.1, ⟨[.string q.2.num, .string q.2.frm, .string q.2.to, .int .i64 q.2.dep, .int .i64 q.2.arr, .string q.2.typ, .int .i64 q.2.n0, .int .i64 q.2.n1, .int .i64 q.2.n2], 103, 1⟩)])
        (fun D3 q => Ge D2 D3 ∧ FlFine q.2 ∧ (isApt q.2.frm ∧ isApt q.2.to) ∧ q.2.n0 = 1 ∧ q.2.n1 = 1 ∧ q.2.n2 = 0 ∧ q.2.dep = z) ?_ ?_
      · refine J.rfA (id := 17) rfl ?_
        (repeat' (first | refine X.rf rfl rfl ?_ | refine X.bs1 rfl rfl rfl rfl rfl rfl rfl rfl rfl rfl rfl rfl rfl (fun b => ?_)))
        refine X.rew rfl rfl rfl rfl rfl rfl (by decide) ?_
        have hi9 : Int.tmod (i : Int) 9 = (i : Int) := by
          rw [Int.tmod_eq_emod_of_nonneg (by omega)]
          omega
        rw [hi9]
        have hR1 := hR.ge hD1
        obtain ⟨fx, fy, hxy, hfx, hfy, hne⟩ := routes_ok r hr
        have hi9' : i < nums.length := show i < 9 by omega
        refine X.ixo (ob := some _) (n := 9) (i := i) (show 0 < 9 by decide) hi9' rfl rfl rfl rfl rfl rfl rfl rfl fun b1 hb1 => ?_
        obtain rfl := some_eq hb1
        refine X.l1 5 (v := .string nums[i]) rfl rfl rfl rfl rfl rfl rfl (rdK_cell (by decide) (by show (nums.map (Value.string ·))[0 + i * 1]? = some (.string nums[i]); rw [Nat.zero_add, Nat.mul_one, List.getElem?_map, List.getElem?_eq_getElem hi9']; rfl)) rfl ?_
        (repeat' (first | refine X.rf rfl rfl ?_))
        refine X.ix hR1 (i := r) hr rfl rfl rfl rfl rfl rfl rfl rfl rfl fun b1 f1 cs1 hr1 hx1 => ?_
        obtain ⟨A0, n0, c0, rfl, hq0⟩ := hx1
        rw [hxy] at hq0
        skip
        refine X.ls 0 hr1 rfl (by first | exact .md | exact .mo | exact .mf) (Ge.refl _) rfl rfl rfl rfl rfl rfl rfl ?_
        skip
        refine X.ix hq0 (i := 0) (by show 0 < 2; decide) rfl rfl rfl rfl rfl rfl rfl rfl rfl fun b1 f1 cs1 hr1 hx1 => ?_
        obtain rfl := hx1
        refine X.ls 0 hr1 rfl (by first | exact .md | exact .mo | exact .mf) (Ge.refl _) rfl rfl rfl rfl rfl rfl rfl ?_
        (repeat' (first | refine X.rf rfl rfl ?_))
        refine X.ix hR1 (i := r) hr rfl rfl rfl rfl rfl rfl rfl rfl rfl fun b1 f1 cs1 hr1 hx1 => ?_
        obtain ⟨A1, n1, c1, rfl, hq1⟩ := hx1
        rw [hxy] at hq1
        skip
        refine X.ls 0 hr1 rfl (by first | exact .md | exact .mo | exact .mf) (Ge.refl _) rfl rfl rfl rfl rfl rfl rfl ?_
        skip
        refine X.ix hq1 (i := 1) (by show 1 < 2; decide) rfl rfl rfl rfl rfl rfl rfl rfl rfl fun b1 f1 cs1 hr1 hx1 => ?_
        obtain rfl := hx1
        refine X.ls 0 hr1 rfl (by first | exact .md | exact .mo | exact .mf) (Ge.refl _) rfl rfl rfl rfl rfl rfl rfl ?_
        (repeat' (first | refine X.rf rfl rfl ?_ | refine X.ad rfl rfl rfl rfl rfl rfl (by omega) ?_))
        have hd64 : k.fdiv (2 ^ 6) = k / 64 := Int.fdiv_eq_ediv_of_nonneg _ (by decide)
        refine X.bq (v := .int .i64 (k.fdiv (2 ^ 6))) rfl rfl rfl rfl rfl rfl rfl rfl rfl rfl ?_
        rw [hd64]
        skip
        refine X.andk 1 rfl rfl rfl rfl rfl rfl rfl rfl ?_
        skip
        refine X.muw rfl rfl rfl rfl rfl rfl ?_
        have hmu : IntKind.i64.wrap (30 * (k / 64 % ((2 ^ 1 : Nat) : Int))) = 30 * (k / 64 % 2) := by rw [IntKind.wrap_i64]; omega
        rw [hmu]
        have hb2 : 0 ≤ k / 64 % 2 ∧ k / 64 % 2 ≤ 1 := by omega
        generalize k / 64 % 2 = w at hb2 ⊢
        (repeat' (first | refine X.nilF ⟨by kernel_rfl, ?_⟩ | refine X.al rfl rfl rfl rfl rfl rfl rfl fun b => ?_ | refine X.stM 6 rfl rfl rfl rfl rfl rfl rfl rfl rfl rfl ?_ | refine X.ad rfl rfl rfl rfl rfl rfl (by omega) ?_ | refine X.bdM rfl rfl rfl rfl rfl rfl rfl rfl rfl rfl ?_ | refine X.bd3M rfl rfl rfl rfl rfl rfl ?_))
        refine ⟨rfl, (_, ⟨nums[i], fx, fy, z, z + 60 + 30 * w, ⟨#[98, 55, 51, 55]⟩, 1, 1, 0⟩), ⟨rfl, rfl, rfl, rfl, rfl, rfl, rfl, rfl, rfl, trivial⟩, (by
          intro p b X h
          match p, h with
          | 0, h => exact h
          | 1, h => exact h
          | 2, h => exact h
          | 3, h => exact h
          | 4, h => exact h
          | 5, h => cases h
          | 6, h => exact h
          | p + 7, h => cases h), Ge.refl _, ⟨nums_ok i hi9' (by omega), .inl rfl, hne, ?_, ?_, ?_, ?_, ⟨by dsimp only; omega, by dsimp only; omega⟩, ⟨by dsimp only; omega, by dsimp only; omega⟩, ⟨by dsimp only; omega, by dsimp only; omega⟩⟩, ⟨hfx, hfy⟩, rfl, rfl, rfl, rfl⟩ <;> dsimp only <;> omega
      · rintro ⟨fb, f⟩ D3 hD3 ⟨hD23, hf, hfc, hn0, hn1, hn2, hfd⟩
        dsimp only at hf hfc hn0 hn1 hn2 hfd ⊢
        obtain ⟨fnum, ffrm, fto, fdep, farr, ftyp, fn0, fn1, fn2⟩ := f
        dsimp only at hf hfc hn0 hn1 hn2 hfd ⊢
        subst hn0 hn1 hn2
        have ha3 := ha.ge hD23
        (repeat' (first | refine J.seq ?_ | refine J.roA rfl ?_ | refine X.ro rfl rfl ?_))
        refine X.bq (v := .int .i64 (k.fdiv (2 ^ 7))) rfl rfl rfl rfl rfl rfl rfl rfl rfl rfl ?_
        skip
        refine X.andk 3 rfl rfl rfl rfl rfl rfl rfl rfl ?_
        (repeat' (first | refine X.nil0S ?_ | refine X.ro rfl rfl ?_))
        refine J.cutT (σ := ByteArray) (fun _ => [(0, s.v), (1, .int .i64 (n : Int)), (4, .pointer (some ⟨b, 0, none⟩)), (5, .pointer (some ⟨tb, 0, none⟩)), (6, .int .i64 z), (7, .slice (some ⟨rr, 0, none⟩) 6 6), (8, .int .i64 (i : Int)), (9, .int .i64 k), (11, .pointer (some ⟨fb, 0, none⟩))]) (fun ty => [a.e 103 9, some (b, ⟨[.slice none 0 0, .slice none 0 0, .slice none 0 0], 27, 1⟩), none, none, some (tb, ⟨[.slice (some ⟨zb, 0, none⟩) 2 2, .slice (some ⟨ab, 0, none⟩) 3 3, a.v], 27, 1⟩), none, some (fb, ⟨[.string fnum, .string ffrm, .string fto, .int .i64 fdep, .int .i64 farr, .string ty, .int .i64 1, .int .i64 1, .int .i64 0], 103, 1⟩)]) (fun D4 ty => D4 = D3 ∧ (ty = ftyp ∨ ty = ⟨#[97, 51, 50, 48]⟩)) ?_ ?_
        · (repeat' (first | refine X.nil0S ?_ | refine J.roA rfl ?_ | refine X.ro rfl rfl ?_ | refine J.skip ?_ | refine X.stM 6 rfl rfl rfl rfl rfl rfl rfl rfl rfl rfl ?_ | refine J.cond_d rfl (fun h => ?_) (fun h => ?_)))
          · exact ⟨rfl, _, ⟨rfl, rfl, rfl, rfl, rfl, rfl, rfl, rfl, rfl, trivial⟩, (fun _ _ _ h => h), rfl, .inr rfl⟩
          · exact ⟨rfl, _, ⟨rfl, rfl, rfl, rfl, rfl, rfl, rfl, rfl, rfl, trivial⟩, (fun _ _ _ h => h), rfl, .inl rfl⟩
        rintro ty D4 hD4 ⟨hD4e, hty⟩
        subst hD4e
        (repeat' (first | refine J.seq ?_ | refine J.roA rfl ?_ | refine X.ro rfl rfl ?_))
        refine X.bq (v := .int .i64 (k.fdiv (2 ^ 10))) rfl rfl rfl rfl rfl rfl rfl rfl rfl rfl ?_
        skip
        refine X.andk 4 rfl rfl rfl rfl rfl rfl rfl rfl ?_
        (repeat' (first | refine X.nil0S ?_ | refine X.ro rfl rfl ?_))
        refine J.cutT (σ := Int) (fun _ => [(0, s.v), (1, .int .i64 (n : Int)), (4, .pointer (some ⟨b, 0, none⟩)), (5, .pointer (some ⟨tb, 0, none⟩)), (6, .int .i64 z), (7, .slice (some ⟨rr, 0, none⟩) 6 6), (8, .int .i64 (i : Int)), (9, .int .i64 k), (11, .pointer (some ⟨fb, 0, none⟩))]) (fun m => [a.e 103 9, some (b, ⟨[.slice none 0 0, .slice none 0 0, .slice none 0 0], 27, 1⟩), none, none, some (tb, ⟨[.slice (some ⟨zb, 0, none⟩) 2 2, .slice (some ⟨ab, 0, none⟩) 3 3, a.v], 27, 1⟩), none, some (fb, ⟨[.string fnum, .string ffrm, .string fto, .int .i64 fdep, .int .i64 farr, .string ty, .int .i64 1, .int .i64 m, .int .i64 0], 103, 1⟩)]) (fun D5 m => D5 = D4 ∧ (m = 0 ∨ m = 1)) ?_ ?_
        · (repeat' (first | refine X.nil0S ?_ | refine J.roA rfl ?_ | refine X.ro rfl rfl ?_ | refine J.skip ?_ | refine X.stM 6 rfl rfl rfl rfl rfl rfl rfl rfl rfl rfl ?_ | refine X.bd3M rfl rfl rfl rfl rfl rfl ?_ | refine J.cond_d rfl (fun h => ?_) (fun h => ?_)))
          · exact ⟨rfl, _, ⟨rfl, rfl, rfl, rfl, rfl, rfl, rfl, rfl, rfl, trivial⟩, (fun _ _ _ h => h), rfl, .inl rfl⟩
          · exact ⟨rfl, _, ⟨rfl, rfl, rfl, rfl, rfl, rfl, rfl, rfl, rfl, trivial⟩, (fun _ _ _ h => h), rfl, .inr rfl⟩
        rintro m D5 hD5 ⟨hD5e, hm⟩
        subst hD5e
        have hF2 : FlFine ⟨fnum, ffrm, fto, fdep, farr, ty, 1, m, 0⟩ := ⟨hf.num, by rcases hty with rfl | rfl; exact hf.typ; exact .inr rfl, hf.ne, hf.dep, hf.arr, hf.lt, hf.len, hf.n0, by dsimp only; omega, hf.n2⟩
        have hal := hF.len
        (repeat' (first | refine J.seq ?_ | refine J.roA rfl ?_ | refine X.ro rfl rfl ?_ | refine X.l1 4 rfl rfl rfl rfl rfl rfl rfl rfl rfl ?_ | refine X.la 6 rfl rfl rfl rfl rfl rfl rfl rfl rfl rfl ?_ | refine X.bsN rfl rfl rfl rfl rfl rfl rfl rfl rfl rfl rfl rfl (fun b => ?_)))
        refine X.ac1 (D := .flt) 0 7 (z := ⟨fnum, ffrm, fto, fdep, farr, ty, 1, m, 0⟩) ha3 rfl rfl rfl rfl rfl rfl rfl rfl rfl rfl rfl rfl rfl rfl rfl rfl (by show (_ + 1) * 104 ≤ _; omega) (by omega) fun a2 e2 ha2 => ?_
        (repeat' (first | refine X.nil0S ?_ | refine J.roA rfl ?_ | refine X.ro rfl rfl ?_ | refine X.stM 4 rfl rfl rfl rfl rfl rfl rfl rfl rfl rfl ?_ | refine X.bs1 rfl rfl rfl rfl rfl rfl rfl rfl rfl rfl rfl rfl rfl (fun b => ?_)))
        refine X.bq (v := .int .i64 (k.fdiv (2 ^ 8))) rfl rfl rfl rfl rfl rfl rfl rfl rfl rfl ?_
        skip
        refine X.andk 3 rfl rfl rfl rfl rfl rfl rfl rfl ?_
        obtain ⟨g, hg, hgl⟩ : ∃ g : Nat, k.fdiv (2 ^ 8) % ((2 ^ 3 : Nat) : Int) = (g : Int) ∧ g < gaps.length := ⟨(k.fdiv (2 ^ 8) % ((2 ^ 3 : Nat) : Int)).toNat, by omega, by show _ < 8; omega⟩
        rw [hg]
        have hgo := gaps_ok g hgl
        refine X.ixo (ob := some _) (n := 8) (i := g) (show 0 < 8 by decide) hgl rfl rfl rfl rfl rfl rfl rfl rfl fun b1 hb1 => ?_
        obtain rfl := some_eq hb1
        refine X.l1 8 (v := .int .i64 gaps[g]) rfl rfl rfl rfl rfl rfl rfl (rdK_cell (by decide) (by show (gaps.map (Value.int .i64 ·))[0 + g * 1]? = some (.int .i64 gaps[g]); rw [Nat.zero_add, Nat.mul_one, List.getElem?_map, List.getElem?_eq_getElem hgl]; rfl)) rfl ?_
        (repeat' (first | refine X.nil0S ?_ | refine J.roA rfl ?_ | refine X.ro rfl rfl ?_ | refine X.ad rfl rfl rfl rfl rfl rfl (by omega) ?_))
        exact ⟨(i + 1, z + gaps[g], a2), ⟨rfl, rfl, rfl, rfl, rfl, rfl, rfl, trivial⟩, Less.app [_, _, _, _, _] _, ⟨hD1.trans hD23, by dsimp only; omega, ha2, e2 ▸ hF.add (w := z + gaps[g]) hF2 hfc ⟨rfl, hm, rfl⟩ hfd ⟨by omega, by omega⟩⟩, by dsimp only; omega⟩
  · (repeat' (first | refine X.nil0S ?_ | refine J.seq ?_ | refine J.roA rfl ?_ | refine J.exit ?_ | refine J.ret ?_ | refine X.la 4 rfl rfl rfl rfl rfl rfl rfl rfl rfl rfl ?_ | refine X.stM 1 rfl rfl rfl rfl rfl rfl rfl rfl rfl rfl ?_))
    obtain ⟨zu, ze, hz1, hz2, hz3⟩ := hZ
    refine ⟨_, .cons (.cellA (p := 1) rfl (ag rfl) (sz rfl) rfl rfl) .nil, rfl, fun B' hB' hK => ⟨⟨⟨some ⟨zb, 0, none⟩, 2, 2⟩, ⟨some ⟨ab, 0, none⟩, 3, 3⟩, ⟨oa a.ob, a.xs.length, a.xs.length⟩⟩, a.xs, rfl, ⟨(ha.ge hB').sq (T := 103) fun b Y h => hK b Y (by rw [← h]; exact .head _), hF.ok (by omega), ⟨zu, ze, (hz1.ge hD1).ge hB', hz2, hz3⟩, (hA.ge hD1).ge hB', hF.codes⟩, by rw [hF.len]; omega, hF.fine, hF.needs⟩⟩
end
end Go.Proofs.YthldmlfpebgojaaGreatDoor
/-
  Contracts of the laws' data: each of the six, in memory.
  Condition: a copy of what was read of it stands.
-/
namespace Go.Proofs.YthldmlfpebgojaaGreatDoor
set_option linter.unusedSimpArgs false
set_option linter.unusedVariables false
set_option maxRecDepth 100000
set_option maxHeartbeats 0
open Go.RowKit Go

def pairsL : List (Int × ByteArray) := [(1, ⟨#[108, 101, 103, 115]⟩), (1, ⟨#[104, 101, 97, 100, 115]⟩), (1, ⟨#[98, 108, 111, 99, 107]⟩), (1, ⟨#[116, 121, 112, 101, 115]⟩), (1, ⟨#[115, 112, 97, 110]⟩), (1, ⟨#[115, 116, 97, 114, 116]⟩), (2, ⟨#[114, 101, 115, 116]⟩), (3, ⟨#[100, 117, 116, 105, 101, 115]⟩), (3, ⟨#[100, 97, 121, 115]⟩), (3, ⟨#[108, 101, 103, 115]⟩), (3, ⟨#[98, 108, 111, 99, 107]⟩)]
noncomputable def attrB (sc : Int) (n : ByteArray) : Bool := pairsL.any fun p => iEq p.1 sc && bytesEq p.2.data.toList n.data.toList
theorem attrB_ok {sc : Int} {n : ByteArray} (h : attrB sc n = true) : attrPair sc n := by
  obtain ⟨p, hp, h1⟩ := List.any_eq_true.1 h
  rw [Bool.and_eq_true] at h1
  have e1 := iEq_of h1.1
  have e2 := bytes_of h1.2
  subst e1 e2
  simp only [pairsL, List.mem_cons, List.not_mem_nil, or_false] at hp
  rcases hp with rfl | rfl | rfl | rfl | rfl | rfl | rfl | rfl | rfl | rfl | rfl
  · exact .inl ⟨rfl, .inl rfl⟩
  · exact .inl ⟨rfl, .inr (.inl rfl)⟩
  · exact .inl ⟨rfl, .inr (.inr (.inl rfl))⟩
  · exact .inl ⟨rfl, .inr (.inr (.inr (.inl rfl)))⟩
  · exact .inl ⟨rfl, .inr (.inr (.inr (.inr (.inl rfl))))⟩
  · exact .inl ⟨rfl, .inr (.inr (.inr (.inr (.inr rfl))))⟩
  · exact .inr (.inl ⟨rfl, rfl⟩)
  · exact .inr (.inr ⟨rfl, .inl rfl⟩)
  · exact .inr (.inr ⟨rfl, .inr (.inl rfl)⟩)
  · exact .inr (.inr ⟨rfl, .inr (.inr (.inl rfl))⟩)
  · exact .inr (.inr ⟨rfl, .inr (.inr (.inr rfl))⟩)
def opB (op : Int) (n : Nat) : Bool := match op with
  | .ofNat 1 | .ofNat 2 | .ofNat 3 => Nat.beq n 0
  | .ofNat 8 | .ofNat 9 | .ofNat 10 | .ofNat 11 | .ofNat 13 | .ofNat 16 | .ofNat 17 | .ofNat 22 => Nat.beq n 2
  | .ofNat 14 | .ofNat 15 => Nat.beq n 3
  | _ => false
theorem opB_ok {op : Int} {n : Nat} (h : opB op n = true) : opOk op n ∧ op ≠ 6 := by
  unfold opB at h
  split at h
  all_goals first | cases h; done | skip
  all_goals
    have e := Nat.eq_of_beq_eq_true h
    subst e
    refine ⟨?_, by decide⟩
    unfold opOk
    simp
noncomputable def wfB (sc : Int) : Nat → Tm → Bool
  | 0, _ => false
  | d + 1, x => (iEq x.op 6 && attrB sc x.name) || (opB x.op x.args.length && decide (-9223372036854775808 ≤ x.num) && decide (x.num ≤ 9223372036854775807) && x.args.all (wfB sc d))
theorem wfB_ok {sc : Int} : ∀ {d : Nat} {x : Tm}, wfB sc d x = true → wfT sc d x
  | 0, _, h => by cases h
  | d + 1, x, h => by
    unfold wfB at h
    rw [Bool.or_eq_true] at h
    rcases h with h | h
    · rw [Bool.and_eq_true] at h
      exact .inl ⟨iEq_of h.1, attrB_ok h.2⟩
    · simp only [Bool.and_eq_true] at h
      obtain ⟨⟨⟨h1, h2⟩, h3⟩, h4⟩ := h
      exact .inr ⟨(opB_ok h1).2, (opB_ok h1).1, ⟨of_decide_eq_true h2, of_decide_eq_true h3⟩, fun y hy => wfB_ok (List.all_eq_true.1 h4 y hy)⟩
theorem con0_at {B : St} {s : Nat} (hC : Copy conR0 (· + s) B) : ∃ c : CT, (Value.agg (conV0.map (ren1 (· + s))).toArray) = c.v ∧ CTAt B c := by
  refine ⟨⟨60, 30, 30, 1440, 1800, 1320, 360, ⟨none, 0, 0⟩, ⟨some ⟨175 + s, 0, none⟩, 1, 1⟩, ⟨some ⟨374 + s, 0, none⟩, 3, 3⟩, ⟨none, 0, 0⟩, ⟨none, 0, 0⟩, ⟨none, 0, 0⟩, 0⟩, rfl, ⟨⟨by dsimp only; decide, by dsimp only; decide, by dsimp only; decide⟩, rfl, ?_, ?_, ?_, fun B' hB' => ?_⟩⟩
  · obtain ⟨⟨A, n, q⟩, h1, h2⟩ := sqChk_ok (t := Dt.rule 6) (v := .slice (some ⟨175, 0, none⟩) 1 1) (xs := conRules0) rfl hC (ruleChk_ok hC 6) (by kernel_rfl)
    cases h1
    exact ⟨_, h2, by decide, fun r hr => wfB_ok (List.all_eq_true.1 (show conRules0.all (fun r => wfB r.scope 6 r.expr) = true by kernel_rfl) r hr)⟩
  · obtain ⟨⟨A, n, q⟩, h1, h2⟩ := sqChk_ok (t := Dt.cost 6) (v := .slice (some ⟨374, 0, none⟩) 3 3) (xs := conCosts0) rfl hC (costChk_ok hC 6) (by kernel_rfl)
    cases h1
    exact ⟨_, h2, by decide, fun r hr => wfB_ok (List.all_eq_true.1 (show conCosts0.all (fun r => wfB r.scope 6 r.expr) = true by kernel_rfl) r hr)⟩
  · obtain ⟨⟨A, n, q⟩, h1, h2⟩ := sqChk_ok (t := Dt.tm 6) (v := .slice none 0 0) (xs := conCredit0) rfl hC (tmChk_ok hC 6) (by kernel_rfl)
    cases h1
    exact ⟨_, h2, by decide, fun r hr => wfB_ok (List.all_eq_true.1 (show conCredit0.all (fun r => wfB 1 6 r) = true by kernel_rfl) r hr)⟩
  · exact EvP.cl cl_c0 (s := s) cl_c0_fine (by rfl) (by rfl) rfl (hC.ge hB') (by rfl) (fun h => by cases h) (fun h => by cases h) fun n B2 _ _ => rfl
theorem con1_at {B : St} {s : Nat} (hC : Copy conR1 (· + s) B) : ∃ c : CT, (Value.agg (conV1.map (ren1 (· + s))).toArray) = c.v ∧ CTAt B c := by
  refine ⟨⟨60, 30, 30, 1440, 1800, 0, 0, ⟨none, 0, 0⟩, ⟨some ⟨212 + s, 0, none⟩, 2, 2⟩, ⟨some ⟨388 + s, 0, none⟩, 2, 2⟩, ⟨none, 0, 0⟩, ⟨none, 0, 0⟩, ⟨none, 0, 0⟩, 0⟩, rfl, ⟨⟨by dsimp only; decide, by dsimp only; decide, by dsimp only; decide⟩, rfl, ?_, ?_, ?_, fun B' hB' => ?_⟩⟩
  · obtain ⟨⟨A, n, q⟩, h1, h2⟩ := sqChk_ok (t := Dt.rule 6) (v := .slice (some ⟨212, 0, none⟩) 2 2) (xs := conRules1) rfl hC (ruleChk_ok hC 6) (by kernel_rfl)
    cases h1
    exact ⟨_, h2, by decide, fun r hr => wfB_ok (List.all_eq_true.1 (show conRules1.all (fun r => wfB r.scope 6 r.expr) = true by kernel_rfl) r hr)⟩
  · obtain ⟨⟨A, n, q⟩, h1, h2⟩ := sqChk_ok (t := Dt.cost 6) (v := .slice (some ⟨388, 0, none⟩) 2 2) (xs := conCosts1) rfl hC (costChk_ok hC 6) (by kernel_rfl)
    cases h1
    exact ⟨_, h2, by decide, fun r hr => wfB_ok (List.all_eq_true.1 (show conCosts1.all (fun r => wfB r.scope 6 r.expr) = true by kernel_rfl) r hr)⟩
  · obtain ⟨⟨A, n, q⟩, h1, h2⟩ := sqChk_ok (t := Dt.tm 6) (v := .slice none 0 0) (xs := conCredit1) rfl hC (tmChk_ok hC 6) (by kernel_rfl)
    cases h1
    exact ⟨_, h2, by decide, fun r hr => wfB_ok (List.all_eq_true.1 (show conCredit1.all (fun r => wfB 1 6 r) = true by kernel_rfl) r hr)⟩
  · exact EvP.cl cl_c1 (s := s) cl_c1_fine (by rfl) (by rfl) rfl (hC.ge hB') (by rfl) (fun h => by cases h) (fun h => by cases h) fun n B2 _ _ => rfl
theorem con2_at {B : St} {s : Nat} (hC : Copy conR2 (· + s) B) : ∃ c : CT, (Value.agg (conV2.map (ren1 (· + s))).toArray) = c.v ∧ CTAt B c := by
  refine ⟨⟨60, 30, 30, 1440, 1800, 1320, 360, ⟨none, 0, 0⟩, ⟨some ⟨633 + s, 0, none⟩, 3, 3⟩, ⟨some ⟨378 + s, 0, none⟩, 3, 3⟩, ⟨none, 0, 0⟩, ⟨none, 0, 0⟩, ⟨none, 0, 0⟩, 0⟩, rfl, ⟨⟨by dsimp only; decide, by dsimp only; decide, by dsimp only; decide⟩, rfl, ?_, ?_, ?_, fun B' hB' => ?_⟩⟩
  · obtain ⟨⟨A, n, q⟩, h1, h2⟩ := sqChk_ok (t := Dt.rule 6) (v := .slice (some ⟨633, 0, none⟩) 3 3) (xs := conRules2) rfl hC (ruleChk_ok hC 6) (by kernel_rfl)
    cases h1
    exact ⟨_, h2, by decide, fun r hr => wfB_ok (List.all_eq_true.1 (show conRules2.all (fun r => wfB r.scope 6 r.expr) = true by kernel_rfl) r hr)⟩
  · obtain ⟨⟨A, n, q⟩, h1, h2⟩ := sqChk_ok (t := Dt.cost 6) (v := .slice (some ⟨378, 0, none⟩) 3 3) (xs := conCosts2) rfl hC (costChk_ok hC 6) (by kernel_rfl)
    cases h1
    exact ⟨_, h2, by decide, fun r hr => wfB_ok (List.all_eq_true.1 (show conCosts2.all (fun r => wfB r.scope 6 r.expr) = true by kernel_rfl) r hr)⟩
  · obtain ⟨⟨A, n, q⟩, h1, h2⟩ := sqChk_ok (t := Dt.tm 6) (v := .slice none 0 0) (xs := conCredit2) rfl hC (tmChk_ok hC 6) (by kernel_rfl)
    cases h1
    exact ⟨_, h2, by decide, fun r hr => wfB_ok (List.all_eq_true.1 (show conCredit2.all (fun r => wfB 1 6 r) = true by kernel_rfl) r hr)⟩
  · exact EvP.cl cl_c2 (s := s) cl_c2_fine (by rfl) (by rfl) rfl (hC.ge hB') (by rfl) (fun h => by cases h) (fun h => by cases h) fun n B2 _ _ => rfl
theorem con3_at {B : St} {s : Nat} (hC : Copy conR3 (· + s) B) : ∃ c : CT, (Value.agg (conV3.map (ren1 (· + s))).toArray) = c.v ∧ CTAt B c := by
  refine ⟨⟨60, 30, 30, 1440, 1800, 1320, 360, ⟨none, 0, 0⟩, ⟨some ⟨185 + s, 0, none⟩, 1, 1⟩, ⟨some ⟨384 + s, 0, none⟩, 3, 3⟩, ⟨some ⟨524 + s, 0, none⟩, 1, 1⟩, ⟨some ⟨596 + s, 0, none⟩, 2, 2⟩, ⟨some ⟨628 + s, 0, none⟩, 1, 1⟩, 600⟩, rfl, ⟨⟨by dsimp only; decide, by dsimp only; decide, by dsimp only; decide⟩, rfl, ?_, ?_, ?_, fun B' hB' => ?_⟩⟩
  · obtain ⟨⟨A, n, q⟩, h1, h2⟩ := sqChk_ok (t := Dt.rule 6) (v := .slice (some ⟨185, 0, none⟩) 1 1) (xs := conRules3) rfl hC (ruleChk_ok hC 6) (by kernel_rfl)
    cases h1
    exact ⟨_, h2, by decide, fun r hr => wfB_ok (List.all_eq_true.1 (show conRules3.all (fun r => wfB r.scope 6 r.expr) = true by kernel_rfl) r hr)⟩
  · obtain ⟨⟨A, n, q⟩, h1, h2⟩ := sqChk_ok (t := Dt.cost 6) (v := .slice (some ⟨384, 0, none⟩) 3 3) (xs := conCosts3) rfl hC (costChk_ok hC 6) (by kernel_rfl)
    cases h1
    exact ⟨_, h2, by decide, fun r hr => wfB_ok (List.all_eq_true.1 (show conCosts3.all (fun r => wfB r.scope 6 r.expr) = true by kernel_rfl) r hr)⟩
  · obtain ⟨⟨A, n, q⟩, h1, h2⟩ := sqChk_ok (t := Dt.tm 6) (v := .slice (some ⟨524, 0, none⟩) 1 1) (xs := conCredit3) rfl hC (tmChk_ok hC 6) (by kernel_rfl)
    cases h1
    exact ⟨_, h2, by decide, fun r hr => wfB_ok (List.all_eq_true.1 (show conCredit3.all (fun r => wfB 1 6 r) = true by kernel_rfl) r hr)⟩
  · exact EvP.cl cl_c3 (s := s) cl_c3_fine (by rfl) (by rfl) rfl (hC.ge hB') (by rfl) (fun h => by cases h) (fun h => by cases h) fun n B2 _ _ => rfl
theorem con4_at {B : St} {s : Nat} (hC : Copy conR4 (· + s) B) : ∃ c : CT, (Value.agg (conV4.map (ren1 (· + s))).toArray) = c.v ∧ CTAt B c := by
  refine ⟨⟨0, 0, 20, 240, 1200, 0, 0, ⟨none, 0, 0⟩, ⟨some ⟨120 + s, 0, none⟩, 1, 1⟩, ⟨some ⟨373 + s, 0, none⟩, 2, 2⟩, ⟨none, 0, 0⟩, ⟨none, 0, 0⟩, ⟨none, 0, 0⟩, 0⟩, rfl, ⟨⟨by dsimp only; decide, by dsimp only; decide, by dsimp only; decide⟩, rfl, ?_, ?_, ?_, fun B' hB' => ?_⟩⟩
  · obtain ⟨⟨A, n, q⟩, h1, h2⟩ := sqChk_ok (t := Dt.rule 6) (v := .slice (some ⟨120, 0, none⟩) 1 1) (xs := conRules4) rfl hC (ruleChk_ok hC 6) (by kernel_rfl)
    cases h1
    exact ⟨_, h2, by decide, fun r hr => wfB_ok (List.all_eq_true.1 (show conRules4.all (fun r => wfB r.scope 6 r.expr) = true by kernel_rfl) r hr)⟩
  · obtain ⟨⟨A, n, q⟩, h1, h2⟩ := sqChk_ok (t := Dt.cost 6) (v := .slice (some ⟨373, 0, none⟩) 2 2) (xs := conCosts4) rfl hC (costChk_ok hC 6) (by kernel_rfl)
    cases h1
    exact ⟨_, h2, by decide, fun r hr => wfB_ok (List.all_eq_true.1 (show conCosts4.all (fun r => wfB r.scope 6 r.expr) = true by kernel_rfl) r hr)⟩
  · obtain ⟨⟨A, n, q⟩, h1, h2⟩ := sqChk_ok (t := Dt.tm 6) (v := .slice none 0 0) (xs := conCredit4) rfl hC (tmChk_ok hC 6) (by kernel_rfl)
    cases h1
    exact ⟨_, h2, by decide, fun r hr => wfB_ok (List.all_eq_true.1 (show conCredit4.all (fun r => wfB 1 6 r) = true by kernel_rfl) r hr)⟩
  · exact EvP.cl cl_c4 (s := s) cl_c4_fine (by rfl) (by rfl) rfl (hC.ge hB') (by rfl) (fun h => by cases h) (fun h => by cases h) fun n B2 _ _ => rfl
theorem con5_at {B : St} {s : Nat} (hC : Copy conR5 (· + s) B) : ∃ c : CT, (Value.agg (conV5.map (ren1 (· + s))).toArray) = c.v ∧ CTAt B c := by
  refine ⟨⟨30, 30, 30, 1440, 2160, 1320, 360, ⟨none, 0, 0⟩, ⟨some ⟨153 + s, 0, none⟩, 1, 1⟩, ⟨some ⟨285 + s, 0, none⟩, 2, 2⟩, ⟨none, 0, 0⟩, ⟨some ⟨321 + s, 0, none⟩, 1, 1⟩, ⟨none, 0, 0⟩, 0⟩, rfl, ⟨⟨by dsimp only; decide, by dsimp only; decide, by dsimp only; decide⟩, rfl, ?_, ?_, ?_, fun B' hB' => ?_⟩⟩
  · obtain ⟨⟨A, n, q⟩, h1, h2⟩ := sqChk_ok (t := Dt.rule 6) (v := .slice (some ⟨153, 0, none⟩) 1 1) (xs := conRules5) rfl hC (ruleChk_ok hC 6) (by kernel_rfl)
    cases h1
    exact ⟨_, h2, by decide, fun r hr => wfB_ok (List.all_eq_true.1 (show conRules5.all (fun r => wfB r.scope 6 r.expr) = true by kernel_rfl) r hr)⟩
  · obtain ⟨⟨A, n, q⟩, h1, h2⟩ := sqChk_ok (t := Dt.cost 6) (v := .slice (some ⟨285, 0, none⟩) 2 2) (xs := conCosts5) rfl hC (costChk_ok hC 6) (by kernel_rfl)
    cases h1
    exact ⟨_, h2, by decide, fun r hr => wfB_ok (List.all_eq_true.1 (show conCosts5.all (fun r => wfB r.scope 6 r.expr) = true by kernel_rfl) r hr)⟩
  · obtain ⟨⟨A, n, q⟩, h1, h2⟩ := sqChk_ok (t := Dt.tm 6) (v := .slice none 0 0) (xs := conCredit5) rfl hC (tmChk_ok hC 6) (by kernel_rfl)
    cases h1
    exact ⟨_, h2, by decide, fun r hr => wfB_ok (List.all_eq_true.1 (show conCredit5.all (fun r => wfB 1 6 r) = true by kernel_rfl) r hr)⟩
  · exact EvP.cl cl_c5 (s := s) cl_c5_fine (by rfl) (by rfl) rfl (hC.ge hB') (by rfl) (fun h => by cases h) (fun h => by cases h) fun n B2 _ _ => rfl
end Go.Proofs.YthldmlfpebgojaaGreatDoor
/-
  Contracts: the contract of a number.
  Condition: the number is not negative.
-/
namespace Go.Proofs.YthldmlfpebgojaaGreatDoor
set_option linter.unusedSimpArgs false
set_option linter.unusedVariables false
set_option maxRecDepth 100000
set_option maxHeartbeats 0
open Go.RowKit Go

theorem Cl.mv_zero {c : Cl} (h : c.cn = 0) (s n : Nat) : c.mv s n = (· + n) := by
  funext b
  unfold Cl.mv
  rw [h]
  rfl
section
variable {B : St}
def ParseOk (v : Value) (B1 : St) : Prop := ∃ c : CT, v = .tuple #[c.v, .int .i64 0, .int .i64 0] ∧ CTAt B1 c
theorem parse0_ev : EvP Tryz.prog 63 [.string conS0] B ParseOk :=
  EvP.cl cl_p0 (s := 0) cl_p0_fine (by rfl) (by rfl) rfl (fun p hp => by cases hp) (by rfl) (fun _ => rfl) (fun _ => rfl) fun n B' _ hC => by
    rw [Cl.mv_zero (c := cl_p0) rfl] at hC ⊢
    obtain ⟨c, h1, h2⟩ := con0_at hC
    exact ⟨c, by rw [← h1]; rfl, h2⟩
theorem parse1_ev : EvP Tryz.prog 63 [.string conS1] B ParseOk :=
  EvP.cl cl_p1 (s := 0) cl_p1_fine (by rfl) (by rfl) rfl (fun p hp => by cases hp) (by rfl) (fun _ => rfl) (fun _ => rfl) fun n B' _ hC => by
    rw [Cl.mv_zero (c := cl_p1) rfl] at hC ⊢
    obtain ⟨c, h1, h2⟩ := con1_at hC
    exact ⟨c, by rw [← h1]; rfl, h2⟩
theorem parse2_ev : EvP Tryz.prog 63 [.string conS2] B ParseOk :=
  EvP.cl cl_p2 (s := 0) cl_p2_fine (by rfl) (by rfl) rfl (fun p hp => by cases hp) (by rfl) (fun _ => rfl) (fun _ => rfl) fun n B' _ hC => by
    rw [Cl.mv_zero (c := cl_p2) rfl] at hC ⊢
    obtain ⟨c, h1, h2⟩ := con2_at hC
    exact ⟨c, by rw [← h1]; rfl, h2⟩
theorem parse3_ev : EvP Tryz.prog 63 [.string conS3] B ParseOk :=
  EvP.cl cl_p3 (s := 0) cl_p3_fine (by rfl) (by rfl) rfl (fun p hp => by cases hp) (by rfl) (fun _ => rfl) (fun _ => rfl) fun n B' _ hC => by
    rw [Cl.mv_zero (c := cl_p3) rfl] at hC ⊢
    obtain ⟨c, h1, h2⟩ := con3_at hC
    exact ⟨c, by rw [← h1]; rfl, h2⟩
theorem parse4_ev : EvP Tryz.prog 63 [.string conS4] B ParseOk :=
  EvP.cl cl_p4 (s := 0) cl_p4_fine (by rfl) (by rfl) rfl (fun p hp => by cases hp) (by rfl) (fun _ => rfl) (fun _ => rfl) fun n B' _ hC => by
    rw [Cl.mv_zero (c := cl_p4) rfl] at hC ⊢
    obtain ⟨c, h1, h2⟩ := con4_at hC
    exact ⟨c, by rw [← h1]; rfl, h2⟩
theorem parse5_ev : EvP Tryz.prog 63 [.string conS5] B ParseOk :=
  EvP.cl cl_p5 (s := 0) cl_p5_fine (by rfl) (by rfl) rfl (fun p hp => by cases hp) (by rfl) (fun _ => rfl) (fun _ => rfl) fun n B' _ hC => by
    rw [Cl.mv_zero (c := cl_p5) rfl] at hC ⊢
    obtain ⟨c, h1, h2⟩ := con5_at hC
    exact ⟨c, by rw [← h1]; rfl, h2⟩
theorem contract_ev (z : Int) (hz : 0 ≤ z) : EvP Tryz.prog 28 [.int .i64 z] B fun v B1 => ∃ c : CT, v = c.v ∧ CTAt B1 c := by
  have hw : z.tmod 6 = 0 ∨ z.tmod 6 = 1 ∨ z.tmod 6 = 2 ∨ z.tmod 6 = 3 ∨ z.tmod 6 = 4 ∨ z.tmod 6 = 5 := by
    rw [Int.tmod_eq_emod_of_nonneg hz]
    omega
  refine EvP.go Tryz.func28 rfl Tryz.ntmps28 Tryz.results28 rfl [] rfl ?_
  (repeat' (first | refine J.seq ?_ | refine J.roA rfl ?_ | refine X.ro rfl rfl ?_ | refine X.nil0 ?_ | refine X.al rfl rfl rfl rfl rfl rfl rfl fun b => ?_))
  refine X.rew rfl rfl rfl rfl rfl rfl (by decide) ?_
  rcases hw with e | e | e | e | e | e
  · rw [e]
    (repeat' (first | refine J.seq ?_ | refine J.block ?_ | refine J.roA rfl ?_ | refine X.ro rfl rfl ?_ | refine X.nil0 ?_ | refine J.skip ?_ | refine J.cond_f rfl ?_))
    refine X.call rfl rfl (gV_ok rfl) rfl rfl rfl rfl (en rfl) (parse0_ev) ?_
    rintro v B1 hB1 ⟨c, rfl, hc⟩
    (repeat' (first | refine J.seq ?_ | refine J.roA rfl ?_ | refine X.ro rfl rfl ?_ | refine X.nil0 ?_ | refine J.ret ?_ | refine X.la 1 rfl rfl rfl rfl rfl rfl rfl rfl rfl rfl ?_ | refine X.al rfl rfl rfl rfl rfl rfl rfl fun b => ?_ | refine X.st 0 rfl rfl rfl rfl rfl rfl rfl rfl rfl ?_ | refine X.st 1 rfl rfl rfl rfl rfl rfl rfl rfl rfl ?_))
    exact ⟨_, .cons (.cellA (p := 0) rfl (ag rfl) (sz rfl) rfl rfl) .nil, rfl, fun B' hB' _ => ⟨c, rfl, hc.ge hB'⟩⟩
  · rw [e]
    (repeat' (first | refine J.seq ?_ | refine J.block ?_ | refine J.roA rfl ?_ | refine X.ro rfl rfl ?_ | refine X.nil0 ?_ | refine J.cond_t rfl ?_))
    refine X.call rfl rfl (gV_ok rfl) rfl rfl rfl rfl (en rfl) (parse1_ev) ?_
    rintro v B1 hB1 ⟨c, rfl, hc⟩
    (repeat' (first | refine J.seq ?_ | refine J.roA rfl ?_ | refine X.ro rfl rfl ?_ | refine X.nil0 ?_ | refine J.ret ?_ | refine X.la 1 rfl rfl rfl rfl rfl rfl rfl rfl rfl rfl ?_ | refine X.al rfl rfl rfl rfl rfl rfl rfl fun b => ?_ | refine X.st 0 rfl rfl rfl rfl rfl rfl rfl rfl rfl ?_ | refine X.st 1 rfl rfl rfl rfl rfl rfl rfl rfl rfl ?_))
    exact ⟨_, .cons (.cellA (p := 0) rfl (ag rfl) (sz rfl) rfl rfl) .nil, rfl, fun B' hB' _ => ⟨c, rfl, hc.ge hB'⟩⟩
  · rw [e]
    (repeat' (first | refine J.seq ?_ | refine J.block ?_ | refine J.roA rfl ?_ | refine X.ro rfl rfl ?_ | refine X.nil0 ?_ | refine J.cond_t rfl ?_ | refine J.cond_f rfl ?_))
    refine X.bq (v := .string conS2) rfl rfl rfl rfl rfl rfl rfl rfl rfl (by kernel_rfl) ?_
    (repeat' (first | refine J.seq ?_ | refine J.roA rfl ?_ | refine X.ro rfl rfl ?_ | refine X.nil0 ?_))
    refine X.call rfl rfl (gV_ok rfl) rfl rfl rfl rfl (en rfl) (parse2_ev) ?_
    rintro v B1 hB1 ⟨c, rfl, hc⟩
    (repeat' (first | refine J.seq ?_ | refine J.roA rfl ?_ | refine X.ro rfl rfl ?_ | refine X.nil0 ?_ | refine J.ret ?_ | refine X.la 1 rfl rfl rfl rfl rfl rfl rfl rfl rfl rfl ?_ | refine X.al rfl rfl rfl rfl rfl rfl rfl fun b => ?_ | refine X.st 0 rfl rfl rfl rfl rfl rfl rfl rfl rfl ?_ | refine X.st 1 rfl rfl rfl rfl rfl rfl rfl rfl rfl ?_))
    exact ⟨_, .cons (.cellA (p := 0) rfl (ag rfl) (sz rfl) rfl rfl) .nil, rfl, fun B' hB' _ => ⟨c, rfl, hc.ge hB'⟩⟩
  · rw [e]
    (repeat' (first | refine J.seq ?_ | refine J.block ?_ | refine J.roA rfl ?_ | refine X.ro rfl rfl ?_ | refine X.nil0 ?_ | refine J.cond_t rfl ?_ | refine J.cond_f rfl ?_))
    refine X.bq (v := .string conS3) rfl rfl rfl rfl rfl rfl rfl rfl rfl (by kernel_rfl) ?_
    (repeat' (first | refine J.seq ?_ | refine J.roA rfl ?_ | refine X.ro rfl rfl ?_ | refine X.nil0 ?_))
    refine X.call rfl rfl (gV_ok rfl) rfl rfl rfl rfl (en rfl) (parse3_ev) ?_
    rintro v B1 hB1 ⟨c, rfl, hc⟩
    (repeat' (first | refine J.seq ?_ | refine J.roA rfl ?_ | refine X.ro rfl rfl ?_ | refine X.nil0 ?_ | refine J.ret ?_ | refine X.la 1 rfl rfl rfl rfl rfl rfl rfl rfl rfl rfl ?_ | refine X.al rfl rfl rfl rfl rfl rfl rfl fun b => ?_ | refine X.st 0 rfl rfl rfl rfl rfl rfl rfl rfl rfl ?_ | refine X.st 1 rfl rfl rfl rfl rfl rfl rfl rfl rfl ?_))
    exact ⟨_, .cons (.cellA (p := 0) rfl (ag rfl) (sz rfl) rfl rfl) .nil, rfl, fun B' hB' _ => ⟨c, rfl, hc.ge hB'⟩⟩
  · rw [e]
    (repeat' (first | refine J.seq ?_ | refine J.block ?_ | refine J.roA rfl ?_ | refine X.ro rfl rfl ?_ | refine X.nil0 ?_ | refine J.cond_t rfl ?_ | refine J.cond_f rfl ?_))
    refine X.call rfl rfl (gV_ok rfl) rfl rfl rfl rfl (en rfl) (parse4_ev) ?_
    rintro v B1 hB1 ⟨c, rfl, hc⟩
    (repeat' (first | refine J.seq ?_ | refine J.roA rfl ?_ | refine X.ro rfl rfl ?_ | refine X.nil0 ?_ | refine J.ret ?_ | refine X.la 1 rfl rfl rfl rfl rfl rfl rfl rfl rfl rfl ?_ | refine X.al rfl rfl rfl rfl rfl rfl rfl fun b => ?_ | refine X.st 0 rfl rfl rfl rfl rfl rfl rfl rfl rfl ?_ | refine X.st 1 rfl rfl rfl rfl rfl rfl rfl rfl rfl ?_))
    exact ⟨_, .cons (.cellA (p := 0) rfl (ag rfl) (sz rfl) rfl rfl) .nil, rfl, fun B' hB' _ => ⟨c, rfl, hc.ge hB'⟩⟩
  · rw [e]
    (repeat' (first | refine J.seq ?_ | refine J.block ?_ | refine J.roA rfl ?_ | refine X.ro rfl rfl ?_ | refine X.nil0 ?_ | refine J.cond_t rfl ?_ | refine J.cond_f rfl ?_))
    refine X.call rfl rfl (gV_ok rfl) rfl rfl rfl rfl (en rfl) (parse5_ev) ?_
    rintro v B1 hB1 ⟨c, rfl, hc⟩
    (repeat' (first | refine J.seq ?_ | refine J.roA rfl ?_ | refine X.ro rfl rfl ?_ | refine X.nil0 ?_ | refine J.ret ?_ | refine X.la 1 rfl rfl rfl rfl rfl rfl rfl rfl rfl rfl ?_ | refine X.al rfl rfl rfl rfl rfl rfl rfl fun b => ?_ | refine X.st 0 rfl rfl rfl rfl rfl rfl rfl rfl rfl ?_ | refine X.st 1 rfl rfl rfl rfl rfl rfl rfl rfl rfl ?_))
    exact ⟨_, .cons (.cellA (p := 0) rfl (ag rfl) (sz rfl) rfl rfl) .nil, rfl, fun B' hB' _ => ⟨c, rfl, hc.ge hB'⟩⟩
end
end Go.Proofs.YthldmlfpebgojaaGreatDoor
/-
  Contracts: the problem of the laws' data.
  Condition: the list of numbers lies in memory.
-/
namespace Go.Proofs.YthldmlfpebgojaaGreatDoor
set_option linter.unusedSimpArgs false
set_option linter.unusedVariables false
set_option maxRecDepth 100000
set_option maxHeartbeats 0
open Go.RowKit Go

abbrev zeroP : List Value := [.slice none 0 0, .slice none 0 0, .slice none 0 0, .int .i64 0, .int .i64 0, .int .i64 0, .int .i64 0, .int .i64 0, .int .i64 0, .int .i64 0, .slice none 0 0, .slice none 0 0, .slice none 0 0, .slice none 0 0, .slice none 0 0, .slice none 0 0, .int .i64 0, .slice none 0 0, .slice none 0 0, .int .i64 0, .int .i64 0]
/-- The flights with needs as the first one's, so far. -/
structure OpI (fs : List Flt) (os : List Int) (i : Nat) : Prop where
  len : os.length ≤ i
  pos : 0 < i → 0 < os.length
  rng : ∀ o ∈ os, ∃ j : Nat, o = (j : Int) ∧ j < i
  asc : ∀ (j k : Nat) (hj : j < os.length) (hk : k < os.length), j < k → os[j] < os[k]
  need : ∀ o ∈ os, ∀ (j : Nat) (h : j < fs.length) (h0 : 0 < fs.length), o = (j : Int) → fs[j].n0 = fs[0].n0 ∧ fs[j].n1 = fs[0].n1 ∧ fs[j].n2 = fs[0].n2
theorem OpI.nil (fs : List Flt) : OpI fs [] 0 := ⟨Nat.le_refl _, fun h => absurd h (by decide), (fun o h => by cases h), fun j k hj => absurd hj (by simp), fun o h => by cases h⟩
theorem OpI.skip {fs : List Flt} {os : List Int} {i : Nat} (h : OpI fs os i) (hi : 0 < i) : OpI fs os (i + 1) := ⟨by have := h.len; omega, fun _ => h.pos hi, fun o ho => by
  obtain ⟨j, h1, h2⟩ := h.rng o ho
  exact ⟨j, h1, by omega⟩, h.asc, h.need⟩
theorem OpI.add {fs : List Flt} {os : List Int} {i : Nat} (h : OpI fs os i) (hn : ∀ (hi : i < fs.length) (h0 : 0 < fs.length), fs[i].n0 = fs[0].n0 ∧ fs[i].n1 = fs[0].n1 ∧ fs[i].n2 = fs[0].n2) : OpI fs (os ++ [(i : Int)]) (i + 1) := by
  have hm : ∀ o ∈ os ++ [(i : Int)], o ∈ os ∨ o = (i : Int) := fun o ho => by
    rw [List.mem_append, List.mem_singleton] at ho
    exact ho
  have hl := h.len
  refine ⟨by rw [List.length_append, List.length_singleton]; omega, fun _ => by rw [List.length_append]; simp, fun o ho => ?_, fun j k hj hk hjk => ?_, fun o ho j hj h0 e => ?_⟩
  · rcases hm o ho with ho | rfl
    · obtain ⟨j, h1, h2⟩ := h.rng o ho
      exact ⟨j, h1, by omega⟩
    · exact ⟨i, rfl, by omega⟩
  · rw [List.length_append, List.length_singleton] at hj hk
    have hj2 : j < os.length := by omega
    rw [List.getElem_append_left hj2]
    by_cases hk2 : k < os.length
    · rw [List.getElem_append_left hk2]
      exact h.asc j k hj2 hk2 hjk
    · rw [List.getElem_append_right (by omega)]
      simp only [List.getElem_singleton]
      obtain ⟨m, h1, h2⟩ := h.rng _ (List.getElem_mem hj2)
      omega
  · rcases hm o ho with ho | rfl
    · exact h.need o ho j hj h0 e
    · obtain rfl : i = j := by omega
      exact hn hj h0
-- KEEP 8
-- BSM
section
variable {B : St}
theorem problem_ev {s : Slc} {xs : List Int} (hs : SqS (Dt.int .i64) B s xs) (hl : xs.length ≤ 9223372036854775807) :
    EvP Tryz.prog 12 [s.v] B fun v B1 => ∃ (p : PV) (fs : List Flt) (bs : List ByteArray) (os : List Int), v = p.v ∧ PAt B1 p fs bs os := by
  have hsn := hs.len
  refine EvP.go Tryz.func12 rfl Tryz.ntmps12 Tryz.results12 rfl [none] rfl ?_
  (repeat' (first | refine X.nil0S ?_ | refine J.seq ?_ | refine J.roA rfl ?_ | refine X.ro rfl rfl ?_ | refine X.al rfl rfl rfl rfl rfl rfl rfl fun b => ?_))
  (revert b; intro rb)
  refine X.callq rfl rfl (gV_ok rfl) rfl rfl rfl rfl (en rfl) (at_ev hs hl 0 (by decide)) ?_
  rintro v ⟨z0, rfl, h00, h01⟩
  skip
  refine X.rew rfl rfl rfl rfl rfl rfl (by decide) ?_
  obtain ⟨n, hn, hn2⟩ : ∃ n : Nat, 2 + z0.tmod 4 = (n : Int) ∧ 2 ≤ n ∧ n ≤ 5 := by
    rw [Int.tmod_eq_emod_of_nonneg h00]
    exact ⟨(2 + z0 % 4).toNat, by omega, by omega, by omega⟩
  (repeat' (first | refine X.nil0S ?_ | refine J.seq ?_ | refine J.roA rfl ?_ | refine X.ro rfl rfl ?_ | refine X.ad rfl rfl rfl rfl rfl rfl (by omega) ?_ | refine X.mi rfl rfl rfl rfl rfl rfl ?_))
  rw [hn]
  obtain ⟨lo, hlo, hlo2⟩ : ∃ lo : Nat, (if (1 : Int) < (s.n : Int) then (1 : Int) else (s.n : Int)) = (lo : Int) ∧ lo ≤ xs.length := by
    split
    · exact ⟨1, rfl, by omega⟩
    · exact ⟨s.n, rfl, by omega⟩
  rw [hlo]
  refine X.slq (l' := lo) (h' := xs.length) hs rfl rfl rfl rfl rfl rfl rfl (.inr ⟨_, _, rfl, rfl⟩) (.inl ⟨rfl, rfl⟩) hlo2 (Nat.le_refl _) fun s' hs' => ?_
  rw [List.take_length] at hs'
  (repeat' (first | refine X.ro rfl rfl ?_))
  refine X.call rfl rfl (gV_ok rfl) rfl rfl rfl rfl (en rfl) (timetable_ev (xs := xs.drop lo) hs' (by rw [List.length_drop]; omega) n (by omega)) ?_
  rintro v B1 hB1 ⟨t, fs, rfl, hT, hfl, hfine, hneed⟩
  (repeat' (first | refine X.ro rfl rfl ?_))
  refine X.callq rfl rfl (gV_ok rfl) rfl rfl rfl rfl (en rfl) (at_ev (hs.ge hB1) hl 9 (by decide)) ?_
  rintro v ⟨z9, rfl, h90, h91⟩
  skip
  refine X.call rfl rfl (gV_ok rfl) rfl rfl rfl rfl (en rfl) (contract_ev z9 h90) ?_
  rintro v B2 hB2 ⟨c, rfl, hC⟩
  (repeat' (first | refine X.ro rfl rfl ?_ | refine X.bs1 rfl rfl rfl rfl rfl rfl rfl rfl rfl rfl rfl rfl rfl (fun b => ?_)))
  have hs2 := (hs.ge hB1).ge hB2
  refine X.callq rfl rfl (gV_ok rfl) rfl rfl rfl rfl (en rfl) (at_ev hs2 hl 10 (by decide)) ?_
  rintro v ⟨z10, rfl, ha0, ha1⟩
  skip
  refine X.rew rfl rfl rfl rfl rfl rfl (by decide) ?_
  have hp0 : 0 ≤ z10.tmod 60 ∧ z10.tmod 60 < 60 := by
    rw [Int.tmod_eq_emod_of_nonneg ha0]
    omega
  generalize z10.tmod 60 = pen at hp0 ⊢
  (repeat' (first | refine X.nil0S ?_ | refine J.seq ?_ | refine J.roA rfl ?_ | refine X.ro rfl rfl ?_ | refine X.al rfl rfl rfl rfl rfl rfl rfl fun b => ?_ | refine X.stM 3 rfl rfl rfl rfl rfl rfl rfl rfl rfl rfl ?_ | refine X.ad rfl rfl rfl rfl rfl rfl (by omega) ?_ | refine X.bdM rfl rfl rfl rfl rfl rfl rfl rfl rfl rfl ?_))
  (revert b; intro pb)
  (revert b; intro bb)
  refine X.give (p := 2) rfl fun B3 hB3 gbb => ?_
  have hbs := giveStrs gbb [sA] rfl
  have hs3 := hs2.ge hB3
  refine X.callq rfl rfl (gV_ok rfl) rfl rfl rfl rfl (en rfl) (at_ev hs3 hl 11 (by decide)) ?_
  rintro v ⟨z11, rfl, hb0, hb1⟩
  skip
  refine X.rew rfl rfl rfl rfl rfl rfl (by decide) ?_
  generalize z11.tmod 3 = y11
  (repeat' (first | refine X.nil0S ?_ | refine X.ro rfl rfl ?_))
  refine J.cutT (σ := Slc × List ByteArray) (fun _ => [(0, s.v), (2, .pointer (some ⟨rb, 0, none⟩)), (3, .int .i64 (n : Int)), (4, .pointer (some ⟨pb, 0, none⟩))]) (fun q => [none, some (rb, ⟨zeroP, 38, 1⟩), none, some (pb, ⟨(⟨t, c, q.1, ⟨none, 0, 0⟩, 0, 20 + pen⟩ : PV).cells, 38, 1⟩)])
    (fun B4 q => Ge B3 B4 ∧ SqS Dt.str B4 q.1 q.2 ∧ (q.2 = [sA] ∨ q.2 = [sA, sB])) ?_ ?_
  · refine J.cond_d rfl (fun h => ?_) (fun h => ?_)
    · refine J.roA rfl ?_
      refine X.bs1 rfl rfl rfl rfl rfl rfl rfl rfl rfl rfl rfl rfl rfl (fun b2 => ?_)
      refine X.give (p := 4) rfl fun B4 hB4 g4 => ?_
      (repeat' (first | refine X.nil0S ?_ | refine X.ro rfl rfl ?_ | refine X.stM 3 rfl rfl rfl rfl rfl rfl rfl rfl rfl rfl ?_))
      exact ⟨rfl, (⟨some ⟨b2, 0, none⟩, 2, 2⟩, [sA, sB]), ⟨rfl, rfl, rfl, rfl, trivial⟩, Less.app [_, _, _, _] _, hB4, giveStrs g4 [sA, sB] rfl, .inr rfl⟩
    · (repeat' (first | refine J.skip ?_))
      exact ⟨rfl, (⟨some ⟨bb, 0, none⟩, 1, 1⟩, [sA]), ⟨rfl, rfl, rfl, rfl, trivial⟩, (fun _ _ _ h => h), Ge.refl _, hbs, .inl rfl⟩
  rintro ⟨sbs, bs⟩ B4 hB4 ⟨hB34, hbs4, hbv⟩
  dsimp only at hbs4 hbv ⊢
  (repeat' (first | refine J.seq ?_ | refine J.roA rfl ?_ | refine X.ro rfl rfl ?_))
  have hs4 := hs3.ge hB34
  refine X.callq rfl rfl (gV_ok rfl) rfl rfl rfl rfl (en rfl) (at_ev hs4 hl 12 (by decide)) ?_
  rintro v ⟨z12, rfl, hc0, hc1⟩
  skip
  refine X.rew rfl rfl rfl rfl rfl rfl (by decide) ?_
  generalize z12.tmod 4 = y12
  (repeat' (first | refine X.nil0S ?_ | refine X.ro rfl rfl ?_))
  refine J.cutT (σ := Int) (fun _ => [(0, s.v), (2, .pointer (some ⟨rb, 0, none⟩)), (3, .int .i64 (n : Int)), (4, .pointer (some ⟨pb, 0, none⟩))]) (fun hd => [none, some (rb, ⟨zeroP, 38, 1⟩), none, some (pb, ⟨(⟨t, c, sbs, ⟨none, 0, 0⟩, hd, 20 + pen⟩ : PV).cells, 38, 1⟩)])
    (fun B5 hd => B5 = B4 ∧ (hd = 0 ∨ hd = 1)) ?_ ?_
  · (repeat' (first | refine X.nil0S ?_ | refine J.roA rfl ?_ | refine X.ro rfl rfl ?_ | refine J.skip ?_ | refine X.stM 3 rfl rfl rfl rfl rfl rfl rfl rfl rfl rfl ?_ | refine J.cond_d rfl (fun h => ?_) (fun h => ?_)))
    · exact ⟨rfl, 1, ⟨rfl, rfl, rfl, rfl, trivial⟩, (fun _ _ _ h => h), rfl, .inr rfl⟩
    · exact ⟨rfl, 0, ⟨rfl, rfl, rfl, rfl, trivial⟩, (fun _ _ _ h => h), rfl, .inl rfl⟩
  rintro hd B5 hB5 ⟨hB5e, hhd⟩
  subst hB5e
  (repeat' (first | refine X.nil0S ?_ | refine J.seq ?_ | refine J.roA rfl ?_ | refine X.ro rfl rfl ?_))
  refine J.block ?_
  refine J.loop (σ := Nat × Acc Int) (fun q => [(0, s.v), (2, .pointer (some ⟨rb, 0, none⟩)), (3, .int .i64 (n : Int)), (4, .pointer (some ⟨pb, 0, none⟩)), (5, .int .i64 (q.1 : Int))]) (fun q => [q.2.e 3 1, some (rb, ⟨zeroP, 38, 1⟩), none, some (pb, ⟨(⟨t, c, sbs, ⟨oa q.2.ob, q.2.xs.length, q.2.xs.length⟩, hd, 20 + pen⟩ : PV).cells, 38, 1⟩)])
    (fun B6 q => Ge B5 B6 ∧ q.1 ≤ n ∧ q.2.Ok (.int .i64) B6 ∧ OpI fs q.2.xs q.1) (fun q => n - q.1) (0, .nil) ⟨Ge.refl _, Nat.zero_le _, .nil, OpI.nil fs⟩ ⟨rfl, rfl, rfl, rfl, rfl, trivial⟩ (fun _ _ _ h => h) ?_
  rintro ⟨i, a⟩ B6 hB6 ⟨hB56, hi, ha, hO⟩
  dsimp only at hi ha hO ⊢
  have hT6 := (((hT.ge hB2).ge hB3).ge hB34).ge hB56
  have hf6 := hT6.fls
  have hol := hO.len
  (repeat' (first | refine X.nil0S ?_ | refine J.seq ?_ | refine J.roA rfl ?_ | refine X.ro rfl rfl ?_))
  refine J.cond_d rfl (fun h => ?_) (fun h => ?_)
  · have hi2 : i < fs.length := by omega
    have h02 : 0 < fs.length := by omega
    have ni := hneed _ (List.getElem_mem hi2)
    have n0 := hneed _ (List.getElem_mem h02)
    (repeat' (first | refine J.seq ?_ | refine J.skip ?_))
    refine J.block ?_
    (repeat' (first | refine J.seq ?_ | refine J.rdA (by kernel_rfl) rfl ?_ | refine X.rd rfl rfl ?_ | refine X.l1 3 rfl rfl rfl rfl rfl rfl rfl rfl rfl ?_))
    refine X.ix hf6 (i := i) hi2 rfl rfl rfl rfl rfl rfl rfl rfl rfl fun b1 f1 cs1 hr1 hx1 => ?_
    obtain rfl := hx1
    (repeat' (first | refine X.rd rfl rfl ?_))
    refine X.lg 6 hr1 rfl rfl (by first | exact .md | exact .mo | exact .mf) (Ge.refl _) rfl rfl rfl rfl rfl rfl rfl rfl ?_
    (repeat' (first | refine X.rd rfl rfl ?_ | refine X.l1 3 rfl rfl rfl rfl rfl rfl rfl rfl rfl ?_))
    refine X.ix hf6 (i := 0) h02 rfl rfl rfl rfl rfl rfl rfl rfl rfl fun b1 f1 cs1 hr1 hx1 => ?_
    obtain rfl := hx1
    (repeat' (first | refine X.rd rfl rfl ?_))
    refine X.lg 6 hr1 rfl rfl (by first | exact .md | exact .mo | exact .mf) (Ge.refl _) rfl rfl rfl rfl rfl rfl rfl rfl ?_
    skip
    refine X.bq (v := .bool (decide (fs[i].n1 = fs[0].n1))) rfl rfl rfl rfl rfl rfl rfl rfl rfl (by
      show quick _ (binRun .eql _ _ _ (.agg #[.int .i64 fs[i].n0, .int .i64 fs[i].n1, .int .i64 fs[i].n2]) (.agg #[.int .i64 fs[0].n0, .int .i64 fs[0].n1, .int .i64 fs[0].n2])) = _
      rw [ni.1, ni.2.2, n0.1, n0.2.2]
      rcases ni.2.1 with e | e <;> rcases n0.2.1 with e' | e' <;> rw [e, e'] <;> kernel_rfl) ?_
    (repeat' (first | refine X.nil0S ?_ | refine J.roA rfl ?_ | refine X.ro rfl rfl ?_ | refine X.nil1 ⟨by kernel_rfl, ?_⟩ | refine J.skip ?_ | refine X.l1 3 rfl rfl rfl rfl rfl rfl rfl rfl rfl ?_ | refine X.ad rfl rfl rfl rfl rfl rfl (by omega) ?_ | refine X.bs1 rfl rfl rfl rfl rfl rfl rfl rfl rfl rfl rfl rfl rfl (fun b => ?_) | refine J.cond_d rfl (fun h => ?_) (fun h => ?_)))
    · have he : fs[i].n1 = fs[0].n1 := by assumption
      refine X.ac1 (D := .int .i64) 0 4 (z := (i : Int)) ha rfl rfl rfl rfl rfl rfl rfl rfl rfl rfl rfl rfl rfl rfl rfl rfl (by show (_ + 1) * 8 ≤ _; omega) (by omega) fun a2 e2 ha2 => ?_
      (repeat' (first | refine X.nil0S ?_ | refine J.roA rfl ?_ | refine X.ro rfl rfl ?_ | refine X.stM 3 rfl rfl rfl rfl rfl rfl rfl rfl rfl rfl ?_ | refine X.ad rfl rfl rfl rfl rfl rfl (by omega) ?_))
      exact ⟨(i + 1, a2), ⟨rfl, rfl, rfl, rfl, rfl, trivial⟩, Less.app [_, _, _, _] _, ⟨hB56, by dsimp only; omega, ha2, e2 ▸ hO.add fun _ _ => ⟨by rw [ni.1, n0.1], he, by rw [ni.2.2, n0.2.2]⟩⟩, by dsimp only; omega⟩
    · have he : ¬ fs[i].n1 = fs[0].n1 := by assumption
      have hi0 : 0 < i := by
        rcases Nat.eq_zero_or_pos i with rfl | h0
        · exact absurd rfl he
        · exact h0
      exact ⟨(i + 1, a), ⟨rfl, rfl, rfl, rfl, rfl, trivial⟩, (fun _ _ _ h => h), ⟨hB56, by dsimp only; omega, ha, hO.skip hi0⟩, by dsimp only; omega⟩
  · have hin : i = n := by omega
    (repeat' (first | refine X.nil0S ?_ | refine J.seq ?_ | refine J.roA rfl ?_ | refine J.exit ?_ | refine J.ret ?_ | refine X.la 3 rfl rfl rfl rfl rfl rfl rfl rfl rfl rfl ?_ | refine X.stM 1 rfl rfl rfl rfl rfl rfl rfl rfl rfl rfl ?_))
    refine ⟨_, .cons (.cellA (p := 1) rfl (ag rfl) (sz rfl) rfl rfl) .nil, rfl, fun B' hB' hK => ⟨⟨t, c, sbs, ⟨oa a.ob, a.xs.length, a.xs.length⟩, hd, 20 + pen⟩, fs, bs, a.xs, rfl, ⟨⟨hT6.ge hB', (((hC.ge hB3).ge hB34).ge hB56).ge hB', hfine, by omega⟩, (hbs4.ge hB56).ge hB', (ha.ge hB').sq (T := 3) fun b Y h => hK b Y (by rw [← h]; exact .head _), hhd, ⟨by dsimp only; omega, by dsimp only; omega⟩, hbv, ⟨hO.pos (by omega), by omega⟩, fun o ho => ?_, hO.asc, hO.need, hneed⟩⟩⟩
    obtain ⟨j, h1, h2⟩ := hO.rng o ho
    exact ⟨j, h1, by omega⟩
end
end Go.Proofs.YthldmlfpebgojaaGreatDoor
/-
  Contracts: the difference of two plans (the reference).
  Condition: at most twelve pairings.
-/
namespace Go.Proofs.YthldmlfpebgojaaGreatDoor
set_option linter.unusedSimpArgs false
set_option linter.unusedVariables false
set_option maxRecDepth 100000
set_option maxHeartbeats 0
open Go.RowKit Go

-- KEEP 6
section
variable {B : St}
theorem more_ev {sa sb : Slc} {a c : List Pair} (ha : SqS .pair B sa a) (hb : SqS .pair B sb c) (wa : ∀ x ∈ a, PairB x) (wb : ∀ x ∈ c, PairB x) (la : a.length ≤ 12) (lb : c.length ≤ 12) :
    EvP Tryz.prog 36 [sa.v, sb.v] B fun v B1 => ∃ (r : Slc) (o : List Pair), v = r.v ∧ SqS .pair B1 r o ∧ More a c a.length o ∧ o.length ≤ 12 ∧ ∀ x ∈ o, PairB x := by
  have hna := ha.len
  have hnb := hb.len
  refine EvP.go Tryz.func36 rfl Tryz.ntmps36 Tryz.results36 rfl [none] rfl ?_
  (repeat' (first | refine J.seq ?_ | refine J.block ?_ | refine J.roA rfl ?_ | refine X.ro rfl rfl ?_ | refine X.nil0 ?_))
  refine J.loop (σ := Nat × Acc Pair) (fun q => [(0, sa.v), (1, sb.v), (5, q.2.v), (6, .int .i64 (q.1 : Int))]) (fun q => [q.2.e 78 2])
    (fun B1 q => Ge B B1 ∧ q.1 ≤ a.length ∧ q.2.Ok .pair B1 ∧ q.2.xs.length ≤ q.1 ∧ More a c q.1 q.2.xs ∧ ∀ x ∈ q.2.xs, PairB x) (fun q => a.length - q.1) (0, .nil) ⟨Ge.refl _, Nat.zero_le _, .nil, Nat.zero_le _, More.nil _ _, fun x h => by cases h⟩ ⟨rfl, rfl, rfl, rfl, trivial⟩ (fun _ _ _ h => h) ?_
  rintro ⟨i, o⟩ B1 hB ⟨hB1, hi, ho, hol, hm, how⟩
  dsimp only at hi ho hol hm how ⊢
  have ha1 := ha.ge hB1
  have hb1 := hb.ge hB1
  (repeat' (first | refine J.seq ?_ | refine J.block ?_ | refine J.roA rfl ?_ | refine J.rdA (by kernel_rfl) rfl ?_ | refine X.ro rfl rfl ?_ | refine X.rd rfl rfl ?_ | refine X.nil0 ?_ | refine J.skip ?_ | refine J.exit ?_ | refine J.ret ?_ | refine X.ad rfl rfl rfl rfl rfl rfl (by omega) ?_ | refine J.cond_d rfl (fun h => ?_) (fun h => ?_)))
  · have hi2 : i < a.length := by omega
    have wi := wa _ (List.getElem_mem hi2)
    refine X.slq (l' := 0) (h' := i + 1) ha1 rfl rfl rfl rfl rfl rfl rfl (.inl ⟨rfl, rfl⟩) (.inr ⟨_, _, rfl, rfl⟩) (by omega) (by omega) fun s' hs' => ?_
    rw [List.drop_zero] at hs'
    (repeat' (first | refine X.rd rfl rfl ?_))
    (refine X.ix ha1 (i := i) (by omega) rfl rfl rfl rfl rfl rfl rfl rfl (by first | rfl | omega) fun b1 f1 cs1 hr1 hx1 => ?_); obtain ⟨ya, yn, yc, rfl, yq⟩ := hx1; (skip); (refine X.lg 0 hr1 rfl rfl (by first | exact .md | exact .mo | exact .mf) (Ge.refl _) rfl rfl rfl rfl rfl rfl rfl rfl ?_); (skip)
    refine X.callq rfl rfl (gV_ok rfl) rfl rfl rfl rfl (en rfl) (has42_ev (x := a[i]) (s1 := ⟨ya, yn, yc⟩) hs' yq (fun z hz => wa z (List.mem_of_mem_take hz)) wi (by rw [List.length_take]; omega)) ?_
    rintro v rfl
    (repeat' (first | refine X.rd rfl rfl ?_))
    (refine X.ix ha1 (i := i) (by omega) rfl rfl rfl rfl rfl rfl rfl rfl (by first | rfl | omega) fun b1 f1 cs1 hr1 hx1 => ?_); obtain ⟨za, zn, zc, rfl, zq⟩ := hx1; (skip); (refine X.lg 0 hr1 rfl rfl (by first | exact .md | exact .mo | exact .mf) (Ge.refl _) rfl rfl rfl rfl rfl rfl rfl rfl ?_); (skip)
    refine X.callq rfl rfl (gV_ok rfl) rfl rfl rfl rfl (en rfl) (has42_ev (x := a[i]) (s1 := ⟨za, zn, zc⟩) hb1 zq wb wi (by omega)) ?_
    rintro v rfl
    (repeat' (first | refine J.seq ?_ | refine J.roA rfl ?_ | refine X.ro rfl rfl ?_ | refine X.rd rfl rfl ?_ | refine X.nil0 ?_ | refine X.nil1 ⟨by kernel_rfl, ?_⟩ | refine J.skip ?_ | refine J.exit ?_ | refine X.ad rfl rfl rfl rfl rfl rfl (by omega) ?_ | refine J.cond_d rfl (fun h => ?_) (fun h => ?_)))
    · have hc := h
      exact ⟨(i + 1, o), ⟨rfl, rfl, rfl, rfl, trivial⟩, (fun _ _ _ h => h), ⟨hB1, by dsimp only; omega, ho, by dsimp only; omega, hm.skip hi2 (by omega), how⟩, by dsimp only; omega⟩
    · have hc := h
      (refine X.ix ha1 (i := i) (by omega) rfl rfl rfl rfl rfl rfl rfl rfl (by first | rfl | omega) fun b1 f1 cs1 hr1 hx1 => ?_); obtain ⟨wa, wn, wc, rfl, wq⟩ := hx1; (skip); (refine X.lg 0 hr1 rfl rfl (by first | exact .md | exact .mo | exact .mf) (Ge.refl _) rfl rfl rfl rfl rfl rfl rfl rfl ?_); ((repeat' (first | refine X.bs rfl rfl rfl rfl rfl rfl (by rfl) rfl rfl (by rfl) (by rfl) rfl (fun b => ?_))))
      refine X.ac1 (D := .pair) 0 1 (z := a[i]) ho rfl ⟨_, _, _, rfl, wq⟩ rfl rfl rfl rfl rfl rfl rfl rfl rfl rfl rfl rfl rfl rfl (by show (_ + 1) * 40 ≤ _; omega) (by omega) fun a2 e2 ha2 => ?_
      have l2 : a2.xs.length = o.xs.length + 1 := by rw [e2, List.length_append]; rfl
      obtain ⟨qb, hqb⟩ := Acc.ob_some ha2 (by omega)
      (repeat' (first | refine J.seq ?_ | refine J.block ?_ | refine J.roA rfl ?_ | refine X.ro rfl rfl ?_ | refine X.nil0 ?_ | refine X.sb rfl rfl rfl rfl rfl rfl (by omega) ?_))
      refine J.loop (σ := Nat × Acc Pair) (fun q => [(0, sa.v), (1, sb.v), (5, a2.v), (6, .int .i64 (i : Int)), (7, .int .i64 (q.1 : Int))]) (fun q => [q.2.e 78 2])
        (fun B2 q => Ge B1 B2 ∧ q.1 < a2.xs.length ∧ q.2.ob = a2.ob ∧ q.2.Ok .pair B2 ∧ q.2.xs.Perm (o.xs ++ [a[i]]) ∧ Bub q.2.xs q.1) (fun q => q.1) (o.xs.length, a2) ⟨Ge.refl _, by dsimp only; omega, rfl, ha2, .of_eq e2, by dsimp only; rw [e2]; exact Bub.start hm.1 _⟩ ⟨rfl, rfl, rfl, rfl, (by show some _ = some _; congr 2; omega), trivial⟩ (Less.app [_] _) ?_
      rintro ⟨j, u⟩ B2 hB2 ⟨hB12, hj, hob2, hu, hup, hbub⟩
      dsimp only at hj hob2 hu hup hbub ⊢
      have hul : u.xs.length = a2.xs.length := by rw [hup.length_eq, List.length_append, l2]; rfl
      have hub := hob2.trans hqb
      have hw : ∀ x ∈ u.xs, PairB x := fun x hx => by
        have := hup.mem_iff.1 hx
        rw [List.mem_append, List.mem_singleton] at this
        rcases this with h | rfl
        · exact how _ h
        · exact wi
      have fin : (j = 0 ∨ ∃ h0 : 0 < j, ¬ cmpP (u.xs[j]'(by omega)) (u.xs[j - 1]'(by omega)) < 0) → More a c (i + 1) u.xs := fun hc' => hm.add hi2 (by omega) (hbub.done (by omega) hc') hup
      (repeat' (first | refine J.seq ?_ | refine J.roA rfl ?_ | refine J.rdA (by kernel_rfl) rfl ?_ | refine X.ro rfl rfl ?_ | refine X.rd rfl rfl ?_ | refine X.nil0 ?_ | refine X.nil1 ⟨by kernel_rfl, ?_⟩ | refine J.exit ?_ | refine J.cond_f rfl ?_ | refine X.ad rfl rfl rfl rfl rfl rfl (by omega) ?_ | refine X.g_d rfl rfl rfl (fun h => ?_) (fun h => ?_)))
      · obtain ⟨k, rfl⟩ : ∃ k, j = k + 1 := ⟨j - 1, by omega⟩
        have hk1 : k + 1 < u.xs.length := by omega
        have hk0 : k < u.xs.length := by omega
        (refine X.ixo ha2.ob (i := (k + 1)) (by omega) rfl rfl rfl rfl rfl rfl rfl (by first | rfl | omega) fun b1 hb1 => ?_); obtain rfl := some_eq (hqb.symm.trans hb1); (skip)
        (refine X.acl (D := .pair) 0 0 hu (i := (k + 1)) (by omega) rfl hub rfl rfl rfl rfl rfl rfl rfl rfl rfl rfl ?_); rintro _ ⟨ya, yn, yc, rfl, yq⟩; ((repeat' (first | refine X.rd rfl rfl ?_ | refine X.sb rfl rfl rfl rfl rfl rfl (by omega) ?_)))
        (refine X.ixo ha2.ob (i := k) (by omega) rfl rfl rfl rfl rfl rfl rfl (by first | rfl | omega) fun b1 hb1 => ?_); obtain rfl := some_eq (hqb.symm.trans hb1); (skip)
        (refine X.acl (D := .pair) 0 0 hu (i := k) (by omega) rfl hub rfl rfl rfl rfl rfl rfl rfl rfl rfl rfl ?_); rintro _ ⟨za, zn, zc, rfl, zq⟩; (skip)
        refine X.callq rfl rfl (gV_ok rfl) rfl rfl rfl rfl (en rfl) (comparePairings_ev (s1 := ⟨ya, yn, yc⟩) (s2 := ⟨za, zn, zc⟩) yq zq (hw _ (List.getElem_mem hk1)) (hw _ (List.getElem_mem hk0))) ?_
        rintro v rfl
        (repeat' (first | refine J.seq ?_ | refine J.block ?_ | refine J.roA rfl ?_ | refine J.rdA (by kernel_rfl) rfl ?_ | refine X.ro rfl rfl ?_ | refine X.rd rfl rfl ?_ | refine X.nil0 ?_ | refine X.nil1 ⟨by kernel_rfl, ?_⟩ | refine J.skip ?_ | refine J.exit ?_ | refine X.ad rfl rfl rfl rfl rfl rfl (by omega) ?_ | refine X.sb rfl rfl rfl rfl rfl rfl (by omega) ?_ | refine J.cond_d rfl (fun h => ?_) (fun h => ?_)))
        · have hc := h
          (refine X.ixo ha2.ob (i := k) (by omega) rfl rfl rfl rfl rfl rfl rfl (by first | rfl | omega) fun b1 hb1 => ?_); obtain rfl := some_eq (hqb.symm.trans hb1); (skip)
          (refine X.acl (D := .pair) 0 0 hu (i := k) (by omega) rfl hub rfl rfl rfl rfl rfl rfl rfl rfl rfl rfl ?_); rintro _ ⟨ma, mn, mc, rfl, mq⟩; ((repeat' (first | refine X.rd rfl rfl ?_)))
          (refine X.ixo ha2.ob (i := (k + 1)) (by omega) rfl rfl rfl rfl rfl rfl rfl (by first | rfl | omega) fun b1 hb1 => ?_); obtain rfl := some_eq (hqb.symm.trans hb1); (skip)
          (refine X.acl (D := .pair) 0 0 hu (i := (k + 1)) (by omega) rfl hub rfl rfl rfl rfl rfl rfl rfl rfl rfl rfl ?_); rintro _ ⟨na, nn, nc, rfl, nq⟩; (skip)
          (refine X.ixo ha2.ob (i := (k + 1)) (by omega) rfl rfl rfl rfl rfl rfl rfl (by first | rfl | omega) fun b1 hb1 => ?_); obtain rfl := some_eq (hqb.symm.trans hb1); (skip)
          refine X.acs (D := .pair) (z := u.xs[k]) 0 hu hk1 rfl hub ⟨_, _, _, rfl, mq⟩ rfl rfl rfl rfl rfl rfl rfl rfl rfl fun u1 e1 o1 k1 => ?_
          skip
          (refine X.ixo ha2.ob (i := k) (by omega) rfl rfl rfl rfl rfl rfl rfl (by first | rfl | omega) fun b1 hb1 => ?_); obtain rfl := some_eq (hqb.symm.trans hb1); (skip)
          refine X.acs (D := .pair) (z := u.xs[k + 1]) 0 k1 (i := k) (by rw [e1, List.length_set]; exact hk0) rfl (o1.trans hub) ⟨_, _, _, rfl, nq⟩ rfl rfl rfl rfl rfl rfl rfl rfl rfl fun u2 e2 o2 k2 => ?_
          (repeat' (first | refine J.roA rfl ?_ | refine X.ro rfl rfl ?_ | refine X.nil0 ?_ | refine X.nil1 ⟨by kernel_rfl, ?_⟩ | refine X.sb rfl rfl rfl rfl rfl rfl (by omega) ?_))
          rw [e1] at e2
          have hsw := hbub.swap hk1 hc
          refine ⟨(k, u2), ⟨rfl, rfl, rfl, rfl, (by show some _ = some _; congr 2; dsimp only; omega), trivial⟩, (fun _ _ _ h => h), ⟨hB12, by dsimp only; omega, (o2.trans o1).trans hob2, k2, ?_, ?_⟩, by dsimp only; omega⟩
          · dsimp only
            rw [e2]
            exact hsw.2.trans hup
          · dsimp only
            rw [e2]
            exact hsw.1
        · have hc := h
          exact ⟨(i + 1, u), ⟨rfl, rfl, (by show some _ = some u.v; rw [Acc.v_eq hob2 hul]), rfl, trivial⟩, (fun _ _ _ h => h), ⟨hB1.trans hB12, by dsimp only; omega, hu, by dsimp only; omega, fin (.inr ⟨by omega, hc⟩), hw⟩, by dsimp only; omega⟩
      · exact ⟨(i + 1, u), ⟨rfl, rfl, (by show some _ = some u.v; rw [Acc.v_eq hob2 hul]), rfl, trivial⟩, (fun _ _ _ h => h), ⟨hB1.trans hB12, by dsimp only; omega, hu, by dsimp only; omega, fin (.inl (by omega)), hw⟩, by dsimp only; omega⟩
  · have e : i = a.length := by omega
    subst e
    exact ⟨_, .cons (.tmp rfl) .nil, rfl, fun B' hB' hK => ⟨⟨oa o.ob, o.xs.length, o.xs.length⟩, o.xs, rfl, (ho.ge hB').sq (T := 78) fun b Y h => hK b Y (by rw [← h]; exact .head _), hm, by omega, how⟩⟩
theorem compareR_ev {sx ox sy oy : Slc} {cx cy : Int} {x y : List Pair} (hx : SqS .pair B sx x) (hy : SqS .pair B sy y) (wx : ∀ p ∈ x, PairB p) (wy : ∀ p ∈ y, PairB p) (lx : x.length ≤ 12) (ly : y.length ≤ 12) :
    EvP Tryz.prog 16 [planV sx ox cx, planV sy oy cy] B fun v B1 => ∃ (r1 r2 : Slc) (o1 o2 : List Pair), v = .agg #[r1.v, r2.v] ∧ SqS .pair B1 r1 o1 ∧ SqS .pair B1 r2 o2 ∧ More x y x.length o1 ∧ More y x y.length o2 := by
  refine EvP.go Tryz.func16 rfl Tryz.ntmps16 Tryz.results16 rfl [] rfl ?_
  (repeat' (first | refine J.seq ?_ | refine J.roA rfl ?_ | refine J.rdA (by kernel_rfl) rfl ?_ | refine X.rd rfl rfl ?_ | refine X.nil0 ?_ | refine X.l1 0 rfl rfl rfl rfl rfl rfl rfl rfl rfl ?_ | refine X.l1 1 rfl rfl rfl rfl rfl rfl rfl rfl rfl ?_ | refine X.bx rfl rfl rfl rfl rfl rfl rfl rfl fun b => ?_ | refine X.al rfl rfl rfl rfl rfl rfl rfl fun b => ?_))
  refine X.call rfl rfl (gV_ok rfl) rfl rfl rfl rfl (en rfl) (more_ev hx hy wx wy lx ly) ?_
  rintro v B1 hB1 ⟨r1, o1, rfl, h1, m1, _, _⟩
  (repeat' (first | refine X.rd rfl rfl ?_ | refine X.l1 0 rfl rfl rfl rfl rfl rfl rfl rfl rfl ?_ | refine X.l1 1 rfl rfl rfl rfl rfl rfl rfl rfl rfl ?_))
  refine X.call rfl rfl (gV_ok rfl) rfl rfl rfl rfl (en rfl) (more_ev (hy.ge hB1) (hx.ge hB1) wy wx ly lx) ?_
  rintro v B2 hB2 ⟨r2, o2, rfl, h2, m2, _, _⟩
  (repeat' (first | refine X.nil1 ⟨by kernel_rfl, ?_⟩ | refine J.ret ?_ | refine X.st 2 rfl rfl rfl rfl rfl rfl rfl rfl rfl ?_ | refine X.bd rfl rfl rfl rfl rfl rfl rfl rfl rfl rfl rfl ?_))
  exact ⟨_, .cons (.cellA (p := 2) rfl (ag rfl) (sz rfl) rfl rfl) .nil, rfl, fun B' hB' _ => ⟨r1, r2, o1, o2, rfl, (h1.ge hB2).ge hB', h2.ge hB', m1, m2⟩⟩
end
end Go.Proofs.YthldmlfpebgojaaGreatDoor
/-
  Numbers shifted to the right by any amount.
  No condition.
-/
namespace Go.Proofs.YthldmlfpebgojaaGreatDoor
set_option linter.unusedSimpArgs false
set_option linter.unusedVariables false
open Go.RowKit Go

theorem shr_any {P : Program} (T : Nat) (x y : Operand) (a c : Int) (hc : 0 ≤ c) : ∃ w, quick P (binRun .shr T x y (.int .i64 a) (.int .u64 c)) = some (.int .i64 w) := by
  refine ⟨a.fdiv (2 ^ min c.toNat IntKind.i64.bits), ?_⟩
  have h2 : ¬ (c < 0) := by omega
  have e : binRun .shr T x y (.int .i64 a) (.int .u64 c) = pure (.int .i64 (a.fdiv (2 ^ min c.toNat IntKind.i64.bits))) := by
    simp only [binRun, eqGuard, binOp, Op.shift, h2, if_false]
    rfl
  rw [e]
  rfl
section
variable {N : Nat} {ops : Array Oper} {d : Md} {l : List Oper} {o : Oper} {B : St} {K : Hp} {L : Loc} {Q : PostX} {t : Nat}
theorem X.shA {T U : TypeId} {x y : Operand} {a c : Int} (hc : 0 ≤ c) (ho : o.op = .binOp .shr T x y U) (hg : gV ops o L = some true) (hd : o.dst = some t) (ht : Nat.blt t N = true) (hx : opvL L x = some (.int .i64 a)) (hy : opvL L y = some (.int .u64 c))
    (h : ∀ w, X Tryz.prog N ops (dMap d .inc) l B K ((t, .int .i64 w) :: L) Q) : X Tryz.prog N ops d (o :: l) B K L Q := by
  obtain ⟨w, hw⟩ := shr_any (P := Tryz.prog) T x y a c hc
  exact X.pure (gV_ok hg) hd ht (.bin ho hx hy rfl rfl rfl hw) (h w)
end
end Go.Proofs.YthldmlfpebgojaaGreatDoor
