/-
  Contracts of small functions on lists; Operated.
  Condition: the lists lie in memory.
-/
import Derived.Test.YthldmlfpebgojaaGreatDoorR01
import Derived.Test.YthldmlfpebgojaaGreatDoorR05
namespace Go.Proofs.YthldmlfpebgojaaGreatDoor
set_option linter.unusedSimpArgs false
set_option linter.unusedVariables false
set_option maxHeartbeats 0
set_option maxRecDepth 20000
open Go.RowKit Go

theorem mem_at' {α : Type} {l : List α} {i : Nat} {x : α} (hi : i < l.length) (h : l[i] = x) : x ∈ l := h ▸ List.getElem_mem hi
section
variable {B : St}
theorem hasS_ev {s : Slc} {l : List Int} (n : Int) (hs : SqS (Dt.int .i64) B s l) (hl : l.length ≤ 1000000000000) : EvP Tryz.prog 32 [s.v, .int .i64 n] B fun v _ => v = .bool (decide (n ∈ l)) := by
  obtain ⟨A, k, c⟩ := s
  obtain rfl : k = l.length := hs.len
  exact has_ev l n A c B hs (by omega)
theorem hasText_ev {s : Slc} {l : List ByteArray} (n : ByteArray) (hs : SqS Dt.str B s l) (hl : l.length ≤ 1000000000000) : EvP Tryz.prog 113 [s.v, .string n] B fun v _ => ∃ b, v = .bool b ∧ (b = true → n ∈ l) := by
  have hn := hs.len
  refine EvP.go Tryz.func113 rfl Tryz.ntmps113 Tryz.results113 rfl [] rfl ?_
  (repeat' (first | refine J.seq ?_ | refine J.block ?_ | refine J.roA rfl ?_ | refine X.ro rfl rfl ?_ | refine X.nil0 ?_))
  refine J.loop (σ := Nat) (fun i => [(0, s.v), (1, .string n), (5, .int .i64 (i : Int))]) (fun _ => []) (fun B1 i => B1 = B ∧ i ≤ l.length) (fun i => l.length - i) 0 ⟨rfl, Nat.zero_le _⟩ ⟨rfl, rfl, rfl, trivial⟩ (Less.refl _) fun i B1 hB hI => ?_
  obtain ⟨rfl, hi1⟩ := hI
  (repeat' (first | refine J.seq ?_ | refine J.block ?_ | refine J.roA rfl ?_ | refine X.ro rfl rfl ?_ | refine X.nil0 ?_ | refine J.skip ?_ | refine J.exit ?_ | refine J.ret ?_ | refine J.cond_d rfl (fun h => ?_) (fun h => ?_)))
  · have hi3 : i < l.length := by omega
    refine X.ix hs (i := i) (by omega) rfl rfl rfl rfl rfl rfl rfl rfl rfl fun b1 f1 cs1 hr1 hx1 => ?_
    obtain rfl := hx1
    refine X.ls 0 hr1 rfl (by first | exact .md | exact .mo | exact .mf) (Ge.refl _) rfl rfl rfl rfl rfl rfl rfl ?_
    (repeat' (first | refine J.seq ?_ | refine J.roA rfl ?_ | refine X.ro rfl rfl ?_ | refine X.nil0 ?_ | refine J.skip ?_ | refine J.ret ?_ | refine X.ad rfl rfl rfl rfl rfl rfl (by omega) ?_ | refine J.cond_d rfl (fun h => ?_) (fun h => ?_)))
    · exact ⟨_, .cons (.tmp rfl) .nil, rfl, fun _ _ _ => ⟨_, rfl, fun _ => mem_at' hi3 (by assumption)⟩⟩
    · exact ⟨i + 1, ⟨rfl, rfl, rfl, trivial⟩, Less.refl _, ⟨rfl, by omega⟩, by dsimp only; omega⟩
  · exact ⟨_, .cons (.tmp rfl) .nil, rfl, fun _ _ _ => ⟨_, rfl, fun h => by cases h⟩⟩
theorem heads_ev {s : Slc} {l : Duty} (hs : SqS .task B s l) (hl : l.length ≤ 1000000000000) : EvP Tryz.prog 64 [s.v] B fun v _ => isI v := by
  have hn := hs.len
  refine EvP.go Tryz.func64 rfl Tryz.ntmps64 Tryz.results64 rfl [] rfl ?_
  (repeat' (first | refine J.seq ?_ | refine J.block ?_ | refine J.roA rfl ?_ | refine X.ro rfl rfl ?_ | refine X.nil0 ?_))
  refine J.loop (σ := Nat × Nat) (fun p => [(0, s.v), (3, .int .i64 (p.2 : Int)), (4, .int .i64 (p.1 : Int))]) (fun _ => []) (fun B1 p => B1 = B ∧ p.1 ≤ l.length ∧ p.2 ≤ p.1) (fun p => l.length - p.1) (0, 0) ⟨rfl, Nat.zero_le _, Nat.le_refl _⟩ ⟨rfl, rfl, rfl, trivial⟩ (Less.refl _) fun p B1 hB hI => ?_
  obtain ⟨i, k⟩ := p
  obtain ⟨rfl, hi1, hk⟩ := hI
  dsimp only at hi1 hk
  (repeat' (first | refine J.seq ?_ | refine J.block ?_ | refine J.roA rfl ?_ | refine X.ro rfl rfl ?_ | refine X.nil0 ?_ | refine J.skip ?_ | refine J.exit ?_ | refine J.ret ?_ | refine J.cond_d rfl (fun h => ?_) (fun h => ?_)))
  · have hi3 : i < l.length := by omega
    (refine X.ix hs (i := i) (by omega) rfl rfl rfl rfl rfl rfl rfl rfl (by first | rfl | omega) fun b1 f1 cs1 hr1 hx1 => ?_; obtain rfl := hx1; (repeat' (first | refine X.ro rfl rfl ?_)); refine X.ls 1 hr1 rfl (by first | exact .md | exact .mo | exact .mf) (Ge.refl _) rfl rfl rfl rfl rfl rfl rfl ?_; (repeat' (first | refine J.roA rfl ?_ | refine X.ro rfl rfl ?_ | refine X.nil0 ?_ | refine J.skip ?_ | refine X.ad rfl rfl rfl rfl rfl rfl (by omega) ?_ | refine J.cond rfl (fun h => ?_) (fun h => ?_))))
    · exact ⟨(i + 1, k + 1), ⟨rfl, rfl, rfl, trivial⟩, Less.refl _, ⟨rfl, by dsimp only; omega, by dsimp only; omega⟩, by dsimp only; omega⟩
    · exact ⟨(i + 1, k), ⟨rfl, rfl, rfl, trivial⟩, Less.refl _, ⟨rfl, by dsimp only; omega, by dsimp only; omega⟩, by dsimp only; omega⟩
  · exact ⟨_, .cons (.tmp rfl) .nil, rfl, fun _ _ _ => ⟨_, rfl, inR.of (by omega)⟩⟩
theorem within_ev {s1 s2 : Slc} {x y : List Int} (hx : SqS (Dt.int .i64) B s1 x) (hy : SqS (Dt.int .i64) B s2 y) (lx : x.length ≤ 1000000000000) (ly : y.length ≤ 1000000000000) : EvP Tryz.prog 115 [s1.v, s2.v] B fun v _ => ∃ b, v = .bool b := by
  have hn := hx.len
  refine EvP.go Tryz.func115 rfl Tryz.ntmps115 Tryz.results115 rfl [] rfl ?_
  (repeat' (first | refine J.seq ?_ | refine J.block ?_ | refine J.roA rfl ?_ | refine X.ro rfl rfl ?_ | refine X.nil0 ?_))
  refine J.loop (σ := Nat) (fun i => [(0, s1.v), (1, s2.v), (5, .int .i64 (i : Int))]) (fun _ => []) (fun B1 i => B1 = B ∧ i ≤ x.length) (fun i => x.length - i) 0 ⟨rfl, Nat.zero_le _⟩ ⟨rfl, rfl, rfl, trivial⟩ (Less.refl _) fun i B1 hB hI => ?_
  obtain ⟨rfl, hi1⟩ := hI
  (repeat' (first | refine J.seq ?_ | refine J.block ?_ | refine J.roA rfl ?_ | refine X.ro rfl rfl ?_ | refine X.nil0 ?_ | refine J.skip ?_ | refine J.exit ?_ | refine J.ret ?_ | refine J.cond_d rfl (fun h => ?_) (fun h => ?_)))
  · have hi3 : i < x.length := by omega
    refine X.ix hx (i := i) (by omega) rfl rfl rfl rfl rfl rfl rfl rfl rfl fun b1 f1 cs1 hr1 hx1 => ?_
    obtain rfl := hx1
    refine X.ls 0 hr1 rfl (by first | exact .md | exact .mo | exact .mf) (Ge.refl _) rfl rfl rfl rfl rfl rfl rfl ?_
    refine X.callq rfl rfl (gV_ok rfl) rfl rfl rfl rfl (en rfl) (hasS_ev _ hy ly) ?_
    rintro v rfl
    (repeat' (first | refine J.seq ?_ | refine J.roA rfl ?_ | refine X.ro rfl rfl ?_ | refine X.nil0 ?_ | refine J.skip ?_ | refine J.ret ?_ | refine X.ad rfl rfl rfl rfl rfl rfl (by omega) ?_ | refine J.cond_nd rfl (fun h => ?_) (fun h => ?_)))
    · exact ⟨_, .cons (.tmp rfl) .nil, rfl, fun _ _ _ => ⟨_, rfl⟩⟩
    · exact ⟨i + 1, ⟨rfl, rfl, rfl, trivial⟩, Less.refl _, ⟨rfl, by omega⟩, by dsimp only; omega⟩
  · exact ⟨_, .cons (.tmp rfl) .nil, rfl, fun _ _ _ => ⟨_, rfl⟩⟩
theorem meets_ev {s1 s2 : Slc} {x y : List Int} (hx : SqS (Dt.int .i64) B s1 x) (hy : SqS (Dt.int .i64) B s2 y) (lx : x.length ≤ 1000000000000) (ly : y.length ≤ 1000000000000) : EvP Tryz.prog 72 [s1.v, s2.v] B fun v _ => ∃ b, v = .bool b := by
  have hn := hx.len
  refine EvP.go Tryz.func72 rfl Tryz.ntmps72 Tryz.results72 rfl [] rfl ?_
  (repeat' (first | refine J.seq ?_ | refine J.block ?_ | refine J.roA rfl ?_ | refine X.ro rfl rfl ?_ | refine X.nil0 ?_))
  refine J.loop (σ := Nat) (fun i => [(0, s1.v), (1, s2.v), (5, .int .i64 (i : Int))]) (fun _ => []) (fun B1 i => B1 = B ∧ i ≤ x.length) (fun i => x.length - i) 0 ⟨rfl, Nat.zero_le _⟩ ⟨rfl, rfl, rfl, trivial⟩ (Less.refl _) fun i B1 hB hI => ?_
  obtain ⟨rfl, hi1⟩ := hI
  (repeat' (first | refine J.seq ?_ | refine J.block ?_ | refine J.roA rfl ?_ | refine X.ro rfl rfl ?_ | refine X.nil0 ?_ | refine J.skip ?_ | refine J.exit ?_ | refine J.ret ?_ | refine J.cond_d rfl (fun h => ?_) (fun h => ?_)))
  · have hi3 : i < x.length := by omega
    refine X.ix hx (i := i) (by omega) rfl rfl rfl rfl rfl rfl rfl rfl rfl fun b1 f1 cs1 hr1 hx1 => ?_
    obtain rfl := hx1
    refine X.ls 0 hr1 rfl (by first | exact .md | exact .mo | exact .mf) (Ge.refl _) rfl rfl rfl rfl rfl rfl rfl ?_
    refine X.callq rfl rfl (gV_ok rfl) rfl rfl rfl rfl (en rfl) (hasS_ev _ hy ly) ?_
    rintro v rfl
    (repeat' (first | refine J.seq ?_ | refine J.roA rfl ?_ | refine X.ro rfl rfl ?_ | refine X.nil0 ?_ | refine J.skip ?_ | refine J.ret ?_ | refine X.ad rfl rfl rfl rfl rfl rfl (by omega) ?_ | refine J.cond_d rfl (fun h => ?_) (fun h => ?_)))
    · exact ⟨_, .cons (.tmp rfl) .nil, rfl, fun _ _ _ => ⟨_, rfl⟩⟩
    · exact ⟨i + 1, ⟨rfl, rfl, rfl, trivial⟩, Less.refl _, ⟨rfl, by omega⟩, by dsimp only; omega⟩
  · exact ⟨_, .cons (.tmp rfl) .nil, rfl, fun _ _ _ => ⟨_, rfl⟩⟩
/-- The flights that a pairing operates. -/
def operD (d : Duty) : List Int := (d.filter fun x => !x.head).map (·.flight)
def operated (ds : List Duty) : List Int := (ds.map operD).flatten
theorem operD_len (d : Duty) : (operD d).length ≤ d.length := by unfold operD; rw [List.length_map]; exact List.length_filter_le _ _
theorem operated_len {ds : List Duty} (h : ∀ d ∈ ds, d.length ≤ 1000) : (operated ds).length ≤ 1000 * ds.length := by
  induction ds with
  | nil => simp [operated]
  | cons d ds ih =>
    have h1 := ih fun e he => h e (List.mem_cons_of_mem _ he)
    have h2 := operD_len d
    have h3 := h d (.head _)
    have e : operated (d :: ds) = operD d ++ operated ds := rfl
    rw [e, List.length_append, List.length_cons]
    omega
theorem operated_take {ds : List Duty} {i : Nat} (hi : i < ds.length) : operated (ds.take (i + 1)) = operated (ds.take i) ++ operD ds[i] := by
  unfold operated
  rw [List.take_succ_eq_append_getElem hi, List.map_append, List.flatten_append]
  simp
theorem operD_take {d : Duty} {k : Nat} (hk : k < d.length) : operD (d.take (k + 1)) = operD (d.take k) ++ if d[k].head then [] else [d[k].flight] := by
  unfold operD
  rw [List.take_succ_eq_append_getElem hk, List.filter_append, List.map_append]
  cases hh : d[k].head <;> simp [hh]
theorem Rows.ints {B : St} (xs : List Int) : Rows (Dt.int .i64) B (xs.map (.int .i64 ·)) xs := by
  refine ⟨by rw [List.length_map]; exact (Nat.mul_one _).symm, fun i x h => ?_⟩
  have hlt := (List.getElem?_eq_some_iff.1 h).1
  change ((xs.map (Value.int .i64 ·)).drop (i * 1)).take 1 = [.int .i64 x]
  rw [Nat.mul_one, List.drop_eq_getElem_cons (by rw [List.length_map]; exact hlt)]
  simp [(List.getElem?_eq_some_iff.1 h).2]
/-- A list that grew, as a slice. -/
theorem acc_sq {α : Type} {D : Dt α} {B' : St} {xs : List α} {cells : List Value} {ob : Option Nat} {el n : Nat} (hn : n = xs.length) (hob : accOk ob n) (hr : Rows D B' cells xs) (hB : ∀ b X, accE el D.size ob cells = some (b, X) → B'.get b = some X) : ∃ r : Slc, accV ob n = r.v ∧ SqS D B' r xs := by
  subst hn
  cases ob with
  | none =>
    have hl : xs = [] := List.length_eq_zero_iff.1 hob
    subst hl
    exact ⟨⟨none, 0, 0⟩, rfl, Sq.nil0⟩
  | some b => exact ⟨⟨some ⟨b, 0, none⟩, xs.length, xs.length⟩, rfl, Sq.of_row (hB b _ rfl) hr⟩
theorem operated_ev {s : Slc} {x : Pair} (hx : SqS .duty B s x.duties) (bx : PairB x) : EvP Tryz.prog 31 [x.sv s] B fun v B1 => ∃ r : Slc, v = r.v ∧ SqS (Dt.int .i64) B1 r (operated x.duties) := by
  have hn := hx.len
  have hl := bx.n
  refine EvP.go Tryz.func31 rfl Tryz.ntmps31 Tryz.results31 rfl [none] rfl ?_
  (repeat' (first | refine J.seq ?_ | refine J.block ?_ | refine J.roA rfl ?_ | refine X.ro rfl rfl ?_ | refine X.nil0 ?_ | refine X.bx rfl rfl rfl rfl rfl rfl rfl rfl fun b => ?_))
  refine J.loop (σ := Nat × Option Nat) (fun p => [(1, .pointer (some ⟨b, 0, none⟩)), (3, accV p.2 (operated (x.duties.take p.1)).length), (4, .int .i64 (p.1 : Int))]) (fun p => [accE 3 1 p.2 ((operated (x.duties.take p.1)).map (.int .i64 ·)), some (b, ⟨[.string x.base, s.v], 78, 1⟩)]) (fun B1 p => B1 = B ∧ p.1 ≤ x.duties.length ∧ accOk p.2 (operated (x.duties.take p.1)).length) (fun p => x.duties.length - p.1) (0, none) ⟨rfl, Nat.zero_le _, rfl⟩ ⟨rfl, rfl, rfl, trivial⟩ (fun _ _ _ h => h) ?_
  rintro ⟨i, ob⟩ B1 hB ⟨rfl, hi1, hob⟩
  dsimp only at hi1 hob ⊢
  (repeat' (first | refine J.seq ?_ | refine J.block ?_ | refine J.roA rfl ?_ | refine X.ro rfl rfl ?_ | refine X.nil0 ?_ | refine J.skip ?_ | refine J.exit ?_ | refine J.ret ?_ | refine X.l1 1 rfl rfl rfl rfl rfl rfl rfl rfl rfl ?_ | refine J.cond_d rfl (fun h => ?_) (fun h => ?_)))
  · have hi : i < x.duties.length := by omega
    have hd := bx.d _ (List.getElem_mem hi)
    have hol := operated_len (ds := x.duties.take i) fun d h => bx.d d (List.mem_of_mem_take h)
    have hti : (x.duties.take i).length ≤ 1000 := by rw [List.length_take]; omega
    refine J.loop (σ := Nat × Option Nat) (fun p => [(1, .pointer (some ⟨b, 0, none⟩)), (3, accV p.2 (operated (x.duties.take i) ++ operD (x.duties[i].take p.1)).length), (4, .int .i64 (i : Int)), (5, .int .i64 (p.1 : Int))]) (fun p => [accE 3 1 p.2 ((operated (x.duties.take i) ++ operD (x.duties[i].take p.1)).map (.int .i64 ·)), some (b, ⟨[.string x.base, s.v], 78, 1⟩)]) (fun B2 p => B2 = B1 ∧ p.1 ≤ x.duties[i].length ∧ accOk p.2 (operated (x.duties.take i) ++ operD (x.duties[i].take p.1)).length) (fun p => x.duties[i].length - p.1) (0, ob) ⟨rfl, Nat.zero_le _, by simpa [operD] using hob⟩ ⟨rfl, by simp [operD]; rfl, rfl, rfl, trivial⟩ (by simp only [List.take_zero, operD, List.filter_nil, List.map_nil, List.append_nil]; exact fun _ _ _ h => h) ?_
    rintro ⟨k, oc⟩ B2 hB2 ⟨rfl, hk1, hoc⟩
    dsimp only at hk1 hoc ⊢
    (repeat' (first | refine J.seq ?_ | refine J.roA rfl ?_ | refine X.ro rfl rfl ?_ | refine X.l1 1 rfl rfl rfl rfl rfl rfl rfl rfl rfl ?_))
    (refine X.ix hx (i := i) (by omega) rfl rfl rfl rfl rfl rfl rfl rfl (by first | rfl | omega) fun b1 f1 cs1 hr1 hx1 => ?_); obtain ⟨ua, un, uc, rfl, uq⟩ := hx1; (skip); (refine X.ls 0 hr1 rfl (by first | exact .md | exact .mo | exact .mf) (Ge.refl _) rfl rfl rfl rfl rfl rfl rfl ?_); ((repeat' (first | refine J.seq ?_ | refine J.block ?_ | refine J.roA rfl ?_ | refine X.ro rfl rfl ?_ | refine X.nil0 ?_ | refine J.skip ?_ | refine J.exit ?_ | refine X.l1 1 rfl rfl rfl rfl rfl rfl rfl rfl rfl ?_ | refine X.ad rfl rfl rfl rfl rfl rfl (by omega) ?_ | refine J.cond_d rfl (fun h => ?_) (fun h => ?_))))
    · have hun : un = x.duties[i].length := uq.1
      have hk : k < x.duties[i].length := by omega
      (refine X.ix hx (i := i) (by omega) rfl rfl rfl rfl rfl rfl rfl rfl (by first | rfl | omega) fun b1 f1 cs1 hr1 hx1 => ?_); obtain ⟨wa, wn, wc, rfl, wq⟩ := hx1; (skip); (refine X.ls 0 hr1 rfl (by first | exact .md | exact .mo | exact .mf) (Ge.refl _) rfl rfl rfl rfl rfl rfl rfl ?_); ((repeat' (first | refine X.ro rfl rfl ?_)))
      (refine X.ix wq (i := k) (by omega) rfl rfl rfl rfl rfl rfl rfl rfl (by first | rfl | omega) fun b1 f1 cs1 hr1 hx1 => ?_; obtain rfl := hx1; (repeat' (first | refine X.ro rfl rfl ?_)); refine X.ls 1 hr1 rfl (by first | exact .md | exact .mo | exact .mf) (Ge.refl _) rfl rfl rfl rfl rfl rfl rfl ?_; (repeat' (first | refine J.roA rfl ?_ | refine X.ro rfl rfl ?_ | refine X.nil0 ?_ | refine J.skip ?_ | refine X.l1 1 rfl rfl rfl rfl rfl rfl rfl rfl rfl ?_ | refine X.ad rfl rfl rfl rfl rfl rfl (by omega) ?_ | refine J.cond rfl (fun h => ?_) (fun h => ?_))))
      · (refine X.ix hx (i := i) (by omega) rfl rfl rfl rfl rfl rfl rfl rfl (by first | rfl | omega) fun b1 f1 cs1 hr1 hx1 => ?_); obtain ⟨ya, yn, yc, rfl, yq⟩ := hx1; (skip); (refine X.ls 0 hr1 rfl (by first | exact .md | exact .mo | exact .mf) (Ge.refl _) rfl rfl rfl rfl rfl rfl rfl ?_); ((repeat' (first | refine X.ro rfl rfl ?_)))
        (refine X.ix yq (i := k) (by omega) rfl rfl rfl rfl rfl rfl rfl rfl (by first | rfl | omega) fun b1 f1 cs1 hr1 hx1 => ?_; obtain rfl := hx1; (repeat' (first | refine X.ro rfl rfl ?_)); refine X.ls 0 hr1 rfl (by first | exact .md | exact .mo | exact .mf) (Ge.refl _) rfl rfl rfl rfl rfl rfl rfl ?_; (repeat' (first | refine X.bs rfl rfl rfl rfl rfl rfl (by rfl) rfl rfl (by rfl) (by rfl) rfl (fun b => ?_))))
        have hh : x.duties[i][k].head = false := by
          have h9 : (!x.duties[i][k].head) = true := by assumption
          simpa using h9
        have e : operated (x.duties.take i) ++ operD (x.duties[i].take (k + 1)) = (operated (x.duties.take i) ++ operD (x.duties[i].take k)) ++ [x.duties[i][k].flight] := by rw [operD_take hk, hh, List.append_assoc]; rfl
        have el' : (operated (x.duties.take i) ++ operD (x.duties[i].take (k + 1))).length = (operated (x.duties.take i) ++ operD (x.duties[i].take k)).length + 1 := by rw [e, List.length_append (bs := [_])]; rfl
        have hl2 := operD_len (x.duties[i].take k)
        have hl3 : (x.duties[i].take k).length ≤ 1000 := by rw [List.length_take]; omega
        have hl4 : (operated (x.duties.take i) ++ operD (x.duties[i].take k)).length ≤ 1001000 := by rw [List.length_append]; omega
        refine X.ap (add := [.int .i64 x.duties[i][k].flight]) 0 2 rfl rfl rfl rfl rfl rfl rfl rfl rfl rfl rfl rfl (by rw [List.length_map, Nat.mul_one]) hoc rfl (by rfl) rfl rfl (by show (_ + 1) * 8 ≤ _; omega) (by omega) fun oe hoe => ?_
        (repeat' (first | refine J.roA rfl ?_ | refine X.ro rfl rfl ?_ | refine X.nil0 ?_ | refine X.ad rfl rfl rfl rfl rfl rfl (by omega) ?_))
        refine ⟨(k + 1, oe), ⟨rfl, ?_, rfl, rfl, trivial⟩, ?_, ⟨rfl, by dsimp only; omega, ?_⟩, by dsimp only; omega⟩
        · dsimp only
          rw [el']
          rfl
        · dsimp only
          rw [e, List.map_append]
          exact Less.app _ [_]
        · dsimp only
          rw [el']
          exact hoe
      · have hh : x.duties[i][k].head = true := by
          have h9 : (!x.duties[i][k].head) = false := by assumption
          simpa using h9
        have e : operated (x.duties.take i) ++ operD (x.duties[i].take (k + 1)) = operated (x.duties.take i) ++ operD (x.duties[i].take k) := by rw [operD_take hk, hh]; simp
        refine ⟨(k + 1, oc), ⟨rfl, ?_, rfl, rfl, trivial⟩, ?_, ⟨rfl, by dsimp only; omega, ?_⟩, by dsimp only; omega⟩
        · dsimp only
          rw [e]
          rfl
        · dsimp only
          rw [e]
          exact Less.refl _
        · dsimp only
          rw [e]
          exact hoc
    · have hun : un = x.duties[i].length := uq.1
      obtain rfl : k = x.duties[i].length := by omega
      rw [List.take_length, ← operated_take hi] at hoc
      refine ⟨(i + 1, oc), ⟨rfl, ?_, rfl, trivial⟩, ?_, ⟨rfl, by dsimp only; omega, hoc⟩, by dsimp only; omega⟩
      · dsimp only
        rw [operated_take hi, ← List.take_length (l := x.duties[i])]
        rw [List.take_length]
        simp only [List.take_length]
        rfl
      · dsimp only
        rw [operated_take hi]
        simp only [List.take_length]
        exact Less.refl _
  · obtain rfl : i = x.duties.length := by omega
    rw [List.take_length] at hob
    refine ⟨_, .cons (.tmp rfl) .nil, ?_, fun B' hB' hK => ?_⟩
    · cases ob <;> rfl
    · rw [List.take_length] at hK ⊢
      exact acc_sq rfl hob (Rows.ints _) fun b X h => hK b X (by rw [← h]; exact .head _)
end
end Go.Proofs.YthldmlfpebgojaaGreatDoor
