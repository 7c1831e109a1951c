/-
  Contracts of the orders of tasks, duties and pairings.
  Condition: the lists lie in memory.
-/
import Derived.Test.YthldmlfpebgojaaGreatDoorR04
namespace Go.Proofs.YthldmlfpebgojaaGreatDoor
set_option linter.unusedSimpArgs false
set_option linter.unusedVariables false
set_option maxHeartbeats 0
set_option maxRecDepth 20000
open Go.RowKit Go

def cmpI (a b : Int) : Int := if a < b then -1 else if b < a then 1 else 0
def bI (b : Bool) : Int := if b then 1 else 0
def cmpT (a b : Task) : Int := if a.flight = b.flight then bI a.head - bI b.head else if a.flight < b.flight then -1 else 1
def lex {α : Type} (c : α → α → Int) : List α → List α → Int
  | [], [] => 0
  | [], _ :: _ => -1
  | _ :: _, [] => 1
  | a :: x, b :: y => if c a b = 0 then lex c x y else c a b
def cmpS (a b : ByteArray) : Int := if a = b then 0 else if Op.bytesLess a.toList b.toList then -1 else 1
def cmpD : Duty → Duty → Int := lex cmpT
def cmpP (a b : Pair) : Int := if cmpS a.base b.base = 0 then lex cmpD a.duties b.duties else cmpS a.base b.base
theorem lex_drop {α : Type} (c : α → α → Int) (x y : List α) (i : Nat) (h : ∀ (j : Nat) (hx : j < x.length) (hy : j < y.length), j < i → c x[j] y[j] = 0) (hx : i ≤ x.length) (hy : i ≤ y.length) : lex c x y = lex c (x.drop i) (y.drop i) := by
  induction i generalizing x y with
  | zero => simp
  | succ i ih =>
    cases x with
    | nil => simp at hx
    | cons a x =>
      cases y with
      | nil => simp at hy
      | cons b y =>
        have h0 : c a b = 0 := h 0 (by simp) (by simp) (by omega)
        simp only [lex, h0, if_true, List.drop_succ_cons]
        exact ih x y (fun j h1 h2 h3 => h (j + 1) (by simpa using h1) (by simpa using h2) (by omega)) (by simpa using hx) (by simpa using hy)
theorem lex_at {α : Type} (c : α → α → Int) (x y : List α) (i : Nat) (h : ∀ (j : Nat) (hx : j < x.length) (hy : j < y.length), j < i → c x[j] y[j] = 0) (hx : i < x.length) (hy : i < y.length) (hne : c x[i] y[i] ≠ 0) : lex c x y = c x[i] y[i] := by
  rw [lex_drop c x y i h (by omega) (by omega), List.drop_eq_getElem_cons hx, List.drop_eq_getElem_cons hy]
  simp only [lex, hne, if_false]
theorem lex_end {α : Type} (c : α → α → Int) (x y : List α) (i : Nat) (h : ∀ (j : Nat) (hx : j < x.length) (hy : j < y.length), j < i → c x[j] y[j] = 0) (hx : i ≤ x.length) (hy : i ≤ y.length) (he : i = x.length ∨ i = y.length) : lex c x y = cmpI x.length y.length := by
  rw [lex_drop c x y i h hx hy]
  unfold cmpI
  rcases he with rfl | rfl
  · rw [List.drop_length]
    cases hd : y.drop x.length with
    | nil =>
      have := congrArg List.length hd
      simp at this
      simp only [lex]
      rw [if_neg (by omega), if_neg (by omega)]
    | cons b l =>
      have := congrArg List.length hd
      simp at this
      simp only [lex]
      rw [if_pos (by omega)]
  · rw [List.drop_length]
    cases hd : x.drop y.length with
    | nil =>
      have := congrArg List.length hd
      simp at this
      simp only [lex]
      rw [if_neg (by omega), if_neg (by omega)]
    | cons b l =>
      have := congrArg List.length hd
      simp at this
      simp only [lex]
      rw [if_neg (by omega), if_pos (by omega)]
theorem bl_irr : ∀ l : List UInt8, Op.bytesLess l l = false
  | [] => rfl
  | a :: l => by unfold Op.bytesLess; rw [bl_irr l]; simp
abbrev Task.v (x : Task) : Value := .agg #[.int .i64 x.flight, .bool x.head]
section
variable {B : St}
theorem compare_ev (a b : Int) : EvP Tryz.prog 119 [.int .i64 a, .int .i64 b] B fun v _ => v = .int .i64 (cmpI a b) := by
  refine EvP.go Tryz.func119 rfl Tryz.ntmps119 Tryz.results119 rfl [] rfl ?_
  (repeat' (first | refine J.seq ?_ | refine J.roA rfl ?_ | refine X.ro rfl rfl ?_ | refine X.nil0 ?_ | refine J.skip ?_ | refine J.ret ?_ | refine J.cond_d rfl (fun h => ?_) (fun h => ?_)))
  · exact ⟨_, .cons (.tmp rfl) .nil, rfl, fun _ _ _ => (by unfold cmpI; rw [if_pos (by assumption)]; rfl)⟩
  · refine X.callq rfl rfl (gV_ok rfl) rfl rfl rfl rfl (en rfl) (flag_ev _) ?_
    rintro v rfl
    (repeat' (first | refine X.ro rfl rfl ?_ | refine X.nil0 ?_ | refine J.ret ?_))
    exact ⟨_, .cons (.tmp rfl) .nil, rfl, fun _ _ _ => (by unfold cmpI; rw [if_neg (by assumption)]; by_cases h2 : b < a <;> simp [h2] <;> rfl)⟩
theorem compareTasks_ev (x y : Task) : EvP Tryz.prog 187 [x.v, y.v] B fun v _ => v = .int .i64 (cmpT x y) := by
  refine EvP.go Tryz.func187 rfl Tryz.ntmps187 Tryz.results187 rfl [] rfl ?_
  (repeat' (first | refine J.seq ?_ | refine J.roA rfl ?_ | refine J.rdA (by kernel_rfl) rfl ?_ | refine X.ro rfl rfl ?_ | refine X.rd rfl rfl ?_ | refine X.nil0 ?_ | refine J.skip ?_ | refine J.ret ?_ | refine X.l1 0 rfl rfl rfl rfl rfl rfl rfl rfl rfl ?_ | refine X.l1 1 rfl rfl rfl rfl rfl rfl rfl rfl rfl ?_ | refine X.bx rfl rfl rfl rfl rfl rfl rfl rfl fun b => ?_ | refine J.cond_d rfl (fun h => ?_) (fun h => ?_) | refine J.cond_nd rfl (fun h => ?_) (fun h => ?_)))
  · exact ⟨_, .cons (.tmp rfl) .nil, rfl, fun _ _ _ => (by unfold cmpT; rw [if_neg (by assumption), if_pos (by assumption)]; rfl)⟩
  · exact ⟨_, .cons (.tmp rfl) .nil, rfl, fun _ _ _ => (by unfold cmpT; rw [if_neg (by assumption), if_neg (by assumption)]; rfl)⟩
  · refine X.callq rfl rfl (gV_ok rfl) rfl rfl rfl rfl (en rfl) (flag_ev _) ?_
    rintro v rfl
    (repeat' (first | refine X.rd rfl rfl ?_ | refine X.l1 1 rfl rfl rfl rfl rfl rfl rfl rfl rfl ?_))
    refine X.callq rfl rfl (gV_ok rfl) rfl rfl rfl rfl (en rfl) (flag_ev _) ?_
    rintro v rfl
    (repeat' (first | refine X.rd rfl rfl ?_ | refine X.nil1 ⟨by kernel_rfl, ?_⟩ | refine J.ret ?_ | refine X.sb rfl rfl rfl rfl rfl rfl (by omega) ?_))
    exact ⟨_, .cons (.tmp rfl) .nil, rfl, fun _ _ _ => (by unfold cmpT bI; rw [if_pos (by assumption)]; rfl)⟩
theorem isNaNs_ev (a : ByteArray) : EvP Tryz.prog 193 [.string a] B fun v _ => v = .bool false := by
  refine EvP.go Tryz.func193 rfl Tryz.ntmps193 Tryz.results193 rfl [] rfl ?_
  (repeat' (first | refine J.seq ?_ | refine J.roA rfl ?_ | refine X.ro rfl rfl ?_ | refine X.nil0 ?_ | refine J.ret ?_))
  exact ⟨_, .cons (.tmp rfl) .nil, rfl, fun _ _ _ => (by show Value.bool (!decide (a = a)) = _; simp)⟩
theorem isNaNi_ev (a : Int) : EvP Tryz.prog 305 [.int .i64 a] B fun v _ => v = .bool false := by
  refine EvP.go Tryz.func305 rfl Tryz.ntmps305 Tryz.results305 rfl [] rfl ?_
  (repeat' (first | refine J.seq ?_ | refine J.roA rfl ?_ | refine X.ro rfl rfl ?_ | refine X.nil0 ?_ | refine J.ret ?_))
  exact ⟨_, .cons (.tmp rfl) .nil, rfl, fun _ _ _ => (by show Value.bool (!decide (a = a)) = _; simp)⟩
theorem cmpi_ev (a b : Int) : EvP Tryz.prog 249 [.int .i64 a, .int .i64 b] B fun v _ => v = .int .i64 (cmpI a b) := by
  refine EvP.go Tryz.func249 rfl Tryz.ntmps249 Tryz.results249 rfl [] rfl ?_
  (repeat' (first | refine J.seq ?_ | refine J.roA rfl ?_ | refine X.ro rfl rfl ?_ | refine X.nil0 ?_))
  refine X.callq rfl rfl (gV_ok rfl) rfl rfl rfl rfl (en rfl) (isNaNi_ev a) ?_
  rintro v rfl
  (repeat' (first | refine J.seq ?_ | refine J.roA rfl ?_ | refine X.ro rfl rfl ?_ | refine X.nil0 ?_))
  refine X.callq rfl rfl (gV_ok rfl) rfl rfl rfl rfl (en rfl) (isNaNi_ev b) ?_
  rintro v rfl
  (repeat' (first | refine J.seq ?_ | refine J.roA rfl ?_ | refine X.ro rfl rfl ?_ | refine X.nil0 ?_ | refine J.skip ?_ | refine J.ret ?_ | refine J.cond_f rfl ?_ | refine J.cond_d rfl (fun h => ?_) (fun h => ?_)))
  · exact ⟨_, .cons (.tmp rfl) .nil, rfl, fun _ _ _ => (by unfold cmpI; rw [if_pos (by assumption)]; rfl)⟩
  · exact ⟨_, .cons (.tmp rfl) .nil, rfl, fun _ _ _ => (by unfold cmpI; rw [if_neg (by assumption), if_pos (by assumption)]; rfl)⟩
  · exact ⟨_, .cons (.tmp rfl) .nil, rfl, fun _ _ _ => (by unfold cmpI; rw [if_neg (by assumption), if_neg (by assumption)]; rfl)⟩
theorem toList_inj {a b : ByteArray} (h : a.toList = b.toList) : a = b := by
  rw [Lib.toList_data, Lib.toList_data] at h
  cases a; cases b
  simp only [ByteArray.mk.injEq]
  exact Array.toList_inj.1 h
theorem cmps_ev (a b : ByteArray) : EvP Tryz.prog 129 [.string a, .string b] B fun v _ => v = .int .i64 (cmpS a b) := by
  refine EvP.go Tryz.func129 rfl Tryz.ntmps129 Tryz.results129 rfl [] rfl ?_
  (repeat' (first | refine J.seq ?_ | refine J.roA rfl ?_ | refine X.ro rfl rfl ?_ | refine X.nil0 ?_))
  refine X.callq rfl rfl (gV_ok rfl) rfl rfl rfl rfl (en rfl) (isNaNs_ev a) ?_
  rintro v rfl
  (repeat' (first | refine J.seq ?_ | refine J.roA rfl ?_ | refine X.ro rfl rfl ?_ | refine X.nil0 ?_))
  refine X.callq rfl rfl (gV_ok rfl) rfl rfl rfl rfl (en rfl) (isNaNs_ev b) ?_
  rintro v rfl
  (repeat' (first | refine J.seq ?_ | refine J.roA rfl ?_ | refine X.ro rfl rfl ?_ | refine X.nil0 ?_ | refine J.skip ?_ | refine J.ret ?_ | refine J.cond_f rfl ?_ | refine J.cond rfl (fun h => ?_) (fun h => ?_)))
  · exact ⟨_, .cons (.tmp rfl) .nil, rfl, fun _ _ _ => (by
      unfold cmpS
      have h : Op.bytesLess a.toList b.toList = true := by assumption
      rw [if_neg (fun e => by rw [e, bl_irr] at h; cases h), if_pos h]; rfl)⟩
  · rename_i h0
    have h1 := h
    exact ⟨_, .cons (.tmp rfl) .nil, rfl, fun _ _ _ => (by
      unfold cmpS
      have h1 := h1
      simp only [h0, Bool.false_or, Bool.not_eq_true', beq_eq_false_iff_ne] at h1
      rw [if_neg (fun e => h1 (by rw [e])), h0]; rfl)⟩
  · rename_i h0
    have h1 := h
    exact ⟨_, .cons (.tmp rfl) .nil, rfl, fun _ _ _ => (by
      unfold cmpS
      have h1 := h1
      simp only [h0, Bool.false_or, Bool.not_eq_false', beq_iff_eq] at h1
      rw [if_pos (toList_inj h1)]; rfl)⟩
theorem cmpT_eq {x y : Task} {v : Value} (h : cmpI x.flight y.flight = 0) (hv : v = .int .i64 (bI x.head - bI y.head)) : v = .int .i64 (cmpT x y) := by
  have e : x.flight = y.flight := by
    unfold cmpI at h
    split at h
    · cases h
    · split at h
      · cases h
      · omega
  rw [hv]; unfold cmpT; rw [if_pos e]
theorem compareTasksM_ev (x y : Task) : EvP Tryz.prog 195 [x.v, y.v] B fun v _ => v = .int .i64 (cmpT x y) := by
  refine EvP.go Tryz.func195 rfl Tryz.ntmps195 Tryz.results195 rfl [] rfl ?_
  (repeat' (first | refine J.seq ?_ | refine J.roA rfl ?_ | refine X.ro rfl rfl ?_ | refine X.nil0 ?_ | refine X.l1 0 rfl rfl rfl rfl rfl rfl rfl rfl rfl ?_ | refine X.l1 1 rfl rfl rfl rfl rfl rfl rfl rfl rfl ?_ | refine X.bx rfl rfl rfl rfl rfl rfl rfl rfl fun b => ?_))
  refine X.callq rfl rfl (gV_ok rfl) rfl rfl rfl rfl (en rfl) (cmpi_ev _ _) ?_
  rintro v rfl
  (repeat' (first | refine J.seq ?_ | refine J.block ?_ | refine J.roA rfl ?_ | refine X.ro rfl rfl ?_ | refine X.nil0 ?_ | refine J.skip ?_ | refine J.ret ?_ | refine X.l1 0 rfl rfl rfl rfl rfl rfl rfl rfl rfl ?_ | refine X.l1 1 rfl rfl rfl rfl rfl rfl rfl rfl rfl ?_ | refine X.be rfl rfl rfl rfl rfl rfl rfl ?_ | refine J.cond_d rfl (fun h => ?_) (fun h => ?_) | refine J.cond_nd rfl (fun h => ?_) (fun h => ?_) | refine J.cond rfl (fun h => ?_) (fun h => ?_)))
  · exact ⟨_, .cons (.tmp rfl) .nil, rfl, fun _ _ _ => (by
      have h : ¬ cmpI x.flight y.flight = 0 := by assumption
      unfold cmpT; unfold cmpI at h ⊢
      by_cases h1 : x.flight < y.flight
      · rw [if_neg (by omega), if_pos h1, if_pos h1]; rfl
      · by_cases h2 : y.flight < x.flight
        · rw [if_neg (by omega), if_neg h1, if_neg h1, if_pos h2]; rfl
        · rw [if_neg h1, if_neg h2] at h; exact absurd rfl h)⟩
  · exact ⟨_, .cons (.tmp rfl) .nil, rfl, fun _ _ _ => (cmpT_eq (by assumption) (by simp_all; rfl))⟩
  · exact ⟨_, .cons (.tmp rfl) .nil, rfl, fun _ _ _ => (cmpT_eq (by assumption) (by simp_all; rfl))⟩
  · exact ⟨_, .cons (.tmp rfl) .nil, rfl, fun _ _ _ => (cmpT_eq (by assumption) (by simp_all; rfl))⟩
theorem compareDuties_ev {s1 s2 : Slc} {x y : Duty} (hx : SqS .task B s1 x) (hy : SqS .task B s2 y) (bx : x.length ≤ 1000) (by' : y.length ≤ 1000) : EvP Tryz.prog 118 [s1.v, s2.v] B fun v _ => v = .int .i64 (cmpD x y) := by
  have hnx := hx.len
  have hny := hy.len
  refine EvP.go Tryz.func118 rfl Tryz.ntmps118 Tryz.results118 rfl [] rfl ?_
  (repeat' (first | refine J.seq ?_ | refine J.block ?_ | refine J.roA rfl ?_ | refine X.ro rfl rfl ?_ | refine X.nil0 ?_))
  refine J.loop (σ := Nat) (fun i => [(0, s1.v), (1, s2.v), (5, .int .i64 (i : Int))]) (fun _ => _) (fun B1 i => B1 = B ∧ i ≤ x.length ∧ i ≤ y.length ∧ ∀ (j : Nat) (hx : j < x.length) (hy : j < y.length), j < i → cmpT x[j] y[j] = 0) (fun i => x.length - i) 0 ⟨rfl, Nat.zero_le _, Nat.zero_le _, fun j _ _ h => absurd h (by omega)⟩ ⟨rfl, rfl, rfl, trivial⟩ (Less.refl _) fun i B1 hB hI => ?_
  obtain ⟨rfl, hi1, hi2, hj⟩ := hI
  (repeat' (first | refine J.seq ?_ | refine J.block ?_ | refine J.roA rfl ?_ | refine J.rdA (by kernel_rfl) rfl ?_ | refine X.ro rfl rfl ?_ | refine X.rd rfl rfl ?_ | refine X.nil0 ?_ | refine J.skip ?_ | refine J.exit ?_ | refine J.cond_f rfl ?_ | refine X.g_d rfl rfl rfl (fun h => ?_) (fun h => ?_) | refine J.cond_d rfl (fun h => ?_) (fun h => ?_)))
  · have hi3 : i < x.length := by omega
    have hi4 : i < y.length := by omega
    (refine X.ix hx (i := i) (by omega) rfl rfl rfl rfl rfl rfl rfl rfl (by first | rfl | omega) fun b1 f1 cs1 hr1 hx1 => ?_; obtain rfl := hx1; skip; refine X.lg 0 hr1 rfl rfl (by first | exact .md | exact .mo | exact .mf) (Ge.refl _) rfl rfl rfl rfl rfl rfl rfl rfl ?_; (repeat' (first | refine X.rd rfl rfl ?_)))
    (refine X.ix hy (i := i) (by omega) rfl rfl rfl rfl rfl rfl rfl rfl (by first | rfl | omega) fun b1 f1 cs1 hr1 hx1 => ?_; obtain rfl := hx1; skip; refine X.lg 0 hr1 rfl rfl (by first | exact .md | exact .mo | exact .mf) (Ge.refl _) rfl rfl rfl rfl rfl rfl rfl rfl ?_; skip)
    refine X.callq rfl rfl (gV_ok rfl) rfl rfl rfl rfl (en rfl) (compareTasks_ev x[i] y[i]) ?_
    rintro v rfl
    (repeat' (first | refine J.seq ?_ | refine J.roA rfl ?_ | refine X.ro rfl rfl ?_ | refine X.rd rfl rfl ?_ | refine X.nil0 ?_ | refine X.nil1 ⟨by kernel_rfl, ?_⟩ | refine J.skip ?_ | refine J.ret ?_ | refine X.ad rfl rfl rfl rfl rfl rfl (by omega) ?_ | refine J.cond_nd rfl (fun h => ?_) (fun h => ?_)))
    · exact ⟨_, .cons (.tmp rfl) .nil, rfl, fun _ _ _ => congrArg _ (lex_at cmpT x y i hj hi3 hi4 (by assumption)).symm⟩
    · refine ⟨i + 1, ⟨rfl, rfl, rfl, trivial⟩, Less.refl _, ⟨rfl, by omega, by omega, fun j h1 h2 h3 => ?_⟩, by dsimp only; omega⟩
      rcases Nat.lt_or_eq_of_le (Nat.le_of_lt_succ h3) with h4 | rfl
      · exact hj j h1 h2 h4
      · assumption
  all_goals
    refine X.callq rfl rfl (gV_ok rfl) rfl rfl rfl rfl (en rfl) (compare_ev _ _) ?_
    rintro v rfl
    (repeat' (first | refine X.ro rfl rfl ?_ | refine X.nil0 ?_ | refine J.ret ?_))
    exact ⟨_, .cons (.tmp rfl) .nil, rfl, fun _ _ _ => (by show Value.int .i64 (cmpI s1.n s2.n) = _; rw [hnx, hny, ← lex_end cmpT x y i hj hi1 hi2 (by omega)]; rfl)⟩
abbrev Pair.sv (x : Pair) (s : Slc) : Value := .agg #[.string x.base, s.v]
/-- Short lists. -/
structure PairB (x : Pair) : Prop where
  n : x.duties.length ≤ 1000
  d : ∀ d ∈ x.duties, d.length ≤ 1000
theorem comparePairings_ev {s1 s2 : Slc} {x y : Pair} (hx : SqS .duty B s1 x.duties) (hy : SqS .duty B s2 y.duties) (bx : PairB x) (by' : PairB y) : EvP Tryz.prog 68 [x.sv s1, y.sv s2] B fun v _ => v = .int .i64 (cmpP x y) := by
  have hnx := hx.len
  have hny := hy.len
  have hlx := bx.n
  have hly := by'.n
  refine EvP.go Tryz.func68 rfl Tryz.ntmps68 Tryz.results68 rfl [] rfl ?_
  (repeat' (first | refine J.seq ?_ | refine J.block ?_ | refine J.roA rfl ?_ | refine X.ro rfl rfl ?_ | refine X.nil0 ?_ | refine J.skip ?_ | refine J.ret ?_ | refine X.l1 0 rfl rfl rfl rfl rfl rfl rfl rfl rfl ?_ | refine X.l1 1 rfl rfl rfl rfl rfl rfl rfl rfl rfl ?_ | refine X.bx rfl rfl rfl rfl rfl rfl rfl rfl fun b => ?_ | refine J.cond_nd rfl (fun h => ?_) (fun h => ?_) | refine J.cond rfl (fun h => ?_) (fun h => ?_)))
  · exact ⟨_, .cons (.tmp rfl) .nil, rfl, fun _ _ _ => (by
      have h1 : ¬ x.base = y.base := by assumption
      have h2 : Op.bytesLess x.base.toList y.base.toList = true := by assumption
      have h3 : cmpS x.base y.base = -1 := by unfold cmpS; rw [if_neg h1, if_pos h2]
      unfold cmpP; rw [h3]; rfl)⟩
  · rename_i h1
    have h2 := h
    exact ⟨_, .cons (.tmp rfl) .nil, rfl, fun _ _ _ => (by
      have h3 : cmpS x.base y.base = 1 := by unfold cmpS; rw [if_neg h1, h2]; rfl
      unfold cmpP; rw [h3]; rfl)⟩
  rename_i b0
  have hbase : cmpS x.base y.base = 0 := by unfold cmpS; rw [if_pos h]
  have fin : cmpP x y = lex cmpD x.duties y.duties := by unfold cmpP; rw [if_pos hbase]
  rw [fin]
  refine J.loop (σ := Nat) (fun i => [(2, .pointer (some ⟨b0, 0, none⟩)), (3, .pointer (some ⟨b, 0, none⟩)), (5, .int .i64 (i : Int))]) (fun _ => _) (fun B1 i => B1 = B ∧ i ≤ x.duties.length ∧ i ≤ y.duties.length ∧ ∀ (j : Nat) (hx : j < x.duties.length) (hy : j < y.duties.length), j < i → cmpD x.duties[j] y.duties[j] = 0) (fun i => x.duties.length - i) 0 ⟨rfl, Nat.zero_le _, Nat.zero_le _, fun j _ _ h => absurd h (by omega)⟩ ⟨rfl, rfl, rfl, trivial⟩ (Less.refl _) fun i B1 hB hI => ?_
  obtain ⟨rfl, hi1, hi2, hj⟩ := hI
  (repeat' (first | refine J.seq ?_ | refine J.block ?_ | refine J.roA rfl ?_ | refine J.rdA (by kernel_rfl) rfl ?_ | refine X.ro rfl rfl ?_ | refine X.rd rfl rfl ?_ | refine X.nil0 ?_ | refine J.skip ?_ | refine J.exit ?_ | refine J.cond_f rfl ?_ | refine X.l1 0 rfl rfl rfl rfl rfl rfl rfl rfl rfl ?_ | refine X.l1 1 rfl rfl rfl rfl rfl rfl rfl rfl rfl ?_ | refine X.g_d rfl rfl rfl (fun h => ?_) (fun h => ?_) | refine J.cond_d rfl (fun h => ?_) (fun h => ?_)))
  · have hi3 : i < x.duties.length := by omega
    have hi4 : i < y.duties.length := by omega
    refine X.ix hx (i := i) (by omega) rfl rfl rfl rfl rfl rfl rfl rfl rfl fun b1 f1 cs1 hr1 hx1 => ?_
    obtain ⟨a1, n1, c1, rfl, hq1⟩ := hx1
    skip
    refine X.ls 0 hr1 rfl (by first | exact .md | exact .mo | exact .mf) (Ge.refl _) rfl rfl rfl rfl rfl rfl rfl ?_
    (repeat' (first | refine X.rd rfl rfl ?_ | refine X.l1 1 rfl rfl rfl rfl rfl rfl rfl rfl rfl ?_))
    refine X.ix hy (i := i) (by omega) rfl rfl rfl rfl rfl rfl rfl rfl rfl fun b1 f1 cs1 hr1 hx1 => ?_
    obtain ⟨a2, n2, c2, rfl, hq2⟩ := hx1
    skip
    refine X.ls 0 hr1 rfl (by first | exact .md | exact .mo | exact .mf) (Ge.refl _) rfl rfl rfl rfl rfl rfl rfl ?_
    skip
    refine X.callq rfl rfl (gV_ok rfl) rfl rfl rfl rfl (en rfl) (compareDuties_ev (s1 := ⟨a1, n1, c1⟩) (s2 := ⟨a2, n2, c2⟩) hq1 hq2 (bx.d _ (List.getElem_mem _)) (by'.d _ (List.getElem_mem _))) ?_
    rintro v rfl
    (repeat' (first | refine J.seq ?_ | refine J.roA rfl ?_ | refine X.ro rfl rfl ?_ | refine X.rd rfl rfl ?_ | refine X.nil0 ?_ | refine X.nil1 ⟨by kernel_rfl, ?_⟩ | refine J.skip ?_ | refine J.ret ?_ | refine X.ad rfl rfl rfl rfl rfl rfl (by omega) ?_ | refine J.cond_nd rfl (fun h => ?_) (fun h => ?_)))
    · exact ⟨_, .cons (.tmp rfl) .nil, rfl, fun _ _ _ => (by show Value.int .i64 (cmpD x.duties[i] y.duties[i]) = _; rw [lex_at cmpD _ _ i hj hi3 hi4 (by assumption)])⟩
    · refine ⟨i + 1, ⟨rfl, rfl, rfl, trivial⟩, Less.refl _, ⟨rfl, by omega, by omega, fun j h1 h2 h3 => ?_⟩, by dsimp only; omega⟩
      rcases Nat.lt_or_eq_of_le (Nat.le_of_lt_succ h3) with h4 | rfl
      · exact hj j h1 h2 h4
      · assumption
  all_goals
    refine X.callq rfl rfl (gV_ok rfl) rfl rfl rfl rfl (en rfl) (compare_ev _ _) ?_
    rintro v rfl
    (repeat' (first | refine X.ro rfl rfl ?_ | refine X.nil0 ?_ | refine J.ret ?_))
    exact ⟨_, .cons (.tmp rfl) .nil, rfl, fun _ _ _ => (by show Value.int .i64 (cmpI s1.n s2.n) = _; rw [hnx, hny, ← lex_end cmpD x.duties y.duties i hj hi1 hi2 (by omega)])⟩
end
end Go.Proofs.YthldmlfpebgojaaGreatDoor
