/-
  Contracts: searches by name.
  Condition: the lists lie in memory.
-/
import Derived.Test.YthldmlfpebgojaaGreatDoorR08
namespace Go.Proofs.YthldmlfpebgojaaGreatDoor
set_option linter.unusedSimpArgs false
set_option linter.unusedVariables false
set_option maxHeartbeats 0
set_option maxRecDepth 20000
open Go.RowKit Go

structure Shf where
  at_ : Int
  off : Int
def Dt.shf : Dt Shf := .flat 2 (fun x => [.int .i64 x.at_, .int .i64 x.off]) (by decide) (fun _ => rfl) fun _ => rfl
structure Zn where
  name : ByteArray
  off : Int
  shifts : List Shf
def Dt.zn : Dt Zn := ⟨3, fun B cs x => ∃ A n c, cs = [.string x.name, .int .i64 x.off, .slice A n c] ∧ Sq .shf B A n c x.shifts, by decide, by rintro _ _ _ ⟨_, _, _, rfl, _⟩; rfl, by rintro _ _ _ _ hB ⟨_, _, _, rfl, h⟩; exact ⟨_, _, _, rfl, h.ge hB⟩, by rintro _ _ _ ⟨_, _, _, rfl, _⟩; rfl⟩
structure Att where
  name : ByteArray
  val : Int
def Dt.att : Dt Att := .flat 2 (fun x => [.string x.name, .int .i64 x.val]) (by decide) (fun _ => rfl) fun _ => rfl
/-- The first place of a name. -/
def isIdx {α : Type} (key : α → ByteArray) (xs : List α) (s : ByteArray) (z : Int) : Prop := (∃ (i : Nat) (h : i < xs.length), z = (i : Int) ∧ key xs[i] = s) ∨ (z = -1 ∧ ∀ x ∈ xs, key x ≠ s)
theorem isIdx.none {α : Type} {key : α → ByteArray} {xs : List α} {s : ByteArray} {i : Nat} (h : ∀ (j : Nat) (hj : j < xs.length), j < i → key xs[j] ≠ s) (hi : xs.length ≤ i) : isIdx key xs s (-1) := .inr ⟨rfl, fun x hx => by
  obtain ⟨j, hj, rfl⟩ := List.getElem_of_mem hx
  exact h j hj (by omega)⟩
section
variable {B : St}
theorem airportIndex_ev {s : Slc} {xs : List Apt} (n : ByteArray) (hs : SqS .apt B s xs) (hl : xs.length ≤ 1000000000000) : EvP Tryz.prog 126 [s.v, .string n] B fun v _ => ∃ z, v = .int .i64 z ∧ isIdx (Apt.code) xs n z := by
  have hn := hs.len
  refine EvP.go Tryz.func126 rfl Tryz.ntmps126 Tryz.results126 rfl [] rfl ?_
  (repeat' (first | refine J.seq ?_ | refine J.block ?_ | refine J.roA rfl ?_ | refine X.ro rfl rfl ?_ | refine X.nil0 ?_))
  refine J.loop (σ := Nat) (fun i => [(0, s.v), (1, .string n), (5, .int .i64 (i : Int))]) (fun _ => []) (fun B1 i => B1 = B ∧ i ≤ xs.length ∧ ∀ (j : Nat) (hj : j < xs.length), j < i → Apt.code xs[j] ≠ n) (fun i => xs.length - i) 0 ⟨rfl, Nat.zero_le _, fun j _ h => absurd h (by omega)⟩ ⟨rfl, rfl, rfl, trivial⟩ (Less.refl _) fun i B1 hB hI => ?_
  obtain ⟨rfl, hi1, hj⟩ := hI
  (repeat' (first | refine J.seq ?_ | refine J.block ?_ | refine J.roA rfl ?_ | refine X.ro rfl rfl ?_ | refine X.nil0 ?_ | refine J.skip ?_ | refine J.exit ?_ | refine J.ret ?_ | refine J.cond_d rfl (fun h => ?_) (fun h => ?_)))
  · have hi3 : i < xs.length := by omega
    refine X.ix hs (i := i) (by omega) rfl rfl rfl rfl rfl rfl rfl rfl rfl fun b1 f1 cs1 hr1 hx1 => ?_
    obtain rfl := hx1
    (repeat' (first | refine X.ro rfl rfl ?_))
    refine X.ls 0 hr1 rfl (by first | exact .md | exact .mo | exact .mf) (Ge.refl _) rfl rfl rfl rfl rfl rfl rfl ?_
    (repeat' (first | refine J.seq ?_ | refine J.roA rfl ?_ | refine X.ro rfl rfl ?_ | refine X.nil0 ?_ | refine J.skip ?_ | refine J.ret ?_ | refine X.ad rfl rfl rfl rfl rfl rfl (by omega) ?_ | refine J.cond_d rfl (fun h => ?_) (fun h => ?_)))
    · exact ⟨_, .cons (.tmp rfl) .nil, rfl, fun _ _ _ => ⟨_, rfl, .inl ⟨i, hi3, rfl, by assumption⟩⟩⟩
    · refine ⟨i + 1, ⟨rfl, rfl, rfl, trivial⟩, Less.refl _, ⟨rfl, by omega, fun j h1 h2 => ?_⟩, by dsimp only; omega⟩
      rcases Nat.lt_or_eq_of_le (Nat.le_of_lt_succ h2) with h4 | rfl
      · exact hj j h1 h4
      · assumption
  · exact ⟨_, .cons (.tmp rfl) .nil, rfl, fun _ _ _ => ⟨_, rfl, isIdx.none hj (by omega)⟩⟩
theorem zoneIndex_ev {s : Slc} {xs : List Zn} (n : ByteArray) (hs : SqS .zn B s xs) (hl : xs.length ≤ 1000000000000) : EvP Tryz.prog 243 [s.v, .string n] B fun v _ => ∃ z, v = .int .i64 z ∧ isIdx (Zn.name) xs n z := by
  have hn := hs.len
  refine EvP.go Tryz.func243 rfl Tryz.ntmps243 Tryz.results243 rfl [] rfl ?_
  (repeat' (first | refine J.seq ?_ | refine J.block ?_ | refine J.roA rfl ?_ | refine X.ro rfl rfl ?_ | refine X.nil0 ?_))
  refine J.loop (σ := Nat) (fun i => [(0, s.v), (1, .string n), (5, .int .i64 (i : Int))]) (fun _ => []) (fun B1 i => B1 = B ∧ i ≤ xs.length ∧ ∀ (j : Nat) (hj : j < xs.length), j < i → Zn.name xs[j] ≠ n) (fun i => xs.length - i) 0 ⟨rfl, Nat.zero_le _, fun j _ h => absurd h (by omega)⟩ ⟨rfl, rfl, rfl, trivial⟩ (Less.refl _) fun i B1 hB hI => ?_
  obtain ⟨rfl, hi1, hj⟩ := hI
  (repeat' (first | refine J.seq ?_ | refine J.block ?_ | refine J.roA rfl ?_ | refine X.ro rfl rfl ?_ | refine X.nil0 ?_ | refine J.skip ?_ | refine J.exit ?_ | refine J.ret ?_ | refine J.cond_d rfl (fun h => ?_) (fun h => ?_)))
  · have hi3 : i < xs.length := by omega
    refine X.ix hs (i := i) (by omega) rfl rfl rfl rfl rfl rfl rfl rfl rfl fun b1 f1 cs1 hr1 hx1 => ?_
    obtain ⟨za, zn, zc, rfl, zq⟩ := hx1
    (repeat' (first | refine X.ro rfl rfl ?_))
    refine X.ls 0 hr1 rfl (by first | exact .md | exact .mo | exact .mf) (Ge.refl _) rfl rfl rfl rfl rfl rfl rfl ?_
    (repeat' (first | refine J.seq ?_ | refine J.roA rfl ?_ | refine X.ro rfl rfl ?_ | refine X.nil0 ?_ | refine J.skip ?_ | refine J.ret ?_ | refine X.ad rfl rfl rfl rfl rfl rfl (by omega) ?_ | refine J.cond_d rfl (fun h => ?_) (fun h => ?_)))
    · exact ⟨_, .cons (.tmp rfl) .nil, rfl, fun _ _ _ => ⟨_, rfl, .inl ⟨i, hi3, rfl, by assumption⟩⟩⟩
    · refine ⟨i + 1, ⟨rfl, rfl, rfl, trivial⟩, Less.refl _, ⟨rfl, by omega, fun j h1 h2 => ?_⟩, by dsimp only; omega⟩
      rcases Nat.lt_or_eq_of_le (Nat.le_of_lt_succ h2) with h4 | rfl
      · exact hj j h1 h4
      · assumption
  · exact ⟨_, .cons (.tmp rfl) .nil, rfl, fun _ _ _ => ⟨_, rfl, isIdx.none hj (by omega)⟩⟩
theorem find_ev {s : Slc} {xs : List Att} (n : ByteArray) (hs : SqS .att B s xs) (hl : xs.length ≤ 1000000000000) : EvP Tryz.prog 235 [s.v, .string n] B fun v _ => ∃ z, v = .int .i64 z ∧ isIdx (Att.name) xs n z := by
  have hn := hs.len
  refine EvP.go Tryz.func235 rfl Tryz.ntmps235 Tryz.results235 rfl [] rfl ?_
  (repeat' (first | refine J.seq ?_ | refine J.block ?_ | refine J.roA rfl ?_ | refine X.ro rfl rfl ?_ | refine X.nil0 ?_))
  refine J.loop (σ := Nat) (fun i => [(0, s.v), (1, .string n), (5, .int .i64 (i : Int))]) (fun _ => []) (fun B1 i => B1 = B ∧ i ≤ xs.length ∧ ∀ (j : Nat) (hj : j < xs.length), j < i → Att.name xs[j] ≠ n) (fun i => xs.length - i) 0 ⟨rfl, Nat.zero_le _, fun j _ h => absurd h (by omega)⟩ ⟨rfl, rfl, rfl, trivial⟩ (Less.refl _) fun i B1 hB hI => ?_
  obtain ⟨rfl, hi1, hj⟩ := hI
  (repeat' (first | refine J.seq ?_ | refine J.block ?_ | refine J.roA rfl ?_ | refine X.ro rfl rfl ?_ | refine X.nil0 ?_ | refine J.skip ?_ | refine J.exit ?_ | refine J.ret ?_ | refine J.cond_d rfl (fun h => ?_) (fun h => ?_)))
  · have hi3 : i < xs.length := by omega
    refine X.ix hs (i := i) (by omega) rfl rfl rfl rfl rfl rfl rfl rfl rfl fun b1 f1 cs1 hr1 hx1 => ?_
    obtain rfl := hx1
    (repeat' (first | refine X.ro rfl rfl ?_))
    refine X.ls 0 hr1 rfl (by first | exact .md | exact .mo | exact .mf) (Ge.refl _) rfl rfl rfl rfl rfl rfl rfl ?_
    (repeat' (first | refine J.seq ?_ | refine J.roA rfl ?_ | refine X.ro rfl rfl ?_ | refine X.nil0 ?_ | refine J.skip ?_ | refine J.ret ?_ | refine X.ad rfl rfl rfl rfl rfl rfl (by omega) ?_ | refine J.cond_d rfl (fun h => ?_) (fun h => ?_)))
    · exact ⟨_, .cons (.tmp rfl) .nil, rfl, fun _ _ _ => ⟨_, rfl, .inl ⟨i, hi3, rfl, by assumption⟩⟩⟩
    · refine ⟨i + 1, ⟨rfl, rfl, rfl, trivial⟩, Less.refl _, ⟨rfl, by omega, fun j h1 h2 => ?_⟩, by dsimp only; omega⟩
      rcases Nat.lt_or_eq_of_le (Nat.le_of_lt_succ h2) with h4 | rfl
      · exact hj j h1 h4
      · assumption
  · exact ⟨_, .cons (.tmp rfl) .nil, rfl, fun _ _ _ => ⟨_, rfl, isIdx.none hj (by omega)⟩⟩
end
end Go.Proofs.YthldmlfpebgojaaGreatDoor
