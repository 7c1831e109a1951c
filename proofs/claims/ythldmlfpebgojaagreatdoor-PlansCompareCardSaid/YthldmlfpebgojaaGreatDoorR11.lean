/-
  Contracts of calls whose runs are carried over; zones and local time.
  Condition: the zone is one of the two of the laws' data.
-/
import Derived.Test.YthldmlfpebgojaaGreatDoorQM
import Derived.Test.YthldmlfpebgojaaGreatDoorR09
import Derived.Test.YthldmlfpebgojaaGreatDoorR04
namespace Go.Proofs.YthldmlfpebgojaaGreatDoor
set_option linter.unusedSimpArgs false
set_option linter.unusedVariables false
set_option maxHeartbeats 0
set_option maxRecDepth 100000
open Go.RowKit Go

section
variable {B : St}
/-- A closed call that reads nothing and whose result holds no address. -/
theorem EvP.cl0 {P : Program} (c : Cl) {f : FuncId} {args : List Value} {w : Value} (hf : c.Fine) (e : f = c.f) (hd : clFns.any (Nat.beq c.f) = true) (hp : clPick cls c.f c.as = some c) (hC : c.C = []) (hcn : Nat.beq c.cn 0 = true) (ha : c.as.map (ren2 (· + 0)) = args) (hw : ∀ r, ren3 r c.v = w) :
    EvP P f args B fun v _ => v = w := by
  subst e
  exact EvP.cl c (s := 0) hf hd hp ha.symm (by rw [hC]; exact fun p hp => by cases hp) (by unfold hasTop; rw [hcn]; rfl) (fun _ => rfl) (fun _ => rfl) fun n B' _ _ => hw _
theorem isName_ev {s : ByteArray} (h : s = ⟨#[117, 116, 99]⟩ ∨ s = ⟨#[101, 97, 115, 116]⟩ ∨ s = ⟨#[98, 55, 51, 55]⟩ ∨ s = ⟨#[97, 51, 50, 48]⟩) : EvP Tryz.prog 226 [.string s] B fun v _ => v = .bool true := by
  rcases h with rfl | rfl | rfl | rfl
  · exact EvP.cl0 cl_nm0 cl_nm0_fine rfl (by rfl) (by rfl) rfl rfl rfl fun _ => rfl
  · exact EvP.cl0 cl_nm1 cl_nm1_fine rfl (by rfl) (by rfl) rfl rfl rfl fun _ => rfl
  · exact EvP.cl0 cl_nm2 cl_nm2_fine rfl (by rfl) (by rfl) rfl rfl rfl fun _ => rfl
  · exact EvP.cl0 cl_nm3 cl_nm3_fine rfl (by rfl) (by rfl) rfl rfl rfl fun _ => rfl
theorem isCode_ev {s : ByteArray} (h : s = ⟨#[70, 48]⟩ ∨ s = ⟨#[70, 49]⟩ ∨ s = ⟨#[70, 50]⟩ ∨ s = ⟨#[70, 51]⟩ ∨ s = ⟨#[70, 52]⟩) : EvP Tryz.prog 303 [.string s] B fun v _ => v = .bool true := by
  rcases h with rfl | rfl | rfl | rfl | rfl
  · exact EvP.cl0 cl_cd0 cl_cd0_fine rfl (by rfl) (by rfl) rfl rfl rfl fun _ => rfl
  · exact EvP.cl0 cl_cd1 cl_cd1_fine rfl (by rfl) (by rfl) rfl rfl rfl fun _ => rfl
  · exact EvP.cl0 cl_cd2 cl_cd2_fine rfl (by rfl) (by rfl) rfl rfl rfl fun _ => rfl
  · exact EvP.cl0 cl_cd3 cl_cd3_fine rfl (by rfl) (by rfl) rfl rfl rfl fun _ => rfl
  · exact EvP.cl0 cl_cd4 cl_cd4_fine rfl (by rfl) (by rfl) rfl rfl rfl fun _ => rfl
/-- The three airports. -/
def isApt (s : ByteArray) : Prop := s = ⟨#[65, 65, 65]⟩ ∨ s = ⟨#[66, 66, 66]⟩ ∨ s = ⟨#[67, 67, 67]⟩
theorem isAirport_ev {s : ByteArray} (h : isApt s) : EvP Tryz.prog 244 [.string s] B fun v _ => v = .bool true := by
  rcases h with rfl | rfl | rfl
  · exact EvP.cl0 cl_ap0 cl_ap0_fine rfl (by rfl) (by rfl) rfl rfl rfl fun _ => rfl
  · exact EvP.cl0 cl_ap1 cl_ap1_fine rfl (by rfl) (by rfl) rfl rfl rfl fun _ => rfl
  · exact EvP.cl0 cl_ap2 cl_ap2_fine rfl (by rfl) (by rfl) rfl rfl rfl fun _ => rfl
/-- A zone's parts. -/
structure ZV where
  name : ByteArray
  off : Int
  sh : Slc
abbrev ZV.v (z : ZV) : Value := .agg #[.string z.name, .int .i64 z.off, z.sh.v]
def utcZ : Zn := ⟨⟨#[117, 116, 99]⟩, 0, []⟩
def eastZ : Zn := ⟨⟨#[101, 97, 115, 116]⟩, 120, [⟨12961060, 60⟩]⟩
/-- One of the two zones, in memory. -/
def ZOk (B : St) (z : ZV) : Prop := z = ⟨utcZ.name, 0, ⟨none, 0, 0⟩⟩ ∨ ∃ b k, z = ⟨eastZ.name, 120, ⟨some ⟨b, 0, none⟩, 1, 1⟩⟩ ∧ B.get b = some ⟨[.int .i64 12961060, .int .i64 60], 154, k⟩ ∧ 0 < k
theorem ZOk.ge {B B' : St} {z : ZV} (h : ZOk B z) (hB : Ge B B') : ZOk B' z := by
  rcases h with h | ⟨b, k, h1, h2, h3⟩
  · exact .inl h
  · exact .inr ⟨b, k, h1, hB _ _ h2, h3⟩
theorem rdT_blk {B : St} {b k n T : Nat} {cs : List Value} (h : B.get b = some ⟨cs, T, k⟩) (hk : 0 < k) (hn : cs.length = n) : rdT B b 0 n = some cs := by
  subst hn
  unfold rdT
  rw [h]
  simp only
  unfold cut
  rw [takeK_eq, dropN_eq, List.drop_zero, if_pos (Nat.le_refl _), List.take_length]
  unfold rdK
  simp only [id]
  rw [show Nat.blt 0 k = true from Nat.ble_eq_true_of_le hk]
  rfl
/-- The shifts as a list. -/
theorem ZOk.sq {B : St} {z : ZV} (h : ZOk B z) : ∃ xs, SqS .shf B z.sh xs ∧ xs.length ≤ 1 ∧ (∀ x ∈ xs, x.off = 60) ∧ (z.off = 0 ∨ z.off = 120) := by
  rcases h with rfl | ⟨b, k, rfl, h2, h3⟩
  · exact ⟨[], Sq.nil0, by simp, by simp, .inl rfl⟩
  · refine ⟨eastZ.shifts, ⟨rfl, Nat.le_refl _, .inr ⟨_, _, rfl⟩, fun _ => ⟨b, 0, _, rfl, rdT_blk h2 h3 rfl, rfl, fun i x hi => ?_⟩⟩, by simp [eastZ], by simp [eastZ], .inr rfl⟩
    cases i with
    | zero => obtain rfl := some_eq hi; rfl
    | succ i => simp [eastZ] at hi
theorem validateZone_ev {z : ZV} (hz : ZOk B z) : EvP Tryz.prog 242 [z.v] B fun v _ => v = .int .i64 0 := by
  rcases hz with rfl | ⟨b, k, rfl, h2, h3⟩
  · exact EvP.cl0 cl_z0 cl_z0_fine rfl (by rfl) (by rfl) rfl rfl rfl fun _ => rfl
  · refine EvP.cl cl_z1 (s := b) cl_z1_fine (by rfl) (by rfl) ?_ ?_ (by rfl) (fun h => by cases h) (fun h => by cases h) fun n B' _ _ => rfl
    · change [Value.agg #[.string _, .int .i64 120, .slice (some ⟨b, 0, none⟩) 1 1]] = [Value.agg #[.string _, .int .i64 120, .slice (some ⟨0 + b, 0, none⟩) 1 1]]
      rw [Nat.zero_add]
      rfl
    · intro p hp
      change p ∈ [_] at hp
      rw [List.mem_singleton] at hp
      subst hp
      refine ⟨k, ?_, fun _ => h3⟩
      change B.get (0 + b) = _
      rw [Nat.zero_add]
      exact h2
theorem off_ev {z : ZV} (hz : ZOk B z) (t : Int) : EvP Tryz.prog 284 [z.v, .int .i64 t] B fun v _ => ∃ n, v = .int .i64 n ∧ 0 ≤ n ∧ n ≤ 120 := by
  obtain ⟨xs, hs, hl, ho, hzo⟩ := hz.sq
  have hn := hs.len
  refine EvP.go Tryz.func284 rfl Tryz.ntmps284 Tryz.results284 rfl [] rfl ?_
  (repeat' (first | refine J.seq ?_ | refine J.block ?_ | refine J.roA rfl ?_ | refine X.ro rfl rfl ?_ | refine X.nil0 ?_ | refine X.l1 0 rfl rfl rfl rfl rfl rfl rfl rfl rfl ?_ | refine X.bx rfl rfl rfl rfl rfl rfl rfl rfl fun b => ?_))
  refine J.loop (σ := Nat × Int) (fun p => [(1, .int .i64 t), (2, .pointer (some ⟨b, 0, none⟩)), (5, .int .i64 p.2), (6, .int .i64 (p.1 : Int))]) (fun _ => [some (b, ⟨[.string z.name, .int .i64 z.off, z.sh.v], 152, 1⟩)]) (fun B1 p => B1 = B ∧ p.1 ≤ xs.length ∧ 0 ≤ p.2 ∧ p.2 ≤ 120) (fun p => xs.length - p.1) (0, z.off) ⟨rfl, Nat.zero_le _, by rcases hzo with h | h <;> rw [h] <;> decide⟩ ⟨rfl, rfl, rfl, rfl, trivial⟩ (fun _ _ _ h => h) fun p B1 hB hI => ?_
  obtain ⟨i, m⟩ := p
  obtain ⟨rfl, hi1, hm⟩ := hI
  dsimp only at hi1 hm
  (repeat' (first | refine J.seq ?_ | refine J.block ?_ | refine J.roA rfl ?_ | refine X.ro rfl rfl ?_ | refine X.nil0 ?_ | refine J.skip ?_ | refine J.exit ?_ | refine J.ret ?_ | refine X.l1 0 rfl rfl rfl rfl rfl rfl rfl rfl rfl ?_ | refine J.cond_d rfl (fun h => ?_) (fun h => ?_)))
  · have hi3 : i < xs.length := by omega
    (refine X.ix hs (i := i) (by omega) rfl rfl rfl rfl rfl rfl rfl rfl (by first | rfl | omega) fun b1 f1 cs1 hr1 hx1 => ?_; obtain rfl := hx1; (repeat' (first | refine X.ro rfl rfl ?_)); refine X.ls 0 hr1 rfl (by first | exact .md | exact .mo | exact .mf) (Ge.refl _) rfl rfl rfl rfl rfl rfl rfl ?_; (repeat' (first | refine J.roA rfl ?_ | refine X.ro rfl rfl ?_ | refine X.nil0 ?_ | refine J.skip ?_ | refine X.l1 0 rfl rfl rfl rfl rfl rfl rfl rfl rfl ?_ | refine X.ad rfl rfl rfl rfl rfl rfl (by omega) ?_ | refine J.cond_d rfl (fun h => ?_) (fun h => ?_))))
    · (refine X.ix hs (i := i) (by omega) rfl rfl rfl rfl rfl rfl rfl rfl (by first | rfl | omega) fun b1 f1 cs1 hr1 hx1 => ?_; obtain rfl := hx1; (repeat' (first | refine X.ro rfl rfl ?_)); refine X.ls 1 hr1 rfl (by first | exact .md | exact .mo | exact .mf) (Ge.refl _) rfl rfl rfl rfl rfl rfl rfl ?_; (repeat' (first | refine J.roA rfl ?_ | refine X.ro rfl rfl ?_ | refine X.nil0 ?_ | refine X.ad rfl rfl rfl rfl rfl rfl (by omega) ?_)))
      have h60 := ho _ (List.getElem_mem hi3)
      exact ⟨(i + 1, xs[i].off), ⟨rfl, rfl, rfl, rfl, trivial⟩, (fun _ _ _ h => h), ⟨rfl, by dsimp only; omega, by dsimp only; omega, by dsimp only; omega⟩, by dsimp only; omega⟩
    · exact ⟨(i + 1, m), ⟨rfl, rfl, rfl, rfl, trivial⟩, (fun _ _ _ h => h), ⟨rfl, by dsimp only; omega, by dsimp only; omega, by dsimp only; omega⟩, by dsimp only; omega⟩
  · exact ⟨_, .cons (.tmp rfl) .nil, rfl, fun _ _ _ => ⟨_, rfl, hm⟩⟩
end
end Go.Proofs.YthldmlfpebgojaaGreatDoor
