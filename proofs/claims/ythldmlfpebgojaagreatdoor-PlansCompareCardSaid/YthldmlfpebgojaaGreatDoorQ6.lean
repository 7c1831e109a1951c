/-
  Slices, structs and calls of the evaluator are the program's.
  No condition.
-/
import Derived.Test.YthldmlfpebgojaaGreatDoorQ5
import Derived.Lib.Strings
namespace Go.Proofs.YthldmlfpebgojaaGreatDoor
set_option linter.unusedSimpArgs false
set_option linter.unusedVariables false
open Go.RowKit Go

section
variable {P : Program} {base : Nat} {o : Oper} {a : Act} {e : Env} {w : World} {v : Value} {M M' : Mem} {F : Fr} {out : Out}
theorem exec_slice {T : TypeId} {x : Operand} {lo hi : Option Operand} (ho : o.op = .slice T x lo hi none) {D : TypeDesc} (hD : quick P (underlying T) = some D) {v : Value}
    (hr : (Instr.slice T (a.eval x) (lo.map a.eval) (hi.map a.eval) none).run P w = .ok v w) (hDa : ∀ n E, D ≠ .array n E) : Runs P o a w v w := by
  refine runs_of (s := Instr.sliceAt T (a.eval x) (lo.map a.eval) (hi.map a.eval) none) (by simp [execOp, ho]) ?_
  unfold Instr.sliceAt
  rw [Sem.run_bind, quick_run hD w]
  cases D with
  | array n E => exact absurd rfl (hDa n E)
  | _ => exact hr
theorem bound_val {d l : Nat} {lo : Option Operand} (h : boundE F d lo = some l) (hF : ∀ x, lo = some x → ∀ v, opv F x = some v → V3 e v (a.eval x)) :
    (lo = none ∧ l = d) ∨ ∃ x k, lo = some x ∧ a.eval x = .int k (l : Int) := by
  cases lo with
  | none => exact .inl ⟨rfl, some_eq h⟩
  | some x =>
    unfold boundE at h
    simp only at h
    split at h
    · rename_i k n hx
      obtain rfl := some_eq h
      exact .inr ⟨x, k, rfl, (hF x rfl _ hx).int⟩
    · cases h
theorem run_slice {T el : TypeId} {sz n c l h : Nat} {A : Option Addr} (h2 : quick P (underlying T) = some (.slice el)) (hsz : quick P (sizeOf el) = some sz) {vl vh : Option Value} (hl : vl = none ∧ l = 0 ∨ ∃ k, vl = some (.int k (l : Int))) (hh : vh = none ∧ h = n ∨ ∃ k, vh = some (.int k (h : Int)))
    (hlh : l ≤ h) (hhc : h ≤ c) (w : World) : (Instr.slice T (.slice A n c) vl vh none).run P w = .ok (.slice (if c = l then A else A.map (·.add (l * sz))) (h - l) (c - l)) w := by
  have hT := quick_run h2 w
  have i1 : (0 : Int) ≤ (l : Int) := by omega
  have i2 : (0 : Int) ≤ (h : Int) := by omega
  have i3 : (l : Int) ≤ (h : Int) := by omega
  have i4 : (h : Int) ≤ (c : Int) := by omega
  rcases hl with ⟨rfl, rfl⟩ | ⟨kl, rfl⟩ <;> rcases hh with ⟨rfl, rfl⟩ | ⟨kh, rfl⟩
  · simp [Instr.slice, Instr.sliceBounds, Sem.run_bind, hT, quick_run hsz w]
  · simp [Instr.slice, Instr.sliceBounds, Instr.sliceBound, asIntOf, Sem.run_bind, hT, quick_run hsz w, hhc]
  · simp [Instr.slice, Instr.sliceBounds, Instr.sliceBound, asIntOf, Sem.run_bind, hT, quick_run hsz w, hlh]
  · simp [Instr.slice, Instr.sliceBounds, Instr.sliceBound, asIntOf, Sem.run_bind, hT, quick_run hsz w, hlh, hhc]
theorem sound_sliceG {T : TypeId} {x : Operand} {lo hi : Option Operand} {A : Option Addr} {n c l h : Nat} (ho : o.op = .slice T x lo hi none) (hx : opv F x = some (.slice A n c)) (hl : boundE F 0 lo = some l) (hh : boundE F n hi = some h) (hev : evSliceG P T A n c l h = some out) (hF : Good o F e a) (hM : MR base e M w) : OutPost P base o a e w M out := by
  unfold evSliceG at hev
  split at hev
  case h_2 => cases hev
  rename_i el h2
  split at hev
  case h_2 => cases hev
  rename_i sz hsz
  obtain ⟨hb, hev⟩ := cond_run hev
  simp only [Bool.and_eq_true] at hb
  obtain ⟨⟨hlh, hhn⟩, hnc⟩ := hb
  have hlh := Nat.le_of_ble_eq_true hlh
  have hhn := Nat.le_of_ble_eq_true hhn
  have hnc := Nat.le_of_ble_eq_true hnc
  have hv := hF x (by simp [Op.operands, ho]) _ hx
  have hlo := bound_val (a := a) (e := e) hl (fun y hy v hv => hF y (by simp [Op.operands, ho, hy]) v hv)
  have hhi := bound_val (a := a) (e := e) hh (fun y hy v hv => hF y (by simp [Op.operands, ho, hy]) v hv)
  have hlo' : lo.map a.eval = none ∧ l = 0 ∨ ∃ k, lo.map a.eval = some (.int k (l : Int)) := by
    rcases hlo with ⟨rfl, rfl⟩ | ⟨x, k, rfl, h⟩
    · exact .inl ⟨rfl, rfl⟩
    · exact .inr ⟨k, by simp [h]⟩
  have hhi' : hi.map a.eval = none ∧ h = n ∨ ∃ k, hi.map a.eval = some (.int k (h : Int)) := by
    rcases hhi with ⟨rfl, rfl⟩ | ⟨x, k, rfl, h⟩
    · exact .inl ⟨rfl, rfl⟩
    · exact .inr ⟨k, by simp [h]⟩
  rcases A with _ | ⟨b, off, _ | sp⟩
  rotate_left
  · obtain rfl := some_eq hev
    by_cases hlt : l < h
    · obtain ⟨b', d, hb, he⟩ := hv.slc (by omega)
      have e1 : ¬ (c + d = l) := by omega
      have e2 : c + d - l = c - l + d := by omega
      have hr := run_slice (A := some ⟨b', off, none⟩) (c := c + d) h2 hsz hlo' hhi' hlh (by omega) w
      rw [if_neg e1, e2, Option.map_some, addr_add, ← he] at hr
      exact OpPost.same (exec_slice ho (D := .slice el) h2 hr (fun _ _ h => by cases h)) (.two (.one (.slc hb))) hM
    · obtain rfl : l = h := by omega
      obtain ⟨A', c', he, hle⟩ := hv.slcA
      have hr := run_slice (A := some A') (c := c') h2 hsz hlo' hhi' hlh (by have := hle hnc; omega) w
      rw [← he, Nat.sub_self] at hr
      rw [Nat.sub_self]
      have : ∃ A'', (if c' = l then some A' else (some A').map (·.add (l * sz))) = some A'' := by
        split
        · exact ⟨_, rfl⟩
        · exact ⟨_, rfl⟩
      obtain ⟨A'', hA⟩ := this
      rw [hA] at hr
      exact OpPost.same (exec_slice ho (D := .slice el) h2 hr (fun _ _ h => by cases h)) (.two (.one .slc0)) hM
  · cases hev
  · obtain rfl := some_eq hev
    have he := hv.nils
    have hr := run_slice (A := none) (c := c) h2 hsz hlo' hhi' hlh (by omega) w
    rw [← he] at hr
    have hA : (if c = l then none else Option.map (fun x : Addr => x.add (l * sz)) none) = none := by
      split <;> rfl
    rw [hA] at hr
    exact OpPost.same (exec_slice ho (D := .slice el) h2 hr (fun _ _ h => by cases h)) (.two (.one (.plain rfl))) hM
theorem sound_sliceStr {T : TypeId} {x : Operand} {lo hi : Option Operand} {s : ByteArray} (ho : o.op = .slice T x lo hi none) (hx : opv F x = some (.string s)) (h : evSliceStr P T s lo hi F = some out) (hF : Good o F e a) (hM : MR base e M w) : OutPost P base o a e w M out := by
  unfold evSliceStr at h
  obtain ⟨hT, h⟩ := rec_none h
  have hT := isStr_eq hT
  have hq := quick_run hT w
  split at h
  case h_2 => cases h
  rename_i l t hl ht
  unfold subStr at h
  obtain ⟨hok, h⟩ := rec_none h
  simp only [Bool.and_eq_true, Bool.or_eq_true, Bool.not_eq_true'] at hok
  obtain ⟨hlt, hok⟩ := hok
  have hlt := Nat.le_of_ble_eq_true hlt
  rw [takeK_eq, dropN_eq] at h
  change (match (if t - l ≤ (s.data.toList.drop l).length then some ((s.data.toList.drop l).take (t - l)) else none) with
    | some r => some (Out.v (.string ⟨⟨r⟩⟩) .no)
    | none => none) = some out at h
  split at h
  case h_2 => cases h
  rename_i r hr
  obtain rfl := some_eq h
  split at hr
  case isFalse => cases hr
  rename_i hle
  obtain rfl := some_eq hr
  have hsz : s.data.toList.length = s.size := rfl
  rw [List.length_drop, hsz] at hle
  have hts : t ≤ s.size := by
    rcases hok with h | h
    · have : l ≠ t := fun e2 => by subst e2; rw [Nat.beq_refl] at h; cases h
      omega
    · exact Nat.le_of_ble_eq_true h
  have hext : (⟨⟨(s.data.toList.drop l).take (t - l)⟩⟩ : ByteArray) = s.extract l t := by
    apply ByteArray.ext
    apply Array.ext'
    rw [Lib.extract_data]
  rw [hext]
  have hs := (hF x (by simp [Op.operands, ho]) _ hx).str
  have hlo := bound_val (a := a) (e := e) hl (fun y hy v hv => hF y (by simp [Op.operands, ho, hy]) v hv)
  have hhi := bound_val (a := a) (e := e) ht (fun y hy v hv => hF y (by simp [Op.operands, ho, hy]) v hv)
  have i1 : (0 : Int) ≤ (l : Int) := by omega
  have i2 : (0 : Int) ≤ (t : Int) := by omega
  have i3 : (l : Int) ≤ (t : Int) := by omega
  have i4 : (t : Int) ≤ (s.size : Int) := by omega
  refine OpPost.same (v' := .string (s.extract l t)) (exec_slice ho (D := .string) hT ?_ (fun _ _ h => by cases h)) (.two (.one (.plain rfl))) hM
  rw [hs]
  rcases hlo with ⟨rfl, rfl⟩ | ⟨xl, kl, rfl, hxl⟩ <;> rcases hhi with ⟨rfl, rfl⟩ | ⟨xh, kh, rfl, hxh⟩
  · simp [Instr.slice, Instr.sliceBounds, Sem.run_bind, hq]
  · simp [Instr.slice, Instr.sliceBounds, Instr.sliceBound, asIntOf, Sem.run_bind, hq, hxh, hts]
  · simp [Instr.slice, Instr.sliceBounds, Instr.sliceBound, asIntOf, Sem.run_bind, hq, hxl, hlt]
  · simp [Instr.slice, Instr.sliceBounds, Instr.sliceBound, asIntOf, Sem.run_bind, hq, hxl, hxh, hlt, hts]
theorem sound_slice {T : TypeId} {x : Operand} {lo hi mx : Option Operand} (ho : o.op = .slice T x lo hi mx) (h : evSlice P T x lo hi mx F = some out) (hF : Good o F e a) (hM : MR base e M w) : OutPost P base o a e w M out := by
  unfold evSlice at h
  split at h
  case h_2 => cases h
  split at h
  · rename_i A n c hx
    split at h
    · rename_i l t hl ht
      exact sound_sliceG ho hx hl ht h hF hM
    · cases h
  · rename_i s hx
    exact sound_sliceStr ho hx h hF hM
  · cases h

/- Structs. -/
theorem L1.set {R : Value → Value → Prop} {l m : List Value} (h : L1 R l m) {u v : Value} (huv : R u v) (i : Nat) : L1 R (l.set i u) (m.set i v) := by
  induction h generalizing i with
  | nil => exact .nil
  | cons h1 h2 ih =>
    cases i with
    | zero => exact .cons huv h2
    | succ i => exact .cons h1 (ih i)
theorem put_cells {R : Value → Value → Prop} {us vs : List Value} (h : L1 R us vs) (off : Nat) : ∀ (k : Nat) (cs ds : Array Value), L1 R cs.toList ds.toList →
    L1 R ((us.zipIdx k).foldl (fun cs p => cs.setIfInBounds (off + p.2) p.1) cs).toList ((vs.zipIdx k).foldl (fun cs p => cs.setIfInBounds (off + p.2) p.1) ds).toList := by
  induction h with
  | nil => exact fun _ _ _ h => h
  | cons h1 _ ih =>
    intro k cs ds hcd
    simp only [List.zipIdx_cons, List.foldl_cons]
    exact ih (k + 1) _ _ (by simpa using hcd.set h1 (off + k))
theorem fill_sound {place : Nat → Option (Nat × Nat)} : ∀ (ps : List (Nat × Operand)) {vs : List Value} {cs ds rs : Array Value}, L1 (V3 e) vs ((ps.map (·.2)).map a.eval) → vs.all (fun v => (cellsOf v).isSome) = true → L1 (V1 e) cs.toList ds.toList →
    Instr.fill place cs ((ps.map (·.1)).zip vs) = some rs → ∃ rs', Instr.fill place ds (ps.map fun p => (p.1, a.eval p.2)) = some rs' ∧ L1 (V1 e) rs.toList rs'.toList
  | [], vs, cs, ds, rs, hv, _, hcd, h => by
    simp only [List.map_nil, List.zip_nil_left, Instr.fill] at h
    obtain rfl := some_eq h
    exact ⟨ds, rfl, hcd⟩
  | (i, x) :: ps, vs, cs, ds, rs, hv, ha, hcd, h => by
    cases hv with
    | cons hv1 hv2 =>
    rename_i v vs
    simp only [List.all_cons, Bool.and_eq_true] at ha
    obtain ⟨us, hus⟩ := Option.isSome_iff_exists.1 ha.1
    obtain ⟨hc1, us', hc2, hl⟩ := hv1.cells hus
    simp only [List.map_cons, List.zip_cons_cons, Instr.fill] at h ⊢
    split at h
    · cases h
    · rename_i off sz hp
      split at h
      · cases h
      · rename_i hcond
        rw [hc1] at hcond h
        have hlen := hl.len
        have hcl := hcd.len
        have hcond' : ¬ ((us'.toArray.size ≠ sz) || decide (off + us'.toArray.size > ds.size)) = true := by
          have e1 : us'.toArray.size = us.toArray.size := by simp [hlen]
          have e2 : ds.size = cs.size := by
            rw [← Array.length_toList, ← Array.length_toList, hcl]
          rw [e1, e2]
          exact hcond
        have hput : L1 (V1 e) (us.toArray.zipIdx.foldl (fun cs p => cs.setIfInBounds (off + p.2) p.1) cs).toList (us'.toArray.zipIdx.foldl (fun cs p => cs.setIfInBounds (off + p.2) p.1) ds).toList := by
          have := put_cells hl off 0 cs ds hcd
          rw [← Array.foldl_toList, ← Array.foldl_toList]
          simpa using this
        obtain ⟨rs', h1, h2⟩ := fill_sound ps hv2 ha.2 hput h
        refine ⟨rs', ?_, h2⟩
        have hc2' : (a.eval x).cells = us'.toArray := hc2
        rw [hc2', if_neg hcond']
        exact h1
theorem sound_buildA {T el : TypeId} {k : Nat} {z : Value} {vs : List Value} {parts : Array (Nat × Operand)} (ho : o.op = .build T parts) (hz : quick P (zeroValue T) = some z) (hT : quick P (underlying T) = some (.array k el)) (hvs : opvs F (parts.toList.map (·.2)) = some vs) (h : evBuildA P z el parts vs = some out) (hF : Good o F e a) (hM : MR base e M w) : OutPost P base o a e w M out := by
  unfold evBuildA at h
  split at h
  case h_2 => cases h
  rename_i sz hsz
  obtain ⟨hok, h⟩ := cond_run h
  simp only [Bool.and_eq_true] at hok
  split at h
  case h_2 => cases h
  rename_i cs hcs
  obtain rfl := some_eq h
  have hv := opvs_good (a := a) (e := e) hvs (fun x hx v hv => hF x (by simpa [Op.operands, ho] using hx) v hv)
  have hzz : L1 (V1 e) z.cells.toList z.cells.toList := by
    have := plain_self e hok.1
    cases z with
    | agg l =>
      have hp := hok.1
      simp only [plain] at hp
      exact all_plain e hp
    | _ => exact .cons (.plain hok.1) .nil
  obtain ⟨rs', h1, h2⟩ := fill_sound parts.toList hv hok.2 hzz hcs
  have hrun : (Instr.build T (parts.map fun (i, x) => (i, a.eval x))).run P w = .ok (.agg rs') w := by
    have h1' : Instr.fill (fun i => some (i * sz, sz)) z.cells (parts.map fun p => (p.1, a.eval p.2)).toList = some rs' := by
      rw [Array.toList_map]; exact h1
    unfold Instr.build
    rw [Sem.run_bind, quick_run hz w]
    simp only [Result.andThen_ok]
    rw [Sem.run_bind, quick_run hT w]
    simp only [Result.andThen_ok]
    rw [Sem.run_bind, quick_run hsz w]
    simp only [Result.andThen_ok]
    rw [h1']
    rfl
  refine OpPost.same (v' := .agg rs') (runs_of (by simp only [execOp, ho]) hrun) ?_ hM
  have := V2.agg h2
  simpa using V3.two this
theorem sound_build {T : TypeId} {parts : Array (Nat × Operand)} (ho : o.op = .build T parts) (h : evBuild P T parts F = some out) (hF : Good o F e a) (hM : MR base e M w) : OutPost P base o a e w M out := by
  unfold evBuild at h
  split at h
  case h_2 => cases h
  rename_i vs hvs
  split at h
  case h_3 => cases h
  case h_2 =>
    rename_i z k el hz hT
    exact sound_buildA ho hz hT hvs h hF hM
  rename_i z fs hz hT
  split at h
  case h_2 => cases h
  rename_i places hpl
  obtain ⟨hok, h⟩ := cond_run h
  simp only [Bool.and_eq_true] at hok
  split at h
  case h_2 => cases h
  rename_i cs hcs
  obtain rfl := some_eq h
  have hv := opvs_good (a := a) (e := e) hvs (fun x hx v hv => hF x (by simpa [Op.operands, ho] using hx) v hv)
  have hzz : L1 (V1 e) z.cells.toList z.cells.toList := by
    have := plain_self e hok.1
    cases z with
    | agg l =>
      have hp := hok.1
      simp only [plain] at hp
      exact all_plain e hp
    | _ => exact .cons (.plain hok.1) .nil
  obtain ⟨rs', h1, h2⟩ := fill_sound parts.toList hv hok.2 hzz hcs
  have hrun : (Instr.build T (parts.map fun (i, x) => (i, a.eval x))).run P w = .ok (.agg rs') w := by
    have h1' : Instr.fill (fun x => places[x]?) z.cells (parts.map fun p => (p.1, a.eval p.2)).toList = some rs' := by
      rw [Array.toList_map]; exact h1
    unfold Instr.build
    rw [Sem.run_bind, quick_run hz w]
    simp only [Result.andThen_ok]
    rw [Sem.run_bind, quick_run hT w]
    simp only [Result.andThen_ok]
    rw [Sem.run_bind, quick_run hpl w]
    simp only [Result.andThen_ok]
    rw [h1']
    rfl
  refine OpPost.same (v' := .agg rs') (runs_of (by simp only [execOp, ho]) hrun) ?_ hM
  have := V2.agg h2
  simpa using V3.two this
theorem sound_buildSlice {T : TypeId} {len : Nat} {parts : Array (Nat × Operand)} (ho : o.op = .buildSlice T len parts) (h : evBuildSlice P T len parts F M = some out) (hF : Good o F e a) (hM : MR base e M w) : OutPost P base o a e w M out := by
  unfold evBuildSlice at h
  split at h
  case h_2 => cases h
  rename_i vs hvs
  split at h
  case h_2 => cases h
  rename_i el hT
  split at h
  case h_2 => cases h
  rename_i sz z hsz hz
  obtain ⟨hok, h⟩ := cond_run h
  simp only [Bool.and_eq_true] at hok
  obtain ⟨⟨⟨⟨hzp, hl0⟩, hs0⟩, hsm⟩, hcells⟩ := hok
  have hl0 := Nat.le_of_ble_eq_true hl0
  have hs0 := Nat.le_of_ble_eq_true hs0
  have hsm' := Nat.le_of_ble_eq_true hsm
  split at h
  case h_2 => cases h
  rename_i cs hcs
  obtain ⟨hcl, rfl⟩ := some_bif h
  have hcl := Nat.eq_of_beq_eq_true hcl
  have hv := opvs_good (a := a) (e := e) hvs (fun x hx v hv => hF x (by simpa [Op.operands, ho] using hx) v hv)
  obtain ⟨rs', h1, h2⟩ := fill_sound parts.toList hv hcells (all_plain e hzp) hcs
  have hne : ¬ len * sz = 0 := by
    have := Nat.mul_pos hl0 hs0
    omega
  have hnb : ¬ len * sz > 2 ^ 24 := by omega
  obtain ⟨g1, g2⟩ := hM.alloc (T := el) (cs := cs.toList) (cs' := rs'.toList) (sz := sz) (by
    unfold newOk
    rw [Bool.and_eq_true]
    exact ⟨Nat.ble_eq_true_of_le hs0, by rw [hcl]; exact Nat.ble_eq_true_of_le (Nat.le_trans (Nat.le_of_ble_eq_true hsm) (by decide))⟩) h2
  have hrun : (Instr.buildSlice T len (parts.map fun (i, x) => (i, a.eval x))).run P w = .ok (.slice (some ⟨w.heap.size, 0, none⟩) len len) (w.alloc (.cells rs'.toList.toArray el)) := by
    have h1' : Instr.fill (fun i => some (i * sz, sz)) ((Array.range (len * sz)).map (z.cells[· % z.cells.size]!)) (parts.map fun p => (p.1, a.eval p.2)).toList = some rs' := by
      rw [Array.toList_map]; exact h1
    simp only [Instr.buildSlice, Sem.run_bind, quick_run hT w]
    simp only [Result.andThen_ok, Sem.run_bind, quick_run hsz w, hnb, if_false, hne, quick_run hz w]
    simp [h1, newRow, Sem.run_bind, quick_run hz w]
  have := V1.slc (o := 0) (n := len) (c := len) g2
  exact ⟨_, _, _, runs_of (by simp only [execOp, ho]) hrun, Ext.put hM.free _, .two (.one (by simpa using this)), g1, (Below.refl _ _).alloc hM.bs _⟩

/- Calls. -/
theorem sound_build0 {T : TypeId} {parts : Array (Nat × Operand)} (ho : o.op = .buildSlice T 0 parts) (h : evBuild0 P T parts = some out) (hM : MR base e M w) : OutPost P base o a e w M out := by
  unfold evBuild0 at h
  split at h
  case h_2 => cases h
  rename_i hp
  split at h
  case h_2 => cases h
  rename_i el hT
  split at h
  case h_2 => cases h
  rename_i sz hsz
  obtain ⟨hs0, rfl⟩ := some_bif h
  have hp' : parts = #[] := Array.toList_inj.1 (by rw [hp])
  subst hp'
  obtain ⟨g1, g2⟩ := hM.alloc (T := el) (cs := []) (cs' := []) (sz := sz) (by
    unfold newOk
    rw [Bool.and_eq_true]
    exact ⟨hs0, rfl⟩) .nil
  have hrun : (Instr.buildSlice T 0 ((#[] : Array (Nat × Operand)).map fun (i, x) => (i, a.eval x))).run P w = .ok (.slice (some ⟨w.heap.size, 0, none⟩) 0 0) (w.alloc (.cells #[] el)) := by
    simp only [Instr.buildSlice, Sem.run_bind, quick_run hT w]
    simp only [Result.andThen_ok, Sem.run_bind, quick_run hsz w]
    simp [newRow, Sem.run_bind, Instr.fill]
    rw [show Array.range 0 = #[] from Array.toList_inj.1 (by simp), Array.map_empty]
  exact ⟨_, _, _, runs_of (by simp only [execOp, ho]) hrun, Ext.put hM.free _, .two (.one .emp), g1, (Below.refl _ _).alloc hM.bs _⟩
theorem sound_buildSl {T : TypeId} {len : Nat} {parts : Array (Nat × Operand)} (ho : o.op = .buildSlice T len parts) (h : evBuildSl P T len parts F M = some out) (hF : Good o F e a) (hM : MR base e M w) : OutPost P base o a e w M out := by
  unfold evBuildSl at h
  cases hl : Nat.beq len 0 with
  | true =>
    rw [hl] at h
    obtain rfl := Nat.eq_of_beq_eq_true hl
    exact sound_build0 ho h hM
  | false =>
    rw [hl] at h
    exact sound_buildSlice ho h hF hM

theorem call_args {c : Call} (ho : o.op = .call c) (hF : Good o F e a) : ∀ x, x ∈ c.args.toList → ∀ v, opv F x = some v → V3 e v (a.eval x) := fun x hx v hv =>
  hF x (by simp only [ho, Op.operands, Call.operands, Array.toList_append, List.mem_append]; exact .inr hx) v hv
theorem sound_func {c : Call} {x : Operand} {f : FuncId} (ho : o.op = .call c) (hc : c.callee = .value x) (hx : a.eval x = .func (.func f) #[] #[]) (h : evFunc P f c.args.toList F = some out) (hF : Good o F e a) : OutPost P base o a e w M out := by
  unfold evFunc at h
  split at h
  case h_2 => cases h
  rename_i vs hvs
  obtain ⟨hen, rfl⟩ := some_bif h
  have hv := opvs_good (a := a) (e := e) hvs (call_args ho hF)
  refine ⟨_, ?_, hv⟩
  unfold entered at hen
  cases hf : P.funcs[f]? with
  | none => rw [hf] at hen; cases hen
  | some fn =>
    rw [hf] at hen
    simp only [Bool.and_eq_true, Bool.not_eq_true'] at hen
    obtain ⟨hb, hn⟩ := hen
    have hn' : ¬ fn.name = "runtime.NumGoroutine" := by simpa using hn
    have hb' : ¬ fn.body = none := by cases hfb : fn.body <;> simp_all
    simp [execOp, ho, resolve, hc, hx, Deferred.ofValue, invoke, callFunc, Sem.run_bind, program, hf, hn', hb', Sem.run]
    apply Array.ext'
    simp
theorem sound_dyn {c : Call} {x : Operand} (ho : o.op = .call c) (hc : c.callee = .value x) (h : evDyn P x c.args.toList F = some out) (hF : Good o F e a) : OutPost P base o a e w M out := by
  unfold evDyn at h
  split at h
  case h_2 => cases h
  rename_i f hx
  have hv := hF x (by simp [ho, Op.operands, Call.operands, hc]) _ hx
  exact sound_func ho hc (plain_eq rfl hv) h hF
theorem V3.slice {A : Option Addr} {n c : Nat} {v' : Value} (h : V3 e (.slice A n c) v') : ∃ A' c', v' = .slice A' n c' := by
  cases h with
  | two h => cases h with
    | one h => cases h with
      | plain h => exact ⟨_, _, rfl⟩
      | slc h => exact ⟨_, _, rfl⟩
      | slc0 => exact ⟨_, _, rfl⟩
      | emp => exact ⟨_, _, rfl⟩
theorem exec_builtin {c : Call} {b : Builtin} (ho : o.op = .call c) (hc : c.callee = .builtin b) : ∃ cs, execOp a.eval o = builtin b c.argTypes o.type cs (c.args.map a.eval) := by
  refine ⟨c.args.map fun
    | .const _ => true
    | _ => false, ?_⟩
  simp only [execOp, ho, resolve, hc, invoke]
  rfl
theorem sound_len {c : Call} (ho : o.op = .call c) (hc : c.callee = .builtin .len) (h : evLen P c.args.toList c.argTypes F = some out) (hF : Good o F e a) (hM : MR base e M w) : OutPost P base o a e w M out := by
  have hA := call_args ho hF
  obtain ⟨cs, he⟩ := exec_builtin (a := a) ho hc
  unfold evLen at h
  split at h
  case h_2 => cases h
  rename_i x hx
  have hx' : c.args = #[x] := by rw [← hx]
  have hg := hA x (by rw [hx]; simp)
  split at h
  · rename_i T A n cp hT hv
    split at h
    case h_2 => cases h
    rename_i E hU
    obtain rfl := some_eq h
    obtain ⟨A', c', hv'⟩ := (hg _ hv).slice
    refine OpPost.same (v' := .int .i64 n) (runs_of (s := Builtin.len_ c.argTypes o.type (c.args.map a.eval)) (by rw [he]; rfl) ?_) (.two (.one (.plain rfl))) hM
    simp [Builtin.len_, hT, hx', hv', Sem.run_bind, quick_run hU w, goInt]
  · rename_i T s hT hv
    split at h
    case h_2 => cases h
    rename_i hU
    obtain rfl := some_eq h
    have hv' := (hg _ hv).str
    refine OpPost.same (v' := .int .i64 s.size) (runs_of (s := Builtin.len_ c.argTypes o.type (c.args.map a.eval)) (by rw [he]; rfl) ?_) (.two (.one (.plain rfl))) hM
    simp [Builtin.len_, hT, hx', hv', Sem.run_bind, quick_run hU w, goInt]
  · cases h
theorem all_plain_eq {l m : List Value} (h : L1 (V3 e) l m) (hp : l.all plain = true) : m = l := by
  induction h with
  | nil => rfl
  | cons h1 _ ih =>
    simp only [List.all_cons, Bool.and_eq_true] at hp
    rw [plain_eq hp.1 h1, ih hp.2]
theorem sound_max {c : Call} (ho : o.op = .call c) (hc : c.callee = .builtin .max) (h : evMax P c o.type F = some out) (hF : Good o F e a) (hM : MR base e M w) : OutPost P base o a e w M out := by
  have hA := call_args ho hF
  obtain ⟨cs, he⟩ := exec_builtin (a := a) ho hc
  unfold evMax at h
  split at h
  case h_2 => cases h
  rename_i vs hvs
  obtain ⟨hp, h⟩ := cond_run h
  have hv := all_plain_eq (opvs_good (a := a) (e := e) hvs hA) hp
  refine valOf_post h ?_ hM
  rw [he]
  have : c.args.map a.eval = vs.toArray := by
    rw [← hv]
    apply Array.ext'
    simp
  rw [this]
  rfl
theorem sound_min {c : Call} (ho : o.op = .call c) (hc : c.callee = .builtin .min) (h : evMin P c o.type F = some out) (hF : Good o F e a) (hM : MR base e M w) : OutPost P base o a e w M out := by
  have hA := call_args ho hF
  obtain ⟨cs, he⟩ := exec_builtin (a := a) ho hc
  unfold evMin at h
  split at h
  case h_2 => cases h
  rename_i vs hvs
  obtain ⟨hp, h⟩ := cond_run h
  have hv := all_plain_eq (opvs_good (a := a) (e := e) hvs hA) hp
  refine valOf_post h ?_ hM
  rw [he]
  have : c.args.map a.eval = vs.toArray := by
    rw [← hv]
    apply Array.ext'
    simp
  rw [this]
  rfl
theorem sound_append {c : Call} (ho : o.op = .call c) (hc : c.callee = .builtin .append) (h : evAppend P c F M = some out) (hF : Good o F e a) (hM : MR base e M w) : OutPost P base o a e w M out := by
  have hA := call_args ho hF
  obtain ⟨cs, he⟩ := exec_builtin (a := a) ho hc
  unfold evAppend at h
  split at h
  case h_2 => cases h
  rename_i x y T U hxy hTU
  split at h
  case h_2 => cases h
  rename_i u v hu hv
  obtain ⟨hT, h2⟩ := cond_run h
  obtain rfl := Nat.eq_of_beq_eq_true hT
  obtain ⟨r, m, rfl, v', w', e', h1, h6, h3, h4, h5⟩ := evalAppend_sound h2 (hA x (by rw [hxy]; simp) _ hu) (hA y (by rw [hxy]; simp) _ hv) hM o.type
  have e1 : c.args.map a.eval = #[a.eval x, a.eval y] := by
    apply Array.ext'
    rw [Array.toList_map, hxy]
    rfl
  have e2 : c.argTypes = #[T, T] := by apply Array.ext'; rw [hTU]
  refine ⟨v', w', e', runs_of (s := Builtin.append_ c.argTypes o.type (c.args.map a.eval)) (by rw [he]; rfl) ?_, h6, h3, h4, h5⟩
  rw [e1, e2]
  exact h1
theorem sound_call {c : Call} (ho : o.op = .call c) (h : evCall P o.type c F M = some out) (hF : Good o F e a) (hM : MR base e M w) : OutPost P base o a e w M out := by
  unfold evCall at h
  split at h
  · rename_i f hc; exact sound_func ho hc rfl h hF
  · rename_i hc; exact sound_len ho hc h hF hM
  · rename_i hc; exact sound_max ho hc h hF hM
  · rename_i hc; exact sound_append ho hc h hF hM
  · rename_i hc; exact sound_min ho hc h hF hM
  · rename_i x _ hc; exact sound_dyn ho hc h hF
  · cases h
/-- Every operation of the evaluator is the program's. -/
theorem evalOp_sound (h : evalOp P o F M = some out) (hF : Good o F e a) (hM : MR base e M w) : OutPost P base o a e w M out := by
  unfold evalOp at h
  split at h
  · rename_i ho; exact sound_move (.inl ho) h hF hM
  · rename_i ho; exact sound_move (.inr ho) h hF hM
  · rename_i ho; exact sound_pick ho h hF hM
  · rename_i ho; exact sound_nilCheck ho h hF hM
  · rename_i ho; exact sound_alloc ho h hM
  · rename_i ho; exact sound_box ho h hF hM
  · rename_i ho; exact sound_load ho h hF hM
  · rename_i ho; exact sound_store ho h hF hM
  · rename_i ho; exact sound_fieldAddr ho h hF hM
  · rename_i ho; exact sound_indexAddr ho h hF hM
  · rename_i ho; exact sound_slice ho h hF hM
  · rename_i ho; exact sound_build ho h hF hM
  · rename_i ho; exact sound_buildSl ho h hF hM
  · rename_i ho; exact sound_extract ho h hF hM
  · rename_i ho; exact sound_bin ho h hF hM
  · rename_i ho; exact sound_un ho h hF hM
  · rename_i ho; exact sound_convert ho h hF hM
  · rename_i ho; exact sound_index ho h hF hM
  · rename_i ho; exact sound_call ho h hF hM
  · rename_i ho; exact sound_field ho h hF hM
  · rename_i ho; exact sound_make ho h hF hM
  · cases h
end
end Go.Proofs.YthldmlfpebgojaaGreatDoor
