/-
  The evaluator's append is the program's.
  No condition.
-/
import Derived.Test.YthldmlfpebgojaaGreatDoorQ2
namespace Go.Proofs.YthldmlfpebgojaaGreatDoor
set_option linter.unusedSimpArgs false
set_option linter.unusedVariables false
open Go.RowKit Go

section
variable {base : Nat} {e : Env} {M : Mem} {w w' : World} {P : Program}
theorem MR.kill (h : MR base e M w) (a : Nat) : MR base e ⟨M.t.set a none, M.nx⟩ w := by
  have key : ∀ c C, (M.t.set a none).get c = some C → M.t.get c = some C ∧ c ≠ a := fun c C hC => by
    by_cases hca : c = a
    · subst hca; rw [Tr.set_self] at hC; cases hC
    · rw [Tr.set_other _ _ (fun e => hca e.symm)] at hC
      exact ⟨hC, hca⟩
  exact ⟨h.bs, h.len, h.low, fun b B hB => h.blk b B (key b B hB).1, fun b B hB => h.ro b B (key b B hB).1, fun b c b' c' d f B C hB hC => h.inj b c b' c' d f B C (key b B hB).1 (key c C hC).1⟩
/-- A new block of the evaluator: a new block of the world, or one in which no living block lies. -/
theorem MR.grow (h : MR base e M w) {row : Option Nat} (hdead : ∀ c C c' f, M.t.get c = some C → 0 < C.sz → e.f c = some (c', f) → some c' ≠ row) (hrow : ∀ k, row = some k → base ≤ k ∧ k < w.heap.size) (hg : w.grownBy w' row)
    {g d sz T : Nat} {cs cs' sp : List Value} (hsz0 : 0 < sz) (hgb : w'.heap[g]? = some (.cells (cs' ++ sp).toArray T (0, 0))) (hbg : base ≤ g) (hwhere : some g = row ∨ g = w.heap.size) (hl : L1 (V1 e) cs cs')
    (hsp : sp.length = d * sz) (hk : ∀ k, k * sz = cs.length → k + d ≤ maxLen) :
    MR base (e.put e.n (g, d) (e.n + 1)) (new M cs T sz) w' ∧ (e.put e.n (g, d) (e.n + 1)).f M.nx = some (g, d) ∧ Below base w w' := by
  have hen := h.len.1
  have hnx : (e.put e.n (g, d) (e.n + 1)).f M.nx = some (g, d) := by rw [hen]; exact env_new e M.nx (g, d) _
  have hext := (Ext.put h.free (g, d)).up
  have hold : ∀ b p, b ≠ M.nx → (e.put e.n (g, d) (e.n + 1)).f b = some p → e.f b = some p := fun b p hb hp => by
    rwa [env_old e _ _ (by rw [hen]; exact hb)] at hp
  have hglt : g < w'.heap.size := (Array.getElem?_eq_some_iff.1 hgb).1
  have hng : ∀ c C c' f, M.t.get c = some C → 0 < C.sz → e.f c = some (c', f) → c' ≠ g := fun c C c' f hC hz hc heq => by
    rcases hwhere with h1 | h1
    · exact hdead c C c' f hC hz hc (by rw [heq]; exact h1)
    · have := h.low c c' f hc
      omega
  refine ⟨⟨?_, ?_, fun b b' f hb => ?_, fun b B hB hz => ?_, fun b B hB hz => ?_, fun b c b' c' f1 f2 B C hB hC hzB hzC hb hc hbc => ?_⟩, hnx, ?_⟩
  · exact Nat.le_trans h.bs hg.size
  · refine ⟨by simp [new, Env.put, hen], fun b hb => ?_⟩
    simp only [new] at hb
    rw [env_old e _ _ (by omega)]
    exact h.len.2 b (by omega)
  · by_cases hbn : b = M.nx
    · subst hbn
      rw [hnx] at hb
      injection hb with hb
      injection hb with hb1 hb2
      subst hb1
      exact hglt
    · have h2 := h.low b b' f (hold b _ hbn hb)
      exact Nat.lt_of_lt_of_le h2 hg.size
  · by_cases hbn : b = M.nx
    · subst hbn
      simp only [new, Tr.set_self, Option.some.injEq] at hB
      subst hB
      exact ⟨_, _, cs', sp, hnx, hl.imp fun _ _ h => h.ext' hext, hgb, hsp, hk, hbg⟩
    · have hB' : M.t.get b = some B := by
        simp only [new] at hB
        rwa [Tr.set_other _ _ (fun e => hbn e.symm)] at hB
      obtain ⟨b', f, c2, sp2, h1, h2, h3, h4, h5⟩ := h.blk b B hB' hz
      refine ⟨b', f, c2, sp2, hext _ _ h1, h2.imp fun _ _ h => h.ext' hext, ?_, h4, h5⟩
      rw [hg.block b' (h.low b b' f h1) (hdead b B b' f hB' hz h1)]
      exact h3
  · by_cases hbn : b = M.nx
    · subst hbn
      simp only [new, Tr.set_self, Option.some.injEq] at hB
      subst hB
      simp only at hz
      omega
    · have hB' : M.t.get b = some B := by
        simp only [new] at hB
        rwa [Tr.set_other _ _ (fun e => hbn e.symm)] at hB
      exact h.roKeep hext (fun k hk2 => hg.block k (Nat.lt_of_lt_of_le hk2 h.bs) fun e2 => by
        have := (hrow k e2.symm).1
        omega) hB' hz
  · by_cases hbn : b = M.nx <;> by_cases hcn : c = M.nx
    · rw [hbn, hcn]
    · subst hbn
      rw [hnx] at hb
      injection hb with hb
      injection hb with hb1 hb2
      have hC' : M.t.get c = some C := by
        simp only [new] at hC
        rwa [Tr.set_other _ _ (fun e => hcn e.symm)] at hC
      exact absurd (hb1.trans hbc) (fun e2 => hng c C c' f2 hC' hzC (hold c _ hcn hc) e2.symm)
    · subst hcn
      rw [hnx] at hc
      injection hc with hc
      injection hc with hc1 hc2
      have hB' : M.t.get b = some B := by
        simp only [new] at hB
        rwa [Tr.set_other _ _ (fun e => hbn e.symm)] at hB
      exact absurd (hbc.trans hc1.symm) (hng b B b' f1 hB' hzB (hold b _ hbn hb))
    · simp only [new] at hB hC
      rw [Tr.set_other _ _ (fun e => hbn e.symm)] at hB
      rw [Tr.set_other _ _ (fun e => hcn e.symm)] at hC
      exact h.inj b c b' c' f1 f2 B C hB hC hzB hzC (hold b _ hbn hb) (hold c _ hcn hc) hbc
  · exact ⟨hg.os, hg.tape, hg.output, hg.size, fun k hk2 => hg.block k (Nat.lt_of_lt_of_le hk2 h.bs) (fun e2 => by have := (hrow k e2.symm).1; omega)⟩

theorem run_append_zero {T el : TypeId} {i : TypeInfo} (ht : P.underlying T = some (.slice el)) (hi : P.info? el = some i) (ty : TypeId) (A A2 : Option Addr) (n c k : Nat) (hn : n ≤ c) (w : World) :
    (Builtin.append_ #[T, T] ty #[.slice A n c, .slice A2 0 k]).run P w = .ok (.slice A n c) w := by
  cases A with
  | none => cases A2 <;> simp [Builtin.append_, run_underlying ht, sizeOf, typeInfo, hi, Builtin.lenOf, Builtin.firstCells, loadCells, loadCellsFrom, hn]
  | some a => cases A2 <;> simp [Builtin.append_, run_underlying ht, sizeOf, typeInfo, hi, Builtin.lenOf, Builtin.firstCells, loadCells, loadCellsFrom, hn, storeCells]
/-- An empty literal grows as nothing does. -/
theorem run_append_emp {T el : TypeId} {i : TypeInfo} (ht : P.underlying T = some (.slice el)) (hi : P.info? el = some i) (ty : TypeId) (A A2 : Addr) (k c : Nat) (hk : 0 < k) (hb : k * i.bytes ≤ 140737488355328) (w : World) :
    (Builtin.append_ #[T, T] ty #[.slice (some A) 0 0, .slice (some A2) k c]).run P w = (Builtin.append_ #[T, T] ty #[.slice none 0 0, .slice (some A2) k c]).run P w := by
  have h1 : ¬ k = 0 := by omega
  have h2 : ¬ 281474976710656 < Builtin.nextslicecap k 0 * i.bytes := by rw [nextslicecap_zero hk]; omega
  simp [Builtin.append_, run_underlying ht, sizeOf, typeInfo, hi, Builtin.lenOf, Builtin.firstCells, loadCells, loadCellsFrom, h1, h2]
/-- The end of both real appends. -/
theorem append_end {T el : TypeId} {i : TypeInfo} {M0 : Mem} (h : MR base e M0 w) (hM : MR base e M w) {row : Option Nat} (hdead : ∀ c C c' f, M.t.get c = some C → 0 < C.sz → e.f c = some (c', f) → some c' ≠ row) (hrow : ∀ k, row = some k → base ≤ k ∧ k < w.heap.size)
    {n : Nat} {v' : Value} {cs cs' : List Value} (hn : 0 < n) (hpos : 0 < i.size) (hl : L1 (V1 e) cs cs') (hown : w'.ownsRow base el i.size v' n cs') (hg : w.grownBy w' row) (hwhere : v'.ownBlock = row ∨ v'.ownBlock = some w.heap.size) :
    ∃ e', Ext e e' ∧ V3 e' (.slice (some ⟨M.nx, 0, none⟩) n n) v' ∧ MR base e' (new M cs el i.size) w' ∧ Below base w w' := by
  rcases hown.2 with ⟨_, h0⟩ | ⟨g, cap, cur, rfl, hb, hgc, hnc, hm, hcur, htake⟩
  · omega
  · have hsz : cur.toList = cs' ++ cur.toList.drop (n * i.size) := by rw [← htake, List.take_append_drop]
    have hlen : cur.toList.length = cap * i.size := by simpa using hcur
    have hcsl : cs.length = n * i.size := by rw [hl.len, hown.1]
    obtain ⟨h1, h2, h3⟩ := hM.grow (d := cap - n) (sz := i.size) hdead hrow hg (g := g) (T := el) (cs' := cs') (sp := cur.toList.drop (n * i.size)) hpos (by
        rw [← hsz]; simpa using hgc) hb (by
        rcases hwhere with h | h
        · exact .inl h
        · right; simpa [Value.ownBlock] using h) hl (by
        rw [List.length_drop, hlen, ← Nat.sub_mul]) (fun k hk => by
        rw [hcsl] at hk
        have := Nat.eq_of_mul_eq_mul_right hpos hk
        omega)
    refine ⟨_, Ext.put hM.free _, ?_, h1, h3⟩
    have := V1.slc (o := 0) (n := n) (c := n) h2
    rw [show n + (cap - n) = cap by omega] at this
    exact .two (.one this)
theorem some_bif {α : Type} {b : Bool} {x : α} {y : α} (h : (bif b then some x else none) = some y) : b = true ∧ y = x := by
  cases b with
  | false => cases h
  | true => simp only [cond_true, Option.some.injEq] at h; exact ⟨rfl, h.symm⟩
theorem appNone_sound {T el : TypeId} {i : TypeInfo} {x x' : Value} {out : Out} {k : Nat} {A : Option Addr} (h : appNone x = some out) (ht : P.underlying T = some (.slice el)) (hi : P.info? el = some i) (hx : V3 e x x') (hM : MR base e M w) (ty : TypeId) :
    ∃ v m, out = .v v m ∧ ∃ v' w' e', (Builtin.append_ #[T, T] ty #[x', .slice A 0 k]).run P w = .ok v' w' ∧ Ext e e' ∧ V3 e' v v' ∧ MR base e' (m.apply M) w' ∧ Below base w w' := by
  unfold appNone at h
  split at h
  · rename_i n c
    rw [hx.nils]
    obtain ⟨hb, rfl⟩ := some_bif h
    exact ⟨_, _, rfl, _, _, e, run_append_zero ht hi ty _ _ _ _ _ (Nat.le_of_ble_eq_true hb) w, Ext.refl e, .two (.one (.plain rfl)), hM, Below.refl _ _⟩
  · rename_i b o n c
    obtain ⟨hb, rfl⟩ := some_bif h
    obtain ⟨A', c', rfl, hle⟩ := hx.slcA
    exact ⟨_, _, rfl, _, _, e, run_append_zero ht hi ty _ _ _ _ _ (hle (Nat.le_of_ble_eq_true hb)) w, Ext.refl e, hx, hM, Below.refl _ _⟩
  · simp only [Option.some.injEq] at h
    subst h
    obtain ⟨A', rfl⟩ := hx.emp
    exact ⟨_, _, rfl, _, _, e, run_append_zero ht hi ty _ _ _ _ _ (Nat.le_refl 0) w, Ext.refl e, hx, hM, Below.refl _ _⟩
  · cases h
theorem evalAppend_sound {T : TypeId} {x y x' y' : Value} {out : Out} (h : evalAppend P T x y M = some out) (hx : V3 e x x') (hy : V3 e y y') (hM : MR base e M w) (ty : TypeId) :
    ∃ v m, out = .v v m ∧ ∃ v' w' e', (Builtin.append_ #[T, T] ty #[x', y']).run P w = .ok v' w' ∧ Ext e e' ∧ V3 e' v v' ∧ MR base e' (m.apply M) w' ∧ Below base w w' := by
  unfold evalAppend at h
  split at h
  case h_2 => cases h
  rename_i el ht
  split at h
  case h_2 => cases h
  rename_i i hi
  split at h
  · rename_i k
    rw [hy.nils]
    exact appNone_sound h ht hi hx hM ty
  · rename_i b o k
    obtain ⟨A', c', rfl, _⟩ := hy.slcA
    exact appNone_sound h ht hi hx hM ty
  · rename_i b o k ck hne
    split at h
    case h_2 => cases h
    rename_i z hz
    split at h
    case h_2 => cases h
    rename_i add hadd
    cases hc : (Nat.blt 0 k && Nat.blt 0 i.size && Nat.beq z.cells.size i.size) with
    | false => rw [hc] at h; cases h
    | true =>
      rw [hc] at h
      simp only [Bool.and_eq_true] at hc
      obtain ⟨⟨hk0, hs0⟩, hzs⟩ := hc
      have hk0 := Nat.le_of_ble_eq_true hk0
      obtain ⟨b', d, hb', rfl⟩ := hy.slc hk0
      obtain ⟨hal, add', hla, hcell⟩ := hM.read hadd hb'
      have hs0 := Nat.le_of_ble_eq_true hs0
      have hzs := Nat.eq_of_beq_eq_true hzs
      have hal' : add'.length = k * i.size := by rw [← hla.len, hal]
      simp only [cond_true] at h
      unfold appSome at h
      split at h
      · rw [hx.nils]
        obtain ⟨hc2, rfl⟩ := some_bif h
        simp only [Bool.and_eq_true] at hc2
        have hk1 := Nat.le_of_ble_eq_true hc2.1
        have hk2 := Nat.le_of_ble_eq_true hc2.2
        obtain ⟨v', w', hr, hown, hg, _, hwh⟩ := run_append_own_at (P := P) w base T ty el i z i.size i.bytes ht hi hz rfl rfl hzs hs0 (.slice none 0 0) 0 [] (World.ownsRow_nil _ _ _ _)
          ⟨b', o, none⟩ k (ck + d) add' hal' hcell hla.ones (by unfold maxLen; omega) (by simpa using hk2) hM.bs
        simp only [Nat.zero_add, List.nil_append] at hown
        obtain ⟨e', h1, h2, h3, h4⟩ := append_end (T := T) hM hM (row := none) (fun _ _ _ _ _ _ _ => by simp) (fun _ hk => by cases hk) (by omega) hs0 hla hown hg hwh
        exact ⟨_, _, rfl, v', w', e', hr, h1, h2, h3, h4⟩
      · rename_i a n c
        split at h
        case h_2 => cases h
        rename_i B hB
        obtain ⟨hc2, rfl⟩ := some_bif h
        simp only [Bool.and_eq_true] at hc2
        obtain ⟨⟨⟨⟨⟨⟨⟨g0, g1⟩, g2⟩, g3⟩, g4⟩, g5⟩, g6⟩, g7⟩ := hc2
        obtain ⟨a', da, ha', rfl⟩ := hx.slc (Nat.le_of_ble_eq_true g0)
        have g1 := Nat.eq_of_beq_eq_true g1
        have g2 := Nat.eq_of_beq_eq_true g2
        have g3 := Nat.eq_of_beq_eq_true g3
        have g4 := Nat.eq_of_beq_eq_true g4
        have g6 := Nat.le_of_ble_eq_true g6
        have g7 := Nat.le_of_ble_eq_true g7
        obtain ⟨a2, d2, cs, sp, k1, k2, k3, k4, k5, k6⟩ := hM.blk a B hB (by omega)
        rw [ha'] at k1
        injection k1 with k1
        injection k1 with k1 k1'
        subst k1 k1'
        subst g1
        rw [g3] at k3
        have hcap := k5 n (by rw [g4]; exact g2.symm)
        have hlo : base ≤ a' ∧ a' < w.heap.size := ⟨k6, hM.low a a' da ha'⟩
        have hcsl : cs.length = n * i.size := by rw [← k2.len]; exact g2
        have hown0 : w.ownsRow base el i.size (.slice (some ⟨a', 0, none⟩) n (n + da)) n cs :=
          ⟨hcsl, .inr ⟨a', n + da, (cs ++ sp).toArray, rfl, hlo.1, k3, by omega, hcap, by simp [hcsl, k4, g4, Nat.add_mul], by simp [← hcsl]⟩⟩
        obtain ⟨v', w', hr, hown, hg, _, hwh⟩ := run_append_own_at (P := P) w base T ty el i z i.size i.bytes ht hi hz rfl rfl hzs hs0 (.slice (some ⟨a', 0, none⟩) n (n + da)) n cs hown0
          ⟨b', o, none⟩ k (ck + d) add' hal' hcell hla.ones (by unfold maxLen; omega) g7 hM.bs
        obtain ⟨e', h1, h2, h3, h4⟩ := append_end (T := T) hM (hM.kill a) (row := some a') (fun c C c' f hC hzC hc he => by
            injection he with he
            have hca : c ≠ a := fun e3 => by subst e3; simp only [Tr.set_self] at hC; cases hC
            simp only at hC
            rw [Tr.set_other _ _ (fun e => hca e.symm)] at hC
            exact hca (hM.inj c a c' a' f da C B hC hB hzC (by omega) hc ha' he)) (fun k hk => by injection hk with hk; subst hk; exact hlo) (by omega) hs0 (k2.app hla) hown hg hwh
        exact ⟨_, _, rfl, v', w', e', hr, h1, h2, h3, h4⟩
      · obtain ⟨A', rfl⟩ := hx.emp
        obtain ⟨hc2, rfl⟩ := some_bif h
        simp only [Bool.and_eq_true] at hc2
        have hk1 := Nat.le_of_ble_eq_true hc2.1
        have hk2 := Nat.le_of_ble_eq_true hc2.2
        obtain ⟨v', w', hr, hown, hg, _, hwh⟩ := run_append_own_at (P := P) w base T ty el i z i.size i.bytes ht hi hz rfl rfl hzs hs0 (.slice none 0 0) 0 [] (World.ownsRow_nil _ _ _ _)
          ⟨b', o, none⟩ k (ck + d) add' hal' hcell hla.ones (by unfold maxLen; omega) (by simpa using hk2) hM.bs
        simp only [Nat.zero_add, List.nil_append] at hown
        obtain ⟨e', h1, h2, h3, h4⟩ := append_end (T := T) hM hM (row := none) (fun _ _ _ _ _ _ _ => by simp) (fun _ hk => by cases hk) (by omega) hs0 hla hown hg hwh
        exact ⟨_, _, rfl, v', w', e', (run_append_emp ht hi ty A' _ k _ hk0 (by simpa using hk2) w).trans hr, h1, h2, h3, h4⟩
      · cases h
  · cases h
end
end Go.Proofs.YthldmlfpebgojaaGreatDoor
