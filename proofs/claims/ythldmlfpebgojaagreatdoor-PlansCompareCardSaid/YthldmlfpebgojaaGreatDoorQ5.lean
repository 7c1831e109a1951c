/-
  More of the evaluator's operations are the program's.
  No condition.
-/
import Derived.Test.YthldmlfpebgojaaGreatDoorQ4
namespace Go.Proofs.YthldmlfpebgojaaGreatDoor
set_option linter.unusedSimpArgs false
set_option linter.unusedVariables false
open Go.RowKit Go

theorem wB_eq (b : Bool) : wB b = some (.w (.bool b)) := by cases b <;> rfl
theorem blt_eq (m n : Nat) : Nat.blt m n = decide (m < n) := by
  rw [Bool.eq_iff_iff, decide_eq_true_iff]
  exact ⟨fun h => Nat.le_of_ble_eq_true h, fun h => Nat.ble_eq_true_of_le h⟩
theorem beqN_eq (m n : Nat) : Nat.beq m n = decide (m = n) := by
  rw [Bool.eq_iff_iff, decide_eq_true_iff]
  exact ⟨fun h => Nat.eq_of_beq_eq_true h, fun h => by subst h; exact Nat.beq_refl _⟩
theorem iLt_eq (a b : Int) : iLt a b = decide (a < b) := by
  cases a with
  | ofNat m => cases b with
    | ofNat n =>
      change Nat.blt m n = _
      rw [blt_eq]
      exact decide_eq_decide.2 (by simp only [Int.ofNat_eq_natCast]; omega)
    | negSucc n =>
      change false = _
      exact (decide_eq_false (by simp only [Int.ofNat_eq_natCast]; omega)).symm
  | negSucc m => cases b with
    | ofNat n =>
      change true = _
      exact (decide_eq_true (by simp only [Int.ofNat_eq_natCast]; omega)).symm
    | negSucc n =>
      change Nat.blt n m = _
      rw [blt_eq]
      exact decide_eq_decide.2 (by omega)
theorem iEq_eq (a b : Int) : iEq a b = (a == b) := by
  cases a with
  | ofNat m => cases b with
    | ofNat n =>
      change Nat.beq m n = _
      rw [beqN_eq]
      rw [show (Int.ofNat m == Int.ofNat n) = decide (Int.ofNat m = Int.ofNat n) from rfl]
      exact decide_eq_decide.2 (by simp only [Int.ofNat_eq_natCast]; omega)
    | negSucc n => rfl
  | negSucc m => cases b with
    | ofNat n => rfl
    | negSucc n =>
      change Nat.beq m n = _
      rw [beqN_eq]
      rw [show (Int.negSucc m == Int.negSucc n) = decide (Int.negSucc m = Int.negSucc n) from rfl]
      exact decide_eq_decide.2 (by constructor <;> intro h <;> simp_all)
/-- Both operations of a comparison or sum. -/
def binRun (op : BinOp) (T : TypeId) (x y : Operand) (a b : Value) : Sem Value := do eqGuard op T x y a b; binOp op T a b
theorem onNats_some {f : Nat → Nat → Option Out} {a b : Int} {out : Out} (h : onNats f a b = some out) : ∃ m n : Nat, a = m ∧ b = n ∧ f m n = some out := by
  cases a with
  | ofNat m => cases b with
    | ofNat n => exact ⟨m, n, rfl, rfl, h⟩
    | negSucc n => cases h
  | negSucc m => cases h
theorem rec_none {α : Type} {b : Bool} {x : Option α} {y : α} (h : Bool.rec (motive := fun _ => Option α) none x b = some y) : b = true ∧ x = some y := by
  cases b with
  | false => cases h
  | true => exact ⟨rfl, h⟩
section
variable {P : Program} {T : TypeId} {x y : Operand} {out : Out}
theorem intOp_sound {op : BinOp} {k : IntKind} {a b : Int} (h : intOp op k a b = some out) :
    ∃ v, out = .w v ∧ plain v = true ∧ ∀ w, (binRun op T x y (.int k a) (.int k b)).run P w = .ok v w := by
  unfold intOp at h
  split at h
  · split at h
    · obtain ⟨m, n, rfl, rfl, h2⟩ := onNats_some h
      clear h
      unfold addN at h2
      rw [fNat_eq] at h2
      obtain ⟨hle, h⟩ := rec_none h2
      have hle := Nat.le_of_ble_eq_true hle
      obtain rfl := some_eq h
      refine ⟨_, rfl, rfl, fun w => ?_⟩
      have hle' : m + n ≤ 9223372036854775807 := hle
      have hw : IntKind.i64.wrap ((m : Int) + n) = Int.ofNat (Nat.add m n) := by
        rw [IntWalk.i64_in _ (by omega)]
        exact (Int.natCast_add m n).symm
      simp [binRun, eqGuard, binOp, Op.intArith, Sem.run_bind, hw]
    · cases h
  · split at h
    · obtain ⟨m, n, rfl, rfl, h2⟩ := onNats_some h
      clear h
      unfold evSubN at h2
      obtain ⟨hnm, h3⟩ := rec_none h2
      have hnm := Nat.le_of_ble_eq_true hnm
      rw [fNat_eq] at h3
      obtain ⟨hle, h⟩ := rec_none h3
      have hle := Nat.le_of_ble_eq_true hle
      obtain rfl := some_eq h
      refine ⟨_, rfl, rfl, fun w => ?_⟩
      have hle' : m - n ≤ 9223372036854775807 := hle
      have hw : IntKind.i64.wrap ((m : Int) - n) = Int.ofNat (Nat.sub m n) := by
        rw [IntWalk.i64_in _ (by omega)]
        change _ = ((m - n : Nat) : Int)
        omega
      simp [binRun, eqGuard, binOp, Op.intArith, Sem.run_bind, hw]
    · cases h
  all_goals first
    | (rw [wB_eq] at h
       obtain rfl := some_eq h
       refine ⟨_, rfl, rfl, fun w => ?_⟩
       simp [binRun, eqGuard, binOp, Op.intCmp, Sem.run_bind, iEq_eq, iLt_eq, bne]; done)
    | (rw [wB_eq] at h
       obtain rfl := some_eq h
       refine ⟨_, rfl, rfl, fun w => ?_⟩
       simp [binRun, eqGuard, binOp, Op.intCmp, Sem.run_bind, iEq_eq, iLt_eq, bne]
       rw [← decide_not]
       exact decide_eq_decide.2 (by omega))
    | (rw [wB_eq] at h
       obtain rfl := some_eq h
       refine ⟨_, rfl, rfl, fun w => ?_⟩
       simp [binRun, eqGuard, binOp, Op.intCmp, Sem.run_bind, iEq_eq, iLt_eq, bne])
    | cases h
theorem bytesEq_eq : ∀ (l m : List UInt8), bytesEq l m = (l == m)
  | [], [] => rfl
  | [], _ :: _ => rfl
  | _ :: _, [] => rfl
  | a :: l, b :: m => by
    change Bool.rec (motive := fun _ => Bool) false (bytesEq l m) (Nat.beq a.toNat b.toNat) = _
    rw [bytesEq_eq l m, beqN_eq]
    by_cases hab : a = b
    · subst hab
      simp
    · have : a.toNat ≠ b.toNat := fun e => hab (UInt8.toNat_inj.1 e)
      simp [hab, this]
theorem strOp_sound {op : BinOp} {a b : ByteArray} (h : strOp op a b = some out) :
    ∃ v, out = .w v ∧ plain v = true ∧ ∀ w, (binRun op T x y (.string a) (.string b)).run P w = .ok v w := by
  unfold strOp at h
  split at h
  · rw [wB_eq] at h
    obtain rfl := some_eq h
    refine ⟨_, rfl, rfl, fun w => ?_⟩
    simp [binRun, eqGuard, binOp, Op.stringOp, Sem.run_bind, bytesEq_eq, ByteArray.toList_eq]
  · rw [wB_eq] at h
    obtain rfl := some_eq h
    refine ⟨_, rfl, rfl, fun w => ?_⟩
    simp [binRun, eqGuard, binOp, Op.stringOp, Sem.run_bind, bytesEq_eq, ByteArray.toList_eq]
  · cases h
end
section
variable {P : Program} {base : Nat} {o : Oper} {a : Act} {e : Env} {w : World} {v : Value} {M M' : Mem} {F : Fr} {out : Out}
theorem exec_bin {op : BinOp} {T U : TypeId} {x y : Operand} (ho : o.op = .binOp op T x y U) : execOp a.eval o = binRun op T x y (a.eval x) (a.eval y) >>= fun x => pure (Next.value x) := by
  simp only [execOp, ho, binRun]
theorem equal_pn {d : Nat} {T E : TypeId} (hT : (underlying T).run P w = .ok (.pointer E) w) (A : Addr) : (Op.equalIn (d + 1) T (.pointer (some A)) (.pointer none)).run P w = .ok false w ∧ (Op.equalIn (d + 1) T (.pointer none) (.pointer (some A))).run P w = .ok false w := by
  constructor <;> rw [Op.equalIn] <;> simp only [Sem.run_bind, hT, Result.andThen_ok] <;> rfl
theorem equal_sn {d : Nat} {T E : TypeId} (hT : (underlying T).run P w = .ok (.slice E) w) (A : Addr) (n c m k : Nat) : (Op.equalIn (d + 1) T (.slice (some A) n c) (.slice none m k)).run P w = .ok false w ∧ (Op.equalIn (d + 1) T (.slice none m k) (.slice (some A) n c)).run P w = .ok false w := by
  constructor <;> rw [Op.equalIn] <;> simp only [Sem.run_bind, hT, Result.andThen_ok] <;> rfl
theorem binRun_eq {T : TypeId} {x y : Operand} {u v : Value} {b : Bool} (hu : (∃ A, u = .pointer A) ∨ ∃ A n c, u = .slice A n c) (hv : (∃ A, v = .pointer A) ∨ ∃ A n c, v = .slice A n c) (h : (Op.equalIn (9999 + 1) T u v).run P w = .ok b w) :
    (binRun .eql T x y u v).run P w = .ok (.bool b) w ∧ (binRun .neq T x y u v).run P w = .ok (.bool !b) w := by
  have h' : (Op.equal T u v).run P w = .ok b w := h
  rcases hu with ⟨A, rfl⟩ | ⟨A, n, c, rfl⟩ <;> rcases hv with ⟨B, rfl⟩ | ⟨B, m, k, rfl⟩ <;> constructor
  all_goals
    first
      | change ((Op.equal T _ _) >>= fun r => pure (Value.bool r)).run P w = _
        rw [Sem.run_bind, h']
        rfl
      | change ((Op.equal T _ _) >>= fun r => pure (Value.bool (!r))).run P w = _
        rw [Sem.run_bind, h']
        rfl
theorem nilPair_sound {op : BinOp} {T : TypeId} {x y : Operand} {u v u' v' : Value} {k : Bool} (h : nilPair u v = some k) (hu : V3 e u u') (hv : V3 e v v') {D : TypeDesc} (hT : quick P (underlying T) = some D)
    (hD : (k = true ∧ ∃ E, D = .pointer E) ∨ (k = false ∧ ∃ E, D = .slice E)) (hn : nilOp op = some out) : ∃ r, out = .w r ∧ plain r = true ∧ ∀ w, (binRun op T x y u' v').run P w = .ok r w := by
  have hq := fun w => quick_run hT w
  have hop : (op = .eql ∧ out = .w (.bool false)) ∨ (op = .neq ∧ out = .w (.bool true)) := by
    unfold nilOp at hn
    split at hn
    · exact .inl ⟨rfl, some_eq hn⟩
    · exact .inr ⟨rfl, some_eq hn⟩
    · cases hn
  have key : (k = true ∧ ((∃ A, u' = .pointer (some A) ∧ v' = .pointer none) ∨ (∃ A, u' = .pointer none ∧ v' = .pointer (some A)))) ∨
      (k = false ∧ ((∃ A n c m d, u' = .slice (some A) n c ∧ v' = .slice none m d) ∨ (∃ A n c m d, u' = .slice none m d ∧ v' = .slice (some A) n c))) := by
    unfold nilPair at h
    split at h
    · split at h
      · obtain rfl := some_eq h
        obtain ⟨_, _, _, rfl⟩ := hv.ptr
        exact .inl ⟨rfl, .inr ⟨_, hu.nilp, rfl⟩⟩
      · cases h
    · split at h
      · obtain rfl := some_eq h
        obtain ⟨_, _, _, rfl⟩ := hu.ptr
        exact .inl ⟨rfl, .inl ⟨_, rfl, hv.nilp⟩⟩
      · cases h
    · split at h
      · obtain rfl := some_eq h
        obtain ⟨_, _, rfl, _⟩ := hv.slcA
        exact .inr ⟨rfl, .inr ⟨_, _, _, _, _, hu.nils, rfl⟩⟩
      · cases h
    · split at h
      · obtain rfl := some_eq h
        obtain ⟨_, _, rfl, _⟩ := hu.slcA
        exact .inr ⟨rfl, .inl ⟨_, _, _, _, _, rfl, hv.nils⟩⟩
      · cases h
    · cases h
  rcases key with ⟨rfl, hk⟩ | ⟨rfl, hk⟩
  · obtain ⟨E, rfl⟩ : ∃ E, D = .pointer E := by rcases hD with ⟨_, h⟩ | ⟨h, _⟩; exact h; cases h
    rcases hop with ⟨rfl, rfl⟩ | ⟨rfl, rfl⟩ <;> rcases hk with ⟨A, rfl, rfl⟩ | ⟨A, rfl, rfl⟩ <;> refine ⟨_, rfl, rfl, fun w => ?_⟩
    · exact (binRun_eq (.inl ⟨_, rfl⟩) (.inl ⟨_, rfl⟩) (equal_pn (hq w) A).1).1
    · exact (binRun_eq (.inl ⟨_, rfl⟩) (.inl ⟨_, rfl⟩) (equal_pn (hq w) A).2).1
    · exact (binRun_eq (.inl ⟨_, rfl⟩) (.inl ⟨_, rfl⟩) (equal_pn (hq w) A).1).2
    · exact (binRun_eq (.inl ⟨_, rfl⟩) (.inl ⟨_, rfl⟩) (equal_pn (hq w) A).2).2
  · obtain ⟨E, rfl⟩ : ∃ E, D = .slice E := by rcases hD with ⟨h, _⟩ | ⟨_, h⟩; cases h; exact h
    rcases hop with ⟨rfl, rfl⟩ | ⟨rfl, rfl⟩ <;> rcases hk with ⟨A, n, c, m, d, rfl, rfl⟩ | ⟨A, n, c, m, d, rfl, rfl⟩ <;> refine ⟨_, rfl, rfl, fun w => ?_⟩
    · exact (binRun_eq (.inr ⟨_, _, _, rfl⟩) (.inr ⟨_, _, _, rfl⟩) (equal_sn (hq w) A n c m d).1).1
    · exact (binRun_eq (.inr ⟨_, _, _, rfl⟩) (.inr ⟨_, _, _, rfl⟩) (equal_sn (hq w) A n c m d).2).1
    · exact (binRun_eq (.inr ⟨_, _, _, rfl⟩) (.inr ⟨_, _, _, rfl⟩) (equal_sn (hq w) A n c m d).1).2
    · exact (binRun_eq (.inr ⟨_, _, _, rfl⟩) (.inr ⟨_, _, _, rfl⟩) (equal_sn (hq w) A n c m d).2).2
theorem evBinSlow_sound {op : BinOp} {T : TypeId} {x y : Operand} {u v u' v' : Value} (h : evBinSlow P op T x y u v = some out) (hu : V3 e u u') (hv : V3 e v v') :
    ∃ r, (out = .w r ∨ out = .v r .no) ∧ plain r = true ∧ ∀ w, (binRun op T x y u' v').run P w = .ok r w := by
  unfold evBinSlow at h
  cases hp : plain u && plain v with
  | true =>
    rw [hp] at h
    simp only [Bool.and_eq_true] at hp
    obtain ⟨r, rfl, hr, hrun⟩ := valOf_sound h
    rw [plain_eq hp.1 hu, plain_eq hp.2 hv]
    exact ⟨r, .inr rfl, hr, hrun⟩
  | false =>
    rw [hp] at h
    simp only [cond_false] at h
    split at h
    · rename_i h1 h2
      obtain ⟨r, h3, h4, h5⟩ := nilPair_sound (x := x) (y := y) h1 hu hv h2 (.inl ⟨rfl, _, rfl⟩) h
      exact ⟨r, .inl h3, h4, h5⟩
    · rename_i h1 h2
      obtain ⟨r, h3, h4, h5⟩ := nilPair_sound (x := x) (y := y) h1 hu hv h2 (.inr ⟨rfl, _, rfl⟩) h
      exact ⟨r, .inl h3, h4, h5⟩
    · cases h
theorem sameKind_eq {k k' : IntKind} (h : sameKind k k' = true) : k = k' := by
  unfold sameKind at h
  split at h
  · rfl
  · rfl
  · cases h
theorem sound_bin {op : BinOp} {T U : TypeId} {x y : Operand} (ho : o.op = .binOp op T x y U) (h : evBin P op T x y F = some out) (hF : Good o F e a) (hM : MR base e M w) : OutPost P base o a e w M out := by
  have hx := hF x (by simp [Op.operands, ho])
  have hy := hF y (by simp [Op.operands, ho])
  have fin : ∀ r, (out = .w r ∨ out = .v r .no) → plain r = true → (∀ w, (binRun op T x y (a.eval x) (a.eval y)).run P w = .ok r w) → OutPost P base o a e w M out := fun r h1 h2 h3 => by
    rcases h1 with rfl | rfl <;> exact OpPost.same (runs_of (exec_bin ho) (h3 w)) (.two (plain_self e h2)) hM
  unfold evBin at h
  split at h
  · rename_i k b1 k' b2 h1 h2
    have g1 := hx _ h1
    have g2 := hy _ h2
    unfold evBinInt at h
    cases hk : sameKind k k' with
    | true =>
      rw [hk] at h
      simp only [cond_true] at h
      obtain rfl := sameKind_eq hk
      split at h
      · rename_i v hv
        obtain rfl := some_eq h
        obtain ⟨r, h3, h4, h5⟩ := intOp_sound (P := P) (T := T) (x := x) (y := y) hv
        rw [g1.int, g2.int] at fin
        exact fin r (.inl h3) h4 h5
      · obtain ⟨r, h3, h4, h5⟩ := evBinSlow_sound h g1 g2
        exact fin r h3 h4 h5
    | false =>
      rw [hk] at h
      simp only [cond_false] at h
      obtain ⟨r, h3, h4, h5⟩ := evBinSlow_sound h g1 g2
      exact fin r h3 h4 h5
  · rename_i b1 b2 h1 h2
    have g1 := hx _ h1
    have g2 := hy _ h2
    unfold evBinStr at h
    split at h
    · rename_i v hv
      obtain rfl := some_eq h
      obtain ⟨r, h3, h4, h5⟩ := strOp_sound (P := P) (T := T) (x := x) (y := y) hv
      rw [g1.str, g2.str] at fin
      exact fin r (.inl h3) h4 h5
    · obtain ⟨r, h3, h4, h5⟩ := evBinSlow_sound h g1 g2
      exact fin r h3 h4 h5
  · rename_i h1 h2
    obtain ⟨r, h3, h4, h5⟩ := evBinSlow_sound h (hx _ h1) (hy _ h2)
    exact fin r h3 h4 h5
  · cases h
theorem sound_un {op : UnOp} {T : TypeId} {x : Operand} (ho : o.op = .unOp op T x) (h : evUn P op x F = some out) (hF : Good o F e a) (hM : MR base e M w) : OutPost P base o a e w M out := by
  unfold evUn at h
  split at h
  case h_2 => cases h
  rename_i u hu
  obtain ⟨hp, h⟩ := cond_run h
  have g := plain_eq hp (hF x (by simp [Op.operands, ho]) _ hu)
  exact valOf_post h (by simp only [execOp, ho, g]) hM
theorem sound_convert {A B : TypeId} {x : Operand} (ho : o.op = .convert A B x) (h : evConvert P A B x F = some out) (hF : Good o F e a) (hM : MR base e M w) : OutPost P base o a e w M out := by
  unfold evConvert at h
  split at h
  case h_2 => cases h
  rename_i u hu
  obtain ⟨hp, h⟩ := cond_run h
  have g := plain_eq hp (hF x (by simp [Op.operands, ho]) _ hu)
  exact valOf_post h (by simp only [execOp, ho, g]) hM
theorem isStr_eq {T : TypeId} (h : isStr P T = true) : quick P (underlying T) = some .string := by
  unfold isStr at h
  split at h
  · assumption
  · cases h
theorem headV_some {l : List UInt8} (h : headV l = some out) : ∃ c t, l = c :: t ∧ out = .w (.int .u8 (c.toNat : Int)) := by
  cases l with
  | nil => cases h
  | cons c t =>
    change fNat c.toNat (fun n => some (Out.w (.int .u8 (.ofNat n)))) = some out at h
    rw [fNat_eq] at h
    exact ⟨c, t, rfl, some_eq h⟩
theorem byte_at {s : ByteArray} {n : Nat} {c : UInt8} {t : List UInt8} (h : s.data.toList.drop n = c :: t) : s[n]? = some c := by
  have h0 : s.data.toList[n]? = some c := by
    have : (s.data.toList.drop n)[0]? = some c := by rw [h]; rfl
    simpa using this
  have hlt : n < s.data.toList.length := (List.getElem?_eq_some_iff.1 h0).1
  have hlt' : n < s.size := hlt
  rw [getElem?_pos s n hlt']
  have := (List.getElem?_eq_some_iff.1 h0).2
  rw [← this]
  rfl
theorem sound_index {T : TypeId} {x i : Operand} (ho : o.op = .index T x i) (h : evIndex P T x i F = some out) (hF : Good o F e a) (hM : MR base e M w) : OutPost P base o a e w M out := by
  have hx := hF x (by simp [Op.operands, ho])
  have hi := hF i (by simp [Op.operands, ho])
  unfold evIndex at h
  split at h
  · rename_i s k j h1 h2
    unfold evIndexStr at h
    obtain ⟨hT, h⟩ := rec_none h
    have hq := quick_run (isStr_eq hT) w
    cases j with
    | negSucc n => cases h
    | ofNat n =>
      change headV (dropN s.data.toList n) = _ at h
      rw [dropN_eq] at h
      obtain ⟨c, t, hl, rfl⟩ := headV_some h
      have hb := byte_at hl
      refine OpPost.same (v' := .int .u8 c.toNat) (runs_of (s := Instr.index T (a.eval x) (a.eval i)) (by simp only [execOp, ho]) ?_) (.two (.one (.plain rfl))) hM
      rw [(hx _ h1).str, (hi _ h2).int]
      simp [Instr.index, asIntOf, Sem.run_bind, hq, hb]
  · rename_i h1 h2
    unfold evIndexSlow at h
    obtain ⟨hp, h⟩ := cond_run h
    simp only [Bool.and_eq_true] at hp
    have g1 := plain_eq hp.1 (hx _ h1)
    have g2 := plain_eq hp.2 (hi _ h2)
    exact valOf_post h (by simp only [execOp, ho, g1, g2]) hM
  · cases h
theorem L1.extract {R : Value → Value → Prop} {l m : List Value} (h : L1 R l m) (a b : Nat) : L1 R (l.toArray.extract a b).toList (m.toArray.extract a b).toList := by
  simp only [List.extract_toArray, List.extract_eq_take_drop]
  exact (h.drop a).take (b - a)
theorem sound_field {T : TypeId} {x : Operand} {f : Nat} (ho : o.op = .field T x f) (h : evFieldV P T x f F = some out) (hF : Good o F e a) (hM : MR base e M w) : OutPost P base o a e w M out := by
  unfold evFieldV at h
  split at h
  case h_2 => cases h
  rename_i cs fs h1 h2
  split at h
  case h_2 => cases h
  rename_i fd hfd
  obtain ⟨_, cs', g1, g2⟩ := (hF x (by simp [Op.operands, ho]) _ h1).cells (cs := cs.toList) rfl
  have hag : a.eval x = .agg cs'.toArray := by
    have h3 := hF x (by simp [Op.operands, ho]) _ h1
    generalize a.eval x = u' at h3 g1
    generalize hcs : Value.agg cs = u at h3
    cases h3 with
    | tup _ => cases hcs
    | two h3 => cases h3 with
      | one h3 => cases h3 with
        | plain h3 => subst hcs; simp [plain1] at h3
        | ptr _ => cases hcs
        | slc _ => cases hcs
        | slc0 => cases hcs
        | emp => cases hcs
      | agg h3 =>
        simp only [Value.cells] at g1
        rw [g1]
  split at h
  · rename_i h3
    split at h
    case h_2 => cases h
    rename_i n hn
    obtain rfl := some_eq h
    refine OpPost.same (v' := .agg (cs'.toArray.extract fd.offset (fd.offset + n))) (runs_of (s := Instr.field T (a.eval x) f) (by simp only [execOp, ho]) ?_) ?_ hM
    · rw [hag]
      simp [Instr.field, Sem.run_bind, quick_run h2 w, hfd, asAgg, part, quick_run h3 w, quick_run hn w]
    · have h5 := V3.two (V2.agg (g2.extract fd.offset (fd.offset + n)))
      simp only [Array.toArray_toList] at h5
      exact h5
  · rename_i h3
    split at h
    case h_2 => cases h
    rename_i v hv
    obtain rfl := some_eq h
    obtain ⟨v', h4, h5⟩ := g2.get (i := fd.offset) (v := v) (by simpa using hv)
    refine OpPost.same (v' := v') (runs_of (s := Instr.field T (a.eval x) f) (by simp only [execOp, ho]) ?_) (.two (.one h5)) hM
    rw [hag]
    simp [Instr.field, Sem.run_bind, quick_run h2 w, hfd, asAgg, part, quick_run h3 w, h4]
  · cases h
theorem made_plain {z : Array Value} (hz : z.toList.all plain1 = true) (h0 : 0 < z.size) (k : Nat) : (madeCells z k).toList.all plain1 = true := by
  rw [List.all_eq_true] at hz ⊢
  intro v hv
  unfold madeCells at hv
  simp only [Array.toList_map, List.mem_map] at hv
  obtain ⟨j, _, rfl⟩ := hv
  have hlt : j % z.size < z.size := Nat.mod_lt _ h0
  rw [getElem!_pos z (j % z.size) hlt]
  exact hz _ (by simp)
theorem sound_make {T : TypeId} {x y : Operand} (ho : o.op = .makeSlice T x y) (h : evMake P T x y F M = some out) (hF : Good o F e a) (hM : MR base e M w) : OutPost P base o a e w M out := by
  unfold evMake at h
  split at h
  case h_2 => cases h
  rename_i k n k' m el h1 h2 h3
  split at h
  case h_2 => cases h
  rename_i i hi
  split at h
  case h_2 => cases h
  rename_i z hz
  obtain ⟨hc, rfl⟩ := some_bif h
  simp only [Bool.and_eq_true, decide_eq_true_eq] at hc
  obtain ⟨⟨⟨⟨⟨⟨⟨c1, c2⟩, c3⟩, c4⟩, c5⟩, c6⟩, c7⟩, c8⟩ := hc
  rw [iEq_eq] at c1
  obtain rfl := eq_of_beq c1
  have c3 := Nat.le_of_ble_eq_true c3
  have c5' := Nat.le_of_ble_eq_true c5
  have c6 := Nat.eq_of_beq_eq_true c6
  have c7 := Nat.le_of_ble_eq_true c7
  have c8 := Nat.le_of_ble_eq_true c8
  have g1 := (hF x (by simp [Op.operands, ho]) _ h1).int
  have g2 := (hF y (by simp [Op.operands, ho]) _ h2).int
  have hb : (i.bytes : Int) * n ≤ 281474976710656 := by
    have : ((i.bytes * n.toNat : Nat) : Int) ≤ 281474976710656 := by omega
    rw [Int.natCast_mul, Int.toNat_of_nonneg c2] at this
    exact this
  have hr := run_make (P := P) w T el i z h3 hi hz k k' n n c2 (Int.le_refl _) hb (by omega)
  have hpl := made_plain c4 (by omega) (n.toNat * i.size)
  obtain ⟨h5, h6⟩ := hM.alloc (T := el) (sz := i.size) (cs := (madeCells z.cells (n.toNat * i.size)).toList) (by
    unfold newOk
    rw [c5, Bool.true_and, Array.length_toList, size_madeCells]
    exact Nat.ble_eq_true_of_le c7) (all_plain e hpl)
  have h7 := V1.slc (o := 0) (n := n.toNat) (c := n.toNat) h6
  refine ⟨_, _, _, runs_of (s := Instr.makeSlice T (a.eval x) (a.eval y)) (by simp only [execOp, ho]) (by rw [g1, g2]; exact hr), Ext.put hM.free _, .two (.one h7), ?_, (Below.refl _ _).alloc hM.bs _⟩
  simp only [Array.toArray_toList] at h5
  exact h5
theorem sound_extract {x : Operand} {k : Nat} (ho : o.op = .extract x k) (h : evExtract x k F = some out) (hF : Good o F e a) (hM : MR base e M w) : OutPost P base o a e w M out := by
  unfold evExtract at h
  split at h
  case h_2 => cases h
  rename_i vs hvs
  split at h
  case h_2 => cases h
  rename_i v hv
  obtain rfl := some_eq h
  obtain ⟨vs', h1, h2⟩ := (hF x (by simp [Op.operands, ho]) _ hvs).tuple
  obtain ⟨v', h3, h4⟩ := h2.get (i := k) (by simpa using hv)
  refine OpPost.same (v' := v') (runs_of (s := Instr.extract (a.eval x) k) (by simp only [execOp, ho]) ?_) (.two h4) hM
  have h3' : vs'[k]? = some v' := by simpa using h3
  rw [h1]
  simp [Instr.extract, h3']
end
end Go.Proofs.YthldmlfpebgojaaGreatDoor
