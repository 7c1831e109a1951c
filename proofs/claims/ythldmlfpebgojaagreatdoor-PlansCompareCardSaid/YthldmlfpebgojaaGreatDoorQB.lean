/-
  More memory beside, more steps allowed: the evaluator says the same.
  No condition.
-/
import Derived.Test.YthldmlfpebgojaaGreatDoorQ9
namespace Go.Proofs.YthldmlfpebgojaaGreatDoor
set_option linter.unusedSimpArgs false
set_option linter.unusedVariables false
open Go.RowKit Go

/-- As many numbers, all blocks kept. -/
structure ML (M M' : Mem) : Prop where
  nx : M'.nx = M.nx
  get : ∀ b X, M.t.get b = some X → M'.t.get b = some X
theorem ML.refl (M : Mem) : ML M M := ⟨rfl, fun _ _ h => h⟩
theorem ML.trans {M M' M'' : Mem} (h : ML M M') (k : ML M' M'') : ML M M'' := ⟨k.nx.trans h.nx, fun b X hb => k.get b X (h.get b X hb)⟩
/-- All blocks have a number that was given. -/
def WfM (M : Mem) : Prop := ∀ b X, M.t.get b = some X → b < M.nx
/-- M1 comes of M, M1' of M' in the same way; what stood beside M stands beside M1. -/
structure Beside (M M' M1 M1' : Mem) : Prop where
  le : ML M1 M1'
  keep : ∀ b X, b < M.nx → M.t.get b = none → M'.t.get b = some X → M1'.t.get b = some X
  dom : ∀ b, b < M.nx → M.t.get b = none → M1.t.get b = none
  nx : M.nx ≤ M1.nx
  eq : M' = M → M1' = M1
  wf : WfM M' → WfM M1'
theorem Beside.refl {M M' : Mem} (h : ML M M') : Beside M M' M M' := ⟨h, fun _ _ _ _ h => h, fun _ _ h => h, Nat.le_refl _, id, id⟩
theorem Beside.trans {M M' M1 M1' M2 M2' : Mem} (h : Beside M M' M1 M1') (k : Beside M1 M1' M2 M2') : Beside M M' M2 M2' :=
  ⟨k.le, fun b X hb h1 h2 => k.keep b X (Nat.lt_of_lt_of_le hb h.nx) (h.dom b hb h1) (h.keep b X hb h1 h2), fun b hb h1 => k.dom b (Nat.lt_of_lt_of_le hb h.nx) (h.dom b hb h1), Nat.le_trans h.nx k.nx, fun e => k.eq (h.eq e), fun e => k.wf (h.wf e)⟩
/-- One call's results are another's, over less. -/
def CallLe (call call' : CallE) : Prop := ∀ f args M M' v M1, ML M M' → call f args M = some (v, M1) → ∃ M1', call' f args M' = some (v, M1') ∧ Beside M M' M1 M1'
def EffOk (M : Mem) : Eff → Prop
  | .wr b _ => ∃ X, M.t.get b = some X
  | .app a _ _ _ => ∃ X, M.t.get a = some X
  | _ => True
def OutOk (M : Mem) : Out → Prop
  | .v _ m => EffOk M m
  | _ => True
section
variable {P : Program} {M M' : Mem} {F : Fr} {out : Out} {o : Oper}
theorem Beside.new (h : ML M M') (cs : List Value) (T sz : Nat) : Beside M M' (new M cs T sz) (Go.Proofs.YthldmlfpebgojaaGreatDoor.new M' cs T sz) := by
  refine ⟨⟨by simp [Go.Proofs.YthldmlfpebgojaaGreatDoor.new, h.nx], fun b X hb => ?_⟩, fun b X hb h1 h2 => ?_, fun b hb h1 => ?_, by simp [Go.Proofs.YthldmlfpebgojaaGreatDoor.new], fun e => by rw [e], fun hw b X hb => ?_⟩
  · simp only [Go.Proofs.YthldmlfpebgojaaGreatDoor.new] at hb ⊢
    rw [h.nx]
    by_cases e : M.nx = b
    · subst e; rw [Tr.set_self] at hb ⊢; exact hb
    · rw [Tr.set_other _ _ e] at hb ⊢; exact h.get b X hb
  · simp only [Go.Proofs.YthldmlfpebgojaaGreatDoor.new]
    rw [h.nx, Tr.set_other _ _ (by omega)]
    exact h2
  · simp only [Go.Proofs.YthldmlfpebgojaaGreatDoor.new]
    rw [Tr.set_other _ _ (by omega)]
    exact h1
  · simp only [Go.Proofs.YthldmlfpebgojaaGreatDoor.new] at hb ⊢
    by_cases e : M'.nx = b
    · omega
    · rw [Tr.set_other _ _ e] at hb
      have := hw b X hb
      omega
theorem Beside.set (h : ML M M') {a : Nat} (ha : ∃ X, M.t.get a = some X) (B : Option Blk) : Beside M M' ⟨M.t.set a B, M.nx⟩ ⟨M'.t.set a B, M'.nx⟩ := by
  obtain ⟨X0, ha⟩ := ha
  refine ⟨⟨h.nx, fun b X hb => ?_⟩, fun b X hb h1 h2 => ?_, fun b hb h1 => ?_, Nat.le_refl _, fun e => by rw [e], fun hw b X hb => ?_⟩
  · by_cases e : a = b
    · subst e; simp only [Tr.set_self] at hb ⊢; exact hb
    · simp only [Tr.set_other _ _ e] at hb ⊢; exact h.get b X hb
  · have e : a ≠ b := fun e => by subst e; rw [ha] at h1; cases h1
    simp only [Tr.set_other _ _ e]
    exact h2
  · have e : a ≠ b := fun e => by subst e; rw [ha] at h1; cases h1
    simp only [Tr.set_other _ _ e]
    exact h1
  · by_cases e : a = b
    · subst e; exact hw a X0 (h.get a X0 ha)
    · simp only [Tr.set_other _ _ e] at hb
      exact hw b X hb
theorem Beside.eff (h : ML M M') {m : Eff} (hm : EffOk M m) : Beside M M' (m.apply M) (m.apply M') := by
  cases m with
  | no => exact .refl h
  | new cs T sz => exact .new h cs T sz
  | wr b B => exact .set h hm _
  | app a cs T sz =>
    have h1 := Beside.set h hm none
    exact h1.trans (.new h1.le cs T sz)
theorem rd_mono (h : ML M M') {b o n : Nat} {cs : List Value} (hr : rd M b o n = some cs) : rd M' b o n = some cs := by
  unfold rd at hr ⊢
  cases hb : M.t.get b with
  | none => rw [hb] at hr; cases hr
  | some B => rw [hb] at hr; rw [h.get b B hb]; exact hr

def outNo : Out → Prop
  | .v _ m => m = .no
  | _ => True
theorem outNo.ok (h : outNo out) : OutOk M out := by
  cases out with
  | w v => trivial
  | call f l => trivial
  | v v m =>
    obtain rfl : m = .no := h
    trivial
theorem no_valOf {S : Sem Value} (h : valOf P S = some out) : outNo out := by
  obtain ⟨v, rfl, _⟩ := valOf_sound h
  rfl
theorem no_move {x : Operand} (h : evMove x F = some out) : outNo out := by
  unfold evMove at h
  split at h <;> cases h
  trivial
theorem no_pick {c x y : Operand} (h : evPick c x y F = some out) : outNo out := by
  unfold evPick at h
  split at h <;> cases h
  trivial
theorem no_nil {x : Operand} (h : evNil x F = some out) : outNo out := by
  unfold evNil at h
  split at h <;> cases h
  trivial
theorem no_field {T : TypeId} {x : Operand} {f : Nat} (h : evField P T x f F = some out) : outNo out := by
  unfold evField at h
  (repeat' split at h) <;> cases h
  rfl
theorem no_indexAddr {T : TypeId} {x i : Operand} (h : evIndexAddr P T x i F = some out) : outNo out := by
  unfold evIndexAddr at h
  (repeat' split at h) <;> first | (obtain ⟨_, rfl⟩ := some_bif h; rfl) | cases h
theorem no_slice {T : TypeId} {x : Operand} {lo hi mx : Option Operand} (h : evSlice P T x lo hi mx F = some out) : outNo out := by
  unfold evSlice at h
  split at h
  case h_2 => cases h
  split at h
  · split at h
    case h_2 => cases h
    unfold evSliceG at h
    split at h
    case h_2 => cases h
    split at h
    case h_2 => cases h
    obtain ⟨_, h⟩ := cond_run h
    split at h <;> cases h <;> rfl
  · unfold evSliceStr at h
    obtain ⟨_, h⟩ := rec_none h
    split at h
    case h_2 => cases h
    unfold subStr at h
    obtain ⟨_, h⟩ := rec_none h
    rw [takeK_eq] at h
    split at h <;> cases h
    rfl
  · cases h
theorem no_build {T : TypeId} {parts : Array (Nat × Operand)} (h : evBuild P T parts F = some out) : outNo out := by
  unfold evBuild at h
  split at h
  case h_2 => cases h
  split at h
  case h_3 => cases h
  case h_2 =>
    unfold evBuildA at h
    split at h
    case h_2 => cases h
    obtain ⟨_, h⟩ := cond_run h
    split at h <;> cases h
    rfl
  split at h
  case h_2 => cases h
  obtain ⟨_, h⟩ := cond_run h
  split at h <;> cases h
  rfl
theorem no_extract {x : Operand} {k : Nat} (h : evExtract x k F = some out) : outNo out := by
  unfold evExtract at h
  (repeat' split at h) <;> cases h
  rfl
theorem no_binSlow {op : BinOp} {T : TypeId} {x y : Operand} {a b : Value} (h : evBinSlow P op T x y a b = some out) : outNo out := by
  unfold evBinSlow at h
  cases hp : (plain a && plain b) with
  | true => rw [hp] at h; exact no_valOf h
  | false =>
    rw [hp] at h
    simp only [cond_false] at h
    unfold nilOp at h
    (repeat' split at h) <;> cases h <;> trivial
theorem no_wv {v : Value} (h : out = .w v ∨ out = .v v .no) : outNo out := by
  rcases h with rfl | rfl
  · trivial
  · rfl
theorem no_binInt {op : BinOp} {T : TypeId} {x y : Operand} {k k' : IntKind} {a b : Int} (h : evBinInt P op T x y k k' a b = some out) : outNo out := by
  unfold evBinInt at h
  cases hk : sameKind k k' with
  | true =>
    rw [hk] at h
    obtain rfl := sameKind_eq hk
    simp only [cond_true] at h
    split at h
    · rename_i v hv
      obtain rfl := some_eq h
      obtain ⟨v, rfl, _⟩ := intOp_sound (P := P) (T := T) (x := x) (y := y) hv
      trivial
    · exact no_binSlow h
  | false =>
    rw [hk] at h
    simp only [cond_false] at h
    exact no_binSlow h
theorem no_bin {op : BinOp} {T : TypeId} {x y : Operand} (h : evBin P op T x y F = some out) : outNo out := by
  unfold evBin at h
  split at h
  · exact no_binInt h
  · unfold evBinStr at h
    split at h
    · rename_i v hv
      obtain rfl := some_eq h
      obtain ⟨v, rfl, _⟩ := strOp_sound (P := P) (T := T) (x := x) (y := y) hv
      trivial
    · exact no_binSlow h
  · exact no_binSlow h
  · cases h
theorem no_un {op : UnOp} {x : Operand} (h : evUn P op x F = some out) : outNo out := by
  unfold evUn at h
  split at h
  · obtain ⟨_, h⟩ := cond_run h
    exact no_valOf h
  · cases h
theorem no_convert {A B : TypeId} {x : Operand} (h : evConvert P A B x F = some out) : outNo out := by
  unfold evConvert at h
  split at h
  · obtain ⟨_, h⟩ := cond_run h
    exact no_valOf h
  · cases h
theorem no_indexStr {T : TypeId} {t : ByteArray} {j : Int} (h : evIndexStr P T t j = some out) : outNo out := by
  unfold evIndexStr at h
  obtain ⟨_, h⟩ := rec_none h
  cases j with
  | negSucc n => cases h
  | ofNat n =>
    obtain ⟨c, t, _, rfl⟩ := headV_some h
    trivial
theorem noIndex {T : TypeId} {x i : Operand} (h : evIndex P T x i F = some out) : outNo out := by
  unfold evIndex at h
  split at h
  · exact no_indexStr h
  · unfold evIndexSlow at h
    obtain ⟨_, h⟩ := cond_run h
    exact no_valOf h
  · cases h
theorem no_fieldV {T : TypeId} {x : Operand} {f : Nat} (h : evFieldV P T x f F = some out) : outNo out := by
  unfold evFieldV at h
  (repeat' split at h) <;> cases h <;> rfl
theorem no_func {f : FuncId} {args : List Operand} (h : evFunc P f args F = some out) : outNo out := by
  unfold evFunc at h
  split at h
  · obtain ⟨_, rfl⟩ := some_bif h
    trivial
  · cases h
theorem no_dyn {x : Operand} {args : List Operand} (h : evDyn P x args F = some out) : outNo out := by
  unfold evDyn at h
  split at h
  · exact no_func h
  · cases h
theorem no_len {args : List Operand} {Ts : Array TypeId} (h : evLen P args Ts F = some out) : outNo out := by
  unfold evLen at h
  (repeat' split at h) <;> cases h <;> rfl
theorem no_max {c : Call} {T : TypeId} (h : evMax P c T F = some out) : outNo out := by
  unfold evMax at h
  split at h
  · obtain ⟨_, h⟩ := cond_run h
    exact no_valOf h
  · cases h
theorem no_min {c : Call} {T : TypeId} (h : evMin P c T F = some out) : outNo out := by
  unfold evMin at h
  split at h
  · obtain ⟨_, h⟩ := cond_run h
    exact no_valOf h
  · cases h
theorem mono_append {c : Call} (hM : ML M M') (h : evAppend P c F M = some out) : evAppend P c F M' = some out ∧ OutOk M out := by
  unfold evAppend at h ⊢
  split at h
  case h_2 => cases h
  split at h
  case h_2 => cases h
  rename_i hu hv
  try rw [hu, hv]
  obtain ⟨hT, h⟩ := cond_run h
  simp only [hT, cond_true]
  unfold evalAppend at h ⊢
  split at h
  case h_2 => cases h
  rename_i el ht
  try rw [ht]
  try simp only
  split at h
  case h_2 => cases h
  rename_i i hi
  try rw [hi]
  try simp only
  have key : ∀ {x : Value}, appNone x = some out → outNo out := fun {x} h => by
    unfold appNone at h
    split at h <;> first | (obtain ⟨_, rfl⟩ := some_bif h; rfl) | (obtain rfl := some_eq h; rfl) | cases h
  split at h
  · exact ⟨h, (key h).ok⟩
  · exact ⟨h, (key h).ok⟩
  · rename_i b o k ck hne
    split at h
    case h_2 => cases h
    rename_i z hz
    split at h
    case h_2 => cases h
    rename_i add hadd
    try rw [hz]
    rw [rd_mono hM hadd]
    obtain ⟨hc, h⟩ := cond_run h
    simp only [hc, cond_true]
    unfold appSome at h ⊢
    split at h
    · obtain ⟨hc2, rfl⟩ := some_bif h
      rw [hM.nx, hc2]
      exact ⟨rfl, trivial⟩
    · split at h
      case h_2 => cases h
      rename_i B hB
      obtain ⟨hc2, rfl⟩ := some_bif h
      rw [hM.nx]
      simp only [hM.get _ _ hB, hc2, cond_true]
      exact ⟨trivial, ⟨_, hB⟩⟩
    · obtain ⟨hc2, rfl⟩ := some_bif h
      rw [hM.nx, hc2]
      exact ⟨rfl, trivial⟩
    · cases h
  · cases h
theorem evalOp_mono (hM : ML M M') (h : evalOp P o F M = some out) : evalOp P o F M' = some out ∧ OutOk M out := by
  unfold evalOp at h ⊢
  cases hop : o.op <;> rw [hop] at h <;> simp only at h ⊢
  case move => exact ⟨h, (no_move h).ok⟩
  case assign => exact ⟨h, (no_move h).ok⟩
  case pick => exact ⟨h, (no_pick h).ok⟩
  case nilCheck => exact ⟨h, (no_nil h).ok⟩
  case alloc T =>
    unfold evAlloc at h ⊢
    split at h
    case h_2 => cases h
    rename_i hz
    try rw [hz]
    try simp only
    split at h
    case h_2 => cases h
    rename_i hcs
    try rw [hcs]
    try simp only
    obtain ⟨hb, rfl⟩ := some_bif h
    rw [hb, hM.nx]
    exact ⟨rfl, trivial⟩
  case box T x =>
    unfold evBox at h ⊢
    split at h
    case h_2 => cases h
    rename_i hz
    try rw [hz]
    try simp only
    split at h
    case h_2 => cases h
    rename_i hcs
    try rw [hcs]
    try simp only
    obtain ⟨hb, rfl⟩ := some_bif h
    rw [hb, hM.nx]
    exact ⟨rfl, trivial⟩
  case load T x =>
    unfold evLoad at h ⊢
    split at h
    case h_2 => cases h
    rename_i hx
    try rw [hx]
    try simp only
    split at h
    · rename_i ha
      try rw [ha]
      try simp only
      split at h
      case h_2 => cases h
      rename_i hn
      try rw [hn]
      try simp only
      split at h
      case h_2 => cases h
      rename_i hcs
      rw [rd_mono hM hcs]
      obtain rfl := some_eq h
      exact ⟨rfl, trivial⟩
    · rename_i ha
      try rw [ha]
      try simp only
      split at h
      case h_2 => cases h
      rename_i hcs
      rw [rd_mono hM hcs]
      obtain rfl := some_eq h
      exact ⟨rfl, trivial⟩
    · cases h
  case store T x y =>
    unfold evStore at h ⊢
    split at h
    case h_2 => cases h
    rename_i hx
    try rw [hx]
    try simp only
    split at h
    case h_2 => cases h
    rename_i hy hn
    try rw [hy, hn]
    try simp only
    split at h
    case h_2 => cases h
    rename_i hvs
    try rw [hvs]
    try simp only
    obtain ⟨hb, h⟩ := cond_run h
    rw [hb]
    simp only [cond_true]
    split at h
    case h_2 => cases h
    rename_i m hm
    obtain rfl := some_eq h
    unfold wr at hm ⊢
    split at hm
    case h_2 => cases hm
    rename_i hB
    rw [hM.get _ _ hB]
    simp only
    obtain ⟨hb2, hm⟩ := cond_run hm
    rw [hb2]
    simp only [cond_true]
    rw [fVs_eq] at hm ⊢
    obtain rfl := some_eq hm
    exact ⟨rfl, _, hB⟩
  case fieldAddr => exact ⟨h, (no_field h).ok⟩
  case indexAddr => exact ⟨h, (no_indexAddr h).ok⟩
  case slice => exact ⟨h, (no_slice h).ok⟩
  case build => exact ⟨h, (no_build h).ok⟩
  case buildSlice T len parts =>
    unfold evBuildSl at h ⊢
    cases hl : Nat.beq len 0 with
    | true =>
      rw [hl] at h
      refine ⟨h, ?_⟩
      simp only [cond_true] at h
      unfold evBuild0 at h
      split at h
      case h_2 => cases h
      split at h
      case h_2 => cases h
      split at h
      case h_2 => cases h
      obtain ⟨_, rfl⟩ := some_bif h
      trivial
    | false =>
      rw [hl] at h
      simp only [cond_false] at h ⊢
      unfold evBuildSlice at h ⊢
      rw [hM.nx]
      refine ⟨h, ?_⟩
      split at h
      case h_2 => cases h
      split at h
      case h_2 => cases h
      split at h
      case h_2 => cases h
      obtain ⟨_, h⟩ := cond_run h
      split at h
      case h_2 => cases h
      obtain ⟨_, rfl⟩ := some_bif h
      trivial
  case extract => exact ⟨h, (no_extract h).ok⟩
  case binOp => exact ⟨h, (no_bin h).ok⟩
  case unOp => exact ⟨h, (no_un h).ok⟩
  case convert => exact ⟨h, (no_convert h).ok⟩
  case index => exact ⟨h, (noIndex h).ok⟩
  case field => exact ⟨h, (no_fieldV h).ok⟩
  case makeSlice T l c =>
    unfold evMake at h ⊢
    rw [hM.nx]
    refine ⟨h, ?_⟩
    split at h
    case h_2 => cases h
    split at h
    case h_2 => cases h
    split at h
    case h_2 => cases h
    obtain ⟨_, rfl⟩ := some_bif h
    trivial
  case call c =>
    unfold evCall at h ⊢
    cases hc : c.callee with
    | invoke r m => rw [hc] at h; cases h
    | builtin b =>
      rw [hc] at h
      cases b <;> simp only at h ⊢ <;> first | (cases h; done) | skip
      case append => exact mono_append hM h
      case len => exact ⟨h, (no_len h).ok⟩
      case max => exact ⟨h, (no_max h).ok⟩
      case min => exact ⟨h, (no_min h).ok⟩
    | value x =>
      rw [hc] at h
      cases x <;> simp only at h ⊢
      case func f => exact ⟨h, (no_func h).ok⟩
      all_goals exact ⟨h, (no_dyn h).ok⟩
  all_goals cases h
end
end Go.Proofs.YthldmlfpebgojaaGreatDoor
