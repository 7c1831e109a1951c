/-
  Rules that need no choice, and data of the program.
  No condition.
-/
import Derived.Test.YthldmlfpebgojaaGreatDoorQJ
namespace Go.Proofs.YthldmlfpebgojaaGreatDoor
set_option linter.unusedSimpArgs false
set_option linter.unusedVariables false
open Go.RowKit Go

theorem bl {T : Nat} {x y : Operand} {p q : Bool} (h : lk bolT T = some ()) : quick Tryz.prog (binRun .eql T x y (.bool p) (.bool q)) = some (.bool (p == q)) := by
  unfold bolT lk at h
  cases hk : Nat.beq bolN T with
  | true =>
    obtain rfl := Nat.eq_of_beq_eq_true hk
    cases p <;> cases q <;> kernel_rfl
  | false => rw [hk] at h; cases h
theorem bl' {T : Nat} {x y : Operand} {p q : Bool} (h : lk bolT T = some ()) : quick Tryz.prog (binRun .neq T x y (.bool p) (.bool q)) = some (.bool (!(p == q))) := by
  unfold bolT lk at h
  cases hk : Nat.beq bolN T with
  | true =>
    obtain rfl := Nat.eq_of_beq_eq_true hk
    cases p <;> cases q <;> kernel_rfl
  | false => rw [hk] at h; cases h
section
variable {N : Nat} {ops : Array Oper} {d : Md} {l : List Oper} {o : Oper} {B : St} {K : Hp} {L : Loc} {Q : PostX} {v : Value} {t : Nat} {R : PostC} {id : Nat} {l' : List Oper} {L' : Loc} {d' d0 : Dr} {B0 : St}
theorem J.rdA (h0 : drawOk ops (masks ops.toList []) = true) (hN : Nat.ble N 512 = true) (h : X Tryz.prog N ops (.d ⟨0, 0, K.length, [], [], []⟩ B) ops.toList B K L fun need B K L => drawChk ops need = true ∧ R .normal B K L) : J Tryz.prog N B K L (.region id ops true) R :=
  J.drawX (Nat.le_of_ble_eq_true hN) h
theorem J.rfA (hN : Nat.ble N 512 = true) (h : X Tryz.prog N ops (.f ⟨0, 0, K.length, [], [], []⟩ B) ops.toList B K L fun need B K L => fltChk ops need = true ∧ R .normal B K L) : J Tryz.prog N B K L (.region id ops true) R :=
  J.fltX (Nat.le_of_ble_eq_true hN) h
theorem J.roA (hN : Nat.ble N 512 = true) (h : X Tryz.prog N ops .o ops.toList B K L fun _ B K L => R .normal B K L) : J Tryz.prog N B K L (.region id ops false) R := J.ordX (Nat.le_of_ble_eq_true hN) h
theorem X.ro (hr : runP N ops false l dr0 L = (d', l', L')) (hp : Nat.blt l'.length l.length = true) (h : X Tryz.prog N ops .o l' B K L' Q) : X Tryz.prog N ops .o l B K L Q := X.runO hr h
theorem X.rd (hr : runP N ops false l d0 L = (d', l', L')) (hp : Nat.blt l'.length l.length = true) (h : X Tryz.prog N ops (.d d' B0) l' B K L' Q) : X Tryz.prog N ops (.d d0 B0) l B K L Q := X.runD hr h
theorem X.rf (hr : runP N ops true l d0 L = (d', l', L')) (hp : Nat.blt l'.length l.length = true) (h : X Tryz.prog N ops (.f d' B0) l' B K L' Q) : X Tryz.prog N ops (.f d0 B0) l B K L Q := X.runF hr h
/-- A load of one's own: one cell. -/
theorem X.l1 (p : Nat) {T T' sz b off : Nat} {x : Operand} {cells : List Value} (hg : gV ops o L = some true) (ho : o.op = .load T x) (hd : o.dst = some t) (ht : Nat.blt t N = true) (ha : lk aggT T = some false) (hx : opvL L x = some (.pointer (some ⟨b, off, none⟩))) (hp : K[p]? = some (some (b, ⟨cells, T', sz⟩)))
    (hc : rdK ⟨cells, T', sz⟩ (cut cells off 1) = some [v]) (hv : fl1 v = true) (h : X Tryz.prog N ops (dMap d (Dr.loadK · p)) l B K ((t, v) :: L) Q) : X Tryz.prog N ops d (o :: l) B K L Q :=
  X.loadK p (gV_ok hg) hd ht hp (.own (.one ho hx (ag ha) hv) (rdT_own hc)) h
theorem X.la (p : Nat) {T T' sz b off n : Nat} {x : Operand} {cells cs : List Value} (hg : gV ops o L = some true) (ho : o.op = .load T x) (hd : o.dst = some t) (ht : Nat.blt t N = true) (ha : lk aggT T = some true) (hn : lk sizT T = some n) (hx : opvL L x = some (.pointer (some ⟨b, off, none⟩))) (hp : K[p]? = some (some (b, ⟨cells, T', sz⟩)))
    (hc : rdK ⟨cells, T', sz⟩ (cut cells off n) = some cs) (hv : cs.all fl1 = true) (h : X Tryz.prog N ops (dMap d (Dr.loadK · p)) l B K ((t, .agg cs.toArray) :: L) Q) : X Tryz.prog N ops d (o :: l) B K L Q :=
  X.loadK p (gV_ok hg) hd ht hp (.own (.agg ho hx (ag ha) (Go.Proofs.YthldmlfpebgojaaGreatDoor.sz hn) hv) (rdT_own hc)) h
/-- Whether memory stands as at the region's start. -/
def atB (d : Md) (B : St) : Prop := d = .o ∨ ∃ d0, d.at d0 B
theorem atB.mo : atB .o B := .inl rfl
theorem atB.md : atB (.d d0 B) B := .inr ⟨_, .inl rfl⟩
theorem atB.mf : atB (.f d0 B) B := .inr ⟨_, .inr rfl⟩
theorem atB.use {C : St} (h : atB d C) (hB : Ge C B) : d = .o ∧ Ge C B ∨ ∃ d0, d.at d0 C ∧ Ge C B := by
  rcases h with h | ⟨d0, h⟩
  · exact .inl ⟨h, hB⟩
  · exact .inr ⟨d0, h, hB⟩
/-- A load of what stands: one cell. -/
theorem X.ls {T b off n : Nat} (f : Nat) {x : Operand} {cs : List Value} {C : St} (hr : rdT C b off n = some cs) (hv : cs[f]? = some v) (hB : atB d C) (hC : Ge C B) (hg : gV ops o L = some true) (ho : o.op = .load T x) (hd : o.dst = some t) (ht : Nat.blt t N = true) (ha : lk aggT T = some false) (hx : opvL L x = some (.pointer (some ⟨b, off + f, none⟩)))
    (hfl : fl1 v = true) (h : X Tryz.prog N ops (dMap d .inc) l B K ((t, v) :: L) Q) : X Tryz.prog N ops d (o :: l) B K L Q := by
  have hlen := rdT_len hr
  have hlt := (List.getElem?_eq_some_iff.1 hv).1
  have h1 := rdT_part hr (k := f) (m := 1) (by omega)
  have e : (cs.drop f).take 1 = [v] := by
    rw [List.drop_eq_getElem_cons hlt, (List.getElem?_eq_some_iff.1 hv).2]
    rfl
  rw [e] at h1
  exact X.load0 (gV_ok hg) hd ht (.one ho hx (ag ha) hfl) h1 (hB.use hC) h
/-- A load of what stands: a struct. -/
theorem X.lg {T b off n m : Nat} (f : Nat) {x : Operand} {cs ds : List Value} {C : St} (hr : rdT C b off n = some cs) (hv : (cs.drop f).take m = ds) (hm : Nat.ble (f + m) n = true) (hB : atB d C) (hC : Ge C B) (hg : gV ops o L = some true) (ho : o.op = .load T x) (hd : o.dst = some t) (ht : Nat.blt t N = true) (ha : lk aggT T = some true) (hn : lk sizT T = some m) (hx : opvL L x = some (.pointer (some ⟨b, off + f, none⟩)))
    (hfl : ds.all fl1 = true) (h : X Tryz.prog N ops (dMap d .inc) l B K ((t, .agg ds.toArray) :: L) Q) : X Tryz.prog N ops d (o :: l) B K L Q := by
  have h1 := rdT_part hr (k := f) (m := m) (Nat.le_of_ble_eq_true hm)
  rw [hv] at h1
  exact X.load0 (gV_ok hg) hd ht (.agg ho hx (ag ha) (sz hn) hfl) h1 (hB.use hC) h
/-- The address of an element. -/
theorem X.ix {α : Type} {D : Dt α} {xs : List α} {A : Option Addr} {n c i T e s : Nat} {x j : Operand} {k : IntKind} {z : Int} {C : St} (hs : Sq D C A n c xs) (hi : i < xs.length) (hs' : D.size = s) (hg : gV ops o L = some true) (ho : o.op = .indexAddr T x j) (hd : o.dst = some t) (ht : Nat.blt t N = true) (he : lk elT T = some (e, s)) (hx : opvL L x = some (.slice A n c)) (hj : opvL L j = some (.int k z)) (hz : z = (i : Int))
    (h : ∀ b f cs, rdT C b f s = some cs → D.rep C cs xs[i] → X Tryz.prog N ops (dMap d .inc) l B K ((t, .pointer (some ⟨b, f, none⟩)) :: L) Q) : X Tryz.prog N ops d (o :: l) B K L Q := by
  subst hs'
  obtain ⟨b, f, rfl, cs, hr, hx'⟩ := hs.at_ hi
  exact X.pure (gV_ok hg) hd ht (.idx ho hx hj (el he) hz (by rw [hs.1]; exact hi)) (h b (f + i * D.size) cs hr hx')
theorem X.bx {T : TypeId} {x : Operand} {cs : List Value} (ho : o.op = .box T x) (hg : gV ops o L = some true) (hd : o.dst = some t) (ht : Nat.blt t N = true) (hx : opvL L x = some v) (hc : cellsOf v = some cs) (hok : newOk cs 1 = true) (hn : n0B d K.length = true)
    (h : ∀ b, X Tryz.prog N ops (dMap d .chg) l B (K ++ [some (b, ⟨cs, T, 1⟩)]) ((t, .pointer (some ⟨b, 0, none⟩)) :: L) Q) : X Tryz.prog N ops d (o :: l) B K L Q := X.box ho (gV_ok hg) hd ht hx hc hok hn h
theorem X.al {T : TypeId} {cs : List Value} (ho : o.op = .alloc T) (hg : gV ops o L = some true) (hd : o.dst = some t) (ht : Nat.blt t N = true) (hz : lk zroT T = some cs) (hok : (cs.all plain1 && newOk cs 1) = true) (hn : n0B d K.length = true)
    (h : ∀ b, X Tryz.prog N ops (dNew d) l B (K ++ [some (b, ⟨cs, T, 1⟩)]) ((t, .pointer (some ⟨b, 0, none⟩)) :: L) Q) : X Tryz.prog N ops d (o :: l) B K L Q := X.alloc ho (gV_ok hg) hd ht (zr hz) hok hn h
theorem X.st (p : Nat) {T b off n : Nat} {x y : Operand} {cells vs : List Value} {T' sz : Nat} (ho : o.op = .store T x y) (hg : gV ops o L = some true) (hd : o.dst = none) (hx : opvL L x = some (.pointer (some ⟨b, off, none⟩))) (hy : opvL L y = some v) (hp : K[p]? = some (some (b, ⟨cells, T', sz⟩)))
    (hn : lk sizT T = some n) (hv : cellsOf v = some vs) (hl : (Nat.beq vs.length n && Nat.blt 0 sz && Nat.ble (off + vs.length) cells.length) = true)
    (h : X Tryz.prog N ops (dMap d (Dr.mod · p)) l B (K.set p (some (b, ⟨putCells cells off vs, T', sz⟩))) L Q) : X Tryz.prog N ops d (o :: l) B K L Q := X.store p ho (gV_ok hg) hd hx hy hp (Go.Proofs.YthldmlfpebgojaaGreatDoor.sz hn) hv hl h
theorem X.fe {T f off n : Nat} {ag : Bool} {x : Operand} {vs : Array Value} (ho : o.op = .field T x f) (hg : gV ops o L = some true) (hd : o.dst = some t) (ht : Nat.blt t N = true) (hf : Nat.blt f 64 = true) (hl : lk fvT (64 * T + f) = some (off, ag, n)) (hx : opvL L x = some (.agg vs)) (hv : (bif ag then some (.agg ((vs.toList.drop off).take n).toArray) else vs.toList[off]?) = some v)
    (h : X Tryz.prog N ops (dMap d .inc) l B K ((t, v) :: L) Q) : X Tryz.prog N ops d (o :: l) B K L Q := X.pure (gV_ok hg) hd ht (.field ho hx (fv hl hf) hv) h
theorem X.bd {T : TypeId} {parts : Array (Nat × Operand)} {vs z cs : List Value} {ps : List (Nat × Nat)} (ho : o.op = .build T parts) (hg : gV ops o L = some true) (hd : o.dst = some t) (ht : Nat.blt t N = true) (hz : lk zroT T = some z) (hps : lk plcT T = some ps) (hvs : opvsL L (parts.toList.map (·.2)) = some vs) (hzp : z.all plain1 = true) (hall : vs.all (fun v => (cellsOf v).isSome) = true)
    (hf : Instr.fill (ps.toArray[·]?) z.toArray ((parts.toList.map (·.1)).zip vs) = some cs.toArray) (hag : lk aggT T = some true) (h : X Tryz.prog N ops (dMap d .inc) l B K ((t, .agg cs.toArray) :: L) Q) : X Tryz.prog N ops d (o :: l) B K L Q :=
  X.pure (gV_ok hg) hd ht (.build ho hvs (zr hz) hzp (pc hps) hall hf (ag hag) (pz hps)) h
theorem X.ad {T U : TypeId} {x y : Operand} {a b : Int} (ho : o.op = .binOp .add T x y U) (hg : gV ops o L = some true) (hd : o.dst = some t) (ht : Nat.blt t N = true) (hx : opvL L x = some (.int .i64 a)) (hy : opvL L y = some (.int .i64 b)) (hi : -9223372036854775808 ≤ a + b ∧ a + b ≤ 9223372036854775807) (h : X Tryz.prog N ops (dMap d .inc) l B K ((t, .int .i64 (a + b)) :: L) Q) : X Tryz.prog N ops d (o :: l) B K L Q :=
  X.pure (gV_ok hg) hd ht (.addi ho hx hy rfl hi) h
theorem X.sb {T U : TypeId} {x y : Operand} {a b : Int} (ho : o.op = .binOp .sub T x y U) (hg : gV ops o L = some true) (hd : o.dst = some t) (ht : Nat.blt t N = true) (hx : opvL L x = some (.int .i64 a)) (hy : opvL L y = some (.int .i64 b)) (hi : -9223372036854775808 ≤ a - b ∧ a - b ≤ 9223372036854775807) (h : X Tryz.prog N ops (dMap d .inc) l B K ((t, .int .i64 (a - b)) :: L) Q) : X Tryz.prog N ops d (o :: l) B K L Q :=
  X.pure (gV_ok hg) hd ht (.subi ho hx hy rfl hi) h
theorem X.adw {T U : TypeId} {x y : Operand} {k : IntKind} {a b : Int} (ho : o.op = .binOp .add T x y U) (hg : gV ops o L = some true) (hd : o.dst = some t) (ht : Nat.blt t N = true) (hx : opvL L x = some (.int k a)) (hy : opvL L y = some (.int k b)) (h : X Tryz.prog N ops (dMap d .inc) l B K ((t, .int k (k.wrap (a + b))) :: L) Q) : X Tryz.prog N ops d (o :: l) B K L Q :=
  X.pure (gV_ok hg) hd ht (.add ho hx hy) h
theorem X.sbw {T U : TypeId} {x y : Operand} {k : IntKind} {a b : Int} (ho : o.op = .binOp .sub T x y U) (hg : gV ops o L = some true) (hd : o.dst = some t) (ht : Nat.blt t N = true) (hx : opvL L x = some (.int k a)) (hy : opvL L y = some (.int k b)) (h : X Tryz.prog N ops (dMap d .inc) l B K ((t, .int k (k.wrap (a - b))) :: L) Q) : X Tryz.prog N ops d (o :: l) B K L Q :=
  X.pure (gV_ok hg) hd ht (.sub ho hx hy) h
theorem X.muw {T U : TypeId} {x y : Operand} {k : IntKind} {a b : Int} (ho : o.op = .binOp .mul T x y U) (hg : gV ops o L = some true) (hd : o.dst = some t) (ht : Nat.blt t N = true) (hx : opvL L x = some (.int k a)) (hy : opvL L y = some (.int k b)) (h : X Tryz.prog N ops (dMap d .inc) l B K ((t, .int k (k.wrap (a * b))) :: L) Q) : X Tryz.prog N ops d (o :: l) B K L Q :=
  X.pure (gV_ok hg) hd ht (.mul ho hx hy) h
theorem X.quw {T U : TypeId} {x y : Operand} {k : IntKind} {a b : Int} (ho : o.op = .binOp .quo T x y U) (hg : gV ops o L = some true) (hd : o.dst = some t) (ht : Nat.blt t N = true) (hx : opvL L x = some (.int k a)) (hy : opvL L y = some (.int k b)) (h0 : b ≠ 0) (h : X Tryz.prog N ops (dMap d .inc) l B K ((t, .int k (k.wrap (a.tdiv b))) :: L) Q) : X Tryz.prog N ops d (o :: l) B K L Q :=
  X.pure (gV_ok hg) hd ht (.quo ho hx hy h0) h
theorem X.rew {T U : TypeId} {x y : Operand} {k : IntKind} {a b : Int} (ho : o.op = .binOp .rem T x y U) (hg : gV ops o L = some true) (hd : o.dst = some t) (ht : Nat.blt t N = true) (hx : opvL L x = some (.int k a)) (hy : opvL L y = some (.int k b)) (h0 : b ≠ 0) (h : X Tryz.prog N ops (dMap d .inc) l B K ((t, .int k (a.tmod b)) :: L) Q) : X Tryz.prog N ops d (o :: l) B K L Q :=
  X.pure (gV_ok hg) hd ht (.rem ho hx hy h0) h
theorem X.mx {c : Call} {k : IntKind} {a b : Int} (ho : o.op = .call c) (hc : c.callee = .builtin .max) (hg : gV ops o L = some true) (hd : o.dst = some t) (ht : Nat.blt t N = true) (hx : opvsL L c.args.toList = some [.int k a, .int k b]) (h : X Tryz.prog N ops (dMap d .inc) l B K ((t, .int k (if a < b then b else a)) :: L) Q) : X Tryz.prog N ops d (o :: l) B K L Q :=
  X.pure (gV_ok hg) hd ht (.max ho hc hx) h
theorem X.mi {c : Call} {k : IntKind} {a b : Int} (ho : o.op = .call c) (hc : c.callee = .builtin .min) (hg : gV ops o L = some true) (hd : o.dst = some t) (ht : Nat.blt t N = true) (hx : opvsL L c.args.toList = some [.int k a, .int k b]) (h : X Tryz.prog N ops (dMap d .inc) l B K ((t, .int k (if b < a then b else a)) :: L) Q) : X Tryz.prog N ops d (o :: l) B K L Q :=
  X.pure (gV_ok hg) hd ht (.min ho hc hx) h
theorem X.be {T U : TypeId} {x y : Operand} {p q : Bool} (ho : o.op = .binOp .eql T x y U) (hT : lk bolT T = some ()) (hg : gV ops o L = some true) (hd : o.dst = some t) (ht : Nat.blt t N = true) (hx : opvL L x = some (.bool p)) (hy : opvL L y = some (.bool q)) (h : X Tryz.prog N ops (dMap d .inc) l B K ((t, .bool (p == q)) :: L) Q) : X Tryz.prog N ops d (o :: l) B K L Q :=
  X.pure (gV_ok hg) hd ht (.beql ho hx hy (bl hT)) h
theorem X.bn {T U : TypeId} {x y : Operand} {p q : Bool} (ho : o.op = .binOp .neq T x y U) (hT : lk bolT T = some ()) (hg : gV ops o L = some true) (hd : o.dst = some t) (ht : Nat.blt t N = true) (hx : opvL L x = some (.bool p)) (hy : opvL L y = some (.bool q)) (h : X Tryz.prog N ops (dMap d .inc) l B K ((t, .bool (!(p == q))) :: L) Q) : X Tryz.prog N ops d (o :: l) B K L Q :=
  X.pure (gV_ok hg) hd ht (.bneq ho hx hy (bl' hT)) h
/-- A change of the kind of a number. -/
theorem X.cv {A C : TypeId} {x : Operand} {k : IntKind} {a : Int} (ho : o.op = .convert A C x) (hg : gV ops o L = some true) (hd : o.dst = some t) (ht : Nat.blt t N = true) (hx : opvL L x = some (.int k a)) {k' : IntKind} (hk : lk kinT C = some k') (hq : quick Tryz.prog (convert A C (.int k a)) = some (.int k' (k'.wrap a))) (h : X Tryz.prog N ops (dMap d .inc) l B K ((t, .int k' (k'.wrap a)) :: L) Q) : X Tryz.prog N ops d (o :: l) B K L Q :=
  X.pure (gV_ok hg) hd ht (.conv ho hx rfl rfl hq) h
theorem X.kn {r : Bool} (hg : gV ops o L = some r) (h : X Tryz.prog N ops d (o :: l) B K L Q) : X Tryz.prog N ops d (o :: l) B K L Q := h
/-- A guard that is not known. -/
theorem X.g_d {g t : Nat} {b : Bool} {p : Prop} [Decidable p] (h0 : o.guard = some (g, b)) (h1 : (ops[g]?).bind (·.dst) = some t) (hv : look L t = some (.bool (decide p))) (ht : p → X Tryz.prog N ops d (o :: l) B K ((t, .bool true) :: L) Q) (hf : ¬ p → X Tryz.prog N ops d (o :: l) B K ((t, .bool false) :: L) Q) : X Tryz.prog N ops d (o :: l) B K L Q := X.split_d hv ht hf
theorem X.g_n {g t : Nat} {b : Bool} {p : Prop} [Decidable p] (h0 : o.guard = some (g, b)) (h1 : (ops[g]?).bind (·.dst) = some t) (hv : look L t = some (.bool (!decide p))) (ht : ¬ p → X Tryz.prog N ops d (o :: l) B K ((t, .bool true) :: L) Q) (hf : p → X Tryz.prog N ops d (o :: l) B K ((t, .bool false) :: L) Q) : X Tryz.prog N ops d (o :: l) B K L Q := X.split_nd hv ht hf
theorem X.g_b {g t : Nat} {b c : Bool} (h0 : o.guard = some (g, b)) (h1 : (ops[g]?).bind (·.dst) = some t) (hv : look L t = some (.bool c)) (ht : c = true → X Tryz.prog N ops d (o :: l) B K ((t, .bool true) :: L) Q) (hf : c = false → X Tryz.prog N ops d (o :: l) B K ((t, .bool false) :: L) Q) : X Tryz.prog N ops d (o :: l) B K L Q := X.split hv ht hf
end

/-- Reading of one's own. -/
theorem SM.rdOwn {B : St} {K : Hp} {q b o n : Nat} {Y : Blk} {cs : List Value} (hq : K[q]? = some (some (b, Y))) (hc : rdK Y (cut Y.cells o n) = some cs) (M : Mem) (hM : SM B K M) : rd M b o n = some cs := by
  unfold rd
  rw [hM.own b Y (at_mem hq)]
  exact hc
theorem SM.neOwn {B : St} {K : Hp} {p q b el sz : Nat} {Y : Blk} {ob : Option Nat} {cells : List Value} (hp : K[p]? = some (accE el sz ob cells)) (hq : K[q]? = some (some (b, Y))) (hpq : Nat.beq p q = false) (M : Mem) (hM : SM B K M) (a : Nat) (ha : ob = some a) : a ≠ b := fun e => by
  subst ha e
  have := hM.nd p q a _ _ hp hq
  subst this
  rw [Nat.beq_refl] at hpq
  cases hpq
/-- What stands is not one's own. -/
theorem SM.neOld {B : St} {K : Hp} {p b el sz : Nat} {Y : Blk} {ob : Option Nat} {cells : List Value} (hp : K[p]? = some (accE el sz ob cells)) (hb : B.get b = some Y) (M : Mem) (hM : SM B K M) (a : Nat) (ha : ob = some a) : a ≠ b := fun e => by
  subst ha e
  have := hM.sep a _ (at_mem hp)
  rw [hb] at this
  cases this
theorem rdT_get {B : St} {b o n : Nat} {cs : List Value} (h : rdT B b o n = some cs) : ∃ Y, B.get b = some Y := by
  unfold rdT at h
  cases hg : B.get b with
  | none => rw [hg] at h; cases h
  | some Y => exact ⟨Y, rfl⟩
/-- A list that grows by a new block's elements (append(l, x..)): p is the list's place, q the block's. -/
theorem X.ap {N : Nat} {ops : Array Oper} {d : Md} {l : List Oper} {o : Oper} {B : St} {K : Hp} {L : Loc} {Q : PostX} {t : Nat} {c : Call} {x y : Operand} {T el sz bytes n k c2 b2 : Nat} {ob : Option Nat} {cells add : List Value} (p q : Nat) (ho : o.op = .call c) (hc : c.callee = .builtin .append) (ha : c.args.toList = [x, y]) (hT : c.argTypes.toList = [T, T]) (hg : gV ops o L = some true) (hd : o.dst = some t) (ht : Nat.blt t N = true)
    (he : lk appT T = some (el, sz, bytes)) (hs : Nat.blt 0 sz = true) (hx : opvL L x = some (accV ob n)) (hy : opvL L y = some (.slice (some ⟨b2, 0, none⟩) k c2)) (hp : K[p]? = some (accE el sz ob cells)) (hcl : cells.length = n * sz) (hob : accOk ob n)
    (hq : K[q]? = some (some (b2, ⟨add, el, sz⟩))) (hr : rdK ⟨add, el, sz⟩ (cut add 0 (k * sz)) = some add) (hpq : Nat.beq p q = false) (hk : Nat.blt 0 k = true) (hb : (n + k) * bytes ≤ 140737488355328) (hm : n + k ≤ 1152921504606846976)
    (h : ∀ ob', accOk ob' (n + k) → X Tryz.prog N ops (dMap d (Dr.mod · p)) l B (K.set p (accE el sz ob' (cells ++ add))) ((t, accV ob' (n + k)) :: L) Q) : X Tryz.prog N ops d (o :: l) B K L Q :=
  X.append p ho hc ha hT (gV_ok hg) hd ht (Go.Proofs.YthldmlfpebgojaaGreatDoor.ap he) (Nat.le_of_ble_eq_true hs) hx hy hp hcl hob (.inr ⟨Nat.le_of_ble_eq_true hk, b2, 0, rfl, SM.rdOwn hq hr, SM.neOwn hp hq hpq⟩) hb hm h
/-- The cells of a slice of zeros. -/
def zerosL (z : List Value) (n : Nat) : List Value := (List.range n).map fun i => z[i % z.length]!
theorem zerosL_eq (z : List Value) (n : Nat) : (Array.range n).map (z.toArray[· % z.toArray.size]!) = (zerosL z n).toArray := by
  apply Array.toList_inj.1
  unfold zerosL
  simp
theorem X.bs {N : Nat} {ops : Array Oper} {d : Md} {l : List Oper} {o : Oper} {B : St} {K : Hp} {L : Loc} {Q : PostX} {t : Nat} {T el sz len : Nat} {parts : Array (Nat × Operand)} {vs z cs : List Value} (ho : o.op = .buildSlice T len parts) (hg : gV ops o L = some true) (hd : o.dst = some t) (ht : Nat.blt t N = true) (hel : lk elT T = some (el, sz)) (hz : lk zroT el = some z) (hzl : z.length = sz)
    (hvs : opvsL L (parts.toList.map (·.2)) = some vs) (hf : Instr.fill (fun i => some (i * sz, sz)) (zerosL z (len * sz)).toArray ((parts.toList.map (·.1)).zip vs) = some cs.toArray)
    (hok : ((zerosL z (len * sz)).all plain1 && Nat.blt 0 len && Nat.blt 0 sz && Nat.ble (len * sz) 16777216 && vs.all (fun v => (cellsOf v).isSome)) = true) (hcl : Nat.beq cs.length (len * sz) = true) (hn : n0B d K.length = true)
    (h : ∀ b, X Tryz.prog N ops (dNew d) l B (K ++ [some (b, ⟨cs, el, sz⟩)]) ((t, .slice (some ⟨b, 0, none⟩) len len) :: L) Q) : X Tryz.prog N ops d (o :: l) B K L Q := by
  rw [← zerosL_eq] at hf
  have e : ((Array.range (len * sz)).map (z.toArray[· % z.toArray.size]!)).toList = zerosL z (len * sz) := by rw [zerosL_eq]
  rw [← e] at hok
  exact X.buildSlice ho (gV_ok hg) hd ht (Go.Proofs.YthldmlfpebgojaaGreatDoor.el hel) (zr hz) hzl hvs hf hok hcl hn h
/-- A number of 64 bits. -/
def inR (a : Int) : Prop := -9223372036854775808 ≤ a ∧ a ≤ 9223372036854775807
theorem inR.wrap (a : Int) : inR (IntKind.i64.wrap a) := by unfold inR; rw [IntKind.wrap_i64]; omega
theorem inR.of {a : Int} (h : -9223372036854775808 ≤ a ∧ a ≤ 9223372036854775807) : inR a := h
theorem inR.ite {p : Prop} [Decidable p] {a b : Int} (h : inR a) (k : inR b) : inR (if p then a else b) := by split <;> assumption
/-- Some number. -/
abbrev isI (v : Value) : Prop := ∃ a, v = .int .i64 a ∧ inR a
/- Data of the program. -/
def Dt.flat {α : Type} (n : Nat) (f : α → List Value) (hp : 0 < n) (hl : ∀ x, (f x).length = n) (hf : ∀ x, (f x).all fl1 = true) : Dt α := ⟨n, fun _ cs x => cs = f x, hp, fun h => by rw [h]; exact hl _, fun _ h => h, fun h => by rw [h]; exact hf _⟩
structure Task where
  flight : Int
  head : Bool
  deriving DecidableEq
def Dt.task : Dt Task := .flat 2 (fun x => [.int .i64 x.flight, .bool x.head]) (by decide) (fun _ => rfl) fun _ => rfl
abbrev Duty := List Task
def Dt.duty : Dt Duty := .slice .task
structure Pair where
  base : ByteArray
  duties : List Duty
  deriving DecidableEq
def Dt.pair : Dt Pair := ⟨2, fun B cs x => ∃ A n c, cs = [.string x.base, .slice A n c] ∧ Sq .duty B A n c x.duties, by decide, by rintro _ _ _ ⟨_, _, _, rfl, _⟩; rfl, by rintro _ _ _ _ hB ⟨_, _, _, rfl, h⟩; exact ⟨_, _, _, rfl, h.ge hB⟩, by rintro _ _ _ ⟨_, _, _, rfl, _⟩; rfl⟩
structure Flt where
  num : ByteArray
  frm : ByteArray
  to : ByteArray
  dep : Int
  arr : Int
  typ : ByteArray
  n0 : Int
  n1 : Int
  n2 : Int
def Dt.flt : Dt Flt := .flat 9 (fun x => [.string x.num, .string x.frm, .string x.to, .int .i64 x.dep, .int .i64 x.arr, .string x.typ, .int .i64 x.n0, .int .i64 x.n1, .int .i64 x.n2]) (by decide) (fun _ => rfl) fun _ => rfl
structure Apt where
  code : ByteArray
  zone : ByteArray
def Dt.apt : Dt Apt := .flat 2 (fun x => [.string x.code, .string x.zone]) (by decide) (fun _ => rfl) fun _ => rfl
/-- A slice's parts. -/
structure Slc where
  a : Option Addr
  n : Nat
  c : Nat
abbrev Slc.v (s : Slc) : Value := .slice s.a s.n s.c
abbrev SqS {α : Type} (D : Dt α) (B : St) (s : Slc) (xs : List α) : Prop := Sq D B s.a s.n s.c xs
/-- A timetable's parts. -/
structure TT where
  zs : Slc
  aps : Slc
  fls : Slc
abbrev TT.v (t : TT) : Value := .agg #[t.zs.v, t.aps.v, t.fls.v]
abbrev Flt.v (x : Flt) : Value := .agg #[.string x.num, .string x.frm, .string x.to, .int .i64 x.dep, .int .i64 x.arr, .string x.typ, .int .i64 x.n0, .int .i64 x.n1, .int .i64 x.n2]
/-- A contract's parts. -/
structure CT where
  rep : Int
  rel : Int
  con : Int
  sit : Int
  lay : Int
  nf : Int
  nt : Int
  consts : Slc
  rules : Slc
  costs : Slc
  credit : Slc
  limits : Slc
  offs : Slc
  guar : Int
abbrev CT.v (c : CT) : Value := .agg #[.int .i64 c.rep, .int .i64 c.rel, .int .i64 c.con, .int .i64 c.sit, .int .i64 c.lay, .int .i64 c.nf, .int .i64 c.nt, c.consts.v, c.rules.v, c.costs.v, c.credit.v, c.limits.v, c.offs.v, .int .i64 c.guar]
/-- Numbers of a contract that fit. -/
structure CT.Fit (c : CT) : Prop where
  rep : 0 ≤ c.rep ∧ c.rep ≤ 1000000
  rel : 0 ≤ c.rel ∧ c.rel ≤ 1000000
  con : 0 ≤ c.con ∧ c.con ≤ 1000000
/-- Flights in order. -/
structure FlsOk (fs : List Flt) : Prop where
  rng : ∀ (i : Nat) (h : i < fs.length), 0 ≤ fs[i].dep ∧ fs[i].dep < fs[i].arr ∧ fs[i].arr ≤ 1000000000000
  ord : ∀ (i j : Nat) (hi : i < fs.length) (hj : j < fs.length), i < j → fs[i].dep < fs[j].dep
  len : fs.length ≤ 1000
end Go.Proofs.YthldmlfpebgojaaGreatDoor
