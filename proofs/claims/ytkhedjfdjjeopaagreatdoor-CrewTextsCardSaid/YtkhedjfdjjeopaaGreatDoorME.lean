/-
  Joined texts: ParserPer; ParserLine; CrewParse; Switch. What each proves stands ahead of it, with its conditions.
-/
import Derived.Test.YtkhedjfdjjeopaaGreatDoorMC
import Derived.StillTail
import Derived.Test.YtkhedjfdjjeopaaGreatDoorCrewValidate
import Derived.Test.YtkhedjfdjjeopaaGreatDoorMA
import Derived.OwnWalk
import Derived.Test.YtkhedjfdjjeopaaGreatDoorRegionR
/-
  Contract of (*parser).person (package crew).
  Condition: the parser's memory; the fields read as a list of strings of no more than 20000 bytes, in blocks from hi on.
-/
namespace Go.Proofs.YtkhedjfdjjeopaaGreatDoor
set_option linter.unusedSimpArgs false
set_option linter.unusedVariables false
open Go.RowKit

theorem pCells_one {p : GPerson} : ∀ u ∈ pCells p (.slice none 0 0) (.slice none 0 0), u.oneCell' = true := by
  intro u hu
  simp [pCells] at hu
  rcases hu with rfl | rfl | rfl | rfl | rfl | rfl <;> rfl
theorem step_pushC {w : World} {v : Value} {ps : List GPerson} {p : GPerson} {lo hi : Nat} {P : Program} {ops : Array Oper} {o : Oper} {a : Act} {K : Act → World → Prop} {Q : Exit → Act → World → Prop} {E : Prop} (hgd : o.guard = none) (s x : Operand) (T : TypeId)
    (ho : o.op = .call { callee := .builtin .append, args := #[s, x], argTypes := #[T, T] }) (he : Elem P T 49 7 104) (hs : a.eval s = v) (hown : PMem w v ps lo hi) (hhi : hi ≤ w.heap.size)
    (b : Nat) (hx : a.eval x = .slice (some ⟨b, 0, none⟩) 1 1) (hat : At w b 0 (pCells p (.slice none 0 0) (.slice none 0 0))) (hp1 : p.types = []) (hp2 : p.vacs = []) (hlen : ps.length < 2000) (hlo : lo ≤ w.heap.size)
    (h : ∀ g' cap w', PMem w' (.slice (some ⟨g', 0, none⟩) (ps.length + 1) cap) (ps ++ [p]) lo w'.heap.size → w.grownBy w' v.ownBlock → K (a.put o.dst (.slice (some ⟨g', 0, none⟩) (ps.length + 1) cap)) w') :
    if Region.wanted o (yielded ops a.tmps) = true then Oper.wp P o a w K Q else E := by
  obtain ⟨i, z, hi', hz, h1, h2, h3⟩ := he.parts
  obtain ⟨cs, hown1, hcl⟩ := hown.pushable hhi
  refine step_append_lies _ hgd s x T ho lo 49 i z 7 104 he.1 hi' hz h1 h2 h3 (by decide) v ps.length cs hs hown1 ⟨b, 0, none⟩ 1 1 (pCells p (.slice none 0 0) (.slice none 0 0)) hx rfl (fun j u hu => by rw [addr_add]; exact hat j u hu) pCells_one (by decide) (by unfold maxLen; omega) (by omega) hlo _ rfl ?_
  intro g' cap w' ho' hgr hv' hlt
  exact h g' cap w' (hcl _ w' p hp1 hp2 (by simpa using ho') hgr) hgr
theorem wpList_pushC {w : World} {v : Value} {ps : List GPerson} {p : GPerson} {lo hi : Nat} {P : Program} {ops : Array Oper} {rest : List Oper} {o : Oper} {a : Act} {Q : Exit → Act → World → Prop} (hgd : o.guard = none) (s x : Operand) (T : TypeId)
    (ho : o.op = .call { callee := .builtin .append, args := #[s, x], argTypes := #[T, T] }) (he : Elem P T 49 7 104) (hs : a.eval s = v) (hown : PMem w v ps lo hi) (hhi : hi ≤ w.heap.size)
    (b : Nat) (hx : a.eval x = .slice (some ⟨b, 0, none⟩) 1 1) (hat : At w b 0 (pCells p (.slice none 0 0) (.slice none 0 0))) (hp1 : p.types = []) (hp2 : p.vacs = []) (hlen : ps.length < 2000) (hlo : lo ≤ w.heap.size)
    (h : ∀ v' w', PMem w' v' (ps ++ [p]) lo w'.heap.size → w.grownBy w' v.ownBlock → wpList P ops Q rest (a.put o.dst v') w') : wpList P ops Q (o :: rest) a w := by
  obtain ⟨i, z, hi', hz, h1, h2, h3⟩ := he.parts
  obtain ⟨cs, hown1, hcl⟩ := hown.pushable hhi
  refine wpList_append_own_at _ hgd s x T ho lo 49 i z 7 104 he.1 hi' hz h1 h2 h3 (by decide) v ps.length cs hs hown1 ⟨b, 0, none⟩ 1 1 (pCells p (.slice none 0 0) (.slice none 0 0)) hx rfl (fun j u hu => by rw [addr_add]; exact hat j u hu) pCells_one (by unfold maxLen; omega) (by omega) hlo ?_
  intro v' w' ho' hgr _ hv'
  exact h v' w' (hcl _ w' p hp1 hp2 (by simpa using ho') hgr) hgr
def perB (f : List ByteArray) (ps : List GPerson) : List GPerson × Int :=
  if f.length ≠ 6 then (ps, 1) else
    if (parseB (f.getD 1 noStr)).2 ≠ 0 then (ps, 1) else
      if (parseB (f.getD 5 noStr)).2 ≠ 0 then (ps, 1) else
        if rankB (f.getD 4 noStr) = -1 then (ps, 1) else
          (ps ++ [⟨(parseB (f.getD 1 noStr)).1, f.getD 2 noStr, f.getD 3 noStr, rankB (f.getD 4 noStr), (parseB (f.getD 5 noStr)).1, [], []⟩], 0)
theorem perB_line {f : List ByteArray} {ps : List GPerson} (h : f.getD 0 noStr = personS) : lineB f ps = perB f ps := by
  unfold lineB perB
  rw [h, if_pos rfl]
  by_cases h0 : f.length ≠ 6
  · rw [if_pos h0, if_pos h0]
  rw [if_neg h0, if_neg h0]
  by_cases h1 : (parseB (f.getD 1 noStr)).2 ≠ 0
  · rw [if_pos (.inl h1), if_pos h1]
  rw [if_neg h1]
  by_cases h2 : (parseB (f.getD 5 noStr)).2 ≠ 0
  · rw [if_pos (.inr (.inl h2)), if_pos h2]
  rw [if_neg h2]
  by_cases h3 : rankB (f.getD 4 noStr) = -1
  · rw [if_pos (.inr (.inr h3)), if_pos h3]
  rw [if_neg h3, if_neg (by rintro (h | h | h); exact h1 h; exact h2 h; exact h3 h)]
theorem rank_of {s : ByteArray} {k : Nat} (hk : k < 3) (hn : ∀ j : Nat, j < k → rankNm j ≠ s) (h : rankNm k = s) : rankB s = k := by
  subst h
  have hk' : k = 0 ∨ k = 1 ∨ k = 2 := by omega
  rcases hk' with rfl | rfl | rfl <;> rfl
theorem rank_no {s : ByteArray} (hn : ∀ j : Nat, j < 3 → rankNm j ≠ s) : rankB s = -1 := by
  have h0 : ¬ s = capS := fun e => hn 0 (by decide) (by rw [e]; rfl)
  have h1 : ¬ s = offS := fun e => hn 1 (by decide) (by rw [e]; rfl)
  have h2 : ¬ s = cabS := fun e => hn 2 (by decide) (by rw [e]; rfl)
  unfold rankB
  rw [if_neg h0, if_neg h1, if_neg h2]
theorem ids_len (ps : List GPerson) : (ids ps).length = ps.length := by unfold ids; rw [List.length_map]
theorem PSt.pushed {w wc w6 : World} {g mb lo : Nat} {v v6 : Value} {ps : List GPerson} {p : GPerson} {o : Obj} (hbx : But mb w wc) (hix : IIdx Tryz.prog 3 3 wc mb (ids ps ++ [p.id])) (hg1 : wc.heap[g]? = some (.cells #[v, .map (some mb)] 61 (0, 0)))
    (h4 : g < lo) (h5 : mb < lo) (hne : g ≠ mb) (hlo : lo ≤ w.heap.size) (hpm : PMem w6 v6 (ps ++ [p]) lo w6.heap.size) (hgr : (wc.drew.alloc o).grownBy w6 v.ownBlock) (hvl : ∀ k, v.ownBlock = some k → lo ≤ k) :
    w6.heap[g]? = some (.cells #[v, .map (some mb)] 61 (0, 0)) ∧ PSt (w6.setCell ⟨g, 0, none⟩ v6) g mb v6 (ps ++ [p]) lo (w6.setCell ⟨g, 0, none⟩ v6).heap.size ∧ PKeep lo g mb w (w6.setCell ⟨g, 0, none⟩ v6) := by
  have hsz : (w6.setCell ⟨g, 0, none⟩ v6).heap.size = w6.heap.size := by simp
  have hs1 := hbx.size
  have hs2 : wc.heap.size + 1 ≤ w6.heap.size := by have := hgr.size; simpa using this
  have hk : ∀ q, q < lo → w6.heap[q]? = wc.heap[q]? := fun q hq => by
    rw [hgr.block q (by simp; omega) (fun e => by have := hvl q e.symm; omega)]
    exact Below.heap_alloc _ _ _ (show q < wc.drew.heap.size by show q < wc.heap.size; omega)
  have hg6 : w6.heap[g]? = some (.cells #[v, .map (some mb)] 61 (0, 0)) := (hk g h4).trans hg1
  have hoth : ∀ q, q ≠ g → (w6.setCell ⟨g, 0, none⟩ v6).heap[q]? = w6.heap[q]? := fun q hq => heap_setCell_other _ _ _ _ hq
  refine ⟨hg6, ⟨heap_setCell_same w6 g 0 _ _ v6 hg6, ?_, ?_, h4, h5, Nat.le_refl _, by omega⟩, ⟨hgr.os.trans hbx.os, hgr.tape.trans hbx.tape, hgr.output.trans hbx.output, by omega, fun q a1 a2 a3 => ?_⟩⟩
  · rw [hsz]
    exact hpm.keep (Nat.le_refl _) fun b hb _ => hoth b (by omega)
  · have e : ids (ps ++ [p]) = ids ps ++ [p.id] := by simp [ids]
    rw [e]
    exact hix.keep ((hoth mb hne.symm).trans (hk mb h5))
  · rw [hoth q a2, hk q a1, hbx.block q (by omega) a3]
set_option maxRecDepth 100000 in
set_option maxHeartbeats 3200000 in
theorem person_any (f : List ByteArray) (A : Option Addr) (n c : Nat) (g mb : Nat) (v : Value) (ps : List GPerson) (lo hi m : Nat) (w : World) (hp : PSt w g mb v ps lo hi) (hok : PsOk m ps) (hm : m ≤ 1000)
    (hf : Sl Ty.str w (fun q => hi ≤ q ∧ q < w.heap.size) A n c f) (hz : ∀ x ∈ f, x.size ≤ 20000) :
    Calls Tryz.prog 59 #[.pointer (some ⟨g, 0, none⟩), .slice A n c] w (LPost g mb lo (perB f ps) w) := by
  have hn := hf.len
  have hnl := hf.le
  unfold maxLen at hnl
  subst hn
  have HQ : Hid (perB f ps = if f.length ≠ 6 then (ps, 1) else
    if (parseB (f.getD 1 noStr)).2 ≠ 0 then (ps, 1) else
      if (parseB (f.getD 5 noStr)).2 ≠ 0 then (ps, 1) else
        if rankB (f.getD 4 noStr) = -1 then (ps, 1) else
          (ps ++ [⟨(parseB (f.getD 1 noStr)).1, f.getD 2 noStr, f.getD 3 noStr, rankB (f.getD 4 noStr), (parseB (f.getD 5 noStr)).1, [], []⟩], 0)) := rfl
  obtain ⟨p1, p2, p3, p4, p5, hhi, hlh⟩ := hp
  have HKW : Hid (∀ V, Below w.heap.size w V → PKeep lo g mb w V) := fun V hV => PKeep.of_below hV (by omega)
  by_cases h6 : f.length = 6
  case neg =>
    have h6' : ((f.length : Int) != 6) = true := by simp; omega
    have HR : Hid (perB f ps = (ps, 1)) := by show _ = _; rw [HQ.out, if_pos h6]
    have HK := Lib.hid (HKW.out w (Below.refl _ _))
    clear h6 HQ hf p1 p2 p3
    go_enter Tryz.func59, Tryz.ntmps59
    go_wp2_with fail
    go_ret
    exact ⟨by rw [HR.out]; rfl, HK.out, fun h => by rw [HR.out] at h; exact absurd h (show ¬ (1 : Int) = 0 by decide)⟩
  have h6' : ((f.length : Int) != 6) = false := by simp; omega
  rw [if_neg (by omega)] at HQ
  obtain ⟨fb, o, rfl, hSb, hcells⟩ := str_cells hf (by omega)
  have e1 := hcells 1 (by omega); have e2 := hcells 2 (by omega); have e3 := hcells 3 (by omega); have e4 := hcells 4 (by omega); have e5 := hcells 5 (by omega)
  have z1 := fld_sz (i := 1) hz; have z5 := fld_sz (i := 5) hz
  clear hcells hz hf
  generalize f.getD 1 noStr = f1 at *
  generalize f.getD 2 noStr = f2 at *
  generalize f.getD 3 noStr = f3 at *
  generalize f.getD 4 noStr = f4 at *
  generalize f.getD 5 noStr = f5 at *
  have HC1 := Lib.hid (parseInt_any f1 w (by unfold maxLen; omega))
  have HC5 := Lib.hid (parseInt_any f5 w (by unfold maxLen; omega))
  have hbd1 := parseB_bd f1
  have hbd5 := parseB_bd f5
  unfold ParsePost at HC1 HC5
  generalize parseB f1 = a1 at *
  generalize parseB f5 = a5 at *
  obtain ⟨id, er1⟩ := a1
  obtain ⟨sen, er5⟩ := a5
  simp only at HC1 HC5 HQ hbd1 hbd5
  obtain ⟨Av, cv, rfl, -⟩ := p2.sl
  have HP1 := Lib.hid p1; have HP2 := Lib.hid p2; have HP3 := Lib.hid p3
  have hne : g ≠ mb := fun e => by
    obtain ⟨es, cl, he⟩ := p3.isMap
    rw [← e, p1] at he
    injection he with he
    cases he
  have hgw : g < w.heap.size := by omega
  have hmw : mb < w.heap.size := by omega
  have l1 : (1 : Int) < (f.length : Int) := by omega
  have l2 : (2 : Int) < (f.length : Int) := by omega
  have l3 : (3 : Int) < (f.length : Int) := by omega
  have l4 : (4 : Int) < (f.length : Int) := by omega
  have l5 : (5 : Int) < (f.length : Int) := by omega
  clear p1 p2 p3 h6 z1 z5
  go_enter Tryz.func59, Tryz.ntmps59
  go_wp2_with fail
  refine HC1.out.mono ?_
  rintro e w' ⟨rfl, rfl⟩
  by_cases h1 : er1 = 0
  case neg =>
    have h1' : (er1 != 0) = true := by simpa using h1
    have HR : Hid (perB f ps = (ps, 1)) := by show _ = _; rw [HQ.out, if_pos h1]
    have HK := Lib.hid (HKW.out w (Below.refl _ _))
    clear h1
    go_wp2_with fail
    go_ret
    exact ⟨by rw [HR.out]; rfl, HK.out, fun h => by rw [HR.out] at h; exact absurd h (show ¬ (1 : Int) = 0 by decide)⟩
  subst h1
  rw [if_neg (by simp)] at HQ
  go_wp2_with fail
  refine HC5.out.mono ?_
  rintro e w' ⟨rfl, rfl⟩
  by_cases h5 : er5 = 0
  case neg =>
    have h5' : (er5 != 0) = true := by simpa using h5
    have HR : Hid (perB f ps = (ps, 1)) := by show _ = _; rw [HQ.out, if_pos h5]
    have HK := Lib.hid (HKW.out w (Below.refl _ _))
    clear h5
    go_wp2_with fail
    go_ret
    exact ⟨by rw [HR.out]; rfl, HK.out, fun h => by rw [HR.out] at h; exact absurd h (show ¬ (1 : Int) = 0 by decide)⟩
  subst h5
  rw [if_neg (by simp)] at HQ
  clear HC1 HC5 e1 e5
  go_wp2_with fail
  go_loopw [8, 9, 10, 32] (fun _ _ _ i wr => ∃ k : Nat, k ≤ 3 ∧ i = .int .i64 k ∧ Below w.heap.size w wr ∧ Hid (∀ j : Nat, j < k → rankNm j ≠ f4)) (fun _ _ _ i _ => 3 - (intOf i).toNat)
  case atStart => exact ⟨0, Nat.zero_le _, rfl, Below.refl _ _, fun j hj => by omega⟩
  case round =>
    obtain ⟨k, hk, rfl, hbr, HN⟩ := hrel
    by_cases hlt : k < 3
    · have hlt' : (k : Int) < 3 := by omega
      have HRN : Hid (∀ V : World, Calls Tryz.prog 37 #[.int .i64 k] V fun e w' => e = .returned (.string (rankNm k)) ∧ V = w') := fun V => rankName_any k V
      have e2' := (World.cell?_of_block (a := ⟨fb, o + 2, none⟩) (hbr.block fb hSb.2)).trans e2
      have e3' := (World.cell?_of_block (a := ⟨fb, o + 3, none⟩) (hbr.block fb hSb.2)).trans e3
      have e4' := (World.cell?_of_block (a := ⟨fb, o + 4, none⟩) (hbr.block fb hSb.2)).trans e4
      generalize hnm : rankNm k = nm at *
      have HNM := Lib.hid hnm
      have HBR := Lib.hid hbr
      clear hnm hbr
      go_wp2_with fail
      go_quiet (first | (go_at_call 37; with_reducible exact quiet_left (HRN.out _)))
      have HBD : Hid (∀ q, Below w.heap.size w (wr.drewN q)) := fun q => below_drewN HBR.out q
      by_cases hq : nm = f4
      case neg =>
        have hb : (!nm.toList == f4.toList) = true := by rw [str_beq, decide_eq_false hq]; rfl
        rw [hb]
        have HN2 : Hid (∀ j : Nat, j < k + 1 → rankNm j ≠ f4) := fun j hj => by
          rcases Nat.lt_or_eq_of_le (Nat.le_of_lt_succ hj) with h | h
          · exact HN.out j h
          · subst h; rw [HNM.out]; exact hq
        clear hq
        go_wp2_with fail
        go_roundw
        case rel => exact ⟨k + 1, by omega, by go_num, HBD.out _, HN2⟩
        case measure => simp [intOf]; omega
      have hb : (!nm.toList == f4.toList) = false := by rw [str_beq, decide_eq_true hq]; rfl
      rw [hb]
      have HRK : Hid (rankB f4 = k) := rank_of hlt HN.out (by rw [HNM.out]; exact hq)
      have HR : Hid (perB f ps = (ps ++ [⟨id, f2, f3, k, sen, [], []⟩], 0)) := by
        show _ = _
        rw [HQ.out, HRK.out, if_neg (by omega)]
      have hg1 : wr.heap[g]? = some (.cells #[.slice Av ps.length cv, .map (some mb)] 61 (0, 0)) := (HBR.out.block g hgw).trans HP1.out
      have y0 := block_cell hg1 0
      have y1 := block_cell hg1 1
      have hlk : ∀ q, (Instr.lookup 59 (.map (some mb)) (.int .i64 id) true).run Tryz.prog (wr.drewN q) = .ok (.tuple #[.int .i64 (((idAt (ids ps) id).getD 0 : Nat) : Int), .bool (idAt (ids ps) id).isSome]) (wr.drewN q) := fun q =>
        iidx_get (HP3.out.keep ((HBD.out q).block mb hmw)) id (by omega)
      obtain ⟨kn, hkn⟩ : ∃ kn, (idAt (ids ps) id).isSome = kn := ⟨_, rfl⟩
      obtain ⟨pl, hpl⟩ : ∃ pl : Int, (((idAt (ids ps) id).getD 0 : Nat) : Int) = pl := ⟨_, rfl⟩
      rw [hkn, hpl] at hlk
      have HKN := Lib.hid hkn
      clear hkn hpl
      clear hq HN HNM hg1 HQ e4'
      go_upto_if 51 with (fail)
      go_cut [] (fun wx => But mb w wx ∧ IIdx Tryz.prog 3 3 wx mb (ids ps ++ [id]))
      case first =>
        cases kn with
        | true =>
          have HI : Hid (IIdx Tryz.prog 3 3 w mb (ids ps ++ [id])) := HP3.out.known HKN.out
          clear hlk
          go_wp2_with fail
          go_meet
          exact ⟨But.of_below (But.refl mb w) (HBD.out _), HI.out.keep ((HBD.out _).block mb hmw)⟩
        | false =>
          have HX : Hid (idAt (ids ps) id = none) := by
            show _ = _
            have := HKN.out
            cases h9 : idAt (ids ps) id with
            | none => rfl
            | some i => rw [h9] at this; cases this
          clear hlk
          go_wp2_with fail
          refine wp_region_still_tail 10 (by kernel_rfl) (by kernel_rfl) ?_
          simp only [List.take_succ_cons, List.take_zero, List.drop_succ_cons, List.drop_zero]
          change wpStill _ _ (wr.drewN nq).drew (fun a' => wpList _ _ _ _ a' (wr.drewN nq).drew) _ _
          repeat still_step
          refine wpStill_nil ?_
          refine wpList_iidx_store rfl _ _ _ rfl rfl (HP3.out.keep ((HBD.out nq).block mb hmw)) (by rw [ids_len]; have := hok.1; omega) id (by omega) HX.out rfl (by rw [ids_len]; rfl) ?_
          intro w3 hi3 hgr3
          go_wp2_with fail
          go_meet
          refine ⟨⟨hgr3.os.trans (HBD.out nq).os, hgr3.tape.trans (HBD.out nq).tape, hgr3.output.trans (HBD.out nq).output, Nat.le_trans (HBD.out nq).size hgr3.size, fun q a1 a2 => ?_⟩, hi3⟩
          exact (hgr3.block q (Nat.lt_of_lt_of_le a1 (HBD.out nq).size) (fun e => by injection e with e; exact a2 e)).trans ((HBD.out nq).block q a1)
      case rest =>
      obtain ⟨hbx, hix⟩ := hcut
      obtain ⟨w3, rfl⟩ : ∃ x : World, x = wc := ⟨_, rfl⟩
      have hg3 : w3.heap[g]? = some (.cells #[.slice Av ps.length cv, .map (some mb)] 61 (0, 0)) := (hbx.block g hgw hne).trans HP1.out
      have hfm : fb ≠ mb := by omega
      have c2 := hbx.cell e2 hfm
      have c3 := hbx.cell e3 hfm
      have q0 := block_cell hg3 0
      have hs3 := hbx.size
      have q0a : ∀ ob, (w3.alloc ob).cell? ⟨g, 0, none⟩ = some (.slice Av ps.length cv) := fun ob => (World.cell?_alloc_past _ _ _ (show g < w3.heap.size by omega)).trans q0
      have c2a : ∀ ob, (w3.alloc ob).cell? ⟨fb, o + 2, none⟩ = some (.string f2) := fun ob => (World.cell?_alloc_past _ _ _ (show fb < w3.heap.size by omega)).trans c2
      have c3a : ∀ ob, (w3.alloc ob).cell? ⟨fb, o + 3, none⟩ = some (.string f3) := fun ob => (World.cell?_alloc_past _ _ _ (show fb < w3.heap.size by omega)).trans c3
      have HPM : Hid (∀ ob, PMem (w3.drew.alloc ob) (.slice Av ps.length cv) ps lo hi) := fun ob => HP2.out.keep (Nat.le_refl _) fun b a1 a2 => (Below.heap_alloc _ _ _ (show b < w3.heap.size by omega)).trans (hbx.block b (by omega) (by omega))
      have HVL : Hid (∀ k, (Value.slice Av ps.length cv).ownBlock = some k → lo ≤ k) := fun k hk => (HP2.out.lt k hk).1
      have HBX := Lib.hid hbx; have HIX := Lib.hid hix; have HG3 := Lib.hid hg3
      have hps : ps.length < 2000 := by have := hok.1; omega
      clear hbx hix hg3 e2 e3 e4 e2' e3' y0 y1 hlk HBR HBD HRN
      go_wp2_with fail
      go_region_law (first
        | (refine step_pushC (p := ⟨id, f2, f3, k, sen, [], []⟩) rfl (.tmp 66) (.tmp 77) 29 rfl elem_person (by simp [Act.eval, Act.put]) (HPM.out _) (by simp; omega) w3.heap.size (by simp [Act.eval, Act.put]) (At.new w3.drew (pCells ⟨id, f2, f3, k, sen, [], []⟩ (.slice none 0 0) (.slice none 0 0)).toArray _) rfl rfl hps (by simp; omega) ?_; intro g6 cap6 w6 hpm6 hgr6; obtain ⟨hg6, r1, r2⟩ := PSt.pushed HBX.out HIX.out HG3.out p4 p5 hne (by omega) hpm6 hgr6 HVL.out; have y6 := block_cell hg6 0; have f6 := block_free hg6 0; have HR1 := Lib.hid r1; have HR2 := Lib.hid r2; clear hg6 r1 r2 hpm6 hgr6)
        | fail)
      all_goals
        go_wp2_with fail
        go_ret
        exact ⟨by rw [HR.out]; rfl, HR2.out, fun _ => by rw [HR.out]; exact ⟨_, HR1.out⟩⟩
    · have HR : Hid (perB f ps = (ps, 1)) := by
        show _ = _
        rw [HQ.out, if_pos (rank_no fun j hj => HN.out j (by omega))]
      have hlt' : ¬ (k : Int) < 3 := by omega
      have HK := Lib.hid (HKW.out wr hbr)
      clear HN HQ
      go_wp2_with fail
      go_ret
      exact ⟨by rw [HR.out]; rfl, HK.out, fun h => by rw [HR.out] at h; exact absurd h (show ¬ (1 : Int) = 0 by decide)⟩
end Go.Proofs.YtkhedjfdjjeopaaGreatDoor
/-
  Contract of (*parser).line (package crew).
  Condition: the parser's memory; the fields read as a list of strings of no more than 20000 bytes, in blocks from hi on; at least one field.
-/
namespace Go.Proofs.YtkhedjfdjjeopaaGreatDoor
set_option linter.unusedSimpArgs false
set_option linter.unusedVariables false
open Go.RowKit

theorem lineB_else {f : List ByteArray} {ps : List GPerson} (h1 : ¬ f.getD 0 noStr = personS) (h2 : ¬ f.getD 0 noStr = typeS) (h3 : ¬ f.getD 0 noStr = vacS) : lineB f ps = (ps, 1) := by
  unfold lineB
  rw [if_neg h1, if_neg h2, if_neg h3]
theorem personS_l : personS.toList = [112, 101, 114, 115, 111, 110] := by decide +kernel
theorem typeS_l : typeS.toList = [116, 121, 112, 101] := by decide +kernel
theorem vacS_l : vacS.toList = [118, 97, 99, 97, 116, 105, 111, 110] := by decide +kernel
set_option maxRecDepth 100000 in
set_option maxHeartbeats 3200000 in
theorem line_any (f : List ByteArray) (A : Option Addr) (n c : Nat) (g mb : Nat) (v : Value) (ps : List GPerson) (lo hi m : Nat) (w : World) (hp : PSt w g mb v ps lo hi) (hok : PsOk m ps) (hm : m ≤ 1000)
    (hf : Sl Ty.str w (fun q => hi ≤ q ∧ q < w.heap.size) A n c f) (hz : ∀ x ∈ f, x.size ≤ 20000) (h0 : 0 < f.length) :
    Calls Tryz.prog 22 #[.pointer (some ⟨g, 0, none⟩), .slice A n c] w (LPost g mb lo (lineB f ps) w) := by
  have HPER := Lib.hid (person_any f A n c g mb v ps lo hi m w hp hok hm hf hz)
  have HVAC := Lib.hid (vacation_any f A n c g mb v ps lo hi m w hp hok hm hf hz)
  have HL1 := Lib.hid (perB_line (f := f) (ps := ps))
  have HL2 := Lib.hid (typB_line (f := f) (ps := ps))
  have HL3 := Lib.hid (vacB_line (f := f) (ps := ps))
  have HL4 := Lib.hid (lineB_else (f := f) (ps := ps))
  have hn := hf.len
  have hnl := hf.le
  unfold maxLen at hnl
  subst hn
  obtain ⟨_, _, _, hgl, hml, hhi, hlh⟩ := id hp
  have HK : Hid (PKeep lo g mb w w) := PKeep.of_below (Below.refl w.heap.size w) (by omega)
  obtain ⟨fb, o, rfl, hSb, hcells⟩ := str_cells hf h0
  have e0 : w.cell? ⟨fb, o, none⟩ = some (.string (f.getD 0 noStr)) := hcells 0 h0
  have l0 : (0 : Int) < (f.length : Int) := by omega
  have HQ : Hid (typB f ps = if f.length ≠ 3 then (ps, 1) else
    match findB (f.getD 1 noStr) ps with
    | (none, e) => (ps, e)
    | (some i, _) => (ps.set i ((ps.getD i noPerson).addT (f.getD 2 noStr)), 0)) := rfl
  have HE1 : Hid (3 = f.length → w.cell? ⟨fb, o + 1, none⟩ = some (.string (f.getD 1 noStr)) ∧ w.cell? ⟨fb, o + 2, none⟩ = some (.string (f.getD 2 noStr))) := fun h => ⟨hcells 1 (by omega), hcells 2 (by omega)⟩
  have HZ1 : Hid ((f.getD 1 noStr).size ≤ maxLen) := by show _ ≤ _; have := fld_sz (i := 1) hz; unfold maxLen; omega
  have HP := Lib.hid hp
  have HOK := Lib.hid hok
  generalize f.getD 0 noStr = f0 at *
  generalize f.getD 1 noStr = f1 at *
  generalize f.getD 2 noStr = f2 at *
  clear hcells hz hf hp hok
  by_cases h1 : f0 = personS
  · have hb : (f0.toList == personS.toList) = true := by rw [str_beq, decide_eq_true h1]
    rw [personS_l] at hb
    have HR := Lib.hid (HL1.out h1)
    clear h1
    go_enter Tryz.func22, Tryz.ntmps22
    go_wp2_with fail
    refine HPER.out.mono ?_
    rintro e w' ⟨rfl, hk', hst⟩
    have HK' := Lib.hid hk'; have HST := Lib.hid hst
    clear hk' hst
    go_wp2_with fail
    go_ret
    rw [HR.out]
    exact ⟨rfl, HK'.out, HST.out⟩
  have hb1 : (f0.toList == ([112, 101, 114, 115, 111, 110] : List UInt8)) = false := by
    have : (f0.toList == personS.toList) = false := by rw [str_beq, decide_eq_false h1]
    rwa [personS_l] at this
  by_cases h2 : f0 = typeS
  · have hb2 : (f0.toList == ([116, 121, 112, 101] : List UInt8)) = true := by
      have : (f0.toList == typeS.toList) = true := by rw [str_beq, decide_eq_true h2]
      rwa [typeS_l] at this
    have HRL := Lib.hid (HL2.out h2)
    rw [HRL.out]
    clear h1 h2 HL1 HL2 HL3 HL4 HPER HVAC HRL
    by_cases h3 : f.length = 3
    case neg =>
      have h3' : ((f.length : Int) != 3) = true := by simp; omega
      have HR : Hid (typB f ps = (ps, 1)) := by show _ = _; rw [HQ.out, if_pos h3]
      clear h3
      go_enter Tryz.func22, Tryz.ntmps22
      go_wp2_with fail
      go_ret
      exact ⟨by rw [HR.out]; rfl, HK.out, fun h => by rw [HR.out] at h; exact absurd h (show ¬ (1 : Int) = 0 by decide)⟩
    have h3' : ((f.length : Int) != 3) = false := by simp; omega
    rw [if_neg (by omega)] at HQ
    obtain ⟨e1, e2⟩ := HE1.out h3.symm
    have l1 : (1 : Int) < (f.length : Int) := by omega
    have l2 : (2 : Int) < (f.length : Int) := by omega
    have HF := Lib.hid (find_any f1 g mb v ps lo hi w HP.out HZ1.out (Nat.le_trans HOK.out.1 hm))
    clear h3 HE1
    go_enter Tryz.func22, Tryz.ntmps22
    go_wp2_with fail
    refine HF.out.mono ?_
    rintro e w' ⟨rfl, rfl⟩
    clear HF e0
    rcases findB_cases f1 ps with ⟨i, hfi, hil⟩ | hfi | hfi
    · rw [hfi] at HQ ⊢
      have HR : Hid (typB f ps = (ps.set i ((ps.getD i noPerson).addT f2), 0)) := HQ.out
      have hpi : ps[i]? = some (ps.getD i noPerson) := by rw [List.getD_eq_getElem?_getD, List.getElem?_eq_getElem hil]; rfl
      obtain ⟨hov1, hov2, hov3⟩ := HOK.out.get i
      generalize ps.getD i noPerson = p at *
      obtain ⟨gr, cap, cur, Av, nv, cv, rfl, g1, g2, g3, g4, rfl, g6, g7, g8, g9⟩ := HP.out.2.1.setT (by omega) hpi
      have hid : ids (ps.set i (p.addT f2)) = ids ps := set_id hpi rfl
      have HOB : Hid (∀ ob, Own Ty.str 9 (w.drew.alloc ob) lo (.slice Av p.types.length cv) p.types) := fun ob => (g6.drewN 1).alloc ob
      have hlen2 : (p.types.length + 1) * 16 ≤ 140737488355328 := by omega
      have HBL : Hid (∀ ob, Below w.heap.size w (w.drew.alloc ob)) := fun ob => (below_drewN (Below.refl w.heap.size w) 1).alloc (Nat.le_refl _) ob
      have g4a : ∀ ob, (w.alloc ob).cell? ⟨gr, i * 7 + 5, none⟩ = some (.slice Av p.types.length cv) := fun ob => (World.cell?_alloc_past _ _ _ (show gr < w.heap.size by omega)).trans g4
      have e2a : ∀ ob, (w.alloc ob).cell? ⟨fb, o + 2, none⟩ = some (.string f2) := fun ob => (World.cell?_alloc_past _ _ _ (show fb < w.heap.size by omega)).trans e2
      have HG := Lib.hid g3; have HG9 := Lib.hid g9; have HG7 := Lib.hid g7; have HID := Lib.hid hid
      clear hfi g3 g9 g7 hid g6 hpi HQ
      dsimp only [ptrAt]
      go_wp2_with fail
      go_region_law (first
        | (refine step_push (t := Ty.str) rfl (.tmp 35) (.tmp 39) 36 rfl 16 elem_strs (by simp [Act.eval, Act.put]) (HOB.out _) w.heap.size f2 (fun _ => False) (by simp [Act.eval, Act.put]) ⟨[.string f2], rfl, At.new w.drew #[.string f2] _⟩ (fun _ h => h.elim) hlen2 (by decide) (by simp; omega) ?_; intro g6 cap6 w6 hown6 hgr6 hat6; obtain ⟨hg6, hm6⟩ := HG9.out _ w6 _ _ (HBL.out _) hown6 hgr6 (by rcases hat6 with h | h; exact .inl h.symm; exact .inr ⟨g6, rfl, by simp at h; omega⟩); obtain ⟨r1, r2⟩ := HP.out.grown (k := i * 7 + 5) g1 (fun k hk => (HG7.out k hk).1) (HBL.out _) hgr6 hm6 HID.out; have y6 : w6.cell? ⟨gr, i * 7 + 5, none⟩ = some (.slice Av p.types.length cv) := (World.cell?_of_block (a := ⟨gr, i * 7 + 5, none⟩) (hg6.trans HG.out.symm)).trans g4; have f6 := block_free hg6 (i * 7 + 5); have HR1 := Lib.hid r1; have HR2 := Lib.hid r2; clear hg6 hm6 r1 r2 hown6 hgr6 hat6)
        | fail)
      all_goals
        go_wp2_with fail
        go_ret
        exact ⟨by rw [HR.out]; rfl, HR2.out, fun _ => by rw [HR.out]; exact ⟨_, HR1.out⟩⟩
    · rw [hfi] at HQ ⊢
      have HR : Hid (typB f ps = (ps, 1)) := HQ.out
      go_wp2_with fail
      go_ret
      exact ⟨by rw [HR.out]; rfl, HK.out, fun h => by rw [HR.out] at h; exact absurd h (show ¬ (1 : Int) = 0 by decide)⟩
    · rw [hfi] at HQ ⊢
      have HR : Hid (typB f ps = (ps, 6)) := HQ.out
      go_wp2_with fail
      go_ret
      exact ⟨by rw [HR.out]; rfl, HK.out, fun h => by rw [HR.out] at h; exact absurd h (show ¬ (6 : Int) = 0 by decide)⟩
  have hb2 : (f0.toList == ([116, 121, 112, 101] : List UInt8)) = false := by
    have : (f0.toList == typeS.toList) = false := by rw [str_beq, decide_eq_false h2]
    rwa [typeS_l] at this
  by_cases h3 : f0 = vacS
  · have hb3 : (f0.toList == ([118, 97, 99, 97, 116, 105, 111, 110] : List UInt8)) = true := by
      have : (f0.toList == vacS.toList) = true := by rw [str_beq, decide_eq_true h3]
      rwa [vacS_l] at this
    have HR := Lib.hid (HL3.out h3)
    clear h1 h2 h3
    go_enter Tryz.func22, Tryz.ntmps22
    go_wp2_with fail
    refine HVAC.out.mono ?_
    rintro e w' ⟨rfl, hk', hst⟩
    have HK' := Lib.hid hk'; have HST := Lib.hid hst
    clear hk' hst
    go_wp2_with fail
    go_ret
    rw [HR.out]
    exact ⟨rfl, HK'.out, HST.out⟩
  · have hb3 : (f0.toList == ([118, 97, 99, 97, 116, 105, 111, 110] : List UInt8)) = false := by
      have : (f0.toList == vacS.toList) = false := by rw [str_beq, decide_eq_false h3]
      rwa [vacS_l] at this
    have HR := Lib.hid (HL4.out h1 h2 h3)
    clear h1 h2 h3
    go_enter Tryz.func22, Tryz.ntmps22
    go_wp2_with fail
    go_ret
    exact ⟨by rw [HR.out]; rfl, HK.out, fun h => by rw [HR.out] at h; exact absurd h (show ¬ (1 : Int) = 0 by decide)⟩
end Go.Proofs.YtkhedjfdjjeopaaGreatDoor
/-
  Contract of crew.Parse: the persons, line and error of the plain parser (parseC).
  Condition: the timetable is well-formed and reads as one; the string's length fits an int.
-/
namespace Go.Proofs.YtkhedjfdjjeopaaGreatDoor
set_option linter.unusedSimpArgs false
set_option linter.unusedVariables false
open Go.RowKit

def CParPost (r : List GPerson × Int × Int) (w : World) (e : Ending) (w' : World) : Prop :=
  ∃ A n c, e = .returned (.tuple #[.slice A n c, .int .i64 r.2.1, .int .i64 r.2.2]) ∧ Sl Ty.person w' (all_ w') A n c r.1 ∧ Below w.heap.size w w'
theorem PSt.up {w : World} {g mb : Nat} {v : Value} {ps : List GPerson} {lo hi hi' : Nat} (h : PSt w g mb v ps lo hi) (h1 : hi ≤ hi') (h2 : hi' ≤ w.heap.size) : PSt w g mb v ps lo hi' := by
  obtain ⟨a1, a2, a3, a4, a5, a6, a7⟩ := h
  exact ⟨a1, a2.keep h1 fun _ _ _ => rfl, a3, a4, a5, h2, by omega⟩
theorem PKeep.trans {lo g mb : Nat} {w w' w'' : World} (h : PKeep lo g mb w w') (h' : PKeep lo g mb w' w'') : PKeep lo g mb w w'' :=
  ⟨h'.os.trans h.os, h'.tape.trans h.tape, h'.output.trans h.output, Nat.le_trans h.size h'.size, fun q a b c => (h'.block q a b c).trans (h.block q a b c)⟩
theorem stepB_nil {s : ByteArray} {ps : List GPerson} (h : fieldsB s = []) : stepB s ps = (ps, 0) := by unfold stepB; rw [if_pos h]
theorem stepB_line {s : ByteArray} {ps : List GPerson} (h : ¬ fieldsB s = []) : stepB s ps = lineB (fieldsB s) ps := by unfold stepB; rw [if_neg h]
set_option maxRecDepth 100000 in
set_option maxHeartbeats 3200000 in
theorem crewParse_any (t : GTT) (s : ByteArray) (A1 A2 A3 : Option Addr) (n1 n2 n3 c1 c2 c3 : Nat) (w : World) (ht : t.ok) (hs1 : Sl Ty.zone w (all_ w) A1 n1 c1 t.zones) (hs2 : Sl Ty.airport w (all_ w) A2 n2 c2 t.airports) (hs3 : Sl Ty.flight w (all_ w) A3 n3 c3 t.flights) (hs : s.size ≤ maxLen) (hg : Glo w) :
    Calls Tryz.prog 8 #[.agg #[.slice A1 n1 c1, .slice A2 n2 c2, .slice A3 n3 c3], .string s] w (CParPost (parseC t s) w) := by
  have HS : Hid (∀ V, Below w.heap.size w V → (Sl Ty.zone V (all_ V) A1 n1 c1 t.zones ∧ Sl Ty.airport V (all_ V) A2 n2 c2 t.airports ∧ Sl Ty.flight V (all_ V) A3 n3 c3 t.flights)) := fun V hV => ⟨hs1.next hV, hs2.next hV, hs3.next hV⟩
  have HGL : Hid (∀ V, Below w.heap.size w V → Glo V) := fun V hV => hg.next hV
  have ha := (Below.refl w.heap.size w).alloc (Nat.le_refl _) (.cells #[.slice A1 n1 c1, .slice A2 n2 c2, .slice A3 n3 c3] 26)
  have hx0 := heap_alloc_new w (.cells #[.slice A1 n1 c1, .slice A2 n2 c2, .slice A3 n3 c3] 26)
  have hz0 : (w.alloc (.cells #[.slice A1 n1 c1, .slice A2 n2 c2, .slice A3 n3 c3] 26)).heap.size = w.heap.size + 1 := by simp
  have HA := Lib.hid ha; have HX0 := Lib.hid hx0; have HZ0 := Lib.hid hz0
  have HTO := Lib.hid ht
  have HSS := Lib.hid hs
  have HBAD : Hid (∀ (W' : World) (ln x : Int), Below w.heap.size w W' → CParPost ([], ln, x) w (.returned (.tuple #[.slice none 0 0, .int .i64 ln, .int .i64 x])) W') := fun W' ln x hb => ⟨none, 0, 0, rfl, Sl.nil0, hb⟩
  have HT1 : Hid (ttE t ≠ 0 → parseC t s = ([], 0, ttE t)) := fun h => by show _ = _; unfold parseC; rw [if_pos h]
  have HT2 : Hid (ttE t = 0 → (linesB s).2 ≠ 0 → parseC t s = ([], 0, (linesB s).2)) := fun h h2 => by show _ = _; unfold parseC; rw [if_neg (by simp [h]), if_pos h2]
  clear ha hs1 hs2 hs3 hx0 hz0 ht hg hs
  go_enter Tryz.func8, Tryz.ntmps8
  go_wp2_with fail
  generalize w.alloc (.cells #[.slice A1 n1 c1, .slice A2 n2 c2, .slice A3 n3 c3] 26) = W at *
  refine (validate_any t A1 A2 A3 n1 n2 n3 c1 c2 c3 W HTO.out (HS.out W HA.out).1 (HS.out W HA.out).2.1 (HS.out W HA.out).2.2).mono ?_
  rintro e w1 ⟨rfl, hb1⟩
  have hbw1 : Below w.heap.size w w1 := HA.out.trans (hb1.mono HA.out.size)
  by_cases h0 : ttE t = 0
  case neg =>
    have hne : (ttE t != 0) = true := by simpa using h0
    have HR : Hid (parseC t s = ([], 0, ttE t)) := HT1.out h0
    clear h0 HT1 HT2
    generalize ttE t = ev at *
    go_wp2_with fail
    go_ret3
    rw [HR.out]
    exact HBAD.out _ _ _ hbw1
  rw [h0]
  have H0 := Lib.hid h0
  have HX1 : Hid (w1.heap[w.heap.size]? = some (.cells #[.slice A1 n1 c1, .slice A2 n2 c2, .slice A3 n3 c3] 26)) := (hb1.block _ (by have := HZ0.out; omega)).trans HX0.out
  have hz1 : w.heap.size + 1 ≤ w1.heap.size := by have := hb1.size; have := HZ0.out; omega
  clear hb1 HX0 HZ0 HA h0
  go_wp2_with fail
  refine (lines_any s w1 HSS.out (HGL.out w1 hbw1)).mono ?_
  rintro e w2 ⟨Al, nl, cl, rfl, hsl, hb2⟩
  have hbw2 : Below w.heap.size w w2 := hbw1.trans (hb2.mono hbw1.size)
  have HX2 : Hid (w2.heap[w.heap.size]? = some (.cells #[.slice A1 n1 c1, .slice A2 n2 c2, .slice A3 n3 c3] 26)) := (hb2.block _ (by omega)).trans HX1.out
  have hz2 : w.heap.size + 1 ≤ w2.heap.size := by have := hb2.size; omega
  by_cases he : (linesB s).2 = 0
  case neg =>
    have he' : ((linesB s).2 != 0) = true := by simpa using he
    have HR := Lib.hid (HT2.out H0.out he)
    clear he
    go_wp2_with fail
    go_ret3
    rw [HR.out]
    exact HBAD.out _ _ _ hbw2
  have HLE := Lib.hid he
  rw [he]
  have HLM : Hid (∀ f ∈ (linesB s).1, f.size ≤ 20000) := fun f hf => by have := linesB_mem hf; omega
  have hll := linesB_len s
  have hmm := @run_makeMap Tryz.prog
  have HPO : Hid (∀ k, PsOk k (psAt (linesB s).1 k)) := psAt_ok s
  have HPE : Hid (∀ k : Nat, k < (linesB s).1.length → errAt (linesB s).1 k ≠ 0 → (∀ j, j < k → errAt (linesB s).1 j = 0) → parseC t s = ([], (k : Int) + 1, errAt (linesB s).1 k)) := fun k h1 h2 h3 => parseC_err H0.out he h1 h2 h3
  have HPA : Hid ((∀ j, j < (linesB s).1.length → errAt (linesB s).1 j = 0) → parseC t s = if crewE t (psAt (linesB s).1 (linesB s).1.length) ≠ 0 then ([], 0, crewE t (psAt (linesB s).1 (linesB s).1.length)) else (psAt (linesB s).1 (linesB s).1.length, 0, 0)) := fun h => parseC_all H0.out he h
  generalize (linesB s).1 = ls at *
  have hnl := hsl.len
  subst hnl
  obtain ⟨mb, hmb⟩ : ∃ mb, mb = w2.heap.size := ⟨_, rfl⟩
  have hr3 := heap_alloc_new (w2.alloc (.map #[] 0)) (.cells #[.slice none 0 0, .map (some w2.heap.size)] 61)
  have hz3 : ((w2.alloc (.map #[] 0)).alloc (.cells #[.slice none 0 0, .map (some w2.heap.size)] 61)).heap.size = w2.heap.size + 2 := by simp
  have hz3' : (w2.alloc (.map #[] 0)).heap.size = w2.heap.size + 1 := by simp
  have hb3 : Below w2.heap.size w2 ((w2.alloc (.map #[] 0)).alloc (.cells #[.slice none 0 0, .map (some w2.heap.size)] 61)) := ((Below.refl _ _).alloc (Nat.le_refl _) _).alloc (by simp) _
  have hi3 : IIdx Tryz.prog 3 3 ((w2.alloc (.map #[] 0)).alloc (.cells #[.slice none 0 0, .map (some w2.heap.size)] 61)) w2.heap.size [] := (IIdx.made w2).keep (Below.heap_alloc _ _ _ (by simp))
  rw [hz3'] at hr3
  have HPS : Hid (PSt ((w2.alloc (.map #[] 0)).alloc (.cells #[.slice none 0 0, .map (some w2.heap.size)] 61)) (w2.heap.size + 1) w2.heap.size (.slice none 0 0) [] (w2.heap.size + 2) ((w2.alloc (.map #[] 0)).alloc (.cells #[.slice none 0 0, .map (some w2.heap.size)] 61)).heap.size) :=
    ⟨hr3, PMem.nil _ _ _, hi3, by omega, by omega, Nat.le_refl _, by omega⟩
  have HB3 := Lib.hid hb3; have HZ3 := Lib.hid hz3
  have HSL := Lib.hid hsl
  have HBW2 := Lib.hid hbw2
  clear hr3 hz3 hz3' hb3 hi3 hsl hb2 hbw2 HT1 HT2 HX1 he hmb mb hbw1
  go_wp2_with fail
  generalize (w2.alloc (.map #[] 0)).alloc (.cells #[.slice none 0 0, .map (some w2.heap.size)] 61) = W3 at *
  have hz3 := HZ3.out
  have HKB : Hid (∀ V, PKeep (w2.heap.size + 2) (w2.heap.size + 1) w2.heap.size W3 V → Below w.heap.size w V ∧ Sl Ty.str V (all_ V) Al ls.length cl ls ∧ V.heap[w.heap.size]? = some (.cells #[.slice A1 n1 c1, .slice A2 n2 c2, .slice A3 n3 c3] 26)) := fun V hV => by
    have h1 := hV.size
    have hk : ∀ q, q < w2.heap.size → V.heap[q]? = w2.heap[q]? := fun q hq => (hV.block q (by omega) (by omega) (by omega)).trans (HB3.out.block q hq)
    refine ⟨⟨hV.os.trans (HB3.out.os.trans HBW2.out.os), hV.tape.trans (HB3.out.tape.trans HBW2.out.tape), hV.output.trans (HB3.out.output.trans HBW2.out.output), by omega, fun q hq => (hk q (by omega)).trans (HBW2.out.block q hq)⟩, (HSL.out.keep fun q hq => hk q hq).more fun q hq => ?_, (hk _ (by omega)).trans HX2.out⟩
    have : q < w2.heap.size := hq
    show q < V.heap.size
    omega
  go_loopw [10, 11, 12, 13, 32] (fun _ _ _ _ i wr => ∃ (k : Nat) (v : Value), k ≤ ls.length ∧ i = .int .i64 k ∧ PSt wr (w2.heap.size + 1) w2.heap.size v (psAt ls k) (w2.heap.size + 2) wr.heap.size ∧ PKeep (w2.heap.size + 2) (w2.heap.size + 1) w2.heap.size W3 wr ∧ Hid (∀ j, j < k → errAt ls j = 0)) (fun _ _ _ _ i _ => ls.length - (intOf i).toNat)
  case atStart => exact ⟨0, _, Nat.zero_le _, rfl, HPS.out, ⟨rfl, rfl, rfl, Nat.le_refl _, fun _ _ _ _ => rfl⟩, fun j hj => by omega⟩
  case round =>
    obtain ⟨k, v, hk, rfl, hst, hkp, HNE⟩ := hrel
    obtain ⟨hbr, hslr, hxr⟩ := HKB.out wr hkp
    by_cases hlt : k < ls.length
    · have hlt' : (k : Int) < (ls.length : Int) := by omega
      obtain ⟨lb, lo2, rfl, -, hcl⟩ := hslr.name_at hlt
      have HSTEP : Hid (psAt ls (k + 1) = (stepB (ls.getD k noStr) (psAt ls k)).1) := rfl
      have HERR : Hid (errAt ls k = (stepB (ls.getD k noStr) (psAt ls k)).2) := rfl
      have hsz : (ls.getD k noStr).size ≤ 20000 := fld_sz HLM.out
      have HFO := Lib.hid (fields_own (ls.getD k noStr) wr (by omega) (HGL.out wr hbr))
      have HFM : Hid (∀ x ∈ fieldsB (ls.getD k noStr), x.size ≤ 20000) := fun x hx => by have := fieldsB_mem hx; omega
      generalize ls.getD k noStr = ln at *
      have HST := Lib.hid hst; have HKP := Lib.hid hkp
      clear hst hkp hslr hxr hsz
      go_wp2_with fail
      refine HFO.out.mono ?_
      rintro e wf ⟨vf, rfl, hof, hbf⟩
      obtain ⟨Af, cf, rfl, hslf⟩ := hof.sl
      have hszf := hbf.size
      have HSF : Hid (PSt wf (w2.heap.size + 1) w2.heap.size v (psAt ls k) (w2.heap.size + 2) wr.heap.size) := HST.out.keep hbf
      have HKF : Hid (PKeep (w2.heap.size + 2) (w2.heap.size + 1) w2.heap.size W3 wf) := HKP.out.trans (PKeep.of_below hbf (by have := HKP.out.size; omega))
      have HBF := Lib.hid (HKB.out wf HKF.out).1
      have HSLF := Lib.hid hslf
      have HNIL := Lib.hid (stepB_nil (s := ln) (ps := psAt ls k))
      have HLIN := Lib.hid (stepB_line (s := ln) (ps := psAt ls k))
      clear hof hslf HFO HST HKP hbf
      generalize fieldsB ln = fs at *
      by_cases hfs : fs = []
      · have hl0 : ((fs.length : Int) == 0) = true := by rw [hfs]; rfl
        have HE := Lib.hid (HNIL.out hfs)
        have HP1 : Hid (psAt ls (k + 1) = psAt ls k) := by show _ = _; rw [HSTEP.out, HE.out]
        have HN1 : Hid (∀ j, j < k + 1 → errAt ls j = 0) := fun j hj => by
          rcases Nat.lt_or_eq_of_le (Nat.le_of_lt_succ hj) with h | h
          · exact HNE.out j h
          · subst h; rw [HERR.out, HE.out]
        clear hfs
        go_wp2_with fail
        go_roundw
        case rel => exact ⟨k + 1, v, by omega, by go_num, by rw [HP1.out]; exact HSF.out.up hszf (Nat.le_refl _), HKF.out, HN1⟩
        case measure => simp [intOf]; omega
      have hl0 : ((fs.length : Int) == 0) = false := by
        have := List.length_pos_iff.2 hfs
        simp; omega
      have HE := Lib.hid (HLIN.out hfs)
      have HLN := Lib.hid (line_any fs Af fs.length cf (w2.heap.size + 1) w2.heap.size v (psAt ls k) (w2.heap.size + 2) wr.heap.size k wf HSF.out (HPO.out k) (by omega) HSLF.out HFM.out (List.length_pos_iff.2 hfs))
      clear hfs
      generalize lineB fs (psAt ls k) = r at *
      obtain ⟨qs, er⟩ := r
      go_wp2_with fail
      refine HLN.out.mono ?_
      rintro e w5 ⟨rfl, hk5, hs5⟩
      simp only at hs5
      have HK5 : Hid (PKeep (w2.heap.size + 2) (w2.heap.size + 1) w2.heap.size W3 w5) := HKF.out.trans hk5
      have HB5 := Lib.hid (HKB.out w5 HK5.out).1
      clear hk5 HLN
      by_cases her : er = 0
      · subst her
        obtain ⟨v5, hst5⟩ := hs5 rfl
        have HS5 := Lib.hid hst5
        have HP1 : Hid (psAt ls (k + 1) = qs) := by show _ = _; rw [HSTEP.out, HE.out]
        have HN1 : Hid (∀ j, j < k + 1 → errAt ls j = 0) := fun j hj => by
          rcases Nat.lt_or_eq_of_le (Nat.le_of_lt_succ hj) with h | h
          · exact HNE.out j h
          · subst h; rw [HERR.out, HE.out]
        clear hs5 hst5
        go_wp2_with fail
        go_roundw
        case rel => exact ⟨k + 1, v5, by omega, by go_num, by rw [HP1.out]; exact HS5.out, HK5.out, HN1⟩
        case measure => simp [intOf]; omega
      · have her' : (er != 0) = true := by simpa using her
        have HEK : Hid (errAt ls k = er) := by show _ = _; rw [HERR.out, HE.out]
        have HR : Hid (parseC t s = ([], (k : Int) + 1, er)) := by
          have := HPE.out k hlt (by rw [HEK.out]; exact her) HNE.out
          rwa [HEK.out] at this
        clear her hs5
        go_wp2_with fail
        go_ret3
        rw [HR.out]
        exact HBAD.out _ _ _ HB5.out
    · have hkl : k = ls.length := by omega
      subst hkl
      have hge : ¬ (ls.length : Int) < (ls.length : Int) := by omega
      have HA := Lib.hid (HPA.out HNE.out)
      have HOKP := HPO.out ls.length
      have HCV : Hid (∀ p ∈ psAt ls ls.length, p.ok) := fun p hp => (HOKP.2 p hp).1
      obtain ⟨hg1, hpm, _, _, _, _, _⟩ := hst
      obtain ⟨Ap, cp, rfl, hsp⟩ := hpm.sl
      have hbr' := hbr
      have HSP : Hid (∀ V, Below wr.heap.size wr V → Sl Ty.person V (all_ V) Ap (psAt ls ls.length).length cp (psAt ls ls.length)) := fun V hV => (hsp.keep fun q hq => hV.block q hq.2).more fun q hq => Nat.lt_of_lt_of_le hq.2 hV.size
      generalize psAt ls ls.length = qs at *
      have x0 := block_cell hxr 0; have x1 := block_cell hxr 1; have x2 := block_cell hxr 2
      have y0 := block_cell hg1 0
      have HG1 := Lib.hid hg1; have HBR := Lib.hid hbr
      have HV := Lib.hid (crewValidate_any t qs A1 A2 A3 Ap n1 n2 n3 qs.length c1 c2 c3 cp wr HTO.out HCV.out (HS.out wr hbr).1 (HS.out wr hbr).2.1 (HS.out wr hbr).2.2 (HSP.out wr (Below.refl _ _)))
      have hgsz : w2.heap.size + 1 < wr.heap.size := (Array.getElem?_eq_some_iff.1 hg1).1
      clear hg1 hpm hsp hxr hbr hbr' hslr hlt hk HOKP
      go_wp2_with fail
      refine HV.out.mono ?_
      rintro e w6 ⟨rfl, hb6⟩
      have HB6 : Hid (Below w.heap.size w w6) := HBR.out.trans (hb6.mono HBR.out.size)
      have hg6 := (hb6.block (w2.heap.size + 1) hgsz).trans HG1.out
      have y6 := block_cell hg6 0
      have HSQ := Lib.hid (HSP.out w6 hb6)
      generalize crewE t qs = ce at *
      clear hb6 hg6 HV y0 x0 x1 x2
      by_cases hce : ce = 0
      · have HR : Hid (parseC t s = (qs, 0, 0)) := by show _ = _; rw [HA.out, if_neg (by simp [hce])]
        subst hce
        go_wp2_with fail
        go_ret3
        rw [HR.out]
        exact ⟨_, _, _, rfl, HSQ.out, HB6.out⟩
      · have hce' : (ce != 0) = true := by simpa using hce
        have HR : Hid (parseC t s = ([], 0, ce)) := by show _ = _; rw [HA.out, if_pos hce]
        clear hce
        go_wp2_with fail
        go_ret3
        rw [HR.out]
        exact HBAD.out _ _ _ HB6.out
end Go.Proofs.YtkhedjfdjjeopaaGreatDoor
/-
  Words for the switch of the reference's ParseCrew: the box p.bad while a region runs; the end of the switch.
  No condition.
-/
namespace Go.Proofs.YtkhedjfdjjeopaaGreatDoor
set_option linter.unusedSimpArgs false
set_option linter.unusedVariables false
open Go.RowKit

/-- Only the box in block g has changed: true stays true, and it becomes true only where BAD holds. -/
def RB (g : Nat) (BAD : Prop) (w w' : World) : Prop := But g w w' ∧ ∀ b, BadIs w g b → ∃ b', BadIs w' g b' ∧ (b = true → b' = true) ∧ (b' = true → b = true ∨ BAD)
theorem RB.refl (g : Nat) (BAD : Prop) (w : World) : RB g BAD w w := ⟨But.refl g w, fun b h => ⟨b, h, id, .inl⟩⟩
theorem RB.trans {g : Nat} {BAD : Prop} {x y z : World} (h : RB g BAD x y) (h' : RB g BAD y z) : RB g BAD x z := by
  refine ⟨h.1.trans h'.1, fun b hb => ?_⟩
  obtain ⟨b1, h1, h2, h3⟩ := h.2 b hb
  obtain ⟨b2, k1, k2, k3⟩ := h'.2 b1 h1
  exact ⟨b2, k1, fun e => k2 (h2 e), fun e => by
    rcases k3 e with e1 | e1
    · exact h3 e1
    · exact .inr e1⟩
theorem RB.of_below {g : Nat} {BAD : Prop} {w w' : World} (h : Below w.heap.size w w') : RB g BAD w w' :=
  ⟨(But.refl g w).of_below h, fun b hb => ⟨b, (h.block g (Array.getElem?_eq_some_iff.1 hb).1).trans hb, id, .inl⟩⟩
theorem RB.drew {g : Nat} {BAD : Prop} (w : World) : RB g BAD w { w with drawn := w.drawn + 1 } := RB.of_below ⟨rfl, rfl, rfl, Nat.le_refl _, fun _ _ => rfl⟩
theorem RB.of_num {g : Nat} {BAD : Prop} {w w' : World} {b : Bool} {er : Int} (hw : BadIs w g b) (h : BadIs w' g (b || decide (er ≠ 0))) (hb : But g w w') (he : er ≠ 0 → BAD) : RB g BAD w w' := by
  refine ⟨hb, fun b0 h0 => ?_⟩
  have e : b0 = b := by
    unfold BadIs at hw h0
    rw [hw] at h0
    injection h0 with h0
    injection h0 with h0
    have := congrArg (fun x : Array Value => x.toList) h0
    simp at this
    exact this.symm
  subst e
  refine ⟨_, h, fun e => by rw [e]; rfl, fun e => ?_⟩
  by_cases h1 : er = 0
  · subst h1; left; simpa using e
  · exact .inr (he h1)
theorem BadIs.mono {g : Nat} {BAD : Prop} {w w' : World} (h : BadIs w g true) (hr : RB g BAD w w') : BadIs w' g true := by
  obtain ⟨b', h1, h2, _⟩ := hr.2 true h
  rw [h2 rfl] at h1
  exact h1
theorem lineB_err (f : List ByteArray) (ps : List GPerson) : (lineB f ps).2 = 0 ∨ (lineB f ps).2 = 1 ∨ (lineB f ps).2 = 6 := by
  unfold lineB
  repeat' split
  all_goals simp
/-- What the switch over a line leaves: the list, the place, the box. -/
def SwPost (r : List GPerson × Int) (lo g : Nat) (w2 : World) (lv av : Value) (wx : World) : Prop :=
  ∃ (b : Bool) (at_ : Int), av = .int .i64 at_ ∧ (-1 ≤ at_ ∧ at_ ≤ 100000) ∧ BadIs wx g b ∧ Below lo w2 wx ∧ (r.2 = 1 → b = true) ∧ (r.2 = 6 → b = false ∧ at_ < 0) ∧ (r.2 = 0 → b = false ∧ 0 ≤ at_ ∧ PMem wx lv r.1 lo wx.heap.size)
theorem BadIs.inj {w : World} {g : Nat} {b c : Bool} (h : BadIs w g b) (h' : BadIs w g c) : b = c := by
  unfold BadIs at h h'
  rw [h] at h'
  injection h' with h'
  injection h' with h'
  have := congrArg (fun x : Array Value => x.toList) h'
  simpa using this
theorem BadIs.to {w : World} {g : Nat} {b c : Bool} (h : BadIs w g b) (e : b = c) : BadIs w g c := e ▸ h
theorem BadIs.lt {w : World} {g : Nat} {b : Bool} (h : BadIs w g b) : g < w.heap.size := (Array.getElem?_eq_some_iff.1 h).1
theorem sw_end {r : List GPerson × Int} {lo g : Nat} {w2 wx : World} {lv : Value} {b : Bool} {a : Int} (ha : -1 ≤ a ∧ a ≤ 100000) (hb : BadIs wx g b) (hw : Below lo w2 wx) (h1 : b = true → r.2 = 1)
    (h0 : b = false → (r.2 = 6 ∧ a < 0) ∨ (r.2 = 0 ∧ 0 ≤ a ∧ PMem wx lv r.1 lo wx.heap.size)) : SwPost r lo g w2 lv (.int .i64 a) wx := by
  refine ⟨b, a, rfl, ha, hb, hw, fun h => ?_, fun h => ?_, fun h => ?_⟩
  · cases b with
    | true => rfl
    | false => rcases h0 rfl with ⟨h2, _⟩ | ⟨h2, _⟩ <;> omega
  · cases b with
    | true => have := h1 rfl; omega
    | false =>
      rcases h0 rfl with ⟨h2, h3⟩ | ⟨h2, _⟩
      · exact ⟨rfl, h3⟩
      · omega
  · cases b with
    | true => have := h1 rfl; omega
    | false =>
      rcases h0 rfl with ⟨h2, h3⟩ | ⟨h2, h3⟩
      · omega
      · exact ⟨rfl, h3⟩
/-- One list of a person has grown and lies in its cell again: the box and the old blocks are as they were. -/
theorem sw_grown {w1 V w6 w2 : World} {lo hi g gr k : Nat} {x : Value} {row : Option Nat} {b : Bool} (hw1 : Below lo w2 w1) (hgr : lo ≤ gr) (hgr2 : gr < hi) (hrow : ∀ k, row = some k → lo ≤ k ∧ k < hi) (hhi : hi ≤ g) (hV : Below w1.heap.size w1 V) (hg6 : V.grownBy w6 row) (hb : BadIs w1 g b) :
    BadIs (w6.setCell ⟨gr, k, none⟩ x) g b ∧ Below lo w2 (w6.setCell ⟨gr, k, none⟩ x) := by
  have hgl := hb.lt
  have hs1 := hV.size
  have hs2 := hg6.size
  have hs3 := hw1.size
  refine ⟨?_, ⟨hg6.os.trans (hV.os.trans hw1.os), hg6.tape.trans (hV.tape.trans hw1.tape), hg6.output.trans (hV.output.trans hw1.output), by simp; omega, fun q hq => ?_⟩⟩
  · show (w6.setCell ⟨gr, k, none⟩ x).heap[g]? = _
    rw [heap_setCell_other _ _ _ _ (show g ≠ gr by omega), hg6.block g (by omega) (fun e => by have := hrow g e.symm; omega), hV.block g hgl]
    exact hb
  · rw [heap_setCell_other _ _ _ _ (show q ≠ gr by omega), hg6.block q (by omega) (fun e => by have := hrow q e.symm; omega), hV.block q (by omega)]
    exact hw1.block q hq
/-- A person has been appended. -/
theorem sw_pushed {w1 V w6 w2 : World} {lo hi g : Nat} {row : Option Nat} {b : Bool} (hw1 : Below lo w2 w1) (hlo : lo ≤ hi) (hrow : ∀ k, row = some k → lo ≤ k ∧ k < hi) (hhi : hi ≤ g) (hV : Below w1.heap.size w1 V) (hg6 : V.grownBy w6 row) (hb : BadIs w1 g b) :
    BadIs w6 g b ∧ Below lo w2 w6 := by
  have hgl := hb.lt
  have hs1 := hV.size
  have hs2 := hg6.size
  have hs3 := hw1.size
  refine ⟨?_, ⟨hg6.os.trans (hV.os.trans hw1.os), hg6.tape.trans (hV.tape.trans hw1.tape), hg6.output.trans (hV.output.trans hw1.output), by omega, fun q hq => ?_⟩⟩
  · show w6.heap[g]? = _
    rw [hg6.block g (by omega) (fun e => by have := hrow g e.symm; omega), hV.block g hgl]
    exact hb
  · rw [hg6.block q (by omega) (fun e => by have := hrow q e.symm; omega), hV.block q (by omega)]
    exact hw1.block q hq
/-- What each operation of the person's region leaves in its slot. -/
def regR (g fb o n cf : Nat) (f1 f2 f3 f4 f5 : ByteArray) (id er1 rk sen er5 : Int) (H : Nat) : Nat → Value → World → Prop
  | 0, v, _ => v = .pointer (some ⟨g, 0, none⟩)
  | 1, v, _ => v = .slice (some ⟨fb, o, none⟩) n cf
  | 2, v, _ => v = .pointer (some ⟨fb, o + 1, none⟩)
  | 3, v, _ => v = .string f1
  | 4, v, w => v = .int .i64 id ∧ (er1 ≠ 0 → BadIs w g true)
  | 5, v, _ => v = .slice (some ⟨fb, o, none⟩) n cf
  | 6, v, _ => v = .pointer (some ⟨fb, o + 2, none⟩)
  | 7, v, _ => v = .string f2
  | 8, v, _ => v = .slice (some ⟨fb, o, none⟩) n cf
  | 9, v, _ => v = .pointer (some ⟨fb, o + 3, none⟩)
  | 10, v, _ => v = .string f3
  | 11, v, _ => v = .slice (some ⟨fb, o, none⟩) n cf
  | 12, v, _ => v = .pointer (some ⟨fb, o + 4, none⟩)
  | 13, v, _ => v = .string f4
  | 14, v, _ => v = .int .i64 rk
  | 15, v, _ => v = .pointer (some ⟨g, 0, none⟩)
  | 16, v, _ => v = .slice (some ⟨fb, o, none⟩) n cf
  | 17, v, _ => v = .pointer (some ⟨fb, o + 5, none⟩)
  | 18, v, _ => v = .string f5
  | 19, v, w => v = .int .i64 sen ∧ (er5 ≠ 0 → BadIs w g true)
  | 20, v, _ => v = .agg #[.int .i64 id, .string f2, .string f3, .int .i64 rk, .int .i64 sen, .slice none 0 0, .slice none 0 0]
  | 21, v, w => ∃ b, v = .pointer (some ⟨b, 0, none⟩) ∧ H ≤ b ∧ w.heap[b]? = some (.cells #[.int .i64 0, .string ⟨#[]⟩, .string ⟨#[]⟩, .int .i64 0, .int .i64 0, .slice none 0 0, .slice none 0 0] 49 (0, 0))
  | _, _, _ => True
theorem regR_keep {g fb o n cf : Nat} {f1 f2 f3 f4 f5 : ByteArray} {id er1 rk sen er5 : Int} {H : Nat} {BAD : Prop} (hg : g < H) : ∀ (i : Nat) (v : Value) (w w' : World), regR g fb o n cf f1 f2 f3 f4 f5 id er1 rk sen er5 H i v w → RB g BAD w w' → regR g fb o n cf f1 f2 f3 f4 f5 id er1 rk sen er5 H i v w' := by
  intro i v w w' h hb
  unfold regR at h ⊢
  split at h <;> try exact h
  · exact ⟨h.1, fun e => (h.2 e).mono hb⟩
  · exact ⟨h.1, fun e => (h.2 e).mono hb⟩
  · obtain ⟨b, e, hH, hc⟩ := h
    exact ⟨b, e, hH, (hb.1.block b (Array.getElem?_eq_some_iff.1 hc).1 (by omega)).trans hc⟩
theorem person_infoR : (Tryz.prog.info? 49).map (·.size) = some 7 := by kernel_rfl
end Go.Proofs.YtkhedjfdjjeopaaGreatDoor
