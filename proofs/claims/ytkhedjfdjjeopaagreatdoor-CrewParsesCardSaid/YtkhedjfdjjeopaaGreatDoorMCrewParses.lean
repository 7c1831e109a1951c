/-
  Joined texts: LawCrewParses; CardCrewParses. What each proves stands ahead of it, with its conditions.
-/
import Derived.Test.YtkhedjfdjjeopaaGreatDoorMF
import Derived.Test.YtkhedjfdjjeopaaGreatDoorMG
/-
  The walk of pairinglaw10.CrewParses.
  Condition: the timetable is well formed; the string's length fits an int.
-/
namespace Go.Proofs.YtkhedjfdjjeopaaGreatDoor
set_option linter.unusedSimpArgs false
set_option linter.unusedVariables false
open Go.RowKit

theorem parseC_fine (t : GTT) (s : ByteArray) : (parseC t s).1.length ≤ 64 ∧ ∀ p ∈ (parseC t s).1, p.fine := by
  have h0 : ([] : List GPerson).length ≤ 64 ∧ ∀ p ∈ ([] : List GPerson), p.fine := ⟨Nat.zero_le _, fun _ h => (by cases h)⟩
  unfold parseC
  split
  · exact h0
  split
  · exact h0
  split
  · exact h0
  split
  · exact h0
  · rename_i h
    have hk := crewE_zero.1 (Classical.not_not.1 h)
    exact ⟨hk.len, hk.fine⟩
set_option maxRecDepth 100000 in
set_option maxHeartbeats 3200000 in
theorem lawCrewParses_any (t : GTT) (s : ByteArray) (A1 A2 A3 : Option Addr) (n1 n2 n3 c1 c2 c3 : Nat) (w : World) (ht : t.ok) (hs1 : Sl Ty.zone w (all_ w) A1 n1 c1 t.zones) (hs2 : Sl Ty.airport w (all_ w) A2 n2 c2 t.airports) (hs3 : Sl Ty.flight w (all_ w) A3 n3 c3 t.flights) (hz : s.size ≤ maxLen) (hg : Glo w) :
    Calls Tryz.prog 3 #[.agg #[.slice A1 n1 c1, .slice A2 n2 c2, .slice A3 n3 c3], .string s] w (CAwPost w) := by
  have hb0 := (Below.refl w.heap.size w).alloc (Nat.le_refl _) (.cells #[.slice A1 n1 c1, .slice A2 n2 c2, .slice A3 n3 c3] 26)
  have hx0 := heap_alloc_new w (.cells #[.slice A1 n1 c1, .slice A2 n2 c2, .slice A3 n3 c3] 26)
  have hz0 : (w.alloc (.cells #[.slice A1 n1 c1, .slice A2 n2 c2, .slice A3 n3 c3] 26)).heap.size = w.heap.size + 1 := by simp
  have HS : Hid (∀ V, Below w.heap.size w V → (Sl Ty.zone V (all_ V) A1 n1 c1 t.zones ∧ Sl Ty.airport V (all_ V) A2 n2 c2 t.airports ∧ Sl Ty.flight V (all_ V) A3 n3 c3 t.flights) ∧ Glo V) := fun V hV => ⟨⟨hs1.next hV, hs2.next hV, hs3.next hV⟩, hg.next hV⟩
  have HT := Lib.hid ht; have HZ := Lib.hid hz
  have HX : Hid (∀ V, Below (w.heap.size + 1) (w.alloc (.cells #[.slice A1 n1 c1, .slice A2 n2 c2, .slice A3 n3 c3] 26)) V → V.heap[w.heap.size]? = some (.cells #[.slice A1 n1 c1, .slice A2 n2 c2, .slice A3 n3 c3] 26 (0, 0)) ∧ Below w.heap.size w V ∧ w.heap.size + 1 ≤ V.heap.size) := fun V hV => ⟨(hV.block _ (by omega)).trans hx0, hb0.trans (hV.mono (by omega)), by have := hV.size; omega⟩
  have hBW := Below.refl (w.heap.size + 1) (w.alloc (.cells #[.slice A1 n1 c1, .slice A2 n2 c2, .slice A3 n3 c3] 26))
  clear hs1 hs2 hs3 hb0 hx0 hz0 ht hz hg
  go_enter Tryz.func3, Tryz.ntmps3
  go_wp2_with fail
  generalize w.alloc (.cells #[.slice A1 n1 c1, .slice A2 n2 c2, .slice A3 n3 c3] 26) = W at *
  refine (light_any t A1 A2 A3 n1 n2 n3 c1 c2 c3 W (HS.out W (HX.out W hBW).2.1).1.1).mono ?_
  rintro e w1 ⟨bl, rfl, hb1⟩
  have hk1 : Below (w.heap.size + 1) W w1 := hb1.mono (HX.out W hBW).2.2
  clear hb1
  have hnot : bl = false ∨ (bl = true ∧ (5000 : Int) < s.size) ∨ (bl = true ∧ ¬ (5000 : Int) < s.size) := by
    cases bl with
    | false => exact .inl rfl
    | true =>
      by_cases h : (5000 : Int) < s.size
      · exact .inr (.inl ⟨rfl, h⟩)
      · exact .inr (.inr ⟨rfl, h⟩)
  rcases hnot with rfl | ⟨rfl, hbig⟩ | ⟨rfl, hbig⟩
  · go_wp2_with fail
    refine (crewAwake_any w1).mono ?_
    rintro e w2 ⟨rfl, hb2⟩
    go_wp2_with fail
    go_ret
    exact ⟨rfl, (HX.out w1 hk1).2.1.trans (hb2.mono (HX.out w1 hk1).2.1.size)⟩
  · go_wp2_with fail
    refine (crewAwake_any w1).mono ?_
    rintro e w2 ⟨rfl, hb2⟩
    go_wp2_with fail
    go_ret
    exact ⟨rfl, (HX.out w1 hk1).2.1.trans (hb2.mono (HX.out w1 hk1).2.1.size)⟩
  · have x0 : w1.cell? ⟨w.heap.size, 0, none⟩ = some (.slice A1 n1 c1) := block_cell (HX.out w1 hk1).1 0
    have x1 : w1.cell? ⟨w.heap.size, 1, none⟩ = some (.slice A2 n2 c2) := block_cell (HX.out w1 hk1).1 1
    have x2 : w1.cell? ⟨w.heap.size, 2, none⟩ = some (.slice A3 n3 c3) := block_cell (HX.out w1 hk1).1 2
    have hs := HS.out w1 (HX.out w1 hk1).2.1
    have HP := Lib.hid (crewParse_any t s A1 A2 A3 n1 n2 n3 c1 c2 c3 w1 HT.out hs.1.1 hs.1.2.1 hs.1.2.2 HZ.out hs.2)
    have HFN := Lib.hid (parseC_fine t s)
    have HPR : Hid (∀ V, Below w.heap.size w V → Calls Tryz.prog 9 #[.agg #[.slice A1 n1 c1, .slice A2 n2 c2, .slice A3 n3 c3], .string s] V (CParPost (parseC t s) V)) := fun V hV => parseCrewR_any t s A1 A2 A3 n1 n2 n3 c1 c2 c3 V HT.out (HS.out V hV).1.1 (HS.out V hV).1.2.1 (HS.out V hV).1.2.2 HZ.out
    clear hs
    generalize parseC t s = r at *
    obtain ⟨l, ln, er⟩ := r
    unfold CParPost at HP HPR
    simp only at HP HPR HFN
    go_wp2_with fail
    refine HP.out.mono ?_
    clear x0 x1 x2 HP
    rintro e w2 ⟨Xa, nx, cx, rfl, hsx, hb2⟩
    have hk2 : Below (w.heap.size + 1) W w2 := hk1.trans (hb2.mono (HX.out w1 hk1).2.2)
    have HSX := Lib.hid hsx
    clear hb2 hsx
    have x0 : w2.cell? ⟨w.heap.size, 0, none⟩ = some (.slice A1 n1 c1) := block_cell (HX.out w2 hk2).1 0
    have x1 : w2.cell? ⟨w.heap.size, 1, none⟩ = some (.slice A2 n2 c2) := block_cell (HX.out w2 hk2).1 1
    have x2 : w2.cell? ⟨w.heap.size, 2, none⟩ = some (.slice A3 n3 c3) := block_cell (HX.out w2 hk2).1 2
    have HP2 := Lib.hid (HPR.out w2 (HX.out w2 hk2).2.1)
    go_wp2_with fail
    refine HP2.out.mono ?_
    clear x0 x1 x2 HP2 HPR
    rintro e w3 ⟨Ya, ny, cy, rfl, hsy, hb3⟩
    have hk3 : Below (w.heap.size + 1) W w3 := hk2.trans (hb3.mono (HX.out w2 hk2).2.2)
    have HSM := Lib.hid (crewSame_any l Xa Ya nx cx ny cy w3 HFN.out.1 HFN.out.2 (HSX.out.next hb3) hsy)
    clear hb3 hsy
    have e1 : (er == er) = true := by simp
    have e2 : (ln == ln) = true := by simp
    go_wp2_with fail
    refine HSM.out.mono ?_
    clear HSM
    rintro e w4 ⟨rfl, hb4⟩
    have hk4 : Below (w.heap.size + 1) W w4 := hk3.trans (hb4.mono (HX.out w3 hk3).2.2)
    clear hb4
    go_wp2_with fail
    refine (crewAwake_any w4).mono ?_
    rintro e w5 ⟨rfl, hb5⟩
    go_wp2_with fail
    go_ret
    exact ⟨rfl, (HX.out w4 hk4).2.1.trans (hb5.mono (HX.out w4 hk4).2.1.size)⟩
end Go.Proofs.YtkhedjfdjjeopaaGreatDoor
/-
  The card of CrewParses: for every timetable and every string the law returns true, and the arguments read as before. No condition.
-/
namespace Go.Proofs.YtkhedjfdjjeopaaGreatDoor.crewParses
set_option linter.unusedSimpArgs false
set_option linter.unusedVariables false
open Go.ChangeShapes Go.WideShapes Go.ChangeAt Go.RowKit
open Go.ChangeMaps (open_string shut_string)
theorem reads_all : (Tryz.f3.params.toList.all fun t => Tryz.prog.readableRec t && decide (t < Tryz.prog.types.size)) = true := by kernel_rfl
theorem reads_ok : ∀ t ∈ Tryz.f3.params.toList, Tryz.prog.readableRec t = true := fun t ht => by
  have h := List.all_eq_true.1 reads_all t ht
  rw [Bool.and_eq_true] at h
  exact h.1
theorem reads_lt : ∀ t ∈ Tryz.f3.params.toList, t < Tryz.prog.types.size := fun t ht => by
  have h := List.all_eq_true.1 reads_all t ht
  rw [Bool.and_eq_true] at h
  exact of_decide_eq_true h.2
set_option maxRecDepth 100000 in
theorem contract (H : Type) (enc : TypeId × Value → H) (W : World) (base : Nat) (args : Array Value) (ds gs : List (DataW H)) (before : List MemPlace)
    (hval : ∀ (j : Nat) t v, Tryz.f3.params[j]? = some t → args[j]? = some v → Value.okWide Tryz.prog W .any base t v)
    (hW : DataW.Whole enc Tryz.prog Tryz.f3.params.toList Rows.crewParsesSpec.vars false W args.toList ds gs before) (hL : laidMetH Tryz.prog Rows.crewParsesRow.laid W) (hsh : W.ShapedOpen Tryz.prog)
    (hreach : (DataW.weightsEach Tryz.prog (Tryz.f3.params.toList ++ (OpenSpec.ofChange Rows.crewParsesSpec).bare.plain.varTypes Tryz.prog) (ds ++ gs)).all (· ≤ reachBytes) = true) :
    Calls Tryz.prog 3 args W fun e W' => ∃ v, e = .returned v ∧ Rows.crewParsesSpec.post enc Tryz.prog Tryz.f3 false true false false W args v W' := by
  have hW' := hW
  obtain ⟨p, q, hA0, hV, rfl, hfz, hnd⟩ := hW
  have hA : DataW.TrodAll enc Tryz.prog W 0 (fun _ => true) true Tryz.f3.params.toList args.toList ds p := hA0
  rw [Tryz.params3] at hA hval
  obtain ⟨v0, vs0, d0, ds0, p0, q0, hargs, rfl, rfl, h0, r0⟩ := trodAll_cons hA
  obtain ⟨v1, vs1, d1, ds1, p1, q1, rfl, rfl, rfl, h1, r1⟩ := trodAll_cons r0
  obtain ⟨rfl, rfl, rfl⟩ := trodAll_nil r1
  obtain rfl : args = #[v0, v1] := by cases args; simp_all
  obtain ⟨rfl, rfl⟩ := trodVars_none hV
  have hlt : ∀ x ∈ p0, x.block < W.heap.size := fun x hx => hW'.lt x (by simp [hx])
  obtain ⟨A1, n1, c1, A2, n2, c2, A3, n3, c3, t, rfl, s1, s2, s3, hok⟩ := open_tt (hval 0 26 v0 rfl rfl) h0 hlt
  obtain ⟨s, rfl, rfl, rfl, ws⟩ := open_string Tryz.underlying9 (hval 1 9 v1 rfl rfl) h1
  refine (lawCrewParses_any t s A1 A2 A3 n1 n2 n3 c1 c2 c3 W hok s1 s2 s3 ws (glo_of_shaped hsh)).mono fun e W' ⟨he, hb⟩ => ?_
  subst he
  exact ⟨_, rfl, law_post laidOut_true Tryz.underlying4 rfl rfl (fun t ht => ⟨by revert t; exact reads_ok, by revert t; exact reads_lt⟩) ⟨rfl, rfl, rfl⟩ hW' hb⟩
theorem reads (os : Os) {H : Type} (enc : TypeId × Value → H) : ∃ places, DataW.whole enc Tryz.prog ((World.laidAll Tryz.prog os Rows.crewParsesRow.laid).forCall (fun _ _ => 0) ⟨#[], #[.agg #[.slice none 0 0, .slice none 0 0, .slice none 0 0], .string ⟨#[]⟩], []⟩).memory Tryz.f3.params.toList Rows.crewParsesSpec.vars false (#[.agg #[.slice none 0 0, .slice none 0 0, .slice none 0 0], .string ⟨#[]⟩] : Array Value).toList 8 = some ([.agg [.nil, .nil, .nil], .lit (.string [])], [], places) :=
  ⟨[], by kernel_rfl⟩
theorem laid_met (os : Os) : laidMetH Tryz.prog Rows.crewParsesRow.laid ((World.laidAll Tryz.prog os Rows.crewParsesRow.laid).forCall (fun _ _ => 0) ⟨#[], #[.agg #[.slice none 0 0, .slice none 0 0, .slice none 0 0], .string ⟨#[]⟩], []⟩).memory := by
  rw [MakeChecks.laidMetH_plain _ _ _ (by kernel_rfl)]
  exact laidMet_laidAll _ (by kernel_rfl) (by kernel_rfl)
set_option maxRecDepth 100000 in
theorem lifted (os : Os) (started : os.Started) (H : Type) (enc : TypeId × Value → H) (F : Stop.Interp) :
    ReturnsInHanded {} Tryz.checked os 3 .any ((OpenSpec.ofChange Rows.crewParsesSpec).preRow enc Tryz.prog Tryz.f3 Rows.crewParsesRow.domain false Rows.crewParsesRow.laid) (((OpenSpec.ofChange Rows.crewParsesSpec).at F).post enc Tryz.prog Tryz.f3 false true false false) := by
  obtain ⟨places, hx⟩ := reads os enc
  refine returnsInHanded_of_row (C := Tryz.checked) (s := OpenSpec.ofChange Rows.crewParsesSpec) ownKnob_none started (by kernel_rfl) Tryz.func3
    (witness_row_shaped (enc := enc) (C := Tryz.checked) false (World.laidAll Tryz.prog os Rows.crewParsesRow.laid) #[.agg #[.slice none 0 0, .slice none 0 0, .slice none 0 0], .string ⟨#[]⟩] (World.laidAll_os _ _ _) (World.shaped_of_ZipB (by kernel_rfl) (by kernel_rfl)) (by kernel_rfl)
      (OpenSpec.preRow_of_cond 8 hx (by kernel_rfl) (fun k hk => by cases hk) (by kernel_rfl) (laid_met os))) ?_
  intro W base args ds gs before hval hW _ hcond hreach hL hsh _
  exact contract H enc W base args ds gs before hval hW hL hsh hreach
theorem said : Rows.CrewParsesSaid :=
  OpenClaim.holds_of_cond 3 Tryz.f3 rfl rfl rfl rfl rfl rfl rfl ⟨rfl, rfl, rfl, rfl, rfl⟩ rfl rfl rfl rfl rfl (by kernel_rfl) Tryz.func3 (by kernel_rfl)
    (of_decide_eq_true (by kernel_rfl)) (by unfold Func.isWrapper; first | (rw [if_pos (by decide +kernel)]; kernel_rfl) | (rw [if_neg (by decide +kernel)]; exact ⟨rfl, rfl⟩))
    (fun os started H enc _ F => by rw [OpenClaim.pre_eq_preRow]; exact lifted os started H enc F)
theorem plain (f : FuncId) (fn : Func) (hf : Tryz.pinned.checked.prog.funcNamed Rows.crewParsesRow.func = some f) (hfn : Tryz.pinned.checked.prog.funcs[f]? = some fn) :
    false = Tryz.pinned.checked.prog.looks [] ∧ ∀ (j : Nat) t, fn.params[j]? = some t → Tryz.pinned.checked.prog.wantsStandIn t = false := by
  obtain rfl : f = 3 := Option.some.inj ((show Tryz.prog.funcNamed Rows.crewParsesRow.func = some 3 by kernel_rfl).symm.trans hf) |>.symm
  obtain rfl : fn = Tryz.f3 := (Option.some.inj (Tryz.func3.symm.trans hfn)).symm
  refine ⟨by kernel_rfl, fun j t ht => ?_⟩
  have hall : (Tryz.f3.params.toList.all fun u => !Tryz.prog.wantsStandIn u) = true := by kernel_rfl
  have hm : t ∈ Tryz.f3.params.toList := by simpa using Array.mem_of_getElem? ht
  have h := List.all_eq_true.1 hall t hm
  exact (show Tryz.prog.wantsStandIn t = false by simpa using h)
theorem card : Rows.CrewParsesCardSaid :=
  Claim7.holds_tied_plain_at .later [] _ _ _ _ said (fun _ h => by cases h) (by kernel_rfl) (fun _ h => by cases h) crewParses_row_tie rfl ⟨rfl, rfl⟩ (by kernel_rfl) rfl plain (by kernel_rfl)
end Go.Proofs.YtkhedjfdjjeopaaGreatDoor.crewParses
