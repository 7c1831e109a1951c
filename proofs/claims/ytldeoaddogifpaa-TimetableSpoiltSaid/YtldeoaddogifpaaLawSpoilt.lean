/-
  The walk of pairinglaw9.TimetableSpoilt.
  Condition: none but that the arguments are a list of integers, three integers and a string.
-/
import Derived.Test.YtldeoaddogifpaaSpoilMem
import Derived.Test.YtldeoaddogifpaaBaseValid
import Derived.Test.YtldeoaddogifpaaLawValid
import Derived.StillTailTactics
import Derived.Deep.DeepCutAuto
import Derived.Deep.CutBlock
namespace Go.Proofs.Ytldeoaddogifpaa
set_option linter.unusedSimpArgs false
set_option linter.unusedVariables false
open Go.RowKit

theorem Own.row {α : Type} {t : Ty α} {e : TypeId} {w : World} {base : Nat} {v : Value} {xs : List α} (h : Own t e w base v xs) (hne : 0 < xs.length) : ∃ b cap, v = .slice (some ⟨b, 0, none⟩) xs.length cap ∧ base ≤ b ∧ b < w.heap.size ∧ xs.length ≤ cap ∧ cap ≤ maxLen ∧
    ∃ cur, w.heap[b]? = some (.cells cur e (0, 0)) := by
  obtain ⟨cs, h1, h2⟩ := h
  rcases h1.2 with ⟨_, h0⟩ | ⟨g, cap, cur, hv, hg, hb, hn, hm, _⟩
  · omega
  · exact ⟨g, cap, hv, hg, (Array.getElem?_eq_some_iff.1 hb).1, hn, hm, cur, hb⟩

theorem and_fff (n : Int) : bits .and .i64 n 4095 = n % 4096 := by
  show IntKind.i64.wrap ((BitVec.ofInt 64 n &&& BitVec.ofInt 64 4095).toNat : Int) = _
  have e1 : (BitVec.ofInt 64 4095).toNat = 2 ^ 12 - 1 := by decide
  rw [BitVec.toNat_and, e1, Nat.and_two_pow_sub_one_eq_mod, BitVec.toNat_ofInt, IntKind.wrap_i64]
  omega
theorem Own.sl_at {e : TypeId} {w : World} {base : Nat} {b cap n : Nat} {xs : List GFlight} (h : Own Ty.flight e w base (.slice (some ⟨b, 0, none⟩) n cap) xs) {i : Nat} (hi : i < xs.length) : ∃ b' o, (some (⟨b, 0, none⟩ : Addr)) = some ⟨b', o, none⟩ ∧ True ∧ At w b' (o + i * 9) (flightCells xs[i]) := by
  obtain ⟨A, c, e1, hs⟩ := h.sl
  simp only [Value.slice.injEq] at e1
  obtain ⟨e2, _, _⟩ := e1
  obtain ⟨b', o, cs, e3, _, hr, ha⟩ := hs.at_ hi
  have hr' : cs = flightCells xs[i] := hr
  subst hr'
  exact ⟨b', o, e2.trans e3, trivial, ha⟩
set_option maxRecDepth 100000 in
set_option maxHeartbeats 3200000 in
theorem lawSpoilt_any (l : List Int) (A : Option Addr) (n c : Nat) (wi ai x : Int) (s : ByteArray) (w : World) (h : Sl (Ty.int .i64) w (all_ w) A n c l) (hs : s.size ≤ maxLen) (hx : i64In x) :
    Calls Try.prog 4 #[.slice A n c, .int .i64 wi, .int .i64 ai, .int .i64 x, .string s] w (AwPost w) := by
  have HT := Lib.hid (baseMem_any l A n c w h)
  have hval := base_valid l
  have hl7 := base_len l
  have HOK : Hid (∀ f ∈ (baseTT l).flights, f.ok) := fun f hf => hval.fine.ok.2.2 f hf
  have HFD : Hid (∀ f ∈ (baseTT l).flights, 0 ≤ f.dep ∧ f.dep ≤ 52596000) := fun f hf => (hval.fine.f f hf).2.2.2.2.1
  have HSZ := Lib.hid hs
  have HXI := Lib.hid hx
  generalize (baseTT l).flights = fs at *
  clear h hval hs hx
  go_enter Try.func4, Try.ntmps4
  go_wp2_with fail
  refine HT.out.mono ?_
  clear HT
  rintro e w1 ⟨zv, av, v, mb, tb, rfl, hzm, ham, hown, ⟨hm1, hm2, hm3⟩, hb1⟩
  obtain ⟨fb, cap, rfl, hfb1, hfb2, hcap1, hcap2, cur, hcur⟩ := hown.row (by omega)
  unfold maxLen at hcap2
  have hTM : TMem w w1.heap.size mb tb zv av (.slice (some ⟨fb, 0, none⟩) fs.length cap) baseZD baseAD fs (w1.alloc (.cells #[zv, av, .slice (some ⟨fb, 0, none⟩) fs.length cap] 26)) := by
    have hb := (Below.refl w1.heap.size w1).alloc (Nat.le_refl _) (.cells #[zv, av, .slice (some ⟨fb, 0, none⟩) fs.length cap] 26)
    exact ⟨heap_alloc_new _ _, hzm.keep fun b hb' => hb.block b (by omega), ham.keep fun b hb' => hb.block b (by omega), hown.next hb, hb1.trans (hb.mono hb1.size), hm1, hm2, hm3, fun k hk => by simp [Value.ownBlock] at hk; omega⟩
  obtain ⟨zb, s1, s2, rfl, ⟨hSz, hS1, hS2⟩, hd, hz0, hz1, hz2⟩ := hTM.zm
  obtain ⟨ab, rfl, hSa, ha0⟩ := hTM.am
  clear hzm ham hown hcur
  have hl0 : ((fs.length : Int) == 0) = false := beq_eq_false_iff_ne.2 (by omega)
  have ha1 : bits .and .i64 ai 65535 = ai % 65536 := and_ffff ai
  have hm1 : 0 ≤ ai % 65536 % (fs.length : Int) := Int.emod_nonneg _ (by omega)
  have hm2 : ai % 65536 % (fs.length : Int) < (fs.length : Int) := Int.emod_lt_of_pos _ (by omega)
  obtain ⟨i, hi⟩ := Int.eq_ofNat_of_zero_le hm1
  have hm3 : (ai % 65536).tmod (fs.length : Int) = (i : Int) := by rw [Int.tmod_eq_emod_of_nonneg (show 0 ≤ ai % 65536 by omega)]; exact hi
  have hil : i < fs.length := by omega
  rw [hi] at hm1 hm2
  have hb1' : bits .and .i64 wi 65535 = wi % 65536 := and_ffff wi
  have hwr : 0 ≤ wi % 65536 := by omega
  have hwr2 : 0 ≤ wi % 65536 % 14 ∧ wi % 65536 % 14 < 14 := by omega
  have hfi : fs[i]? = some fs[i] := List.getElem?_eq_getElem hil
  obtain ⟨bq, oq, eq, _, hat⟩ := (hTM.own.sl_at hil)
  simp only [Option.some.injEq, Addr.mk.injEq, and_true] at eq
  obtain ⟨rfl, rfl⟩ := eq
  have hfok := HOK.out fs[i] (List.getElem_mem hil)
  have hfd := HFD.out fs[i] (List.getElem_mem hil)
  generalize hgf : fs[i] = f at *
  have y0 := hat 0 _ rfl; have y1 := hat 1 _ rfl; have y2 := hat 2 _ rfl; have y3 := hat 3 _ rfl; have y4 := hat 4 _ rfl; have y5 := hat 5 _ rfl; have y6 := hat 6 _ rfl; have y7 := hat 7 _ rfl; have y8 := hat 8 _ rfl
  simp only [Nat.zero_add, Nat.add_zero] at y0 y1 y2 y3 y4 y5 y6 y7 y8
  obtain ⟨fb', cap', e9, _, _, _, _, cur, hcur⟩ := hTM.own.row (by omega)
  simp only [Value.slice.injEq, Option.some.injEq, Addr.mk.injEq, and_true, true_and] at e9
  obtain ⟨rfl, rfl⟩ := e9
  have hfz : ∀ o, (w1.alloc (.cells #[.slice (some ⟨zb, 0, none⟩) 3 3, .slice (some ⟨ab, 0, none⟩) 3 3, .slice (some ⟨fb, 0, none⟩) fs.length cap] 26)).frozen? ⟨fb, o, none⟩ = false := fun o => block_free hcur o
  have HTM := Lib.hid hTM; have HFI := Lib.hid hfi; have HFOK := Lib.hid hfok
  have HZ0 := Lib.hid hz0; have HZ1 := Lib.hid hz1; have HZ2 := Lib.hid hz2; have HA0 := Lib.hid ha0
  have x0 : (w1.alloc (.cells #[.slice (some ⟨zb, 0, none⟩) 3 3, .slice (some ⟨ab, 0, none⟩) 3 3, .slice (some ⟨fb, 0, none⟩) fs.length cap] 26)).cell? ⟨w1.heap.size, 0, none⟩ = some (.slice (some ⟨zb, 0, none⟩) 3 3) := block_cell hTM.box 0
  have x1 : (w1.alloc (.cells #[.slice (some ⟨zb, 0, none⟩) 3 3, .slice (some ⟨ab, 0, none⟩) 3 3, .slice (some ⟨fb, 0, none⟩) fs.length cap] 26)).cell? ⟨w1.heap.size, 1, none⟩ = some (.slice (some ⟨ab, 0, none⟩) 3 3) := block_cell hTM.box 1
  have x2 : (w1.alloc (.cells #[.slice (some ⟨zb, 0, none⟩) 3 3, .slice (some ⟨ab, 0, none⟩) 3 3, .slice (some ⟨fb, 0, none⟩) fs.length cap] 26)).cell? ⟨w1.heap.size, 2, none⟩ = some (.slice (some ⟨fb, 0, none⟩) fs.length cap) := block_cell hTM.box 2
  clear hTM hfi hfok hz0 hz1 hz2 ha0 hat hcur hgf
  go_upto_block 0 with (fail)
  generalize w1.alloc (.cells #[.slice (some ⟨zb, 0, none⟩) 3 3, .slice (some ⟨ab, 0, none⟩) 3 3, .slice (some ⟨fb, 0, none⟩) fs.length cap] 26) = W at *
  generalize w1.heap.size = g at *
  go_cut [] (fun wx => SpoiltOk w g wx)
  case first =>
    clear hi hm3 ha1 hl0 hm2 hm1
    generalize wi % 65536 % 14 = kk at *
    have hkk : kk = 0 ∨ kk = 1 ∨ kk = 2 ∨ kk = 3 ∨ kk = 4 ∨ kk = 5 ∨ kk = 6 ∨ kk = 7 ∨ kk = 8 ∨ kk = 9 ∨ kk = 10 ∨ kk = 11 ∨ kk = 12 ∨ kk = 13 := by omega
    clear hwr2
    rcases hkk with rfl | rfl | rfl | rfl | rfl | rfl | rfl | rfl | rfl | rfl | rfl | rfl | rfl | rfl
    · go_wp2_with fail
      go_meet
      exact (HTM.out.setF rfl (j := 0) (f' := { f with number := s }) HFI.out (by decide) rfl rfl).spoilt baseZD_ok baseAD_ok (ok_set HOK.out (by obtain ⟨h1, h2, h3, h4, h5, h6, h7, h8, h9⟩ := HFOK.out; exact ⟨HSZ.out, h2, h3, h4, h5, h6, h7, h8, h9⟩))
    · go_wp2_with fail
      go_meet
      exact (HTM.out.setF rfl (j := 1) (f' := { f with src := s }) HFI.out (by decide) rfl rfl).spoilt baseZD_ok baseAD_ok (ok_set HOK.out (by obtain ⟨h1, h2, h3, h4, h5, h6, h7, h8, h9⟩ := HFOK.out; exact ⟨h1, HSZ.out, h3, h4, h5, h6, h7, h8, h9⟩))
    · go_wp2_with fail
      go_meet
      exact (HTM.out.setF rfl (j := 2) (f' := { f with dst := f.src }) HFI.out (by decide) rfl rfl).spoilt baseZD_ok baseAD_ok (ok_set HOK.out (by obtain ⟨h1, h2, h3, h4, h5, h6, h7, h8, h9⟩ := HFOK.out; exact ⟨h1, h2, h2, h4, h5, h6, h7, h8, h9⟩))
    · go_wp2_with fail
      go_meet
      exact (HTM.out.setF rfl (j := 3) (f' := { f with dep := x }) HFI.out (by decide) rfl rfl).spoilt baseZD_ok baseAD_ok (ok_set HOK.out (by obtain ⟨h1, h2, h3, h4, h5, h6, h7, h8, h9⟩ := HFOK.out; exact ⟨h1, h2, h3, h4, HXI.out, h6, h7, h8, h9⟩))
    · have hb4 : bits .and .i64 x 4095 = x % 4096 := and_fff x
      have hb5 : 0 ≤ x % 4096 ∧ x % 4096 < 4096 := by omega
      go_wp2_with fail
      go_meet
      exact (HTM.out.setF rfl (j := 4) (f' := { f with arr := f.dep + x % 4096 }) HFI.out (by decide) rfl rfl).spoilt baseZD_ok baseAD_ok (ok_set HOK.out (by obtain ⟨h1, h2, h3, h4, h5, h6, h7, h8, h9⟩ := HFOK.out; exact ⟨h1, h2, h3, h4, h5, ⟨by show _ ≤ f.dep + x % 4096; omega, by show f.dep + x % 4096 ≤ _; omega⟩, h7, h8, h9⟩))
    · go_wp2_with fail
      go_meet
      exact (HTM.out.setF rfl (j := 5) (f' := { f with kind := s }) HFI.out (by decide) rfl rfl).spoilt baseZD_ok baseAD_ok (ok_set HOK.out (by obtain ⟨h1, h2, h3, h4, h5, h6, h7, h8, h9⟩ := HFOK.out; exact ⟨h1, h2, h3, HSZ.out, h5, h6, h7, h8, h9⟩))
    · have hb4 : bits .and .i64 x 65535 = x % 65536 := and_ffff x
      have hb5 : 0 ≤ x % 65536 := by omega
      have hxq : -9223372036854775808 ≤ x / 16 ∧ x / 16 ≤ 9223372036854775807 := by obtain ⟨h1, h2⟩ := HXI.out; omega
      have hr3 : x % 65536 % 3 = 0 ∨ x % 65536 % 3 = 1 ∨ x % 65536 % 3 = 2 := by omega
      rcases hr3 with hr | hr | hr
      · go_wp2_with fail
        go_meet
        exact (HTM.out.setF rfl (j := 6) (f' := { f with n0 := x / 16 }) HFI.out (by decide) rfl rfl).spoilt baseZD_ok baseAD_ok (ok_set HOK.out (by obtain ⟨h1, h2, h3, h4, h5, h6, h7, h8, h9⟩ := HFOK.out; exact ⟨h1, h2, h3, h4, h5, h6, hxq, h8, h9⟩))
      · go_wp2_with fail
        go_meet
        exact (HTM.out.setF rfl (j := 7) (f' := { f with n1 := x / 16 }) HFI.out (by decide) rfl rfl).spoilt baseZD_ok baseAD_ok (ok_set HOK.out (by obtain ⟨h1, h2, h3, h4, h5, h6, h7, h8, h9⟩ := HFOK.out; exact ⟨h1, h2, h3, h4, h5, h6, h7, hxq, h9⟩))
      · go_wp2_with fail
        go_meet
        exact (HTM.out.setF rfl (j := 8) (f' := { f with n2 := x / 16 }) HFI.out (by decide) rfl rfl).spoilt baseZD_ok baseAD_ok (ok_set HOK.out (by obtain ⟨h1, h2, h3, h4, h5, h6, h7, h8, h9⟩ := HFOK.out; exact ⟨h1, h2, h3, h4, h5, h6, h7, h8, hxq⟩))
    · obtain ⟨bq, oq, eq, _, hat0⟩ := HTM.out.own.sl_at (i := 0) (by omega)
      simp only [Option.some.injEq, Addr.mk.injEq, and_true] at eq
      obtain ⟨rfl, rfl⟩ := eq
      have hf0 := HOK.out fs[0] (List.getElem_mem (by omega))
      generalize fs[0] = f0 at *
      have v0 := hat0 0 _ rfl; have v1 := hat0 1 _ rfl; have v2 := hat0 2 _ rfl; have v3 := hat0 3 _ rfl; have v4 := hat0 4 _ rfl; have v5 := hat0 5 _ rfl; have v6 := hat0 6 _ rfl; have v7 := hat0 7 _ rfl; have v8 := hat0 8 _ rfl
      simp only [Nat.zero_mul, Nat.zero_add, Nat.add_zero] at v0 v1 v2 v3 v4 v5 v6 v7 v8
      have h0l : 0 < fs.length := by omega
      have HF0 := Lib.hid hf0
      clear hat0 hf0
      go_wp2_with fail
      refine wp_region_still_tail 8 (by kernel_rfl) (by kernel_rfl) ?_
      simp only [List.take_succ_cons, List.take_zero, List.drop_succ_cons, List.drop_zero]
      change wpStill _ _ W.drew (fun a' => wpList _ _ _ _ a' W.drew) _ _
      repeat still_step
      refine wpStill_nil ?_
      go_wp2_with fail
      go_meet
      exact (HTM.out.setF9 rfl (f' := f0) HFI.out).drew.spoilt baseZD_ok baseAD_ok (ok_set HOK.out HF0.out)
    · have hr3 : (i : Int) % 3 = 0 ∨ (i : Int) % 3 = 1 ∨ (i : Int) % 3 = 2 := by omega
      have hi0 : (0 : Int) ≤ (i : Int) := by omega
      rcases hr3 with hr | hr | hr
      · have c0 := block_cell HA0.out 0
        have c1 := block_free HA0.out 0
        simp only [AData.arr] at c0
        simp at c0
        go_wp2_with fail
        go_meet
        exact (HTM.out.setA (o := 0) (a' := { baseAD with c0 := s }) rfl hSa HA0.out rfl).spoilt baseZD_ok (by obtain ⟨⟨h1, h2, h3⟩, h4, h5, h6⟩ := baseAD_ok; exact ⟨⟨HSZ.out, h2, h3⟩, h4, h5, h6⟩) HOK.out
      · have c0 := block_cell HA0.out 2
        have c1 := block_free HA0.out 2
        simp only [AData.arr] at c0
        simp at c0
        go_wp2_with fail
        go_meet
        exact (HTM.out.setA (o := 2) (a' := { baseAD with c1 := s }) rfl hSa HA0.out rfl).spoilt baseZD_ok (by obtain ⟨⟨h1, h2, h3⟩, h4, h5, h6⟩ := baseAD_ok; exact ⟨⟨h1, HSZ.out, h3⟩, h4, h5, h6⟩) HOK.out
      · have c0 := block_cell HA0.out 4
        have c1 := block_free HA0.out 4
        simp only [AData.arr] at c0
        simp at c0
        go_wp2_with fail
        go_meet
        exact (HTM.out.setA (o := 4) (a' := { baseAD with c2 := s }) rfl hSa HA0.out rfl).spoilt baseZD_ok (by obtain ⟨⟨h1, h2, h3⟩, h4, h5, h6⟩ := baseAD_ok; exact ⟨⟨h1, h2, HSZ.out⟩, h4, h5, h6⟩) HOK.out
    · have hr3 : (i : Int) % 3 = 0 ∨ (i : Int) % 3 = 1 ∨ (i : Int) % 3 = 2 := by omega
      have hi0 : (0 : Int) ≤ (i : Int) := by omega
      rcases hr3 with hr | hr | hr
      · have c0 := block_cell HA0.out 1
        have c1 := block_free HA0.out 1
        simp only [AData.arr] at c0
        simp at c0
        go_wp2_with fail
        go_meet
        exact (HTM.out.setA (o := 1) (a' := { baseAD with z0 := s }) rfl hSa HA0.out rfl).spoilt baseZD_ok (by obtain ⟨⟨h1, h2, h3⟩, h4, h5, h6⟩ := baseAD_ok; exact ⟨⟨h1, h2, h3⟩, HSZ.out, h5, h6⟩) HOK.out
      · have c0 := block_cell HA0.out 3
        have c1 := block_free HA0.out 3
        simp only [AData.arr] at c0
        simp at c0
        go_wp2_with fail
        go_meet
        exact (HTM.out.setA (o := 3) (a' := { baseAD with z1 := s }) rfl hSa HA0.out rfl).spoilt baseZD_ok (by obtain ⟨⟨h1, h2, h3⟩, h4, h5, h6⟩ := baseAD_ok; exact ⟨⟨h1, h2, h3⟩, h4, HSZ.out, h6⟩) HOK.out
      · have c0 := block_cell HA0.out 5
        have c1 := block_free HA0.out 5
        simp only [AData.arr] at c0
        simp at c0
        go_wp2_with fail
        go_meet
        exact (HTM.out.setA (o := 5) (a' := { baseAD with z2 := s }) rfl hSa HA0.out rfl).spoilt baseZD_ok (by obtain ⟨⟨h1, h2, h3⟩, h4, h5, h6⟩ := baseAD_ok; exact ⟨⟨h1, h2, h3⟩, h4, h5, HSZ.out⟩) HOK.out
    · have hr3 : (i : Int) % 3 = 0 ∨ (i : Int) % 3 = 1 ∨ (i : Int) % 3 = 2 := by omega
      have hi0 : (0 : Int) ≤ (i : Int) := by omega
      rcases hr3 with hr | hr | hr
      · have c0 := block_cell HZ0.out 0
        have c1 := block_free HZ0.out 0
        simp only [ZData.arr] at c0
        simp at c0
        go_wp2_with fail
        go_meet
        exact (HTM.out.setZ (o := 0) (z' := { baseZD with n0 := s }) rfl hSz hS1 hS2 hd HZ0.out HZ1.out HZ2.out rfl rfl rfl).spoilt (by obtain ⟨⟨h1, h2, h3⟩, ⟨h4, h5, h6⟩, h7⟩ := baseZD_ok; exact ⟨⟨HSZ.out, h2, h3⟩, ⟨h4, h5, h6⟩, h7⟩) baseAD_ok HOK.out
      · have c0 := block_cell HZ0.out 3
        have c1 := block_free HZ0.out 3
        simp only [ZData.arr] at c0
        simp at c0
        go_wp2_with fail
        go_meet
        exact (HTM.out.setZ (o := 3) (z' := { baseZD with n1 := s }) rfl hSz hS1 hS2 hd HZ0.out HZ1.out HZ2.out rfl rfl rfl).spoilt (by obtain ⟨⟨h1, h2, h3⟩, ⟨h4, h5, h6⟩, h7⟩ := baseZD_ok; exact ⟨⟨h1, HSZ.out, h3⟩, ⟨h4, h5, h6⟩, h7⟩) baseAD_ok HOK.out
      · have c0 := block_cell HZ0.out 6
        have c1 := block_free HZ0.out 6
        simp only [ZData.arr] at c0
        simp at c0
        go_wp2_with fail
        go_meet
        exact (HTM.out.setZ (o := 6) (z' := { baseZD with n2 := s }) rfl hSz hS1 hS2 hd HZ0.out HZ1.out HZ2.out rfl rfl rfl).spoilt (by obtain ⟨⟨h1, h2, h3⟩, ⟨h4, h5, h6⟩, h7⟩ := baseZD_ok; exact ⟨⟨h1, h2, HSZ.out⟩, ⟨h4, h5, h6⟩, h7⟩) baseAD_ok HOK.out
    · have hr3 : (i : Int) % 3 = 0 ∨ (i : Int) % 3 = 1 ∨ (i : Int) % 3 = 2 := by omega
      have hi0 : (0 : Int) ≤ (i : Int) := by omega
      rcases hr3 with hr | hr | hr
      · have c0 := block_cell HZ0.out 1
        have c1 := block_free HZ0.out 1
        simp only [ZData.arr] at c0
        simp at c0
        go_wp2_with fail
        go_meet
        exact (HTM.out.setZ (o := 1) (z' := { baseZD with o0 := x }) rfl hSz hS1 hS2 hd HZ0.out HZ1.out HZ2.out rfl rfl rfl).spoilt (by obtain ⟨⟨h1, h2, h3⟩, ⟨h4, h5, h6⟩, h7⟩ := baseZD_ok; exact ⟨⟨h1, h2, h3⟩, ⟨HXI.out, h5, h6⟩, h7⟩) baseAD_ok HOK.out
      · have c0 := block_cell HZ0.out 4
        have c1 := block_free HZ0.out 4
        simp only [ZData.arr] at c0
        simp at c0
        go_wp2_with fail
        go_meet
        exact (HTM.out.setZ (o := 4) (z' := { baseZD with o1 := x }) rfl hSz hS1 hS2 hd HZ0.out HZ1.out HZ2.out rfl rfl rfl).spoilt (by obtain ⟨⟨h1, h2, h3⟩, ⟨h4, h5, h6⟩, h7⟩ := baseZD_ok; exact ⟨⟨h1, h2, h3⟩, ⟨h4, HXI.out, h6⟩, h7⟩) baseAD_ok HOK.out
      · have c0 := block_cell HZ0.out 7
        have c1 := block_free HZ0.out 7
        simp only [ZData.arr] at c0
        simp at c0
        go_wp2_with fail
        go_meet
        exact (HTM.out.setZ (o := 7) (z' := { baseZD with o2 := x }) rfl hSz hS1 hS2 hd HZ0.out HZ1.out HZ2.out rfl rfl rfl).spoilt (by obtain ⟨⟨h1, h2, h3⟩, ⟨h4, h5, h6⟩, h7⟩ := baseZD_ok; exact ⟨⟨h1, h2, h3⟩, ⟨h4, h5, HXI.out⟩, h7⟩) baseAD_ok HOK.out
    · have hr3 : (i : Int) % 2 = 0 ∨ (i : Int) % 2 = 1 := by omega
      have hi0 : (0 : Int) ≤ (i : Int) := by omega
      have d0 : W.cell? ⟨zb, 5, none⟩ = some (.slice (some ⟨s1, 0, none⟩) 2 2) := block_cell HZ0.out 5
      rcases hr3 with hr | hr
      · have c0 := block_cell HZ1.out 0
        have c1 := block_free HZ1.out 0
        simp only [ZData.arr1] at c0
        simp at c0
        go_wp2_with fail
        go_meet
        exact (HTM.out.setS (o := 0) (z' := { baseZD with a := x }) rfl hSz hS1 hS2 hd HZ0.out HZ1.out HZ2.out rfl rfl rfl).spoilt (by obtain ⟨h1, h2, h7, h8, h9, h10, h11, h12⟩ := baseZD_ok; exact ⟨h1, h2, HXI.out, h8, h9, h10, h11, h12⟩) baseAD_ok HOK.out
      · have c0 := block_cell HZ1.out 2
        have c1 := block_free HZ1.out 2
        simp only [ZData.arr1] at c0
        simp at c0
        go_wp2_with fail
        go_meet
        exact (HTM.out.setS (o := 2) (z' := { baseZD with c := x }) rfl hSz hS1 hS2 hd HZ0.out HZ1.out HZ2.out rfl rfl rfl).spoilt (by obtain ⟨h1, h2, h7, h8, h9, h10, h11, h12⟩ := baseZD_ok; exact ⟨h1, h2, h7, h8, HXI.out, h10, h11, h12⟩) baseAD_ok HOK.out
    · have d0 : W.cell? ⟨ab, 0, none⟩ = some (.string sAAA) := block_cell HA0.out 0
      have d1 : W.cell? ⟨ab, 1, none⟩ = some (.string sUtc) := block_cell HA0.out 1
      have hr3 : (i : Int) % 3 = 0 ∨ (i : Int) % 3 = 1 ∨ (i : Int) % 3 = 2 := by omega
      have hi0 : (0 : Int) ≤ (i : Int) := by omega
      rcases hr3 with hr | hr | hr
      · have c0 := block_cell HA0.out 0
        have c1 := block_free HA0.out 0
        have hrt : (i : Int).tmod 3 = 0 := by rw [Int.tmod_eq_emod_of_nonneg hi0]; exact hr
        have c2 := block_cell HA0.out 1
        have c3 := block_free HA0.out 1
        simp only [AData.arr] at c0 c2
        simp at c0 c2
        go_wp2_with fail
        refine wp_region_still_tail 9 (by kernel_rfl) (by kernel_rfl) ?_
        simp only [List.take_succ_cons, List.take_zero, List.drop_succ_cons, List.drop_zero]
        change wpStill _ _ W.drew (fun a' => wpList _ _ _ _ a' W.drew) _ _
        repeat still_step
        refine wpStill_nil ?_
        go_wp2_with fail
        go_meet
        have t1 := HTM.out.setA (o := 0) (u := .string sAAA) (a' := { baseAD with c0 := sAAA }) rfl hSa HA0.out rfl
        exact (t1.setA (o := 1) (u := .string sUtc) (a' := { baseAD with c0 := sAAA, z0 := sUtc }) rfl hSa (heap_setCell_same _ _ _ _ _ _ HA0.out) rfl).drew.spoilt baseZD_ok (by obtain ⟨⟨h1, h2, h3⟩, h4, h5, h6⟩ := baseAD_ok; exact ⟨⟨h1, h2, h3⟩, h4, h5, h6⟩) HOK.out
      · have c0 := block_cell HA0.out 2
        have c1 := block_free HA0.out 2
        have hrt : (i : Int).tmod 3 = 1 := by rw [Int.tmod_eq_emod_of_nonneg hi0]; exact hr
        have c2 := block_cell HA0.out 3
        have c3 := block_free HA0.out 3
        simp only [AData.arr] at c0 c2
        simp at c0 c2
        go_wp2_with fail
        refine wp_region_still_tail 9 (by kernel_rfl) (by kernel_rfl) ?_
        simp only [List.take_succ_cons, List.take_zero, List.drop_succ_cons, List.drop_zero]
        change wpStill _ _ W.drew (fun a' => wpList _ _ _ _ a' W.drew) _ _
        repeat still_step
        refine wpStill_nil ?_
        go_wp2_with fail
        go_meet
        have t1 := HTM.out.setA (o := 2) (u := .string sAAA) (a' := { baseAD with c1 := sAAA }) rfl hSa HA0.out rfl
        exact (t1.setA (o := 3) (u := .string sUtc) (a' := { baseAD with c1 := sAAA, z1 := sUtc }) rfl hSa (heap_setCell_same _ _ _ _ _ _ HA0.out) rfl).drew.spoilt baseZD_ok (by obtain ⟨⟨h1, h2, h3⟩, h4, h5, h6⟩ := baseAD_ok; exact ⟨⟨h1, h1, h3⟩, h4, h4, h6⟩) HOK.out
      · have c0 := block_cell HA0.out 4
        have c1 := block_free HA0.out 4
        have hrt : (i : Int).tmod 3 = 2 := by rw [Int.tmod_eq_emod_of_nonneg hi0]; exact hr
        have c2 := block_cell HA0.out 5
        have c3 := block_free HA0.out 5
        simp only [AData.arr] at c0 c2
        simp at c0 c2
        go_wp2_with fail
        refine wp_region_still_tail 9 (by kernel_rfl) (by kernel_rfl) ?_
        simp only [List.take_succ_cons, List.take_zero, List.drop_succ_cons, List.drop_zero]
        change wpStill _ _ W.drew (fun a' => wpList _ _ _ _ a' W.drew) _ _
        repeat still_step
        refine wpStill_nil ?_
        go_wp2_with fail
        go_meet
        have t1 := HTM.out.setA (o := 4) (u := .string sAAA) (a' := { baseAD with c2 := sAAA }) rfl hSa HA0.out rfl
        exact (t1.setA (o := 5) (u := .string sUtc) (a' := { baseAD with c2 := sAAA, z2 := sUtc }) rfl hSa (heap_setCell_same _ _ _ _ _ _ HA0.out) rfl).drew.spoilt baseZD_ok (by obtain ⟨⟨h1, h2, h3⟩, h4, h5, h6⟩ := baseAD_ok; exact ⟨⟨h1, h2, h1⟩, h4, h5, h4⟩) HOK.out
  case rest =>
    obtain ⟨A1, n1, c1, A2, n2, c2, A3, n3, c3, t, hok, hbox, hs1, hs2, hs3, hbw⟩ := hcut
    have hg : g < wc.heap.size := (Array.getElem?_eq_some_iff.1 hbox).1
    have HOK' := Lib.hid hok
    have HS : Hid (∀ V, Below wc.heap.size wc V → Sl Ty.zone V (all_ V) A1 n1 c1 t.zones ∧ Sl Ty.airport V (all_ V) A2 n2 c2 t.airports ∧ Sl Ty.flight V (all_ V) A3 n3 c3 t.flights) := fun V hV => ⟨hs1.next hV, hs2.next hV, hs3.next hV⟩
    have x0 : wc.cell? ⟨g, 0, none⟩ = some (.slice A1 n1 c1) := block_cell hbox 0
    have x1 : wc.cell? ⟨g, 1, none⟩ = some (.slice A2 n2 c2) := block_cell hbox 1
    have x2 : wc.cell? ⟨g, 2, none⟩ = some (.slice A3 n3 c3) := block_cell hbox 2
    have HW1 : Hid (∀ q, Below wc.heap.size wc (wc.drewN q)) := fun q => below_drewN (Below.refl _ _) q
    have HBW := Lib.hid hbw
    clear hs1 hs2 hs3 hok hbox hbw
    go_wp2_with fail
    have heq : (ttE t == ttE t) = true := by simp
    go_region_law (first
      | (go_simp; go_at_call 11; refine (validate_any t A1 A2 A3 n1 n2 n3 c1 c2 c3 _ HOK'.out (HS.out _ (HW1.out 1)).1 (HS.out _ (HW1.out 1)).2.1 (HS.out _ (HW1.out 1)).2.2).mono ?_; rintro e w2 ⟨rfl, hb2⟩; have hw2 : Below wc.heap.size wc w2 := (HW1.out 1).trans (hb2.mono (HW1.out 1).size); have x0' : w2.cell? ⟨g, 0, none⟩ = some (.slice A1 n1 c1) := (hb2.cell (by show g < _; simpa using hg)).trans x0; have x1' : w2.cell? ⟨g, 1, none⟩ = some (.slice A2 n2 c2) := (hb2.cell (by show g < _; simpa using hg)).trans x1; have x2' : w2.cell? ⟨g, 2, none⟩ = some (.slice A3 n3 c3) := (hb2.cell (by show g < _; simpa using hg)).trans x2)
      | (go_simp; go_at_call 12; refine (validateR_any t A1 A2 A3 n1 n2 n3 c1 c2 c3 _ HOK'.out (HS.out _ hw2).1 (HS.out _ hw2).2.1 (HS.out _ hw2).2.2).mono ?_; rintro e w3 ⟨rfl, hb3⟩; have hw3 : Below wc.heap.size wc w3 := hw2.trans (hb3.mono hw2.size))
      | (go_simp; go_at_call 10; refine (awake_any _).mono ?_; rintro e w4 ⟨rfl, hb4⟩; have hw4 : Below wc.heap.size wc w4 := hw3.trans (hb4.mono hw3.size))
      | fail)
    all_goals
      go_wp2_with fail
      go_ret
      exact ⟨rfl, HBW.out.trans (hw4.mono HBW.out.size)⟩
end Go.Proofs.Ytldeoaddogifpaa
