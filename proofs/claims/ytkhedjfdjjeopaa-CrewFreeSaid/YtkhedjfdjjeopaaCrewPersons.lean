/-
  Contract of pairinglaw10.Persons: a new crew of at most five persons, each one's lists apart.
  No condition but that the list reads as integers.
-/
import Derived.Test.YtkhedjfdjjeopaaCrewMem
import Derived.Test.YtkhedjfdjjeopaaBaseAt
import Derived.Test.YtkhedjfdjjeopaaRegion
import Derived.Deep.DeepCutAuto
namespace Go.Proofs.Ytkhedjfdjjeopaa
set_option linter.unusedSimpArgs false
set_option linter.unusedVariables false
open Go.RowKit

def typCells : Array Value := #[.string ⟨#[97, 51, 50, 48]⟩, .string ⟨#[98, 55, 51, 55]⟩, .string ⟨#[101, 49, 57, 48]⟩]
def chS (i : Nat) : ByteArray := ⟨#[UInt8.ofNat (97 + i)]⟩
def pNm (i : Nat) : ByteArray := ⟨#[112, UInt8.ofNat (97 + i)]⟩
theorem pNm_eq (i : Nat) : Value.string (⟨#[112]⟩ ++ chS i) = .string (pNm i) := rfl
def bC (k : Int) : ByteArray := baseCodes.getD k.toNat noStr
theorem ch_conv (w : World) (b i : Nat) (h : w.cell? ⟨b, 0, none⟩ = some (.int .u8 (97 + i))) : (convert 45 9 (.slice (some ⟨b, 0, none⟩) 1 1)).run Try.prog w = .ok (.string (chS i)) w := by
  have hs : Sl (Ty.int .u8) w (fun _ => True) (some ⟨b, 0, none⟩) 1 1 [97 + (i : Int)] := by
    refine ⟨rfl, Nat.le_refl _, by decide, fun _ => ⟨b, 0, rfl, trivial, fun j x hj => ⟨_, rfl, fun k u hu => ?_⟩⟩⟩
    rcases j with _ | j
    · rcases k with _ | k
      · simp at hj hu
        subst hj hu
        simpa using h
      · simp at hu
    · simp at hj
  have := run_string_of (P := Try.prog) (src := 45) (dst := 9) Try.underlying45 Try.underlying5 Try.underlying9 hs (by simp)
  rw [this]
  have e : (97 + (i : Int)).toNat = 97 + i := by omega
  simp [strOf, bs, e, chS]
/-- What each operation of the person's region leaves in its slot. -/
def regP (k : Nat) (nn : Int) (H : Nat) : Nat → Value → World → Prop
  | 0, v, _ => v = .int .i64 k
  | 1, v, _ => v = .int .i64 (10 * k)
  | 2, v, _ => v = .int .i64 (10 * k + 1)
  | 3, v, _ => v = .int .i64 nn
  | 4, v, _ => v = .int .i64 (nn % 9)
  | 5, v, _ => v = .int .i64 (10 * k + 1 + nn % 9)
  | 6, v, _ => v = .int .i64 k
  | 7, v, _ => v = .int .i64 (97 + k)
  | 8, v, _ => v = .int .u8 (97 + k)
  | 9, v, w => ∃ b, v = .slice (some ⟨b, 0, none⟩) 1 1 ∧ w.cell? ⟨b, 0, none⟩ = some (.int .u8 (97 + k))
  | 10, v, _ => v = .string (chS k)
  | 11, v, _ => v = .string (pNm k)
  | 12, v, w => ∃ A n c, v = .slice A n c ∧ Sl Ty.str w (all_ w) A n c baseCodes
  | 13, v, _ => v = .int .i64 nn
  | 14, v, _ => v = .int .i64 (nn / 4)
  | 15, v, _ => v = .int .i64 (nn / 4 % 2)
  | 16, v, w => ∃ b o, v = .pointer (some ⟨b, o, none⟩) ∧ w.cell? ⟨b, o, none⟩ = some (.string (bC (nn / 4 % 2)))
  | 17, v, _ => v = .string (bC (nn / 4 % 2))
  | 18, v, _ => v = .int .i64 nn
  | 19, v, _ => v = .int .i64 (nn / 8)
  | 20, v, _ => v = .int .i64 (nn / 8 % 3)
  | 21, v, _ => v = .int .i64 k
  | 22, v, _ => v = .int .i64 (7 * k)
  | 23, v, _ => v = .int .i64 (100 - 7 * k)
  | 24, v, _ => v = .agg #[.int .i64 (10 * k + 1 + nn % 9), .string (pNm k), .string (bC (nn / 4 % 2)), .int .i64 (nn / 8 % 3), .int .i64 (100 - 7 * k), .slice none 0 0, .slice none 0 0]
  | 25, v, w => ∃ b, v = .pointer (some ⟨b, 0, none⟩) ∧ H ≤ b ∧ w.heap[b]? = some (.cells #[.int .i64 0, .string ⟨#[]⟩, .string ⟨#[]⟩, .int .i64 0, .int .i64 0, .slice none 0 0, .slice none 0 0] 40 (0, 0))
  | _, _, _ => True
theorem regP_keep {k : Nat} {nn : Int} {H : Nat} : ∀ (i : Nat) (v : Value) (w w' : World), regP k nn H i v w → Below w.heap.size w w' → regP k nn H i v w' := by
  intro i v w w' h hb
  unfold regP at h ⊢
  split at h <;> try exact h
  · obtain ⟨b, e, hc⟩ := h; exact ⟨b, e, cell_kept hc hb⟩
  · obtain ⟨A, n, c, e, hs⟩ := h; exact ⟨A, n, c, e, hs.next hb⟩
  · obtain ⟨b, o, e, hc⟩ := h; exact ⟨b, o, e, cell_kept hc hb⟩
  · obtain ⟨b, e, hH, hc⟩ := h; exact ⟨b, e, hH, (hb.block b (Array.getElem?_eq_some_iff.1 hc).1).trans hc⟩
theorem person_info : (Try.prog.info? 40).map (·.size) = some 7 := by kernel_rfl
theorem below_setRow {w0 w : World} {B b : Nat} {cs : Array Value} (h : Below B w0 w) (hb : B ≤ b) : Below B w0 (w.setRow b cs) :=
  ⟨h.os, h.tape, h.output, by simpa using h.size, fun q hq => (setRow_other _ _ _ _ (by omega)).trans (h.block q hq)⟩
/-- A person's box in block pb; all else of wx is as it was. -/
structure PB (wx : World) (pb : Nat) (wr : World) (cs : Array Value) : Prop where
  p : wr.heap[pb]? = some (.cells cs 40 (0, 0))
  but : But pb wx wr
  lt : pb < wx.heap.size
section
variable {wx : World} {pb : Nat} {wr w6 : World} {cs : Array Value} {o : Obj} {row : Option Nat}
theorem PB.p6 (h : PB wx pb wr cs) {q : Nat} (hgr : ((wr.drewN q).alloc o).grownBy w6 row) (hrow : ∀ k, row = some k → wx.heap.size ≤ k) : w6.heap[pb]? = some (.cells cs 40 (0, 0)) := by
  have h1 := h.lt; have h2 := h.but.size
  rw [hgr.block pb (by simp; omega) (fun e => by have := hrow pb e.symm; omega), Below.heap_alloc _ _ _ (by simp; omega)]
  exact h.p
theorem PB.step (h : PB wx pb wr cs) {q : Nat} (hgr : ((wr.drewN q).alloc o).grownBy w6 row) (hrow : ∀ k, row = some k → wx.heap.size ≤ k) (j : Nat) (v' : Value) : PB wx pb (w6.setCell ⟨pb, j, none⟩ v') (cs.setIfInBounds j v') :=
  ⟨heap_setCell_same _ _ _ _ _ _ (h.p6 hgr hrow), (((h.but.drewN q).alloc o).grown hgr hrow).setCell j v', h.lt⟩
end
theorem typ_cell (k : Nat) (h : k < 3) : ∃ s : ByteArray, typCells[k]? = some (.string s) ∧ s.size ≤ 16 := by
  have : k = 0 ∨ k = 1 ∨ k = 2 := by omega
  rcases this with rfl | rfl | rfl <;> exact ⟨_, rfl, by decide⟩
/-- Well formed, with short lists. -/
def GPerson.okS (p : GPerson) : Prop := p.ok ∧ p.types.length ≤ 3 ∧ p.vacs.length ≤ 3
def PersonsPost (w : World) (e : Ending) (w' : World) : Prop := ∃ v ps, e = .returned v ∧ CrewMem w' v ps w.heap.size w'.heap.size ∧ (∀ p ∈ ps, p.okS) ∧ ps.length ≤ 6 ∧ Below w.heap.size w w'
theorem bC_size (k : Int) : (bC k).size ≤ 16 := by
  unfold bC baseCodes
  generalize k.toNat = n
  rcases n with _ | _ | _ | n <;> simp [noStr, sAAA, sBBB, sCCC, ByteArray.size]

set_option maxRecDepth 100000 in
set_option maxHeartbeats 1600000 in
theorem persons_any (l : List Int) (A : Option Addr) (n c : Nat) (w : World) (h : Sl (Ty.int .i64) w (all_ w) A n c l) :
    Calls Try.prog 12 #[.slice A n c] w (PersonsPost w) := by
  have HS : Hid (∀ V, Below w.heap.size w V → Sl (Ty.int .i64) V (all_ V) A n c l) := fun V hV => h.next hV
  have hb0 := (Below.refl w.heap.size w).alloc (Nat.le_refl _) (.cells typCells 9)
  have hr0 := heap_alloc_new w (.cells typCells 9)
  have hz0 : (w.alloc (.cells typCells 9)).heap.size = w.heap.size + 1 := by simp
  have HB0 := Lib.hid hb0; have HR0 := Lib.hid hr0; have HZ0 := Lib.hid hz0
  clear h hb0 hr0 hz0
  have HIN : Hid (∃ v ps, v = Value.slice none 0 0 ∧ CrewMem (w.alloc (.cells typCells 9)) v ps (w.heap.size + 1) (w.alloc (.cells typCells 9)).heap.size ∧ (∀ p ∈ ps, p.okS) ∧ ps.length ≤ 0 ∧ Below w.heap.size w (w.alloc (.cells typCells 9)) ∧ (w.alloc (.cells typCells 9)).heap[w.heap.size]? = some (.cells typCells 9)) :=
    ⟨_, [], rfl, CrewMem.nil _ (by have := HZ0.out; omega), fun _ h => (by cases h), Nat.le_refl _, HB0.out, HR0.out⟩
  clear HB0 HR0 HZ0
  unfold typCells at HIN
  go_enter Try.func12, Try.ntmps12
  go_wp2_with fail
  have hcr := atL_range l 0
  generalize w.alloc (.cells #[.string ⟨#[97, 51, 50, 48]⟩, .string ⟨#[98, 55, 51, 55]⟩, .string ⟨#[101, 49, 57, 48]⟩] 9) = W at *
  go_loopw [3, 5] (fun s3 s5 wr => ∃ (k : Nat) (ps : List GPerson), k ≤ 6 ∧ s5 = .int .i64 k ∧ CrewMem wr s3 ps (w.heap.size + 1) wr.heap.size ∧ (∀ p ∈ ps, p.okS) ∧ ps.length ≤ k ∧ Below w.heap.size w wr ∧ wr.heap[w.heap.size]? = some (.cells typCells 9)) (fun _ s5 _ => 6 - (intOf s5).toNat)
  case atStart =>
    obtain ⟨v, ps, rfl, h1, h2, h3, h4, h5⟩ := HIN.out
    exact ⟨0, ps, by omega, rfl, h1, h2, h3, h4, h5⟩
  case round =>
    obtain ⟨k, ps, hk, rfl, hcm, hok, hpl, hbel, hty⟩ := hrel
    clear HIN
    have HA1 := Lib.hid (at_any l A n c 0 wr (HS.out _ hbel) (by omega))
    have HCM := Lib.hid hcm; have HOK := Lib.hid hok; have HBE := Lib.hid hbel; have HTY := Lib.hid hty
    have hwl : w.heap.size < wr.heap.size := (Array.getElem?_eq_some_iff.1 hty).1
    clear hcm hok hbel hty
    go_wp2_with fail
    refine HA1.out.mono ?_
    rintro e w4 ⟨rfl, hb4⟩
    clear HA1
    have hs4 := hb4.size
    by_cases hlt : (k : Int) < atL l 0 % 6
    · have hk5 : k ≤ 5 := by omega
      have hw4 : Below w.heap.size w w4 := HBE.out.trans (hb4.mono (by omega))
      have HA2 := Lib.hid (at_any l A n c (1 + k) w4 (HS.out _ hw4) (by omega))
      have hrn := atL_range l (1 + k)
      have HCA : Hid ((1 : Int) + (k : Int) = ((1 + k : Nat) : Int)) := by show _ = _; omega
      go_wp2_with fail
      rw [HCA.out]
      refine HA2.out.mono ?_
      rintro e w5 ⟨rfl, hb5⟩
      clear HA2 HCA
      have hb45 : Below wr.heap.size wr w5 := hb4.trans (hb5.mono hs4)
      have hrn' : 0 ≤ atL l (1 + k) ∧ atL l (1 + k) ≤ 65544 := by omega
      generalize atL l (1 + k) = nn at *
      clear hb4 hb5 hw4 hrn hlt hs4
      have hs5 := hb45.size
      obtain ⟨hn0, hn1⟩ := hrn'
      go_upto_region 7 with (fail)
      go_cut [7] (fun s7 wx => ∃ pb, s7 = .pointer (some ⟨pb, 0, none⟩) ∧ w5.heap.size ≤ pb ∧ Below w5.heap.size w5 wx ∧ wx.heap[pb]? = some (.cells #[.int .i64 (10 * k + 1 + nn % 9), .string (pNm k), .string (bC (nn / 4 % 2)), .int .i64 (nn / 8 % 3), .int .i64 (100 - 7 * k), .slice none 0 0, .slice none 0 0] 40 (0, 0)))
      case first =>
        refine wp_region_facts 26 [22, 23, 24, 25, 26, 27, 28, 29, 30, 31, 32, 33, 34, 35, 36, 37, 38, 39, 40, 41, 42, 43, 44, 45, 46, 7] (regP k nn w5.heap.size) (by kernel_rfl) (by kernel_rfl) (by kernel_rfl) (by kernel_rfl) (by kernel_rfl) regP_keep ?_ ?_
        · intro q o hq ho a' w' hb' hout hpre K hK
          clear hcr HS HCM HOK HBE HTY hb45
          have hq' : q = 0 ∨ q = 1 ∨ q = 2 ∨ q = 3 ∨ q = 4 ∨ q = 5 ∨ q = 6 ∨ q = 7 ∨ q = 8 ∨ q = 9 ∨ q = 10 ∨ q = 11 ∨ q = 12 ∨ q = 13 ∨ q = 14 ∨ q = 15 ∨ q = 16 ∨ q = 17 ∨ q = 18 ∨ q = 19 ∨ q = 20 ∨ q = 21 ∨ q = 22 ∨ q = 23 ∨ q = 24 ∨ q = 25 := by omega
          rcases hq' with rfl | rfl | rfl | rfl | rfl | rfl | rfl | rfl | rfl | rfl | rfl | rfl | rfl | rfl | rfl | rfl | rfl | rfl | rfl | rfl | rfl | rfl | rfl | rfl | rfl | rfl
          · obtain rfl := Option.some.inj ho
            have e5 : a'.tmps[5]? = some (.int .i64 k) := hout 5 (by decide)
            go_simp
            exact hK (.int .i64 k) w' rfl (Below.refl _ _)
          · obtain rfl := Option.some.inj ho
            have p0 : a'.tmps.getD 22 undef = .int .i64 k := hpre ⟨0, .data⟩ (by simp) 22 rfl
            simp only [Array.getD_eq_getD_getElem?] at p0
            have q1 : IntKind.i64.wrap (10 * (k : Int)) = 10 * k := IntWalk.i64_in _ (by omega)
            go_simp
            exact hK (.int .i64 (10 * k)) w' rfl (Below.refl _ _)
          · obtain rfl := Option.some.inj ho
            have p1 : a'.tmps.getD 23 undef = .int .i64 (10 * k) := hpre ⟨1, .data⟩ (by simp) 23 rfl
            simp only [Array.getD_eq_getD_getElem?] at p1
            have q1 : IntKind.i64.wrap (10 * (k : Int) + 1) = 10 * k + 1 := IntWalk.i64_in _ (by omega)
            go_simp
            exact hK (.int .i64 (10 * k + 1)) w' rfl (Below.refl _ _)
          · obtain rfl := Option.some.inj ho
            have e6 : a'.tmps[6]? = some (.int .i64 nn) := hout 6 (by decide)
            go_simp
            exact hK (.int .i64 nn) w' rfl (Below.refl _ _)
          · obtain rfl := Option.some.inj ho
            have p3 : a'.tmps.getD 25 undef = .int .i64 nn := hpre ⟨3, .data⟩ (by simp) 25 rfl
            simp only [Array.getD_eq_getD_getElem?] at p3
            have q1 : nn.tmod 9 = nn % 9 := Int.tmod_eq_emod_of_nonneg (by omega)
            have q2 : IntKind.i64.wrap (nn % 9) = nn % 9 := IntWalk.i64_in _ (by omega)
            go_simp
            exact hK (.int .i64 (nn % 9)) w' rfl (Below.refl _ _)
          · obtain rfl := Option.some.inj ho
            have p2 : a'.tmps.getD 24 undef = .int .i64 (10 * k + 1) := hpre ⟨2, .data⟩ (by simp) 24 rfl
            simp only [Array.getD_eq_getD_getElem?] at p2
            have p4 : a'.tmps.getD 26 undef = .int .i64 (nn % 9) := hpre ⟨4, .data⟩ (by simp) 26 rfl
            simp only [Array.getD_eq_getD_getElem?] at p4
            have q1 : IntKind.i64.wrap (10 * (k : Int) + 1 + nn % 9) = 10 * k + 1 + nn % 9 := IntWalk.i64_in _ (by omega)
            go_simp
            exact hK (.int .i64 (10 * k + 1 + nn % 9)) w' rfl (Below.refl _ _)
          · obtain rfl := Option.some.inj ho
            have e5 : a'.tmps[5]? = some (.int .i64 k) := hout 5 (by decide)
            go_simp
            exact hK (.int .i64 k) w' rfl (Below.refl _ _)
          · obtain rfl := Option.some.inj ho
            have p6 : a'.tmps.getD 28 undef = .int .i64 k := hpre ⟨6, .data⟩ (by simp) 28 rfl
            simp only [Array.getD_eq_getD_getElem?] at p6
            have q1 : IntKind.i64.wrap (97 + (k : Int)) = 97 + k := IntWalk.i64_in _ (by omega)
            go_simp
            exact hK (.int .i64 (97 + k)) w' rfl (Below.refl _ _)
          · obtain rfl := Option.some.inj ho
            have p7 : a'.tmps.getD 29 undef = .int .i64 (97 + k) := hpre ⟨7, .data⟩ (by simp) 29 rfl
            simp only [Array.getD_eq_getD_getElem?] at p7
            have q1 : IntKind.u8.wrap (97 + (k : Int)) = 97 + k := by rw [IntKind.wrap_u8]; omega
            have q2 : (97 + (k : Int)) % 256 = 97 + k := by omega
            go_simp
            exact hK (.int .u8 (97 + k)) w' rfl (Below.refl _ _)
          · obtain rfl := Option.some.inj ho
            have p8 : a'.tmps.getD 30 undef = .int .u8 (97 + k) := hpre ⟨8, .data⟩ (by simp) 30 rfl
            simp only [Array.getD_eq_getD_getElem?] at p8
            go_simp
            exact hK _ _ ⟨w'.heap.size, rfl, by simp⟩ ((Below.refl _ _).alloc (Nat.le_refl _) _)
          · obtain rfl := Option.some.inj ho
            have p9 := hpre ⟨9, .data⟩ (by simp) 31 rfl
            simp only [Array.getD_eq_getD_getElem?] at p9
            obtain ⟨b3, p9, hc3⟩ := p9
            have hcv := ch_conv w' b3 k hc3
            go_simp
            exact hK _ _ rfl (Below.refl _ _)
          · obtain rfl := Option.some.inj ho
            have p10 : a'.tmps.getD 32 undef = .string (chS k) := hpre ⟨10, .data⟩ (by simp) 32 rfl
            simp only [Array.getD_eq_getD_getElem?] at p10
            go_simp
            exact hK _ _ (pNm_eq k) (Below.refl _ _)
          · obtain rfl := Option.some.inj ho
            go_simp
            go_at_call 27
            refine (codes_any w').mono ?_
            rintro e w'' ⟨A1, n1, c1, rfl, hs1, hb1⟩
            exact hK _ _ ⟨A1, n1, c1, rfl, hs1.more fun b hb => hb.2⟩ hb1
          · obtain rfl := Option.some.inj ho
            have e6 : a'.tmps[6]? = some (.int .i64 nn) := hout 6 (by decide)
            go_simp
            exact hK (.int .i64 nn) w' rfl (Below.refl _ _)
          · obtain rfl := Option.some.inj ho
            have p13 : a'.tmps.getD 35 undef = .int .i64 nn := hpre ⟨13, .data⟩ (by simp) 35 rfl
            simp only [Array.getD_eq_getD_getElem?] at p13
            go_simp
            exact hK _ _ rfl (Below.refl _ _)
          · obtain rfl := Option.some.inj ho
            have p14 : a'.tmps.getD 36 undef = .int .i64 (nn / 4) := hpre ⟨14, .data⟩ (by simp) 36 rfl
            simp only [Array.getD_eq_getD_getElem?] at p14
            have q1 : (nn / 4).tmod 2 = nn / 4 % 2 := Int.tmod_eq_emod_of_nonneg (by omega)
            have q2 : IntKind.i64.wrap (nn / 4 % 2) = nn / 4 % 2 := IntWalk.i64_in _ (by omega)
            go_simp
            exact hK (.int .i64 (nn / 4 % 2)) w' rfl (Below.refl _ _)
          · obtain rfl := Option.some.inj ho
            have p12 := hpre ⟨12, .data⟩ (by simp) 34 rfl
            simp only [Array.getD_eq_getD_getElem?] at p12
            have p15 : a'.tmps.getD 37 undef = .int .i64 (nn / 4 % 2) := hpre ⟨15, .data⟩ (by simp) 37 rfl
            simp only [Array.getD_eq_getD_getElem?] at p15
            obtain ⟨A1, n1, c1, p12, hs1⟩ := p12
            have hn3 : n1 = 3 := hs1.len
            subst hn3
            obtain ⟨b1, o1, rfl, _, hc1⟩ := hs1.name_at (k := (nn / 4 % 2).toNat) (by show _ < 3; omega)
            have q1 : 0 ≤ nn / 4 % 2 := by omega
            have q2 : nn / 4 % 2 < 3 := by omega
            have q3 : nn / 4 % 2 < ((3 : Nat) : Int) := by omega
            go_simp
            exact hK _ _ ⟨b1, o1 + (nn / 4 % 2).toNat, rfl, hc1⟩ (Below.refl _ _)
          · obtain rfl := Option.some.inj ho
            have p16 := hpre ⟨16, .data⟩ (by simp) 38 rfl
            simp only [Array.getD_eq_getD_getElem?] at p16
            obtain ⟨b1, o1, p16, hc1⟩ := p16
            go_simp
            exact hK _ _ rfl (Below.refl _ _)
          · obtain rfl := Option.some.inj ho
            have e6 : a'.tmps[6]? = some (.int .i64 nn) := hout 6 (by decide)
            go_simp
            exact hK (.int .i64 nn) w' rfl (Below.refl _ _)
          · obtain rfl := Option.some.inj ho
            have p18 : a'.tmps.getD 40 undef = .int .i64 nn := hpre ⟨18, .data⟩ (by simp) 40 rfl
            simp only [Array.getD_eq_getD_getElem?] at p18
            go_simp
            exact hK _ _ rfl (Below.refl _ _)
          · obtain rfl := Option.some.inj ho
            have p19 : a'.tmps.getD 41 undef = .int .i64 (nn / 8) := hpre ⟨19, .data⟩ (by simp) 41 rfl
            simp only [Array.getD_eq_getD_getElem?] at p19
            have q1 : (nn / 8).tmod 3 = nn / 8 % 3 := Int.tmod_eq_emod_of_nonneg (by omega)
            have q2 : IntKind.i64.wrap (nn / 8 % 3) = nn / 8 % 3 := IntWalk.i64_in _ (by omega)
            go_simp
            exact hK (.int .i64 (nn / 8 % 3)) w' rfl (Below.refl _ _)
          · obtain rfl := Option.some.inj ho
            have e5 : a'.tmps[5]? = some (.int .i64 k) := hout 5 (by decide)
            go_simp
            exact hK (.int .i64 k) w' rfl (Below.refl _ _)
          · obtain rfl := Option.some.inj ho
            have p21 : a'.tmps.getD 43 undef = .int .i64 k := hpre ⟨21, .data⟩ (by simp) 43 rfl
            simp only [Array.getD_eq_getD_getElem?] at p21
            have q1 : IntKind.i64.wrap (7 * (k : Int)) = 7 * k := IntWalk.i64_in _ (by omega)
            go_simp
            exact hK (.int .i64 (7 * k)) w' rfl (Below.refl _ _)
          · obtain rfl := Option.some.inj ho
            have p22 : a'.tmps.getD 44 undef = .int .i64 (7 * k) := hpre ⟨22, .data⟩ (by simp) 44 rfl
            simp only [Array.getD_eq_getD_getElem?] at p22
            have q1 : IntKind.i64.wrap (100 - 7 * (k : Int)) = 100 - 7 * k := IntWalk.i64_in _ (by omega)
            go_simp
            exact hK (.int .i64 (100 - 7 * k)) w' rfl (Below.refl _ _)
          · obtain rfl := Option.some.inj ho
            have p5 : a'.tmps.getD 27 undef = .int .i64 (10 * k + 1 + nn % 9) := hpre ⟨5, .data⟩ (by simp) 27 rfl
            simp only [Array.getD_eq_getD_getElem?] at p5
            have p11 : a'.tmps.getD 33 undef = .string (pNm k) := hpre ⟨11, .data⟩ (by simp) 33 rfl
            simp only [Array.getD_eq_getD_getElem?] at p11
            have p17 : a'.tmps.getD 39 undef = .string (bC (nn / 4 % 2)) := hpre ⟨17, .data⟩ (by simp) 39 rfl
            simp only [Array.getD_eq_getD_getElem?] at p17
            have p20 : a'.tmps.getD 42 undef = .int .i64 (nn / 8 % 3) := hpre ⟨20, .data⟩ (by simp) 42 rfl
            simp only [Array.getD_eq_getD_getElem?] at p20
            have p23 : a'.tmps.getD 45 undef = .int .i64 (100 - 7 * k) := hpre ⟨23, .data⟩ (by simp) 45 rfl
            simp only [Array.getD_eq_getD_getElem?] at p23
            go_simp
            exact hK _ _ rfl (Below.refl _ _)
          · obtain rfl := Option.some.inj ho
            go_simp
            exact hK _ _ ⟨w'.heap.size, rfl, hb'.size, heap_alloc_new _ _⟩ ((Below.refl _ _).alloc (Nat.le_refl _) _)
        · intro us w' hb' hfacts
          have h24 : us 24 = .agg #[.int .i64 (10 * k + 1 + nn % 9), .string (pNm k), .string (bC (nn / 4 % 2)), .int .i64 (nn / 8 % 3), .int .i64 (100 - 7 * k), .slice none 0 0, .slice none 0 0] := hfacts 24 (by decide)
          obtain ⟨pb, h25, hpH, hpb⟩ := hfacts 25 (by decide)
          clear hfacts
          simp only [putL, Act.put, List.setIfInBounds_toArray, List.set_cons_zero, List.set_cons_succ]
          generalize us 25 = x25 at *
          generalize us 24 = x24 at *
          subst h25 h24
          have HPB := Lib.hid hpb
          have HFIN := Lib.hid (below_setRow (cs := #[.int .i64 (10 * k + 1 + nn % 9), .string (pNm k), .string (bC (nn / 4 % 2)), .int .i64 (nn / 8 % 3), .int .i64 (100 - 7 * k), .slice none 0 0, .slice none 0 0]) hb' hpH)
          have HROW := Lib.hid (setRow_heap w' pb _ #[.int .i64 (10 * k + 1 + nn % 9), .string (pNm k), .string (bC (nn / 4 % 2)), .int .i64 (nn / 8 % 3), .int .i64 (100 - 7 * k), .slice none 0 0, .slice none 0 0] _ _ hpb)
          clear hpb
          simp only [List.drop_succ_cons, List.drop_zero]
          refine wpList_store_row rfl _ _ _ rfl pb #[.int .i64 (10 * k + 1 + nn % 9), .string (pNm k), .string (bC (nn / 4 % 2)), .int .i64 (nn / 8 % 3), .int .i64 (100 - 7 * k), .slice none 0 0, .slice none 0 0] rfl rfl _ _ HPB.out person_info rfl (by simp [Value.oneCell']) ?_
          go_wp2_with fail
          go_meet
          exact ⟨pb, rfl, hpH, HFIN.out, HROW.out⟩
      case rest =>
        obtain ⟨pb, rfl, hpH, hbx, hpb⟩ := hcut
        obtain ⟨wx0, rfl⟩ : ∃ x : World, x = wc := ⟨_, rfl⟩
        have hplt : pb < wx0.heap.size := (Array.getElem?_eq_some_iff.1 hpb).1
        have HPB0 : Hid (PB wx0 pb wx0 #[.int .i64 (10 * k + 1 + nn % 9), .string (pNm k), .string (bC (nn / 4 % 2)), .int .i64 (nn / 8 % 3), .int .i64 (100 - 7 * k), .slice none 0 0, .slice none 0 0]) := ⟨hpb, But.refl _ _, hplt⟩
        have HPO : Hid ((-9223372036854775808 ≤ 10 * (k : Int) + 1 + nn % 9 ∧ 10 * (k : Int) + 1 + nn % 9 ≤ 9223372036854775807) ∧ (pNm k).size ≤ maxLen ∧ (bC (nn / 4 % 2)).size ≤ maxLen ∧ (-9223372036854775808 ≤ nn / 8 % 3 ∧ nn / 8 % 3 ≤ 9223372036854775807) ∧ (-9223372036854775808 ≤ 100 - 7 * (k : Int) ∧ 100 - 7 * (k : Int) ≤ 9223372036854775807)) := by
          have h1 := bC_size (nn / 4 % 2)
          have h2 : (pNm k).size = 2 := rfl
          exact ⟨by omega, by unfold maxLen; omega, by unfold maxLen; omega, by omega, by omega⟩
        have hbxr : Below wr.heap.size wr wx0 := hb45.trans (hbx.mono hs5)
        have HBX := Lib.hid hbxr
        generalize hid : 10 * (k : Int) + 1 + nn % 9 = pid at *
        generalize hsn : 100 - 7 * (k : Int) = psn at *
        generalize hrk : nn / 8 % 3 = prk at *
        generalize pNm k = pnm at *
        generalize bC (nn / 4 % 2) = pbs at *
        clear hpb hbx hb45 hbxr hid hsn hrk
        go_wp2_with fail
        obtain ⟨wo, rfl⟩ : ∃ wo : World, wo = wr := ⟨_, rfl⟩
        generalize hH1 : wx0.heap.size = H1 at *
        go_loopw [8] (fun i wq => ∃ (j : Nat) (v : Value) (xs : List ByteArray), j ≤ 3 ∧ i = .int .i64 j ∧ PB wx0 pb wq #[.int .i64 pid, .string pnm, .string pbs, .int .i64 prk, .int .i64 psn, v, .slice none 0 0] ∧ Own Ty.str 9 wq H1 v xs ∧ xs.length ≤ j ∧ ∀ s ∈ xs, s.size ≤ 16) (fun i _ => 3 - (intOf i).toNat)
        case atStart => exact ⟨0, _, [], Nat.zero_le _, rfl, HPB0.out, Own.nil, Nat.le_refl _, fun _ h => (by cases h)⟩
        case round =>
          obtain ⟨j, v, xs, hj, rfl, hpb, hown, hxl, hxs⟩ := hrel
          clear HPB0
          have HP := Lib.hid hpb; have HO := Lib.hid hown; have HXS := Lib.hid hxs
          by_cases hlj : j < 3
          · obtain ⟨s, hsc, hss⟩ := typ_cell j hlj
            have hty : wr.cell? ⟨w.heap.size, j, none⟩ = some (.string s) := by
              have h1 : wr.heap[w.heap.size]? = some (.cells typCells 9) := by
                rw [hpb.but.block _ (by omega) (by omega), HBX.out.block _ (by omega)]
                exact HTY.out
              exact (block_cell h1 j).trans hsc
            clear hpb hown hxs hsc
            go_upto_region 11 with (fail)
            go_cut [57] (fun cv wx' => ∃ bb : Bool, cv = .bool bb ∧ wx' = wr)
            case first =>
              go_wp2_with fail
              go_meet
              exact ⟨_, rfl, rfl⟩
            case rest =>
              obtain ⟨bb, rfl, rfl⟩ := hcut
              cases bb with
              | false =>
                go_wp2_with fail
                go_roundw
                case rel => exact ⟨j + 1, v, xs, by omega, by go_num, HP.out, HO.out, by omega, HXS.out⟩
                case measure => simp [intOf]; omega
              | true =>
                have hc1 : wc.cell? ⟨pb, 5, none⟩ = some v := block_cell HP.out.p 5
                have hxl8 : xs.length ≤ 3 := by omega
                have hplw : pb < wc.heap.size := (Array.getElem?_eq_some_iff.1 HP.out.p).1
                have hc1' : ∀ o, (wc.alloc o).cell? ⟨pb, 5, none⟩ = some v := fun o => (World.cell?_alloc_past _ _ _ hplw).trans hc1
                have hty' : ∀ o, (wc.alloc o).cell? ⟨w.heap.size, j, none⟩ = some (.string s) := fun o => (World.cell?_alloc_past _ _ _ (by omega)).trans hty
                have HROW : Hid (∀ k, v.ownBlock = some k → wx0.heap.size ≤ k) := fun k hk => by rw [hH1]; exact (HO.out.lt k hk).1
                have hbs := HP.out.but.size
                have HOWN : Hid (∀ q o, Own Ty.str 9 ((wc.drewN q).alloc o) H1 v xs) := fun q o => (HO.out.drewN q).alloc o
                have t1 : (0 : Int) ≤ (j : Int) := by omega
                have t2 : (j : Int) < 3 := by omega
                have t3 : (j : Int) < ((3 : Nat) : Int) := by omega
                go_wp2_with fail
                go_region_law (first
                  | (refine step_push rfl (.tmp 59) (.tmp 64) 37 rfl 16 elem_strs (by simp [Act.eval, Act.put]) (HOWN.out 1 _) wc.heap.size s (fun _ => False) (by simp [Act.eval, Act.put]) ⟨[.string s], rfl, At.new (wc.drewN 1) #[.string s] _⟩ (fun _ h => h.elim) (by omega) (by decide) (by simp; omega) ?_; intro g6 cap6 w6 hown6 hgr6 hat6; have hz6 := HP.out.p6 hgr6 HROW.out; have hc6 : w6.cell? ⟨pb, 5, none⟩ = some v := block_cell hz6 5; have hf6 : w6.frozen? ⟨pb, 5, none⟩ = false := block_free hz6 5; have HSTEP := Lib.hid (HP.out.step hgr6 HROW.out 5 (.slice (some ⟨g6, 0, none⟩) (xs.length + 1) cap6)); have HOWN6 := Lib.hid (hown6.setCell (g := pb) (j := 5) (by omega) (.slice (some ⟨g6, 0, none⟩) (xs.length + 1) cap6)); clear hz6)
                  | fail)
                all_goals
                  go_wp2_with fail
                  go_roundw
                  case rel => exact ⟨j + 1, _, xs ++ [s], by omega, by go_num, HSTEP.out, HOWN6.out, by rw [List.length_append, List.length_singleton]; omega, fun x hx => by rcases List.mem_append.1 hx with h | h; exact HXS.out x h; (simp at h; subst h; exact hss)⟩
                  case measure => simp [intOf]; omega
          · obtain ⟨At', ct, rfl, -⟩ := hown.sl
            clear hpb hown hxs
            go_wp2_with fail
            obtain ⟨wo2, rfl⟩ : ∃ wo : World, wo = wr := ⟨_, rfl⟩
            have hxl3 : xs.length ≤ 3 := by omega
            go_loopw [9] (fun i wq => ∃ (r : Nat) (v : Value) (ys : List GShift), r ≤ 3 ∧ i = .int .i64 r ∧ PB wx0 pb wq #[.int .i64 pid, .string pnm, .string pbs, .int .i64 prk, .int .i64 psn, .slice At' xs.length ct, v] ∧ Own Ty.str 9 wq H1 (.slice At' xs.length ct) xs ∧ Own Ty.shift 42 wq H1 v ys ∧ ys.length ≤ r ∧ ∀ s ∈ ys, s.ok) (fun i _ => 3 - (intOf i).toNat)
            case atStart => exact ⟨0, _, [], Nat.zero_le _, rfl, HP.out, HO.out, Own.nil, Nat.le_refl _, fun _ h => (by cases h)⟩
            case round =>
              obtain ⟨r, v, ys, hr, rfl, hpb, hot, hov, hyl, hys⟩ := hrel
              clear HP HO
              have HP := Lib.hid hpb; have HOT := Lib.hid hot; have HOV := Lib.hid hov; have HYS := Lib.hid hys
              have hbs := hpb.but.size
              have hc1 : wr.cell? ⟨pb, 6, none⟩ = some v := block_cell hpb.p 6
              clear hot hov hys
              by_cases hlr : (r : Int) < nn / 512 % 3
              · have hr2 : r ≤ 2 := by omega
                have HROW : Hid (∀ k, v.ownBlock = some k → wx0.heap.size ≤ k) := fun k hk => by rw [hH1]; exact (HOV.out.lt k hk).1
                have hc1' : ∀ o, (wr.alloc o).cell? ⟨pb, 6, none⟩ = some v := fun o => (World.cell?_alloc_past _ _ _ (by omega)).trans hc1
                clear hpb
                go_wp2_with (at_builtin; refine wpList_push (t := Ty.shift) (base := H1) rfl _ _ _ rfl 16 elem_span rfl (HOV.out.alloc _) wr.heap.size ⟨1440000 + 3000 * r, 1440000 + 3000 * r + 1440⟩ (fun _ => False) rfl ⟨_, rfl, At.new wr #[.int .i64 (1440000 + 3000 * r), .int .i64 (1440000 + 3000 * r + 1440)] _⟩ (fun _ h => h.elim) ?k1 (by decide) ?k2 ?_)
                case k1 => omega
                case k2 => simp; omega
                intro v6 w6 hown6 hgr6
                obtain ⟨A6, c6, rfl, -⟩ := hown6.sl
                rw [List.length_append, List.length_singleton] at hown6 ⊢
                have hz6 := HP.out.p6 (q := 0) hgr6 HROW.out
                have hc6 : w6.cell? ⟨pb, 6, none⟩ = some v := block_cell hz6 6
                have hf6 : w6.frozen? ⟨pb, 6, none⟩ = false := block_free hz6 6
                have HSTEP := Lib.hid (HP.out.step (q := 0) hgr6 HROW.out 6 (.slice A6 (ys.length + 1) c6))
                have HOWN6 := Lib.hid (hown6.setCell (g := pb) (j := 6) (by omega) (.slice A6 (ys.length + 1) c6))
                have HOT6 : Hid (Own Ty.str 9 (w6.setCell ⟨pb, 6, none⟩ (.slice A6 (ys.length + 1) c6)) H1 (.slice At' xs.length ct) xs) := by
                  refine ((HOT.out.alloc (.cells #[.int .i64 (1440000 + 3000 * r), .int .i64 (1440000 + 3000 * r + 1440)] 42)).flat0 flat_str fun b hb => ?_).setCell (by omega) _
                  obtain ⟨cur, hcb⟩ := (HOT.out.alloc (.cells #[.int .i64 (1440000 + 3000 * r), .int .i64 (1440000 + 3000 * r + 1440)] 42)).tag hb
                  exact hgr6.block b (Array.getElem?_eq_some_iff.1 hcb).1 (own_box_ne (HOV.out.alloc _) hcb (by decide))
                clear hz6 hown6 hgr6
                go_wp2_with fail
                go_roundw
                case rel => exact ⟨r + 1, _, ys ++ [⟨1440000 + 3000 * r, 1440000 + 3000 * r + 1440⟩], by omega, by go_num, HSTEP.out, HOT6.out, HOWN6.out, by rw [List.length_append, List.length_singleton]; omega, fun x hx => by rcases List.mem_append.1 hx with h | h; exact HYS.out x h; (simp at h; subst h; exact ⟨by constructor <;> simp <;> omega, by constructor <;> simp <;> omega⟩)⟩
                case measure => simp [intOf]; omega
              · obtain ⟨Av, cv, rfl, -⟩ := HOV.out.sl
                have y0 := block_cell hpb.p 0; have y1 := block_cell hpb.p 1; have y2 := block_cell hpb.p 2; have y3 := block_cell hpb.p 3; have y4 := block_cell hpb.p 4; have y5 := block_cell hpb.p 5
                have hCM : CrewMem (wr.alloc (.cells #[.int .i64 pid, .string pnm, .string pbs, .int .i64 prk, .int .i64 psn, .slice At' xs.length ct, .slice Av ys.length cv] 40)) u3 ps (w.heap.size + 1) wo.heap.size := HCM.out.keep (Nat.le_refl _) fun b hb1 hb2 => by
                  rw [Below.heap_alloc _ _ _ (by omega), hpb.but.block b (by omega) (by omega), HBX.out.block b hb2]
                have HCM9 := Lib.hid hCM
                have HPW : Hid (POwn (wr.alloc (.cells #[.int .i64 pid, .string pnm, .string pbs, .int .i64 prk, .int .i64 psn, .slice At' xs.length ct, .slice Av ys.length cv] 40)) H1 (wr.alloc (.cells #[.int .i64 pid, .string pnm, .string pbs, .int .i64 prk, .int .i64 psn, .slice At' xs.length ct, .slice Av ys.length cv] 40)).heap.size [.int .i64 pid, .string pnm, .string pbs, .int .i64 prk, .int .i64 psn, .slice At' xs.length ct, .slice Av ys.length cv] ⟨pid, pnm, pbs, prk, psn, xs, ys⟩) :=
                  ⟨_, _, rfl, HOT.out.alloc _, fun k hk => ((HOT.out.alloc _).lt k hk).2, HOV.out.alloc _, fun k hk => ((HOV.out.alloc _).lt k hk).2⟩
                have HNEW := Lib.hid (At.new wr #[.int .i64 pid, .string pnm, .string pbs, .int .i64 prk, .int .i64 psn, .slice At' xs.length ct, .slice Av ys.length cv] 40)
                have HPK : Hid (∀ p ∈ ps ++ [(⟨pid, pnm, pbs, prk, psn, xs, ys⟩ : GPerson)], p.okS) := fun p hp => by
                  rcases List.mem_append.1 hp with h | h
                  · exact HOK.out p h
                  · simp at h
                    subst h
                    obtain ⟨g1, g2, g3, g4, g5⟩ := HPO.out
                    exact ⟨⟨g1, g2, g3, g4, g5, fun s hs => by have := HXS.out s hs; unfold maxLen; omega, HYS.out⟩, by show xs.length ≤ 3; omega, by show ys.length ≤ 3; omega⟩
                have HBR : Hid (Below w.heap.size w wr ∧ wr.heap[w.heap.size]? = some (.cells typCells 9)) := by
                  refine ⟨⟨hpb.but.os.trans (HBX.out.os.trans HBE.out.os), hpb.but.tape.trans (HBX.out.tape.trans HBE.out.tape), hpb.but.output.trans (HBX.out.output.trans HBE.out.output), by have := HBE.out.size; omega, fun b hb => ?_⟩, ?_⟩
                  · rw [hpb.but.block b (by omega) (by omega), HBX.out.block b (by omega), HBE.out.block b hb]
                  · rw [hpb.but.block _ (by omega) (by omega), HBX.out.block _ (by omega)]
                    exact HTY.out
                clear hpb hCM
                go_wp2_with (at_builtin; refine wpList_crew_push (p := ⟨pid, pnm, pbs, prk, psn, xs, ys⟩) (h2 := H1) rfl _ _ _ rfl elem_person rfl HCM9.out ?m1 ?m2 wr.heap.size _ rfl HPW.out HNEW.out ?m3 ?m4 ?_)
                case m1 => omega
                case m2 => first | omega | (simp; omega)
                case m3 => first | omega | (simp; omega)
                case m4 => omega
                intro v6 w6 hcm6 hgr6
                have hb6 : Below w.heap.size w w6 := (HBR.out.1.alloc (by omega) _).grown hgr6 (by simp; omega) (fun k hk => by have := (HCM9.out.lt k hk).1; omega)
                have hty6 : w6.heap[w.heap.size]? = some (.cells typCells 9) := by
                  rw [hgr6.block _ (by simp; omega) (fun e => by have := (HCM9.out.lt _ e.symm).1; omega), Below.heap_alloc _ _ _ (by omega)]
                  exact HBR.out.2
                clear hgr6
                go_wp2_with fail
                go_roundw
                case rel => exact ⟨k + 1, ps ++ [⟨pid, pnm, pbs, prk, psn, xs, ys⟩], by omega, by go_num, hcm6, HPK.out, by rw [List.length_append, List.length_singleton]; omega, hb6, hty6⟩
                case measure => simp [intOf]; omega
    · have hfin : PersonsPost w (.returned u3) w4 := ⟨u3, ps, rfl, by
        obtain ⟨cs, f, h1, h2, h3, h4, h5, h6⟩ := HCM.out.keep (w' := w4) hs4 (fun b _ hb => hb4.block b hb)
        refine ⟨cs, f, ⟨h1.1, ?_⟩, h2, h3, by omega, h5, h6⟩
        rcases h1.2 with h7 | ⟨g, cap, cur, hv, hg, r⟩
        · exact .inl h7
        · exact .inr ⟨g, cap, cur, hv, by omega, r⟩, HOK.out, by omega, HBE.out.trans (hb4.mono (by omega))⟩
      have HFIN := Lib.hid hfin
      clear hfin
      go_wp2_with fail
      go_ret
      exact HFIN.out
end Go.Proofs.Ytkhedjfdjjeopaa
