/-
  Contract of the reference's Unframe (package pairingref8).
  Condition: the bytes are bytes.
-/
import Derived.Test.YtkhedjfdjjeopaaRef8Dec
import Derived.Test.YtkhedjfdjjeopaaRef8Sum
import Derived.Test.YtkhedjfdjjeopaaUnframe
import Derived.Test.YtkhedjfdjjeopaaSum4
import Derived.StillTactics
namespace Go.Proofs.Ytkhedjfdjjeopaa
set_option linter.unusedSimpArgs false
set_option linter.unusedVariables false
open Go.RowKit

/-- As UnPost; the body's address is plain. -/
def UnPostR (w : World) (r : Int × List Int × Nat × Int) (e : Ending) (w' : World) : Prop :=
  ∃ A n c, e = .returned (.tuple #[.int .u8 r.1, .slice A n c, .int .i64 r.2.2.1, .int .i64 r.2.2.2]) ∧ Sl (Ty.int .u8) w' (fun b => w.heap.size ≤ b ∧ b < w'.heap.size) A n c r.2.1 ∧ Below w.heap.size w w' ∧ ((A = none ∧ c = 0) ∨ ∃ b o, A = some ⟨b, o, none⟩)
theorem list4 {α : Type} {l : List α} (h : l.length = 4) : ∃ a b c d, l = [a, b, c, d] := by
  match l, h with
  | [a, b, c, d], _ => exact ⟨a, b, c, d, rfl⟩
theorem sum_eq_iff {x : BitVec 32} {a b c d : Int} (ha : isByte a) (hb : isByte b) (hc : isByte c) (hd : isByte d) :
    sumOf [a, b, c, d] = x ↔ a = u32 x / 16777216 % 256 ∧ b = u32 x / 65536 % 256 ∧ c = u32 x / 256 % 256 ∧ d = u32 x % 256 := by
  have h := sumOf4 ha hb hc hd
  obtain ⟨a0, a1⟩ := ha
  obtain ⟨b0, b1⟩ := hb
  obtain ⟨c0, c1⟩ := hc
  obtain ⟨d0, d1⟩ := hd
  constructor
  · rintro rfl
    unfold u32
    rw [h]
    omega
  · rintro ⟨e1, e2, e3, e4⟩
    apply u32_inj
    have hx0 := u32_lo x
    have hx1 := u32_hi x
    unfold u32 at *
    rw [h]
    omega
set_option maxRecDepth 100000 in
set_option maxHeartbeats 6400000 in
theorem unframeR_long (bs : List Int) (A : Option Addr) (m c : Nat) (w : World) (h : Sl (Ty.int .u8) w (all_ w) A m c bs) (hb : ∀ x ∈ bs, isByte x) (n used : Nat) (hm : 0 < m) (hd : decU bs.tail = ((n : Int), used, 0)) (hu : 1 ≤ used) (hn : n ≤ 1048576) (hl : 1 + used + n + 4 ≤ m) :
    Calls Try.prog 39 #[.slice A m c] w (UnPostR w (unfr bs)) := by
  have hle := h.le
  unfold maxLen at hle
  have hn1 : m ≤ bs.length := Nat.le_of_eq h.len
  have hn2 : bs.length ≤ m := Nat.le_of_eq h.len.symm
  have hmc : m ≤ c := h.2.1
  have hcm := h.2.2.1
  unfold maxLen at hcm
  have HS := Lib.hid h
  have HBY := Lib.hid hb
  obtain ⟨b, o, rfl, hbS, hc0⟩ := h.int_at (k := 0) (by omega)
  have ht : bs.tail = (bs.drop 1).take (m - 1) := by rw [List.take_of_length_le (by rw [List.length_drop]; omega)]; simp
  have hs1 := h.sub 1 (m - 1) (by omega) b (o + 1) (fun _ => ⟨rfl, by simp [Ty.int]⟩)
  rw [← ht] at hs1
  have HC := Lib.hid (decodeUintR_any bs.tail _ _ _ _ w hs1 (fun x hx => hb x (List.mem_of_mem_tail hx)))
  rw [hd] at HC
  have hc1 : ¬ c = 1 := by omega
  have hm0 : ((m : Int) == 0) = false := by simp; omega
  have HU : Hid (unfr bs = if sumOf ((bs.drop (1 + used + n)).take 4) ≠ crc (bs.take (1 + used + n)) then (0, [], 0, 4) else (bs.getD 0 0, (bs.drop (1 + used)).take n, 1 + used + n + 4, 0)) := by
    show _ = _
    have hne : bs ≠ [] := fun e => by rw [e] at hn1; simp at hn1; omega
    unfold unfr
    rw [hd, if_neg hne, if_neg (by simp), if_neg (by simp only; omega), if_neg (by simp only; omega)]
    rfl
  have hy0 : bs.getD 0 0 = bs[0] := by rw [List.getD_eq_getElem?_getD, List.getElem?_eq_getElem (by omega)]; rfl
  rw [← hy0, Nat.add_zero] at hc0
  clear h hs1 ht hd hb hy0
  go_enter Try.func39, Try.ntmps39
  go_wp2_with fail
  refine HC.out.mono ?_
  rintro e w' ⟨rfl, rfl⟩
  have d1 : decide ((1048576 : Int) < (n : Int)) = false := by simp; omega
  have d2 : decide ((m : Int) - (1 + (used : Int)) < (n : Int) + 4) = false := by simp; omega
  have hc2 : ¬ c = 1 + used + n := by omega
  go_wp2_with fail
  clear d1 d2
  have hl4 : ((bs.drop (1 + used + n)).take 4).length = 4 := by rw [List.length_take, List.length_drop]; omega
  have hs2 := HS.out.sub 0 (1 + used + n) (by omega) b o (fun _ => ⟨rfl, by simp⟩)
  rw [List.drop_zero, Nat.sub_zero] at hs2
  have HCK := Lib.hid (checksumR_any (bs.take (1 + used + n)) _ _ _ _ w hs2 (fun x hx => HBY.out x (List.mem_of_mem_take hx)))
  clear hs2
  have hcl4 : ∀ k, k < 4 → w.cell? ⟨b, o + (1 + used + n + k), none⟩ = some (.int .u8 (bs.getD ((1 + used + n) + k) 0)) := fun k hk => by
    obtain ⟨b', o', e', _, hc⟩ := HS.out.int_at (k := (1 + used + n) + k) (by omega)
    injection e' with e'
    injection e' with e1 e2
    subst e1 e2
    rw [List.getD_eq_getElem?_getD, List.getElem?_eq_getElem (by omega)]
    exact hc
  have hby4 : ∀ k, k < 4 → isByte (bs.getD ((1 + used + n) + k) 0) := fun k hk => by
    rw [List.getD_eq_getElem?_getD, List.getElem?_eq_getElem (by omega)]
    exact HBY.out _ (List.getElem_mem _)
  have hl4' : (bs.drop (1 + used + n)).take 4 = [bs.getD ((1 + used + n) + 0) 0, bs.getD ((1 + used + n) + 1) 0, bs.getD ((1 + used + n) + 2) 0, bs.getD ((1 + used + n) + 3) 0] := by
    have hg : ∀ k, k < 4 → ((bs.drop (1 + used + n)).take 4)[k]? = some (bs.getD ((1 + used + n) + k) 0) := fun k hk => by
      rw [List.getElem?_take, if_pos hk, List.getElem?_drop, List.getD_eq_getElem?_getD, List.getElem?_eq_getElem (by omega)]
      rfl
    obtain ⟨a0, a1, a2, a3, e⟩ := list4 hl4
    rw [e] at hg ⊢
    have g0 := hg 0 (by decide); have g1 := hg 1 (by decide); have g2 := hg 2 (by decide); have g3 := hg 3 (by decide)
    simp only [List.getElem?_cons_zero, List.getElem?_cons_succ, Option.some.injEq] at g0 g1 g2 g3
    rw [g0, g1, g2, g3]
  rw [hl4'] at HU
  have z0 := hcl4 0 (by decide); have z1 := hcl4 1 (by decide); have z2 := hcl4 2 (by decide); have z3 := hcl4 3 (by decide)
  have p0 := hby4 0 (by decide); have p1 := hby4 1 (by decide); have p2 := hby4 2 (by decide); have p3 := hby4 3 (by decide)
  simp only [Nat.add_zero] at z0 p0 HU
  clear hl4 hl4' hcl4 hby4
  generalize bs.getD (1 + used + n) 0 = q0 at *
  generalize bs.getD (1 + used + n + 1) 0 = q1 at *
  generalize bs.getD (1 + used + n + 2) 0 = q2 at *
  generalize bs.getD (1 + used + n + 3) 0 = q3 at *
  generalize crc (bs.take (1 + used + n)) = cc at *
  have HSUM := Lib.hid (sum_eq_iff (x := cc) p0 p1 p2 p3)
  clear p0 p1 p2 p3
  have hx0 := u32_lo cc
  go_wp2_with fail
  refine HCK.out.mono ?_
  rintro e w' ⟨rfl, rfl⟩
  clear HCK
  have i1 : (1 + (used : Int) + n).toNat = 1 + used + n := by omega
  have i2 : (1 + (used : Int) + n + 1).toNat = 1 + used + n + 1 := by omega
  have i3 : (1 + (used : Int) + n + 2).toNat = 1 + used + n + 2 := by omega
  have i4 : (1 + (used : Int) + n + 3).toNat = 1 + used + n + 3 := by omega
  have hb1 := Below.refl w.heap.size w
  by_cases hxc : sumOf [q0, q1, q2, q3] = cc
  · have HR : Hid (unfr bs = (bs.getD 0 0, (bs.drop (1 + used)).take n, 1 + used + n + 4, 0)) := by
      show _ = _
      rw [HU.out, if_neg (by simpa using hxc)]
    obtain ⟨k0, k1, k2, k3⟩ := HSUM.out.1 hxc
    have n0 : (q0 != u32 cc / 16777216 % 256) = false := by simpa using k0
    have n1 : (q1 != u32 cc / 65536 % 256) = false := by simpa using k1
    have n2 : (q2 != u32 cc / 256 % 256) = false := by simpa using k2
    have n3 : (q3 != u32 cc % 256) = false := by simpa using k3
    clear hxc HU HSUM k0 k1 k2 k3
    generalize bs.getD 0 0 = y0 at *
    have hc0' : w.cell? ⟨b, o, none⟩ = some (.int .u8 y0) := (hb1.cell (by show b < _; exact hbS)).trans hc0
    have hsb := HS.out.sub (1 + used) n (by omega) b (o + (1 + used)) (fun _ => ⟨rfl, by simp [Ty.int]⟩)
    have hs9 := hb1.size
    have hc3 : ¬ c = 1 + used := by omega
    have s1 : 0 ≤ 1 + (used : Int) := by omega
    have s2 : 1 + (used : Int) ≤ 1 + (used : Int) + n := by omega
    have s3 : 1 + (used : Int) + n ≤ c := by omega
    have s4 : (1 + (used : Int)).toNat = 1 + used := by omega
    have s5 : (1 + (used : Int) + n).toNat = 1 + used + n := by omega
    have s6 : 1 + used + n - (1 + used) = n := by omega
    have s7 : IntKind.i64.wrap (1 + (used : Int) + n + 4) = 1 + (used : Int) + n + 4 := IntWalk.i64_in _ (by omega)
    have s8 : IntKind.i64.wrap (1 + (used : Int)) = 1 + (used : Int) := IntWalk.i64_in _ (by omega)
    have s9 : 0 ≤ 1 + (used : Int) + n := by omega
    rcases Nat.eq_zero_or_pos n with rfl | hnp
    · clear hsb s6
      simp only [Nat.add_zero, Int.natCast_zero, Int.add_zero] at z0 z1 z2 z3 i1 i2 i3 i4 s2 s3 s5 s7 s9
      clear s5 i1 s2
      go_wp2_with fail
      refine wp_region_still_lit (by kernel_rfl) (by kernel_rfl) ?_
      change wpStill _ _ w.drew _ _ _
      repeat still_step
      refine wpStill_nil ?_
      all_goals
        go_wp2_with fail
        refine bodyPost_ret (v := .tuple #[.int .u8 y0, .slice none 0 0, .int .i64 (1 + (used : Int) + 4), .int .i64 0]) (by simp [results, Try.results39, go_sem]) rfl ⟨none, 0, 0, by rw [HR.out]; simp, by rw [HR.out]; exact Sl.nil0, below_drewN hb1 _, .inl ⟨rfl, rfl⟩⟩
    · have hbl : (bs.drop (1 + used)).take n ≠ [] := fun e => by
        have := congrArg List.length e
        rw [List.length_take, List.length_drop] at this
        simp at this
        omega
      obtain ⟨b2, o2, e2, _, hcl⟩ := (hsb.keep (w' := w) (all_keep hb1)).int_cells hbl
      injection e2 with e2
      injection e2 with e21 e22
      subst e21 e22
      have hbln : ((bs.drop (1 + used)).take n).length = n := hsb.len.symm
      generalize (bs.drop (1 + used)).take n = bd at *
      have HCL : Hid (∀ q, ∀ j u, (bd.map (Value.int .u8))[j]? = some u → (w.drewN q).cell? ((⟨b, o + (1 + used), none⟩ : Addr).add j) = some u) := fun q => hcl
      have HLN := Lib.hid hbln
      obtain ⟨i0, i1, i2, i3, i4⟩ := byte_info
      have HI := Lib.hid (And.intro i1 (And.intro i2 (And.intro i3 i4)))
      clear hcl hbln hsb hbl i1 i2 i3 i4
      go_wp2_with fail
      go_region_law (first | (refine step_append_lies _ rfl (.const (.slice none 0 0)) (.tmp 86) 45 rfl w.heap.size 5 i0 (.int .u8 0) 1 1 Try.underlying45 HI.out.1 HI.out.2.1 HI.out.2.2.1 HI.out.2.2.2 rfl (by decide) (.slice none 0 0) 0 [] (by simp [Act.eval, Act.put]) (World.ownsRow_nil _ _ _ _) ⟨b, o + (1 + used), none⟩ n (c - (1 + used)) (bd.map (Value.int .u8)) (by simp [Act.eval, Act.put]) (by simp [HLN.out]) (HCL.out _) (fun u hu => by obtain ⟨_, _, rfl⟩ := List.mem_map.1 hu; rfl) (by omega) (by unfold maxLen; omega) (by omega) (by simp) _ rfl ?_; intro g9 cap9 w9 hown9 hgr9 hat9 hlt9; have hc9 : w9.cell? ⟨b, o, none⟩ = some (.int .u8 y0) := (hgr9.cell_far _ (by show b < w.heap.size; exact Nat.lt_of_lt_of_le hbS hs9) (by simp [Value.ownBlock])).trans hc0') | fail)
      all_goals
        go_wp2_with fail
        have hfin := un_fin hb1 hgr9 hown9 HLN.out
        refine bodyPost_ret (v := .tuple #[.int .u8 y0, .slice (some ⟨g9, 0, none⟩) (0 + n) cap9, .int .i64 (1 + (used : Int) + n + 4), .int .i64 0]) (by simp [results, Try.results39, go_sem]) rfl ⟨_, _, _, by rw [HR.out]; rfl, by rw [HR.out]; exact hfin.1, hfin.2, .inr ⟨_, _, rfl⟩⟩
  · have HR : Hid (unfr bs = (0, [], 0, 4)) := by
      show _ = _
      rw [HU.out, if_pos (by simpa using hxc)]
    have hbr : (q0 != u32 cc / 16777216 % 256) = true ∨ ((q0 != u32 cc / 16777216 % 256) = false ∧ (q1 != u32 cc / 65536 % 256) = true) ∨ ((q0 != u32 cc / 16777216 % 256) = false ∧ (q1 != u32 cc / 65536 % 256) = false ∧ (q2 != u32 cc / 256 % 256) = true) ∨ ((q0 != u32 cc / 16777216 % 256) = false ∧ (q1 != u32 cc / 65536 % 256) = false ∧ (q2 != u32 cc / 256 % 256) = false ∧ (q3 != u32 cc % 256) = true) := by
      have h9 : ¬ (q0 = u32 cc / 16777216 % 256 ∧ q1 = u32 cc / 65536 % 256 ∧ q2 = u32 cc / 256 % 256 ∧ q3 = u32 cc % 256) := fun h => hxc (HSUM.out.2 h)
      simp only [bne_iff_ne, bne_eq_false_iff_eq]
      by_cases k0 : q0 = u32 cc / 16777216 % 256
      · by_cases k1 : q1 = u32 cc / 65536 % 256
        · by_cases k2 : q2 = u32 cc / 256 % 256
          · exact .inr (.inr (.inr ⟨k0, k1, k2, fun k3 => h9 ⟨k0, k1, k2, k3⟩⟩))
          · exact .inr (.inr (.inl ⟨k0, k1, k2⟩))
        · exact .inr (.inl ⟨k0, k1⟩)
      · exact .inl k0
    clear hxc HU HSUM
    rcases hbr with n0 | ⟨n0, n1⟩ | ⟨n0, n1, n2⟩ | ⟨n0, n1, n2, n3⟩
    all_goals
      go_wp2_with fail
      exact bodyPost_ret (v := .tuple #[.int .u8 0, .slice none 0 0, .int .i64 0, .int .i64 4]) (by simp [results, Try.results39, go_sem]) rfl ⟨none, 0, 0, by rw [HR.out]; rfl, by rw [HR.out]; exact Sl.nil0, hb1, .inl ⟨rfl, rfl⟩⟩
set_option maxRecDepth 100000 in
theorem unframeR_any (bs : List Int) (A : Option Addr) (m c : Nat) (w : World) (h : Sl (Ty.int .u8) w (all_ w) A m c bs) (hb : ∀ x ∈ bs, isByte x) :
    Calls Try.prog 39 #[.slice A m c] w (UnPostR w (unfr bs)) := by
  have hle := h.le
  unfold maxLen at hle
  have hn1 : m ≤ bs.length := Nat.le_of_eq h.len
  have hn2 : bs.length ≤ m := Nat.le_of_eq h.len.symm
  have hmc : m ≤ c := h.2.1
  have hcm := h.2.2.1
  unfold maxLen at hcm
  rcases Nat.eq_zero_or_pos m with rfl | hm
  · have hbs : bs = [] := List.eq_nil_of_length_eq_zero (by omega)
    have HR : Hid (unfr bs = (0, [], 0, 3)) := by show _ = _; unfold unfr; rw [if_pos hbs]
    clear h hb hbs
    go_enter Try.func39, Try.ntmps39
    go_wp2_with fail
    refine bodyPost_ret (v := .tuple #[.int .u8 0, .slice none 0 0, .int .i64 0, .int .i64 3]) (by simp [results, Try.results39, go_sem]) rfl ⟨none, 0, 0, by rw [HR.out]; rfl, by rw [HR.out]; exact Sl.nil0, Below.refl _ _, .inl ⟨rfl, rfl⟩⟩
  have hne : bs ≠ [] := fun e => by rw [e] at hn1; simp at hn1; omega
  obtain ⟨b, o, rfl, hbS, hc0⟩ := h.int_at (k := 0) (by omega)
  have ht : bs.tail = (bs.drop 1).take (m - 1) := by rw [List.take_of_length_le (by rw [List.length_drop]; omega)]; simp
  have hbt : ∀ x ∈ bs.tail, isByte x := fun x hx => hb x (List.mem_of_mem_tail hx)
  have hok := decU_ok hbt
  have HU : Hid (unfr bs = if (decU bs.tail).2.2 ≠ 0 then (0, [], 0, (decU bs.tail).2.2) else
      if 1048576 < (decU bs.tail).1 then (0, [], 0, 2) else
        if (bs.length : Int) - (1 + ((decU bs.tail).2.1 : Int)) < (decU bs.tail).1 + 4 then (0, [], 0, 3) else unfr bs) := by
    show _ = _
    by_cases q1 : (decU bs.tail).2.2 ≠ 0
    · rw [if_pos q1]; unfold unfr; rw [if_neg hne, if_pos q1]
    · rw [if_neg q1]
      by_cases q2 : 1048576 < (decU bs.tail).1
      · rw [if_pos q2]; unfold unfr; rw [if_neg hne, if_neg q1, if_pos q2]
      · rw [if_neg q2]
        by_cases q3 : (bs.length : Int) - (1 + ((decU bs.tail).2.1 : Int)) < (decU bs.tail).1 + 4
        · rw [if_pos q3]; unfold unfr; rw [if_neg hne, if_neg q1, if_neg q2, if_pos q3]
        · rw [if_neg q3]
  have HL := Lib.hid (unframeR_long bs (some ⟨b, o, none⟩) m c w h hb)
  have hm0 : ((m : Int) == 0) = false := by simp; omega
  by_cases hc1 : c = 1
  · have hs1 := h.sub 1 (m - 1) (by omega) b o (by omega)
    rw [← ht] at hs1
    have HC := Lib.hid (decodeUintR_any bs.tail _ _ _ _ w hs1 hbt)
    have hm1 : m = 1 := by omega
    subst hc1 hm1
    have ht0 : bs.tail = [] := by rw [ht]; simp
    rw [ht0] at HC HU
    have HR : Hid (unfr bs = (0, [], 0, 3)) := by show _ = _; rw [HU.out]; rfl
    have hd : decU [] = (0, 0, 3) := rfl
    rw [hd] at HC
    clear h hb hs1 ht HU ht0 hok hbt HL hd hc0
    go_enter Try.func39, Try.ntmps39
    go_wp2_with fail
    refine HC.out.mono ?_
    rintro e w' ⟨rfl, rfl⟩
    go_wp2_with fail
    refine bodyPost_ret (v := .tuple #[.int .u8 0, .slice none 0 0, .int .i64 0, .int .i64 3]) (by simp [results, Try.results39, go_sem]) rfl ⟨none, 0, 0, by rw [HR.out]; rfl, by rw [HR.out]; exact Sl.nil0, Below.refl _ _, .inl ⟨rfl, rfl⟩⟩
  have hs1 := h.sub 1 (m - 1) (by omega) b (o + 1) (fun _ => ⟨rfl, by simp [Ty.int]⟩)
  rw [← ht] at hs1
  have HC := Lib.hid (decodeUintR_any bs.tail _ _ _ _ w hs1 hbt)
  have htl : bs.tail.length = m - 1 := by rw [List.length_tail]; omega
  have HTL := Lib.hid htl
  clear h hb hs1 ht htl hbt hc0
  generalize hdd : decU bs.tail = d at *
  obtain ⟨u, used, e⟩ := d
  have HDD := Lib.hid hdd
  clear hdd
  simp only at hok HU HC
  by_cases he : e = 0
  · subst he
    obtain ⟨k1, k2, k3, k4, k5⟩ := hok rfl
    have k4' : used ≤ m - 1 := by have := HTL.out; omega
    clear hok k4
    rw [if_neg (by simp)] at HU
    by_cases hbig : 1048576 < u
    · have HR : Hid (unfr bs = (0, [], 0, 2)) := by show _ = _; rw [HU.out, if_pos hbig]
      clear HU HL
      go_enter Try.func39, Try.ntmps39
      go_wp2_with fail
      refine HC.out.mono ?_
      rintro e w' ⟨rfl, rfl⟩
      go_wp2_with fail
      refine bodyPost_ret (v := .tuple #[.int .u8 0, .slice none 0 0, .int .i64 0, .int .i64 2]) (by simp [results, Try.results39, go_sem]) rfl ⟨none, 0, 0, by rw [HR.out]; rfl, by rw [HR.out]; exact Sl.nil0, Below.refl _ _, .inl ⟨rfl, rfl⟩⟩
    · rw [if_neg hbig] at HU
      by_cases hcut : (m : Int) - (1 + (used : Int)) < u + 4
      · have HR : Hid (unfr bs = (0, [], 0, 3)) := by show _ = _; rw [HU.out, if_pos (by omega)]
        have hbig' : u ≤ 1048576 := by omega
        clear HU HL hbig
        go_enter Try.func39, Try.ntmps39
        go_wp2_with fail
        refine HC.out.mono ?_
        rintro e w' ⟨rfl, rfl⟩
        go_wp2_with fail
        refine bodyPost_ret (v := .tuple #[.int .u8 0, .slice none 0 0, .int .i64 0, .int .i64 3]) (by simp [results, Try.results39, go_sem]) rfl ⟨none, 0, 0, by rw [HR.out]; rfl, by rw [HR.out]; exact Sl.nil0, Below.refl _ _, .inl ⟨rfl, rfl⟩⟩
      · obtain ⟨n, rfl⟩ := Int.eq_ofNat_of_zero_le k1
        exact HL.out n used hm rfl k3 (by omega) (by omega)
  · have HR : Hid (unfr bs = (0, [], 0, e)) := by show _ = _; rw [HU.out, if_pos he]
    have he' : (e != 0) = true := by simpa using he
    clear HU HL he hok
    go_enter Try.func39, Try.ntmps39
    go_wp2_with fail
    refine HC.out.mono ?_
    rintro e w' ⟨rfl, rfl⟩
    go_wp2_with fail
    refine bodyPost_ret (v := .tuple #[.int .u8 0, .slice none 0 0, .int .i64 0, .int .i64 e]) (by simp [results, Try.results39, go_sem]) rfl ⟨none, 0, 0, by rw [HR.out]; rfl, by rw [HR.out]; exact Sl.nil0, Below.refl _ _, .inl ⟨rfl, rfl⟩⟩
end Go.Proofs.Ytkhedjfdjjeopaa
