/-
  Contract of wire.Unframe.
  Condition: the bytes are bytes.
-/
import Derived.Test.YtldeoaddogifpaaGreatDoorDecText
import Derived.Test.YtldeoaddogifpaaGreatDoorFrame
import Derived.Deep.AppendLies
import Derived.Deep.RegionLaw
namespace Go.Proofs.YtldeoaddogifpaaGreatDoor
set_option linter.unusedSimpArgs false
set_option linter.unusedVariables false
open Go.RowKit

/-- Four bytes as a number. -/
def sumStep (s : BitVec 32) (c : Int) : BitVec 32 := (s <<< 8) ||| BitVec.ofInt 32 c
def sumOf (l : List Int) : BitVec 32 := l.foldl sumStep 0#32

theorem or_u32 (x : BitVec 32) (y : Int) : bits .or .u32 (u32 x * 256 % 4294967296) (y % 4294967296) = u32 (sumStep x y) := by
  have e1 : BitVec.ofInt 32 (u32 x * 256 % 4294967296) = x <<< 8 := by
    apply BitVec.eq_of_toNat_eq
    rw [BitVec.toNat_ofInt, BitVec.toNat_shiftLeft, Nat.shiftLeft_eq]
    unfold u32
    omega
  have e2 : BitVec.ofInt 32 (y % 4294967296) = BitVec.ofInt 32 y := by
    apply BitVec.eq_of_toNat_eq
    rw [BitVec.toNat_ofInt, BitVec.toNat_ofInt]
    omega
  show IntKind.u32.wrap ((BitVec.ofInt 32 (u32 x * 256 % 4294967296) ||| BitVec.ofInt 32 (y % 4294967296)).toNat : Int) = _
  rw [e1, e2, wrap_u32]
  rfl
theorem sumOf_snoc (l : List Int) (c : Int) : sumOf (l ++ [c]) = sumStep (sumOf l) c := by simp [sumOf]
theorem u32_inj {x y : BitVec 32} (h : u32 x = u32 y) : x = y := by
  apply BitVec.eq_of_toNat_eq
  unfold u32 at h
  omega
theorem u32_bne (x y : BitVec 32) : (u32 x != u32 y) = decide (x ≠ y) := by
  rw [Bool.eq_iff_iff, bne_iff_ne, decide_eq_true_eq]
  exact ⟨fun h e => h (by rw [e]), fun h e => h (u32_inj e)⟩

/-- Reading a frame: its kind, its body, how many bytes it takes, the error. -/
def unfr (bs : List Int) : Int × List Int × Nat × Int :=
  if bs = [] then (0, [], 0, 3) else
    if (decU bs.tail).2.2 ≠ 0 then (0, [], 0, (decU bs.tail).2.2) else
      if 1048576 < (decU bs.tail).1 then (0, [], 0, 2) else
        if (bs.length : Int) - (1 + ((decU bs.tail).2.1 : Int)) < (decU bs.tail).1 + 4 then (0, [], 0, 3) else
          if sumOf ((bs.drop (1 + (decU bs.tail).2.1 + (decU bs.tail).1.toNat)).take 4) ≠ crc (bs.take (1 + (decU bs.tail).2.1 + (decU bs.tail).1.toNat)) then (0, [], 0, 4) else
            (bs.getD 0 0, (bs.drop (1 + (decU bs.tail).2.1)).take (decU bs.tail).1.toNat, 1 + (decU bs.tail).2.1 + (decU bs.tail).1.toNat + 4, 0)
def UnPost (w : World) (r : Int × List Int × Nat × Int) (e : Ending) (w' : World) : Prop :=
  ∃ A n c, e = .returned (.tuple #[.int .u8 r.1, .slice A n c, .int .i64 r.2.2.1, .int .i64 r.2.2.2]) ∧ Sl (Ty.int .u8) w' (fun b => w.heap.size ≤ b ∧ b < w'.heap.size) A n c r.2.1 ∧ Below w.heap.size w w'

theorem un_fin {w w1 w9 : World} {g n cap : Nat} {bd : List Int} {q : Nat} (hb : Below w.heap.size w w1) (hg : (w1.drewN q).grownBy w9 (Value.slice none 0 0).ownBlock) (ho : w9.ownsRow w1.heap.size 5 1 (.slice (some ⟨g, 0, none⟩) (0 + n) cap) (0 + n) ([] ++ bd.map (Value.int .u8))) (hl : bd.length = n) :
    Sl (Ty.int .u8) w9 (fun b => w.heap.size ≤ b ∧ b < w9.heap.size) (some ⟨g, 0, none⟩) (0 + n) cap bd ∧ Below w.heap.size w w9 := by
  subst hl
  rw [Nat.zero_add, List.nil_append] at *
  have ho' : Own (Ty.int .u8) 5 w9 w1.heap.size (.slice (some ⟨g, 0, none⟩) bd.length cap) bd := own_ints.2 ho
  obtain ⟨A, c, e, hs⟩ := ho'.sl
  injection e with e1 _ e3
  subst e1 e3
  have := hb.size
  exact ⟨hs.more fun b h => ⟨by omega, h.2⟩, (below_drewN hb q).grown hg (by simpa using this) fun k hk => by cases hk⟩
set_option maxRecDepth 100000 in
set_option maxHeartbeats 800000 in
theorem unframe_long (bs : List Int) (A : Option Addr) (m c : Nat) (w : World) (h : Sl (Ty.int .u8) w (all_ w) A m c bs) (hb : ∀ x ∈ bs, isByte x) (n used : Nat) (hm : 0 < m) (hd : decU bs.tail = ((n : Int), used, 0)) (hu : 1 ≤ used) (hn : n ≤ 1048576) (hl : 1 + used + n + 4 ≤ m) :
    Calls Tryz.prog 45 #[.slice A m c] w (UnPost w (unfr bs)) := by
  have hle := h.le
  unfold maxLen at hle
  have hn1 : m ≤ bs.length := Nat.le_of_eq h.len
  have hn2 : bs.length ≤ m := Nat.le_of_eq h.len.symm
  have hmc : m ≤ c := h.2.1
  have hcm := h.2.2.1
  unfold maxLen at hcm
  have HS := Lib.hid h
  have HBY := Lib.hid hb
  obtain ⟨b, o, rfl, hbS, hc0⟩ := h.int_at (k := 0) (by omega)
  have ht : bs.tail = (bs.drop 1).take (m - 1) := by rw [List.take_of_length_le (by rw [List.length_drop]; omega)]; simp
  have hs1 := h.sub 1 (m - 1) (by omega) b (o + 1) (fun _ => ⟨rfl, by simp [Ty.int]⟩)
  rw [← ht] at hs1
  have HC := Lib.hid (decodeUint_any bs.tail _ _ _ _ w hs1 (fun x hx => hb x (List.mem_of_mem_tail hx)))
  rw [hd] at HC
  have hc1 : ¬ c = 1 := by omega
  have hm0 : ((m : Int) == 0) = false := by simp; omega
  have HU : Hid (unfr bs = if sumOf ((bs.drop (1 + used + n)).take 4) ≠ crc (bs.take (1 + used + n)) then (0, [], 0, 4) else (bs.getD 0 0, (bs.drop (1 + used)).take n, 1 + used + n + 4, 0)) := by
    show _ = _
    have hne : bs ≠ [] := fun e => by rw [e] at hn1; simp at hn1; omega
    unfold unfr
    rw [hd, if_neg hne, if_neg (by simp), if_neg (by simp only; omega), if_neg (by simp only; omega)]
    rfl
  have hy0 : bs.getD 0 0 = bs[0] := by rw [List.getD_eq_getElem?_getD, List.getElem?_eq_getElem (by omega)]; rfl
  rw [← hy0, Nat.add_zero] at hc0
  clear h hs1 ht hd hb hy0
  go_enter Tryz.func45, Tryz.ntmps45
  go_wp2_with fail
  refine HC.out.mono ?_
  rintro e w' ⟨rfl, rfl⟩
  have d1 : decide ((1048576 : Int) < (n : Int)) = false := by simp; omega
  have d2 : decide ((m : Int) - (1 + (used : Int)) < (n : Int) + 4) = false := by simp; omega
  have hc2 : ¬ c = 1 + used + n := by omega
  go_wp2_with fail
  clear d1 d2
  have hl4 : ((bs.drop (1 + used + n)).take 4).length = 4 := by rw [List.length_take, List.length_drop]; omega
  have HL4 := Lib.hid hl4
  clear hl4
  go_loop [10, 12, 46] (fun s _ i => ∃ k : Nat, k ≤ 4 ∧ i = .int .i64 k ∧ s = .int .u32 (u32 (sumOf (((bs.drop (1 + used + n)).take 4).take k)))) (fun _ _ i => 4 - (intOf i).toNat)
  case atStart => exact ⟨0, Nat.zero_le _, rfl, by rw [List.take_zero]; rfl⟩
  case round =>
    obtain ⟨k, hk, rfl, rfl⟩ := hrel
    by_cases hlt : k < 4
    · have hcell : w.cell? ⟨b, o + (1 + used + n) + k, none⟩ = some (.int .u8 (bs.getD ((1 + used + n) + k) 0)) := by
        obtain ⟨b', o', e', _, hc⟩ := HS.out.int_at (k := (1 + used + n) + k) (by omega)
        injection e' with e'
        injection e' with e1 e2
        subst e1 e2
        rw [List.getD_eq_getElem?_getD, List.getElem?_eq_getElem (by omega), Nat.add_assoc]
        exact hc
      have HX : Hid (sumOf (((bs.drop (1 + used + n)).take 4).take (k + 1)) = sumStep (sumOf (((bs.drop (1 + used + n)).take 4).take k)) (bs.getD ((1 + used + n) + k) 0)) := by
        show _ = _
        rw [List.take_succ_eq_append_getElem (by have := HL4.out; omega), sumOf_snoc]
        congr 1
        rw [List.getElem_take, List.getElem_drop, List.getD_eq_getElem?_getD, List.getElem?_eq_getElem (by omega)]
        rfl
      generalize bs.getD ((1 + used + n) + k) 0 = y at *
      generalize sumOf (((bs.drop (1 + used + n)).take 4).take k) = x at *
      have HO := Lib.hid (or_u32 x y)
      go_wp2_with fail
      go_round
      case rel => exact ⟨k + 1, by omega, by go_num, by rw [HX.out, HO.out]⟩
      case measure => simp [intOf]; omega
    · have HX : Hid (sumOf (((bs.drop (1 + used + n)).take 4).take k) = sumOf ((bs.drop (1 + used + n)).take 4)) := by show _ = _; rw [List.take_of_length_le (by have := HL4.out; omega)]
      generalize sumOf (((bs.drop (1 + used + n)).take 4).take k) = x at *
      have hs2 := HS.out.sub 0 (1 + used + n) (by omega) b o (fun _ => ⟨rfl, by simp⟩)
      rw [List.drop_zero, Nat.sub_zero] at hs2
      have HCK := Lib.hid (checksum_any (bs.take (1 + used + n)) _ _ _ w hs2)
      clear hs2
      generalize hcc : crc (bs.take (1 + used + n)) = cc at *
      have HCC := Lib.hid hcc
      clear hcc
      have HNE := Lib.hid (u32_bne x cc)
      go_wp2_with fail
      refine HCK.out.mono ?_
      rintro e w1 ⟨rfl, hb1⟩
      clear HCK
      by_cases hxc : x = cc
      · have hne : (u32 x != u32 cc) = false := by rw [HNE.out]; simpa using hxc
        have HR : Hid (unfr bs = (bs.getD 0 0, (bs.drop (1 + used)).take n, 1 + used + n + 4, 0)) := by
          show _ = _
          rw [HU.out, if_neg (by rw [← HX.out]; simpa using hxc)]
        clear hxc HU HX HNE HCC HL4
        generalize bs.getD 0 0 = y0 at *
        have hc0' : w1.cell? ⟨b, o, none⟩ = some (.int .u8 y0) := (hb1.cell (by show b < _; exact hbS)).trans hc0
        have hsb := HS.out.sub (1 + used) n (by omega) b (o + (1 + used)) (fun _ => ⟨rfl, by simp [Ty.int]⟩)
        have hs9 := hb1.size
        have hc3 : ¬ c = 1 + used := by omega
        have s1 : 0 ≤ 1 + (used : Int) := by omega
        have s2 : 1 + (used : Int) ≤ 1 + (used : Int) + n := by omega
        have s3 : 1 + (used : Int) + n ≤ c := by omega
        have s4 : (1 + (used : Int)).toNat = 1 + used := by omega
        have s5 : (1 + (used : Int) + n).toNat = 1 + used + n := by omega
        have s6 : 1 + used + n - (1 + used) = n := by omega
        have s7 : IntKind.i64.wrap (1 + (used : Int) + n + 4) = 1 + (used : Int) + n + 4 := IntWalk.i64_in _ (by omega)
        rcases Nat.eq_zero_or_pos n with rfl | hnp
        · clear hsb
          go_wp2_with fail
          go_region
          all_goals
            go_wp2_with fail
            refine bodyPost_ret (v := .tuple #[.int .u8 y0, .slice none 0 0, .int .i64 (1 + (used : Int) + 4), .int .i64 0]) (by simp [results, Tryz.results45, go_sem]) rfl ⟨none, 0, 0, by rw [HR.out]; simp, by rw [HR.out]; exact Sl.nil0, below_drewN hb1 _⟩
        · have hbl : (bs.drop (1 + used)).take n ≠ [] := fun e => by
            have := congrArg List.length e
            rw [List.length_take, List.length_drop] at this
            simp at this
            omega
          obtain ⟨b2, o2, e2, _, hcl⟩ := (hsb.keep (w' := w1) (all_keep hb1)).int_cells hbl
          injection e2 with e2
          injection e2 with e21 e22
          subst e21 e22
          have hbln : ((bs.drop (1 + used)).take n).length = n := hsb.len.symm
          generalize (bs.drop (1 + used)).take n = bd at *
          have HCL : Hid (∀ q, ∀ j u, (bd.map (Value.int .u8))[j]? = some u → (w1.drewN q).cell? ((⟨b, o + (1 + used), none⟩ : Addr).add j) = some u) := fun q => hcl
          have HLN := Lib.hid hbln
          obtain ⟨i0, i1, i2, i3, i4⟩ := byte_info
          have HI := Lib.hid (And.intro i1 (And.intro i2 (And.intro i3 i4)))
          clear hcl hbln hsb hbl i1 i2 i3 i4
          go_wp2_with fail
          go_region_law (first | (refine step_append_lies _ rfl (.const (.slice none 0 0)) (.tmp 68) 37 rfl w1.heap.size 5 i0 (.int .u8 0) 1 1 Tryz.underlying37 HI.out.1 HI.out.2.1 HI.out.2.2.1 HI.out.2.2.2 rfl (by decide) (.slice none 0 0) 0 [] (by simp [Act.eval, Act.put]) (World.ownsRow_nil _ _ _ _) ⟨b, o + (1 + used), none⟩ n (c - (1 + used)) (bd.map (Value.int .u8)) (by simp [Act.eval, Act.put]) (by simp [HLN.out]) (HCL.out _) (fun u hu => by obtain ⟨_, _, rfl⟩ := List.mem_map.1 hu; rfl) (by omega) (by unfold maxLen; omega) (by omega) (by simp) _ rfl ?_; intro g9 cap9 w9 hown9 hgr9 hat9 hlt9; have hc9 : w9.cell? ⟨b, o, none⟩ = some (.int .u8 y0) := (hgr9.cell_far _ (by show b < w1.heap.size; exact Nat.lt_of_lt_of_le hbS hs9) (by simp [Value.ownBlock])).trans hc0') | fail)
          all_goals
            go_wp2_with fail
            have hfin := un_fin hb1 hgr9 hown9 HLN.out
            refine bodyPost_ret (v := .tuple #[.int .u8 y0, .slice (some ⟨g9, 0, none⟩) (0 + n) cap9, .int .i64 (1 + (used : Int) + n + 4), .int .i64 0]) (by simp [results, Tryz.results45, go_sem]) rfl ⟨_, _, _, by rw [HR.out]; rfl, by rw [HR.out]; exact hfin.1, hfin.2⟩
      · have hne : (u32 x != u32 cc) = true := by rw [HNE.out]; simpa using hxc
        have HR : Hid (unfr bs = (0, [], 0, 4)) := by
          show _ = _
          rw [HU.out, if_pos (by rw [← HX.out]; simpa using hxc)]
        clear hxc HU HX HNE
        go_wp2_with fail
        refine bodyPost_ret (v := .tuple #[.int .u8 0, .slice none 0 0, .int .i64 0, .int .i64 4]) (by simp [results, Tryz.results45, go_sem]) rfl ⟨none, 0, 0, by rw [HR.out]; rfl, by rw [HR.out]; exact Sl.nil0, hb1⟩
set_option maxRecDepth 100000 in
theorem unframe_any (bs : List Int) (A : Option Addr) (m c : Nat) (w : World) (h : Sl (Ty.int .u8) w (all_ w) A m c bs) (hb : ∀ x ∈ bs, isByte x) :
    Calls Tryz.prog 45 #[.slice A m c] w (UnPost w (unfr bs)) := by
  have hle := h.le
  unfold maxLen at hle
  have hn1 : m ≤ bs.length := Nat.le_of_eq h.len
  have hn2 : bs.length ≤ m := Nat.le_of_eq h.len.symm
  have hmc : m ≤ c := h.2.1
  have hcm := h.2.2.1
  unfold maxLen at hcm
  rcases Nat.eq_zero_or_pos m with rfl | hm
  · have hbs : bs = [] := List.eq_nil_of_length_eq_zero (by omega)
    have HR : Hid (unfr bs = (0, [], 0, 3)) := by show _ = _; unfold unfr; rw [if_pos hbs]
    clear h hb hbs
    go_enter Tryz.func45, Tryz.ntmps45
    go_wp2_with fail
    refine bodyPost_ret (v := .tuple #[.int .u8 0, .slice none 0 0, .int .i64 0, .int .i64 3]) (by simp [results, Tryz.results45, go_sem]) rfl ⟨none, 0, 0, by rw [HR.out]; rfl, by rw [HR.out]; exact Sl.nil0, Below.refl _ _⟩
  have hne : bs ≠ [] := fun e => by rw [e] at hn1; simp at hn1; omega
  obtain ⟨b, o, rfl, hbS, hc0⟩ := h.int_at (k := 0) (by omega)
  have ht : bs.tail = (bs.drop 1).take (m - 1) := by rw [List.take_of_length_le (by rw [List.length_drop]; omega)]; simp
  have hbt : ∀ x ∈ bs.tail, isByte x := fun x hx => hb x (List.mem_of_mem_tail hx)
  have hok := decU_ok hbt
  have HU : Hid (unfr bs = if (decU bs.tail).2.2 ≠ 0 then (0, [], 0, (decU bs.tail).2.2) else
      if 1048576 < (decU bs.tail).1 then (0, [], 0, 2) else
        if (bs.length : Int) - (1 + ((decU bs.tail).2.1 : Int)) < (decU bs.tail).1 + 4 then (0, [], 0, 3) else unfr bs) := by
    show _ = _
    by_cases q1 : (decU bs.tail).2.2 ≠ 0
    · rw [if_pos q1]; unfold unfr; rw [if_neg hne, if_pos q1]
    · rw [if_neg q1]
      by_cases q2 : 1048576 < (decU bs.tail).1
      · rw [if_pos q2]; unfold unfr; rw [if_neg hne, if_neg q1, if_pos q2]
      · rw [if_neg q2]
        by_cases q3 : (bs.length : Int) - (1 + ((decU bs.tail).2.1 : Int)) < (decU bs.tail).1 + 4
        · rw [if_pos q3]; unfold unfr; rw [if_neg hne, if_neg q1, if_neg q2, if_pos q3]
        · rw [if_neg q3]
  have HL := Lib.hid (unframe_long bs (some ⟨b, o, none⟩) m c w h hb)
  have hm0 : ((m : Int) == 0) = false := by simp; omega
  by_cases hc1 : c = 1
  · have hs1 := h.sub 1 (m - 1) (by omega) b o (by omega)
    rw [← ht] at hs1
    have HC := Lib.hid (decodeUint_any bs.tail _ _ _ _ w hs1 hbt)
    have hm1 : m = 1 := by omega
    subst hc1 hm1
    have ht0 : bs.tail = [] := by rw [ht]; simp
    rw [ht0] at HC HU
    have HR : Hid (unfr bs = (0, [], 0, 3)) := by show _ = _; rw [HU.out]; rfl
    have hd : decU [] = (0, 0, 3) := rfl
    rw [hd] at HC
    clear h hb hs1 ht HU ht0 hok hbt HL hd hc0
    go_enter Tryz.func45, Tryz.ntmps45
    go_wp2_with fail
    refine HC.out.mono ?_
    rintro e w' ⟨rfl, rfl⟩
    go_wp2_with fail
    refine bodyPost_ret (v := .tuple #[.int .u8 0, .slice none 0 0, .int .i64 0, .int .i64 3]) (by simp [results, Tryz.results45, go_sem]) rfl ⟨none, 0, 0, by rw [HR.out]; rfl, by rw [HR.out]; exact Sl.nil0, Below.refl _ _⟩
  have hs1 := h.sub 1 (m - 1) (by omega) b (o + 1) (fun _ => ⟨rfl, by simp [Ty.int]⟩)
  rw [← ht] at hs1
  have HC := Lib.hid (decodeUint_any bs.tail _ _ _ _ w hs1 hbt)
  have htl : bs.tail.length = m - 1 := by rw [List.length_tail]; omega
  have HTL := Lib.hid htl
  clear h hb hs1 ht htl hbt hc0
  generalize hdd : decU bs.tail = d at *
  obtain ⟨u, used, e⟩ := d
  have HDD := Lib.hid hdd
  clear hdd
  simp only at hok HU HC
  by_cases he : e = 0
  · subst he
    obtain ⟨k1, k2, k3, k4, k5⟩ := hok rfl
    have k4' : used ≤ m - 1 := by have := HTL.out; omega
    clear hok k4
    rw [if_neg (by simp)] at HU
    by_cases hbig : 1048576 < u
    · have HR : Hid (unfr bs = (0, [], 0, 2)) := by show _ = _; rw [HU.out, if_pos hbig]
      clear HU HL
      go_enter Tryz.func45, Tryz.ntmps45
      go_wp2_with fail
      refine HC.out.mono ?_
      rintro e w' ⟨rfl, rfl⟩
      go_wp2_with fail
      refine bodyPost_ret (v := .tuple #[.int .u8 0, .slice none 0 0, .int .i64 0, .int .i64 2]) (by simp [results, Tryz.results45, go_sem]) rfl ⟨none, 0, 0, by rw [HR.out]; rfl, by rw [HR.out]; exact Sl.nil0, Below.refl _ _⟩
    · rw [if_neg hbig] at HU
      by_cases hcut : (m : Int) - (1 + (used : Int)) < u + 4
      · have HR : Hid (unfr bs = (0, [], 0, 3)) := by show _ = _; rw [HU.out, if_pos (by omega)]
        have hbig' : u ≤ 1048576 := by omega
        clear HU HL hbig
        go_enter Tryz.func45, Tryz.ntmps45
        go_wp2_with fail
        refine HC.out.mono ?_
        rintro e w' ⟨rfl, rfl⟩
        go_wp2_with fail
        refine bodyPost_ret (v := .tuple #[.int .u8 0, .slice none 0 0, .int .i64 0, .int .i64 3]) (by simp [results, Tryz.results45, go_sem]) rfl ⟨none, 0, 0, by rw [HR.out]; rfl, by rw [HR.out]; exact Sl.nil0, Below.refl _ _⟩
      · obtain ⟨n, rfl⟩ := Int.eq_ofNat_of_zero_le k1
        exact HL.out n used hm rfl k3 (by omega) (by omega)
  · have HR : Hid (unfr bs = (0, [], 0, e)) := by show _ = _; rw [HU.out, if_pos he]
    have he' : (e != 0) = true := by simpa using he
    clear HU HL he hok
    go_enter Tryz.func45, Tryz.ntmps45
    go_wp2_with fail
    refine HC.out.mono ?_
    rintro e w' ⟨rfl, rfl⟩
    go_wp2_with fail
    refine bodyPost_ret (v := .tuple #[.int .u8 0, .slice none 0 0, .int .i64 0, .int .i64 e]) (by simp [results, Tryz.results45, go_sem]) rfl ⟨none, 0, 0, by rw [HR.out]; rfl, by rw [HR.out]; exact Sl.nil0, Below.refl _ _⟩
end Go.Proofs.YtldeoaddogifpaaGreatDoor
