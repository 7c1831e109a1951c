/-
  The walk of pairinglaw9.TimetableTorn.
  Condition: none but that the arguments read as their types.
-/
import Derived.Test.YtldeoaddogifpaaLawTorn
import Derived.Deep.DeepCutAuto
namespace Go.Proofs.Ytldeoaddogifpaa
set_option linter.unusedSimpArgs false
set_option linter.unusedVariables false
open Go.RowKit

set_option maxRecDepth 100000 in
set_option maxHeartbeats 1600000 in
theorem lawTorn_any (l : List Int) (A : Option Addr) (n c : Nat) (ai bi : Int) (w : World) (h : Sl (Ty.int .i64) w (all_ w) A n c l) (hbi : 0 ≤ bi ∧ bi ≤ 255) :
    Calls Try.prog 6 #[.slice A n c, .int .i64 ai, .int .u8 bi] w (AwPost w) := by
  have HT := Lib.hid (baseTT_any l A n c w h)
  have hval := base_valid l
  have HOK := Lib.hid hval.fine.ok
  have HZ := Lib.hid (ttE_zero.2 hval)
  have HBB : Hid (frameB 1 (bodyB (baseTT l)) = baseB l) := rfl
  have hlen := baseB_len l
  have HBY := Lib.hid (baseB_bytes l)
  have HCUT : Hid (∀ k, k < (baseB l).length → decTT ((baseB l).take k) = (noTT, 3)) := fun k hk => dec_cut l hk
  have HMORE := Lib.hid (dec_more l bi)
  have HCH : Hid (∀ j, (j = 0 ∨ 3 ≤ j) → j < (baseB l).length → decTT ((baseB l).set j (turned ((baseB l).getD j 0) bi)) = (noTT, 4)) := fun j hj hl => dec_change l hj hl
  clear h hval
  go_enter Try.func6, Try.ntmps6
  go_wp2_with fail
  refine HT.out.mono ?_
  clear HT
  rintro e w1 ⟨A1, n1, c1, A2, n2, c2, A3, n3, c3, rfl, hs1, hs2, hs3, hb1⟩
  have HEN := Lib.hid (ttEncode_ok (baseTT l) A1 A2 A3 n1 n2 n3 c1 c2 c3 w1 HOK.out HZ.out (hs1.more fun b hb => hb.2) (hs2.more fun b hb => hb.2) (hs3.more fun b hb => hb.2))
  rw [HBB.out] at HEN
  clear hs1 hs2 hs3 HOK HZ HBB
  go_wp2_with fail
  refine HEN.out.mono ?_
  clear HEN
  generalize baseB l = B at *
  rintro e w2 ⟨v2, rfl, hown2, hb2⟩
  have hne : B ≠ [] := fun e => by rw [e] at hlen; simp at hlen
  obtain ⟨q, cq, rfl, hq1, hq2, hq3⟩ := hown2.int_sl hne
  obtain ⟨A', c', e2, hsl2⟩ := hown2.sl
  injection e2 with e21 _ e23
  subst e21 e23
  have HSL := Lib.hid hsl2
  have HQ := Lib.hid hq3
  have hcq : B.length ≤ cq := hsl2.2.1
  have hcm := hsl2.2.2.1
  unfold maxLen at hcm
  clear hown2 hsl2 hq3 hne
  have hl0 : ((B.length : Int) == 0) = false := beq_eq_false_iff_ne.2 (by omega)
  have ha1 : bits .and .i64 ai 65535 = ai % 65536 := and_ffff ai
  have hm1 : 0 ≤ ai % 65536 % (B.length : Int) := Int.emod_nonneg _ (by omega)
  have hm2 : ai % 65536 % (B.length : Int) < (B.length : Int) := Int.emod_lt_of_pos _ (by omega)
  obtain ⟨k, hk⟩ := Int.eq_ofNat_of_zero_le hm1
  have hm3 : (ai % 65536).tmod (B.length : Int) = (k : Int) := by rw [Int.tmod_eq_emod_of_nonneg (show 0 ≤ ai % 65536 by omega)]; exact hk
  have hkl : k < B.length := by omega
  rw [hk] at hm1 hm2
  have hbw2 : Below w.heap.size w w2 := hb1.trans (hb2.mono hb1.size)
  have hsk : Sl (Ty.int .u8) w2 (all_ w2) (some ⟨q, 0, none⟩) k cq (B.take k) := by
    have := (HSL.out.more (S' := all_ w2) fun b hb => hb.2).sub 0 k (by omega) q 0 (fun _ => ⟨rfl, by simp⟩)
    rwa [List.drop_zero, Nat.sub_zero] at this
  have HD1 := Lib.hid (ttDecode_any (B.take k) _ _ _ w2 hsk fun x hx => HBY.out x (List.mem_of_mem_take hx))
  rw [HCUT.out k hkl] at HD1
  clear hsk
  go_wp2_with fail
  refine HD1.out.mono ?_
  clear HD1
  rintro e w3 ⟨D1, d1, g1, D2, d2, g2, D3, d3, g3, rfl, _, _, _, hb3⟩
  clear ha1 hm3
  -- the copy
  have hA : ∀ o, Below w3.heap.size w3 (w3.alloc o) := fun o => (Below.refl _ _).alloc (Nat.le_refl _) o
  have hs3 := hb3.size
  have HBW3 : Hid (∀ V, Below w3.heap.size w3 V → Below w.heap.size w V) := fun V hV => hbw2.trans ((hb3.mono hbw2.size).trans (hV.mono (by have := hbw2.size; omega)))
  have HQ3 : Hid (∀ V, Below w3.heap.size w3 V → ∀ j u, (B.map (Value.int .u8))[j]? = some u → V.cell? ((⟨q, 0, none⟩ : Addr).add j) = some u) := fun V hV j u hj => by
    rw [addr_add, hV.cell (by simp; omega), hb3.cell (by simpa using hq2), ← addr_add]
    exact HQ.out j u hj
  go_wp2_with (at_builtin; refine wpList_push_rowB (κ := .u8) (W := w3) (B := w3.heap.size) (base := w3.heap.size + 1) (xs := []) (ys := B) rfl _ _ rfl elem_bytes (by decide) (by decide) rfl Own.nil ⟨q, 0, none⟩ B.length cq rfl rfl ?a1 ?a2 ?a3 (Nat.le_succ _) (hA _) ?_)
  case a1 => exact HQ3.out _ (hA _)
  case a2 => simp; omega
  case a3 => simp
  intro v4 w4 hown4 hb4
  clear hA
  have hs4 := hb4.size
  -- the changed position
  have HO4 := Lib.hid hown4
  clear hown4
  by_cases hk1 : k = 1
  · subst hk1
    go_upto_region 9 with (fail)
    have hj : (0 = 0 ∨ 3 ≤ 0) := .inl rfl
    have hjl : 0 < B.length := by omega
    obtain ⟨g4, cc4, rfl, hg41, hg42, hc4, hf4, hset4⟩ := HO4.out.int_at hjl
    have eB : B[0] = B.getD 0 0 := by rw [List.getD_eq_getElem?_getD, List.getElem?_eq_getElem hjl]; rfl
    rw [eB] at hc4
    have HSET := Lib.hid (hset4 (turned (B.getD 0 0) bi))
    have HCHJ := Lib.hid (HCH.out 0 hj hjl)
    have HTU : Hid (bits .xor .u8 (B.getD 0 0) (bits .or .u8 bi 1) = turned (B.getD 0 0) bi) := rfl
    have HTB := Lib.hid (turned_byte (B.getD 0 0) bi)
    clear hset4 eB HO4 HCH hj
    generalize B.getD 0 0 = y at *
    generalize hty : turned y bi = ty at *
    have hxx : bits .xor .u8 y (bits .or .u8 bi 1) = ty := HTU.out
    clear hty
    have hB5 : Below w3.heap.size w3 (w4.setCell ⟨g4, 0, none⟩ (.int .u8 ty)) := hb4.setCell (by simp; omega) _
    have HD2 : Hid (Calls Try.prog 16 #[.slice (some ⟨g4, 0, none⟩) B.length cc4] (w4.setCell ⟨g4, 0, none⟩ (.int .u8 ty)) (DecPost noTT 4 (w4.setCell ⟨g4, 0, none⟩ (.int .u8 ty)))) := by
      obtain ⟨A5, c5, e5, hsl5⟩ := HSET.out.sl
      rw [List.length_set] at e5 hsl5
      injection e5 with e51 _ e53
      subst e51 e53
      have := ttDecode_any (B.set 0 ty) _ _ _ _ (hsl5.more fun b hb => hb.2) (fun x hx => by
        rcases List.mem_or_eq_of_mem_set hx with h1 | rfl
        · exact HBY.out x h1
        · exact HTB.out)
      rw [HCHJ.out] at this
      exact this
    go_wp2_with fail
    refine HD2.out.mono ?_
    clear HD2
    rintro e w6 ⟨D1', d1', g1', D2', d2', g2', D3', d3', g3', rfl, _, _, _, hb6⟩
    have hW6 : Below w3.heap.size w3 w6 := hB5.trans (hb6.mono hB5.size)
    have hs6 := hW6.size
    have hA6 : ∀ o, Below w6.heap.size w6 (w6.alloc o) := fun o => (Below.refl _ _).alloc (Nat.le_refl _) o
    clear hxx hc4 hf4 HSET HCHJ HTU
    go_wp2_with (at_builtin; refine wpList_push_rowB (κ := .u8) (W := w6) (B := w6.heap.size) (base := w6.heap.size + 1) (xs := []) (ys := B) rfl _ _ rfl elem_bytes (by decide) (by decide) rfl Own.nil ⟨q, 0, none⟩ B.length cq rfl rfl ?b11 ?b21 ?b31 (Nat.le_succ _) (hA6 _) ?_)
    case b11 => exact HQ3.out _ (hW6.trans ((hA6 _).mono hs6))
    case b21 => simp; omega
    case b31 => simp
    intro v7 w7 hown7 hb7
    have hs7 := hb7.size
    have hs7' : w6.heap.size + 1 ≤ w7.heap.size := by
      obtain ⟨g7, c7, _, hg, hgl, _⟩ := hown7.int_sl (fun e => by (try rw [List.nil_append] at e); rw [e] at hlen; simp at hlen)
      omega
    go_wp2_with (at_builtin; refine wpList_push_int rfl _ _ rfl elem_bytes (by decide) (by decide) rfl (hown7.alloc _) w7.heap.size bi rfl ?d11 ?d21 ?d31 (Nat.le_succ _) (hb7.alloc hs7 _) ?_)
    case d11 => simp
    case d21 => first | omega | (simp; omega)
    case d31 => simp; omega
    intro v8 w8 hown8 hb8
    obtain ⟨A8, c8, rfl, hsl8⟩ := hown8.sl
    have HD3 := Lib.hid (ttDecode_any (B ++ [bi]) A8 _ c8 w8 (hsl8.more fun b hb => hb.2) (fun x hx => by
      rw [List.mem_append, List.mem_singleton] at hx
      rcases hx with hx | rfl
      · exact HBY.out x hx
      · exact ⟨hbi.1, by omega⟩))
    rw [HMORE.out, show (B ++ [bi]).length = B.length + 1 by simp] at HD3
    have hW8 : Below w3.heap.size w3 w8 := hW6.trans (hb8.mono hs6)
    clear hown7 hown8 hsl8 hb7
    go_wp2_with fail
    refine HD3.out.mono ?_
    clear HD3
    rintro e w9 ⟨D1'', d1'', g1'', D2'', d2'', g2'', D3'', d3'', g3'', rfl, _, _, _, hb9⟩
    have hW9 : ∀ o, Below w.heap.size w (w9.alloc o) := fun o => HBW3.out _ ((hW8.trans (hb9.mono hW8.size)).alloc (by have := hW8.size; have := hb9.size; omega) o)
    have HW9 := Lib.hid hW9
    clear hW9
    go_wp2_with fail
    refine (awake_any _).mono ?_
    rintro e w10 ⟨rfl, hb10⟩
    have hfin := (HW9.out _).trans (hb10.mono (HW9.out _).size)
    go_wp2_with fail
    go_ret
    exact ⟨rfl, hfin⟩
  · have hk1' : ((k : Int) == 1) = false := beq_eq_false_iff_ne.2 (by omega)
    by_cases hk2 : k = 2
    · subst hk2
      go_upto_region 9 with (fail)
      have hj : (0 = 0 ∨ 3 ≤ 0) := .inl rfl
      have hjl : 0 < B.length := by omega
      obtain ⟨g4, cc4, rfl, hg41, hg42, hc4, hf4, hset4⟩ := HO4.out.int_at hjl
      have eB : B[0] = B.getD 0 0 := by rw [List.getD_eq_getElem?_getD, List.getElem?_eq_getElem hjl]; rfl
      rw [eB] at hc4
      have HSET := Lib.hid (hset4 (turned (B.getD 0 0) bi))
      have HCHJ := Lib.hid (HCH.out 0 hj hjl)
      have HTU : Hid (bits .xor .u8 (B.getD 0 0) (bits .or .u8 bi 1) = turned (B.getD 0 0) bi) := rfl
      have HTB := Lib.hid (turned_byte (B.getD 0 0) bi)
      clear hset4 eB HO4 HCH hj
      generalize B.getD 0 0 = y at *
      generalize hty : turned y bi = ty at *
      have hxx : bits .xor .u8 y (bits .or .u8 bi 1) = ty := HTU.out
      clear hty
      have hB5 : Below w3.heap.size w3 (w4.setCell ⟨g4, 0, none⟩ (.int .u8 ty)) := hb4.setCell (by simp; omega) _
      have HD2 : Hid (Calls Try.prog 16 #[.slice (some ⟨g4, 0, none⟩) B.length cc4] (w4.setCell ⟨g4, 0, none⟩ (.int .u8 ty)) (DecPost noTT 4 (w4.setCell ⟨g4, 0, none⟩ (.int .u8 ty)))) := by
        obtain ⟨A5, c5, e5, hsl5⟩ := HSET.out.sl
        rw [List.length_set] at e5 hsl5
        injection e5 with e51 _ e53
        subst e51 e53
        have := ttDecode_any (B.set 0 ty) _ _ _ _ (hsl5.more fun b hb => hb.2) (fun x hx => by
          rcases List.mem_or_eq_of_mem_set hx with h1 | rfl
          · exact HBY.out x h1
          · exact HTB.out)
        rw [HCHJ.out] at this
        exact this
      go_wp2_with fail
      refine HD2.out.mono ?_
      clear HD2
      rintro e w6 ⟨D1', d1', g1', D2', d2', g2', D3', d3', g3', rfl, _, _, _, hb6⟩
      have hW6 : Below w3.heap.size w3 w6 := hB5.trans (hb6.mono hB5.size)
      have hs6 := hW6.size
      have hA6 : ∀ o, Below w6.heap.size w6 (w6.alloc o) := fun o => (Below.refl _ _).alloc (Nat.le_refl _) o
      clear hxx hc4 hf4 HSET HCHJ HTU
      go_wp2_with (at_builtin; refine wpList_push_rowB (κ := .u8) (W := w6) (B := w6.heap.size) (base := w6.heap.size + 1) (xs := []) (ys := B) rfl _ _ rfl elem_bytes (by decide) (by decide) rfl Own.nil ⟨q, 0, none⟩ B.length cq rfl rfl ?b12 ?b22 ?b32 (Nat.le_succ _) (hA6 _) ?_)
      case b12 => exact HQ3.out _ (hW6.trans ((hA6 _).mono hs6))
      case b22 => simp; omega
      case b32 => simp
      intro v7 w7 hown7 hb7
      have hs7 := hb7.size
      have hs7' : w6.heap.size + 1 ≤ w7.heap.size := by
        obtain ⟨g7, c7, _, hg, hgl, _⟩ := hown7.int_sl (fun e => by (try rw [List.nil_append] at e); rw [e] at hlen; simp at hlen)
        omega
      go_wp2_with (at_builtin; refine wpList_push_int rfl _ _ rfl elem_bytes (by decide) (by decide) rfl (hown7.alloc _) w7.heap.size bi rfl ?d12 ?d22 ?d32 (Nat.le_succ _) (hb7.alloc hs7 _) ?_)
      case d12 => simp
      case d22 => first | omega | (simp; omega)
      case d32 => simp; omega
      intro v8 w8 hown8 hb8
      obtain ⟨A8, c8, rfl, hsl8⟩ := hown8.sl
      have HD3 := Lib.hid (ttDecode_any (B ++ [bi]) A8 _ c8 w8 (hsl8.more fun b hb => hb.2) (fun x hx => by
        rw [List.mem_append, List.mem_singleton] at hx
        rcases hx with hx | rfl
        · exact HBY.out x hx
        · exact ⟨hbi.1, by omega⟩))
      rw [HMORE.out, show (B ++ [bi]).length = B.length + 1 by simp] at HD3
      have hW8 : Below w3.heap.size w3 w8 := hW6.trans (hb8.mono hs6)
      clear hown7 hown8 hsl8 hb7
      go_wp2_with fail
      refine HD3.out.mono ?_
      clear HD3
      rintro e w9 ⟨D1'', d1'', g1'', D2'', d2'', g2'', D3'', d3'', g3'', rfl, _, _, _, hb9⟩
      have hW9 : ∀ o, Below w.heap.size w (w9.alloc o) := fun o => HBW3.out _ ((hW8.trans (hb9.mono hW8.size)).alloc (by have := hW8.size; have := hb9.size; omega) o)
      have HW9 := Lib.hid hW9
      clear hW9
      go_wp2_with fail
      refine (awake_any _).mono ?_
      rintro e w10 ⟨rfl, hb10⟩
      have hfin := (HW9.out _).trans (hb10.mono (HW9.out _).size)
      go_wp2_with fail
      go_ret
      exact ⟨rfl, hfin⟩
    · have hk2' : ((k : Int) == 2) = false := beq_eq_false_iff_ne.2 (by omega)
      go_upto_region 9 with (fail)
      have hj : (k = 0 ∨ 3 ≤ k) := by omega
      have hjl : k < B.length := by omega
      obtain ⟨g4, cc4, rfl, hg41, hg42, hc4, hf4, hset4⟩ := HO4.out.int_at hjl
      have eB : B[k] = B.getD k 0 := by rw [List.getD_eq_getElem?_getD, List.getElem?_eq_getElem hjl]; rfl
      rw [eB] at hc4
      have HSET := Lib.hid (hset4 (turned (B.getD k 0) bi))
      have HCHJ := Lib.hid (HCH.out k hj hjl)
      have HTU : Hid (bits .xor .u8 (B.getD k 0) (bits .or .u8 bi 1) = turned (B.getD k 0) bi) := rfl
      have HTB := Lib.hid (turned_byte (B.getD k 0) bi)
      clear hset4 eB HO4 HCH hj
      generalize B.getD k 0 = y at *
      generalize hty : turned y bi = ty at *
      have hxx : bits .xor .u8 y (bits .or .u8 bi 1) = ty := HTU.out
      clear hty
      have hB5 : Below w3.heap.size w3 (w4.setCell ⟨g4, k, none⟩ (.int .u8 ty)) := hb4.setCell (by simp; omega) _
      have HD2 : Hid (Calls Try.prog 16 #[.slice (some ⟨g4, 0, none⟩) B.length cc4] (w4.setCell ⟨g4, k, none⟩ (.int .u8 ty)) (DecPost noTT 4 (w4.setCell ⟨g4, k, none⟩ (.int .u8 ty)))) := by
        obtain ⟨A5, c5, e5, hsl5⟩ := HSET.out.sl
        rw [List.length_set] at e5 hsl5
        injection e5 with e51 _ e53
        subst e51 e53
        have := ttDecode_any (B.set k ty) _ _ _ _ (hsl5.more fun b hb => hb.2) (fun x hx => by
          rcases List.mem_or_eq_of_mem_set hx with h1 | rfl
          · exact HBY.out x h1
          · exact HTB.out)
        rw [HCHJ.out] at this
        exact this
      go_wp2_with fail
      refine HD2.out.mono ?_
      clear HD2
      rintro e w6 ⟨D1', d1', g1', D2', d2', g2', D3', d3', g3', rfl, _, _, _, hb6⟩
      have hW6 : Below w3.heap.size w3 w6 := hB5.trans (hb6.mono hB5.size)
      have hs6 := hW6.size
      have hA6 : ∀ o, Below w6.heap.size w6 (w6.alloc o) := fun o => (Below.refl _ _).alloc (Nat.le_refl _) o
      clear hxx hc4 hf4 HSET HCHJ HTU
      go_wp2_with (at_builtin; refine wpList_push_rowB (κ := .u8) (W := w6) (B := w6.heap.size) (base := w6.heap.size + 1) (xs := []) (ys := B) rfl _ _ rfl elem_bytes (by decide) (by decide) rfl Own.nil ⟨q, 0, none⟩ B.length cq rfl rfl ?b13 ?b23 ?b33 (Nat.le_succ _) (hA6 _) ?_)
      case b13 => exact HQ3.out _ (hW6.trans ((hA6 _).mono hs6))
      case b23 => simp; omega
      case b33 => simp
      intro v7 w7 hown7 hb7
      have hs7 := hb7.size
      have hs7' : w6.heap.size + 1 ≤ w7.heap.size := by
        obtain ⟨g7, c7, _, hg, hgl, _⟩ := hown7.int_sl (fun e => by (try rw [List.nil_append] at e); rw [e] at hlen; simp at hlen)
        omega
      go_wp2_with (at_builtin; refine wpList_push_int rfl _ _ rfl elem_bytes (by decide) (by decide) rfl (hown7.alloc _) w7.heap.size bi rfl ?d13 ?d23 ?d33 (Nat.le_succ _) (hb7.alloc hs7 _) ?_)
      case d13 => simp
      case d23 => first | omega | (simp; omega)
      case d33 => simp; omega
      intro v8 w8 hown8 hb8
      obtain ⟨A8, c8, rfl, hsl8⟩ := hown8.sl
      have HD3 := Lib.hid (ttDecode_any (B ++ [bi]) A8 _ c8 w8 (hsl8.more fun b hb => hb.2) (fun x hx => by
        rw [List.mem_append, List.mem_singleton] at hx
        rcases hx with hx | rfl
        · exact HBY.out x hx
        · exact ⟨hbi.1, by omega⟩))
      rw [HMORE.out, show (B ++ [bi]).length = B.length + 1 by simp] at HD3
      have hW8 : Below w3.heap.size w3 w8 := hW6.trans (hb8.mono hs6)
      clear hown7 hown8 hsl8 hb7
      go_wp2_with fail
      refine HD3.out.mono ?_
      clear HD3
      rintro e w9 ⟨D1'', d1'', g1'', D2'', d2'', g2'', D3'', d3'', g3'', rfl, _, _, _, hb9⟩
      have hW9 : ∀ o, Below w.heap.size w (w9.alloc o) := fun o => HBW3.out _ ((hW8.trans (hb9.mono hW8.size)).alloc (by have := hW8.size; have := hb9.size; omega) o)
      have HW9 := Lib.hid hW9
      clear hW9
      go_wp2_with fail
      refine (awake_any _).mono ?_
      rintro e w10 ⟨rfl, hb10⟩
      have hfin := (HW9.out _).trans (hb10.mono (HW9.out _).size)
      go_wp2_with fail
      go_ret
      exact ⟨rfl, hfin⟩
end Go.Proofs.Ytldeoaddogifpaa
