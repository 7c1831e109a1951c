/-
  Walk of the law TextFieldsBack: whatever the list of strings and the comment, the law returns true and changes nothing that was there.
  Condition: the slice reads as a list of strings; the comment takes fewer than 2^48 bytes; the library's variable MaxLen holds an int.
-/
import Derived.Test.YtpgenhknndpcfaaDoorLaw5
import Derived.Test.YtpgenhknndpcfaaDoorRefFields
namespace Go.Proofs.YtpgenhknndpcfaaDoor
set_option linter.unusedSimpArgs false
set_option linter.unusedVariables false
open Go.RowKit

def flatL : List (List UInt8) → List UInt8
  | [] => []
  | x :: r => 32 :: (x ++ flatL r)
theorem flatL_snoc (ls : List (List UInt8)) (x : List UInt8) : flatL (ls ++ [x]) = flatL ls ++ 32 :: x := by
  induction ls with
  | nil => simp [flatL]
  | cons a r ih => simp [flatL, ih]
theorem splitL_app (c : UInt8) (x y : List UInt8) (h : c ∉ x) : splitL c (x ++ y) = (x ++ (splitL c y).headD []) :: (splitL c y).tail := by
  induction x with
  | nil => exact splitL_eq c y
  | cons a x ih =>
    have h1 : a ≠ c := fun e => h (by simp [e])
    have h2 : c ∉ x := fun e => h (by simp [e])
    rw [List.cons_append, splitL, if_neg h1, ih h2]
    rfl
theorem splitL_flat (ls : List (List UInt8)) (h : ∀ x ∈ ls, (32 : UInt8) ∉ x) : splitL 32 (flatL ls) = [] :: ls := by
  induction ls with
  | nil => rfl
  | cons x r ih =>
    rw [flatL, splitL, if_pos rfl, splitL_app 32 x _ (h x (.head _)), ih (fun y hy => h y (.tail _ hy))]
    simp
def okFld (x : ByteArray) : Prop := x.data.toList ≠ [] ∧ (32 : UInt8) ∉ x.data.toList ∧ (35 : UInt8) ∉ x.data.toList
def joinS (ls : List ByteArray) (k : Nat) : ByteArray := bs (flatL ((ls.take k).map (·.data.toList)))
theorem flat_no35 (ls : List (List UInt8)) (h : ∀ x ∈ ls, (35 : UInt8) ∉ x) : (35 : UInt8) ∉ flatL ls := by
  induction ls with
  | nil => simp [flatL]
  | cons x r ih =>
    simp only [flatL, List.mem_cons, List.mem_append, not_or]
    exact ⟨by decide, h x (.head _), ih fun y hy => h y (.tail _ hy)⟩
theorem takeWhile_all (l : List UInt8) (h : (35 : UInt8) ∉ l) : l.takeWhile (fun b => b != 35) = l := by
  induction l with
  | nil => rfl
  | cons a l ih =>
    have h1 : a ≠ 35 := fun e => h (by simp [e])
    rw [List.takeWhile_cons, if_pos (by simp [h1]), ih (fun e => h (by simp [e]))]
theorem takeWhile_com (l m : List UInt8) (h : (35 : UInt8) ∉ l) : (l ++ 35 :: m).takeWhile (fun b => b != 35) = l := by
  induction l with
  | nil => rfl
  | cons a l ih =>
    have h1 : a ≠ 35 := fun e => h (by simp [e])
    rw [List.cons_append, List.takeWhile_cons, if_pos (by simp [h1]), ih (fun e => h (by simp [e]))]
theorem fieldsL_flat (ls : List (List UInt8)) (h : ∀ x ∈ ls, x ≠ [] ∧ (32 : UInt8) ∉ x) : ((splitL 32 (flatL ls)).filter (fun f => !f.isEmpty)) = ls := by
  rw [splitL_flat ls fun x hx => (h x hx).2]
  rw [List.filter_cons, if_neg (by simp)]
  refine List.filter_eq_self.2 fun x hx => ?_
  have := (h x hx).1
  cases x with
  | nil => exact absurd rfl this
  | cons _ _ => rfl
theorem fieldsB_join (ls : List ByteArray) (h : ∀ x ∈ ls, okFld x) : fieldsB (joinS ls ls.length) = ls := by
  have hm : ∀ x ∈ ls.map (·.data.toList), x ≠ [] ∧ (32 : UInt8) ∉ x ∧ (35 : UInt8) ∉ x := by
    intro x hx
    obtain ⟨y, hy, rfl⟩ := List.mem_map.1 hx
    exact h y hy
  unfold fieldsB fieldsL joinS
  rw [List.take_length, bs_data, takeWhile_all _ (flat_no35 _ fun x hx => (hm x hx).2.2), fieldsL_flat _ fun x hx => ⟨(hm x hx).1, (hm x hx).2.1⟩, map_bs]
theorem cut_com (ls : List ByteArray) (h : ∀ x ∈ ls, okFld x) (c : ByteArray) : cutB 35 (joinS ls ls.length ++ ⟨#[35]⟩ ++ c) = joinS ls ls.length := by
  have hm : ∀ x ∈ ls.map (·.data.toList), (35 : UInt8) ∉ x := by
    intro x hx
    obtain ⟨y, hy, rfl⟩ := List.mem_map.1 hx
    exact (h y hy).2.2
  unfold cutB joinS
  rw [List.take_length]
  have e : (bs (flatL (ls.map (·.data.toList))) ++ ⟨#[35]⟩ ++ c).data.toList = flatL (ls.map (·.data.toList)) ++ 35 :: c.data.toList := by simp [bs]
  rw [e, takeWhile_com _ _ (flat_no35 _ hm)]
theorem fieldsB_com (ls : List ByteArray) (h : ∀ x ∈ ls, okFld x) (c : ByteArray) : fieldsB (joinS ls ls.length ++ ⟨#[35]⟩ ++ c) = ls := by
  have h1 := cut_com ls h c
  have h2 := fieldsB_join ls h
  have h3 : cutB 35 (joinS ls ls.length) = joinS ls ls.length := by
    unfold cutB joinS
    rw [List.take_length, bs_data, takeWhile_all _ (flat_no35 _ ?_)]
    intro x hx
    obtain ⟨y, hy, rfl⟩ := List.mem_map.1 hx
    exact (h y hy).2.2
  rw [← keptTo_all, h1]
  rw [← keptTo_all, h3] at h2
  exact h2
theorem joinS_succ (ls : List ByteArray) (k : Nat) (h : k < ls.length) : joinS ls (k + 1) = joinS ls k ++ ⟨#[32]⟩ ++ ls[k] := by
  unfold joinS
  rw [List.take_succ_eq_append_getElem h, List.map_append, List.map_singleton, flatL_snoc]
  apply Go.WideShapes.bytes_inj
  simp [bs]
theorem joinS_step (ls : List ByteArray) (k : Nat) (h : k < ls.length) (h1 : (joinS ls k).size ≤ 101 * k) (h2 : ls[k].size ≤ 100) : (joinS ls (k + 1)).size ≤ 101 * (k + 1) := by
  rw [joinS_succ ls k h, ByteArray.size_append, ByteArray.size_append]
  have h3 : (⟨#[32]⟩ : ByteArray).size = 1 := rfl
  omega
def okTo (ls : List ByteArray) (k : Nat) : Prop := ∀ x ∈ ls.take k, okFld x
theorem okTo_zero (ls : List ByteArray) : okTo ls 0 := fun x h => by simp at h
theorem okTo_succ {ls : List ByteArray} {k : Nat} (h : okTo ls k) (hk : k < ls.length) (hx : okFld ls[k]) : okTo ls (k + 1) := fun x hm => by
  rw [List.take_succ_eq_append_getElem hk, List.mem_append, List.mem_singleton] at hm
  rcases hm with hm | rfl
  · exact h x hm
  · exact hx
theorem okTo_all {ls : List ByteArray} (h : okTo ls ls.length) : ∀ x ∈ ls, okFld x := fun x hx => h x (by rwa [List.take_length])
def clean (x : ByteArray) (k : Nat) : Prop := (32 : UInt8) ∉ x.data.toList.take k ∧ (35 : UInt8) ∉ x.data.toList.take k
theorem clean_zero (x : ByteArray) : clean x 0 := ⟨by simp, by simp⟩
theorem clean_succ {x : ByteArray} {k : Nat} (h : clean x k) (hk : k < x.size) (h1 : ¬ x[k] = 32) (h2 : ¬ x[k] = 35) : clean x (k + 1) := by
  unfold clean
  rw [take_byte x k hk]
  simp only [List.mem_append, List.mem_singleton, not_or]
  exact ⟨⟨h.1, fun e => h1 e.symm⟩, h.2, fun e => h2 e.symm⟩
theorem clean_all {x : ByteArray} (h : clean x x.size) (h0 : x.size ≠ 0) : okFld x := by
  have hz := Lib.size_eq x
  have e : x.data.toList.take x.size = x.data.toList := by rw [hz, List.take_length]
  unfold clean at h
  rw [e] at h
  exact ⟨fun e => h0 (by rw [hz, e]; rfl), h.1, h.2⟩

set_option maxHeartbeats 1600000 in
theorem fieldsBack_walk (A : Option Addr) (n c : Nat) (ls : List ByteArray) (cm : ByteArray) (w : World) (hsl : Sl Ty.str w (all_ w) A n c ls) (hcm : cm.size ≤ 281474976710656) (hg : Glo w) :
    Calls Tryd.prog 4 #[.slice A n c, .string cm] w fun e w' => e = .returned (.bool true) ∧ Below w.heap.size w w' := by
  have hn := hsl.len
  have hn2 := hsl.le
  unfold maxLen at hn2
  subst hn
  have HSL := Lib.hid hsl; clear hsl
  by_cases h50 : 50 < ls.length
  · go_enter Tryd.func4, Tryd.ntmps4
    go_wp2_with fail
    refine (awake_any w hg).mono ?_
    rintro e w1 ⟨rfl, hb⟩
    go_wp2_with fail
    go_ret
    exact ⟨rfl, hb⟩
  · go_enter Tryd.func4, Tryd.ntmps4
    go_wp2_with fail
    go_loop [4, 5, 6, 7] (fun r t i j => ∃ k : Nat, k ≤ ls.length ∧ i = .int .i64 k ∧ t = .string (joinS ls k) ∧ (joinS ls k).size ≤ 101 * k ∧ Hid (okTo ls k)) (fun _ _ i _ => ls.length - (intOf i).toNat)
    case atStart => exact ⟨0, Nat.zero_le _, rfl, rfl, Nat.le_refl _, okTo_zero ls⟩
    case round =>
      obtain ⟨k, hk, rfl, rfl, hjs, HK⟩ := hrel
      by_cases hlt : k < ls.length
      · obtain ⟨b, o, rfl, _, hc⟩ := HSL.out.str_at hlt
        have hst := Lib.hid (joinS_succ ls k hlt)
        have hjn := joinS_step ls k hlt hjs
        have HOK := Lib.hid (fun hx => okTo_succ HK.out hlt hx)
        generalize hx : ls[k] = x at *
        clear hx
        by_cases h0 : x.size = 0
        · have hemp : x.toList.isEmpty = true := by
            rw [ByteArray.toList_eq, List.isEmpty_iff]
            exact List.eq_nil_of_length_eq_zero (by rw [← Lib.size_eq]; exact h0)
          clear h0 hjn
          go_wp2_with fail
          refine (awake_any w hg).mono ?_
          rintro e w1 ⟨rfl, hb⟩
          go_wp2_with fail
          go_ret
          exact ⟨rfl, hb⟩
        · have hemp : x.toList.isEmpty = false := by
            rw [ByteArray.toList_eq, Bool.eq_false_iff]
            intro h
            rw [List.isEmpty_iff] at h
            have := Lib.size_eq x
            rw [h] at this
            exact h0 this
          have H0 := Lib.hid h0; clear h0
          by_cases h100 : 100 < x.size
          · clear hjn
            go_wp2_with fail
            refine (awake_any w hg).mono ?_
            rintro e w1 ⟨rfl, hb⟩
            go_wp2_with fail
            go_ret
            exact ⟨rfl, hb⟩
          · have HJN := Lib.hid (hjn (by omega)); clear hjn
            go_wp2_with fail

            go_loop [4, 7] (fun r j => ∃ q : Nat, q ≤ x.size ∧ j = .int .i64 q ∧ Hid (clean x q)) (fun _ j => x.size - (intOf j).toNat)
            case atStart => exact ⟨0, Nat.zero_le _, rfl, clean_zero x⟩
            case round =>
              obtain ⟨q, hq, rfl, HQ⟩ := hrel
              by_cases hqt : q < x.size
              · have e1 := byte_is hqt 32
                have e2 := byte_is hqt 35
                simp only [show ((32 : UInt8).toNat : Int) = 32 from rfl, show ((35 : UInt8).toNat : Int) = 35 from rfl] at e1 e2
                by_cases h32 : x[q] = 32
                · rw [decide_eq_true h32] at e1
                  clear h32 e2
                  go_wp2_with fail
                  refine (awake_any w hg).mono ?_
                  rintro e w1 ⟨rfl, hb⟩
                  go_wp2_with fail
                  go_ret
                  exact ⟨rfl, hb⟩
                · by_cases h35 : x[q] = 35
                  · rw [decide_eq_false h32] at e1
                    rw [decide_eq_true h35] at e2
                    clear h32 h35
                    go_wp2_with fail
                    refine (awake_any w hg).mono ?_
                    rintro e w1 ⟨rfl, hb⟩
                    go_wp2_with fail
                    go_ret
                    exact ⟨rfl, hb⟩
                  · rw [decide_eq_false h32] at e1
                    rw [decide_eq_false h35] at e2
                    have HQ2 := Lib.hid (clean_succ HQ.out hqt h32 h35)
                    clear h32 h35
                    go_wp2_with fail
                    go_round
                    case rel => exact ⟨q + 1, by omega, by go_num, HQ2⟩
                    case measure => simp [intOf]; omega
              · have HO : Hid (okTo ls (k + 1)) := HOK.out (clean_all (by rw [show x.size = q by omega]; exact HQ.out) H0.out)
                have hs1 : (joinS ls k).size + 1 ≤ 6000 := by omega
                have hs2 : (joinS ls k ++ ⟨#[32]⟩).size + x.size ≤ 6000 := by rw [ByteArray.size_append]; show (joinS ls k).size + 1 + _ ≤ _; omega
                clear HQ hjs
                go_wp2_with fail
                go_round
                case rel => exact ⟨k + 1, by omega, by go_num, by rw [hst.out], HJN.out, HO⟩
                case measure => simp [intOf]; omega
      · obtain rfl : k = ls.length := by omega
        have hok := okTo_all HK.out
        have H1 := Lib.hid (fieldsB_join ls hok)
        have H2 := Lib.hid (fieldsB_com ls hok cm)
        have hcc := cut_com ls hok cm
        have hsz2 : (cutB 35 (joinS ls ls.length ++ ⟨#[35]⟩ ++ cm)).size < 2147483648 := by rw [hcc]; omega
        have hs1 : (joinS ls ls.length).size + 1 ≤ 6000 := by omega
        have hs2 : (joinS ls ls.length ++ ⟨#[35]⟩).size + cm.size ≤ 281474976716656 := by rw [ByteArray.size_append]; show (joinS ls ls.length).size + 1 + _ ≤ _; omega
        have hs3 : (joinS ls ls.length ++ ⟨#[35]⟩ ++ cm).size ≤ maxLen := by rw [ByteArray.size_append]; unfold maxLen; omega
        have hs4 : (joinS ls ls.length).size < 2147483648 := by omega
        generalize hj : joinS ls ls.length = J at *
        have HS2 := Lib.hid hsz2
        have HS3 := Lib.hid hs3
        clear hok hj hcc hjs HK hsz2 hs3
        go_wp2_with fail
        refine (fields_own J w hs4 hg).mono ?_
        rintro e w1 ⟨v1, rfl, ho1, hb1⟩
        rw [H1.out] at ho1
        obtain ⟨A1, c1, rfl, hl1⟩ := ho1.sl
        go_wp2_with fail
        refine (same_any _ _ _ _ _ _ _ _ _ _ w1 hl1 (HSL.out.next hb1)).mono ?_
        rintro e w3 ⟨rfl, n3, rfl⟩
        rw [decide_eq_true rfl]
        have hb3 : Below w.heap.size w (w1.drewN n3) := below_drewN hb1 n3
        clear ho1 hl1
        go_wp2_with fail
        refine (fields_gen _ _ HS3.out HS2.out (hg.next hb3)).mono ?_
        rintro e w4 ⟨v4, rfl, ho4, hb4⟩
        rw [H2.out] at ho4
        obtain ⟨A4, c4, rfl, hl4⟩ := ho4.sl
        have hb5 : Below w.heap.size w w4 := hb3.trans (hb4.mono hb3.size)
        go_wp2_with fail
        refine (same_any _ _ _ _ _ _ _ _ _ _ w4 hl4 (HSL.out.next hb5)).mono ?_
        rintro e w6 ⟨rfl, n6, rfl⟩
        rw [decide_eq_true rfl]
        have hb6 : Below w.heap.size w (w4.drewN n6) := below_drewN hb5 n6
        clear ho4 hl4
        go_wp2_with fail
        refine (awake_any _ (hg.next hb6)).mono ?_
        rintro e w7 ⟨rfl, hb7⟩
        go_wp2_with fail
        go_ret
        exact ⟨rfl, hb6.trans (hb7.mono hb6.size)⟩
end Go.Proofs.YtpgenhknndpcfaaDoor
