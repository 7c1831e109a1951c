/-
  The frame read back, the four bytes of a sum, the readers' way back: plain.
  No condition.
-/
import Derived.Test.YtkhedjfdjjeopaaGreatDoorDecPlain
import Derived.Test.YtkhedjfdjjeopaaGreatDoorTTDec
import Derived.Test.YtkhedjfdjjeopaaGreatDoorFrame
import Derived.Test.YtkhedjfdjjeopaaGreatDoorUnframe
namespace Go.Proofs.YtkhedjfdjjeopaaGreatDoor
set_option linter.unusedSimpArgs false
set_option linter.unusedVariables false
open Go

theorem sumStep_nat {s : BitVec 32} {c : Int} (hs : s.toNat < 16777216) (h0 : 0 ≤ c) (h1 : c < 256) : (sumStep s c).toNat = s.toNat * 256 + c.toNat := by
  have e := Nat.two_pow_add_eq_or_of_lt (i := 8) (b := c.toNat) (by omega) s.toNat
  unfold sumStep
  rw [BitVec.toNat_or, BitVec.toNat_shiftLeft, Nat.shiftLeft_eq, BitVec.toNat_ofInt]
  have e1 : s.toNat * 2 ^ 8 % 2 ^ 32 = 2 ^ 8 * s.toNat := by omega
  have e2 : (c % ((2 ^ 32 : Nat) : Int)).toNat = c.toNat := by omega
  rw [e1, e2, ← e]
  omega
theorem sumOf_bytes (x : BitVec 32) : sumOf (sumBytes x) = x := by
  have hx := x.isLt
  apply BitVec.eq_of_toNat_eq
  simp only [sumOf, sumBytes, List.foldl_cons, List.foldl_nil]
  have e0 : (0#32).toNat = 0 := rfl
  have a1 : (sumStep 0#32 (u32 x / 16777216 % 256)).toNat = x.toNat / 16777216 := by
    rw [sumStep_nat (by rw [e0]; decide) (by omega) (by omega), e0]
    unfold u32
    omega
  have a2 : (sumStep (sumStep 0#32 (u32 x / 16777216 % 256)) (u32 x / 65536 % 256)).toNat = x.toNat / 65536 := by
    rw [sumStep_nat (by rw [a1]; omega) (by omega) (by omega), a1]
    unfold u32
    omega
  have a3 : (sumStep (sumStep (sumStep 0#32 (u32 x / 16777216 % 256)) (u32 x / 65536 % 256)) (u32 x / 256 % 256)).toNat = x.toNat / 256 := by
    rw [sumStep_nat (by rw [a2]; omega) (by omega) (by omega), a2]
    unfold u32
    omega
  rw [sumStep_nat (by rw [a3]; omega) (by omega) (by omega), a3]
  unfold u32
  omega
theorem sumBytes_len (x : BitVec 32) : (sumBytes x).length = 4 := rfl
theorem frameB_len (kind : Int) (body : List Int) : (frameB kind body).length = 1 + (uvar body.length).length + body.length + 4 := by
  unfold frameB headB
  rw [List.length_append, sumBytes_len, List.length_cons, List.length_append]
  omega
theorem headB_len (kind : Int) (body : List Int) : (headB kind body).length = 1 + (uvar body.length).length + body.length := by
  unfold headB
  rw [List.length_cons, List.length_append]
  omega
theorem frameB_tail (kind : Int) (body : List Int) : (frameB kind body).tail = uvar body.length ++ (body ++ sumBytes (crc (headB kind body))) := by
  unfold frameB
  conv => lhs; unfold headB
  rw [List.cons_append, List.tail_cons, List.append_assoc]
  rfl
theorem frameB_dec (kind : Int) {body : List Int} (h : body.length ≤ 1048576) : decU (frameB kind body).tail = ((body.length : Int), (uvar body.length).length, 0) := by
  rw [frameB_tail, decU_uvar _ (by omega) (by omega)]
theorem unfr_frame (kind : Int) {body : List Int} (h : body.length ≤ 1048576) : unfr (frameB kind body) = (kind, body, (frameB kind body).length, 0) := by
  have hd := frameB_dec kind h
  have hl := frameB_len kind body
  have hh := headB_len kind body
  have hne : frameB kind body ≠ [] := fun e => by rw [e] at hl; simp at hl
  have t1 : (frameB kind body).take (1 + (uvar body.length).length + body.length) = headB kind body := by
    rw [← hh]; unfold frameB; exact List.take_left
  have t2 : (frameB kind body).drop (1 + (uvar body.length).length + body.length) = sumBytes (crc (headB kind body)) := by
    rw [← hh]; unfold frameB; exact List.drop_left
  have t3 : ((frameB kind body).drop (1 + (uvar body.length).length)).take body.length = body := by
    have e : frameB kind body = (kind :: uvar body.length) ++ (body ++ sumBytes (crc (headB kind body))) := by
      unfold frameB
      conv => lhs; unfold headB
      simp
      rfl
    have e2 : (kind :: uvar body.length).length = 1 + (uvar body.length).length := by simp; omega
    rw [e, ← e2, List.drop_left, List.take_left]
  unfold unfr
  rw [if_neg hne, hd]
  simp only [Int.toNat_natCast]
  rw [if_neg (by simp), if_neg (by omega), if_neg (by omega), t1, t2, t3, List.take_of_length_le (Nat.le_of_eq (sumBytes_len _)), sumOf_bytes, if_neg (by simp)]
  rw [hl]
  rfl
theorem rdU_back {n : Int} (r : List Int) (b : Bool) (h0 : 0 ≤ n) (h1 : n ≤ 4611686018427387904) : rdU (uvar n ++ r) b = (n, r, b) := by
  unfold rdU
  rw [decU_uvar r h0 h1, if_pos rfl, List.drop_left]
theorem rdI_back {n : Int} (r : List Int) (b : Bool) (h0 : -2305843009213693952 ≤ n) (h1 : n ≤ 2305843009213693952) : rdI (uvar (zig n) ++ r) b = (n, r, b) := by
  unfold rdI
  rw [decI_zig r h0 h1, if_pos rfl, List.drop_left]
theorem rdT_back {s : ByteArray} (r : List Int) (b : Bool) (h : s.size ≤ 20000) : rdT (textB s ++ r) b = (s, r, b) := by
  unfold rdT
  rw [decT_text r h, if_pos rfl, List.drop_left]
theorem rdN_back {n : Nat} {m : Int} (r : List Int) (b : Bool) (h0 : n ≤ r.length) (h1 : (n : Int) ≤ m) (h2 : n ≤ 1000000) : rdN m (uvar n ++ r) b = ((n : Int), r, b) := by
  have h : rdC (uvar n ++ r) b = ((n : Int), r, b) := by
    unfold rdC
    rw [rdU_back r b (by omega) (by omega), if_neg (by simp only; omega)]
  unfold rdN
  rw [h, if_neg (by simp only; omega)]
theorem flatMap_ge {α : Type} {f : α → List Int} (h : ∀ x, f x ≠ []) : ∀ (l : List α), l.length ≤ (l.flatMap f).length
  | [] => by simp
  | a :: l => by
    have h1 := flatMap_ge h l
    have h2 := List.length_pos_iff.2 (h a)
    rw [List.flatMap_cons, List.length_append, List.length_cons]
    omega
theorem frameB_bytes {kind : Int} {body : List Int} (hk : isByte kind) (hb : bytesL body) : bytesL (frameB kind body) := by
  intro x hx
  unfold frameB headB sumBytes at hx
  simp only [List.mem_append, List.mem_cons, List.not_mem_nil, or_false] at hx
  have hb2 : ∀ y : Int, isByte (y % 256) := fun y => ⟨by omega, by omega⟩
  rcases hx with (rfl | hx | hx) | rfl | rfl | rfl | rfl
  · exact hk
  · exact uvar_bytes (by omega) x hx
  · exact hb x hx
  all_goals exact hb2 _
theorem bytesL_append {a b : List Int} (ha : bytesL a) (hb : bytesL b) : bytesL (a ++ b) := fun x hx => by
  rcases List.mem_append.1 hx with h | h
  · exact ha x h
  · exact hb x h
theorem bytesL_flatMap {α : Type} {f : α → List Int} {l : List α} (h : ∀ x ∈ l, bytesL (f x)) : bytesL (l.flatMap f) := fun x hx => by
  obtain ⟨y, hy, hxy⟩ := List.mem_flatMap.1 hx
  exact h y hy x hxy
theorem textB_bytes (s : ByteArray) : bytesL (textB s) := bytesL_append (uvar_bytes (by omega)) (bytesOf_bytes s)
theorem zig_pos (n : Int) : 0 ≤ zig n := by unfold zig; split <;> omega
theorem sumOf4 {a b c d : Int} (ha : isByte a) (hb : isByte b) (hc : isByte c) (hd : isByte d) : ((sumOf [a, b, c, d]).toNat : Int) = ((a * 256 + b) * 256 + c) * 256 + d := by
  unfold isByte at *
  simp only [sumOf, List.foldl_cons, List.foldl_nil]
  have e0 : (0#32).toNat = 0 := rfl
  have a1 : (sumStep 0#32 a).toNat = a.toNat := by rw [sumStep_nat (by rw [e0]; decide) ha.1 ha.2, e0]; omega
  have a2 : (sumStep (sumStep 0#32 a) b).toNat = a.toNat * 256 + b.toNat := by rw [sumStep_nat (by rw [a1]; omega) hb.1 hb.2, a1]
  have a3 : (sumStep (sumStep (sumStep 0#32 a) b) c).toNat = (a.toNat * 256 + b.toNat) * 256 + c.toNat := by rw [sumStep_nat (by rw [a2]; omega) hc.1 hc.2, a2]
  rw [sumStep_nat (by rw [a3]; omega) hd.1 hd.2, a3]
  omega
end Go.Proofs.YtkhedjfdjjeopaaGreatDoor
