/-
  Contracts of the reference's Reader (package pairingref8): Uint, Int, Text.
  Condition: the reader's bytes are bytes.
-/
import Derived.Test.YtkhedjfdjjeopaaRef8Dec
import Derived.Test.YtkhedjfdjjeopaaRefPlain
import Derived.Test.YtkhedjfdjjeopaaReader
import Derived.Test.YtkhedjfdjjeopaaValidateRef
import Derived.Deep.QuietTactic
import Derived.BigQuiet
namespace Go.Proofs.Ytkhedjfdjjeopaa
set_option linter.unusedSimpArgs false
set_option linter.unusedVariables false
open Go.RowKit

/-- The reference's reader in block g: the whole body, what is left of it, whether something was bad. -/
structure RRd (w : World) (g : Nat) (S : Nat → Prop) (A : Option Addr) (n c : Nat) (body rest : List Int) (bad : Bool) : Prop where
  c0 : w.cell? ⟨g, 0, none⟩ = some (.slice A n c)
  sl : Sl (Ty.int .u8) w S A n c body
  c1 : w.cell? ⟨g, 1, none⟩ = some (.int .i64 ((body.length - rest.length : Nat) : Int))
  c2 : w.cell? ⟨g, 2, none⟩ = some (.int .i64 (if bad = true then 2 else 0))
  sfx : rest = body.drop (body.length - rest.length)
  le : rest.length ≤ body.length
  pl : (A = none ∧ c = 0) ∨ ∃ b o, A = some ⟨b, o, none⟩
  fz : ∀ j, w.frozen? ⟨g, j, none⟩ = false
  by_ : ∀ x ∈ body, isByte x
  ns : ¬ S g
  lt : ∀ b, S b → b < w.heap.size
section
variable {w w' : World} {g : Nat} {S : Nat → Prop} {A : Option Addr} {n c : Nat} {body rest : List Int} {bad : Bool}
theorem RRd.glt (h : RRd w g S A n c body rest bad) : g < w.heap.size := World.block_lt_of_cell? w ⟨g, 1, none⟩ h.c1
theorem RRd.frame (h : RRd w g S A n c body rest bad) (hk : ∀ b, b < w.heap.size → (S b ∨ b = g) → w'.heap[b]? = w.heap[b]?) (hs : w.heap.size ≤ w'.heap.size) : RRd w' g S A n c body rest bad := by
  have hgg := hk g h.glt (.inr rfl)
  exact ⟨(cell_keep hgg 0).trans h.c0, h.sl.keep fun b hb => hk b (h.lt b hb) (.inl hb), (cell_keep hgg 1).trans h.c1, (cell_keep hgg 2).trans h.c2, h.sfx, h.le, h.pl, fun j => (frozen_keep hgg j).trans (h.fz j), h.by_, h.ns, fun b hb => Nat.lt_of_lt_of_le (h.lt b hb) hs⟩
theorem RRd.next (h : RRd w g S A n c body rest bad) (hb : Below w.heap.size w w') : RRd w' g S A n c body rest bad := h.frame (fun b hb' _ => hb.block b hb') hb.size
theorem RRd.drewN (h : RRd w g S A n c body rest bad) (q : Nat) : RRd (w.drewN q) g S A n c body rest bad := h.next (below_drewN (Below.refl _ _) q)
theorem RRd.rest_by (h : RRd w g S A n c body rest bad) : ∀ x ∈ rest, isByte x := fun x hx => h.by_ x (List.mem_of_mem_drop (h.sfx ▸ hx))
theorem RRd.fail (h : RRd w g S A n c body rest bad) : RRd (w.setCell ⟨g, 2, none⟩ (.int .i64 2)) g S A n c body rest true := by
  refine ⟨?_, h.sl.keep fun b hb => heap_setCell_other _ _ _ _ fun e => h.ns ((show b = g from e) ▸ hb), ?_, ?_, h.sfx, h.le, h.pl, fun j => by rw [frozen_set]; exact h.fz j, h.by_, h.ns, fun b hb => by simpa using h.lt b hb⟩
  · rw [cell?_setCell_ne _ _ _ _ (by simp)]; exact h.c0
  · rw [cell?_setCell_ne _ _ _ _ (by simp)]; exact h.c1
  · exact cell?_setCell_eq _ _ _ _ h.c2
theorem RRd.adv (h : RRd w g S A n c body rest bad) {k : Nat} (hk : k ≤ rest.length) : RRd (w.setCell ⟨g, 1, none⟩ (.int .i64 ((body.length - rest.length + k : Nat) : Int))) g S A n c body (rest.drop k) bad := by
  have hle := h.le
  have e : body.length - (rest.drop k).length = body.length - rest.length + k := by rw [List.length_drop]; omega
  refine ⟨?_, h.sl.keep fun b hb => heap_setCell_other _ _ _ _ fun e => h.ns ((show b = g from e) ▸ hb), ?_, ?_, ?_, ?_, h.pl, fun j => by rw [frozen_set]; exact h.fz j, h.by_, h.ns, fun b hb => by simpa using h.lt b hb⟩
  · rw [cell?_setCell_ne _ _ _ _ (by simp)]; exact h.c0
  · rw [e]; exact cell?_setCell_eq _ _ _ _ h.c1
  · rw [cell?_setCell_ne _ _ _ _ (by simp)]; exact h.c2
  · rw [e, ← List.drop_drop, ← h.sfx]
  · rw [List.length_drop]; omega
/-- What is left, as the slice that the reader hands to the decoders. -/
theorem RRd.sub (h : RRd w g S A n c body rest bad) : ∃ A', Sl (Ty.int .u8) w S A' (n - (body.length - rest.length)) (c - (body.length - rest.length)) rest ∧
    ((A = none ∧ A' = none ∧ n = 0 ∧ c = 0 ∧ body.length = 0) ∨ ∃ b o, A = some ⟨b, o, none⟩ ∧ ((c = body.length - rest.length ∧ A' = some ⟨b, o, none⟩) ∨ (¬ c = body.length - rest.length ∧ A' = some ⟨b, o + (body.length - rest.length), none⟩))) := by
  have hn := h.sl.len
  have hnc := h.sl.2.1
  have hle := h.le
  have e1 : (body.drop (body.length - rest.length)).take (n - (body.length - rest.length)) = rest := by
    rw [List.take_of_length_le (by rw [List.length_drop]; omega), ← h.sfx]
  rcases h.pl with ⟨rfl, rfl⟩ | ⟨b, o, rfl⟩
  · have h0 : n = 0 := by omega
    have hb0 : body.length = 0 := by omega
    have hr : rest = [] := List.eq_nil_of_length_eq_zero (by omega)
    subst hr
    refine ⟨none, ?_, .inl ⟨rfl, rfl, h0, rfl, hb0⟩⟩
    rw [h0, hb0]
    exact Sl.nil none (by decide)
  · by_cases hc : c = body.length - rest.length
    · have hr : rest = [] := List.eq_nil_of_length_eq_zero (by omega)
      have hs := h.sl.sub (body.length - rest.length) (n - (body.length - rest.length)) (by omega) b o (by omega)
      rw [e1] at hs
      exact ⟨_, hs, .inr ⟨b, o, rfl, .inl ⟨hc, rfl⟩⟩⟩
    · have hs := h.sl.sub (body.length - rest.length) (n - (body.length - rest.length)) (by omega) b (o + (body.length - rest.length)) (fun _ => ⟨rfl, by simp [Ty.int]⟩)
      rw [e1] at hs
      exact ⟨_, hs, .inr ⟨b, o, rfl, .inr ⟨hc, rfl⟩⟩⟩
end
def RRPost (g : Nat) (S : Nat → Prop) (A : Option Addr) (n c : Nat) (body : List Int) (w : World) (v : Value) (rest : List Int) (bad : Bool) (e : Ending) (w' : World) : Prop := e = .returned v ∧ RRd w' g S A n c body rest bad ∧ But g w w'

set_option maxRecDepth 100000 in
set_option maxHeartbeats 1600000 in
theorem rrUint_any (g : Nat) (S : Nat → Prop) (A : Option Addr) (n c : Nat) (body rest : List Int) (bad : Bool) (most : Int) (w : World) (h : RRd w g S A n c body rest bad) :
    Calls Try.prog 40 #[.pointer (some ⟨g, 0, none⟩), .int .i64 most] w (RRPost g S A n c body w (.int .i64 (rrU most rest bad).1) (rrU most rest bad).2.1 (rrU most rest bad).2.2) := by
  have h0 := h.c0; have h1 := h.c1; have h2 := h.c2
  have f1 := h.fz 1; have f2 := h.fz 2
  cases bad with
  | true =>
    have h2' : w.cell? ⟨g, 2, none⟩ = some (.int .i64 2) := h2
    have HR : Hid (rrU most rest true = (0, rest, true)) := by show _ = _; unfold rrU; rw [if_pos (.inl rfl)]
    have HH := Lib.hid h
    clear h h0 h1 h2 f1 f2
    go_enter Try.func40, Try.ntmps40
    go_wp2_with fail
    go_ret
    exact ⟨by rw [HR.out]; rfl, by rw [HR.out]; exact HH.out, But.refl _ _⟩
  | false =>
    have h2' : w.cell? ⟨g, 2, none⟩ = some (.int .i64 0) := h2
    have hn := h.sl.len
    have hnc := h.sl.2.1
    have hcm := h.sl.2.2.1
    unfold maxLen at hcm
    have hle := h.le
    have hby := h.rest_by
    obtain ⟨A', hs, hsh⟩ := h.sub
    have HC : Hid (∀ q, Calls Try.prog 66 #[.slice A' (n - (body.length - rest.length)) (c - (body.length - rest.length))] (w.drewN q) fun e w' => e = .returned (.tuple #[.int .i64 (decU rest).1, .int .i64 (decU rest).2.1, .int .i64 (decU rest).2.2]) ∧ w.drewN q = w') := fun q => decodeUintR_any rest A' _ _ S _ (hs.drewN q) hby
    have hok : (decU rest).2.2 = 0 → (decU rest).2.1 ≤ rest.length := fun he => (decU_okU hby he).2
    have HR0 : Hid (rrU most rest false = if false = true ∨ (decU rest).2.2 ≠ 0 ∨ most < (decU rest).1 then (0, rest, true) else ((decU rest).1, rest.drop (decU rest).2.1, false)) := rfl
    have HDR : Hid (∀ q k (x : Int), k ≤ rest.length → x = ((body.length - rest.length + k : Nat) : Int) → RRd ((w.drewN q).setCell ⟨g, 1, none⟩ (.int .i64 x)) g S A n c body (rest.drop k) false) := fun q k x hk hx => hx ▸ (h.drewN q).adv hk
    have HFA : Hid (∀ q, RRd ((w.drewN q).setCell ⟨g, 2, none⟩ (.int .i64 2)) g S A n c body rest true) := fun q => (h.drewN q).fail
    have HBT : Hid (∀ q j x, But g w ((w.drewN q).setCell ⟨g, j, none⟩ x)) := fun q j x => ((But.refl g w).drewN q).setCell j x
    generalize decU rest = d at *
    obtain ⟨u, used, e⟩ := d
    simp only at hok
    have hat1 : (0 : Int) ≤ ((body.length - rest.length : Nat) : Int) := by omega
    have hat2 : ((body.length - rest.length : Nat) : Int) ≤ (n : Int) := by omega
    have hat3 : body.length - rest.length ≤ n := by omega
    have hat4 : (((body.length - rest.length : Nat) : Int)).toNat = body.length - rest.length := by omega
    have hatb : body.length - rest.length + rest.length ≤ 9223372036854775807 := by omega
    clear h h2 hs hn hle hby
    have hle0 : body.length - rest.length ≤ body.length := Nat.sub_le _ _
    generalize body.length - rest.length = at_ at *
    have hsh' : (A = none ∧ A' = none ∧ n = 0 ∧ c = 0 ∧ at_ = 0) ∨ ∃ b o, A = some ⟨b, o, none⟩ ∧ ((n = at_ ∧ c = at_ ∧ A' = some ⟨b, o, none⟩) ∨ (¬ c = at_ ∧ A' = some ⟨b, o + at_, none⟩)) := by
      rcases hsh with ⟨h1, h2, h3, h4, h5⟩ | h6
      · exact .inl ⟨h1, h2, h3, h4, by omega⟩
      · obtain ⟨b, o, e1, ⟨e2, e3⟩ | ⟨e2, e3⟩⟩ := h6
        · exact .inr ⟨b, o, e1, .inl ⟨by omega, e2, e3⟩⟩
        · exact .inr ⟨b, o, e1, .inr ⟨e2, e3⟩⟩
    clear hsh hle0
    by_cases he : e = 0
    case neg =>
      have he' : (e != 0) = true := by simpa using he
      have HF : Hid (rrU most rest false = (0, rest, true)) := by show _ = _; rw [HR0.out, if_pos (.inr (.inl he))]
      clear HR0 hok he
      rcases hsh' with ⟨rfl, rfl, rfl, rfl, rfl⟩ | ⟨b, o, rfl, ⟨rfl, rfl, rfl⟩ | ⟨hcc, rfl⟩⟩
      all_goals
        (try simp only [Int.natCast_zero, Nat.sub_zero, Nat.sub_self] at h1 HC hat1 hat2 hat4)
        go_enter Try.func40, Try.ntmps40
        go_wp2_with fail
        go_quiet ((go_at_call 66; exact quiet_left (HC.out _)))
        go_wp2_with fail
        go_ret
        exact ⟨by rw [HF.out]; rfl, by rw [HF.out]; exact HFA.out _, HBT.out _ _ _⟩
    have hul := hok he
    subst he
    clear hok
    by_cases hm : most < u
    case pos =>
      have HF : Hid (rrU most rest false = (0, rest, true)) := by show _ = _; rw [HR0.out, if_pos (.inr (.inr hm))]
      clear HR0
      rcases hsh' with ⟨rfl, rfl, rfl, rfl, rfl⟩ | ⟨b, o, rfl, ⟨rfl, rfl, rfl⟩ | ⟨hcc, rfl⟩⟩
      all_goals
        (try simp only [Int.natCast_zero, Nat.sub_zero, Nat.sub_self] at h1 HC hat1 hat2 hat4)
        go_enter Try.func40, Try.ntmps40
        go_wp2_with fail
        go_quiet ((go_at_call 66; exact quiet_left (HC.out _)))
        go_wp2_with fail
        go_ret
        exact ⟨by rw [HF.out]; rfl, by rw [HF.out]; exact HFA.out _, HBT.out _ _ _⟩
    case neg =>
      have hm' : u ≤ most := by omega
      have HF : Hid (rrU most rest false = (u, rest.drop used, false)) := by show _ = _; rw [HR0.out, if_neg (by rintro (h | h | h); cases h; exact h rfl; exact hm h)]
      clear HR0 hm
      rcases hsh' with ⟨rfl, rfl, rfl, rfl, rfl⟩ | ⟨b, o, rfl, ⟨rfl, rfl, rfl⟩ | ⟨hcc, rfl⟩⟩
      all_goals
        (try simp only [Int.natCast_zero, Nat.sub_zero, Nat.sub_self] at h1 HC hat1 hat2 hat4)
        go_enter Try.func40, Try.ntmps40
        go_wp2_with fail
        go_quiet ((go_at_call 66; exact quiet_left (HC.out _)))
        go_wp2_with fail
        go_ret
        exact ⟨by rw [HF.out]; rfl, by rw [HF.out]; exact HDR.out _ used _ hul (by omega), HBT.out _ _ _⟩

set_option maxRecDepth 100000 in
set_option maxHeartbeats 1600000 in
theorem rrText_any (g : Nat) (S : Nat → Prop) (A : Option Addr) (n c : Nat) (body rest : List Int) (bad : Bool) (w : World) (h : RRd w g S A n c body rest bad) :
    Calls Try.prog 41 #[.pointer (some ⟨g, 0, none⟩)] w (RRPost g S A n c body w (.string (rrT rest bad).1) (rrT rest bad).2.1 (rrT rest bad).2.2) := by
  have h0 := h.c0; have h1 := h.c1; have h2 := h.c2
  have f1 := h.fz 1; have f2 := h.fz 2
  cases bad with
  | true =>
    have h2' : w.cell? ⟨g, 2, none⟩ = some (.int .i64 2) := h2
    have HR : Hid (rrT rest true = (⟨#[]⟩, rest, true)) := by show _ = _; unfold rrT; rw [if_pos (.inl rfl)]
    have HH := Lib.hid h
    clear h h0 h1 h2 f1 f2
    go_enter Try.func41, Try.ntmps41
    go_wp2_with fail
    go_ret
    exact ⟨by rw [HR.out]; rfl, by rw [HR.out]; exact HH.out, But.refl _ _⟩
  | false =>
    have h2' : w.cell? ⟨g, 2, none⟩ = some (.int .i64 0) := h2
    have hn := h.sl.len
    have hnc := h.sl.2.1
    have hcm := h.sl.2.2.1
    unfold maxLen at hcm
    have hle := h.le
    have hby := h.rest_by
    obtain ⟨A', hs, hsh⟩ := h.sub
    have HC : Hid (∀ q, Calls Try.prog 67 #[.slice A' (n - (body.length - rest.length)) (c - (body.length - rest.length))] (w.drewN q) fun e w' => e = .returned (.tuple #[.string (decT rest).1, .int .i64 (decT rest).2.1, .int .i64 (decT rest).2.2]) ∧ w.drewN q = w') := fun q => decodeTextR_any rest A' _ _ S _ (hs.drewN q) hby
    have hok : (decT rest).2.2 = 0 → (decT rest).2.1 ≤ rest.length := fun he => (decT_okU hby he).2
    have HR0 : Hid (rrT rest false = if false = true ∨ (decT rest).2.2 ≠ 0 then (⟨#[]⟩, rest, true) else ((decT rest).1, rest.drop (decT rest).2.1, false)) := rfl
    have HDR : Hid (∀ q k (x : Int), k ≤ rest.length → x = ((body.length - rest.length + k : Nat) : Int) → RRd ((w.drewN q).setCell ⟨g, 1, none⟩ (.int .i64 x)) g S A n c body (rest.drop k) false) := fun q k x hk hx => hx ▸ (h.drewN q).adv hk
    have HFA : Hid (∀ q, RRd ((w.drewN q).setCell ⟨g, 2, none⟩ (.int .i64 2)) g S A n c body rest true) := fun q => (h.drewN q).fail
    have HBT : Hid (∀ q j x, But g w ((w.drewN q).setCell ⟨g, j, none⟩ x)) := fun q j x => ((But.refl g w).drewN q).setCell j x
    generalize decT rest = d at *
    obtain ⟨u, used, e⟩ := d
    simp only at hok
    have hat1 : (0 : Int) ≤ ((body.length - rest.length : Nat) : Int) := by omega
    have hat2 : ((body.length - rest.length : Nat) : Int) ≤ (n : Int) := by omega
    have hat3 : body.length - rest.length ≤ n := by omega
    have hat4 : (((body.length - rest.length : Nat) : Int)).toNat = body.length - rest.length := by omega
    have hatb : body.length - rest.length + rest.length ≤ 9223372036854775807 := by omega
    clear h h2 hs hn hle hby
    have hle0 : body.length - rest.length ≤ body.length := Nat.sub_le _ _
    generalize body.length - rest.length = at_ at *
    have hsh' : (A = none ∧ A' = none ∧ n = 0 ∧ c = 0 ∧ at_ = 0) ∨ ∃ b o, A = some ⟨b, o, none⟩ ∧ ((n = at_ ∧ c = at_ ∧ A' = some ⟨b, o, none⟩) ∨ (¬ c = at_ ∧ A' = some ⟨b, o + at_, none⟩)) := by
      rcases hsh with ⟨h1, h2, h3, h4, h5⟩ | h6
      · exact .inl ⟨h1, h2, h3, h4, by omega⟩
      · obtain ⟨b, o, e1, ⟨e2, e3⟩ | ⟨e2, e3⟩⟩ := h6
        · exact .inr ⟨b, o, e1, .inl ⟨by omega, e2, e3⟩⟩
        · exact .inr ⟨b, o, e1, .inr ⟨e2, e3⟩⟩
    clear hsh hle0
    by_cases he : e = 0
    case neg =>
      have he' : (e != 0) = true := by simpa using he
      have HF : Hid (rrT rest false = (⟨#[]⟩, rest, true)) := by show _ = _; rw [HR0.out, if_pos (.inr he)]
      clear HR0 hok he
      rcases hsh' with ⟨rfl, rfl, rfl, rfl, rfl⟩ | ⟨b, o, rfl, ⟨rfl, rfl, rfl⟩ | ⟨hcc, rfl⟩⟩
      all_goals
        (try simp only [Int.natCast_zero, Nat.sub_zero, Nat.sub_self] at h1 HC hat1 hat2 hat4)
        go_enter Try.func41, Try.ntmps41
        go_wp2_with fail
        go_quiet ((go_at_call 67; exact quiet_left (HC.out _)))
        go_wp2_with fail
        go_ret
        exact ⟨by rw [HF.out]; rfl, by rw [HF.out]; exact HFA.out _, HBT.out _ _ _⟩
    have hul := hok he
    subst he
    clear hok
    have HF : Hid (rrT rest false = (u, rest.drop used, false)) := by show _ = _; rw [HR0.out, if_neg (by rintro (h | h); cases h; exact h rfl)]
    clear HR0
    rcases hsh' with ⟨rfl, rfl, rfl, rfl, rfl⟩ | ⟨b, o, rfl, ⟨rfl, rfl, rfl⟩ | ⟨hcc, rfl⟩⟩
    all_goals
      (try simp only [Int.natCast_zero, Nat.sub_zero, Nat.sub_self] at h1 HC hat1 hat2 hat4)
      go_enter Try.func41, Try.ntmps41
      go_wp2_with fail
      go_quiet ((go_at_call 67; exact quiet_left (HC.out _)))
      go_wp2_with fail
      go_ret
      exact ⟨by rw [HF.out]; rfl, by rw [HF.out]; exact HDR.out _ used _ hul (by omega), HBT.out _ _ _⟩
end Go.Proofs.Ytkhedjfdjjeopaa
