/-
  How incidents lie in memory; contracts of incident.known, incident.shaped and of the reference's span.
  No condition.
-/
import Derived.Test.YtifconapjfdkcaaGreatDoorSAP
import Derived.Test.YtifconapjfdkcaaGreatDoorSBL
namespace Go.Proofs.YtifconapjfdkcaaGreatDoor
set_option linter.unusedSimpArgs false
set_option linter.unusedVariables false
open Go.RowKit

def GInc.ok (x : GInc) : Prop := (-9223372036854775808 ≤ x.kind ∧ x.kind ≤ 9223372036854775807) ∧ (-9223372036854775808 ≤ x.flight ∧ x.flight ≤ 9223372036854775807) ∧ (-9223372036854775808 ≤ x.minutes ∧ x.minutes ≤ 9223372036854775807) ∧
  x.airport.size ≤ maxLen ∧ (-9223372036854775808 ≤ x.person ∧ x.person ≤ 9223372036854775807) ∧ x.span.ok
def Ty.inc : Ty GInc := {
  size := 7
  rep := fun _ _ cs x => cs = incCells x
  ok := GInc.ok
  pos := by decide
  len := fun h => by rw [h]; rfl
  keep := fun h _ => h
  more := fun h _ => h
  one := fun h u hu => by rw [h] at hu; simp [incCells] at hu; rcases hu with rfl | rfl | rfl | rfl | rfl | rfl | rfl <;> rfl }
theorem Sl.inc_at {w : World} {S : Nat → Prop} {A : Option Addr} {n c : Nat} {xs : List GInc} (h : Sl Ty.inc w S A n c xs) {k : Nat} (hk : k < xs.length) : ∃ b o, A = some ⟨b, o, none⟩ ∧ S b ∧ At w b (o + k * 7) (incCells (xs.getD k noInc)) := by
  obtain ⟨b, o, cs, e, hs, hr, ha⟩ := h.at_ hk
  have hr' : cs = incCells xs[k] := hr
  subst hr'
  have : xs.getD k noInc = xs[k] := by rw [List.getD_eq_getElem?_getD, List.getElem?_eq_getElem hk]; rfl
  rw [this]
  exact ⟨b, o, e, hs, ha⟩
def incVal (x : GInc) : Value := .agg #[.int .i64 x.kind, .int .i64 x.flight, .int .i64 x.minutes, .string x.airport, .int .i64 x.person, .int .i64 x.span.at_, .int .i64 x.span.off]
def BoolP (b : Bool) (w : World) (e : Ending) (w' : World) : Prop := e = .returned (.bool b) ∧ Below w.heap.size w w'
theorem incKnown_any (k : Int) (w : World) : Calls Tryz.prog 36 #[.int .i64 k] w fun e w' => e = .returned (.bool (decide (1 ≤ k ∧ k ≤ 4))) ∧ w' = w := by
  by_cases h1 : 1 ≤ k
  · by_cases h2 : k ≤ 4
    · go_enter Tryz.func36, Tryz.ntmps36
      go_wp2_with fail
      go_ret
      exact ⟨ret_bool (decide_eq_true ⟨h1, h2⟩).symm, rfl⟩
    · go_enter Tryz.func36, Tryz.ntmps36
      go_wp2_with fail
      go_ret
      exact ⟨ret_bool (decide_eq_false fun h => by omega).symm, rfl⟩
  · go_enter Tryz.func36, Tryz.ntmps36
    go_wp2_with fail
    go_ret
    exact ⟨ret_bool (by simp; omega), rfl⟩
theorem noStr_iff (a : ByteArray) : a = noStr ↔ a.toList = [] := by
  rw [ByteArray.toList_eq]
  obtain ⟨⟨l⟩⟩ := a
  unfold noStr
  simp
theorem shaped_any (x : GInc) (w : World) (hk : 1 ≤ x.kind ∧ x.kind ≤ 4) : Calls Tryz.prog 39 #[incVal x] w (BoolP (shapedI x) w) := by
  unfold incVal
  have hbw : ∀ o1, Below w.heap.size w (w.alloc o1) := fun o1 => (Below.refl _ _).alloc (Nat.le_refl _) _
  obtain ⟨kind, fl, mi, ai, pe, ⟨s1, s2⟩⟩ := x
  simp only at hk ⊢
  have hk' : kind = 1 ∨ kind = 2 ∨ kind = 3 ∨ kind = 4 := by omega
  rcases hk' with rfl | rfl | rfl | rfl
  all_goals
    go_enter Tryz.func39, Tryz.ntmps39
    go_wp2_with fail
  all_goals go_ret
  all_goals
    refine ⟨ret_bool ?_, hbw _⟩
    unfold shapedI
    simp only [noStr_iff]
    simp [*]
end Go.Proofs.YtifconapjfdkcaaGreatDoor
