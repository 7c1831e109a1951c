/-
  Contract of pairinglaw9.Light: it returns a bool.
  No condition.
-/
import Derived.Test.YtkhedjfdjjeopaaTTMem
import Derived.BigQuiet
import Derived.Deep.QuietTactic
namespace Go.Proofs.Ytkhedjfdjjeopaa
set_option linter.unusedSimpArgs false
set_option linter.unusedVariables false
open Go.RowKit

def SomeBool (w : World) (e : Ending) (w' : World) : Prop := ∃ b, e = .returned (.bool b) ∧ Below w.heap.size w w'
set_option maxRecDepth 100000 in
theorem light_any (t : GTT) (A1 A2 A3 : Option Addr) (n1 n2 n3 c1 c2 c3 : Nat) (w : World) (hs1 : Sl Ty.zone w (all_ w) A1 n1 c1 t.zones) :
    Calls Try.prog 7 #[.agg #[.slice A1 n1 c1, .slice A2 n2 c2, .slice A3 n3 c3]] w (SomeBool w) := by
  have hle := hs1.le
  unfold maxLen at hle
  have e1 : n1 ≤ t.zones.length := Nat.le_of_eq hs1.len
  have hb0 := (Below.refl w.heap.size w).alloc (Nat.le_refl _) (.cells #[.slice A1 n1 c1, .slice A2 n2 c2, .slice A3 n3 c3] 26)
  have hx0 : ∀ j, (w.alloc (.cells #[.slice A1 n1 c1, .slice A2 n2 c2, .slice A3 n3 c3] 26)).cell? ⟨w.heap.size, j, none⟩ = (#[Value.slice A1 n1 c1, .slice A2 n2 c2, .slice A3 n3 c3])[j]? := fun j => World.cell?_alloc_at _ _ _ _ rfl
  have HB0 := Lib.hid hb0; have HX0 := Lib.hid hx0; have HS1 := Lib.hid (hs1.keep (all_keep hb0))
  clear hs1 hb0 hx0
  go_enter Try.func7, Try.ntmps7
  go_wp2_with fail
  generalize w.alloc (.cells #[.slice A1 n1 c1, .slice A2 n2 c2, .slice A3 n3 c3] 26) = W at *
  have x0 : W.cell? ⟨w.heap.size, 0, none⟩ = some (.slice A1 n1 c1) := HX0.out 0
  generalize hm : wrap64 (wrap64 ((n1 : Int) + n2) + n3) = m0 at *
  clear hm
  go_loop [3, 4] (fun nv i => ∃ (k : Nat) (m : Int), k ≤ n1 ∧ i = .int .i64 k ∧ nv = .int .i64 m) (fun _ i => n1 - (intOf i).toNat)
  case atStart => exact ⟨0, m0, Nat.zero_le _, rfl, rfl⟩
  case round =>
    obtain ⟨k, m, hk, rfl, rfl⟩ := hrel
    by_cases hlt : k < n1
    · have hkl : k < t.zones.length := by omega
      obtain ⟨b, o, A', n', c', rfl, hbS, y0, y1, y2, hsh⟩ := HS1.out.zone_at hkl
      clear y0 y1 hsh
      by_cases hm : m < 1000
      · go_wp2_with fail
        go_round
        case rel => exact ⟨k + 1, _, by omega, by go_num, rfl⟩
        case measure => simp [intOf]; omega
      · go_wp2_with fail
        go_ret
        exact ⟨_, rfl, HB0.out⟩
    · go_wp2_with fail
      go_ret
      exact ⟨_, rfl, HB0.out⟩
end Go.Proofs.Ytkhedjfdjjeopaa
