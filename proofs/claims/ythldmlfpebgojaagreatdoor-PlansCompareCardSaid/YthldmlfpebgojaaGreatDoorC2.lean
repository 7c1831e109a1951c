/-
  The contract number 2 of the laws' data: read and checked in the kernel.
  No condition.
-/
import Derived.Test.YthldmlfpebgojaaGreatDoorQN
import Derived.Test.YthldmlfpebgojaaGreatDoorProg
namespace Go.Proofs.YthldmlfpebgojaaGreatDoor
set_option linter.unusedSimpArgs false
set_option linter.unusedVariables false
set_option maxRecDepth 100000
open Go.RowKit Go

def conS2 : ByteArray := ⟨#[114, 101, 112, 111, 114, 116, 32, 49, 58, 48, 48, 10, 114, 101, 108, 101, 97, 115, 101, 32, 48, 58, 51, 48, 10, 99, 111, 110, 110, 101, 99, 116, 32, 48, 58, 51, 48, 10, 108, 97, 121, 111, 118, 101, 114, 32, 51, 48, 58, 48, 48, 10, 110, 105, 103, 104, 116, 32, 64, 50, 50, 58, 48, 48, 32, 116, 111, 32, 64, 48, 54, 58, 48, 48, 10, 100, 117, 116, 121, 32, 114, 117, 108, 101, 32, 108, 101, 103, 115, 95, 109, 97, 120, 32, 105, 115, 32, 108, 101, 103, 115, 32, 43, 32, 104, 101, 97, 100, 115, 32, 60, 61, 32, 51, 10, 100, 117, 116, 121, 32, 99, 111, 115, 116, 32, 105, 115, 32, 49, 48, 32, 42, 32, 108, 101, 103, 115, 32, 43, 32, 98, 108, 111, 99, 107, 32, 47, 32, 48, 58, 51, 48, 10, 114, 101, 115, 116, 32, 99, 111, 115, 116, 32, 105, 115, 32, 53, 10, 112, 97, 105, 114, 105, 110, 103, 32, 99, 111, 115, 116, 32, 105, 115, 32, 55, 10, 100, 117, 116, 121, 32, 114, 117, 108, 101, 32, 101, 97, 114, 108, 121, 32, 105, 115, 32, 115, 116, 97, 114, 116, 32, 105, 110, 32, 64, 48, 48, 58, 48, 48, 32, 116, 111, 32, 64, 48, 53, 58, 48, 48, 32, 105, 109, 112, 108, 105, 101, 115, 32, 108, 101, 103, 115, 32, 60, 61, 32, 49, 10, 112, 97, 105, 114, 105, 110, 103, 32, 114, 117, 108, 101, 32, 108, 101, 110, 103, 116, 104, 32, 105, 115, 32, 98, 108, 111, 99, 107, 32, 60, 61, 32, 56, 58, 48, 48, 10]⟩
def conV2 : List Value := [.int .i64 60, .int .i64 30, .int .i64 30, .int .i64 1440, .int .i64 1800, .int .i64 1320, .int .i64 360, .slice none 0 0, .slice (some ⟨633, 0, none⟩) 3 3, .slice (some ⟨378, 0, none⟩) 3 3, .slice none 0 0, .slice none 0 0, .slice none 0 0, .int .i64 0]
def conR2 : List (Nat × Blk) := [(153, ⟨[.int .i64 6, .int .i64 0, .string ⟨#[108, 101, 103, 115]⟩, .slice none 0 0, .int .i64 6, .int .i64 0, .string ⟨#[104, 101, 97, 100, 115]⟩, .slice none 0 0], 280, 4⟩),
  (172, ⟨[.int .i64 8, .int .i64 0, .string ⟨#[]⟩, .slice (some ⟨153, 0, none⟩) 2 2, .int .i64 1, .int .i64 3, .string ⟨#[]⟩, .slice none 0 0], 280, 4⟩),
  (249, ⟨[.int .i64 1, .int .i64 10, .string ⟨#[]⟩, .slice none 0 0, .int .i64 6, .int .i64 0, .string ⟨#[108, 101, 103, 115]⟩, .slice none 0 0], 280, 4⟩),
  (277, ⟨[.int .i64 6, .int .i64 0, .string ⟨#[98, 108, 111, 99, 107]⟩, .slice none 0 0, .int .i64 2, .int .i64 30, .string ⟨#[]⟩, .slice none 0 0], 280, 4⟩),
  (278, ⟨[.int .i64 10, .int .i64 0, .string ⟨#[]⟩, .slice (some ⟨249, 0, none⟩) 2 2, .int .i64 11, .int .i64 0, .string ⟨#[]⟩, .slice (some ⟨277, 0, none⟩) 2 2], 280, 4⟩),
  (378, ⟨[.int .i64 1, .int .i64 8, .int .i64 0, .string ⟨#[]⟩, .slice (some ⟨278, 0, none⟩) 2 2, .int .i64 2, .int .i64 1, .int .i64 5, .string ⟨#[]⟩, .slice none 0 0, .int .i64 3, .int .i64 1, .int .i64 7, .string ⟨#[]⟩, .slice none 0 0], 289, 5⟩),
  (499, ⟨[.int .i64 6, .int .i64 0, .string ⟨#[115, 116, 97, 114, 116]⟩, .slice none 0 0, .int .i64 3, .int .i64 0, .string ⟨#[]⟩, .slice none 0 0, .int .i64 3, .int .i64 300, .string ⟨#[]⟩, .slice none 0 0], 280, 4⟩),
  (546, ⟨[.int .i64 6, .int .i64 0, .string ⟨#[108, 101, 103, 115]⟩, .slice none 0 0, .int .i64 1, .int .i64 1, .string ⟨#[]⟩, .slice none 0 0], 280, 4⟩),
  (550, ⟨[.int .i64 15, .int .i64 0, .string ⟨#[]⟩, .slice (some ⟨499, 0, none⟩) 3 3, .int .i64 17, .int .i64 0, .string ⟨#[]⟩, .slice (some ⟨546, 0, none⟩) 2 2], 280, 4⟩),
  (626, ⟨[.int .i64 6, .int .i64 0, .string ⟨#[98, 108, 111, 99, 107]⟩, .slice none 0 0, .int .i64 2, .int .i64 480, .string ⟨#[]⟩, .slice none 0 0], 280, 4⟩),
  (633, ⟨[.int .i64 1, .string ⟨#[108, 101, 103, 115, 95, 109, 97, 120]⟩, .int .i64 17, .int .i64 0, .string ⟨#[]⟩, .slice (some ⟨172, 0, none⟩) 2 2, .int .i64 1, .string ⟨#[101, 97, 114, 108, 121]⟩, .int .i64 22, .int .i64 0, .string ⟨#[]⟩, .slice (some ⟨550, 0, none⟩) 2 2, .int .i64 3, .string ⟨#[108, 101, 110, 103, 116, 104]⟩, .int .i64 17, .int .i64 0, .string ⟨#[]⟩, .slice (some ⟨626, 0, none⟩) 2 2], 287, 6⟩)]
def conN2 : Nat := 711
def conRules2 : List RuleD := [⟨1, ⟨#[108, 101, 103, 115, 95, 109, 97, 120]⟩, (.mk 17 0 ⟨#[]⟩ [(.mk 8 0 ⟨#[]⟩ [(.mk 6 0 ⟨#[108, 101, 103, 115]⟩ []), (.mk 6 0 ⟨#[104, 101, 97, 100, 115]⟩ [])]), (.mk 1 3 ⟨#[]⟩ [])])⟩, ⟨1, ⟨#[101, 97, 114, 108, 121]⟩, (.mk 22 0 ⟨#[]⟩ [(.mk 15 0 ⟨#[]⟩ [(.mk 6 0 ⟨#[115, 116, 97, 114, 116]⟩ []), (.mk 3 0 ⟨#[]⟩ []), (.mk 3 300 ⟨#[]⟩ [])]), (.mk 17 0 ⟨#[]⟩ [(.mk 6 0 ⟨#[108, 101, 103, 115]⟩ []), (.mk 1 1 ⟨#[]⟩ [])])])⟩, ⟨3, ⟨#[108, 101, 110, 103, 116, 104]⟩, (.mk 17 0 ⟨#[]⟩ [(.mk 6 0 ⟨#[98, 108, 111, 99, 107]⟩ []), (.mk 2 480 ⟨#[]⟩ [])])⟩]
def conCosts2 : List CostD := [⟨1, (.mk 8 0 ⟨#[]⟩ [(.mk 10 0 ⟨#[]⟩ [(.mk 1 10 ⟨#[]⟩ []), (.mk 6 0 ⟨#[108, 101, 103, 115]⟩ [])]), (.mk 11 0 ⟨#[]⟩ [(.mk 6 0 ⟨#[98, 108, 111, 99, 107]⟩ []), (.mk 2 30 ⟨#[]⟩ [])])])⟩, ⟨2, (.mk 1 5 ⟨#[]⟩ [])⟩, ⟨3, (.mk 1 7 ⟨#[]⟩ [])⟩]
def conCredit2 : List Tm := []
noncomputable def cl_p2 : Cl := ⟨63, [.string conS2], [], 0, (.tuple #[.agg conV2.toArray, .int .i64 0, .int .i64 0]), conR2, conN2⟩
theorem cl_p2_fine : cl_p2.Fine := Cl.fineB_ok (by kernel_rfl)
theorem cl_p2_ok : cl_p2.Ok Tryz.prog := Cl.ok_of cl_p2_fine 100000 200 (by kernel_rfl)
noncomputable def cl_c2 : Cl := ⟨190, [.agg conV2.toArray], conR2, 634, (.int .i64 0), [], 906⟩
theorem cl_c2_fine : cl_c2.Fine := Cl.fineB_ok (by kernel_rfl)
theorem cl_c2_ok : cl_c2.Ok Tryz.prog := Cl.ok_of cl_c2_fine 100000 200 (by kernel_rfl)
end Go.Proofs.YthldmlfpebgojaaGreatDoor
