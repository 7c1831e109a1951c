/-
  The contract number 4 of the laws' data: read and checked in the kernel.
  No condition.
-/
import Derived.Test.YthldmlfpebgojaaGreatDoorQN
import Derived.Test.YthldmlfpebgojaaGreatDoorProg
namespace Go.Proofs.YthldmlfpebgojaaGreatDoor
set_option linter.unusedSimpArgs false
set_option linter.unusedVariables false
set_option maxRecDepth 100000
open Go.RowKit Go

def conS4 : ByteArray := ⟨#[99, 111, 110, 110, 101, 99, 116, 32, 48, 58, 50, 48, 10, 115, 105, 116, 32, 52, 58, 48, 48, 10, 108, 97, 121, 111, 118, 101, 114, 32, 50, 48, 58, 48, 48, 10, 100, 117, 116, 121, 32, 114, 117, 108, 101, 32, 111, 110, 101, 95, 116, 121, 112, 101, 32, 105, 115, 32, 116, 121, 112, 101, 115, 32, 60, 61, 32, 49, 10, 100, 117, 116, 121, 32, 99, 111, 115, 116, 32, 105, 115, 32, 48, 32, 45, 32, 108, 101, 103, 115, 10, 112, 97, 105, 114, 105, 110, 103, 32, 99, 111, 115, 116, 32, 105, 115, 32, 105, 102, 32, 108, 101, 103, 115, 32, 60, 32, 50, 32, 116, 104, 101, 110, 32, 57, 32, 101, 108, 115, 101, 32, 50, 10]⟩
def conV4 : List Value := [.int .i64 0, .int .i64 0, .int .i64 20, .int .i64 240, .int .i64 1200, .int .i64 0, .int .i64 0, .slice none 0 0, .slice (some ⟨120, 0, none⟩) 1 1, .slice (some ⟨373, 0, none⟩) 2 2, .slice none 0 0, .slice none 0 0, .slice none 0 0, .int .i64 0]
def conR4 : List (Nat × Blk) := [(113, ⟨[.int .i64 6, .int .i64 0, .string ⟨#[116, 121, 112, 101, 115]⟩, .slice none 0 0, .int .i64 1, .int .i64 1, .string ⟨#[]⟩, .slice none 0 0], 280, 4⟩),
  (120, ⟨[.int .i64 1, .string ⟨#[111, 110, 101, 95, 116, 121, 112, 101]⟩, .int .i64 17, .int .i64 0, .string ⟨#[]⟩, .slice (some ⟨113, 0, none⟩) 2 2], 287, 6⟩),
  (182, ⟨[.int .i64 1, .int .i64 0, .string ⟨#[]⟩, .slice none 0 0, .int .i64 6, .int .i64 0, .string ⟨#[108, 101, 103, 115]⟩, .slice none 0 0], 280, 4⟩),
  (295, ⟨[.int .i64 6, .int .i64 0, .string ⟨#[108, 101, 103, 115]⟩, .slice none 0 0, .int .i64 1, .int .i64 2, .string ⟨#[]⟩, .slice none 0 0], 280, 4⟩),
  (363, ⟨[.int .i64 16, .int .i64 0, .string ⟨#[]⟩, .slice (some ⟨295, 0, none⟩) 2 2, .int .i64 1, .int .i64 9, .string ⟨#[]⟩, .slice none 0 0, .int .i64 1, .int .i64 2, .string ⟨#[]⟩, .slice none 0 0], 280, 4⟩),
  (373, ⟨[.int .i64 1, .int .i64 9, .int .i64 0, .string ⟨#[]⟩, .slice (some ⟨182, 0, none⟩) 2 2, .int .i64 3, .int .i64 14, .int .i64 0, .string ⟨#[]⟩, .slice (some ⟨363, 0, none⟩) 3 3], 289, 5⟩)]
def conN4 : Nat := 411
def conRules4 : List RuleD := [⟨1, ⟨#[111, 110, 101, 95, 116, 121, 112, 101]⟩, (.mk 17 0 ⟨#[]⟩ [(.mk 6 0 ⟨#[116, 121, 112, 101, 115]⟩ []), (.mk 1 1 ⟨#[]⟩ [])])⟩]
def conCosts4 : List CostD := [⟨1, (.mk 9 0 ⟨#[]⟩ [(.mk 1 0 ⟨#[]⟩ []), (.mk 6 0 ⟨#[108, 101, 103, 115]⟩ [])])⟩, ⟨3, (.mk 14 0 ⟨#[]⟩ [(.mk 16 0 ⟨#[]⟩ [(.mk 6 0 ⟨#[108, 101, 103, 115]⟩ []), (.mk 1 2 ⟨#[]⟩ [])]), (.mk 1 9 ⟨#[]⟩ []), (.mk 1 2 ⟨#[]⟩ [])])⟩]
def conCredit4 : List Tm := []
noncomputable def cl_p4 : Cl := ⟨63, [.string conS4], [], 0, (.tuple #[.agg conV4.toArray, .int .i64 0, .int .i64 0]), conR4, conN4⟩
theorem cl_p4_fine : cl_p4.Fine := Cl.fineB_ok (by kernel_rfl)
theorem cl_p4_ok : cl_p4.Ok Tryz.prog := Cl.ok_of cl_p4_fine 100000 200 (by kernel_rfl)
noncomputable def cl_c4 : Cl := ⟨190, [.agg conV4.toArray], conR4, 374, (.int .i64 0), [], 505⟩
theorem cl_c4_fine : cl_c4.Fine := Cl.fineB_ok (by kernel_rfl)
theorem cl_c4_ok : cl_c4.Ok Tryz.prog := Cl.ok_of cl_c4_fine 100000 200 (by kernel_rfl)
end Go.Proofs.YthldmlfpebgojaaGreatDoor
