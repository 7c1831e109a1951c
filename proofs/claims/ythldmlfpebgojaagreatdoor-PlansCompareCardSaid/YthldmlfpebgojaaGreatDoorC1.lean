/-
  The contract number 1 of the laws' data: read and checked in the kernel.
  No condition.
-/
import Derived.Test.YthldmlfpebgojaaGreatDoorQN
import Derived.Test.YthldmlfpebgojaaGreatDoorProg
namespace Go.Proofs.YthldmlfpebgojaaGreatDoor
set_option linter.unusedSimpArgs false
set_option linter.unusedVariables false
set_option maxRecDepth 100000
open Go.RowKit Go

def conS1 : ByteArray := ⟨#[114, 101, 112, 111, 114, 116, 32, 49, 58, 48, 48, 10, 114, 101, 108, 101, 97, 115, 101, 32, 48, 58, 51, 48, 10, 99, 111, 110, 110, 101, 99, 116, 32, 48, 58, 51, 48, 10, 108, 97, 121, 111, 118, 101, 114, 32, 51, 48, 58, 48, 48, 10, 114, 101, 115, 116, 32, 114, 117, 108, 101, 32, 109, 105, 110, 105, 109, 117, 109, 32, 105, 115, 32, 50, 58, 48, 48, 32, 60, 61, 32, 114, 101, 115, 116, 10, 112, 97, 105, 114, 105, 110, 103, 32, 114, 117, 108, 101, 32, 115, 104, 111, 114, 116, 32, 105, 115, 32, 100, 117, 116, 105, 101, 115, 32, 60, 61, 32, 50, 10, 100, 117, 116, 121, 32, 99, 111, 115, 116, 32, 105, 115, 32, 52, 32, 43, 32, 104, 101, 97, 100, 115, 32, 42, 32, 51, 10, 112, 97, 105, 114, 105, 110, 103, 32, 99, 111, 115, 116, 32, 105, 115, 32, 100, 97, 121, 115, 32, 42, 32, 49, 48, 32, 45, 32, 108, 101, 103, 115, 10]⟩
def conV1 : List Value := [.int .i64 60, .int .i64 30, .int .i64 30, .int .i64 1440, .int .i64 1800, .int .i64 0, .int .i64 0, .slice none 0 0, .slice (some ⟨212, 0, none⟩) 2 2, .slice (some ⟨388, 0, none⟩) 2 2, .slice none 0 0, .slice none 0 0, .slice none 0 0, .int .i64 0]
def conR1 : List (Nat × Blk) := [(126, ⟨[.int .i64 2, .int .i64 120, .string ⟨#[]⟩, .slice none 0 0, .int .i64 6, .int .i64 0, .string ⟨#[114, 101, 115, 116]⟩, .slice none 0 0], 280, 4⟩),
  (205, ⟨[.int .i64 6, .int .i64 0, .string ⟨#[100, 117, 116, 105, 101, 115]⟩, .slice none 0 0, .int .i64 1, .int .i64 2, .string ⟨#[]⟩, .slice none 0 0], 280, 4⟩),
  (212, ⟨[.int .i64 2, .string ⟨#[109, 105, 110, 105, 109, 117, 109]⟩, .int .i64 17, .int .i64 0, .string ⟨#[]⟩, .slice (some ⟨126, 0, none⟩) 2 2, .int .i64 3, .string ⟨#[115, 104, 111, 114, 116]⟩, .int .i64 17, .int .i64 0, .string ⟨#[]⟩, .slice (some ⟨205, 0, none⟩) 2 2], 287, 6⟩),
  (290, ⟨[.int .i64 6, .int .i64 0, .string ⟨#[104, 101, 97, 100, 115]⟩, .slice none 0 0, .int .i64 1, .int .i64 3, .string ⟨#[]⟩, .slice none 0 0], 280, 4⟩),
  (291, ⟨[.int .i64 1, .int .i64 4, .string ⟨#[]⟩, .slice none 0 0, .int .i64 10, .int .i64 0, .string ⟨#[]⟩, .slice (some ⟨290, 0, none⟩) 2 2], 280, 4⟩),
  (362, ⟨[.int .i64 6, .int .i64 0, .string ⟨#[100, 97, 121, 115]⟩, .slice none 0 0, .int .i64 1, .int .i64 10, .string ⟨#[]⟩, .slice none 0 0], 280, 4⟩),
  (380, ⟨[.int .i64 10, .int .i64 0, .string ⟨#[]⟩, .slice (some ⟨362, 0, none⟩) 2 2, .int .i64 6, .int .i64 0, .string ⟨#[108, 101, 103, 115]⟩, .slice none 0 0], 280, 4⟩),
  (388, ⟨[.int .i64 1, .int .i64 8, .int .i64 0, .string ⟨#[]⟩, .slice (some ⟨291, 0, none⟩) 2 2, .int .i64 3, .int .i64 9, .int .i64 0, .string ⟨#[]⟩, .slice (some ⟨380, 0, none⟩) 2 2], 289, 5⟩)]
def conN1 : Nat := 440
def conRules1 : List RuleD := [⟨2, ⟨#[109, 105, 110, 105, 109, 117, 109]⟩, (.mk 17 0 ⟨#[]⟩ [(.mk 2 120 ⟨#[]⟩ []), (.mk 6 0 ⟨#[114, 101, 115, 116]⟩ [])])⟩, ⟨3, ⟨#[115, 104, 111, 114, 116]⟩, (.mk 17 0 ⟨#[]⟩ [(.mk 6 0 ⟨#[100, 117, 116, 105, 101, 115]⟩ []), (.mk 1 2 ⟨#[]⟩ [])])⟩]
def conCosts1 : List CostD := [⟨1, (.mk 8 0 ⟨#[]⟩ [(.mk 1 4 ⟨#[]⟩ []), (.mk 10 0 ⟨#[]⟩ [(.mk 6 0 ⟨#[104, 101, 97, 100, 115]⟩ []), (.mk 1 3 ⟨#[]⟩ [])])])⟩, ⟨3, (.mk 9 0 ⟨#[]⟩ [(.mk 10 0 ⟨#[]⟩ [(.mk 6 0 ⟨#[100, 97, 121, 115]⟩ []), (.mk 1 10 ⟨#[]⟩ [])]), (.mk 6 0 ⟨#[108, 101, 103, 115]⟩ [])])⟩]
def conCredit1 : List Tm := []
noncomputable def cl_p1 : Cl := ⟨63, [.string conS1], [], 0, (.tuple #[.agg conV1.toArray, .int .i64 0, .int .i64 0]), conR1, conN1⟩
theorem cl_p1_fine : cl_p1.Fine := Cl.fineB_ok (by kernel_rfl)
theorem cl_p1_ok : cl_p1.Ok Tryz.prog := Cl.ok_of cl_p1_fine 100000 200 (by kernel_rfl)
noncomputable def cl_c1 : Cl := ⟨190, [.agg conV1.toArray], conR1, 389, (.int .i64 0), [], 612⟩
theorem cl_c1_fine : cl_c1.Fine := Cl.fineB_ok (by kernel_rfl)
theorem cl_c1_ok : cl_c1.Ok Tryz.prog := Cl.ok_of cl_c1_fine 100000 200 (by kernel_rfl)
end Go.Proofs.YthldmlfpebgojaaGreatDoor
