/-
  The contract number 3 of the laws' data: read and checked in the kernel.
  No condition.
-/
import Derived.Test.YthldmlfpebgojaaGreatDoorQN
import Derived.Test.YthldmlfpebgojaaGreatDoorProg
namespace Go.Proofs.YthldmlfpebgojaaGreatDoor
set_option linter.unusedSimpArgs false
set_option linter.unusedVariables false
set_option maxRecDepth 100000
open Go.RowKit Go

def conS3 : ByteArray := ⟨#[114, 101, 112, 111, 114, 116, 32, 49, 58, 48, 48, 10, 114, 101, 108, 101, 97, 115, 101, 32, 48, 58, 51, 48, 10, 99, 111, 110, 110, 101, 99, 116, 32, 48, 58, 51, 48, 10, 108, 97, 121, 111, 118, 101, 114, 32, 51, 48, 58, 48, 48, 10, 110, 105, 103, 104, 116, 32, 64, 50, 50, 58, 48, 48, 32, 116, 111, 32, 64, 48, 54, 58, 48, 48, 10, 100, 117, 116, 121, 32, 114, 117, 108, 101, 32, 108, 101, 103, 115, 95, 109, 97, 120, 32, 105, 115, 32, 108, 101, 103, 115, 32, 43, 32, 104, 101, 97, 100, 115, 32, 60, 61, 32, 51, 10, 100, 117, 116, 121, 32, 99, 111, 115, 116, 32, 105, 115, 32, 49, 48, 32, 42, 32, 108, 101, 103, 115, 32, 43, 32, 98, 108, 111, 99, 107, 32, 47, 32, 48, 58, 51, 48, 10, 114, 101, 115, 116, 32, 99, 111, 115, 116, 32, 105, 115, 32, 53, 10, 112, 97, 105, 114, 105, 110, 103, 32, 99, 111, 115, 116, 32, 105, 115, 32, 55, 10, 100, 117, 116, 121, 32, 99, 114, 101, 100, 105, 116, 32, 105, 115, 32, 109, 97, 120, 40, 98, 108, 111, 99, 107, 44, 32, 50, 58, 48, 48, 41, 10, 108, 105, 109, 105, 116, 32, 102, 108, 121, 105, 110, 103, 32, 105, 115, 32, 98, 108, 111, 99, 107, 32, 54, 58, 48, 48, 32, 105, 110, 32, 50, 32, 100, 97, 121, 115, 10, 108, 105, 109, 105, 116, 32, 119, 111, 114, 107, 32, 105, 115, 32, 100, 117, 116, 105, 101, 115, 32, 51, 32, 105, 110, 32, 51, 32, 100, 97, 121, 115, 10, 111, 102, 102, 32, 102, 114, 101, 101, 32, 105, 115, 32, 49, 32, 105, 110, 32, 51, 32, 100, 97, 121, 115, 10, 103, 117, 97, 114, 97, 110, 116, 101, 101, 32, 49, 48, 58, 48, 48, 10]⟩
def conV3 : List Value := [.int .i64 60, .int .i64 30, .int .i64 30, .int .i64 1440, .int .i64 1800, .int .i64 1320, .int .i64 360, .slice none 0 0, .slice (some ⟨185, 0, none⟩) 1 1, .slice (some ⟨384, 0, none⟩) 3 3, .slice (some ⟨524, 0, none⟩) 1 1, .slice (some ⟨596, 0, none⟩) 2 2, .slice (some ⟨628, 0, none⟩) 1 1, .int .i64 600]
def conR3 : List (Nat × Blk) := [(159, ⟨[.int .i64 6, .int .i64 0, .string ⟨#[108, 101, 103, 115]⟩, .slice none 0 0, .int .i64 6, .int .i64 0, .string ⟨#[104, 101, 97, 100, 115]⟩, .slice none 0 0], 280, 4⟩),
  (178, ⟨[.int .i64 8, .int .i64 0, .string ⟨#[]⟩, .slice (some ⟨159, 0, none⟩) 2 2, .int .i64 1, .int .i64 3, .string ⟨#[]⟩, .slice none 0 0], 280, 4⟩),
  (185, ⟨[.int .i64 1, .string ⟨#[108, 101, 103, 115, 95, 109, 97, 120]⟩, .int .i64 17, .int .i64 0, .string ⟨#[]⟩, .slice (some ⟨178, 0, none⟩) 2 2], 287, 6⟩),
  (255, ⟨[.int .i64 1, .int .i64 10, .string ⟨#[]⟩, .slice none 0 0, .int .i64 6, .int .i64 0, .string ⟨#[108, 101, 103, 115]⟩, .slice none 0 0], 280, 4⟩),
  (283, ⟨[.int .i64 6, .int .i64 0, .string ⟨#[98, 108, 111, 99, 107]⟩, .slice none 0 0, .int .i64 2, .int .i64 30, .string ⟨#[]⟩, .slice none 0 0], 280, 4⟩),
  (284, ⟨[.int .i64 10, .int .i64 0, .string ⟨#[]⟩, .slice (some ⟨255, 0, none⟩) 2 2, .int .i64 11, .int .i64 0, .string ⟨#[]⟩, .slice (some ⟨283, 0, none⟩) 2 2], 280, 4⟩),
  (384, ⟨[.int .i64 1, .int .i64 8, .int .i64 0, .string ⟨#[]⟩, .slice (some ⟨284, 0, none⟩) 2 2, .int .i64 2, .int .i64 1, .int .i64 5, .string ⟨#[]⟩, .slice none 0 0, .int .i64 3, .int .i64 1, .int .i64 7, .string ⟨#[]⟩, .slice none 0 0], 289, 5⟩),
  (512, ⟨[.int .i64 6, .int .i64 0, .string ⟨#[98, 108, 111, 99, 107]⟩, .slice none 0 0, .int .i64 2, .int .i64 120, .string ⟨#[]⟩, .slice none 0 0], 280, 4⟩),
  (524, ⟨[.int .i64 13, .int .i64 0, .string ⟨#[]⟩, .slice (some ⟨512, 0, none⟩) 2 2], 280, 4⟩),
  (596, ⟨[.string ⟨#[102, 108, 121, 105, 110, 103]⟩, .string ⟨#[98, 108, 111, 99, 107]⟩, .int .i64 360, .int .i64 2, .string ⟨#[119, 111, 114, 107]⟩, .string ⟨#[100, 117, 116, 105, 101, 115]⟩, .int .i64 3, .int .i64 3], 291, 4⟩),
  (628, ⟨[.string ⟨#[102, 114, 101, 101]⟩, .int .i64 1, .int .i64 3], 293, 3⟩)]
def conN3 : Nat := 697
def conRules3 : List RuleD := [⟨1, ⟨#[108, 101, 103, 115, 95, 109, 97, 120]⟩, (.mk 17 0 ⟨#[]⟩ [(.mk 8 0 ⟨#[]⟩ [(.mk 6 0 ⟨#[108, 101, 103, 115]⟩ []), (.mk 6 0 ⟨#[104, 101, 97, 100, 115]⟩ [])]), (.mk 1 3 ⟨#[]⟩ [])])⟩]
def conCosts3 : List CostD := [⟨1, (.mk 8 0 ⟨#[]⟩ [(.mk 10 0 ⟨#[]⟩ [(.mk 1 10 ⟨#[]⟩ []), (.mk 6 0 ⟨#[108, 101, 103, 115]⟩ [])]), (.mk 11 0 ⟨#[]⟩ [(.mk 6 0 ⟨#[98, 108, 111, 99, 107]⟩ []), (.mk 2 30 ⟨#[]⟩ [])])])⟩, ⟨2, (.mk 1 5 ⟨#[]⟩ [])⟩, ⟨3, (.mk 1 7 ⟨#[]⟩ [])⟩]
def conCredit3 : List Tm := [(.mk 13 0 ⟨#[]⟩ [(.mk 6 0 ⟨#[98, 108, 111, 99, 107]⟩ []), (.mk 2 120 ⟨#[]⟩ [])])]
noncomputable def cl_p3 : Cl := ⟨63, [.string conS3], [], 0, (.tuple #[.agg conV3.toArray, .int .i64 0, .int .i64 0]), conR3, conN3⟩
theorem cl_p3_fine : cl_p3.Fine := Cl.fineB_ok (by kernel_rfl)
theorem cl_p3_ok : cl_p3.Ok Tryz.prog := Cl.ok_of cl_p3_fine 100000 200 (by kernel_rfl)
noncomputable def cl_c3 : Cl := ⟨190, [.agg conV3.toArray], conR3, 629, (.int .i64 0), [], 826⟩
theorem cl_c3_fine : cl_c3.Fine := Cl.fineB_ok (by kernel_rfl)
theorem cl_c3_ok : cl_c3.Ok Tryz.prog := Cl.ok_of cl_c3_fine 100000 200 (by kernel_rfl)
end Go.Proofs.YthldmlfpebgojaaGreatDoor
