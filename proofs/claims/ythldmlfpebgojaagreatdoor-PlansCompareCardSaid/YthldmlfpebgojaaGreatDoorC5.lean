/-
  The contract number 5 of the laws' data: read and checked in the kernel.
  No condition.
-/
import Derived.Test.YthldmlfpebgojaaGreatDoorQN
import Derived.Test.YthldmlfpebgojaaGreatDoorProg
namespace Go.Proofs.YthldmlfpebgojaaGreatDoor
set_option linter.unusedSimpArgs false
set_option linter.unusedVariables false
set_option maxRecDepth 100000
open Go.RowKit Go

def conS5 : ByteArray := ⟨#[114, 101, 112, 111, 114, 116, 32, 48, 58, 51, 48, 10, 114, 101, 108, 101, 97, 115, 101, 32, 48, 58, 51, 48, 10, 99, 111, 110, 110, 101, 99, 116, 32, 48, 58, 51, 48, 10, 108, 97, 121, 111, 118, 101, 114, 32, 51, 54, 58, 48, 48, 10, 110, 105, 103, 104, 116, 32, 64, 50, 50, 58, 48, 48, 32, 116, 111, 32, 64, 48, 54, 58, 48, 48, 10, 100, 117, 116, 121, 32, 114, 117, 108, 101, 32, 102, 108, 111, 119, 110, 32, 105, 115, 32, 104, 101, 97, 100, 115, 32, 60, 61, 32, 108, 101, 103, 115, 10, 100, 117, 116, 121, 32, 99, 111, 115, 116, 32, 105, 115, 32, 115, 112, 97, 110, 32, 47, 32, 49, 58, 48, 48, 10, 114, 101, 115, 116, 32, 99, 111, 115, 116, 32, 105, 115, 32, 114, 101, 115, 116, 32, 47, 32, 50, 58, 48, 48, 10, 108, 105, 109, 105, 116, 32, 110, 105, 103, 104, 116, 115, 32, 105, 115, 32, 110, 105, 103, 104, 116, 32, 52, 58, 48, 48, 32, 105, 110, 32, 50, 32, 100, 97, 121, 115, 10]⟩
def conV5 : List Value := [.int .i64 30, .int .i64 30, .int .i64 30, .int .i64 1440, .int .i64 2160, .int .i64 1320, .int .i64 360, .slice none 0 0, .slice (some ⟨153, 0, none⟩) 1 1, .slice (some ⟨285, 0, none⟩) 2 2, .slice none 0 0, .slice (some ⟨321, 0, none⟩) 1 1, .slice none 0 0, .int .i64 0]
def conR5 : List (Nat × Blk) := [(146, ⟨[.int .i64 6, .int .i64 0, .string ⟨#[104, 101, 97, 100, 115]⟩, .slice none 0 0, .int .i64 6, .int .i64 0, .string ⟨#[108, 101, 103, 115]⟩, .slice none 0 0], 280, 4⟩),
  (153, ⟨[.int .i64 1, .string ⟨#[102, 108, 111, 119, 110]⟩, .int .i64 17, .int .i64 0, .string ⟨#[]⟩, .slice (some ⟨146, 0, none⟩) 2 2], 287, 6⟩),
  (210, ⟨[.int .i64 6, .int .i64 0, .string ⟨#[115, 112, 97, 110]⟩, .slice none 0 0, .int .i64 2, .int .i64 60, .string ⟨#[]⟩, .slice none 0 0], 280, 4⟩),
  (276, ⟨[.int .i64 6, .int .i64 0, .string ⟨#[114, 101, 115, 116]⟩, .slice none 0 0, .int .i64 2, .int .i64 120, .string ⟨#[]⟩, .slice none 0 0], 280, 4⟩),
  (285, ⟨[.int .i64 1, .int .i64 11, .int .i64 0, .string ⟨#[]⟩, .slice (some ⟨210, 0, none⟩) 2 2, .int .i64 2, .int .i64 11, .int .i64 0, .string ⟨#[]⟩, .slice (some ⟨276, 0, none⟩) 2 2], 289, 5⟩),
  (321, ⟨[.string ⟨#[110, 105, 103, 104, 116, 115]⟩, .string ⟨#[110, 105, 103, 104, 116]⟩, .int .i64 240, .int .i64 2], 291, 4⟩)]
def conN5 : Nat := 356
def conRules5 : List RuleD := [⟨1, ⟨#[102, 108, 111, 119, 110]⟩, (.mk 17 0 ⟨#[]⟩ [(.mk 6 0 ⟨#[104, 101, 97, 100, 115]⟩ []), (.mk 6 0 ⟨#[108, 101, 103, 115]⟩ [])])⟩]
def conCosts5 : List CostD := [⟨1, (.mk 11 0 ⟨#[]⟩ [(.mk 6 0 ⟨#[115, 112, 97, 110]⟩ []), (.mk 2 60 ⟨#[]⟩ [])])⟩, ⟨2, (.mk 11 0 ⟨#[]⟩ [(.mk 6 0 ⟨#[114, 101, 115, 116]⟩ []), (.mk 2 120 ⟨#[]⟩ [])])⟩]
def conCredit5 : List Tm := []
noncomputable def cl_p5 : Cl := ⟨63, [.string conS5], [], 0, (.tuple #[.agg conV5.toArray, .int .i64 0, .int .i64 0]), conR5, conN5⟩
theorem cl_p5_fine : cl_p5.Fine := Cl.fineB_ok (by kernel_rfl)
theorem cl_p5_ok : cl_p5.Ok Tryz.prog := Cl.ok_of cl_p5_fine 100000 200 (by kernel_rfl)
noncomputable def cl_c5 : Cl := ⟨190, [.agg conV5.toArray], conR5, 322, (.int .i64 0), [], 479⟩
theorem cl_c5_fine : cl_c5.Fine := Cl.fineB_ok (by kernel_rfl)
theorem cl_c5_ok : cl_c5.Ok Tryz.prog := Cl.ok_of cl_c5_fine 100000 200 (by kernel_rfl)
end Go.Proofs.YthldmlfpebgojaaGreatDoor
