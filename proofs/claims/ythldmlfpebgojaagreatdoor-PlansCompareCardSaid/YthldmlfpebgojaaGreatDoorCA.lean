/-
  Small closed calls.
  No condition.
-/
import Derived.Test.YthldmlfpebgojaaGreatDoorQN
import Derived.Test.YthldmlfpebgojaaGreatDoorProg
namespace Go.Proofs.YthldmlfpebgojaaGreatDoor
set_option linter.unusedSimpArgs false
set_option linter.unusedVariables false
set_option maxRecDepth 100000
open Go.RowKit Go

def shiftR : List (Nat × Blk) := [(0, ⟨[.int .i64 12961060, .int .i64 60], 154, 2⟩)]
noncomputable def cl_at0 : Cl := ⟨233, [.int .i64 1, .string ⟨#[108, 101, 103, 115]⟩], [], 0, (.tuple #[.int .i64 1, .int .i64 0]), [], 1⟩
theorem cl_at0_fine : cl_at0.Fine := Cl.fineB_ok (by kernel_rfl)
theorem cl_at0_ok : cl_at0.Ok Tryz.prog := Cl.ok_of cl_at0_fine 100000 200 (by kernel_rfl)
noncomputable def cl_at1 : Cl := ⟨233, [.int .i64 1, .string ⟨#[104, 101, 97, 100, 115]⟩], [], 0, (.tuple #[.int .i64 1, .int .i64 0]), [], 1⟩
theorem cl_at1_fine : cl_at1.Fine := Cl.fineB_ok (by kernel_rfl)
theorem cl_at1_ok : cl_at1.Ok Tryz.prog := Cl.ok_of cl_at1_fine 100000 200 (by kernel_rfl)
noncomputable def cl_at2 : Cl := ⟨233, [.int .i64 1, .string ⟨#[98, 108, 111, 99, 107]⟩], [], 0, (.tuple #[.int .i64 2, .int .i64 0]), [], 1⟩
theorem cl_at2_fine : cl_at2.Fine := Cl.fineB_ok (by kernel_rfl)
theorem cl_at2_ok : cl_at2.Ok Tryz.prog := Cl.ok_of cl_at2_fine 100000 200 (by kernel_rfl)
noncomputable def cl_at3 : Cl := ⟨233, [.int .i64 1, .string ⟨#[116, 121, 112, 101, 115]⟩], [], 0, (.tuple #[.int .i64 1, .int .i64 0]), [], 1⟩
theorem cl_at3_fine : cl_at3.Fine := Cl.fineB_ok (by kernel_rfl)
theorem cl_at3_ok : cl_at3.Ok Tryz.prog := Cl.ok_of cl_at3_fine 100000 200 (by kernel_rfl)
noncomputable def cl_at4 : Cl := ⟨233, [.int .i64 1, .string ⟨#[115, 112, 97, 110]⟩], [], 0, (.tuple #[.int .i64 2, .int .i64 0]), [], 1⟩
theorem cl_at4_fine : cl_at4.Fine := Cl.fineB_ok (by kernel_rfl)
theorem cl_at4_ok : cl_at4.Ok Tryz.prog := Cl.ok_of cl_at4_fine 100000 200 (by kernel_rfl)
noncomputable def cl_at5 : Cl := ⟨233, [.int .i64 1, .string ⟨#[115, 116, 97, 114, 116]⟩], [], 0, (.tuple #[.int .i64 3, .int .i64 0]), [], 1⟩
theorem cl_at5_fine : cl_at5.Fine := Cl.fineB_ok (by kernel_rfl)
theorem cl_at5_ok : cl_at5.Ok Tryz.prog := Cl.ok_of cl_at5_fine 100000 200 (by kernel_rfl)
noncomputable def cl_at6 : Cl := ⟨233, [.int .i64 2, .string ⟨#[114, 101, 115, 116]⟩], [], 0, (.tuple #[.int .i64 2, .int .i64 0]), [], 46⟩
theorem cl_at6_fine : cl_at6.Fine := Cl.fineB_ok (by kernel_rfl)
theorem cl_at6_ok : cl_at6.Ok Tryz.prog := Cl.ok_of cl_at6_fine 100000 200 (by kernel_rfl)
noncomputable def cl_at7 : Cl := ⟨233, [.int .i64 3, .string ⟨#[100, 117, 116, 105, 101, 115]⟩], [], 0, (.tuple #[.int .i64 1, .int .i64 0]), [], 1⟩
theorem cl_at7_fine : cl_at7.Fine := Cl.fineB_ok (by kernel_rfl)
theorem cl_at7_ok : cl_at7.Ok Tryz.prog := Cl.ok_of cl_at7_fine 100000 200 (by kernel_rfl)
noncomputable def cl_at8 : Cl := ⟨233, [.int .i64 3, .string ⟨#[100, 97, 121, 115]⟩], [], 0, (.tuple #[.int .i64 1, .int .i64 0]), [], 1⟩
theorem cl_at8_fine : cl_at8.Fine := Cl.fineB_ok (by kernel_rfl)
theorem cl_at8_ok : cl_at8.Ok Tryz.prog := Cl.ok_of cl_at8_fine 100000 200 (by kernel_rfl)
noncomputable def cl_at9 : Cl := ⟨233, [.int .i64 3, .string ⟨#[108, 101, 103, 115]⟩], [], 0, (.tuple #[.int .i64 1, .int .i64 0]), [], 1⟩
theorem cl_at9_fine : cl_at9.Fine := Cl.fineB_ok (by kernel_rfl)
theorem cl_at9_ok : cl_at9.Ok Tryz.prog := Cl.ok_of cl_at9_fine 100000 200 (by kernel_rfl)
noncomputable def cl_at10 : Cl := ⟨233, [.int .i64 3, .string ⟨#[98, 108, 111, 99, 107]⟩], [], 0, (.tuple #[.int .i64 2, .int .i64 0]), [], 1⟩
theorem cl_at10_fine : cl_at10.Fine := Cl.fineB_ok (by kernel_rfl)
theorem cl_at10_ok : cl_at10.Ok Tryz.prog := Cl.ok_of cl_at10_fine 100000 200 (by kernel_rfl)
noncomputable def cl_as1 : Cl := ⟨286, [.int .i64 1], [], 0, (.slice (some ⟨0, 0, none⟩) 11 11), [(0, ⟨[.string ⟨#[108, 101, 103, 115]⟩, .string ⟨#[104, 101, 97, 100, 115]⟩, .string ⟨#[116, 121, 112, 101, 115]⟩, .string ⟨#[98, 108, 111, 99, 107]⟩, .string ⟨#[115, 112, 97, 110]⟩, .string ⟨#[110, 105, 103, 104, 116]⟩, .string ⟨#[108, 111, 110, 103, 101, 115, 116]⟩, .string ⟨#[115, 104, 111, 114, 116, 101, 115, 116]⟩, .string ⟨#[115, 104, 105, 102, 116]⟩, .string ⟨#[115, 116, 97, 114, 116]⟩, .string ⟨#[101, 110, 100]⟩], 9, 1⟩)], 1⟩
theorem cl_as1_fine : cl_as1.Fine := Cl.fineB_ok (by kernel_rfl)
theorem cl_as1_ok : cl_as1.Ok Tryz.prog := Cl.ok_of cl_as1_fine 100000 200 (by kernel_rfl)
noncomputable def cl_as2 : Cl := ⟨286, [.int .i64 2], [], 0, (.slice (some ⟨45, 0, none⟩) 25 25), [(45, ⟨[.string ⟨#[114, 101, 115, 116]⟩, .string ⟨#[110, 105, 103, 104, 116, 115]⟩, .string ⟨#[104, 111, 109, 101]⟩, .string ⟨#[98, 101, 102, 111, 114, 101, 46, 108, 101, 103, 115]⟩, .string ⟨#[98, 101, 102, 111, 114, 101, 46, 104, 101, 97, 100, 115]⟩, .string ⟨#[98, 101, 102, 111, 114, 101, 46, 116, 121, 112, 101, 115]⟩, .string ⟨#[98, 101, 102, 111, 114, 101, 46, 98, 108, 111, 99, 107]⟩, .string ⟨#[98, 101, 102, 111, 114, 101, 46, 115, 112, 97, 110]⟩, .string ⟨#[98, 101, 102, 111, 114, 101, 46, 110, 105, 103, 104, 116]⟩, .string ⟨#[98, 101, 102, 111, 114, 101, 46, 108, 111, 110, 103, 101, 115, 116]⟩, .string ⟨#[98, 101, 102, 111, 114, 101, 46, 115, 104, 111, 114, 116, 101, 115, 116]⟩, .string ⟨#[98, 101, 102, 111, 114, 101, 46, 115, 104, 105, 102, 116]⟩, .string ⟨#[98, 101, 102, 111, 114, 101, 46, 115, 116, 97, 114, 116]⟩, .string ⟨#[98, 101, 102, 111, 114, 101, 46, 101, 110, 100]⟩, .string ⟨#[97, 102, 116, 101, 114, 46, 108, 101, 103, 115]⟩, .string ⟨#[97, 102, 116, 101, 114, 46, 104, 101, 97, 100, 115]⟩, .string ⟨#[97, 102, 116, 101, 114, 46, 116, 121, 112, 101, 115]⟩, .string ⟨#[97, 102, 116, 101, 114, 46, 98, 108, 111, 99, 107]⟩, .string ⟨#[97, 102, 116, 101, 114, 46, 115, 112, 97, 110]⟩, .string ⟨#[97, 102, 116, 101, 114, 46, 110, 105, 103, 104, 116]⟩, .string ⟨#[97, 102, 116, 101, 114, 46, 108, 111, 110, 103, 101, 115, 116]⟩, .string ⟨#[97, 102, 116, 101, 114, 46, 115, 104, 111, 114, 116, 101, 115, 116]⟩, .string ⟨#[97, 102, 116, 101, 114, 46, 115, 104, 105, 102, 116]⟩, .string ⟨#[97, 102, 116, 101, 114, 46, 115, 116, 97, 114, 116]⟩, .string ⟨#[97, 102, 116, 101, 114, 46, 101, 110, 100]⟩], 9, 1⟩)], 46⟩
theorem cl_as2_fine : cl_as2.Fine := Cl.fineB_ok (by kernel_rfl)
theorem cl_as2_ok : cl_as2.Ok Tryz.prog := Cl.ok_of cl_as2_fine 100000 200 (by kernel_rfl)
noncomputable def cl_as3 : Cl := ⟨286, [.int .i64 3], [], 0, (.slice (some ⟨0, 0, none⟩) 7 7), [(0, ⟨[.string ⟨#[100, 117, 116, 105, 101, 115]⟩, .string ⟨#[108, 101, 103, 115]⟩, .string ⟨#[104, 101, 97, 100, 115]⟩, .string ⟨#[100, 97, 121, 115]⟩, .string ⟨#[98, 108, 111, 99, 107]⟩, .string ⟨#[115, 112, 97, 110]⟩, .string ⟨#[99, 114, 101, 100, 105, 116]⟩], 9, 1⟩)], 1⟩
theorem cl_as3_fine : cl_as3.Fine := Cl.fineB_ok (by kernel_rfl)
theorem cl_as3_ok : cl_as3.Ok Tryz.prog := Cl.ok_of cl_as3_fine 100000 200 (by kernel_rfl)
noncomputable def cl_nm0 : Cl := ⟨226, [.string ⟨#[117, 116, 99]⟩], [], 0, (.bool true), [], 0⟩
theorem cl_nm0_fine : cl_nm0.Fine := Cl.fineB_ok (by kernel_rfl)
theorem cl_nm0_ok : cl_nm0.Ok Tryz.prog := Cl.ok_of cl_nm0_fine 100000 200 (by kernel_rfl)
noncomputable def cl_nm1 : Cl := ⟨226, [.string ⟨#[101, 97, 115, 116]⟩], [], 0, (.bool true), [], 0⟩
theorem cl_nm1_fine : cl_nm1.Fine := Cl.fineB_ok (by kernel_rfl)
theorem cl_nm1_ok : cl_nm1.Ok Tryz.prog := Cl.ok_of cl_nm1_fine 100000 200 (by kernel_rfl)
noncomputable def cl_nm2 : Cl := ⟨226, [.string ⟨#[98, 55, 51, 55]⟩], [], 0, (.bool true), [], 0⟩
theorem cl_nm2_fine : cl_nm2.Fine := Cl.fineB_ok (by kernel_rfl)
theorem cl_nm2_ok : cl_nm2.Ok Tryz.prog := Cl.ok_of cl_nm2_fine 100000 200 (by kernel_rfl)
noncomputable def cl_nm3 : Cl := ⟨226, [.string ⟨#[97, 51, 50, 48]⟩], [], 0, (.bool true), [], 0⟩
theorem cl_nm3_fine : cl_nm3.Fine := Cl.fineB_ok (by kernel_rfl)
theorem cl_nm3_ok : cl_nm3.Ok Tryz.prog := Cl.ok_of cl_nm3_fine 100000 200 (by kernel_rfl)
noncomputable def cl_cd0 : Cl := ⟨303, [.string ⟨#[70, 48]⟩], [], 0, (.bool true), [], 0⟩
theorem cl_cd0_fine : cl_cd0.Fine := Cl.fineB_ok (by kernel_rfl)
theorem cl_cd0_ok : cl_cd0.Ok Tryz.prog := Cl.ok_of cl_cd0_fine 100000 200 (by kernel_rfl)
noncomputable def cl_cd1 : Cl := ⟨303, [.string ⟨#[70, 49]⟩], [], 0, (.bool true), [], 0⟩
theorem cl_cd1_fine : cl_cd1.Fine := Cl.fineB_ok (by kernel_rfl)
theorem cl_cd1_ok : cl_cd1.Ok Tryz.prog := Cl.ok_of cl_cd1_fine 100000 200 (by kernel_rfl)
noncomputable def cl_cd2 : Cl := ⟨303, [.string ⟨#[70, 50]⟩], [], 0, (.bool true), [], 0⟩
theorem cl_cd2_fine : cl_cd2.Fine := Cl.fineB_ok (by kernel_rfl)
theorem cl_cd2_ok : cl_cd2.Ok Tryz.prog := Cl.ok_of cl_cd2_fine 100000 200 (by kernel_rfl)
noncomputable def cl_cd3 : Cl := ⟨303, [.string ⟨#[70, 51]⟩], [], 0, (.bool true), [], 0⟩
theorem cl_cd3_fine : cl_cd3.Fine := Cl.fineB_ok (by kernel_rfl)
theorem cl_cd3_ok : cl_cd3.Ok Tryz.prog := Cl.ok_of cl_cd3_fine 100000 200 (by kernel_rfl)
noncomputable def cl_cd4 : Cl := ⟨303, [.string ⟨#[70, 52]⟩], [], 0, (.bool true), [], 0⟩
theorem cl_cd4_fine : cl_cd4.Fine := Cl.fineB_ok (by kernel_rfl)
theorem cl_cd4_ok : cl_cd4.Ok Tryz.prog := Cl.ok_of cl_cd4_fine 100000 200 (by kernel_rfl)
noncomputable def cl_ap0 : Cl := ⟨244, [.string ⟨#[65, 65, 65]⟩], [], 0, (.bool true), [], 0⟩
theorem cl_ap0_fine : cl_ap0.Fine := Cl.fineB_ok (by kernel_rfl)
theorem cl_ap0_ok : cl_ap0.Ok Tryz.prog := Cl.ok_of cl_ap0_fine 100000 200 (by kernel_rfl)
noncomputable def cl_ap1 : Cl := ⟨244, [.string ⟨#[66, 66, 66]⟩], [], 0, (.bool true), [], 0⟩
theorem cl_ap1_fine : cl_ap1.Fine := Cl.fineB_ok (by kernel_rfl)
theorem cl_ap1_ok : cl_ap1.Ok Tryz.prog := Cl.ok_of cl_ap1_fine 100000 200 (by kernel_rfl)
noncomputable def cl_ap2 : Cl := ⟨244, [.string ⟨#[67, 67, 67]⟩], [], 0, (.bool true), [], 0⟩
theorem cl_ap2_fine : cl_ap2.Fine := Cl.fineB_ok (by kernel_rfl)
theorem cl_ap2_ok : cl_ap2.Ok Tryz.prog := Cl.ok_of cl_ap2_fine 100000 200 (by kernel_rfl)
noncomputable def cl_z0 : Cl := ⟨242, [.agg #[.string ⟨#[117, 116, 99]⟩, .int .i64 0, .slice none 0 0]], [], 0, (.int .i64 0), [], 1⟩
theorem cl_z0_fine : cl_z0.Fine := Cl.fineB_ok (by kernel_rfl)
theorem cl_z0_ok : cl_z0.Ok Tryz.prog := Cl.ok_of cl_z0_fine 100000 200 (by kernel_rfl)
noncomputable def cl_z1 : Cl := ⟨242, [.agg #[.string ⟨#[101, 97, 115, 116]⟩, .int .i64 120, .slice (some ⟨0, 0, none⟩) 1 1]], shiftR, 1, (.int .i64 0), [], 2⟩
theorem cl_z1_fine : cl_z1.Fine := Cl.fineB_ok (by kernel_rfl)
theorem cl_z1_ok : cl_z1.Ok Tryz.prog := Cl.ok_of cl_z1_fine 100000 200 (by kernel_rfl)
end Go.Proofs.YthldmlfpebgojaaGreatDoor
