/-
  The calls whose runs are carried over.
  No condition.
-/
import Derived.Test.YthldmlfpebgojaaGreatDoorC0
import Derived.Test.YthldmlfpebgojaaGreatDoorC1
import Derived.Test.YthldmlfpebgojaaGreatDoorC2
import Derived.Test.YthldmlfpebgojaaGreatDoorC3
import Derived.Test.YthldmlfpebgojaaGreatDoorC4
import Derived.Test.YthldmlfpebgojaaGreatDoorC5
import Derived.Test.YthldmlfpebgojaaGreatDoorCA
import Derived.Test.YthldmlfpebgojaaGreatDoorCB
namespace Go.Proofs.YthldmlfpebgojaaGreatDoor
set_option maxRecDepth 100000
open Go.RowKit Go

def clFns : List Nat := [63, 190, 233, 286, 226, 303, 244, 242, 10]
noncomputable def cls : List Cl := [cl_p0, cl_p1, cl_p2, cl_p3, cl_p4, cl_p5, cl_c0, cl_c1, cl_c2, cl_c3, cl_c4, cl_c5, cl_at0, cl_at1, cl_at2, cl_at3, cl_at4, cl_at5, cl_at6, cl_at7, cl_at8, cl_at9, cl_at10, cl_as1, cl_as2, cl_as3, cl_nm0, cl_nm1, cl_nm2, cl_nm3, cl_cd0, cl_cd1, cl_cd2, cl_cd3, cl_cd4, cl_ap0, cl_ap1, cl_ap2, cl_z0, cl_z1, cl_kn]
theorem cls_fine : ∀ c ∈ cls, c.Fine := by
  unfold cls
  simp only [List.forall_mem_cons]
  exact ⟨cl_p0_fine, cl_p1_fine, cl_p2_fine, cl_p3_fine, cl_p4_fine, cl_p5_fine, cl_c0_fine, cl_c1_fine, cl_c2_fine, cl_c3_fine, cl_c4_fine, cl_c5_fine, cl_at0_fine, cl_at1_fine, cl_at2_fine, cl_at3_fine, cl_at4_fine, cl_at5_fine, cl_at6_fine, cl_at7_fine, cl_at8_fine, cl_at9_fine, cl_at10_fine, cl_as1_fine, cl_as2_fine, cl_as3_fine, cl_nm0_fine, cl_nm1_fine, cl_nm2_fine, cl_nm3_fine, cl_cd0_fine, cl_cd1_fine, cl_cd2_fine, cl_cd3_fine, cl_cd4_fine, cl_ap0_fine, cl_ap1_fine, cl_ap2_fine, cl_z0_fine, cl_z1_fine, cl_kn_fine, fun _ h => by cases h⟩
theorem cls_ok : ∀ c ∈ cls, c.Ok Tryz.prog := by
  unfold cls
  simp only [List.forall_mem_cons]
  exact ⟨cl_p0_ok, cl_p1_ok, cl_p2_ok, cl_p3_ok, cl_p4_ok, cl_p5_ok, cl_c0_ok, cl_c1_ok, cl_c2_ok, cl_c3_ok, cl_c4_ok, cl_c5_ok, cl_at0_ok, cl_at1_ok, cl_at2_ok, cl_at3_ok, cl_at4_ok, cl_at5_ok, cl_at6_ok, cl_at7_ok, cl_at8_ok, cl_at9_ok, cl_at10_ok, cl_as1_ok, cl_as2_ok, cl_as3_ok, cl_nm0_ok, cl_nm1_ok, cl_nm2_ok, cl_nm3_ok, cl_cd0_ok, cl_cd1_ok, cl_cd2_ok, cl_cd3_ok, cl_cd4_ok, cl_ap0_ok, cl_ap1_ok, cl_ap2_ok, cl_z0_ok, cl_z1_ok, cl_kn_ok, fun _ h => by cases h⟩
end Go.Proofs.YthldmlfpebgojaaGreatDoor
