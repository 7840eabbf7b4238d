/-
  HubNil's row: the closed facts, one by one.
-/
import Derived.Clock
import Derived.Test.YtidhmgganaoefaaGreatDoorClop
set_option maxRecDepth 100000
namespace Go.Proofs.YtidhmgganaoefaaGreatDoor
open Go Go.ChangeShapes Go.WideShapes Go.ChangeAt Go.RowKit Go.Clock

theorem inPlaceEq : Tryz.prog.inPlace 3 = ["internal/bytealg.IndexByteString", "internal/bytealg.IndexString", "internal/abi.NoEscape", "internal/bytealg.MakeNoZero"] ++ ([] ++ (["maps.clone"] ++ (["internal/bytealg.abigen_runtime_cmpstring", "slices.overlaps[int64]"]))) := by
  unfold Program.inPlace
  rw [clo]
  show cloL.filterMap nameOf = _
  unfold cloL
  rw [List.filterMap_append, List.filterMap_append, List.filterMap_append, names0, names1, names2, names3]
theorem j10 : ((Rows.hubNilRow.inPlace == Tryz.prog.inPlace 3)) = true := by
  rw [inPlaceEq]
  kernel_rfl
theorem j11 : ((Rows.hubNilRow.unfollowed == Tryz.prog.unfollowed 3)) = true := by kernel_rfl
theorem j12 : ((Rows.hubNilRow.recurses == Tryz.prog.recurses 3)) = true := by kernel_rfl
noncomputable def gName (g : Nat) : Option String := (Tryz.prog.globals[g]?).map fun x => x.name
theorem varsEq : cloL.flatMap varsOf = [9, 10, 1, 6, 7, 8, 11, 12] ++ ([2, 3, 4, 4, 3, 2, 2, 4, 4, 4] ++ ([0] ++ ([]))) := by
  unfold cloL
  rw [List.flatMap_append, List.flatMap_append, List.flatMap_append, vars0, vars1, vars2, vars3]
theorem readsEq : cloL.filterMap readsOf = ["internal/bytealg.MaxLen"] ++ ([] ++ ([] ++ ([]))) := by
  unfold cloL
  rw [List.filterMap_append, List.filterMap_append, List.filterMap_append, reads0, reads1, reads2, reads3]
theorem namedEq : Tryz.prog.varsNamed 3 = ((([9, 10, 1, 6, 7, 8, 11, 12] ++ ([2, 3, 4, 4, 3, 2, 2, 4, 4, 4] ++ ([0] ++ ([])))).eraseDups).filterMap gName ++ (["internal/bytealg.MaxLen"] ++ ([] ++ ([] ++ ([]))))).eraseDups := by
  unfold Program.varsNamed
  rw [clo]
  show (((cloL.flatMap varsOf).eraseDups).filterMap gName ++ cloL.filterMap readsOf).eraseDups = _
  rw [varsEq, readsEq]
theorem j13 : ((Rows.hubNilRow.named == Tryz.prog.varsNamed 3)) = true := by
  rw [namedEq]
  kernel_rfl
end Go.Proofs.YtidhmgganaoefaaGreatDoor
