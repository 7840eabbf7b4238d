/-
  The names and variables that the functions bear.
-/
import Derived.Test.YtidhmgganaoefaaGreatDoorClo
set_option maxRecDepth 100000
namespace Go.Proofs.YtidhmgganaoefaaGreatDoor
open Go
/-- What is told of one function: its name, if it stands in place of a text. -/
noncomputable def nameOf (g : Nat) : Option String := (Tryz.prog.funcs[g]?).bind fun fn => if fn.ours || fn.body.isNone || fn.name == "runtime.NumGoroutine" then some fn.name else none
noncomputable def varsOf (g : Nat) : List Nat := ((Tryz.prog.funcs[g]?).bind (·.body)).elim [] Code.globalsNamed
noncomputable def readsOf (g : Nat) : Option String := (Tryz.prog.funcs[g]?).bind fun fn => if fn.body.isNone then entryReads.lookup fn.name else none
theorem names0 : clo0.filterMap nameOf = ["internal/bytealg.IndexByteString", "internal/bytealg.IndexString", "internal/abi.NoEscape", "internal/bytealg.MakeNoZero"] := by kernel_rfl
theorem vars0 : clo0.flatMap varsOf = [9, 10, 1, 6, 7, 8, 11, 12] := by kernel_rfl
theorem reads0 : clo0.filterMap readsOf = ["internal/bytealg.MaxLen"] := by kernel_rfl
theorem names1 : clo1.filterMap nameOf = [] := by kernel_rfl
theorem vars1 : clo1.flatMap varsOf = [2, 3, 4, 4, 3, 2, 2, 4, 4, 4] := by kernel_rfl
theorem reads1 : clo1.filterMap readsOf = [] := by kernel_rfl
theorem names2 : clo2.filterMap nameOf = ["maps.clone"] := by kernel_rfl
theorem vars2 : clo2.flatMap varsOf = [0] := by kernel_rfl
theorem reads2 : clo2.filterMap readsOf = [] := by kernel_rfl
theorem names3 : clo3.filterMap nameOf = ["internal/bytealg.abigen_runtime_cmpstring", "slices.overlaps[int64]"] := by kernel_rfl
theorem vars3 : clo3.flatMap varsOf = [] := by kernel_rfl
theorem reads3 : clo3.filterMap readsOf = [] := by kernel_rfl
end Go.Proofs.YtidhmgganaoefaaGreatDoor
