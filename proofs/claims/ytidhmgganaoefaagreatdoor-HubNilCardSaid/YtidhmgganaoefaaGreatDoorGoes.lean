/-
  The call starts no goroutine.
-/
import Derived.Test.YtidhmgganaoefaaGreatDoorClop
import GoSem.ClaimGoes
namespace Go.Proofs.YtidhmgganaoefaaGreatDoor
open Go
noncomputable def goesOf (g : Nat) : Bool := (Tryz.prog.funcs[g]?).any Func.goes
theorem goes0 : clo0.any goesOf = false := by kernel_rfl
theorem goes1 : clo1.any goesOf = false := by kernel_rfl
theorem goes2 : clo2.any goesOf = false := by kernel_rfl
theorem goes3 : clo3.any goesOf = false := by kernel_rfl
theorem goesNone : Tryz.prog.funcs.any Func.goes = false := by kernel_rfl
theorem goesClo : Tryz.prog.goes 3 = false := by
  unfold Program.goes
  rw [clo, goesNone, Bool.and_false, Bool.or_false]
  show cloL.any goesOf = false
  unfold cloL
  rw [List.any_append, List.any_append, List.any_append, goes0, goes1, goes2, goes3]
  rfl
theorem goesFromSo (h : Tryz.prog.funcNamed "switchyard/switchyardlaw26.HubNil" = some 3) : false = Rows.hubNilRow.goesBy Tryz.prog := by
  have e : Rows.hubNilRow.goesBy Tryz.prog = (Tryz.prog.goesFrom "switchyard/switchyardlaw26.HubNil" || false) := rfl
  rw [e]
  unfold Program.goesFrom
  rw [h, Option.any_some, goesClo]
  rfl
end Go.Proofs.YtidhmgganaoefaaGreatDoor
