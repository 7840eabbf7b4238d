/-
  HubNil's row: the closed facts, one by one.
-/
import Derived.Clock
import Derived.Test.YtidhmgganaoefaaGreatDoorRows
set_option maxRecDepth 100000
namespace Go.Proofs.YtidhmgganaoefaaGreatDoor
open Go Go.ChangeShapes Go.WideShapes Go.ChangeAt Go.RowKit Go.Clock

theorem j1 : (Rows.hubNilRow.wf (OpenSpec.ofChange Rows.hubNilSpec)) = true := by kernel_rfl
noncomputable def fine (u : Nat) : Bool := rowFine Tryz.prog u
theorem fine0 : ((List.range 98).all fun u => fine (0 + u)) = true := by kernel_rfl
theorem fine1 : ((List.range 98).all fun u => fine (98 + u)) = true := by kernel_rfl
theorem fine2 : ((List.range 98).all fun u => fine (196 + u)) = true := by kernel_rfl
theorem fine3 : ((List.range 98).all fun u => fine (294 + u)) = true := by kernel_rfl
theorem fine4 : ((List.range 98).all fun u => fine (392 + u)) = true := by kernel_rfl
theorem fine5 : ((List.range 98).all fun u => fine (490 + u)) = true := by kernel_rfl
theorem fine6 : ((List.range 98).all fun u => fine (588 + u)) = true := by kernel_rfl
theorem fine7 : ((List.range 96).all fun u => fine (686 + u)) = true := by kernel_rfl
theorem fineAt {k n u : Nat} (h : ((List.range n).all fun u => fine (k + u)) = true) (h1 : k ≤ u) (h2 : u < k + n) : rowFine Tryz.prog u = true := by
  have := List.all_eq_true.1 h (u - k) (List.mem_range.2 (by omega))
  rwa [show k + (u - k) = u by omega] at this
theorem fineAll : (List.range Tryz.prog.types.size).all (rowFine Tryz.prog) = true := by
  have hs : Tryz.prog.types.size = 782 := Tryz.types_size
  rw [hs, List.all_eq_true]
  intro u hu
  have hu := List.mem_range.1 hu
  by_cases c0 : u < 98
  · exact fineAt (k := 0) fine0 (by omega) (by omega)
  by_cases c1 : u < 196
  · exact fineAt fine1 (by omega) (by omega)
  by_cases c2 : u < 294
  · exact fineAt fine2 (by omega) (by omega)
  by_cases c3 : u < 392
  · exact fineAt fine3 (by omega) (by omega)
  by_cases c4 : u < 490
  · exact fineAt fine4 (by omega) (by omega)
  by_cases c5 : u < 588
  · exact fineAt fine5 (by omega) (by omega)
  by_cases c6 : u < 686
  · exact fineAt fine6 (by omega) (by omega)
  · exact fineAt fine7 (by omega) (by omega)
theorem globalsFine : Tryz.prog.globals.all (fun g => decide (g.type < Tryz.prog.types.size)) = true := by kernel_rfl
theorem paramsFine : Tryz.prog.funcs.all (fun f => f.params.all fun t => decide (t < Tryz.prog.types.size)) = true := by kernel_rfl
theorem andB {a b : Bool} (h : a = true) (k : b = true) : (a && b) = true := by rw [h, k]; rfl
theorem j2 : (laidOutB Tryz.prog) = true := by
  unfold laidOutB
  exact andB (andB fineAll globalsFine) paramsFine
theorem j3 : (mapsRowed Tryz.prog) = true := by kernel_rfl
theorem j4 : (Tryz.f3.params.all (Tryz.prog.readableRec ·)) = true := by kernel_rfl
theorem j5 : (namedTie Tryz.prog Rows.hubNilRow.named Rows.hubNilSpec.vars) = true := by kernel_rfl
theorem j6 : ((Rows.hubNilRow.stops == [])) = true := by kernel_rfl
theorem j7 : ((Tryz.prog.stops == [])) = true := by kernel_rfl
theorem j8 : ((Rows.hubNilRow.knobs == [])) = true := by kernel_rfl
theorem j9 : ((Tryz.prog.stopKnobs == [])) = true := by kernel_rfl
end Go.Proofs.YtidhmgganaoefaaGreatDoor
