/-
  HubNil's row: the closed facts.
-/
import Derived.Test.YtidhmgganaoefaaGreatDoorLift
import Derived.Test.YtidhmgganaoefaaGreatDoorFactsA
import Derived.Test.YtidhmgganaoefaaGreatDoorFactsB
import Derived.Test.YtidhmgganaoefaaGreatDoorFactsC
namespace Go.Proofs.YtidhmgganaoefaaGreatDoor
open Go Go.ChangeShapes Go.WideShapes Go.ChangeAt Go.RowKit Go.Clock

theorem funcNamed3 : Tryz.prog.funcNamed "switchyard/switchyardlaw26.HubNil" = some 3 := by kernel_rfl
theorem k29 (X : List (Option IntKind)) : (Rows.hubNilRow.kinds == (if Rows.hubNilRow.domain.isEmpty then [] else X)) = true := rfl
theorem andI {a b : Bool} (h : a = true) (k : b = true) : (a && b) = true := by rw [h, k]; rfl
theorem facts : joinedFacts Tryz.prog 3 Tryz.f3 Rows.hubNilSpec Rows.hubNilRow = true := by
  unfold joinedFacts
  exact andI (andI (andI (andI (andI (andI (andI (andI (andI (andI (andI (andI (andI (andI (andI (andI (andI (andI (andI (andI (andI (andI (andI (andI (andI (andI (andI (andI (andI (andI (andI j1 j2) j3) j4) j5) j6) j7) j8) j9) j10) j11) j12) j13) j14) j15) j16) j17) j18) j19) j20) j21) j22) j23) j24) j25) j26) j27) j28) (k29 _)) j30) j31) j32
theorem instOk : Tryz.f3.isInstance Tryz.prog Rows.hubNilRow.origin Rows.hubNilRow.targs := of_decide_eq_true (by kernel_rfl)
theorem wrapOk : Tryz.f3.isWrapper Tryz.prog Rows.hubNilRow.wrapper Rows.hubNilRow.mainSum := by
  unfold Func.isWrapper; first | (rw [if_pos (by decide +kernel)]; kernel_rfl) | (rw [if_neg (by decide +kernel)]; exact ⟨rfl, rfl⟩)
theorem holds : Rows.HubNilSaid :=
  holds_of_wide_time 3 Tryz.f3 rfl rfl rfl rfl rfl rfl rfl ⟨rfl, rfl, rfl, rfl, rfl⟩ rfl rfl rfl rfl rfl funcNamed3 Tryz.func3 facts instOk wrapOk
    (fun os started H enc _ F => lifted os started H enc F)
end Go.Proofs.YtidhmgganaoefaaGreatDoor
