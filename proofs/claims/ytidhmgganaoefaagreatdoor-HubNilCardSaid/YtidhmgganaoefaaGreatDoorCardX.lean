/-
  HubNil: called in whatever state of memory in which the listed variables lie as the program's text lays them, it returns true, whatever the tape says; conditions: the row's own cells (calm, time passes, the variables listed).
-/
import Derived.Test.YtidhmgganaoefaaGreatDoorHolds
import Derived.Test.YtidhmgganaoefaaGreatDoorOwnTie
import Derived.Test.YtidhmgganaoefaaGreatDoorGoes
import Derived.Test.YtidhmgganaoefaaGreatDoorCards
namespace Go.Proofs.YtidhmgganaoefaaGreatDoor
open Go

theorem pinFirst : Tryz.pinned.checked.prog.pinnedFits "unicode/utf8.first" = true := by kernel_rfl
theorem noOwnUnsafe : Tryz.pinned.checked.prog.headLifts.contains "ownunsafe" = false := by kernel_rfl
theorem fitsListed : Tryz.pinned.checked.prog.listedFits Rows.hubNilRow.laid = true := by
  unfold Program.listedFits
  rw [noOwnUnsafe]
  kernel_rfl
theorem rowTie : Rows.hubNilRow.laidByTextAt .later Tryz.pinned [.pinned, .data, .data, .sentinel, .sentinel, .data, .data, .data, .data, .data, .data] true :=
  OpenClaim.laidByTextAt_pinned rfl rfl tieLL rfl rfl rfl rfl (fun y hy _e => by
    simp only [Rows.hubNilRow, List.zip_cons_cons, List.zip_nil_right, List.mem_cons, List.mem_nil_iff, or_false] at hy
    rcases hy with rfl | rfl | rfl | rfl | rfl | rfl | rfl | rfl | rfl | rfl | rfl
    · exact ⟨pinFirst, by kernel_rfl⟩
    · cases _e
    · cases _e
    · cases _e
    · cases _e
    · cases _e
    · cases _e
    · cases _e
    · cases _e
    · cases _e
    · cases _e) fitsListed
theorem wfText : Rows.hubNilRow.wfByText (OpenSpec.ofChange Rows.hubNilSpec) = true := by kernel_rfl
theorem mainIs : Tryz.pinned.checked.prog.mainIs = some (true, "336853af06f76f56ca7c7ccb0a5893bc92e452b7c4415ab1753fe61bc68d4b2f".toList) := by kernel_rfl
theorem looksSo : true = Tryz.prog.looks [] := by kernel_rfl
theorem goesSo : false = Rows.hubNilRow.goesBy Tryz.pinned.checked.prog := goesFromSo funcNamed3
theorem hubNil_card : Rows.HubNilCardSaid :=
  Claim7.holds_tied_plain_at .later [] [.pinned, .data, .data, .sentinel, .sentinel, .data, .data, .data, .data, .data, .data] true (true, "336853af06f76f56ca7c7ccb0a5893bc92e452b7c4415ab1753fe61bc68d4b2f") true
    holds (fun _ h => by cases h) wfText (fun _ h => by cases h) rowTie rfl ⟨rfl, rfl⟩ mainIs rfl
    (fun f fn hf hfn => by
      obtain rfl : f = 3 := Option.some.inj (funcNamed3.symm.trans hf) |>.symm
      obtain rfl : fn = Tryz.f3 := (Option.some.inj (Tryz.func3.symm.trans hfn)).symm
      exact ⟨looksSo, fun j t ht => by
        rw [Tryz.params3] at ht
        simp at ht⟩)
    goesSo
end Go.Proofs.YtidhmgganaoefaaGreatDoor
