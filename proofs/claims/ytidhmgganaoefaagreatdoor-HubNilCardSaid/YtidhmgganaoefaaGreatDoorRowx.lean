/-
  HubNil's row: its walk is the evaluator's; its witness the heap in which the listed variables lie.
-/
import Derived.Test.YtidhmgganaoefaaGreatDoorRows
import Derived.Test.YtidhmgganaoefaaGreatDoorEvBody
import Derived.Test.YtidhmgganaoefaaGreatDoorWitb
import Derived.Clock
import Derived.OpenVars
import Derived.OpenShut
import Derived.LaidMore
import Derived.Lay
import Derived.MakeChecks
namespace Go.Proofs.YtidhmgganaoefaaGreatDoor
open Go Go.ChangeShapes Go.WideShapes Go.ChangeAt Go.RowKit Go.Clock

theorem own : ownKnob Tryz.prog.godebug = none := by kernel_rfl
theorem notInit : Tryz.prog.inits.idxOf? 3 = none := by kernel_rfl

/-! ### What is read of the listed tables -/
def signsL : List Lit := [.string [45, 62], .string [46, 46], .string [61, 61], .string [33, 61], .string [60, 61], .string [62, 61], .string [38, 38], .string [124, 124], .string [123], .string [125], .string [40], .string [41], .string [91], .string [93], .string [59], .string [58], .string [44], .string [46], .string [61], .string [60], .string [62], .string [43], .string [45], .string [42], .string [47], .string [37], .string [33]]
def kindsL : List Lit := [.string [105, 110, 116], .string [98, 111, 111, 108], .string [116, 101, 120, 116], .string [108, 105, 115, 116]]
def numbersL : List Lit := [.int .i64 1, .int .i64 2, .int .i64 3, .int .i64 5]
def tab32L : List Lit := [.int .u8 0, .int .u8 1, .int .u8 28, .int .u8 2, .int .u8 29, .int .u8 14, .int .u8 24, .int .u8 3, .int .u8 30, .int .u8 22, .int .u8 20, .int .u8 15, .int .u8 25, .int .u8 17, .int .u8 4, .int .u8 8, .int .u8 31, .int .u8 27, .int .u8 13, .int .u8 23, .int .u8 21, .int .u8 19, .int .u8 16, .int .u8 7, .int .u8 26, .int .u8 12, .int .u8 18, .int .u8 6, .int .u8 11, .int .u8 5, .int .u8 10, .int .u8 9]
def tab64L : List Lit := [.int .u8 0, .int .u8 1, .int .u8 56, .int .u8 2, .int .u8 57, .int .u8 49, .int .u8 28, .int .u8 3, .int .u8 61, .int .u8 58, .int .u8 42, .int .u8 50, .int .u8 38, .int .u8 29, .int .u8 17, .int .u8 4, .int .u8 62, .int .u8 47, .int .u8 59, .int .u8 36, .int .u8 45, .int .u8 43, .int .u8 51, .int .u8 22, .int .u8 53, .int .u8 39, .int .u8 33, .int .u8 30, .int .u8 24, .int .u8 18, .int .u8 12, .int .u8 5, .int .u8 63, .int .u8 55, .int .u8 48, .int .u8 27, .int .u8 60, .int .u8 41, .int .u8 37, .int .u8 16, .int .u8 46, .int .u8 35, .int .u8 44, .int .u8 21, .int .u8 52, .int .u8 32, .int .u8 23, .int .u8 11, .int .u8 54, .int .u8 26, .int .u8 40, .int .u8 15, .int .u8 34, .int .u8 20, .int .u8 31, .int .u8 10, .int .u8 25, .int .u8 14, .int .u8 19, .int .u8 9, .int .u8 13, .int .u8 8, .int .u8 7, .int .u8 6]
theorem gSigns : Tryz.prog.globalNamed "switchyard/lex.signs" = some 1 := by kernel_rfl
theorem gKinds : Tryz.prog.globalNamed "switchyard/defn.kinds" = some 2 := by kernel_rfl
theorem gNumbers : Tryz.prog.globalNamed "switchyard/defn.numbers" = some 3 := by kernel_rfl
theorem gTab32 : Tryz.prog.globalNamed "math/bits.deBruijn32tab" = some 11 := by kernel_rfl
theorem gTab64 : Tryz.prog.globalNamed "math/bits.deBruijn64tab" = some 12 := by kernel_rfl
theorem cells3 : Tryz.prog.cellsOf 3 = 1 := by kernel_rfl
theorem cells5 : Tryz.prog.cellsOf 5 = 1 := by kernel_rfl
theorem cells9 : Tryz.prog.cellsOf 9 = 1 := by kernel_rfl

def Lies (W : World) (n : Nat) (l : List AM.AV) : Prop := ∃ c ty fz, W.heap[n - 1]? = some (.cells c ty fz) ∧ ∀ (i : Nat) (v : AM.AV), l[i]? = some v → ∃ u, c[i]? = some u ∧ ∀ φ, AM.VR φ v u
theorem liesSigns {W : World} (h : laidMet Tryz.prog Rows.hubNilRow.laid W) : Lies W 2 (signsL.map AM.litAV) :=
  AM.laid_lits (lits := signsL) h (List.mem_of_getElem? (i := 2) rfl) gSigns (show (Tryz.prog.globals[1]?).map (·.type) = some 484 by kernel_rfl) Tryz.underlying484 (.inr Tryz.underlying9) cells9 rfl
theorem liesKinds {W : World} (h : laidMet Tryz.prog Rows.hubNilRow.laid W) : Lies W 3 (kindsL.map AM.litAV) :=
  AM.laid_lits (lits := kindsL) h (List.mem_of_getElem? (i := 8) rfl) gKinds (show (Tryz.prog.globals[2]?).map (·.type) = some 485 by kernel_rfl) Tryz.underlying485 (.inr Tryz.underlying9) cells9 rfl
theorem liesNumbers {W : World} (h : laidMet Tryz.prog Rows.hubNilRow.laid W) : Lies W 4 (numbersL.map AM.litAV) :=
  AM.laid_lits (lits := numbersL) h (List.mem_of_getElem? (i := 9) rfl) gNumbers (show (Tryz.prog.globals[3]?).map (·.type) = some 486 by kernel_rfl) Tryz.underlying486 (.inl ⟨_, Tryz.underlying3⟩) cells3 rfl
theorem liesTab32 {W : World} (h : laidMet Tryz.prog Rows.hubNilRow.laid W) : Lies W 12 (tab32L.map AM.litAV) :=
  AM.laid_lits (lits := tab32L) h (List.mem_of_getElem? (i := 6) rfl) gTab32 (show (Tryz.prog.globals[11]?).map (·.type) = some 765 by kernel_rfl) Tryz.underlying765 (.inl ⟨_, Tryz.underlying5⟩) cells5 rfl
theorem liesTab64 {W : World} (h : laidMet Tryz.prog Rows.hubNilRow.laid W) : Lies W 13 (tab64L.map AM.litAV) :=
  AM.laid_lits (lits := tab64L) h (List.mem_of_getElem? (i := 7) rfl) gTab64 (show (Tryz.prog.globals[12]?).map (·.type) = some 766 by kernel_rfl) Tryz.underlying766 (.inl ⟨_, Tryz.underlying5⟩) cells5 rfl
theorem liesAll {W : World} (h : laidMet Tryz.prog Rows.hubNilRow.laid W) : AM.TrAll (Lies W) 0 1 AM.glb := ⟨trivial, ⟨liesSigns h, ⟨liesNumbers h, trivial, ⟨liesTab32 h, trivial, trivial⟩⟩, trivial⟩, ⟨liesKinds h, ⟨trivial, trivial, ⟨liesTab64 h, trivial, trivial⟩⟩, trivial⟩⟩
theorem body {W : World} (h : laidMetH Tryz.prog Rows.hubNilRow.laid W) :
    Calls Tryz.prog 3 #[] W fun e w' => e = .returned (.bool true) ∧ w'.os = W.os ∧ w'.tape = W.tape ∧ w'.output = W.output ∧ ∀ i, i < W.heap.size → w'.heap[i]? = W.heap[i]? := by
  rw [MakeChecks.laidMetH_plain _ _ _ plainL] at h
  exact AM.body3 fun g l hl => AM.TrAll.get (liesAll h) hl
end Go.Proofs.YtidhmgganaoefaaGreatDoor
