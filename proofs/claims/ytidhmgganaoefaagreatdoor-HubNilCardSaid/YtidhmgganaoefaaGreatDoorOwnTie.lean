/-
  What the row lists is what the program's own text lays: the given tie's closed facts, a theorem each.
-/
import Derived.Test.YtidhmgganaoefaaGreatDoorRows
import Derived.LaidByTextLater
import Derived.SevenTiedAt
namespace Go.Proofs.YtidhmgganaoefaaGreatDoor
open Go
noncomputable abbrev PP := Tryz.prog
def LL : List (String × DataW Unit) := [("unicode/utf8.acceptRanges", Rows.laid_unicode_utf8_acceptRanges), ("switchyard/lex.signs", Rows.laid_switchyard_lex_signs), ("strconv.ErrSyntax", Rows.laid_strconv_ErrSyntax), ("strconv.ErrRange", Rows.laid_strconv_ErrRange), ("internal/strconv.uint64pow10", Rows.laid_internal_strconv_uint64pow10), ("math/bits.deBruijn32tab", Rows.laid_math_bits_deBruijn32tab), ("math/bits.deBruijn64tab", Rows.laid_math_bits_deBruijn64tab), ("switchyard/defn.kinds", Rows.laid_switchyard_defn_kinds), ("switchyard/defn.numbers", Rows.laid_switchyard_defn_numbers), ("switchyard/dead.words", Rows.laid_switchyard_dead_words)]
theorem hw : PP.worded (varsWordLater true) = true := by kernel_rfl
theorem hw2 : PP.worded (varsWordLater !true) = false := by kernel_rfl
theorem hroot : PP.worded rootWordLater = true := by kernel_rfl
theorem hk : LL.map (fun x => PP.kindOfLater x.1) = ([.data, .data, .sentinel, .sentinel, .data, .data, .data, .data, .data, .data] : List LaidKind).map some := by kernel_rfl
theorem hg : (PP.funcNamed "gosem.cut.vars").isSome = true := by kernel_rfl
theorem hn : varsNamedLaterB PP (varsId PP) LL = true := by kernel_rfl
theorem hd : ∀ os tape, varsDone PP 400 (varsId PP) os tape = true := fun _ _ => by kernel_rfl
theorem h1 : ∀ os tape, (DataW.laidRun PP (varsWorld PP 400 (varsId PP) os tape).memory 8 (LL.map (·.1))).map (·.1) = some LL := fun _ _ => by kernel_rfl
theorem h2 : ∀ os tape, (DataW.laidRun PP (varsWorld PP 400 (varsId PP) os tape).memory 8 (LL.map (·.1))).map (fun x => decide x.2.Nodup && laidRowsB PP (varsWorld PP 400 (varsId PP) os tape).memory x.2) = some true := fun _ _ => by kernel_rfl
theorem tieLL : PP.laidByTextLater LL [.data, .data, .sentinel, .sentinel, .data, .data, .data, .data, .data, .data] true :=
  Program.laidByTextLater_by_run 400 8 hw hw2 hroot hk hg hn hd h1 h2
end Go.Proofs.YtidhmgganaoefaaGreatDoor
