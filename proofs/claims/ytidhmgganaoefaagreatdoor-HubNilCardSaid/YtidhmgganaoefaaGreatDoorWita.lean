/-
  The witness of HubNil's row: the heap in which the listed variables lie, by its rows.
-/
import Derived.Test.YtidhmgganaoefaaGreatDoorRows
import Derived.Clock
import Derived.Lay
import Derived.MakeChecks
namespace Go.Proofs.YtidhmgganaoefaaGreatDoor
open Go Go.ChangeShapes Go.WideShapes Go.ChangeAt Go.RowKit Go.Clock

/-- A plain datum's cells. -/
def litV : Lit → Value
  | .int k z => .int k z
  | .string bs => .string ⟨bs.toArray⟩
  | .bool b => .bool b
  | _ => undef
mutual
def flat : DataW Unit → List Value
  | .lit l => [litV l]
  | .agg ps => flats ps
  | _ => []
def flats : List (DataW Unit) → List Value
  | [] => []
  | d :: r => flat d ++ flats r
end
theorem layFirst (n : Nat) : (Rows.laid_unicode_utf8_first).lay Tryz.prog 752 n = some (flat Rows.laid_unicode_utf8_first, []) := by kernel_rfl
theorem layAccept (n : Nat) : (Rows.laid_unicode_utf8_acceptRanges).lay Tryz.prog 755 n = some (flat Rows.laid_unicode_utf8_acceptRanges, []) := by kernel_rfl
theorem laySigns (n : Nat) : (Rows.laid_switchyard_lex_signs).lay Tryz.prog 484 n = some (flat Rows.laid_switchyard_lex_signs, []) := by kernel_rfl
theorem layPow (n : Nat) : (Rows.laid_internal_strconv_uint64pow10).lay Tryz.prog 749 n = some (flat Rows.laid_internal_strconv_uint64pow10, []) := by kernel_rfl
theorem layTab32 (n : Nat) : (Rows.laid_math_bits_deBruijn32tab).lay Tryz.prog 765 n = some (flat Rows.laid_math_bits_deBruijn32tab, []) := by kernel_rfl
theorem layTab64 (n : Nat) : (Rows.laid_math_bits_deBruijn64tab).lay Tryz.prog 766 n = some (flat Rows.laid_math_bits_deBruijn64tab, []) := by kernel_rfl
theorem layKinds (n : Nat) : (Rows.laid_switchyard_defn_kinds).lay Tryz.prog 485 n = some (flat Rows.laid_switchyard_defn_kinds, []) := by kernel_rfl
theorem layNumbers (n : Nat) : (Rows.laid_switchyard_defn_numbers).lay Tryz.prog 486 n = some (flat Rows.laid_switchyard_defn_numbers, []) := by kernel_rfl
theorem layWords (n : Nat) : (Rows.laid_switchyard_dead_words).lay Tryz.prog 421 n = some (flat Rows.laid_switchyard_dead_words, []) := by kernel_rfl
/-- Is it the type's name? -/
noncomputable def isErr (u : Nat) : Bool := Tryz.prog.typeName? 3 u == some "*errors.errorString"
theorem noErr0 : ((List.range 92).all fun u => !isErr (0 + u)) = true := by kernel_rfl
theorem noErr1 : ((List.range 92).all fun u => !isErr (92 + u)) = true := by kernel_rfl
theorem noErr2 : ((List.range 92).all fun u => !isErr (184 + u)) = true := by kernel_rfl
theorem noErr3 : ((List.range 92).all fun u => !isErr (276 + u)) = true := by kernel_rfl
theorem noErr4 : ((List.range 92).all fun u => !isErr (368 + u)) = true := by kernel_rfl
theorem noErr5 : ((List.range 92).all fun u => !isErr (460 + u)) = true := by kernel_rfl
theorem noErr6 : ((List.range 92).all fun u => !isErr (552 + u)) = true := by kernel_rfl
theorem noErr7 : ((List.range 92).all fun u => !isErr (644 + u)) = true := by kernel_rfl
theorem errAt : isErr 736 = true := by kernel_rfl
theorem noErr {k u : Nat} (h : ((List.range 92).all fun u => !isErr (k + u)) = true) (h1 : k ≤ u) (h2 : u < k + 92) : (!isErr u) = true := by
  have := List.all_eq_true.1 h (u - k) (List.mem_range.2 (by omega))
  rwa [show k + (u - k) = u by omega] at this
theorem findErr : ((List.range Tryz.prog.types.size).find? fun u => Tryz.prog.typeName? 3 u == some "*errors.errorString") = some 736 := by
  have hs : Tryz.prog.types.size = 782 := Tryz.types_size
  rw [hs]
  refine List.find?_range_eq_some.2 ⟨errAt, List.mem_range.2 (by omega), fun j hj => ?_⟩
  by_cases c0 : j < 92
  · exact noErr (k := 0) noErr0 (by omega) (by omega)
  by_cases c1 : j < 184
  · exact noErr noErr1 (by omega) (by omega)
  by_cases c2 : j < 276
  · exact noErr noErr2 (by omega) (by omega)
  by_cases c3 : j < 368
  · exact noErr noErr3 (by omega) (by omega)
  by_cases c4 : j < 460
  · exact noErr noErr4 (by omega) (by omega)
  by_cases c5 : j < 552
  · exact noErr noErr5 (by omega) (by omega)
  by_cases c6 : j < 644
  · exact noErr noErr6 (by omega) (by omega)
  · exact noErr noErr7 (by omega) (by omega)
end Go.Proofs.YtidhmgganaoefaaGreatDoor
