/- Lemmas for the statement of the last text of this claim. -/
import Derived.Test.YtoihpnpfnechdaaGreatDoorChecked
import Derived.Test.YtoihpnpfnechdaaGreatDoorRows
import Derived.LaidByTextLater
import Derived.SevenTiedAt
set_option linter.unusedSimpArgs false
set_option linter.unusedVariables false
namespace Go.Proofs.YtoihpnpfnechdaaGreatDoor
open Go
noncomputable def laidT : List (String × DataW Unit) := [("unicode/utf8.acceptRanges", Rows.laid_unicode_utf8_acceptRanges), ("strings.asciiSpace", Rows.laid_strings_asciiSpace), ("unicode.White_Space", Rows.laid_unicode_White_Space), ("strconv.ErrSyntax", Rows.laid_strconv_ErrSyntax), ("strconv.ErrRange", Rows.laid_strconv_ErrRange), ("internal/strconv.uint64pow10", Rows.laid_internal_strconv_uint64pow10), ("math/bits.deBruijn32tab", Rows.laid_math_bits_deBruijn32tab), ("math/bits.deBruijn64tab", Rows.laid_math_bits_deBruijn64tab)]
theorem pinT : Tryz.pinned.checked.prog.pinnedFits "unicode/utf8.first" = true := by kernel_rfl
theorem noOwnT : Tryz.pinned.checked.prog.headLifts.contains "ownunsafe" = false := by kernel_rfl
theorem fitsT : Tryz.pinned.checked.prog.listedFits (("unicode/utf8.first", Rows.laid_unicode_utf8_first) :: laidT) = true := by
  unfold Program.listedFits
  rw [noOwnT]
  kernel_rfl
theorem w1 : Tryz.prog.worded (varsWordLater true) = true := by kernel_rfl
theorem w2 : Tryz.prog.worded (varsWordLater !true) = false := by kernel_rfl
theorem w3 : Tryz.prog.worded rootWordLater = true := by kernel_rfl
theorem w4 : laidT.map (fun x => Tryz.prog.kindOfLater x.1) = [LaidKind.data, .data, .listed, .sentinel, .sentinel, .data, .data, .data].map some := by kernel_rfl
theorem w5 : (Tryz.prog.funcNamed "gosem.cut.vars").isSome = true := by kernel_rfl
theorem w6 : varsNamedLaterB Tryz.prog (varsId Tryz.prog) laidT = true := by kernel_rfl
theorem w7 : ∀ os tape, varsDone Tryz.prog 400 (varsId Tryz.prog) os tape = true := fun _ _ => by kernel_rfl
end Go.Proofs.YtoihpnpfnechdaaGreatDoor
