/-
  DERIVED. GIVEN WITH THE SEED: THE PROGRAM's TIES (one call each: nine closed facts by the kernel) AND EACH ROW's TIE, after the 31st guide's Derived/Test/Toyas{Tie, Card}.lean. No idea stands in it: it is a product of the set-up. Laid BY PROGRAM, IN A SANDBOX (cutbox-door.mjs). By AI agents, Wed Nov 11 2026. No macro, syntax, notation, axiom, sorry.
-/
import Derived.Test.YtloilffkggkgdaaDoorRows
import Derived.LaidByTextLater
import Derived.SevenTiedAt
import Derived.LaidSub
import Derived.LaidOnce
namespace Go.Proofs.YtloilffkggkgdaaDoor
open Go
set_option maxRecDepth 100000
theorem seatTie1 : Tryd.prog.laidByTextLater [("unicode/utf8.acceptRanges", Rows.laid_unicode_utf8_acceptRanges), ("logtide/ascii.kinds", Rows.laid_logtide_ascii_kinds)] [.data, .called] true :=
  Program.laidByTextLater_by_one 1086 8 257 (by kernel_rfl) (by kernel_rfl) (by kernel_rfl) (by kernel_rfl) (by kernel_rfl) (by kernel_rfl) (fun _ _ => by kernel_rfl)
theorem seatTie2 : Tryd.prog.laidByTextLater [("math/bits.deBruijn32tab", Rows.laid_math_bits_deBruijn32tab), ("math/bits.deBruijn64tab", Rows.laid_math_bits_deBruijn64tab), ("internal/strconv.uint64pow10", Rows.laid_internal_strconv_uint64pow10), ("logtide/ascii.kinds", Rows.laid_logtide_ascii_kinds)] [.data, .data, .data, .called] true :=
  Program.laidByTextLater_by_one 1086 8 257 (by kernel_rfl) (by kernel_rfl) (by kernel_rfl) (by kernel_rfl) (by kernel_rfl) (by kernel_rfl) (fun _ _ => by kernel_rfl)
theorem pin_laid_unicode_utf8_first : Tryd.pinned.checked.prog.pinnedFits "unicode/utf8.first" = true := by kernel_rfl
theorem noOwnUnsafe : Tryd.pinned.checked.prog.headLifts.contains "ownunsafe" = false := by kernel_rfl
theorem tie : Tryd.prog.laidByTextLater [("logtide/ascii.kinds", Rows.laid_logtide_ascii_kinds)] [.called] true :=
  Program.laidByTextLater.sub seatTie1 ["logtide/ascii.kinds"] (by kernel_rfl) (by kernel_rfl)
theorem asciiRepairs_row_tie : Rows.asciiRepairsRow.laidByTextAt .later Tryd.pinned [.called] true :=
  OpenClaim.laidByTextAt_later rfl rfl tie noOwnUnsafe
theorem asciiClasses_row_tie : Rows.asciiClassesRow.laidByTextAt .later Tryd.pinned [.called] true :=
  OpenClaim.laidByTextAt_later rfl rfl tie noOwnUnsafe
theorem asciiCuts_row_tie : Rows.asciiCutsRow.laidByTextAt .later Tryd.pinned [.called] true :=
  OpenClaim.laidByTextAt_later rfl rfl tie noOwnUnsafe
theorem tie2 : Tryd.prog.laidByTextLater [("math/bits.deBruijn32tab", Rows.laid_math_bits_deBruijn32tab), ("math/bits.deBruijn64tab", Rows.laid_math_bits_deBruijn64tab), ("internal/strconv.uint64pow10", Rows.laid_internal_strconv_uint64pow10), ("logtide/ascii.kinds", Rows.laid_logtide_ascii_kinds)] [.data, .data, .data, .called] true :=
  Program.laidByTextLater.sub seatTie2 ["math/bits.deBruijn32tab", "math/bits.deBruijn64tab", "internal/strconv.uint64pow10", "logtide/ascii.kinds"] (by kernel_rfl) (by kernel_rfl)
theorem asciiNumbers_row_tie : Rows.asciiNumbersRow.laidByTextAt .later Tryd.pinned [.data, .data, .data, .called] true :=
  OpenClaim.laidByTextAt_later rfl rfl tie2 noOwnUnsafe
theorem asciiReturns_row_tie : Rows.asciiReturnsRow.laidByTextAt .later Tryd.pinned [.data, .data, .data, .called] true :=
  OpenClaim.laidByTextAt_later rfl rfl tie2 noOwnUnsafe
theorem fits3 : Tryd.pinned.checked.prog.listedFits [("unicode/utf8.acceptRanges", Rows.laid_unicode_utf8_acceptRanges), ("logtide/ascii.kinds", Rows.laid_logtide_ascii_kinds), ("unicode/utf8.first", Rows.laid_unicode_utf8_first)] = true := by
  unfold Program.listedFits
  rw [noOwnUnsafe]
  kernel_rfl
theorem tie3 : Tryd.prog.laidByTextLater [("unicode/utf8.acceptRanges", Rows.laid_unicode_utf8_acceptRanges), ("logtide/ascii.kinds", Rows.laid_logtide_ascii_kinds)] [.data, .called] true :=
  Program.laidByTextLater.sub seatTie1 ["unicode/utf8.acceptRanges", "logtide/ascii.kinds"] (by kernel_rfl) (by kernel_rfl)
theorem asciiSplits_row_tie : Rows.asciiSplitsRow.laidByTextAt .later Tryd.pinned [.data, .called, .pinned] true :=
  OpenClaim.laidByTextAt_pinned rfl rfl tie3 rfl rfl rfl rfl (fun y hy _e => by
    simp only [Rows.asciiSplitsRow, List.zip_cons_cons, List.zip_nil_right, List.mem_cons, List.mem_nil_iff, or_false] at hy
    rcases hy with rfl | rfl | rfl
    · cases _e
    · cases _e
    · exact ⟨pin_laid_unicode_utf8_first, by kernel_rfl⟩) fits3
theorem asciiRepairsUpto_row_tie : Rows.asciiRepairsUptoRow.laidByTextAt .later Tryd.pinned [.called] true :=
  OpenClaim.laidByTextAt_later rfl rfl tie noOwnUnsafe
theorem asciiClassesUpto_row_tie : Rows.asciiClassesUptoRow.laidByTextAt .later Tryd.pinned [.called] true :=
  OpenClaim.laidByTextAt_later rfl rfl tie noOwnUnsafe
theorem asciiCutsUpto_row_tie : Rows.asciiCutsUptoRow.laidByTextAt .later Tryd.pinned [.called] true :=
  OpenClaim.laidByTextAt_later rfl rfl tie noOwnUnsafe
theorem asciiNumbersUpto_row_tie : Rows.asciiNumbersUptoRow.laidByTextAt .later Tryd.pinned [.data, .data, .data, .called] true :=
  OpenClaim.laidByTextAt_later rfl rfl tie2 noOwnUnsafe
theorem asciiReturnsUpto_row_tie : Rows.asciiReturnsUptoRow.laidByTextAt .later Tryd.pinned [.data, .data, .data, .called] true :=
  OpenClaim.laidByTextAt_later rfl rfl tie2 noOwnUnsafe
theorem asciiSplitsUpto_row_tie : Rows.asciiSplitsUptoRow.laidByTextAt .later Tryd.pinned [.data, .called, .pinned] true :=
  OpenClaim.laidByTextAt_pinned rfl rfl tie3 rfl rfl rfl rfl (fun y hy _e => by
    simp only [Rows.asciiSplitsUptoRow, List.zip_cons_cons, List.zip_nil_right, List.mem_cons, List.mem_nil_iff, or_false] at hy
    rcases hy with rfl | rfl | rfl
    · cases _e
    · cases _e
    · exact ⟨pin_laid_unicode_utf8_first, by kernel_rfl⟩) fits3
end Go.Proofs.YtloilffkggkgdaaDoor
