/- What the row of LinesScript lists is tied to the program's text: the closed facts, each by itself, so that none asks for much memory. -/
import Derived.Test.YtpmbnnobfjjpaaaGreatDoorRows
import Derived.LaidByTextLater
import Derived.SevenTiedAt
namespace Go.Proofs.YtpmbnnobfjjpaaaGreatDoor
open Go
abbrev tieLaid : List (String × DataW Unit) := [("unicode/utf8.acceptRanges", Rows.laid_unicode_utf8_acceptRanges), ("internal/strconv.uint64pow10", Rows.laid_internal_strconv_uint64pow10), ("math/bits.deBruijn32tab", Rows.laid_math_bits_deBruijn32tab), ("math/bits.deBruijn64tab", Rows.laid_math_bits_deBruijn64tab), ("errors.errorType", Rows.laid_errors_errorType)]
theorem tie_tw1 : Tryz.prog.worded (varsWordLater true) = true := by kernel_rfl
theorem tie_tw2 : Tryz.prog.worded (varsWordLater !true) = false := by kernel_rfl
theorem tie_tw3 : Tryz.prog.worded rootWordLater = true := by kernel_rfl
theorem tie_tk : tieLaid.map (fun x => Tryz.prog.kindOfLater x.1) = ([.data, .data, .data, .data, .handle] : List LaidKind).map some := by kernel_rfl
theorem tie_tg : (Tryz.prog.funcNamed "gosem.cut.vars").isSome = true := by kernel_rfl
theorem tie_tn : varsNamedLaterB Tryz.prog (varsId Tryz.prog) tieLaid = true := by kernel_rfl
theorem tie_td : ∀ os tape, varsDone Tryz.prog 400 (varsId Tryz.prog) os tape = true := fun _ _ => by kernel_rfl
theorem tie_t1 : ∀ os tape, (DataW.laidRun Tryz.prog (varsWorld Tryz.prog 400 (varsId Tryz.prog) os tape).memory 8 ((tieLaid.filter fun x => x.2.handleName?.isNone).map (·.1))).map (·.1) = some (tieLaid.filter fun x => x.2.handleName?.isNone) := fun _ _ => by kernel_rfl
theorem tie_t2 : ∀ os tape, (DataW.laidRun Tryz.prog (varsWorld Tryz.prog 400 (varsId Tryz.prog) os tape).memory 8 ((tieLaid.filter fun x => x.2.handleName?.isNone).map (·.1))).map (fun x => decide x.2.Nodup && laidRowsB Tryz.prog (varsWorld Tryz.prog 400 (varsId Tryz.prog) os tape).memory x.2) = some true := fun _ _ => by kernel_rfl
theorem tie_t3 : ∀ os tape, (tieLaid.filter fun x => x.2.handleName?.isSome).all (handleAtB Tryz.prog (varsWorld Tryz.prog 400 (varsId Tryz.prog) os tape).memory) = true := fun _ _ => by kernel_rfl
theorem tie_all : Tryz.prog.laidByTextLater tieLaid [.data, .data, .data, .data, .handle] true :=
  Program.laidByTextLater_by_run_h 400 8 tie_tw1 tie_tw2 tie_tw3 tie_tk tie_tg tie_tn tie_td tie_t1 tie_t2 tie_t3
theorem tie_pin : Tryz.pinned.checked.prog.pinnedFits "unicode/utf8.first" = true := by kernel_rfl
theorem tie_unsafe : Tryz.pinned.checked.prog.headLifts.contains "ownunsafe" = false := by kernel_rfl
theorem tie_fits : Tryz.pinned.checked.prog.listedFits (("unicode/utf8.first", Rows.laid_unicode_utf8_first) :: tieLaid) = true := by
  unfold Program.listedFits
  rw [tie_unsafe, Bool.not_false, Bool.true_or, Bool.true_and]
  kernel_rfl
theorem script_row_tie : Rows.linesScriptRow.laidByTextAt .later Tryz.pinned [.pinned, .data, .data, .data, .data, .handle] true :=
  OpenClaim.laidByTextAt_pinned rfl rfl tie_all rfl rfl rfl rfl (fun y hy _e => by
    simp only [Rows.linesScriptRow, List.zip_cons_cons, List.zip_nil_right, List.mem_cons, List.mem_nil_iff, or_false] at hy
    rcases hy with rfl | rfl | rfl | rfl | rfl | rfl
    · exact ⟨tie_pin, by kernel_rfl⟩
    · cases _e
    · cases _e
    · cases _e
    · cases _e
    · cases _e) tie_fits
end Go.Proofs.YtpmbnnobfjjpaaaGreatDoor
