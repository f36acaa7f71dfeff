/- The closed facts of LinesScript's row, each by itself. -/
import Derived.Test.YtpmbnnobfjjpaaaGreatDoorRows
import Derived.Test.YtpmbnnobfjjpaaaGreatDoorFactsA
import Derived.JoinedOf
import Derived.SevenTiedAt
import Derived.Handed
namespace Go.Proofs.YtpmbnnobfjjpaaaGreatDoor
open Go
set_option linter.unusedVariables false
theorem and_tr {a b : Bool} (h : a = true) (k : b = true) : (a && b) = true := by rw [h, k]; rfl
theorem jf0 : (fun (P : Program) (f : FuncId) (fn : Func) (s : ChangeSpec) (c : OpenClaim) => (c.wf (OpenSpec.ofChange s))) Tryz.prog 3 Tryz.f3 (OpenSpec.ofChange Rows.linesScriptSpec).bare Rows.linesScriptRow = true := by kernel_rfl
theorem jf1 : (fun (P : Program) (f : FuncId) (fn : Func) (s : ChangeSpec) (c : OpenClaim) => (laidOutB P)) Tryz.prog 3 Tryz.f3 (OpenSpec.ofChange Rows.linesScriptSpec).bare Rows.linesScriptRow = true := hv_laidOut
theorem jf2 : (fun (P : Program) (f : FuncId) (fn : Func) (s : ChangeSpec) (c : OpenClaim) => (mapsRowed P)) Tryz.prog 3 Tryz.f3 (OpenSpec.ofChange Rows.linesScriptSpec).bare Rows.linesScriptRow = true := hv_maps
theorem jf3 : (fun (P : Program) (f : FuncId) (fn : Func) (s : ChangeSpec) (c : OpenClaim) => (fn.params.all (P.readableRec ·))) Tryz.prog 3 Tryz.f3 (OpenSpec.ofChange Rows.linesScriptSpec).bare Rows.linesScriptRow = true := by kernel_rfl
theorem jf4 : (fun (P : Program) (f : FuncId) (fn : Func) (s : ChangeSpec) (c : OpenClaim) => (namedTie P c.named s.vars)) Tryz.prog 3 Tryz.f3 (OpenSpec.ofChange Rows.linesScriptSpec).bare Rows.linesScriptRow = true := by kernel_rfl
theorem jf5 : (fun (P : Program) (f : FuncId) (fn : Func) (s : ChangeSpec) (c : OpenClaim) => ((c.stops == []))) Tryz.prog 3 Tryz.f3 (OpenSpec.ofChange Rows.linesScriptSpec).bare Rows.linesScriptRow = true := by kernel_rfl
theorem jf6 : (fun (P : Program) (f : FuncId) (fn : Func) (s : ChangeSpec) (c : OpenClaim) => ((P.stops == []))) Tryz.prog 3 Tryz.f3 (OpenSpec.ofChange Rows.linesScriptSpec).bare Rows.linesScriptRow = true := by kernel_rfl
theorem jf7 : (fun (P : Program) (f : FuncId) (fn : Func) (s : ChangeSpec) (c : OpenClaim) => ((c.knobs == []))) Tryz.prog 3 Tryz.f3 (OpenSpec.ofChange Rows.linesScriptSpec).bare Rows.linesScriptRow = true := by kernel_rfl
theorem jf8 : (fun (P : Program) (f : FuncId) (fn : Func) (s : ChangeSpec) (c : OpenClaim) => ((P.stopKnobs == []))) Tryz.prog 3 Tryz.f3 (OpenSpec.ofChange Rows.linesScriptSpec).bare Rows.linesScriptRow = true := by kernel_rfl
theorem jf9 : (fun (P : Program) (f : FuncId) (fn : Func) (s : ChangeSpec) (c : OpenClaim) => ((c.inPlace == P.inPlace f))) Tryz.prog 3 Tryz.f3 (OpenSpec.ofChange Rows.linesScriptSpec).bare Rows.linesScriptRow = true := by show (["internal/bytealg.IndexByteString", "internal/bytealg.IndexString", "internal/abi.NoEscape", "internal/bytealg.MakeNoZero", "maps.clone", "internal/reflectlite.ValueOf", "(internal/reflectlite.Value).Type", "(internal/reflectlite.Value).IsNil", "internal/reflectlite.TypeOf", "(internal/reflectlite.Value).Elem", "(internal/reflectlite.Value).Set"] == Tryz.prog.inPlace 3) = true; rw [hv_inPlace]; kernel_rfl
theorem jf10 : (fun (P : Program) (f : FuncId) (fn : Func) (s : ChangeSpec) (c : OpenClaim) => ((c.unfollowed == P.unfollowed f))) Tryz.prog 3 Tryz.f3 (OpenSpec.ofChange Rows.linesScriptSpec).bare Rows.linesScriptRow = true := by show (true == Tryz.prog.unfollowed 3) = true; rw [hv_unfollowed]; kernel_rfl
theorem jf11 : (fun (P : Program) (f : FuncId) (fn : Func) (s : ChangeSpec) (c : OpenClaim) => ((c.recurses == P.recurses f))) Tryz.prog 3 Tryz.f3 (OpenSpec.ofChange Rows.linesScriptSpec).bare Rows.linesScriptRow = true := by show (true == Tryz.prog.recurses 3) = true; rw [hv_recurses]; kernel_rfl
theorem jf12 : (fun (P : Program) (f : FuncId) (fn : Func) (s : ChangeSpec) (c : OpenClaim) => ((c.named == P.varsNamed f))) Tryz.prog 3 Tryz.f3 (OpenSpec.ofChange Rows.linesScriptSpec).bare Rows.linesScriptRow = true := by show (["internal/bytealg.MaxLen", "unicode/utf8.first", "unicode/utf8.acceptRanges", "internal/strconv.uint64pow10", "math/bits.deBruijn32tab", "math/bits.deBruijn64tab", "errors.errorType"] == Tryz.prog.varsNamed 3) = true; rw [hv_named]; kernel_rfl
theorem jf13 : (fun (P : Program) (f : FuncId) (fn : Func) (s : ChangeSpec) (c : OpenClaim) => ((c.maps == (fn.params.toList ++ s.plain.varTypes P).any (P.mapsRec ·)))) Tryz.prog 3 Tryz.f3 (OpenSpec.ofChange Rows.linesScriptSpec).bare Rows.linesScriptRow = true := by kernel_rfl
theorem jf14 : (fun (P : Program) (f : FuncId) (fn : Func) (s : ChangeSpec) (c : OpenClaim) => ((c.ifaces == (fn.params.toList ++ s.plain.varTypes P).any (P.ifacesRec ·)))) Tryz.prog 3 Tryz.f3 (OpenSpec.ofChange Rows.linesScriptSpec).bare Rows.linesScriptRow = true := by kernel_rfl
theorem jf15 : (fun (P : Program) (f : FuncId) (fn : Func) (s : ChangeSpec) (c : OpenClaim) => ((c.mapsOut == P.mapsAmong fn.resultTypes.toList))) Tryz.prog 3 Tryz.f3 (OpenSpec.ofChange Rows.linesScriptSpec).bare Rows.linesScriptRow = true := by kernel_rfl
theorem jf16 : (fun (P : Program) (f : FuncId) (fn : Func) (s : ChangeSpec) (c : OpenClaim) => ((c.loops == (fn.params.toList ++ s.plain.varTypes P).any (P.loopsFrom ·)))) Tryz.prog 3 Tryz.f3 (OpenSpec.ofChange Rows.linesScriptSpec).bare Rows.linesScriptRow = true := by kernel_rfl
theorem jf17 : (fun (P : Program) (f : FuncId) (fn : Func) (s : ChangeSpec) (c : OpenClaim) => ((c.wideKeys == (fn.params.toList ++ s.plain.varTypes P ++ fn.resultTypes.toList).any (P.wideKeysFrom ·)))) Tryz.prog 3 Tryz.f3 (OpenSpec.ofChange Rows.linesScriptSpec).bare Rows.linesScriptRow = true := by kernel_rfl
theorem jf18 : (fun (P : Program) (f : FuncId) (fn : Func) (s : ChangeSpec) (c : OpenClaim) => (s.vars.all (P.varReadable ·))) Tryz.prog 3 Tryz.f3 (OpenSpec.ofChange Rows.linesScriptSpec).bare Rows.linesScriptRow = true := by kernel_rfl
theorem jf19 : (fun (P : Program) (f : FuncId) (fn : Func) (s : ChangeSpec) (c : OpenClaim) => (fn.resultTypes.all (fun t => P.readableRec t && decide (t < P.types.size)))) Tryz.prog 3 Tryz.f3 (OpenSpec.ofChange Rows.linesScriptSpec).bare Rows.linesScriptRow = true := by kernel_rfl
theorem jf20 : (fun (P : Program) (f : FuncId) (fn : Func) (s : ChangeSpec) (c : OpenClaim) => ((c.ifacesOut == fn.resultTypes.toList.any (P.ifacesRec ·)))) Tryz.prog 3 Tryz.f3 (OpenSpec.ofChange Rows.linesScriptSpec).bare Rows.linesScriptRow = true := by kernel_rfl
theorem jf21 : (fun (P : Program) (f : FuncId) (fn : Func) (s : ChangeSpec) (c : OpenClaim) => ((c.loopsOut == fn.resultTypes.toList.any (P.loopsFrom ·)))) Tryz.prog 3 Tryz.f3 (OpenSpec.ofChange Rows.linesScriptSpec).bare Rows.linesScriptRow = true := by kernel_rfl
theorem jf22 : (fun (P : Program) (f : FuncId) (fn : Func) (s : ChangeSpec) (c : OpenClaim) => ((c.plainKeys == P.plainKeys))) Tryz.prog 3 Tryz.f3 (OpenSpec.ofChange Rows.linesScriptSpec).bare Rows.linesScriptRow = true := by kernel_rfl
theorem jf23 : (fun (P : Program) (f : FuncId) (fn : Func) (s : ChangeSpec) (c : OpenClaim) => (c.shortTexts.isNone)) Tryz.prog 3 Tryz.f3 (OpenSpec.ofChange Rows.linesScriptSpec).bare Rows.linesScriptRow = true := by kernel_rfl
theorem jf24 : (fun (P : Program) (f : FuncId) (fn : Func) (s : ChangeSpec) (c : OpenClaim) => (P.stopsHeard)) Tryz.prog 3 Tryz.f3 (OpenSpec.ofChange Rows.linesScriptSpec).bare Rows.linesScriptRow = true := by kernel_rfl
theorem jf25 : (fun (P : Program) (f : FuncId) (fn : Func) (s : ChangeSpec) (c : OpenClaim) => (P.mayEnter)) Tryz.prog 3 Tryz.f3 (OpenSpec.ofChange Rows.linesScriptSpec).bare Rows.linesScriptRow = true := by kernel_rfl
theorem jf26 : (fun (P : Program) (f : FuncId) (fn : Func) (s : ChangeSpec) (c : OpenClaim) => ((c.lifted == P.liftsFinal))) Tryz.prog 3 Tryz.f3 (OpenSpec.ofChange Rows.linesScriptSpec).bare Rows.linesScriptRow = true := by kernel_rfl
theorem jf27 : (fun (P : Program) (f : FuncId) (fn : Func) (s : ChangeSpec) (c : OpenClaim) => ((P.make == some c.make))) Tryz.prog 3 Tryz.f3 (OpenSpec.ofChange Rows.linesScriptSpec).bare Rows.linesScriptRow = true := by kernel_rfl
theorem jf28 : (fun (P : Program) (f : FuncId) (fn : Func) (s : ChangeSpec) (c : OpenClaim) => ((c.kinds == (if c.domain.isEmpty then [] else fn.params.toList.map fun t => match P.underlying t with | some (.int k) => some k | _ => none)))) Tryz.prog 3 Tryz.f3 (OpenSpec.ofChange Rows.linesScriptSpec).bare Rows.linesScriptRow = true := by kernel_rfl
theorem jf29 : (fun (P : Program) (f : FuncId) (fn : Func) (s : ChangeSpec) (c : OpenClaim) => ((c.pinned == c.pinnedBy))) Tryz.prog 3 Tryz.f3 (OpenSpec.ofChange Rows.linesScriptSpec).bare Rows.linesScriptRow = true := by kernel_rfl
theorem jf30 : (fun (P : Program) (f : FuncId) (fn : Func) (s : ChangeSpec) (c : OpenClaim) => ((c.veiled == (fn.params.toList ++ s.plain.varTypes P ++ fn.resultTypes.toList).any (P.veiledRec ·)))) Tryz.prog 3 Tryz.f3 (OpenSpec.ofChange Rows.linesScriptSpec).bare Rows.linesScriptRow = true := by kernel_rfl
theorem jf31 : (fun (P : Program) (f : FuncId) (fn : Func) (s : ChangeSpec) (c : OpenClaim) => (c.veiledFits P fn.params.toList (fn.params.toList ++ s.plain.varTypes P ++ fn.resultTypes.toList))) Tryz.prog 3 Tryz.f3 (OpenSpec.ofChange Rows.linesScriptSpec).bare Rows.linesScriptRow = true := by kernel_rfl
set_option maxRecDepth 100000 in
theorem closed : joinedFacts Tryz.prog 3 Tryz.f3 (OpenSpec.ofChange Rows.linesScriptSpec).bare Rows.linesScriptRow = true :=
  and_tr (and_tr (and_tr (and_tr (and_tr (and_tr (and_tr (and_tr (and_tr (and_tr (and_tr (and_tr (and_tr (and_tr (and_tr (and_tr (and_tr (and_tr (and_tr (and_tr (and_tr (and_tr (and_tr (and_tr (and_tr (and_tr (and_tr (and_tr (and_tr (and_tr (and_tr (jf0) jf1) jf2) jf3) jf4) jf5) jf6) jf7) jf8) jf9) jf10) jf11) jf12) jf13) jf14) jf15) jf16) jf17) jf18) jf19) jf20) jf21) jf22) jf23) jf24) jf25) jf26) jf27) jf28) jf29) jf30) jf31
theorem f_named : Tryz.prog.funcNamed "selvage/selvagelaw22.LinesScript" = some 3 := by kernel_rfl
theorem f_instB : decide (Tryz.f3.isInstance Tryz.prog Rows.linesScriptRow.origin Rows.linesScriptRow.targs) = true := by kernel_rfl
theorem f_pkg : decide (Check.packageOf Tryz.f3.name = "main") = false := by kernel_rfl
theorem f_wrap : Tryz.f3.isWrapper Tryz.prog Rows.linesScriptRow.wrapper Rows.linesScriptRow.mainSum := by
  unfold Func.isWrapper; rw [if_neg (of_decide_eq_false f_pkg)]; exact ⟨rfl, rfl⟩
theorem f_noInit : Tryz.prog.inits.idxOf? 3 = Option.none := by kernel_rfl
theorem f_looks : true = Tryz.prog.looks [] := by kernel_rfl
theorem f_stand : Tryz.prog.wantsStandIn 9 = false := by kernel_rfl
theorem f_wf : Rows.linesScriptRow.wfByText (OpenSpec.ofChange Rows.linesScriptSpec) = true := by kernel_rfl
theorem f_main : Tryz.prog.mainIs = some (true, "1349fc623f9241a33366bccdab57d1660349626c18eb9931c91dcd2b798bd288".toList) := by kernel_rfl
theorem hv_goes : Tryz.prog.goes 3 = false := by
  unfold Program.goes
  rw [hv_clos, hv_unfollowed]
  kernel_rfl
theorem goes_at (P : Program) (c : OpenClaim) (g : FuncId) (hn : P.funcNamed c.func = some g) (hs : c.start = .entering) : c.goesBy P = P.goes g := by
  unfold OpenClaim.goesBy Program.goesAt Program.goesFrom
  rw [hn, hs]
  simp
theorem f_goes : false = Rows.linesScriptRow.goesBy Tryz.prog := by rw [goes_at Tryz.prog Rows.linesScriptRow 3 f_named rfl, hv_goes]
theorem f_own : ownKnob Tryz.prog.godebug = Option.none := by kernel_rfl
end Go.Proofs.YtpmbnnobfjjpaaaGreatDoor
