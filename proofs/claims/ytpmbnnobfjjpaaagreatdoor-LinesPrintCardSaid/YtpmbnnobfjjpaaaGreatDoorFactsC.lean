/- The closed facts of LinesPrint's row, each by itself. -/
import Derived.Test.YtpmbnnobfjjpaaaGreatDoorRows
import Derived.Test.YtpmbnnobfjjpaaaGreatDoorFactsA
import Derived.JoinedOf
import Derived.SevenTiedAt
import Derived.Handed
namespace Go.Proofs.YtpmbnnobfjjpaaaGreatDoor
open Go
set_option linter.unusedVariables false
theorem and_tr {a b : Bool} (h : a = true) (k : b = true) : (a && b) = true := by rw [h, k]; rfl
theorem jf0 : (fun (P : Program) (f : FuncId) (fn : Func) (s : ChangeSpec) (c : OpenClaim) => (c.wf (OpenSpec.ofChange s))) Tryz.prog 4 Tryz.f4 (OpenSpec.ofChange Rows.linesPrintSpec).bare Rows.linesPrintRow = true := by kernel_rfl
theorem jf1 : (fun (P : Program) (f : FuncId) (fn : Func) (s : ChangeSpec) (c : OpenClaim) => (laidOutB P)) Tryz.prog 4 Tryz.f4 (OpenSpec.ofChange Rows.linesPrintSpec).bare Rows.linesPrintRow = true := hv_laidOut
theorem jf2 : (fun (P : Program) (f : FuncId) (fn : Func) (s : ChangeSpec) (c : OpenClaim) => (mapsRowed P)) Tryz.prog 4 Tryz.f4 (OpenSpec.ofChange Rows.linesPrintSpec).bare Rows.linesPrintRow = true := hv_maps
theorem jf3 : (fun (P : Program) (f : FuncId) (fn : Func) (s : ChangeSpec) (c : OpenClaim) => (fn.params.all (P.readableRec ·))) Tryz.prog 4 Tryz.f4 (OpenSpec.ofChange Rows.linesPrintSpec).bare Rows.linesPrintRow = true := by kernel_rfl
theorem jf4 : (fun (P : Program) (f : FuncId) (fn : Func) (s : ChangeSpec) (c : OpenClaim) => (namedTie P c.named s.vars)) Tryz.prog 4 Tryz.f4 (OpenSpec.ofChange Rows.linesPrintSpec).bare Rows.linesPrintRow = true := by kernel_rfl
theorem jf5 : (fun (P : Program) (f : FuncId) (fn : Func) (s : ChangeSpec) (c : OpenClaim) => ((c.stops == []))) Tryz.prog 4 Tryz.f4 (OpenSpec.ofChange Rows.linesPrintSpec).bare Rows.linesPrintRow = true := by kernel_rfl
theorem jf6 : (fun (P : Program) (f : FuncId) (fn : Func) (s : ChangeSpec) (c : OpenClaim) => ((P.stops == []))) Tryz.prog 4 Tryz.f4 (OpenSpec.ofChange Rows.linesPrintSpec).bare Rows.linesPrintRow = true := by kernel_rfl
theorem jf7 : (fun (P : Program) (f : FuncId) (fn : Func) (s : ChangeSpec) (c : OpenClaim) => ((c.knobs == []))) Tryz.prog 4 Tryz.f4 (OpenSpec.ofChange Rows.linesPrintSpec).bare Rows.linesPrintRow = true := by kernel_rfl
theorem jf8 : (fun (P : Program) (f : FuncId) (fn : Func) (s : ChangeSpec) (c : OpenClaim) => ((P.stopKnobs == []))) Tryz.prog 4 Tryz.f4 (OpenSpec.ofChange Rows.linesPrintSpec).bare Rows.linesPrintRow = true := by kernel_rfl
theorem jf13 : (fun (P : Program) (f : FuncId) (fn : Func) (s : ChangeSpec) (c : OpenClaim) => ((c.maps == (fn.params.toList ++ s.plain.varTypes P).any (P.mapsRec ·)))) Tryz.prog 4 Tryz.f4 (OpenSpec.ofChange Rows.linesPrintSpec).bare Rows.linesPrintRow = true := by kernel_rfl
theorem jf14 : (fun (P : Program) (f : FuncId) (fn : Func) (s : ChangeSpec) (c : OpenClaim) => ((c.ifaces == (fn.params.toList ++ s.plain.varTypes P).any (P.ifacesRec ·)))) Tryz.prog 4 Tryz.f4 (OpenSpec.ofChange Rows.linesPrintSpec).bare Rows.linesPrintRow = true := by kernel_rfl
theorem jf15 : (fun (P : Program) (f : FuncId) (fn : Func) (s : ChangeSpec) (c : OpenClaim) => ((c.mapsOut == P.mapsAmong fn.resultTypes.toList))) Tryz.prog 4 Tryz.f4 (OpenSpec.ofChange Rows.linesPrintSpec).bare Rows.linesPrintRow = true := by kernel_rfl
theorem jf16 : (fun (P : Program) (f : FuncId) (fn : Func) (s : ChangeSpec) (c : OpenClaim) => ((c.loops == (fn.params.toList ++ s.plain.varTypes P).any (P.loopsFrom ·)))) Tryz.prog 4 Tryz.f4 (OpenSpec.ofChange Rows.linesPrintSpec).bare Rows.linesPrintRow = true := by kernel_rfl
theorem jf17 : (fun (P : Program) (f : FuncId) (fn : Func) (s : ChangeSpec) (c : OpenClaim) => ((c.wideKeys == (fn.params.toList ++ s.plain.varTypes P ++ fn.resultTypes.toList).any (P.wideKeysFrom ·)))) Tryz.prog 4 Tryz.f4 (OpenSpec.ofChange Rows.linesPrintSpec).bare Rows.linesPrintRow = true := by kernel_rfl
theorem jf18 : (fun (P : Program) (f : FuncId) (fn : Func) (s : ChangeSpec) (c : OpenClaim) => (s.vars.all (P.varReadable ·))) Tryz.prog 4 Tryz.f4 (OpenSpec.ofChange Rows.linesPrintSpec).bare Rows.linesPrintRow = true := by kernel_rfl
theorem jf19 : (fun (P : Program) (f : FuncId) (fn : Func) (s : ChangeSpec) (c : OpenClaim) => (fn.resultTypes.all (fun t => P.readableRec t && decide (t < P.types.size)))) Tryz.prog 4 Tryz.f4 (OpenSpec.ofChange Rows.linesPrintSpec).bare Rows.linesPrintRow = true := by kernel_rfl
theorem jf20 : (fun (P : Program) (f : FuncId) (fn : Func) (s : ChangeSpec) (c : OpenClaim) => ((c.ifacesOut == fn.resultTypes.toList.any (P.ifacesRec ·)))) Tryz.prog 4 Tryz.f4 (OpenSpec.ofChange Rows.linesPrintSpec).bare Rows.linesPrintRow = true := by kernel_rfl
theorem jf21 : (fun (P : Program) (f : FuncId) (fn : Func) (s : ChangeSpec) (c : OpenClaim) => ((c.loopsOut == fn.resultTypes.toList.any (P.loopsFrom ·)))) Tryz.prog 4 Tryz.f4 (OpenSpec.ofChange Rows.linesPrintSpec).bare Rows.linesPrintRow = true := by kernel_rfl
theorem jf22 : (fun (P : Program) (f : FuncId) (fn : Func) (s : ChangeSpec) (c : OpenClaim) => ((c.plainKeys == P.plainKeys))) Tryz.prog 4 Tryz.f4 (OpenSpec.ofChange Rows.linesPrintSpec).bare Rows.linesPrintRow = true := by kernel_rfl
theorem jf23 : (fun (P : Program) (f : FuncId) (fn : Func) (s : ChangeSpec) (c : OpenClaim) => (c.shortTexts.isNone)) Tryz.prog 4 Tryz.f4 (OpenSpec.ofChange Rows.linesPrintSpec).bare Rows.linesPrintRow = true := by kernel_rfl
theorem jf24 : (fun (P : Program) (f : FuncId) (fn : Func) (s : ChangeSpec) (c : OpenClaim) => (P.stopsHeard)) Tryz.prog 4 Tryz.f4 (OpenSpec.ofChange Rows.linesPrintSpec).bare Rows.linesPrintRow = true := by kernel_rfl
theorem jf25 : (fun (P : Program) (f : FuncId) (fn : Func) (s : ChangeSpec) (c : OpenClaim) => (P.mayEnter)) Tryz.prog 4 Tryz.f4 (OpenSpec.ofChange Rows.linesPrintSpec).bare Rows.linesPrintRow = true := by kernel_rfl
theorem jf26 : (fun (P : Program) (f : FuncId) (fn : Func) (s : ChangeSpec) (c : OpenClaim) => ((c.lifted == P.liftsFinal))) Tryz.prog 4 Tryz.f4 (OpenSpec.ofChange Rows.linesPrintSpec).bare Rows.linesPrintRow = true := by kernel_rfl
theorem jf27 : (fun (P : Program) (f : FuncId) (fn : Func) (s : ChangeSpec) (c : OpenClaim) => ((P.make == some c.make))) Tryz.prog 4 Tryz.f4 (OpenSpec.ofChange Rows.linesPrintSpec).bare Rows.linesPrintRow = true := by kernel_rfl
theorem jf28 : (fun (P : Program) (f : FuncId) (fn : Func) (s : ChangeSpec) (c : OpenClaim) => ((c.kinds == (if c.domain.isEmpty then [] else fn.params.toList.map fun t => match P.underlying t with | some (.int k) => some k | _ => none)))) Tryz.prog 4 Tryz.f4 (OpenSpec.ofChange Rows.linesPrintSpec).bare Rows.linesPrintRow = true := by kernel_rfl
theorem jf29 : (fun (P : Program) (f : FuncId) (fn : Func) (s : ChangeSpec) (c : OpenClaim) => ((c.pinned == c.pinnedBy))) Tryz.prog 4 Tryz.f4 (OpenSpec.ofChange Rows.linesPrintSpec).bare Rows.linesPrintRow = true := by kernel_rfl
theorem jf30 : (fun (P : Program) (f : FuncId) (fn : Func) (s : ChangeSpec) (c : OpenClaim) => ((c.veiled == (fn.params.toList ++ s.plain.varTypes P ++ fn.resultTypes.toList).any (P.veiledRec ·)))) Tryz.prog 4 Tryz.f4 (OpenSpec.ofChange Rows.linesPrintSpec).bare Rows.linesPrintRow = true := by kernel_rfl
theorem jf31 : (fun (P : Program) (f : FuncId) (fn : Func) (s : ChangeSpec) (c : OpenClaim) => (c.veiledFits P fn.params.toList (fn.params.toList ++ s.plain.varTypes P ++ fn.resultTypes.toList))) Tryz.prog 4 Tryz.f4 (OpenSpec.ofChange Rows.linesPrintSpec).bare Rows.linesPrintRow = true := by kernel_rfl
theorem f_named : Tryz.prog.funcNamed "selvage/selvagelaw22.LinesPrint" = some 4 := by kernel_rfl
theorem f_instB : decide (Tryz.f4.isInstance Tryz.prog Rows.linesPrintRow.origin Rows.linesPrintRow.targs) = true := by kernel_rfl
theorem f_pkg : decide (Check.packageOf Tryz.f4.name = "main") = false := by kernel_rfl
theorem f_wrap : Tryz.f4.isWrapper Tryz.prog Rows.linesPrintRow.wrapper Rows.linesPrintRow.mainSum := by
  unfold Func.isWrapper; rw [if_neg (of_decide_eq_false f_pkg)]; exact ⟨rfl, rfl⟩
theorem f_noInit : Tryz.prog.inits.idxOf? 4 = Option.none := by kernel_rfl
theorem f_looks : true = Tryz.prog.looks [] := by kernel_rfl
theorem f_stand : Tryz.prog.wantsStandIn 22 = false := by kernel_rfl
theorem f_wf : Rows.linesPrintRow.wfByText (OpenSpec.ofChange Rows.linesPrintSpec) = true := by kernel_rfl
theorem f_main : Tryz.prog.mainIs = some (true, "1349fc623f9241a33366bccdab57d1660349626c18eb9931c91dcd2b798bd288".toList) := by kernel_rfl
theorem f_own : ownKnob Tryz.prog.godebug = Option.none := by kernel_rfl
end Go.Proofs.YtpmbnnobfjjpaaaGreatDoor
