/- A world that meets LinesPrint's row: the settled one, the listed variables laid. -/
import Derived.Test.YtpmbnnobfjjpaaaGreatDoorRows
import Derived.WalkKit
import Derived.Deep.DeepHandedRow
import Derived.Deep.DeepWitnessRowRef
import Derived.LaidByTextLater
namespace Go.Proofs.YtpmbnnobfjjpaaaGreatDoor
open Go Go.RowKit
/-! ### a world that meets the row -/
def lits1 (l : List (DataW Unit)) : List Value := l.filterMap fun | .lit (.int k n) => some (.int k n) | _ => Option.none
def cells1 : DataW Unit → List Value
  | .agg l => lits1 l
  | _ => []
def cells2 : DataW Unit → List Value
  | .agg l => l.flatMap cells1
  | _ => []
def layAt (g : Nat) (c : List Value) (h : Array Obj) : Array Obj := h.modify g fun
  | .cells _ t frozen => .cells c.toArray t frozen
  | o => o
noncomputable def laidHeap (os : Os) : Array Obj :=
  layAt 0 [.iface 252 (.agg #[typeHandle Tryz.prog 63])] (layAt 2 (cells1 Rows.laid_unicode_utf8_first) (layAt 3 (cells2 Rows.laid_unicode_utf8_acceptRanges) (layAt 4 (cells1 Rows.laid_internal_strconv_uint64pow10) (layAt 5 (cells1 Rows.laid_math_bits_deBruijn32tab) (layAt 6 (cells1 Rows.laid_math_bits_deBruijn64tab) (World.holding Tryz.prog os ⟨#[], #[], []⟩).heap)))))
noncomputable def laidWorld (os : Os) : World := { World.holding Tryz.prog os ⟨#[], #[], []⟩ with heap := laidHeap os }
noncomputable abbrev wW (os : Os) : World := (laidWorld os).forCall (fun _ _ => 0) ⟨#[], #[.slice none 0 0], []⟩
theorem wit1 (os : Os) : (DataW.laidRun Tryz.prog (wW os).memory 8 ((Rows.linesPrintRow.laid.filter fun x => x.2.handleName?.isNone).map (·.1))).map (·.1) = some (Rows.linesPrintRow.laid.filter fun x => x.2.handleName?.isNone) := by kernel_rfl
theorem wit2 (os : Os) : (DataW.laidRun Tryz.prog (wW os).memory 8 ((Rows.linesPrintRow.laid.filter fun x => x.2.handleName?.isNone).map (·.1))).map (fun x => decide x.2.Nodup && laidRowsB Tryz.prog (wW os).memory x.2) = some true := by kernel_rfl
theorem wit3 (os : Os) : (Rows.linesPrintRow.laid.filter fun x => x.2.handleName?.isSome).all (handleAtB Tryz.prog (wW os).memory) = true := by kernel_rfl
theorem laid_met (os : Os) : laidMetH Tryz.prog Rows.linesPrintRow.laid (wW os).memory := laidMetH_of_parts (laidMet_of_run' 8 (wit1 os) (wit2 os)) (wit3 os)
theorem wit_sz (os : Os) {H : Type} (enc : TypeId × Value → H) : (OpenSpec.ofChange Rows.linesPrintSpec).bare.sizedB enc Tryz.prog Tryz.f4 false (wW os).memory #[Value.slice none 0 0] 8 = true := by kernel_rfl
theorem reads (os : Os) {H : Type} (enc : TypeId × Value → H) : ∃ places, DataW.whole enc Tryz.prog (wW os).memory Tryz.f4.params.toList Rows.linesPrintSpec.vars false #[Value.slice none 0 0].toList 8 = some ([.nil], [], places) :=
  ⟨[], by kernel_rfl⟩
theorem wit4 (os : Os) : (wW os).variablesB Tryz.prog = true := by kernel_rfl
theorem wit5 (os : Os) : ((wW os).heap.toList.drop Tryz.prog.globals.size).take ((begin Tryz.prog (fun _ _ => 0) default).world.heap.size - Tryz.prog.globals.size) =
      (begin Tryz.prog (fun _ _ => 0) default).world.heap.toList.drop Tryz.prog.globals.size := by kernel_rfl
theorem wit6 (os : Os) : Input.okWideB Tryz.prog (wW os) 4 ⟨#[], #[.slice none 0 0], []⟩ = true := by kernel_rfl

end Go.Proofs.YtpmbnnobfjjpaaaGreatDoor
