/- A part of the proof that selvagelaw22.LinesScript answers true at every text. -/
import Derived.Test.YtpmbnnobfjjpaaaGreatDoorParse
namespace Go.Proofs
set_option linter.unusedVariables false
set_option linter.unusedSimpArgs false
open Go.AM
noncomputable def end22 : Option (AV × AState) → Option AObj
  | some (.lit (.bool true), S') => S'.get 0
  | _ => none
theorem end22_ok {r : Option (AV × AState)} {o : AObj} (h : end22 r = some o) : ∃ S', r = some (.lit (.bool true), S') ∧ S'.get 0 = some o := by
  unfold end22 at h
  split at h
  · exact ⟨_, rfl, h⟩
  · cases h
set_option maxRecDepth 1000000 in
theorem run22 (m : Int) (rest : List Value) (t : TypeId) (fz : Nat × Nat) :
    end22 ((arecsF env22 hookP 1000 200).call 8 [] (fixedS 1 (.cells ⟨.int .i64 m :: rest⟩ t fz))) = some (.fixed 1 (.cells ⟨.int .i64 m :: rest⟩ t fz)) := by kernel_rfl
/-- lives() of the law's package: it answers true, and changes nothing that was there -/
theorem lives22 (w : World) {C : Array Value} {t : TypeId} {fz : Nat × Nat} {m : Int} (h1 : w.heap[1]? = some (.cells C t fz)) (h2 : C[0]? = some (.int .i64 m)) :
    Calls Tryz.prog 8 #[] w fun e w' => e = .returned (.bool true) ∧ w.heap.size ≤ w'.heap.size ∧ (∀ b, b < w.heap.size → w'.heap[b]? = w.heap[b]?) ∧ w'.os = w.os ∧ w'.tape = w.tape ∧ w'.output = w.output := by
  obtain ⟨l⟩ := C
  cases l with
  | nil => simp at h2
  | cons x rest =>
    obtain rfl : x = .int .i64 m := by simpa using h2
    obtain ⟨S', k1, k2⟩ := end22_ok (run22 m rest t fz)
    rw [arecsF_eq] at k1
    refine (am_fixed envOk22 (by kernel_rfl) hookOkP k1 k2 w h1).mono fun e w' he => ?_
    obtain ⟨σ', u, rfl, hu, hrest⟩ := he
    obtain rfl := lit_of hu
    exact ⟨rfl, hrest⟩
end Go.Proofs
