/- The abstract machine: THE DOOR: what it says of a call, the model does. -/
import Derived.Test.YtpmbnnobfjjpaaaGreatDoorAmDraw8
namespace Go.AM
set_option linter.unusedVariables false
set_option linter.unusedSimpArgs false

theorem empty_get (id : Nat) : (AState.get { heap := .nil, next := 0 } id) = none := by
  unfold AState.get
  split
  · exact nil_get HD id
  · rfl

/-- what a call leaves alone -/
def Leaves (w : World) (σ : Sig) (v : AV) : Ending → World → Prop := fun e w' => ∃ u, e = .returned u ∧ conc σ v = some u ∧ w.heap.size ≤ w'.heap.size ∧ (∀ b, b < w.heap.size → w'.heap[b]? = w.heap[b]?) ∧ w'.os = w.os ∧ w'.tape = w.tape ∧ w'.output = w.output

theorem am_calls {E : Env} (hE : EnvOk E) (hmix : E.P.follows .mixedOrders = true) {hook : Hook} (hH : HookOk E hook) {fuel n : Nat} {f : FuncId} {v : AV} {S' : AState} (ha : (arecs E hook fuel n).call f [] { heap := .nil, next := 0 } = some (v, S')) (w : World) :
    Calls E.P f #[] w fun e w' => ∃ σ', Leaves w σ' v e w' := by
  have h0 : Rel (fun _ => none) { heap := .nil, next := 0 } w := by
    refine ⟨fun _ _ => rfl, ?_, ?_, ?_⟩
    · intro _ _ h; cases h
    · intro id o ho; rw [empty_get] at ho; cases ho
    · intro id _ o _ _ _ ho; rw [empty_get] at ho; cases ho
  have hc := (arecs_ok hE (draw_ok hE hmix) hH fuel n).call f [] _ v S' ha (fun _ => none) w [] h0 rfl
  refine callsIn_wide.1 (hc.mono fun e w' he => ?_)
  obtain ⟨u, σ', h1, h2, _, h4⟩ := he
  refine ⟨σ', u, h1, h2, h4.size, fun b hb => (h4.keep b hb ?_).1, h4.os, h4.tape, h4.output⟩
  rintro ⟨id, o, l, ho, _⟩
  rw [empty_get] at ho; cases ho

/-- the first state, where one object of the world is known to stay -/
noncomputable def fixedS (b : Nat) (o : Obj) : AState := { heap := T.put HD .nil 0 (.leaf (.fixed b o)), next := 1 }

theorem fixedS_get (b : Nat) (o : Obj) (id : Nat) : (fixedS b o).get id = if id = 0 then some (.fixed b o) else none := by
  have := AState.get_put { heap := .nil, next := 1 } 0 id (.fixed b o) (by omega)
  have h2 : (AState.get { heap := .nil, next := 1 } id) = none := by
    unfold AState.get
    split
    · exact nil_get HD id
    · rfl
  rw [h2] at this
  exact this

theorem am_fixed {E : Env} (hE : EnvOk E) (hmix : E.P.follows .mixedOrders = true) {hook : Hook} (hH : HookOk E hook) {fuel n : Nat} {f : FuncId} {v : AV} {S' : AState} {b : Nat} {o : Obj}
    (ha : (arecs E hook fuel n).call f [] (fixedS b o) = some (v, S')) (hS : S'.get 0 = some (.fixed b o)) (w : World) (hb : w.heap[b]? = some o) :
    Calls E.P f #[] w fun e w' => ∃ σ', Leaves w σ' v e w' := by
  have hlt : b < w.heap.size := (Array.getElem?_eq_some_iff.1 hb).1
  let σ : Sig := fun id => if id = 0 then some ⟨b, 0, 0, 0⟩ else none
  have hσ : ∀ id l, σ id = some l → id = 0 ∧ l.block = b := by
    intro id l hl
    simp only [σ] at hl
    split at hl
    · rename_i e; cases hl; exact ⟨e, rfl⟩
    · cases hl
  have h0 : Rel σ (fixedS b o) w := by
    refine ⟨fun id hid => ?_, fun id l hl => by rw [(hσ id l hl).2]; exact hlt, fun id x hx => ?_, fun id id' x x' l l' hx hx' hl hl' hne => ?_⟩
    · have : id ≠ 0 := by simp only [fixedS] at hid; omega
      simp [σ, this]
    · rw [fixedS_get] at hx
      split at hx
      · rename_i e; subst e; cases hx
        exact ⟨⟨b, 0, 0, 0⟩, by simp [σ], rfl, hb⟩
      · cases hx
    · exact absurd ((hσ id l hl).1.trans (hσ id' l' hl').1.symm) hne
  have hc := (arecs_ok hE (draw_ok hE hmix) hH fuel n).call f [] _ v S' ha σ w [] h0 rfl
  refine callsIn_wide.1 (hc.mono fun e w' he => ?_)
  obtain ⟨u, σ', h1, h2, h3, h4⟩ := he
  refine ⟨σ', u, h1, h2, h4.size, fun c hc => ?_, h4.os, h4.tape, h4.output⟩
  by_cases e : c = b
  · subst e
    obtain ⟨l, _, k1, k2⟩ := h3.obj 0 _ hS
    rw [k2, hb]
  · refine (h4.keep c hc ?_).1
    rintro ⟨id, x, l, _, hl, rfl⟩
    exact e (hσ id l hl).2

end Go.AM
