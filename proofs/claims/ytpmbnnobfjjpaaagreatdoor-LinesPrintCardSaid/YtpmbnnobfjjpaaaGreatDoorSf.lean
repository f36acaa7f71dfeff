/- A part of the proof that selvagelaw22.LinesScript answers true at every text. -/
import Derived.Test.YtpmbnnobfjjpaaaGreatDoorSe
import Derived.Test.YtpmbnnobfjjpaaaGreatDoorWe
namespace Go.Proofs
set_option linter.unusedVariables false
set_option linter.unusedSimpArgs false
open Go.AM Go.RowKit

/-- a value holds a list of integers -/
def HoldsI (w : World) (v : Value) (xs : List Int) : Prop :=
  (v = .slice none 0 0 ∧ xs = []) ∨ ∃ g o cap, v = .slice (some ⟨g, o, none⟩) xs.length cap ∧ g < w.heap.size ∧ 0 < xs.length ∧ ∀ j, j < xs.length → w.cell? ⟨g, o + j, none⟩ = some (.int .i64 (xs.getD j 0))

theorem concL_lit : ∀ (xs : List Int) (σ : Sig) (us : List Value), concL σ (xs.map litI) = some us → us = xs.map (Value.int .i64)
  | [], σ, us, h => by
    have : some [] = some us := h
    cases this; rfl
  | x :: r, σ, us, h => by
    obtain ⟨u, l, rfl, h1, h2⟩ := concL_cons h
    have : some (Value.int .i64 x) = some u := h1
    cases this
    rw [concL_lit r σ l h2]; rfl

theorem holds_of_own {σ : Sig} {S : AState} {w : World} {v : AV} {u : Value} {xs : List Int} (hr : Rel σ S w) (ho : OwnA S v xs) (hu : conc σ v = some u) : HoldsI w u xs := by
  rcases ho with ⟨rfl, rfl⟩ | ⟨r, rfl, h0, hg, _⟩
  · have : some (Value.slice none 0 0) = some u := hu
    cases this
    exact .inl ⟨rfl, rfl⟩
  · obtain ⟨l, hl, C, fz, hb, _, ⟨us, hus, hC⟩, _⟩ := hr.obj r _ hg
    have hlt := hr.blk r l hl
    unfold conc at hu
    rw [hl] at hu
    simp only [Nat.zero_div, Nat.zero_add, Nat.sub_zero, Nat.add_zero] at hu
    split at hu
    · cases hu
      refine .inr ⟨l.block, l.off, _, rfl, hlt, h0, fun j hj => ?_⟩
      rw [cell_of_block hb]
      refine hC j _ ?_
      rw [concL_lit xs σ us hus, List.getElem?_map, List.getElem?_eq_getElem hj]
      simp [List.getD, List.getElem?_eq_getElem hj]
    · cases hu

/-- THE DOOR: a call with arguments that need no heap, where one object of the world is known to stay -/
theorem am_door {E : Env} (hE : EnvOk E) (hmix : E.P.follows .mixedOrders = true) {hook : Hook} (hH : HookOk E hook) {fuel n : Nat} {f : FuncId} {args : List AV} {us : List Value} {v : AV} {S' : AState} {b : Nat} {o : Obj}
    (hargs : ∀ σ, concL σ args = some us) (ha : (arecs E hook fuel n).call f args (fixedS b o) = some (v, S')) (hS : S'.get 0 = some (.fixed b o)) (w : World) (hb : w.heap[b]? = some o) :
    Calls E.P f us.toArray w fun e w' => ∃ σ' u, e = .returned u ∧ conc σ' v = some u ∧ Rel σ' S' w' ∧ Below w.heap.size w w' := by
  have hlt : b < w.heap.size := (Array.getElem?_eq_some_iff.1 hb).1
  let σ : Sig := fun id => if id = 0 then some ⟨b, 0, 0, 0⟩ else none
  have hσ : ∀ id l, σ id = some l → id = 0 ∧ l.block = b := by
    intro id l hl
    simp only [σ] at hl
    split at hl
    · rename_i e; cases hl; exact ⟨e, rfl⟩
    · cases hl
  have h0 : Rel σ (fixedS b o) w := by
    refine ⟨fun id hid => ?_, fun id l hl => by rw [(hσ id l hl).2]; exact hlt, fun id x hx => ?_, fun id id' x x' l l' hx hx' hl hl' hne => ?_⟩
    · have : id ≠ 0 := by simp only [fixedS] at hid; omega
      simp [σ, this]
    · rw [fixedS_get] at hx
      split at hx
      · rename_i e; subst e; cases hx
        exact ⟨⟨b, 0, 0, 0⟩, by simp [σ], rfl, hb⟩
      · cases hx
    · exact absurd ((hσ id l hl).1.trans (hσ id' l' hl').1.symm) hne
  have hc := (arecs_ok hE (draw_ok hE hmix) hH fuel n).call f args _ v S' ha σ w us h0 (hargs σ)
  refine callsIn_wide.1 (hc.mono fun e w' he => ?_)
  obtain ⟨u, σ', h1, h2, h3, h4⟩ := he
  refine ⟨σ', u, h1, h2, h3, h4.os, h4.tape, h4.output, h4.size, fun c hc => ?_⟩
  by_cases e : c = b
  · subst e
    obtain ⟨l, _, k1, k2⟩ := h3.obj 0 _ hS
    rw [k2, hb]
  · refine (h4.keep c hc ?_).1
    rintro ⟨id, x, l, _, hl, rfl⟩
    exact e (hσ id l hl).2
end Go.Proofs
