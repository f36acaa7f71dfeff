/- The abstract machine: a call with arguments that need no heap, run apart, is laid into whatever state. -/
import Derived.Test.YtpmbnnobfjjpaaaGreatDoorAmFast
namespace Go.AM
set_option linter.unusedVariables false
set_option linter.unusedSimpArgs false

theorem plus_get_some : ∀ (l : List (Nat × AObj)) (S : AState) (j : Nat) (x : AObj), (∀ p ∈ l, p.1 < 65536) → (plus S l).get j = some x → (j, x) ∈ l ∨ S.get j = some x
  | [], _, _, _, _, h => .inr h
  | (id, o) :: r, S, j, x, hl, h => by
    have h1 : id < 65536 := hl (id, o) (by simp)
    have h' : ((plus S r).put id o).get j = some x := h
    rw [get_put _ _ _ _ h1] at h'
    split at h'
    · rename_i e; subst e; cases h'; left; simp
    · rcases plus_get_some r S j x (fun p hp => hl p (by simp [hp])) h' with h2 | h2
      · left; simp [h2]
      · exact .inr h2

/-- a state with some things laid in, and the next number -/
noncomputable def mergeS (S : AState) (l : List (Nat × AObj)) (n : Nat) : AState := { plus S l with next := n }
/-- the state in which a call is run apart -/
noncomputable def baseS (b : Nat) (o : Obj) (n : Nat) : AState := { heap := T.put HD .nil 0 (.leaf (.fixed b o)), next := n }
theorem baseS_get (b : Nat) (o : Obj) (n id : Nat) : (baseS b o n).get id = if id = 0 then some (.fixed b o) else none := by
  have h := get_put { heap := .nil, next := n } 0 id (.fixed b o) (by omega)
  have h2 : (AState.get { heap := .nil, next := n } id) = none := by
    unfold AState.get
    split
    · exact nil_get HD id
    · rfl
  rw [h2] at h
  exact h

theorem merge_ok {E : Env} (hE : EnvOk E) (hmix : E.P.follows .mixedOrders = true) {hook : Hook} (hH : HookOk E hook) {fuel n : Nat} {f : FuncId} {args : List AV} {us : List Value} {v : AV} {S2 : AState} {b base : Nat} {o : Obj} {live : List (Nat × AObj)}
    (hargs : ∀ σ, concL σ args = some us) (ha : (arecs E hook fuel n).call f args (baseS b o base) = some (v, S2)) (h0 : S2.get 0 = some (.fixed b o)) (hb0 : 0 < base)
    (hlive : ∀ p ∈ live, base ≤ p.1 ∧ p.1 < 65536 ∧ S2.get p.1 = some p.2) {σ : Sig} {S : AState} {w : World} (hr : Rel σ S w) (hn : S.next = base) (hg : S.get 0 = some (.fixed b o)) :
    CallsIn Fence.wide 0 E.P f us.toArray w (RetPost σ S w v (mergeS S live S2.next)) := by
  obtain ⟨l0, hl0, hl0b, hwb⟩ := hr.obj 0 _ hg
  have hbl : b < w.heap.size := (Array.getElem?_eq_some_iff.1 hwb).1
  let σr : Sig := fun id => if id = 0 then σ 0 else none
  have hσr : ∀ id l, σr id = some l → id = 0 ∧ l = l0 := by
    intro id l hl
    simp only [σr] at hl
    split at hl
    · rename_i e; rw [hl0] at hl; cases hl; exact ⟨e, rfl⟩
    · cases hl
  have hR : Rel σr (baseS b o base) w := by
    refine ⟨fun id hid => ?_, fun id l hl => ?_, fun id x hx => ?_, fun id id' x x' l l' hx hx' hl hl' hne => ?_⟩
    · have : id ≠ 0 := by simp only [baseS] at hid; omega
      simp [σr, this]
    · obtain ⟨_, rfl⟩ := hσr id l hl; rw [hl0b]; exact hbl
    · rw [baseS_get] at hx
      split at hx
      · rename_i e; subst e; cases hx
        exact ⟨l0, by simp [σr, hl0], hl0b, hwb⟩
      · cases hx
    · exact absurd ((hσr id l hl).1.trans (hσr id' l' hl').1.symm) hne
  have hc := (arecs_ok hE (draw_ok hE hmix) hH fuel n).call f args _ v S2 ha σr w us hR (hargs σr)
  refine hc.mono fun e w' he => ?_
  obtain ⟨u, σ', rfl, hu, hR2, hX⟩ := he
  have hbase : base ≤ S2.next := hX.next
  have hplt : ∀ p ∈ live, p.1 < 65536 := fun p hp => (hlive p hp).2.1
  have hold : ∀ c, c < w.heap.size → w'.heap[c]? = w.heap[c]? := by
    intro c hc
    by_cases e : c = b
    · subst e
      obtain ⟨l, _, _, k2⟩ := hR2.obj 0 _ h0
      rw [k2, hwb]
    · refine (hX.keep c hc ?_).1
      rintro ⟨id, x, l, _, hl, rfl⟩
      obtain ⟨_, rfl⟩ := hσr id l hl
      exact e hl0b
  -- a thing that was laid lies in no old block
  have hnew : ∀ id x l, base ≤ id → S2.get id = some x → σ' id = some l → w.heap.size ≤ l.block := by
    intro id x l hid hx hl
    refine Nat.le_of_not_lt fun hlt => ?_
    by_cases e : l.block = b
    · obtain ⟨l', k1, k2, _⟩ := hR2.obj 0 _ h0
      exact hR2.sep id 0 x _ l l' hx h0 hl k1 (by omega) (e.trans k2.symm)
    · refine (hX.keep l.block hlt ?_).2 ⟨id, x, l, hx, hl, rfl⟩
      rintro ⟨id', x', l', _, hl', e'⟩
      obtain ⟨_, rfl⟩ := hσr id' l' hl'
      exact e (e'.symm.trans hl0b)
  let σ2 : Sig := fun id => if id < base then σ id else σ' id
  have hlt2 : ∀ id, id < base → σ2 id = σ id := fun id h => by simp [σ2, h]
  have hge2 : ∀ id, base ≤ id → σ2 id = σ' id := fun id h => by simp [σ2, Nat.not_lt.2 h]
  have hle' : σ'.le σ2 := by
    intro id l hl
    by_cases h : id < base
    · rw [hX.same id h] at hl
      obtain ⟨rfl, rfl⟩ := hσr id l hl
      rw [hlt2 0 h]; exact hl0
    · rw [hge2 id (by omega)]; exact hl
  have hdom : ∀ id l, σ id = some l → id < base := by
    intro id l hl
    refine Nat.lt_of_not_le fun h => ?_
    rw [hr.dom id (by omega)] at hl; cases hl
  have hle : σ.le σ2 := fun id l hl => by rw [hlt2 id (hdom id l hl)]; exact hl
  have hsome : ∀ id x, (mergeS S live S2.next).get id = some x → (base ≤ id ∧ S2.get id = some x) ∨ (id < base ∧ S.get id = some x) := by
    intro id x hx
    rcases plus_get_some live S id x hplt hx with h | h
    · exact .inl ⟨(hlive _ h).1, (hlive _ h).2.2⟩
    · obtain ⟨l, hl, _⟩ := hr.obj id x h
      exact .inr ⟨hdom id l hl, h⟩
  have hblk : ∀ id l, σ id = some l → l.block < w.heap.size := hr.blk
  refine ⟨u, σ2, rfl, conc_mono hle' v u hu, ⟨fun id hid => ?_, fun id l hl => ?_, fun id x hx => ?_, fun id id' x x' l l' hx hx' hl hl' hne => ?_⟩,
    ⟨by rw [hn]; exact hbase, fun id hid => hlt2 id (by rw [← hn]; exact hid), hX.size, fun c hc hf => ⟨hold c hc, ?_⟩, hX.os, hX.tape, hX.output⟩⟩
  · have : S2.next ≤ id := hid
    rw [hge2 id (by omega)]; exact hR2.dom id this
  · by_cases h : id < base
    · rw [hlt2 id h] at hl; have := hblk id l hl; have := hX.size; omega
    · rw [hge2 id (by omega)] at hl; exact hR2.blk id l hl
  · rcases hsome id x hx with ⟨h1, h2⟩ | ⟨h1, h2⟩
    · obtain ⟨l, k1, k2⟩ := hR2.obj id x h2
      exact ⟨l, by rw [hge2 id h1]; exact k1, k2.of_block hle' rfl⟩
    · obtain ⟨l, k1, k2⟩ := hr.obj id x h2
      exact ⟨l, by rw [hlt2 id h1]; exact k1, k2.of_block hle (hold _ (hblk id l k1))⟩
  · rcases hsome id x hx with ⟨h1, h2⟩ | ⟨h1, h2⟩ <;> rcases hsome id' x' hx' with ⟨h3, h4⟩ | ⟨h3, h4⟩
    · rw [hge2 id h1] at hl; rw [hge2 id' h3] at hl'
      exact hR2.sep id id' x x' l l' h2 h4 hl hl' hne
    · rw [hge2 id h1] at hl; rw [hlt2 id' h3] at hl'
      have := hnew id x l h1 h2 hl; have := hblk id' l' hl'; omega
    · rw [hlt2 id h1] at hl; rw [hge2 id' h3] at hl'
      have := hnew id' x' l' h3 h4 hl'; have := hblk id l hl; omega
    · rw [hlt2 id h1] at hl; rw [hlt2 id' h3] at hl'
      exact hr.sep id id' x x' l l' h2 h4 hl hl' hne
  · rintro ⟨id, x, l, hx, hl, rfl⟩
    rcases hsome id x hx with ⟨h1, h2⟩ | ⟨h1, h2⟩
    · rw [hge2 id h1] at hl
      have := hnew id x l h1 h2 hl; omega
    · rw [hlt2 id h1] at hl
      exact hf ⟨id, x, l, h2, hl, rfl⟩
end Go.AM
