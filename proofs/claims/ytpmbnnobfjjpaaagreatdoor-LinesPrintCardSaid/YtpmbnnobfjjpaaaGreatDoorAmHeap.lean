/- The abstract machine: how the heap's relation is kept: new things, stores, things that go. -/
import Derived.Test.YtpmbnnobfjjpaaaGreatDoorAmBase
import Derived.Laws.CopyRow
namespace Go.AM
set_option linter.unusedVariables false
set_option linter.unusedSimpArgs false

def upd (σ : Sig) (id : Nat) (l : Loc) : Sig := fun j => if j = id then some l else σ j
theorem upd_le {σ : Sig} {id : Nat} {l : Loc} (h : σ id = none) : σ.le (upd σ id l) := by
  intro j m hj
  unfold upd
  split
  · rename_i e; subst e; rw [h] at hj; cases hj
  · exact hj
@[simp] theorem upd_self (σ : Sig) (id : Nat) (l : Loc) : upd σ id l id = some l := by simp [upd]

/-- a new thing, in a new block -/
theorem rel_new {σ : Sig} {S S' : AState} {w : World} {o : AObj} {id : Nat} (h : Rel σ S w) (hn : S.new o = some (id, S')) (O : Obj) (l : Loc) (hl : l.block = w.heap.size)
    (ho : ObjRel (upd σ id l) (w.alloc O) l o) : Rel (upd σ id l) S' (w.alloc O) ∧ Ext σ S w (upd σ id l) S' (w.alloc O) := by
  obtain ⟨rfl, hlt, hnx, hget⟩ := AState.new_some hn
  have hσ : σ S.next = none := h.dom _ (Nat.le_refl _)
  have hle := upd_le (l := l) hσ
  have hold : ∀ b, b < w.heap.size → (w.alloc O).heap[b]? = w.heap[b]? := fun b hb => by
    show (w.heap.push O)[b]? = _
    rw [Array.getElem?_push, if_neg (by omega)]
  refine ⟨⟨?_, ?_, ?_, ?_⟩, ⟨by omega, ?_, by simp, ?_, rfl, rfl, rfl⟩⟩
  · intro j hj
    have : j ≠ S.next := by omega
    simp only [upd, if_neg this]
    exact h.dom j (by omega)
  · intro j m hj
    simp only [upd] at hj
    rw [World.size_alloc]
    split at hj
    · cases hj; omega
    · have := h.blk j m hj; omega
  · intro j x hj
    rw [hget] at hj
    split at hj
    · rename_i e; subst e; cases hj; exact ⟨l, by simp, ho⟩
    · rename_i e
      obtain ⟨m, hm, hr⟩ := h.obj j x hj
      exact ⟨m, by simp [upd, e, hm], hr.of_block hle (hold _ (h.blk j m hm))⟩
  · intro j k x y m n hj hk hm hn' hne
    rw [hget] at hj hk
    by_cases ej : j = S.next <;> by_cases ek : k = S.next
    · exact absurd (ej.trans ek.symm) hne
    · simp only [ek, if_false] at hk
      simp only [upd, ej, if_true, Option.some.injEq] at hm
      simp only [upd, ek, if_false] at hn'
      have := h.blk k n hn'
      subst hm; omega
    · simp only [ej, if_false] at hj
      simp only [upd, ek, if_true, Option.some.injEq] at hn'
      simp only [upd, ej, if_false] at hm
      have := h.blk j m hm
      subst hn'; omega
    · simp only [ej, ek, if_false] at hj hk
      simp only [upd, ej, ek, if_false] at hm hn'
      exact h.sep j k x y m n hj hk hm hn' hne
  · intro j hj
    have : j ≠ S.next := by omega
    simp [upd, this]
  · intro b hb hf
    refine ⟨hold b hb, ?_⟩
    rintro ⟨j, x, m, hj, hm, rfl⟩
    rw [hget] at hj
    by_cases ej : j = S.next
    · simp only [upd, ej, if_true, Option.some.injEq] at hm
      subst hm; omega
    · simp only [ej, if_false] at hj
      simp only [upd, ej, if_false] at hm
      exact hf ⟨j, x, m, hj, hm, rfl⟩

/-- a thing is changed in its place -/
theorem rel_put {σ : Sig} {S : AState} {w w' : World} {o o' : AObj} {id : Nat} {l : Loc} (h : Rel σ S w) (hg : S.get id = some o) (hl : σ id = some l)
    (hsz : w'.heap.size = w.heap.size) (hoth : ∀ b, b ≠ l.block → w'.heap[b]? = w.heap[b]?) (hos : w'.os = w.os) (htp : w'.tape = w.tape) (hout : w'.output = w.output)
    (ho : ObjRel σ w' l o') : Rel σ (S.put id o') w' ∧ Ext σ S w σ (S.put id o') w' := by
  have hget := fun j => AState.get_put S id j o' (AState.get_lt hg)
  refine ⟨⟨h.dom, fun j m hj => by rw [hsz]; exact h.blk j m hj, ?_, ?_⟩, ⟨Nat.le_refl _, fun _ _ => rfl, by omega, ?_, hos, htp, hout⟩⟩
  · intro j x hj
    rw [hget] at hj
    split at hj
    · rename_i e; subst e; cases hj; exact ⟨l, hl, ho⟩
    · rename_i e
      obtain ⟨m, hm, hr⟩ := h.obj j x hj
      exact ⟨m, hm, hr.of_block (Sig.le_refl σ) (hoth _ (h.sep j id x o m l hj hg hm hl e))⟩
  · intro j k x y m n hj hk hm hn hne
    rw [hget] at hj hk
    have hj' : ∃ x', S.get j = some x' := by
      split at hj
      · rename_i e; subst e; exact ⟨o, hg⟩
      · exact ⟨x, hj⟩
    have hk' : ∃ y', S.get k = some y' := by
      split at hk
      · rename_i e; subst e; exact ⟨o, hg⟩
      · exact ⟨y, hk⟩
    obtain ⟨x', hx⟩ := hj'
    obtain ⟨y', hy⟩ := hk'
    exact h.sep j k x' y' m n hx hy hm hn hne
  · intro b _ hf
    have hb : b ≠ l.block := fun e => hf ⟨id, o, l, hg, hl, e.symm⟩
    refine ⟨hoth b hb, ?_⟩
    rintro ⟨j, x, m, hj, hm, rfl⟩
    rw [hget] at hj
    split at hj
    · rename_i e; subst e; rw [hl] at hm; cases hm; exact hb rfl
    · exact hf ⟨j, x, m, hj, hm, rfl⟩

/-- a thing goes -/
theorem rel_kill {σ : Sig} {S : AState} {w w' : World} {o : AObj} {id : Nat} {l : Loc} (h : Rel σ S w) (hg : S.get id = some o) (hl : σ id = some l)
    (hsz : w'.heap.size = w.heap.size) (hoth : ∀ b, b ≠ l.block → w'.heap[b]? = w.heap[b]?) (hos : w'.os = w.os) (htp : w'.tape = w.tape) (hout : w'.output = w.output) :
    Rel σ (S.kill id) w' ∧ Ext σ S w σ (S.kill id) w' := by
  have hget := fun j => AState.get_kill S id j (AState.get_lt hg)
  have hold : ∀ j x, (S.kill id).get j = some x → j ≠ id ∧ S.get j = some x := by
    intro j x hj
    rw [hget] at hj
    split at hj
    · cases hj
    · rename_i e; exact ⟨e, hj⟩
  refine ⟨⟨h.dom, fun j m hj => by rw [hsz]; exact h.blk j m hj, ?_, ?_⟩, ⟨Nat.le_refl _, fun _ _ => rfl, by omega, ?_, hos, htp, hout⟩⟩
  · intro j x hj
    obtain ⟨e, hj⟩ := hold j x hj
    obtain ⟨m, hm, hr⟩ := h.obj j x hj
    exact ⟨m, hm, hr.of_block (Sig.le_refl σ) (hoth _ (h.sep j id x o m l hj hg hm hl e))⟩
  · intro j k x y m n hj hk hm hn hne
    exact h.sep j k x y m n (hold j x hj).2 (hold k y hk).2 hm hn hne
  · intro b _ hf
    have hb : b ≠ l.block := fun e => hf ⟨id, o, l, hg, hl, e.symm⟩
    refine ⟨hoth b hb, ?_⟩
    rintro ⟨j, x, m, hj, hm, rfl⟩
    exact hf ⟨j, x, m, (hold j x hj).2, hm, rfl⟩

/-- a thing goes, and another one takes over its block -/
theorem rel_over {σ : Sig} {S S' : AState} {w w' : World} {o o' : AObj} {id id' : Nat} {l l' : Loc} (h : Rel σ S w) (hg : S.get id = some o) (hl : σ id = some l)
    (hn : (S.kill id).new o' = some (id', S')) (hl' : l'.block = l.block)
    (hsz : w'.heap.size = w.heap.size) (hoth : ∀ b, b ≠ l.block → w'.heap[b]? = w.heap[b]?) (hos : w'.os = w.os) (htp : w'.tape = w.tape) (hout : w'.output = w.output)
    (ho : ObjRel (upd σ id' l') w' l' o') : Rel (upd σ id' l') S' w' ∧ Ext σ S w (upd σ id' l') S' w' := by
  obtain ⟨rfl, hlt, hnx, hget0⟩ := AState.new_some hn
  have hget : ∀ j, S'.get j = if j = S.next then some o' else (S.kill id).get j := fun j => by
    by_cases e : j = S.next
    · rw [if_pos e]; have := hget0 j; rwa [if_pos (show j = (S.kill id).next from e)] at this
    · rw [if_neg e]; have := hget0 j; rwa [if_neg (show ¬ j = (S.kill id).next from e)] at this
  simp only [AState.next_kill] at hlt hnx ho ⊢
  have hσ : σ S.next = none := h.dom _ (Nat.le_refl _)
  have hle := upd_le (l := l') hσ
  have hgk := fun j => AState.get_kill S id j (AState.get_lt hg)
  have hold : ∀ j x, j ≠ S.next → S'.get j = some x → j ≠ id ∧ S.get j = some x := by
    intro j x hne hj
    rw [hget, if_neg hne, hgk] at hj
    split at hj
    · cases hj
    · rename_i e; exact ⟨e, hj⟩
  refine ⟨⟨?_, ?_, ?_, ?_⟩, ⟨by omega, ?_, by omega, ?_, hos, htp, hout⟩⟩
  · intro j hj
    have : j ≠ S.next := by omega
    simp only [upd, if_neg this]
    exact h.dom j (by omega)
  · intro j m hj
    simp only [upd] at hj
    rw [hsz]
    split at hj
    · cases hj; rw [hl']; exact h.blk id l hl
    · exact h.blk j m hj
  · intro j x hj
    by_cases e : j = S.next
    · subst e
      rw [hget, if_pos rfl] at hj
      cases hj
      exact ⟨l', by simp, ho⟩
    · obtain ⟨e2, hj2⟩ := hold j x e hj
      obtain ⟨m, hm, hr⟩ := h.obj j x hj2
      exact ⟨m, by simp [upd, e, hm], hr.of_block hle (hoth _ (h.sep j id x o m l hj2 hg hm hl e2))⟩
  · intro j k x y m n hj hk hm hn' hne
    by_cases ej : j = S.next <;> by_cases ek : k = S.next
    · exact absurd (ej.trans ek.symm) hne
    · obtain ⟨e2, hk2⟩ := hold k y ek hk
      simp only [upd, ej, if_true, Option.some.injEq] at hm
      simp only [upd, ek, if_false] at hn'
      subst hm
      rw [hl']
      exact h.sep id k o y l n hg hk2 hl hn' (Ne.symm e2)
    · obtain ⟨e2, hj2⟩ := hold j x ej hj
      simp only [upd, ek, if_true, Option.some.injEq] at hn'
      simp only [upd, ej, if_false] at hm
      subst hn'
      rw [hl']
      exact h.sep j id x o m l hj2 hg hm hl e2
    · obtain ⟨_, hj2⟩ := hold j x ej hj
      obtain ⟨_, hk2⟩ := hold k y ek hk
      simp only [upd, ej, ek, if_false] at hm hn'
      exact h.sep j k x y m n hj2 hk2 hm hn' hne
  · intro j hj
    have : j ≠ S.next := by omega
    simp [upd, this]
  · intro b _ hf
    have hb : b ≠ l.block := fun e => hf ⟨id, o, l, hg, hl, e.symm⟩
    refine ⟨hoth b hb, ?_⟩
    rintro ⟨j, x, m, hj, hm, rfl⟩
    by_cases ej : j = S.next
    · simp only [upd, ej, if_true, Option.some.injEq] at hm
      subst hm; exact hb hl'
    · obtain ⟨_, hj2⟩ := hold j x ej hj
      simp only [upd, ej, if_false] at hm
      exact hf ⟨j, x, m, hj2, hm, rfl⟩

/-! ### cells -/
theorem add_mk (b o n : Nat) : (⟨b, o, none⟩ : Addr).add n = ⟨b, o + n, none⟩ := by unfold Addr.add; split <;> simp_all

theorem cell_of_block {w : World} {b o : Nat} {C : Array Value} {t : TypeId} {fz : Nat × Nat} (h : w.heap[b]? = some (.cells C t fz)) : w.cell? ⟨b, o, none⟩ = C[o]? := by
  simp [World.cell?, h]

/-- the cells that a row's relation gives -/
theorem row_cells {σ : Sig} {S : AState} {w : World} {id off n : Nat} {cells : List AV} {esz : Nat} {elem : TypeId} {exact : Bool} (h : Rel σ S w)
    (hg : S.get id = some (.row cells esz elem exact)) {l : Loc} (hl : σ id = some l) (hb : off + n ≤ cells.length) :
    ∃ us, concL σ ((cells.drop off).take n) = some us ∧ us.length = n ∧ ∀ j v, us[j]? = some v → w.cell? ((⟨l.block, l.off + off, none⟩ : Addr).add j) = some v := by
  obtain ⟨l', hl', C, fz, h1, _, ⟨us, h3, h4⟩, _⟩ := h.obj id _ hg
  rw [hl] at hl'; cases hl'
  have hlen := concL_length h3
  refine ⟨(us.drop off).take n, concL_take n (concL_drop off h3), by simp; omega, fun j v hj => ?_⟩
  rw [add_mk, cell_of_block h1]
  have hjn : j < n := by
    rcases Nat.lt_or_ge j n with h' | h'
    · exact h'
    · simp [List.getElem?_take, Nat.not_lt.2 h'] at hj
  rw [List.getElem?_take, if_pos hjn, List.getElem?_drop] at hj
  have := h4 (off + j) v hj
  rwa [← Nat.add_assoc] at this

theorem isAgg_run {P : Program} {w : World} {t : TypeId} {b : Bool} (h : isAggT P t = some b) : (isAgg t).run P w = .ok b w := by
  unfold isAggT at h
  unfold isAgg underlying
  simp only [Sem.run_bind, run_program, Result.andThen_ok]
  cases hu : P.underlying t with
  | none => rw [hu] at h; cases h
  | some d =>
    rw [hu] at h
    cases d <;> simp at h <;> subst h <;> rfl

theorem sizeOf_run {P : Program} {w : World} {t : TypeId} {n : Nat} (h : sizeT P t = some n) : (sizeOf t).run P w = .ok n w := by
  unfold sizeT at h
  unfold sizeOf typeInfo
  simp only [Sem.run_bind, run_program, Result.andThen_ok]
  cases hu : P.info? t with
  | none => rw [hu] at h; cases h
  | some i => rw [hu] at h; simp at h; subst h; rfl

theorem zeroValue_run {P : Program} {w : World} {t : TypeId} {z : AV} (h : zeroT P t = some z) : ∃ v, z = .lit v ∧ (zeroValue t).run P w = .ok v w := by
  unfold zeroT at h
  unfold zeroValue typeInfo
  simp only [Sem.run_bind, run_program, Result.andThen_ok]
  cases hu : P.info? t with
  | none => rw [hu] at h; cases h
  | some i =>
    rw [hu] at h
    simp only at h ⊢
    cases hz : i.zero with
    | none => rw [hz] at h; cases h
    | some v => rw [hz] at h; cases h; exact ⟨v, rfl, by simp [hz]⟩

theorem underlying_run {P : Program} {w : World} {t : TypeId} {d : TypeDesc} (h : P.underlying t = some d) : (underlying t).run P w = .ok d w := by
  unfold underlying
  simp [h]

theorem obind_some {α β : Type} {x : Option α} {f : α → Option β} {b : β} : obind x f = some b ↔ ∃ a, x = some a ∧ f a = some b := by
  cases x <;> simp [obind]

/-- LOAD -/
theorem load_ok {P : Program} {σ : Sig} {S : AState} {w : World} {t : TypeId} {a v : AV} {u : Value} (h : Rel σ S w) (ha : conc σ a = some u) (hv : aLoad P S t a = some v) :
    ∃ x, conc σ v = some x ∧ (Instr.loadAt t u).run P w = .ok x w := by
  unfold aLoad at hv
  cases a with
  | ptr id off =>
    simp only at hv
    simp only [conc] at ha
    split at ha
    · rename_i l hl
      cases ha
      split at hv
      · rename_i cells esz el ex hg
        split at hv
        · rename_i hagg
          obtain ⟨n, hn, hv⟩ := obind_some.1 hv
          split at hv
          · rename_i hb
            cases hv
            obtain ⟨us, h1, h2, h3⟩ := row_cells h hg hl hb
            refine ⟨.agg us.toArray, by simp [conc, h1], ?_⟩
            have hc := run_loadCells_list (P := P) (w := w) ⟨l.block, l.off + off, none⟩ us h3
            rw [h2] at hc
            simp [Instr.loadAt, Instr.sureAddr, loadVar, isAgg_run hagg, sizeOf_run hn, hc]
          · cases hv
        · rename_i hagg
          have hlt : off < cells.length := by
            rcases Nat.lt_or_ge off cells.length with h' | h'
            · exact h'
            · rw [List.getElem?_eq_none h'] at hv; cases hv
          obtain ⟨us, h1, h2, h3⟩ := row_cells (off := off) (n := 1) h hg hl (by omega)
          have hv1 : ((cells.drop off).take 1)[0]? = some v := by simp [List.getElem?_drop, hv]
          obtain ⟨x, hx, hcx⟩ := concL_get h1 0 v hv1
          refine ⟨x, hcx, ?_⟩
          have := h3 0 x hx
          rw [add_mk, Nat.add_zero] at this
          simp [Instr.loadAt, Instr.sureAddr, loadVar, isAgg_run hagg, run_load, this]
        · cases hv
      · cases hv
    · cases ha
  | _ => simp at hv

end Go.AM
