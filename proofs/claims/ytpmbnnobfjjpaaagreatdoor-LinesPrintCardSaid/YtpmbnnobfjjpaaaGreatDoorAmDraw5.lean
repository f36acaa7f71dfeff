/- The abstract machine: drawn regions: whatever the order. -/
import Derived.Test.YtpmbnnobfjjpaaaGreatDoorAmDraw4
import Derived.OrdersIn
namespace Go.AM
set_option linter.unusedVariables false
set_option linter.unusedSimpArgs false

theorem dops_inv {E : Env} {R : Recs} {all : List Oper} {fr0 : AFr} {S0 : AState} {D' : DR} : ∀ (os : List Oper) (k : Nat) (D : DR), DInv E R all fr0 S0 k D → all.drop k = os → dops E R all k os D = some D' → DInv E R all fr0 S0 all.length D'
  | [], k, D, h, hd, hs => by
    simp only [dops] at hs; cases hs
    have h1 : k ≤ all.length := by
      have := congrArg List.length h.b.ops
      rw [List.length_map, h.b.len, List.length_take] at this
      omega
    have h2 : all.length ≤ k := List.drop_eq_nil_iff.1 hd
    have : k = all.length := by omega
    rw [← this]; exact h
  | o :: r, k, D, h, hd, hs => by
    simp only [dops] at hs
    split at hs
    · rename_i D1 h1
      have ho : all[k]? = some o := by
        have : (all.drop k)[0]? = some o := by rw [hd]; rfl
        simpa using this
      refine dops_inv r (k + 1) D1 (dstep_inv h ho h1) ?_ hs
      have := congrArg List.tail hd
      simpa using this
    · cases hs

theorem dinv_start {E : Env} {R : Recs} {all : List Oper} {fr : AFr} {S : AState} (hs : fr.size ≤ 512) :
    DInv E R all fr S 0 { base := S.next, lim := S.next + countNew all, fr, chain := [{ S with next := S.next + countNew all }], news := [], writers := [], ents := [] } := by
  refine ⟨⟨by simp, by simp, hs, rfl, rfl, fun _ _ => rfl, ?_, ?_, ?_, ?_, ?_, ?_⟩, ⟨rfl, rfl, rfl, ?_, by simp, ?_, ⟨?_, ?_⟩, ?_, ?_, ?_, ?_, ?_, ?_⟩, ?_⟩ <;> intro x hx <;> cases hx

/-- where a run of the region stands: the operations in L are behind it -/
structure LInv (all : List Oper) (fr0 : AFr) (S0 : AState) (D : DR) (σ0 : Sig) (w0 : World) (L : Nat → Bool) (frL : AFr) (σ : Sig) (w : World) (a : Act) (A S : AState) (c : Nat) : Prop where
  dom : ∀ i, L i = true → i < all.length
  closed : ∀ e ∈ D.ents, L e.ix = true → ∀ j ∈ e.bef, L j = true
  le : c ≤ D.writers.length
  done : ∀ i ∈ D.writers.take c, L i = true
  todo : ∀ i ∈ D.writers.drop c, L i = false
  chain : D.chain[c]? = some S
  a1 : ∀ d ∈ D.news, L d.ix = true → pend d c → A.get d.id = some d.obj
  a2 : ∀ id, (∀ d ∈ D.news, L d.ix = true → pend d c → d.id ≠ id) → A.get id = S.get id
  next : A.next = S.next
  lim : D.lim ≤ A.next
  rel : Rel σ A w
  fr : FrRel σ frL a
  got : ∀ t, (∃ e ∈ D.ents, L e.ix = true ∧ e.op.dst = some t) → frL.get t = D.fr.get t
  left : ∀ t, (∀ e ∈ D.ents, L e.ix = true → e.op.dst ≠ some t) → frL.get t = fr0.get t
  size : frL.size = fr0.size
  dfs : frL.defers = fr0.defers
  out : ∀ d ∈ D.news, L d.ix = false → σ d.id = none
  ext : Ext σ0 S0 w0 σ A w

def more (L : Nat → Bool) (i : Nat) : Nat → Bool := fun j => L j || j == i

section
variable {E : Env} {R : Recs} {all : List Oper} {fr0 frL : AFr} {S0 A S : AState} {D : DR} {σ0 σ : Sig} {w0 w : World} {L : Nat → Bool} {a : Act} {c : Nat} {e : Ent}

theorem ent_uniq (hD : DInv E R all fr0 S0 all.length D) {x y : Ent} (hx : x ∈ D.ents) (hy : y ∈ D.ents) (h : x.ix = y.ix) : x = y := by
  have h1 := (hD.b.at_ix hx).1
  have h2 := (hD.b.at_ix hy).1
  rw [h] at h1
  rw [h1] at h2
  exact Option.some.inj h2

/-- what the operation looks at -/
theorem agree_now (hD : DInv E R all fr0 S0 all.length D) (h : LInv all fr0 S0 D σ0 w0 L frL σ w a A S c) (he : e ∈ D.ents) (hb : ∀ j ∈ e.bef, L j = true) : ∀ t ∈ e.tmps, frL.get t = D.fr.get t := by
  intro t ht
  by_cases hx : ∃ x ∈ D.ents, x.op.dst = some t
  · obtain ⟨x, h1, h2⟩ := hx
    exact h.got t ⟨x, h1, hb _ (hD.b.reads e he x h1 t h2 ht), h2⟩
  · have hno : ∀ x ∈ D.ents, x.op.dst ≠ some t := fun x h1 h2 => hx ⟨x, h1, h2⟩
    rw [h.left t fun x h1 _ => hno x h1, hD.b.un t hno]

/-- the frame behind the operation -/
theorem frames_next (hD : DInv E R all fr0 S0 all.length D) (h : LInv all fr0 S0 D σ0 w0 L frL σ w a A S c) (he : e ∈ D.ents) :
    (∀ t, (∃ x ∈ D.ents, more L e.ix x.ix = true ∧ x.op.dst = some t) → (frL.put e.op.dst e.val).get t = D.fr.get t) ∧
    (∀ t, (∀ x ∈ D.ents, more L e.ix x.ix = true → x.op.dst ≠ some t) → (frL.put e.op.dst e.val).get t = fr0.get t) := by
  have hfs : frL.size ≤ 512 := by rw [h.size]; exact hD.b.small
  have hself : ∀ t, e.op.dst = some t → (frL.put e.op.dst e.val).get t = D.fr.get t := by
    intro t ht
    rw [ht, AFr.get_put frL t t e.val hfs]
    by_cases hs : t < frL.size
    · rw [if_pos ⟨rfl, hs⟩, hD.b.vals e he t ht (by rw [← h.size]; exact hs)]
    · rw [if_neg (fun k => hs k.2)]
      have hs2 : ¬ t < D.fr.size := by rw [hD.b.size, ← h.size]; exact hs
      simp [AFr.get, hs, hs2]
  have hother : ∀ t, e.op.dst ≠ some t → (frL.put e.op.dst e.val).get t = frL.get t := by
    intro t ht
    cases hd : e.op.dst with
    | none => rfl
    | some d =>
      rw [AFr.get_put frL d t e.val hfs, if_neg]
      rintro ⟨rfl, _⟩
      exact ht hd
  refine ⟨fun t hx => ?_, fun t hx => ?_⟩
  · by_cases ht : e.op.dst = some t
    · exact hself t ht
    · rw [hother t ht]
      obtain ⟨x, h1, h2, h3⟩ := hx
      refine h.got t ⟨x, h1, ?_, h3⟩
      simp only [more, Bool.or_eq_true, beq_iff_eq] at h2
      rcases h2 with h2 | h2
      · exact h2
      · obtain rfl := ent_uniq hD h1 he h2
        exact absurd h3 ht
  · have ht : e.op.dst ≠ some t := hx e he (by simp [more])
    rw [hother t ht]
    exact h.left t fun x h1 h2 => hx x h1 (by simp [more, h2])

theorem not_new (hD : DInv E R all fr0 S0 all.length D) (he : e ∈ D.ents) (hk : e.kind ≠ .new) {d : DNew} (hd : d ∈ D.news) : d.ix ≠ e.ix := by
  intro h
  obtain ⟨x, h1, h2, h3⟩ := hD.h.nix d hd
  obtain rfl := ent_uniq hD h1 he (h2.trans h)
  exact hk h3
theorem not_writer (hD : DInv E R all fr0 S0 all.length D) (he : e ∈ D.ents) (hk : e.kind ≠ .write) : e.ix ∉ D.writers := fun h => hk (hD.h.wk e he h)

/-- the operation is behind us; it has written nothing -/
theorem next_still (hD : DInv E R all fr0 S0 all.length D) (h : LInv all fr0 S0 D σ0 w0 L frL σ w a A S c) (he : e ∈ D.ents) (hb : ∀ j ∈ e.bef, L j = true) (hk1 : e.kind ≠ .new) (hk2 : e.kind ≠ .write)
    {σ' : Sig} {w' : World} {a' : Act} (hr : Rel σ' A w') (hf : FrRel σ' (frL.put e.op.dst e.val) a') (hx : Ext σ A w σ' A w') : LInv all fr0 S0 D σ0 w0 (more L e.ix) (frL.put e.op.dst e.val) σ' w' a' A S c := by
  obtain ⟨f1, f2⟩ := frames_next hD h he
  have hm : ∀ d ∈ D.news, more L e.ix d.ix = L d.ix := fun d hd => by
    have := not_new hD he hk1 hd
    simp [more, this]
  refine ⟨?_, ?_, h.le, ?_, ?_, h.chain, ?_, ?_, h.next, h.lim, hr, hf, f1, f2, by simpa using h.size, by simpa using h.dfs, ?_, h.ext.trans hx⟩
  · intro i hi
    simp only [more, Bool.or_eq_true, beq_iff_eq] at hi
    rcases hi with hi | rfl
    · exact h.dom i hi
    · exact (hD.b.at_ix he).2
  · intro x hx' hL j hj
    simp only [more, Bool.or_eq_true, beq_iff_eq] at hL ⊢
    rcases hL with hL | hL
    · exact .inl (h.closed x hx' hL j hj)
    · obtain rfl := ent_uniq hD hx' he hL
      exact .inl (hb j hj)
  · intro i hi; simp [more, h.done i hi]
  · intro i hi
    have : i ≠ e.ix := by rintro rfl; exact not_writer hD he hk2 (List.mem_of_mem_drop hi)
    simp [more, h.todo i hi, this]
  · intro d hd hL; rw [hm d hd] at hL; exact h.a1 d hd hL
  · intro id hid; exact h.a2 id fun d hd hL => hid d hd (by rw [hm d hd]; exact hL)
  · intro d hd hL
    rw [hm d hd] at hL
    rw [hx.same d.id (Nat.lt_of_lt_of_le (hD.h.nid d hd).2.1 h.lim)]
    exact h.out d hd hL

/-- the part of the heap that the operation sees -/
theorem small_sub (hD : DInv E R all fr0 S0 all.length D) (h : LInv all fr0 S0 D σ0 w0 L frL σ w a A S c) (hb : ∀ j ∈ e.bef, L j = true) :
    (∀ id o, (plus S (seenNews e.bef c D.news)).get id = some o → A.get id = some o) ∧ (plus S (seenNews e.bef c D.news)).next = A.next := by
  refine ⟨fun id o ho => ?_, by rw [plus_next, h.next]⟩
  by_cases hc : ∃ d ∈ D.news, d.ix ∈ e.bef ∧ pend d c ∧ d.id = id
  · obtain ⟨d, h1, h2, h3, rfl⟩ := hc
    rw [seen_get hD.h.news h1 h2 h3] at ho
    rw [h.a1 d h1 (hb _ h2) h3]; exact ho
  · rw [seen_none hD.h.news fun d h1 h2 h3 h4 => hc ⟨d, h1, h2, h3, h4⟩] at ho
    rw [h.a2 id]
    · exact ho
    · rintro d h1 _ h3 rfl
      rw [hD.h.fresh d h1 c S h.chain h3] at ho; cases ho

end

end Go.AM
