/- The abstract machine: drawn regions: what is known of a region behind so many operations. -/
import Derived.Test.YtpmbnnobfjjpaaaGreatDoorAmDraw2
namespace Go.AM
set_option linter.unusedVariables false
set_option linter.unusedSimpArgs false

theorem mem_uni : ∀ {a b : List Nat} {j : Nat}, j ∈ uni a b → j ∈ a ∨ j ∈ b
  | [], b, j, h => .inr h
  | x :: r, b, j, h => by
    simp only [uni] at h
    split at h
    · rcases mem_uni h with h | h
      · exact .inl (List.mem_cons_of_mem _ h)
      · exact .inr h
    · rcases mem_uni h with h | h
      · exact .inl (List.mem_cons_of_mem _ h)
      · rcases List.mem_cons.1 h with rfl | h
        · exact .inl (by simp)
        · exact .inr h

theorem befAll_spec {ents : List Ent} : ∀ {eds : List Edge} {bef : List Nat}, befAll ents eds = some bef →
    (∀ ed ∈ eds, Region.binds .any ed = true → ∃ x, ents[ed.on]? = some x) ∧ ∀ j ∈ bef, ∃ ed ∈ eds, Region.binds .any ed = true ∧ (ed.on = j ∨ ∃ x, ents[ed.on]? = some x ∧ j ∈ x.bef)
  | [], bef, h => by
    simp only [befAll] at h; cases h
    exact ⟨fun _ h => (by cases h), fun _ h => (by cases h)⟩
  | e :: r, bef, h => by
    simp only [befAll] at h
    split at h
    · cases h
    · rename_i l hl
      obtain ⟨h1, h2⟩ := befAll_spec hl
      split at h
      · rename_i hb
        split at h
        · rename_i x hx
          cases h
          refine ⟨fun ed hed hbd => ?_, fun j hj => ?_⟩
          · rcases List.mem_cons.1 hed with rfl | hed
            · exact ⟨x, hx⟩
            · exact h1 ed hed hbd
          · rcases mem_uni hj with hj | hj
            · rcases List.mem_cons.1 hj with rfl | hj
              · exact ⟨e, by simp, hb, .inl rfl⟩
              · exact ⟨e, by simp, hb, .inr ⟨x, hx, hj⟩⟩
            · obtain ⟨ed, k1, k2⟩ := h2 j hj; exact ⟨ed, List.mem_cons_of_mem _ k1, k2⟩
        · cases h
      · rename_i hb
        cases h
        refine ⟨fun ed hed hbd => ?_, fun j hj => ?_⟩
        · rcases List.mem_cons.1 hed with rfl | hed
          · exact absurd hbd hb
          · exact h1 ed hed hbd
        · obtain ⟨ed, k1, k2⟩ := h2 j hj; exact ⟨ed, List.mem_cons_of_mem _ k1, k2⟩

/-- the frames, the order -/
structure DBase (all : List Oper) (fr0 : AFr) (k : Nat) (ents : List Ent) (fr : AFr) : Prop where
  ops : ents.map (·.op) = all.take k
  ixs : ents.map (·.ix) = List.range k
  small : fr0.size ≤ 512
  size : fr.size = fr0.size
  dfs : fr.defers = fr0.defers
  un : ∀ t, (∀ e ∈ ents, e.op.dst ≠ some t) → fr.get t = fr0.get t
  vals : ∀ e ∈ ents, ∀ d, e.op.dst = some d → d < fr0.size → fr.get d = e.val
  tm : ∀ e ∈ ents, e.tmps = operTmps e.op.op.operands.toList ++ guardTmps all e.op
  reads : ∀ e ∈ ents, ∀ e' ∈ ents, ∀ d, e'.op.dst = some d → d ∈ e.tmps → e'.ix ∈ e.bef
  after : ∀ e ∈ ents, ∀ ed ∈ e.op.after.toList, Region.binds .any ed = true → ed.on < e.ix
  befs : ∀ e ∈ ents, ∀ j ∈ e.bef, ∃ ed ∈ e.op.after.toList, Region.binds .any ed = true ∧ (ed.on = j ∨ ∃ e' ∈ ents, e'.ix = ed.on ∧ j ∈ e'.bef)
  beflt : ∀ e ∈ ents, ∀ j ∈ e.bef, j < e.ix

theorem DBase.len {all : List Oper} {fr0 fr : AFr} {k : Nat} {ents : List Ent} (h : DBase all fr0 k ents fr) : ents.length = k := by
  have := congrArg List.length h.ixs
  simpa using this
theorem DBase.ix_of {all : List Oper} {fr0 fr : AFr} {k : Nat} {ents : List Ent} (h : DBase all fr0 k ents fr) {i : Nat} {e : Ent} (he : ents[i]? = some e) : e.ix = i ∧ i < k := by
  have hlt : i < ents.length := by
    rcases Nat.lt_or_ge i ents.length with h' | h'
    · exact h'
    · rw [List.getElem?_eq_none h'] at he; cases he
  have hk : i < k := by rw [← h.len]; exact hlt
  have : (ents.map (·.ix))[i]? = some e.ix := by simp [he]
  rw [h.ixs, List.getElem?_range hk] at this
  exact ⟨(Option.some.inj this).symm, hk⟩
theorem DBase.at_ix {all : List Oper} {fr0 fr : AFr} {k : Nat} {ents : List Ent} (h : DBase all fr0 k ents fr) {e : Ent} (he : e ∈ ents) : ents[e.ix]? = some e ∧ e.ix < k := by
  obtain ⟨i, hi, rfl⟩ := List.mem_iff_getElem.1 he
  have := h.ix_of (List.getElem?_eq_getElem hi)
  rw [this.1]
  exact ⟨List.getElem?_eq_getElem hi, this.2⟩
theorem DBase.op_of {all : List Oper} {fr0 fr : AFr} {k : Nat} {ents : List Ent} (h : DBase all fr0 k ents fr) {e : Ent} (he : e ∈ ents) : all[e.ix]? = some e.op := by
  obtain ⟨h1, h2⟩ := h.at_ix he
  have : (ents.map (·.op))[e.ix]? = some e.op := by simp [h1]
  rw [h.ops, List.getElem?_take, if_pos h2] at this
  exact this

theorem base_step {all : List Oper} {fr0 fr : AFr} {k : Nat} {ents : List Ent} (h : DBase all fr0 k ents fr) {o : Oper} (ho : all[k]? = some o) {bef : List Nat} (hb : befAll ents o.after.toList = some bef)
    (ht : tmpsOk bef (operTmps o.op.operands.toList ++ guardTmps all o) o.dst ents = true) (kind : DKind) (v : AV) :
    DBase all fr0 (k + 1) (ents ++ [{ ix := k, op := o, bef, tmps := operTmps o.op.operands.toList ++ guardTmps all o, kind, val := v }]) (fr.put o.dst v) ∧
      (∀ e ∈ ents, ∀ t ∈ e.tmps, (fr.put o.dst v).get t = fr.get t) ∧ ∀ t ∈ operTmps o.op.operands.toList ++ guardTmps all o, (fr.put o.dst v).get t = fr.get t := by
  simp only [tmpsOk, Bool.and_eq_true, List.all_eq_true] at ht
  obtain ⟨ht1, ht2⟩ := ht
  obtain ⟨hb1, hb2⟩ := befAll_spec hb
  have hklen : k < all.length := by
    rcases Nat.lt_or_ge k all.length with h' | h'
    · exact h'
    · rw [List.getElem?_eq_none h'] at ho; cases ho
  have hfs : fr.size ≤ 512 := by rw [h.size]; exact h.small
  have hne : ∀ t, o.dst ≠ some t → (fr.put o.dst v).get t = fr.get t := by
    intro t hne
    cases hd : o.dst with
    | none => rfl
    | some d =>
      rw [AFr.get_put fr d t v hfs, if_neg]
      rintro ⟨rfl, _⟩
      exact hne hd
  have hold : ∀ e ∈ ents, ∀ d, o.dst = some d → d ∉ e.tmps ∧ e.op.dst ≠ some d := by
    intro e he d hd
    rw [hd] at ht2
    simp only [Bool.and_eq_true, List.all_eq_true] at ht2
    have := ht2.2 e he
    simpa using this
  have hself : ∀ d, o.dst = some d → d ∉ operTmps o.op.operands.toList ++ guardTmps all o := by
    intro d hd
    rw [hd] at ht2
    simp only [Bool.and_eq_true] at ht2
    simpa using ht2.1
  have hlt : ∀ j ∈ bef, j < k := by
    intro j hj
    obtain ⟨ed, _, _, h3⟩ := hb2 j hj
    rcases h3 with rfl | ⟨x, hx, hjx⟩
    · obtain ⟨x, hx⟩ := hb1 ed ‹_› ‹_›; exact (h.ix_of hx).2
    · have h1 := h.ix_of hx
      have := h.beflt x (List.mem_of_getElem? hx) j hjx
      omega
  refine ⟨⟨?_, ?_, h.small, by simpa using h.size, by simpa using h.dfs, ?_, ?_, ?_, ?_, ?_, ?_, ?_⟩, ?_, ?_⟩
  · rw [List.map_append, h.ops, List.take_add_one, ho]; rfl
  · rw [List.map_append, h.ixs, List.range_succ]; rfl
  · intro t hall
    have hd : o.dst ≠ some t := hall { ix := k, op := o, bef, tmps := operTmps o.op.operands.toList ++ guardTmps all o, kind, val := v } (List.mem_append.2 (.inr (by simp)))
    rw [hne t hd]
    exact h.un t fun e he => hall e (List.mem_append.2 (.inl he))
  · intro e he d hd hsz
    rcases List.mem_append.1 he with he | he
    · rw [hne d fun e' => (hold e he d e').2 hd]
      exact h.vals e he d hd hsz
    · simp only [List.mem_singleton] at he
      subst he
      simp only at hd ⊢
      rw [hd, AFr.get_put fr d d v hfs, if_pos ⟨rfl, by rw [h.size]; exact hsz⟩]
  · intro e he
    rcases List.mem_append.1 he with he | he
    · exact h.tm e he
    · simp only [List.mem_singleton] at he; subst he; rfl
  · intro e he e' he' d hd hdt
    rcases List.mem_append.1 he with he | he <;> rcases List.mem_append.1 he' with he' | he'
    · exact h.reads e he e' he' d hd hdt
    · simp only [List.mem_singleton] at he'; subst he'
      exact absurd hdt (hold e he d hd).1
    · simp only [List.mem_singleton] at he; subst he
      have := ht1 e' he'
      rw [hd] at this
      simp only [Bool.or_eq_true, Bool.not_eq_true', List.contains_iff_mem] at this
      rcases this with h' | h'
      · have : (operTmps o.op.operands.toList ++ guardTmps all o).contains d = true := List.contains_iff_mem.2 hdt
        rw [h'] at this; cases this
      · exact h'
    · simp only [List.mem_singleton] at he he'; subst he; subst he'
      exact absurd hdt (hself d hd)
  · intro e he ed hed hbd
    rcases List.mem_append.1 he with he | he
    · exact h.after e he ed hed hbd
    · simp only [List.mem_singleton] at he; subst he
      obtain ⟨x, hx⟩ := hb1 ed hed hbd
      exact (h.ix_of hx).2
  · intro e he j hj
    rcases List.mem_append.1 he with he | he
    · obtain ⟨ed, k1, k2, k3⟩ := h.befs e he j hj
      refine ⟨ed, k1, k2, ?_⟩
      rcases k3 with k3 | ⟨e', k4, k5⟩
      · exact .inl k3
      · exact .inr ⟨e', by simp [k4], k5⟩
    · simp only [List.mem_singleton] at he; subst he
      obtain ⟨ed, k1, k2, k3⟩ := hb2 j hj
      refine ⟨ed, k1, k2, ?_⟩
      rcases k3 with k3 | ⟨x, hx, k5⟩
      · exact .inl k3
      · exact .inr ⟨x, by simp [List.mem_of_getElem? hx], (h.ix_of hx).1, k5⟩
  · intro e he j hj
    rcases List.mem_append.1 he with he | he
    · exact h.beflt e he j hj
    · simp only [List.mem_singleton] at he; subst he
      exact hlt j hj
  · intro e he t ht
    exact hne t fun hd => (hold e he t hd).1 ht
  · intro t ht
    exact hne t fun hd => hself t hd ht

/-! ### the heaps -/
structure DHeap (S0 : AState) (k : Nat) (D : DR) : Prop where
  base : D.base = S0.next
  chain0 : D.chain[0]? = some { S0 with next := D.lim }
  len : D.chain.length = D.writers.length + 1
  wr : ∀ i ∈ D.writers, i < k
  wnd : D.writers.Nodup
  wk : ∀ e ∈ D.ents, e.ix ∈ D.writers → e.kind = .write
  news : NewsOk D.news
  nuq : ∀ d ∈ D.news, ∀ d' ∈ D.news, d.ix = d'.ix → d = d'
  nix : ∀ d ∈ D.news, ∃ e ∈ D.ents, e.ix = d.ix ∧ e.kind = .new
  nid : ∀ d ∈ D.news, D.base ≤ d.id ∧ d.id < D.lim ∧ d.id < D.base + D.news.length
  ngone : ∀ d ∈ D.news, ∀ g, d.gone = some g → ∃ e ∈ D.ents, D.writers[g]? = some e.ix ∧ d.ix ∈ e.bef
  nseen : ∀ d ∈ D.news, ∀ e ∈ D.ents, ∀ p, D.writers[p]? = some e.ix → d.ix ∈ e.bef → ∃ g, g ≤ p ∧ d.gone = some g
  fresh : ∀ d ∈ D.news, ∀ c S, D.chain[c]? = some S → pend d c → S.get d.id = none

def KFact (E : Env) (R : Recs) (all : List Oper) (D : DR) (e : Ent) : Prop :=
  match e.kind with
  | .skip => aWanted all D.fr e.op = false ∧ e.val = undefA
  | .new => aWanted all D.fr e.op = true ∧ isNew e.op.op = true ∧ ∃ d ∈ D.news, d.ix = e.ix ∧ newThing E D.fr e.op d.id = some (e.val, d.obj)
  | .read => aWanted all D.fr e.op = true ∧ ∀ S, aop E D.fr S e.op = some (.val e.val, S)
  | .look => aWanted all D.fr e.op = true ∧ isReader e.op.op = true ∧ ∀ c S, D.chain[c]? = some S → (∀ i ∈ D.writers.drop c, i ∉ e.bef) → (∀ e' ∈ D.ents, e'.ix ∈ D.writers.take c → e.ix ∉ e'.bef) →
      aop E D.fr (plus S (seenNews e.bef c D.news)) e.op = some (.val e.val, plus S (seenNews e.bef c D.news))
  | .write => aWanted all D.fr e.op = true ∧ ∃ p S S', D.writers[p]? = some e.ix ∧ D.chain[p]? = some S ∧ D.chain[p + 1]? = some S' ∧ aoperV E R e.op D.fr (plus S (seenNews e.bef p D.news)) = some (e.val, S') ∧
      ∀ i ∈ D.writers.take p, i ∈ e.bef

structure DInv (E : Env) (R : Recs) (all : List Oper) (fr0 : AFr) (S0 : AState) (k : Nat) (D : DR) : Prop where
  b : DBase all fr0 k D.ents D.fr
  h : DHeap S0 k D
  kind : ∀ e ∈ D.ents, KFact E R all D e

theorem newThing_congr {E : Env} {f g : AFr} {o : Oper} {n : Nat} (h : Agree o.op.operands.toList f g) : newThing E f o n = newThing E g o n := by
  unfold newThing; rw [aop_congr h]

/-- what is known of an operation stays known in another frame that tells the same of what it looks at -/
theorem KFact.frame {E : Env} {R : Recs} {all : List Oper} {D : DR} {e : Ent} (h : KFact E R all D e) (htm : e.tmps = operTmps e.op.op.operands.toList ++ guardTmps all e.op) {fr : AFr} (hf : ∀ t ∈ e.tmps, fr.get t = D.fr.get t) :
    KFact E R all { D with fr := fr } e := by
  have h1 : Agree e.op.op.operands.toList fr D.fr := agree_of fun t ht => hf t (by rw [htm]; simp [ht])
  have h2 : aWanted all fr e.op = aWanted all D.fr e.op := aWanted_congr fun t ht => hf t (by rw [htm]; simp [ht])
  unfold KFact at h ⊢
  cases hk : e.kind <;> rw [hk] at h <;> simp only at h ⊢
  · rw [h2]; exact h
  · rw [h2]
    obtain ⟨k1, k2, d, k3, k4, k5⟩ := h
    exact ⟨k1, k2, d, k3, k4, by rw [newThing_congr h1]; exact k5⟩
  · rw [h2]
    exact ⟨h.1, fun S => by rw [aop_congr h1]; exact h.2 S⟩
  · rw [h2]
    exact ⟨h.1, h.2.1, fun c S k1 k2 k3 => by rw [aop_congr h1]; exact h.2.2 c S k1 k2 k3⟩
  · rw [h2]
    obtain ⟨k1, p, S, S', k2, k3, k4, k5, k6⟩ := h
    exact ⟨k1, p, S, S', k2, k3, k4, by rw [aoperV_congr h1]; exact k5, k6⟩

/-! ### one operation more -/
theorem seen_mark {b bef : List Nat} {c c0 : Nat} (h : c ≤ c0) : ∀ news : List DNew, seenNews b c (markGone bef c0 news) = seenNews b c news
  | [] => rfl
  | d :: r => by
    simp only [markGone, seenNews]
    rw [seen_mark h r]
    by_cases hc : (bef.contains d.ix && d.gone.isNone) = true
    · rw [if_pos hc]
      simp only [Bool.and_eq_true, Option.isNone_iff_eq_none] at hc
      have h1 : pendB { d with gone := some c0 } c = true := by simp [pendB, h]
      have h2 : pendB d c = true := by simp [pendB, hc.2]
      simp only [h1, h2]
    · rw [if_neg hc]

theorem mem_mark {bef : List Nat} {c : Nat} {d' : DNew} : ∀ {news : List DNew}, d' ∈ markGone bef c news →
    ∃ d ∈ news, d'.ix = d.ix ∧ d'.id = d.id ∧ d'.obj = d.obj ∧ ((d' = d ∧ ¬ (d.ix ∈ bef ∧ d.gone = none)) ∨ (d.ix ∈ bef ∧ d.gone = none ∧ d'.gone = some c))
  | [], h => by cases h
  | d :: r, h => by
    simp only [markGone, List.mem_cons] at h
    rcases h with h | h
    · by_cases hc : (bef.contains d.ix && d.gone.isNone) = true
      · rw [if_pos hc] at h
        simp only [Bool.and_eq_true, Option.isNone_iff_eq_none, List.contains_iff_mem] at hc
        subst h
        exact ⟨d, by simp, rfl, rfl, rfl, .inr ⟨hc.1, hc.2, rfl⟩⟩
      · rw [if_neg hc] at h
        simp only [Bool.and_eq_true, Option.isNone_iff_eq_none, List.contains_iff_mem] at hc
        subst h
        exact ⟨d', by simp, rfl, rfl, rfl, .inl ⟨rfl, hc⟩⟩
    · obtain ⟨d0, h1, h2⟩ := mem_mark h
      exact ⟨d0, by simp [h1], h2⟩

theorem mark_mem {bef : List Nat} {c : Nat} {d : DNew} : ∀ {news : List DNew}, d ∈ news → ∃ d' ∈ markGone bef c news, d'.ix = d.ix ∧ d'.id = d.id ∧ d'.obj = d.obj
  | e :: r, h => by
    rcases List.mem_cons.1 h with rfl | h
    · refine ⟨_, List.mem_cons_self, ?_⟩
      split <;> exact ⟨rfl, rfl, rfl⟩
    · obtain ⟨d', h1, h2⟩ := mark_mem (bef := bef) (c := c) h
      exact ⟨d', List.mem_cons_of_mem _ h1, h2⟩

theorem mark_len {bef : List Nat} {c : Nat} : ∀ news : List DNew, (markGone bef c news).length = news.length
  | [] => rfl
  | d :: r => by simp [markGone, mark_len r]

theorem mark_uniq {bef : List Nat} {c : Nat} : ∀ {news : List DNew}, (∀ d ∈ news, ∀ d' ∈ news, d.id = d'.id → d = d') → ∀ d ∈ markGone bef c news, ∀ d' ∈ markGone bef c news, d.id = d'.id → d = d' := by
  intro news hu d hd d' hd' e
  obtain ⟨x, hx, x1, x2, x3, x4⟩ := mem_mark hd
  obtain ⟨y, hy, y1, y2, y3, y4⟩ := mem_mark hd'
  obtain rfl := hu x hx y hy (by rw [← x2, ← y2, e])
  rcases x4 with ⟨rfl, xn⟩ | ⟨xa, xb, xc⟩ <;> rcases y4 with ⟨rfl, yn⟩ | ⟨ya, yb, yc⟩
  · rfl
  · exact absurd ⟨ya, yb⟩ xn
  · exact absurd ⟨xa, xb⟩ yn
  · cases d; cases d'; simp_all

theorem getElem?_snoc {α : Type} {l : List α} {a x : α} {i : Nat} (h : (l ++ [a])[i]? = some x) : l[i]? = some x ∨ (i = l.length ∧ x = a) := by
  rcases Nat.lt_or_ge i l.length with h' | h'
  · rw [List.getElem?_append_left h'] at h; exact .inl h
  · rw [List.getElem?_append_right h'] at h
    rcases Nat.eq_or_lt_of_le h' with e | e
    · subst e; simp at h; exact .inr ⟨rfl, h.symm⟩
    · rw [List.getElem?_eq_none (by simp; omega)] at h; cases h
theorem getElem?_lt {α : Type} {l : List α} {x : α} {i : Nat} (h : l[i]? = some x) : i < l.length := by
  rcases Nat.lt_or_ge i l.length with h' | h'
  · exact h'
  · rw [List.getElem?_eq_none h'] at h; cases h
theorem getElem?_app {α : Type} {l r : List α} {x : α} {i : Nat} (h : l[i]? = some x) : (l ++ r)[i]? = some x := by
  rw [List.getElem?_append_left (getElem?_lt h)]; exact h

/-- the heaps, where nothing but a row of entries grows -/
theorem DHeap.more {S0 : AState} {k : Nat} {D : DR} (h : DHeap S0 k D) {fr : AFr} {e : Ent} (he : e.ix = k) (hk : e.kind ≠ .write) : DHeap S0 (k + 1) { D with fr := fr, ents := D.ents ++ [e] } := by
  have hek : e.ix ∉ D.writers := fun hm => by have := h.wr _ hm; omega
  refine ⟨h.base, h.chain0, h.len, fun i hi => Nat.lt_succ_of_lt (h.wr i hi), h.wnd, ?_, h.news, h.nuq, ?_, h.nid, ?_, ?_, h.fresh⟩
  · intro x hx hw
    rcases List.mem_append.1 hx with hx | hx
    · exact h.wk x hx hw
    · simp only [List.mem_singleton] at hx; subst hx; exact absurd hw hek
  · intro d hd
    obtain ⟨x, h1, h2⟩ := h.nix d hd
    exact ⟨x, List.mem_append.2 (.inl h1), h2⟩
  · intro d hd g hg
    obtain ⟨x, h1, h2⟩ := h.ngone d hd g hg
    exact ⟨x, List.mem_append.2 (.inl h1), h2⟩
  · intro d hd x hx p hp hb
    rcases List.mem_append.1 hx with hx | hx
    · exact h.nseen d hd x hx p hp hb
    · simp only [List.mem_singleton] at hx; subst hx
      exact absurd (List.mem_of_getElem? hp) hek

/-- what is known of an operation, where nothing but a row of entries grows -/
theorem KFact.more {E : Env} {R : Recs} {all : List Oper} {D : DR} {e x : Ent} (h : KFact E R all D x) : KFact E R all { D with ents := D.ents ++ [e] } x := by
  unfold KFact at h ⊢
  cases hk : x.kind <;> rw [hk] at h <;> simp only at h ⊢
  · exact h
  · exact h
  · exact h
  · exact ⟨h.1, h.2.1, fun c S k1 k2 k3 => h.2.2 c S k1 k2 fun e' he' => k3 e' (List.mem_append.2 (.inl he'))⟩
  · exact h

/-- ... where a new thing is laid that it does not see -/
theorem KFact.news {E : Env} {R : Recs} {all : List Oper} {D : DR} {x : Ent} {d : DNew} (h : KFact E R all D x) (hd : d.ix ∉ x.bef) : KFact E R all { D with news := d :: D.news } x := by
  have hs : ∀ c, seenNews x.bef c (d :: D.news) = seenNews x.bef c D.news := fun c => by
    simp only [seenNews]
    rw [if_neg]
    simp only [Bool.and_eq_true, List.contains_iff_mem, not_and]
    exact fun h' => absurd h' hd
  unfold KFact at h ⊢
  cases hk : x.kind <;> rw [hk] at h <;> simp only at h ⊢
  · exact h
  · obtain ⟨k1, k2, d', k3, k4⟩ := h
    exact ⟨k1, k2, d', List.mem_cons_of_mem _ k3, k4⟩
  · exact h
  · exact ⟨h.1, h.2.1, fun c S k1 k2 k3 => by rw [hs]; exact h.2.2 c S k1 k2 k3⟩
  · obtain ⟨k1, p, S, S', k2, k3, k4, k5, k6⟩ := h
    exact ⟨k1, p, S, S', k2, k3, k4, by rw [hs]; exact k5, k6⟩

end Go.AM
