/- The abstract machine: drawn regions: the step, the schedule, the end. -/
import Derived.Test.YtpmbnnobfjjpaaaGreatDoorAmDraw5
namespace Go.AM
set_option linter.unusedVariables false
set_option linter.unusedSimpArgs false

section
variable {E : Env} {R : Recs} {all : List Oper} {fr0 frL : AFr} {S0 A S : AState} {D : DR} {σ0 σ : Sig} {w0 w : World} {L : Nat → Bool} {a : Act} {c : Nat} {e : Ent}

/-- a new thing has been laid -/
theorem next_new (hD : DInv E R all fr0 S0 all.length D) (h : LInv all fr0 S0 D σ0 w0 L frL σ w a A S c) (he : e ∈ D.ents) (hn : L e.ix = false) (hb : ∀ j ∈ e.bef, L j = true) (hk : e.kind = .new) {d : DNew} (hd : d ∈ D.news) (hdx : d.ix = e.ix)
    (h64 : d.id < 65536) {σ' : Sig} {w' : World} {a' : Act} (hr : Rel σ' (A.put d.id d.obj) w') (hf : FrRel σ' (frL.put e.op.dst e.val) a') (hx : Added σ A w d.id σ' (A.put d.id d.obj) w') :
    LInv all fr0 S0 D σ0 w0 (more L e.ix) (frL.put e.op.dst e.val) σ' w' a' (A.put d.id d.obj) S c := by
  obtain ⟨f1, f2⟩ := frames_next hD h he
  have hm : ∀ d' ∈ D.news, more L e.ix d'.ix = true → d' = d ∨ L d'.ix = true := fun d' hd' hL => by
    simp only [more, Bool.or_eq_true, beq_iff_eq] at hL
    rcases hL with hL | hL
    · exact .inr hL
    · exact .inl (hD.h.nuq d' hd' d hd (by rw [hL, hdx]))
  have hpend : pend d c := by
    intro g hg
    obtain ⟨x, h1, h2, h3⟩ := hD.h.ngone d hd g hg
    rcases Nat.lt_or_ge g c with hlt | hge
    · have : x.ix ∈ D.writers.take c := by
        have : (D.writers.take c)[g]? = some x.ix := by rw [List.getElem?_take, if_pos hlt]; exact h2
        exact List.mem_of_getElem? this
      have hx' := h.closed x h1 (h.done _ this) _ h3
      rw [hdx, hn] at hx'; cases hx'
    · exact hge
  have hget := fun id => AState.get_put A d.id id d.obj h64
  refine ⟨?_, ?_, h.le, ?_, ?_, h.chain, ?_, ?_, h.next, h.lim, hr, hf, f1, f2, by simpa using h.size, by simpa using h.dfs, ?_, ?_⟩
  · intro i hi
    simp only [more, Bool.or_eq_true, beq_iff_eq] at hi
    rcases hi with hi | rfl
    · exact h.dom i hi
    · exact (hD.b.at_ix he).2
  · intro x hx' hL j hj
    simp only [more, Bool.or_eq_true, beq_iff_eq] at hL ⊢
    rcases hL with hL | hL
    · exact .inl (h.closed x hx' hL j hj)
    · obtain rfl := ent_uniq hD hx' he hL
      exact .inl (hb j hj)
  · intro i hi; simp [more, h.done i hi]
  · intro i hi
    have : i ≠ e.ix := by rintro rfl; exact not_writer hD he (by rw [hk]; simp) (List.mem_of_mem_drop hi)
    simp [more, h.todo i hi, this]
  · intro d' hd' hL hp
    rw [hget]
    by_cases hid : d'.id = d.id
    · rw [if_pos hid, hD.h.news.uniq d' hd' d hd hid]
    · rw [if_neg hid]
      rcases hm d' hd' hL with rfl | hL
      · exact absurd rfl hid
      · exact h.a1 d' hd' hL hp
  · intro id hid
    have hne : id ≠ d.id := fun hh => hid d hd (by simp [more, hdx]) hpend hh.symm
    rw [hget, if_neg hne]
    exact h.a2 id fun d' hd' hL => hid d' hd' (by simp [more, hL])
  · intro d' hd' hL
    simp only [more, Bool.or_eq_false_iff, beq_eq_false_iff_ne] at hL
    have hne : d'.id ≠ d.id := fun hh => hL.2 (by rw [hD.h.news.uniq d' hd' d hd hh, hdx])
    rw [hx.same _ hne]
    exact h.out d' hd' hL.1
  · have hnid := hD.h.nid d hd
    rw [hD.h.base] at hnid
    refine ⟨h.ext.next, fun id hid => ?_, Nat.le_trans h.ext.size hx.size, fun b hb' hf' => ?_, hx.os.trans h.ext.os, hx.tape.trans h.ext.tape, hx.output.trans h.ext.output⟩
    · rw [hx.same id (by omega)]; exact h.ext.same id hid
    · obtain ⟨k1, k2⟩ := h.ext.keep b hb' hf'
      obtain ⟨k3, k4⟩ := hx.keep b (Nat.lt_of_lt_of_le hb' h.ext.size) k2
      exact ⟨k3.trans k1, k4⟩

/-- a writer has written -/
theorem next_write (hD : DInv E R all fr0 S0 all.length D) (h : LInv all fr0 S0 D σ0 w0 L frL σ w a A S c) (he : e ∈ D.ents) (hn : L e.ix = false) (hb : ∀ j ∈ e.bef, L j = true) (hk : e.kind = .write) (hp : D.writers[c]? = some e.ix) {S' : AState} (hS' : D.chain[c + 1]? = some S')
    {σ' : Sig} {w' : World} {a' : Act} (hr : Rel σ' S' w') (hf : FrRel σ' (frL.put e.op.dst e.val) a') (hx : Ext σ (plus S (seenNews e.bef c D.news)) w σ' S' w') :
    ∃ A', LInv all fr0 S0 D σ0 w0 (more L e.ix) (frL.put e.op.dst e.val) σ' w' a' A' S' (c + 1) := by
  obtain ⟨f1, f2⟩ := frames_next hD h he
  have hok := hD.h.news
  let bl := (List.range all.length).filter fun i => L i
  have hbl : ∀ {i}, i ∈ bl ↔ L i = true := by
    intro i
    simp only [bl, List.mem_filter, List.mem_range]
    exact ⟨fun h => h.2, fun hL => ⟨h.dom i hL, hL⟩⟩
  have hm : ∀ d ∈ D.news, more L e.ix d.ix = L d.ix := fun d hd => by
    have := not_new hD he (by rw [hk]; simp) hd
    simp [more, this]
  -- what an earlier thing's going tells
  have hpend : ∀ d ∈ D.news, pend d c → (d.ix ∈ e.bef ↔ ¬ pend d (c + 1)) := by
    intro d hd hpd
    constructor
    · intro hbe hp1
      obtain ⟨g, g1, g2⟩ := hD.h.nseen d hd e he c hp hbe
      have := hp1 g g2; omega
    · intro hnp
      have : ∃ g, d.gone = some g ∧ ¬ c + 1 ≤ g := by
        cases hg : d.gone with
        | none => exact absurd (fun g hg' => by rw [hg] at hg'; cases hg') hnp
        | some g =>
          refine ⟨g, rfl, fun hle => hnp fun g' hg' => ?_⟩
          rw [hg] at hg'; cases hg'; exact hle
      obtain ⟨g, hg, hlt⟩ := this
      have hge := hpd g hg
      have : g = c := by omega
      subst this
      obtain ⟨x, h1, h2, h3⟩ := hD.h.ngone d hd g hg
      rw [hp] at h2
      obtain rfl := ent_uniq hD he h1 (Option.some.inj h2)
      exact h3
  let A' := plus S' (seenNews bl (c + 1) D.news)
  obtain ⟨hsub, hnx⟩ := small_sub hD h hb
  have hmono : ∀ d, pend d (c + 1) → pend d c := fun d hd g hg => by have := hd g hg; omega
  obtain ⟨r1, r2⟩ := frame_rule (B' := A') h.rel hsub hnx hr hx (by simp [A'])
    (by
      intro id o ho hnone
      -- what stands aside is a new thing that the writer does not see
      by_cases hc : ∃ d ∈ D.news, L d.ix = true ∧ pend d c ∧ d.id = id
      · obtain ⟨d, h1, h2, h3, rfl⟩ := hc
        rw [h.a1 d h1 h2 h3] at ho; cases ho
        have hnb : d.ix ∉ e.bef := fun hbe => by rw [seen_get hok h1 hbe h3] at hnone; cases hnone
        have hp1 : pend d (c + 1) := Classical.byContradiction fun hnp => hnb ((hpend d h1 h3).2 hnp)
        exact seen_get hok h1 (hbl.2 h2) hp1
      · have hS := h.a2 id fun d h1 h2 h3 h4 => hc ⟨d, h1, h2, h3, h4⟩
        rw [seen_none hok fun d h1 h2 h3 h4 => hc ⟨d, h1, hb _ h2, h3, h4⟩, ← hS, ho] at hnone
        cases hnone)
    (by
      intro id hid
      refine seen_none hok ?_
      rintro d h1 h2 h3 rfl
      have hL := hbl.1 h2
      have hpc := hmono d h3
      have hnb : d.ix ∉ e.bef := fun hbe => (hpend d h1 hpc).1 hbe h3
      refine hid d.obj (h.a1 d h1 hL hpc) ?_
      rw [seen_none hok fun d' k1 k2 k3 k4 => hnb (by rw [← hok.uniq d' k1 d h1 k4]; exact k2)]
      exact hD.h.fresh d h1 c S h.chain hpc)
  have hclt := getElem?_lt hp
  refine ⟨A', ?_, ?_, hclt, ?_, ?_, hS', ?_, ?_, by simp [A'], ?_, r1, hf, f1, f2, by simpa using h.size, by simpa using h.dfs, ?_, h.ext.trans r2⟩
  · intro i hi
    simp only [more, Bool.or_eq_true, beq_iff_eq] at hi
    rcases hi with hi | rfl
    · exact h.dom i hi
    · exact (hD.b.at_ix he).2
  · intro x hx' hL j hj
    simp only [more, Bool.or_eq_true, beq_iff_eq] at hL ⊢
    rcases hL with hL | hL
    · exact .inl (h.closed x hx' hL j hj)
    · obtain rfl := ent_uniq hD hx' he hL
      exact .inl (hb j hj)
  · intro i hi
    rw [List.take_add_one, hp] at hi
    rcases List.mem_append.1 hi with hi | hi
    · simp [more, h.done i hi]
    · simp at hi; simp [more, hi]
  · intro i hi
    have hdrop : D.writers.drop c = e.ix :: D.writers.drop (c + 1) := by
      rw [List.drop_eq_getElem_cons hclt]
      congr 1
      rw [List.getElem?_eq_getElem hclt] at hp
      exact Option.some.inj hp
    have hnd : (D.writers.drop c).Nodup := hD.h.wnd.sublist (List.drop_sublist _ _)
    rw [hdrop] at hnd
    have hne : i ≠ e.ix := by rintro rfl; exact (List.nodup_cons.1 hnd).1 hi
    have := h.todo i (by rw [hdrop]; exact List.mem_cons_of_mem _ hi)
    simp [more, this, hne]
  · intro d hd hL hp1
    rw [hm d hd] at hL
    exact seen_get hok hd (hbl.2 hL) hp1
  · intro id hid
    refine seen_none hok ?_
    rintro d h1 h2 h3 h4
    exact hid d h1 (by rw [hm d h1]; exact hbl.1 h2) h3 h4
  · have h1 := hx.next
    rw [plus_next, ← h.next] at h1
    simp only [A', plus_next]
    exact Nat.le_trans h.lim h1
  · intro d hd hL
    rw [hm d hd] at hL
    have hlt : d.id < (plus S (seenNews e.bef c D.news)).next := by rw [plus_next, ← h.next]; exact Nat.lt_of_lt_of_le (hD.h.nid d hd).2.1 h.lim
    rw [hx.same d.id hlt]
    exact h.out d hd hL

/-- ONE OPERATION OF THE SCHEDULE -/
theorem draw_step (hE : EnvOk E) (hR : RecsOk E R) {lo : Option Nat} (hp : R.plain = true → lo = none) {ops : Array Oper} {Q : Exit → Act → World → Prop} {K : Act → World → Prop} (hall : all = ops.toList)
    (hD : DInv E R all fr0 S0 all.length D) (h : LInv all fr0 S0 D σ0 w0 L frL σ w a A S c) (he : e ∈ D.ents) (hn : L e.ix = false) (hb : ∀ j ∈ e.bef, L j = true)
    (hK : ∀ frL' σ' w' a' A' S' c', LInv all fr0 S0 D σ0 w0 (more L e.ix) frL' σ' w' a' A' S' c' → K a' w') : wpOpIn (fence lo) 0 E.P ops Q e.ix K a w := by
  have hop : ops[e.ix]? = some e.op := by
    have := hD.b.op_of he
    rw [hall] at this
    simpa using this
  have hagr := agree_now hD h he hb
  have htm := hD.b.tm e he
  have hag : Agree e.op.op.operands.toList frL D.fr := agree_of fun t ht => hagr t (by rw [htm]; simp [ht])
  have hwf : aWanted all frL e.op = aWanted all D.fr e.op := aWanted_congr fun t ht => hagr t (by rw [htm]; simp [ht])
  have hw : aWanted all frL e.op = Region.wanted e.op (yielded ops a.tmps) := by rw [hall]; exact wanted_ok h.fr ops e.op
  unfold wpOpIn
  rw [hop]
  simp only
  rw [← hw, hwf]
  have hkf := hD.kind e he
  unfold KFact at hkf
  have hxr := h.ext
  -- a reader's step
  have read : e.kind ≠ .new → e.kind ≠ .write → aop E D.fr (plus S (seenNews e.bef c D.news)) e.op = some (.val e.val, plus S (seenNews e.bef c D.news)) → e.op.wpIn (fence lo) 0 E.P a w K Q := by
    intro hk1 hk2 hrun
    obtain ⟨hsub, hnx⟩ := small_sub hD h hb
    have hrel := h.rel.sub hsub hnx
    have hoper : aoper E R e.op frL (plus S (seenNews e.bef c D.news)) = some (frL.put e.op.dst e.val, plus S (seenNews e.bef c D.news)) := aoper_of_V (aoperV_of_val (by rw [aop_congr hag]; exact hrun))
    refine aoper_ok hE hR hp hrel h.fr hoper fun σ' w' a' r1 f1 x1 => ?_
    obtain ⟨q1, q2⟩ := frame_rule (B' := A) h.rel hsub hnx r1 x1 hnx.symm (fun _ _ ho _ => ho) (fun id hid => by
      cases hA : A.get id with
      | some o =>
        have := hid o hA
        cases hB : (plus S (seenNews e.bef c D.news)).get id with
        | none => exact absurd hB this
        | some o' => rw [hsub _ _ hB] at hA; rw [hA]
      | none =>
        cases hB : (plus S (seenNews e.bef c D.news)).get id with
        | none => rfl
        | some o' => rw [hsub _ _ hB] at hA; cases hA)
    exact hK _ _ _ _ _ _ _ (next_still hD h he hb hk1 hk2 q1 f1 q2)
  cases hk : e.kind <;> rw [hk] at hkf <;> simp only at hkf
  · rw [hkf.1]
    simp only [Bool.false_eq_true, if_false]
    refine ⟨fun f _ => fence_fn lo f, ?_⟩
    have hf1 : FrRel σ (frL.put e.op.dst e.val) (a.put e.op.dst undef) := h.fr.put _ (by rw [hkf.2]; exact conc_undef σ)
    exact hK _ _ _ _ _ _ _ (next_still hD h he hb (by rw [hk]; simp) (by rw [hk]; simp) h.rel hf1 (Ext.refl σ _ w))
  · obtain ⟨k1, k2, d, k3, k4, k5⟩ := hkf
    rw [k1]
    simp only [if_true]
    have hnt : newThing E frL e.op d.id = some (e.val, d.obj) := by rw [newThing_congr hag]; exact k5
    obtain ⟨⟨σ', w', u, q1, q2, q3, q4⟩, h64⟩ := newThing_ok h.rel (h.out d k3 (by rw [k4]; exact hn)) (Nat.lt_of_lt_of_le (hD.h.nid d k3).2.1 h.lim) h.fr.eval k2 hnt
    have hle : σ.le σ' := by
      intro j l hj
      by_cases hjd : j = d.id
      · subst hjd; rw [h.out d k3 (by rw [k4]; exact hn)] at hj; cases hj
      · rw [q4.same j hjd]; exact hj
    refine ⟨fun f _ => fence_fn lo f, ?_⟩
    have hnd : ∀ cc, e.op.op ≠ .defer cc := by
      intro cc hcc; rw [hcc] at k2; cases k2
    rw [fence_round, Oper.semAt_eq lo a.eval e.op hnd, q1, Oper.uponIn_value]
    exact hK _ _ _ _ _ _ _ (next_new hD h he hn hb hk k3 k4 h64 q3 ((h.fr.mono hle).put _ q2) q4)
  · obtain ⟨k1, k2⟩ := hkf
    rw [k1]
    simp only [if_true]
    exact read (by rw [hk]; simp) (by rw [hk]; simp) (k2 _)
  · obtain ⟨k1, _, k3⟩ := hkf
    rw [k1]
    simp only [if_true]
    refine read (by rw [hk]; simp) (by rw [hk]; simp) (k3 c S h.chain ?_ ?_)
    · intro i hi hie
      have h1 := hb i hie
      rw [h.todo i hi] at h1; cases h1
    · intro x hx hxt hex
      have h1 := h.closed x hx (h.done _ hxt) _ hex
      rw [hn] at h1; cases h1
  · obtain ⟨k1, p, T, T', k2, k3, k4, k5, k6⟩ := hkf
    rw [k1]
    simp only [if_true]
    -- it is the next writer
    have hpc : p = c := by
      rcases Nat.lt_trichotomy p c with hlt | heq | hgt
      · have : e.ix ∈ D.writers.take c := by
          have : (D.writers.take c)[p]? = some e.ix := by rw [List.getElem?_take, if_pos hlt]; exact k2
          exact List.mem_of_getElem? this
        rw [h.done _ this] at hn; cases hn
      · exact heq
      · have hclt : c < D.writers.length := Nat.lt_trans hgt (getElem?_lt k2)
        have h1 : D.writers[c] ∈ D.writers.take p := by
          have : (D.writers.take p)[c]? = some D.writers[c] := by rw [List.getElem?_take, if_pos hgt]; exact List.getElem?_eq_getElem hclt
          exact List.mem_of_getElem? this
        have h2 : D.writers[c] ∈ D.writers.drop c := by
          have : (D.writers.drop c)[0]? = some D.writers[c] := by rw [List.getElem?_drop, Nat.add_zero]; exact List.getElem?_eq_getElem hclt
          exact List.mem_of_getElem? this
        have h3 := hb _ (k6 _ h1)
        rw [h.todo _ h2] at h3; cases h3
    subst hpc
    rw [h.chain] at k3; cases k3
    obtain ⟨hsub, hnx⟩ := small_sub hD h hb
    have hrel := h.rel.sub hsub hnx
    have hoper : aoper E R e.op frL (plus S (seenNews e.bef p D.news)) = some (frL.put e.op.dst e.val, T') := aoper_of_V (by rw [aoperV_congr hag]; exact k5)
    refine aoper_ok hE hR hp hrel h.fr hoper fun σ' w' a' r1 f1 x1 => ?_
    obtain ⟨A', hA'⟩ := next_write hD h he hn hb hk k2 k4 r1 f1 x1
    exact hK _ _ _ _ _ _ _ hA'
end

/-! ### the schedule -/
theorem list_min {p : Nat → Prop} (h : ∃ i, p i) : ∃ i, p i ∧ ∀ j, j < i → ¬ p j := by
  obtain ⟨k, h1, h2⟩ := least h
  exact ⟨k, h1, fun j hj hp => by have := h2 j hp; omega⟩

theorem getD_true {l : Array Bool} {i : Nat} (h : i < l.size) : l.getD i true = l.getD i false := by simp [h]

theorem set_more {l : Array Bool} {i : Nat} (h : i < l.size) : (fun j => (l.setIfInBounds i true).getD j false) = more (fun j => l.getD j false) i := by
  funext j
  simp only [more, Array.getD_eq_getD_getElem?, Array.getElem?_setIfInBounds]
  by_cases e : i = j
  · subst e; simp [h]
  · have : (j == i) = false := by simpa using fun h' => e h'.symm
    simp [e, this]

section
variable {E : Env} {R : Recs} {all : List Oper} {fr0 : AFr} {S0 : AState} {D : DR} {σ0 : Sig} {w0 : World}

theorem ready_spec {ops : Array Oper} {l : Array Bool} (hl : l.size = ops.size) {i : Nat} : i ∈ Region.ready .any ops l ↔
    ∃ o, ops[i]? = some o ∧ l.getD i false = false ∧ ∀ ed ∈ o.after.toList, Region.binds .any ed = true → l.getD ed.on false = true := by
  unfold Region.ready
  simp only [List.mem_filter, List.mem_range, Bool.and_eq_true, Bool.not_eq_true']
  constructor
  · rintro ⟨h1, h2, h3⟩
    rw [Array.getElem?_eq_getElem h1] at h3
    simp only [Option.map_some, Option.getD_some, Array.all_eq_true'] at h3
    refine ⟨ops[i], Array.getElem?_eq_getElem h1, ?_, fun ed hed hbd => ?_⟩
    · rw [← getD_true (by omega)]; exact h2
    · have := h3 ed (Array.mem_toList_iff.1 hed)
      rw [hbd] at this
      simpa using this
  · rintro ⟨o, h1, h2, h3⟩
    have hlt : i < ops.size := (Array.getElem?_eq_some_iff.1 h1).1
    refine ⟨hlt, ?_, ?_⟩
    · rw [getD_true (by omega)]; exact h2
    · rw [h1]
      simp only [Option.map_some, Option.getD_some, Array.all_eq_true']
      intro ed hed
      cases hbd : Region.binds .any ed with
      | false => rfl
      | true => simpa using h3 ed (Array.mem_toList_iff.2 hed) hbd

theorem draw_all (hE : EnvOk E) (hR : RecsOk E R) {lo : Option Nat} (hp : R.plain = true → lo = none) {ops : Array Oper} {Q : Exit → Act → World → Prop} (hall : all = ops.toList) (hD : DInv E R all fr0 S0 all.length D) {S' : AState}
    (hlast : D.chain[D.writers.length]? = some S')
    (hQ : ∀ σ' w' a', Rel σ' (plus S' (seenNews (List.range all.length) D.writers.length D.news)) w' → FrRel σ' D.fr a' → Ext σ0 S0 w0 σ' (plus S' (seenNews (List.range all.length) D.writers.length D.news)) w' → Q .normal a' w') :
    ∀ (fuel : Nat) (listed : Array Bool) (U : List Nat) (frL : AFr) (σ : Sig) (w : World) (a : Act) (A S : AState) (c : Nat), listed.size = ops.size → LInv all fr0 S0 D σ0 w0 (fun i => listed.getD i false) frL σ w a A S c →
      (∀ i, i < ops.size → listed.getD i false = false → i ∈ U) → U.length ≤ fuel → wpAnyIn (fence lo) 0 E.P .any ops Q fuel listed a w := by
  have hlen : all.length = ops.size := by rw [hall]; simp
  have hent : ∀ i, i < ops.size → ∃ e ∈ D.ents, e.ix = i := by
    intro i hi
    have hk : i < D.ents.length := by rw [hD.b.len, hlen]; exact hi
    exact ⟨D.ents[i], List.getElem_mem hk, (hD.b.ix_of (List.getElem?_eq_getElem hk)).1⟩
  -- nothing left: the end
  have fin : ∀ (listed : Array Bool) (frL : AFr) (σ : Sig) (w : World) (a : Act) (A S : AState) (c : Nat), listed.size = ops.size → LInv all fr0 S0 D σ0 w0 (fun i => listed.getD i false) frL σ w a A S c →
      (∀ i, i < ops.size → listed.getD i false = true) → Q .normal a w := by
    intro listed frL σ w a A S c hls h hdone
    have hc : c = D.writers.length := by
      rcases Nat.lt_or_ge c D.writers.length with hlt | hge
      · have hm : D.writers[c] ∈ D.writers.drop c := by
          have : (D.writers.drop c)[0]? = some D.writers[c] := by rw [List.getElem?_drop, Nat.add_zero]; exact List.getElem?_eq_getElem hlt
          exact List.mem_of_getElem? this
        have h1 := h.todo _ hm
        have h2 := hdone D.writers[c] (by rw [← hlen]; exact hD.h.wr _ (List.getElem_mem hlt))
        have h1 : listed.getD D.writers[c] false = false := h1
        rw [h2] at h1; cases h1
      · have := h.le; omega
    subst hc
    have hS := h.chain
    rw [hlast] at hS; cases hS
    have hget : ∀ id, (plus S' (seenNews (List.range all.length) D.writers.length D.news)).get id = A.get id := by
      intro id
      by_cases hx : ∃ d ∈ D.news, pend d D.writers.length ∧ d.id = id
      · obtain ⟨d, h1, h2, rfl⟩ := hx
        obtain ⟨x, k1, k2, _⟩ := hD.h.nix d h1
        have hlt : d.ix < all.length := by rw [← k2]; exact (hD.b.at_ix k1).2
        rw [seen_get hD.h.news h1 (List.mem_range.2 hlt) h2, h.a1 d h1 (hdone _ (by omega)) h2]
      · rw [seen_none hD.h.news fun d h1 _ h3 h4 => hx ⟨d, h1, h3, h4⟩, h.a2 id fun d h1 _ h3 h4 => hx ⟨d, h1, h3, h4⟩]
    have hfr : ∀ t, frL.get t = D.fr.get t := by
      intro t
      by_cases hx : ∃ e ∈ D.ents, e.op.dst = some t
      · obtain ⟨e, h1, h2⟩ := hx
        exact h.got t ⟨e, h1, hdone _ (by rw [← hlen]; exact (hD.b.at_ix h1).2), h2⟩
      · rw [h.left t fun e h1 _ h2 => hx ⟨e, h1, h2⟩, hD.b.un t fun e h1 h2 => hx ⟨e, h1, h2⟩]
    have hf : FrRel σ D.fr a := ⟨by rw [h.fr.size, h.size, hD.b.size], by rw [hD.b.size]; exact hD.b.small, fun t => by rw [← hfr]; exact h.fr.tmp t, by rw [hD.b.dfs, ← h.dfs]; exact h.fr.dfs⟩
    exact hQ σ w a (h.rel.congr hget (by rw [plus_next, h.next])) hf (h.ext.congr hget (by rw [plus_next, h.next]))
  -- something is left: something is ready
  have some_ready : ∀ (listed : Array Bool), listed.size = ops.size → Region.ready .any ops listed = [] → ∀ i, i < ops.size → listed.getD i false = true := by
    intro listed hls hnil i hi
    cases hv : listed.getD i false with
    | true => rfl
    | false =>
      obtain ⟨j, ⟨hj, hjf⟩, hmin⟩ := list_min (p := fun i => i < ops.size ∧ listed.getD i false = false) ⟨i, hi, hv⟩
      obtain ⟨e, he, rfl⟩ := hent j hj
      have hop : ops[e.ix]? = some e.op := by
        have := hD.b.op_of he
        rw [hall] at this
        simpa using this
      have : e.ix ∈ Region.ready .any ops listed := (ready_spec hls).2 ⟨e.op, hop, hjf, fun ed hed hbd => by
        have hlt := hD.b.after e he ed hed hbd
        cases hx : listed.getD ed.on false with
        | true => rfl
        | false => exact absurd ⟨by omega, hx⟩ (hmin ed.on hlt)⟩
      rw [hnil] at this; cases this
  intro fuel
  induction fuel with
  | zero =>
    intro listed U frL σ w a A S c hls h hU hlU
    have hUn : U = [] := List.length_eq_zero_iff.1 (by omega)
    have hdone : ∀ i, i < ops.size → listed.getD i false = true := by
      intro i hi
      cases hv : listed.getD i false with
      | true => rfl
      | false => have := hU i hi hv; rw [hUn] at this; cases this
    refine ⟨?_, fin listed frL σ w a A S c hls h hdone⟩
    rw [List.eq_nil_iff_forall_not_mem]
    intro i hi
    obtain ⟨o, h1, h2, _⟩ := (ready_spec hls).1 hi
    rw [hdone i (Array.getElem?_eq_some_iff.1 h1).1] at h2; cases h2
  | succ fuel ih =>
    intro listed U frL σ w a A S c hls h hU hlU
    refine ⟨fun hnil => fin listed frL σ w a A S c hls h (some_ready listed hls hnil), fun i hi => ?_⟩
    obtain ⟨o, h1, h2, h3⟩ := (ready_spec hls).1 hi
    have hilt : i < ops.size := (Array.getElem?_eq_some_iff.1 h1).1
    obtain ⟨e, he, rfl⟩ := hent i hilt
    have hop : ops[e.ix]? = some e.op := by
      have := hD.b.op_of he
      rw [hall] at this
      simpa using this
    rw [hop] at h1; cases h1
    have hbef : ∀ j ∈ e.bef, listed.getD j false = true := by
      intro j hj
      obtain ⟨ed, k1, k2, k3⟩ := hD.b.befs e he j hj
      have hon := h3 ed k1 k2
      rcases k3 with rfl | ⟨x, hx, hxi, hjx⟩
      · exact hon
      · exact h.closed x hx (by rw [hxi]; exact hon) j hjx
    refine draw_step hE hR hp hall hD h he h2 hbef fun frL' σ' w' a' A' S' c' h' => ?_
    have hsz : e.ix < listed.size := by omega
    rw [← set_more hsz] at h'
    refine ih (listed.setIfInBounds e.ix true) (U.erase e.ix) frL' σ' w' a' A' S' c' (by simpa using hls) h' ?_ ?_
    · intro j hj hv
      have hne : j ≠ e.ix := by
        rintro rfl
        have : (listed.setIfInBounds e.ix true).getD e.ix false = true := by simp [hsz]
        rw [this] at hv; cases hv
      have hv' : listed.getD j false = false := by
        have := congrFun (set_more hsz) j
        rw [this] at hv
        simp only [more, Bool.or_eq_false_iff] at hv
        exact hv.1
      exact (List.mem_erase_of_ne hne).2 (hU j hj hv')
    · have hm := hU e.ix hilt h2
      rw [List.length_erase_of_mem hm]; omega
end

/-- A REGION THAT DRAWS ITS ORDER, its writers in a row -/
theorem drawC_ok {E : Env} (hE : EnvOk E) (hmix : E.P.follows .mixedOrders = true) {R : Recs} {lo : Option Nat} (hR : RecsOk E R) (hp : R.plain = true → lo = none) {ops : Array Oper} {fr fr' : AFr} {S S' : AState}
    (ha : adrawC E R ops.toList fr S = some (fr', S')) : DrawFor E lo ops fr fr' S S' := by
  intro σ w a t Q h hf hQ
  unfold adrawC at ha
  split at ha
  · rename_i D hdops
    split at ha
    · rename_i T hT
      cases ha
      have hD := dops_inv ops.toList 0 _ (dinv_start (E := E) (R := R) (all := ops.toList) (S := S) hf.small) (by simp) hdops
      simp only [Region.schedule, hmix, Bool.true_or, if_true]
      refine wpAnyIn_sound ops.size t _ a _ ?_
      have hne : ∀ i, (Array.replicate ops.size false).getD i false = false := by
        intro i
        simp only [Array.getD_eq_getD_getElem?, Array.getElem?_replicate]
        split <;> rfl
      have hlim : D.lim = S.next + countNew ops.toList := dops_lim ops.toList 0 _ hdops
      have hA : Rel σ { S with next := D.lim } w.drew := by
        refine ⟨fun id hid => h.dom id ?_, h.drew.blk, fun id o ho => h.drew.obj id o ho, fun id id' o o' l l' ho ho' => h.drew.sep id id' o o' l l' ho ho'⟩
        simp only [hlim] at hid; omega
      refine draw_all (σ0 := σ) (w0 := w) (S0 := S) hE hR hp rfl hD hT hQ ops.size _ (List.range ops.size) fr σ _ a { S with next := D.lim } { S with next := D.lim } 0 (by simp) ?_ (fun i hi _ => List.mem_range.2 hi) (by simp)
      refine ⟨fun i hi => ?_, fun e _ hL => ?_, Nat.zero_le _, by simp, fun i _ => hne i, hD.h.chain0, fun d _ hL => ?_, fun _ _ => rfl, rfl, Nat.le_refl _, hA, hf, ?_, fun _ _ => rfl, rfl, rfl, ?_, ?_⟩
      · simp only [hne] at hi; cases hi
      · simp only [hne] at hL; cases hL
      · simp only [hne] at hL; cases hL
      · rintro t ⟨e, _, hL, _⟩
        simp only [hne] at hL; cases hL
      · intro d hd _
        refine h.dom d.id ?_
        have := (hD.h.nid d hd).1
        rw [hD.h.base] at this
        exact this
      · exact ⟨by simp only [hlim]; omega, fun _ _ => rfl, Nat.le_refl _, fun b _ hf => ⟨rfl, hf⟩, rfl, rfl, rfl⟩
    · cases ha
  · cases ha
where
  dops_lim {E : Env} {R : Recs} {all : List Oper} {D' : DR} : ∀ (os : List Oper) (k : Nat) (D : DR), dops E R all k os D = some D' → D'.lim = D.lim
    | [], k, D, h => by simp only [dops] at h; cases h; rfl
    | o :: r, k, D, h => by
      simp only [dops] at h
      split at h
      · rename_i D1 h1
        rw [dops_lim r (k + 1) D1 h]
        unfold dstep at h1
        repeat' split at h1
        all_goals first | (cases h1; done) | (cases h1; rfl) | skip
        all_goals (simp only at h1; repeat' split at h1)
        all_goals first | (cases h1; done) | (cases h1; rfl)
      · cases h

end Go.AM
