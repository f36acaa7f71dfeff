/- The abstract machine: drawn regions: a map literal: the schedule; then any region that draws its order. -/
import Derived.Test.YtpmbnnobfjjpaaaGreatDoorAmDraw7
namespace Go.AM
set_option linter.unusedVariables false
set_option linter.unusedSimpArgs false

/-- where a run of the region stands -/
structure MLive (all : List Oper) (fr0 : AFr) (S0 : AState) (M : MR) (σ0 : Sig) (w0 : World) (L : Nat → Bool) (frL : AFr) (σ : Sig) (w : World) (a : Act) (A : AState) : Prop where
  dom : ∀ i, L i = true → i < all.length
  closed : ∀ e ∈ M.ents, L e.ix = true → ∀ j ∈ e.bef, L j = true
  off : (∀ i0, M.made = some i0 → L i0 = false) → A = S0
  on : ∀ i0, M.made = some i0 → L i0 = true → A.next = S0.next + 1 ∧ (∀ j, j ≠ S0.next → A.get j = S0.get j) ∧
    ∃ es : List MIns, A.get S0.next = some (.map (insEntries es)) ∧ es.Perm (M.ins.filter fun m => L m.ix)
  rel : Rel σ A w
  fr : FrRel σ frL a
  got : ∀ t, (∃ e ∈ M.ents, L e.ix = true ∧ e.op.dst = some t) → frL.get t = M.fr.get t
  left : ∀ t, (∀ e ∈ M.ents, L e.ix = true → e.op.dst ≠ some t) → frL.get t = fr0.get t
  size : frL.size = fr0.size
  dfs : frL.defers = fr0.defers
  ext : Ext σ0 S0 w0 σ A w

section
variable {E : Env} {R : Recs} {all : List Oper} {fr0 frL : AFr} {S0 A : AState} {M : MR} {σ0 σ : Sig} {w0 w : World} {L : Nat → Bool} {a : Act} {e : Ent}

theorem ment_uniq {k id : Nat} (hD : MInv E all fr0 id k M) {x y : Ent} (hx : x ∈ M.ents) (hy : y ∈ M.ents) (h : x.ix = y.ix) : x = y := by
  have h1 := (hD.b.at_ix hx).1
  have h2 := (hD.b.at_ix hy).1
  rw [h] at h1
  rw [h1] at h2
  exact Option.some.inj h2

theorem magree_now (hD : MInv E all fr0 S0.next all.length M) (h : MLive all fr0 S0 M σ0 w0 L frL σ w a A) (he : e ∈ M.ents) (hb : ∀ j ∈ e.bef, L j = true) : ∀ t ∈ e.tmps, frL.get t = M.fr.get t := by
  intro t ht
  by_cases hx : ∃ x ∈ M.ents, x.op.dst = some t
  · obtain ⟨x, h1, h2⟩ := hx
    exact h.got t ⟨x, h1, hb _ (hD.b.reads e he x h1 t h2 ht), h2⟩
  · have hno : ∀ x ∈ M.ents, x.op.dst ≠ some t := fun x h1 h2 => hx ⟨x, h1, h2⟩
    rw [h.left t fun x h1 _ => hno x h1, hD.b.un t hno]

theorem mframes_next (hD : MInv E all fr0 S0.next all.length M) (h : MLive all fr0 S0 M σ0 w0 L frL σ w a A) (he : e ∈ M.ents) :
    (∀ t, (∃ x ∈ M.ents, more L e.ix x.ix = true ∧ x.op.dst = some t) → (frL.put e.op.dst e.val).get t = M.fr.get t) ∧
    (∀ t, (∀ x ∈ M.ents, more L e.ix x.ix = true → x.op.dst ≠ some t) → (frL.put e.op.dst e.val).get t = fr0.get t) := by
  have hfs : frL.size ≤ 512 := by rw [h.size]; exact hD.b.small
  have hself : ∀ t, e.op.dst = some t → (frL.put e.op.dst e.val).get t = M.fr.get t := by
    intro t ht
    rw [ht, AFr.get_put frL t t e.val hfs]
    by_cases hs : t < frL.size
    · rw [if_pos ⟨rfl, hs⟩, hD.b.vals e he t ht (by rw [← h.size]; exact hs)]
    · rw [if_neg (fun k => hs k.2)]
      have hs2 : ¬ t < M.fr.size := by rw [hD.b.size, ← h.size]; exact hs
      simp [AFr.get, hs, hs2]
  have hother : ∀ t, e.op.dst ≠ some t → (frL.put e.op.dst e.val).get t = frL.get t := by
    intro t ht
    cases hd : e.op.dst with
    | none => rfl
    | some d =>
      rw [AFr.get_put frL d t e.val hfs, if_neg]
      rintro ⟨rfl, _⟩
      exact ht hd
  refine ⟨fun t hx => ?_, fun t hx => ?_⟩
  · by_cases ht : e.op.dst = some t
    · exact hself t ht
    · rw [hother t ht]
      obtain ⟨x, h1, h2, h3⟩ := hx
      refine h.got t ⟨x, h1, ?_, h3⟩
      simp only [more, Bool.or_eq_true, beq_iff_eq] at h2
      rcases h2 with h2 | h2
      · exact h2
      · obtain rfl := ment_uniq hD h1 he h2
        exact absurd h3 ht
  · have ht : e.op.dst ≠ some t := hx e he (by simp [more])
    rw [hother t ht]
    exact h.left t fun x h1 h2 => hx x h1 (by simp [more, h2])

/-- the operation is behind us -/
theorem mnext (hD : MInv E all fr0 S0.next all.length M) (h : MLive all fr0 S0 M σ0 w0 L frL σ w a A) (he : e ∈ M.ents) (hb : ∀ j ∈ e.bef, L j = true) {A' : AState} {σ' : Sig} {w' : World} {a' : Act}
    (hr : Rel σ' A' w') (hf : FrRel σ' (frL.put e.op.dst e.val) a') (hx : Ext σ A w σ' A' w')
    (hoff : (∀ i0, M.made = some i0 → more L e.ix i0 = false) → A' = S0)
    (hon : ∀ i0, M.made = some i0 → more L e.ix i0 = true → A'.next = S0.next + 1 ∧ (∀ j, j ≠ S0.next → A'.get j = S0.get j) ∧
      ∃ es : List MIns, A'.get S0.next = some (.map (insEntries es)) ∧ es.Perm (M.ins.filter fun m => more L e.ix m.ix)) :
    MLive all fr0 S0 M σ0 w0 (more L e.ix) (frL.put e.op.dst e.val) σ' w' a' A' := by
  obtain ⟨f1, f2⟩ := mframes_next hD h he
  refine ⟨?_, ?_, hoff, hon, hr, hf, f1, f2, by simpa using h.size, by simpa using h.dfs, h.ext.trans hx⟩
  · intro i hi
    simp only [more, Bool.or_eq_true, beq_iff_eq] at hi
    rcases hi with hi | rfl
    · exact h.dom i hi
    · exact (hD.b.at_ix he).2
  · intro x hx' hL j hj
    simp only [more, Bool.or_eq_true, beq_iff_eq] at hL ⊢
    rcases hL with hL | hL
    · exact .inl (h.closed x hx' hL j hj)
    · obtain rfl := ment_uniq hD hx' he hL
      exact .inl (hb j hj)

theorem filter_same (L : Nat → Bool) (i : Nat) {l : List MIns} (h : ∀ m ∈ l, m.ix ≠ i) : l.filter (fun m => more L i m.ix) = l.filter fun m => L m.ix := by
  apply List.filter_congr
  intro m hm
  simp [more, h m hm]

theorem filter_more (L : Nat → Bool) {x : MIns} : ∀ {l : List MIns}, x ∈ l → (l.map (·.ix)).Nodup → L x.ix = false → (x :: l.filter fun m => L m.ix).Perm (l.filter fun m => more L x.ix m.ix)
  | y :: r, hx, hnd, hL => by
    simp only [List.map_cons, List.nodup_cons] at hnd
    rcases List.mem_cons.1 hx with rfl | hx
    · have hne : ∀ m ∈ r, m.ix ≠ x.ix := fun m hm e => hnd.1 (List.mem_map.2 ⟨m, hm, e⟩)
      rw [List.filter_cons_of_neg (by simp [hL]), List.filter_cons_of_pos (by simp [more]), filter_same L x.ix hne]
    · have ih := filter_more L hx hnd.2 hL
      have hne : y.ix ≠ x.ix := fun e => hnd.1 (List.mem_map.2 ⟨x, hx, e.symm⟩)
      by_cases hy : L y.ix = true
      · rw [List.filter_cons_of_pos (by simp [hy]), List.filter_cons_of_pos (by simp [more, hy])]
        exact (List.Perm.swap _ _ _).trans (ih.cons _)
      · rw [List.filter_cons_of_neg (by simpa using hy), List.filter_cons_of_neg (by simp [more, hne]; simpa using hy)]
        exact ih

theorem findE_new {k : Value} : ∀ {es : List (AV × AV)}, (∀ p ∈ es, ∃ k', p.1.flat = some k' ∧ keyEq k k' = some false) → findE k es = some none
  | [], _ => rfl
  | (c, v) :: r, h => by
    obtain ⟨k', h1, h2⟩ := h (c, v) (by simp)
    have ih := findE_new (k := k) (es := r) fun p hp => h p (by simp [hp])
    simp only at h1
    simp [findE, h1, h2, ih]

/-- ONE OPERATION OF THE SCHEDULE -/
theorem mdraw_step (hE : EnvOk E) (hR : RecsOk E R) {lo : Option Nat} (hp : R.plain = true → lo = none) {ops : Array Oper} {Q : Exit → Act → World → Prop} {K : Act → World → Prop} (hall : all = ops.toList) (h64 : S0.next < 65536)
    (hD : MInv E all fr0 S0.next all.length M) (h : MLive all fr0 S0 M σ0 w0 L frL σ w a A) (he : e ∈ M.ents) (hn : L e.ix = false) (hb : ∀ j ∈ e.bef, L j = true)
    (hK : ∀ frL' σ' w' a' A', MLive all fr0 S0 M σ0 w0 (more L e.ix) frL' σ' w' a' A' → K a' w') : wpOpIn (fence lo) 0 E.P ops Q e.ix K a w := by
  have hop : ops[e.ix]? = some e.op := by
    have := hD.b.op_of he
    rw [hall] at this
    simpa using this
  have hagr := magree_now hD h he hb
  have htm := hD.b.tm e he
  have hag : Agree e.op.op.operands.toList frL M.fr := agree_of fun t ht => hagr t (by rw [htm]; simp [ht])
  have hgd := hD.grd e he
  unfold wpOpIn
  rw [hop]
  have hw : Region.wanted e.op (yielded ops a.tmps) = true := by simp [Region.wanted, hgd]
  simp only [hw, if_true]
  have hkf := hD.kind e he
  unfold MFact at hkf
  cases hk : e.kind <;> rw [hk] at hkf <;> simp only at hkf
  · -- the map is laid
    obtain ⟨⟨t, ht⟩, hv, hmd⟩ := hkf
    obtain rfl := h.off (fun i0 h0 => by rw [hmd] at h0; cases h0; exact hn)
    let S1 : AState := { heap := T.put HD A.heap A.next (.leaf (.map [])), next := A.next + 1 }
    have hnew : A.new (.map []) = some (A.next, S1) := by simp [AState.new, h64, S1]
    obtain ⟨_, _, hnx, hget⟩ := AState.new_some hnew
    have hrun : aop E frL A e.op = some (.val e.val, S1) := by
      unfold aop
      rw [ht]
      simp [hnew, obind, ret, hv]
    refine aoper_ok hE hR hp h.rel h.fr (aoper_of_V (aoperV_of_val hrun)) fun σ' w' a' r1 f1 x1 => ?_
    refine hK _ _ _ _ _ (mnext hD h he hb r1 f1 x1 ?_ ?_)
    · intro hno
      have := hno _ hmd
      simp [more] at this
    · intro i0 _ _
      refine ⟨hnx, fun j hj => by rw [hget, if_neg hj], [], by rw [hget, if_pos rfl]; rfl, ?_⟩
      have : (M.ins.filter fun m => more L e.ix m.ix) = [] := by
        rw [List.filter_eq_nil_iff]
        intro m hm hL
        obtain ⟨x, h1, h2, h3⟩ := hD.mix m hm
        have hne : x.ix ≠ e.ix := fun hh => by
          obtain rfl := ment_uniq hD h1 he hh
          rw [hk] at h3; cases h3
        simp only [more, Bool.or_eq_true, beq_iff_eq] at hL
        rcases hL with hL | hL
        · have hxf := hD.kind x h1
          unfold MFact at hxf
          rw [h3] at hxf
          obtain ⟨_, _, _, _, _, _, _, _, _, _, ⟨j0, k5, k6⟩, _⟩ := hxf
          have := h.closed x h1 (by rw [h2]; exact hL) j0 k6
          rw [hmd] at k5; cases k5
          rw [hn] at this; cases this
        · exact hne (h2.trans hL)
      rw [this]
  · -- it only reckons
    have hrun : aop E frL A e.op = some (.val e.val, A) := by rw [aop_congr hag]; exact hkf A
    have hne : ∀ m ∈ M.ins, m.ix ≠ e.ix := fun m hm hh => by
      obtain ⟨x, h1, h2, h3⟩ := hD.mix m hm
      obtain rfl := ment_uniq hD h1 he (h2.trans hh)
      rw [hk] at h3; cases h3
    have hmd : ∀ i0, M.made = some i0 → more L e.ix i0 = L i0 := fun i0 h0 => by
      obtain ⟨x, h1, h2, h3⟩ := hD.made i0 h0
      have : i0 ≠ e.ix := fun hh => by
        obtain rfl := ment_uniq hD h1 he (h2.trans hh)
        rw [hk] at h3; cases h3
      simp [more, this]
    refine aoper_ok hE hR hp h.rel h.fr (aoper_of_V (aoperV_of_val hrun)) fun σ' w' a' r1 f1 x1 => ?_
    refine hK _ _ _ _ _ (mnext hD h he hb r1 f1 x1 (fun hno => h.off fun i0 h0 => by rw [← hmd i0 h0]; exact hno i0 h0) fun i0 h0 hL => ?_)
    rw [hmd i0 h0] at hL
    rw [filter_same L e.ix hne]
    exact h.on i0 h0 hL
  · -- an entry is put in
    obtain ⟨hv, t, kt, et, m, kx, vx, hopi, hu, hm, ⟨i0, hmd, hi0⟩, x, hx, hxi, hxk, hxv, hxf, hko⟩ := hkf
    have hLi := hb i0 hi0
    obtain ⟨hnx, hoth, es, hes, hperm⟩ := h.on i0 hmd hLi
    have hag' := hag
    rw [hopi] at hag'
    have em : frL.eval m = .map S0.next := by rw [hag' m (by simp [Op.operands])]; exact hm
    have ek : frL.eval kx = x.k := by rw [hag' kx (by simp [Op.operands]), hxk]
    have ev : frL.eval vx = x.v := by rw [hag' vx (by simp [Op.operands]), hxv]
    have hmem : ∀ y ∈ es, y ∈ M.ins ∧ y.ix ≠ x.ix := by
      intro y hy
      have := hperm.mem_iff.1 hy
      simp only [List.mem_filter] at this
      refine ⟨this.1, fun hh => ?_⟩
      rw [hh, hxi, hn] at this
      cases this.2
    have hfind : findE x.key (insEntries es) = some none := findE_new fun p hp => by
      obtain ⟨y, hy, rfl⟩ := List.mem_map.1 hp
      obtain ⟨h1, h2⟩ := hmem y hy
      exact ⟨y.key, hD.flat y h1, hD.apart x hx y h1 (Ne.symm h2)⟩
    have hset := (findE_none hfind).2 x.k x.v
    let A' := A.put S0.next (.map (insEntries (es ++ [x])))
    have hrun : aop E frL A e.op = some (.val e.val, A') := by
      unfold aop
      rw [hopi]
      simp only [em, ek, ev, aMapUpdate, hu, aEntries, hes, hxf, obind, hko, if_true, hfind, hset, unit, hv]
      simp [A', insEntries]
    have hget := fun j => AState.get_put A S0.next j (.map (insEntries (es ++ [x]))) h64
    have hi0e : i0 ≠ e.ix := by rintro rfl; rw [hn] at hLi; cases hLi
    refine aoper_ok hE hR hp h.rel h.fr (aoper_of_V (aoperV_of_val hrun)) fun σ' w' a' r1 f1 x1 => ?_
    refine hK _ _ _ _ _ (mnext hD h he hb r1 f1 x1 ?_ ?_)
    · intro hno
      have := hno i0 hmd
      simp [more, hLi] at this
    · intro _ _ _
      refine ⟨hnx, fun j hj => by rw [hget, if_neg hj]; exact hoth j hj, es ++ [x], by rw [hget, if_pos rfl], ?_⟩
      have h1 : (es ++ [x]).Perm (x :: es) := List.perm_append_comm
      have h2 := filter_more L hx hD.mnd (by rw [hxi]; exact hn)
      rw [hxi] at h2
      exact h1.trans ((hperm.cons x).trans h2)

theorem mdraw_all (hE : EnvOk E) (hR : RecsOk E R) {lo : Option Nat} (hp : R.plain = true → lo = none) {ops : Array Oper} {Q : Exit → Act → World → Prop} (hall : all = ops.toList) (h64 : S0.next < 65536) (hD : MInv E all fr0 S0.next all.length M) {i0 : Nat}
    (hmd : M.made = some i0) {S' : AState} (hS' : S0.new (.map (insEntries M.ins)) = some (S0.next, S'))
    (hQ : ∀ σ' w' a', Rel σ' S' w' → FrRel σ' M.fr a' → Ext σ0 S0 w0 σ' S' w' → Q .normal a' w') :
    ∀ (fuel : Nat) (listed : Array Bool) (U : List Nat) (frL : AFr) (σ : Sig) (w : World) (a : Act) (A : AState), listed.size = ops.size → MLive all fr0 S0 M σ0 w0 (fun i => listed.getD i false) frL σ w a A →
      (∀ i, i < ops.size → listed.getD i false = false → i ∈ U) → U.length ≤ fuel → wpAnyIn (fence lo) 0 E.P .any ops Q fuel listed a w := by
  have hlen : all.length = ops.size := by rw [hall]; simp
  have hent : ∀ i, i < ops.size → ∃ e ∈ M.ents, e.ix = i := by
    intro i hi
    have hk : i < M.ents.length := by rw [hD.b.len, hlen]; exact hi
    exact ⟨M.ents[i], List.getElem_mem hk, (hD.b.ix_of (List.getElem?_eq_getElem hk)).1⟩
  have fin : ∀ (listed : Array Bool) (frL : AFr) (σ : Sig) (w : World) (a : Act) (A : AState), listed.size = ops.size → MLive all fr0 S0 M σ0 w0 (fun i => listed.getD i false) frL σ w a A →
      (∀ i, i < ops.size → listed.getD i false = true) → Q .normal a w := by
    intro listed frL σ w a A hls h hdone
    have hixlt : ∀ e ∈ M.ents, listed.getD e.ix false = true := fun e he => hdone _ (by rw [← hlen]; exact (hD.b.at_ix he).2)
    obtain ⟨x, hx, hxi, _⟩ := hD.made i0 hmd
    obtain ⟨hnx, hoth, es, hes, hperm⟩ := h.on i0 hmd (by rw [← hxi]; exact hixlt x hx)
    have hall' : (M.ins.filter fun m => listed.getD m.ix false) = M.ins := by
      rw [List.filter_eq_self]
      intro m hm
      obtain ⟨y, hy, hyi, _⟩ := hD.mix m hm
      rw [← hyi]; exact hixlt y hy
    rw [hall'] at hperm
    obtain ⟨_, _, hn', hg'⟩ := AState.new_some hS'
    have hfr : ∀ t, frL.get t = M.fr.get t := by
      intro t
      by_cases hx : ∃ e ∈ M.ents, e.op.dst = some t
      · obtain ⟨e, h1, h2⟩ := hx
        exact h.got t ⟨e, h1, hixlt e h1, h2⟩
      · rw [h.left t fun e h1 _ h2 => hx ⟨e, h1, h2⟩, hD.b.un t fun e h1 h2 => hx ⟨e, h1, h2⟩]
    have hf : FrRel σ M.fr a := ⟨by rw [h.fr.size, h.size, hD.b.size], by rw [hD.b.size]; exact hD.b.small, fun t => by rw [← hfr]; exact h.fr.tmp t, by rw [hD.b.dfs, ← h.dfs]; exact h.fr.dfs⟩
    have hpe : (insEntries es).Perm (insEntries M.ins) := hperm.map _
    have hb : ∀ j, S'.get j = if j = S0.next then some (.map (insEntries M.ins)) else A.get j := by
      intro j
      rw [hg']
      by_cases e : j = S0.next
      · simp [e]
      · rw [if_neg e, if_neg e, hoth j e]
    have hex : ∀ j o, S'.get j = some o → ∃ o', A.get j = some o' := by
      intro j o ho
      rw [hb] at ho
      split at ho
      · rename_i e; subst e; exact ⟨_, hes⟩
      · exact ⟨o, ho⟩
    exact hQ σ w a (h.rel.permMap hes hpe hb (by rw [hn', hnx])) hf (h.ext.permMap hex (by rw [hn', hnx]))
  have some_ready : ∀ (listed : Array Bool), listed.size = ops.size → Region.ready .any ops listed = [] → ∀ i, i < ops.size → listed.getD i false = true := by
    intro listed hls hnil i hi
    cases hv : listed.getD i false with
    | true => rfl
    | false =>
      obtain ⟨j, ⟨hj, hjf⟩, hmin⟩ := list_min (p := fun i => i < ops.size ∧ listed.getD i false = false) ⟨i, hi, hv⟩
      obtain ⟨e, he, rfl⟩ := hent j hj
      have hop : ops[e.ix]? = some e.op := by
        have := hD.b.op_of he
        rw [hall] at this
        simpa using this
      have : e.ix ∈ Region.ready .any ops listed := (ready_spec hls).2 ⟨e.op, hop, hjf, fun ed hed hbd => by
        have hlt := hD.b.after e he ed hed hbd
        cases hx : listed.getD ed.on false with
        | true => rfl
        | false => exact absurd ⟨by omega, hx⟩ (hmin ed.on hlt)⟩
      rw [hnil] at this; cases this
  intro fuel
  induction fuel with
  | zero =>
    intro listed U frL σ w a A hls h hU hlU
    have hUn : U = [] := List.length_eq_zero_iff.1 (by omega)
    have hdone : ∀ i, i < ops.size → listed.getD i false = true := by
      intro i hi
      cases hv : listed.getD i false with
      | true => rfl
      | false => have := hU i hi hv; rw [hUn] at this; cases this
    refine ⟨?_, fin listed frL σ w a A hls h hdone⟩
    rw [List.eq_nil_iff_forall_not_mem]
    intro i hi
    obtain ⟨o, h1, h2, _⟩ := (ready_spec hls).1 hi
    rw [hdone i (Array.getElem?_eq_some_iff.1 h1).1] at h2; cases h2
  | succ fuel ih =>
    intro listed U frL σ w a A hls h hU hlU
    refine ⟨fun hnil => fin listed frL σ w a A hls h (some_ready listed hls hnil), fun i hi => ?_⟩
    obtain ⟨o, h1, h2, h3⟩ := (ready_spec hls).1 hi
    have hilt : i < ops.size := (Array.getElem?_eq_some_iff.1 h1).1
    obtain ⟨e, he, rfl⟩ := hent i hilt
    have hop : ops[e.ix]? = some e.op := by
      have := hD.b.op_of he
      rw [hall] at this
      simpa using this
    rw [hop] at h1; cases h1
    have hbef : ∀ j ∈ e.bef, listed.getD j false = true := by
      intro j hj
      obtain ⟨ed, k1, k2, k3⟩ := hD.b.befs e he j hj
      have hon := h3 ed k1 k2
      rcases k3 with rfl | ⟨x, hx, hxi, hjx⟩
      · exact hon
      · exact h.closed x hx (by rw [hxi]; exact hon) j hjx
    refine mdraw_step hE hR hp hall h64 hD h he h2 hbef fun frL' σ' w' a' A' h' => ?_
    have hsz : e.ix < listed.size := by omega
    rw [← set_more hsz] at h'
    refine ih (listed.setIfInBounds e.ix true) (U.erase e.ix) frL' σ' w' a' A' (by simpa using hls) h' ?_ ?_
    · intro j hj hv
      have hne : j ≠ e.ix := by
        rintro rfl
        have : (listed.setIfInBounds e.ix true).getD e.ix false = true := by simp [hsz]
        rw [this] at hv; cases hv
      have hv' : listed.getD j false = false := by
        have := congrFun (set_more hsz) j
        rw [this] at hv
        simp only [more, Bool.or_eq_false_iff] at hv
        exact hv.1
      exact (List.mem_erase_of_ne hne).2 (hU j hj hv')
    · have hm := hU e.ix hilt h2
      rw [List.length_erase_of_mem hm]; omega
end

theorem drawM_ok {E : Env} (hE : EnvOk E) (hmix : E.P.follows .mixedOrders = true) {R : Recs} {lo : Option Nat} (hR : RecsOk E R) (hp : R.plain = true → lo = none) {ops : Array Oper} {fr fr' : AFr} {S S' : AState}
    (ha : adrawM E ops.toList fr S = some (fr', S')) : DrawFor E lo ops fr fr' S S' := by
  intro σ w a t Q h hf hQ
  unfold adrawM at ha
  split at ha
  · rename_i M hmops
    split at ha
    · rename_i i0 hmd
      rw [obind_some] at ha; obtain ⟨⟨id, S1⟩, hnew, ha⟩ := ha
      cases ha
      obtain ⟨rfl, h64, _, _⟩ := AState.new_some hnew
      have hD := mops_inv ops.toList 0 _ (minv_start (E := E) (all := ops.toList) (id := S.next) hf.small) (by simp) hmops
      simp only [Region.schedule, hmix, Bool.true_or, if_true]
      refine wpAnyIn_sound ops.size t _ a _ ?_
      have hne : ∀ i, (Array.replicate ops.size false).getD i false = false := by
        intro i
        simp only [Array.getD_eq_getD_getElem?, Array.getElem?_replicate]
        split <;> rfl
      refine mdraw_all (σ0 := σ) (w0 := w) (S0 := S) hE hR hp rfl h64 hD hmd hnew hQ ops.size _ (List.range ops.size) fr σ _ a S (by simp) ?_ (fun i hi _ => List.mem_range.2 hi) (by simp)
      refine ⟨fun i hi => ?_, fun e _ hL => ?_, fun _ => rfl, fun j0 _ hL => ?_, h.drew, hf, ?_, fun _ _ => rfl, rfl, rfl, Ext.drew σ S w⟩
      · simp only [hne] at hi; cases hi
      · simp only [hne] at hL; cases hL
      · simp only [hne] at hL; cases hL
      · rintro t ⟨e, _, hL, _⟩
        simp only [hne] at hL; cases hL
    · cases ha
  · cases ha

/-- A REGION THAT DRAWS ITS ORDER -/
theorem draw_ok {E : Env} (hE : EnvOk E) (hmix : E.P.follows .mixedOrders = true) : DrawAll E := by
  intro R lo hR hp ops fr fr' S S' ha
  unfold adraw at ha
  split at ha
  · exact drawM_ok hE hmix hR hp ha
  · exact drawC_ok hE hmix hR hp ha

end Go.AM
