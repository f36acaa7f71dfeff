/- The abstract machine: drawn regions: a map literal, its entries put in in whatever order. -/
import Derived.Test.YtpmbnnobfjjpaaaGreatDoorAmDraw6
namespace Go.AM
set_option linter.unusedVariables false
set_option linter.unusedSimpArgs false

theorem concL_perm {σ : Sig} {a b : List (AV × AV)} (h : a.Perm b) : ∀ {ks vs : List Value}, concL σ (a.map (·.1)) = some ks → concL σ (a.map (·.2)) = some vs →
    ∃ ks' vs', concL σ (b.map (·.1)) = some ks' ∧ concL σ (b.map (·.2)) = some vs' ∧ (ks.zip vs).Perm (ks'.zip vs') ∧ ks.Perm ks' := by
  induction h with
  | nil => intro ks vs h1 h2; exact ⟨ks, vs, h1, h2, .refl _, .refl _⟩
  | cons x _ ih =>
    intro ks vs h1 h2
    obtain ⟨k, ks1, rfl, c1, c2⟩ := concL_cons h1
    obtain ⟨v, vs1, rfl, d1, d2⟩ := concL_cons h2
    obtain ⟨ks', vs', e1, e2, e3, e4⟩ := ih c2 d2
    exact ⟨k :: ks', v :: vs', by simp [concL, c1, e1], by simp [concL, d1, e2], e3.cons _, e4.cons _⟩
  | swap x y l =>
    intro ks vs h1 h2
    obtain ⟨k, ks1, rfl, c1, c2⟩ := concL_cons h1
    obtain ⟨k', ks2, rfl, c3, c4⟩ := concL_cons c2
    obtain ⟨v, vs1, rfl, d1, d2⟩ := concL_cons h2
    obtain ⟨v', vs2, rfl, d3, d4⟩ := concL_cons d2
    exact ⟨k' :: k :: ks2, v' :: v :: vs2, by simp [concL, c1, c3, c4], by simp [concL, d1, d3, d4], .swap _ _ _, .swap _ _ _⟩
  | trans _ _ ih1 ih2 =>
    intro ks vs h1 h2
    obtain ⟨ks', vs', e1, e2, e3, e4⟩ := ih1 h1 h2
    obtain ⟨ks2, vs2, f1, f2, f3, f4⟩ := ih2 e1 e2
    exact ⟨ks2, vs2, f1, f2, e3.trans f3, e4.trans f4⟩

theorem MapRel.perm {σ : Sig} {a b : List (AV × AV)} {M : Array MapEntry} (h : MapRel σ a M) (hp : a.Perm b) : MapRel σ b M := by
  obtain ⟨ks, vs, h1, h2, h3, h4⟩ := h
  obtain ⟨ks', vs', e1, e2, e3, e4⟩ := concL_perm hp h1 h2
  exact ⟨ks', vs', e1, e2, h3.trans e3, (e4.nodup_iff).1 h4⟩

theorem Rel.permMap {σ : Sig} {A B : AState} {w : World} {id : Nat} {a b : List (AV × AV)} (h : Rel σ A w) (hg : A.get id = some (.map a)) (hp : a.Perm b) (hb : ∀ j, B.get j = if j = id then some (.map b) else A.get j) (hn : B.next = A.next) : Rel σ B w := by
  have hex : ∀ j o, B.get j = some o → ∃ o', A.get j = some o' := by
    intro j o ho
    rw [hb] at ho
    split at ho
    · rename_i e; subst e; exact ⟨_, hg⟩
    · exact ⟨o, ho⟩
  refine ⟨fun j hj => h.dom j (by omega), h.blk, ?_, ?_⟩
  · intro j o ho
    rw [hb] at ho
    split at ho
    · rename_i e
      subst e
      cases ho
      obtain ⟨l, hl, M, clock, g1, g2⟩ := h.obj j _ hg
      exact ⟨l, hl, M, clock, g1, g2.perm hp⟩
    · exact h.obj j o ho
  · intro i j o o' l l' ho ho' hl hl' hne
    obtain ⟨x, hx⟩ := hex i o ho
    obtain ⟨y, hy⟩ := hex j o' ho'
    exact h.sep i j x y l l' hx hy hl hl' hne

theorem Ext.permMap {σ σ' : Sig} {S A B : AState} {w w' : World} (h : Ext σ S w σ' A w') (hex : ∀ j o, B.get j = some o → ∃ o', A.get j = some o') (hn : B.next = A.next) : Ext σ S w σ' B w' :=
  ⟨by rw [hn]; exact h.next, h.same, h.size, fun b hb hf => ⟨(h.keep b hb hf).1, fun ⟨id, o, l, h1, h2, h3⟩ => let ⟨o', ho'⟩ := hex id o h1; (h.keep b hb hf).2 ⟨id, o', l, ho', h2, h3⟩⟩, h.os, h.tape, h.output⟩

/-! ### what is known -/
def MFact (E : Env) (id : Nat) (M : MR) (e : Ent) : Prop :=
  match e.kind with
  | .new => (∃ t, e.op.op = .makeMap t none) ∧ e.val = .map id ∧ M.made = some e.ix
  | .write => e.val = undefA ∧ ∃ t kt et m kx vx, e.op.op = .insert t m kx vx ∧ E.P.underlying t = some (.map kt et) ∧ M.fr.eval m = .map id ∧ (∃ i0, M.made = some i0 ∧ i0 ∈ e.bef) ∧
      ∃ x ∈ M.ins, x.ix = e.ix ∧ x.k = M.fr.eval kx ∧ x.v = M.fr.eval vx ∧ x.k.flat = some x.key ∧ keyOk E.P kt x.key = true
  | .read => ∀ S, aop E M.fr S e.op = some (.val e.val, S)
  | _ => False

structure MInv (E : Env) (all : List Oper) (fr0 : AFr) (id k : Nat) (M : MR) : Prop where
  b : DBase all fr0 k M.ents M.fr
  grd : ∀ e ∈ M.ents, e.op.guard = none
  kind : ∀ e ∈ M.ents, MFact E id M e
  made : ∀ i, M.made = some i → ∃ e ∈ M.ents, e.ix = i ∧ e.kind = .new
  mix : ∀ m ∈ M.ins, ∃ e ∈ M.ents, e.ix = m.ix ∧ e.kind = .write
  mnd : (M.ins.map (·.ix)).Nodup
  flat : ∀ m ∈ M.ins, m.k.flat = some m.key
  apart : ∀ m ∈ M.ins, ∀ m' ∈ M.ins, m.ix ≠ m'.ix → keyEq m.key m'.key = some false

theorem apartKeys_ok {kv : Value} : ∀ {l : List MIns}, apartKeys kv l = true → ∀ m ∈ l, keyEq kv m.key = some false ∧ keyEq m.key kv = some false
  | x :: r, h, m, hm => by
    simp only [apartKeys, Bool.and_eq_true] at h
    rcases List.mem_cons.1 hm with rfl | hm
    · have := h.1
      split at this
      · rename_i h1 h2; exact ⟨h1, h2⟩
      · cases this
    · exact apartKeys_ok h.2 m hm

theorem MFact.step {E : Env} {id : Nat} {M : MR} {e : Ent} {all : List Oper} (h : MFact E id M e) (htm : e.tmps = operTmps e.op.op.operands.toList ++ guardTmps all e.op) {fr : AFr} (hf : ∀ t ∈ e.tmps, fr.get t = M.fr.get t)
    {made : Option Nat} (hm : M.made = none ∨ made = M.made) {ins : List MIns} (hi : ∀ m ∈ M.ins, m ∈ ins) {ents : List Ent} : MFact E id { fr, ents, made, ins } e := by
  have h1 : Agree e.op.op.operands.toList fr M.fr := agree_of fun t ht => hf t (by rw [htm]; simp [ht])
  have hmd : ∀ i, M.made = some i → made = some i := by
    intro i hi
    rcases hm with hm | hm
    · rw [hm] at hi; cases hi
    · rw [hm]; exact hi
  unfold MFact at h ⊢
  cases hk : e.kind <;> rw [hk] at h <;> simp only at h ⊢
  · exact ⟨h.1, h.2.1, hmd _ h.2.2⟩
  · intro S; rw [aop_congr h1]; exact h S
  · obtain ⟨k1, t, kt, et, m, kx, vx, k2, k3, k4, ⟨i0, k5, k6⟩, x, k7, k8, k9, k10, k11, k12⟩ := h
    rw [k2] at h1
    refine ⟨k1, t, kt, et, m, kx, vx, k2, k3, ?_, ⟨i0, hmd _ k5, k6⟩, x, hi x k7, k8, ?_, ?_, k11, k12⟩
    · rw [h1 m (by simp [Op.operands])]; exact k4
    · rw [h1 kx (by simp [Op.operands])]; exact k9
    · rw [h1 vx (by simp [Op.operands])]; exact k10

set_option maxHeartbeats 1000000 in
theorem mstep_inv {E : Env} {all : List Oper} {fr0 : AFr} {id k : Nat} {o : Oper} {M M' : MR} (h : MInv E all fr0 id k M) (ho : all[k]? = some o) (hs : mstep E all id k o M = some M') : MInv E all fr0 id (k + 1) M' := by
  have hlt : ∀ x ∈ M.ents, x.ix < k := fun x hx => (h.b.at_ix hx).2
  unfold mstep at hs
  split at hs
  · cases hs
  · rename_i bef hb
    split at hs
    case isFalse => cases hs
    rename_i htm0
    simp only [Bool.and_eq_true, Option.isNone_iff_eq_none] at htm0
    obtain ⟨htm, hgd⟩ := htm0
    have step := fun kind v => base_step h.b ho hb htm kind v
    have hag : ∀ v, Agree o.op.operands.toList (M.fr.put o.dst v) M.fr := fun v => agree_of fun t ht => (step .skip v).2.2 t (List.mem_append.2 (.inl ht))
    have hgrd : ∀ (e : Ent), e.op = o → ∀ x ∈ M.ents ++ [e], x.op.guard = none := by
      intro e he x hx
      rcases List.mem_append.1 hx with hx | hx
      · exact h.grd x hx
      · simp only [List.mem_singleton] at hx; subst hx; rw [he]; exact hgd
    split at hs
    · -- the map is laid
      rename_i t hop
      split at hs
      · rename_i hmade
        cases hs
        refine ⟨(step .new (.map id)).1, hgrd _ rfl, ?_, ?_, ?_, h.mnd, h.flat, h.apart⟩
        · intro x hx
          rcases List.mem_append.1 hx with hx | hx
          · exact (h.kind x hx).step (h.b.tm x hx) ((step .skip (.map id)).2.1 x hx) (.inl hmade) (fun m hm => hm)
          · simp only [List.mem_singleton] at hx; subst hx
            exact ⟨⟨t, hop⟩, rfl, rfl⟩
        · intro i hi
          cases hi
          exact ⟨_, List.mem_append.2 (.inr (List.mem_singleton.2 rfl)), rfl, rfl⟩
        · intro m hm
          obtain ⟨e, h1, h2⟩ := h.mix m hm
          exact ⟨e, List.mem_append.2 (.inl h1), h2⟩
      · cases hs
    · -- an entry is put in
      rename_i t m kx vx hop
      split at hs
      · rename_i i0 j kt et hmade hm hu
        rw [obind_some] at hs; obtain ⟨kv, hkv, hs⟩ := hs
        split at hs
        · rename_i hc
          simp only [Bool.and_eq_true, beq_iff_eq, List.contains_iff_mem] at hc
          obtain ⟨⟨⟨rfl, hi0⟩, hko⟩, hap⟩ := hc
          have hap := apartKeys_ok hap
          cases hs
          have hmk : ∀ m' ∈ M.ins, m'.ix < k := fun m' hm' => by
            obtain ⟨e, h1, h2, _⟩ := h.mix m' hm'
            have := hlt e h1; omega
          refine ⟨(step .write undefA).1, hgrd _ rfl, ?_, ?_, ?_, ?_, ?_, ?_⟩
          · intro x hx
            rcases List.mem_append.1 hx with hx | hx
            · exact (h.kind x hx).step (h.b.tm x hx) ((step .skip undefA).2.1 x hx) (.inr rfl) (fun m hm => List.mem_append.2 (.inl hm))
            · simp only [List.mem_singleton] at hx; subst hx
              have h1 := hag undefA
              rw [hop] at h1
              refine ⟨rfl, t, kt, et, m, kx, vx, hop, hu, ?_, ⟨i0, hmade, hi0⟩, _, List.mem_append.2 (.inr (List.mem_singleton.2 rfl)), rfl, ?_, ?_, hkv, hko⟩
              · rw [h1 m (by simp [Op.operands])]; exact hm
              · rw [h1 kx (by simp [Op.operands])]
              · rw [h1 vx (by simp [Op.operands])]
          · intro i hi
            obtain ⟨e, h1, h2⟩ := h.made i hi
            exact ⟨e, List.mem_append.2 (.inl h1), h2⟩
          · intro m' hm'
            rcases List.mem_append.1 hm' with hm' | hm'
            · obtain ⟨e, h1, h2⟩ := h.mix m' hm'
              exact ⟨e, List.mem_append.2 (.inl h1), h2⟩
            · simp only [List.mem_singleton] at hm'; subst hm'
              exact ⟨_, List.mem_append.2 (.inr (List.mem_singleton.2 rfl)), rfl, rfl⟩
          · rw [List.map_append, List.nodup_append]
            refine ⟨h.mnd, by simp, ?_⟩
            intro a ha b hb'
            simp only [List.map_cons, List.map_nil, List.mem_singleton] at hb'
            obtain ⟨m', hm', rfl⟩ := List.mem_map.1 ha
            have := hmk m' hm'
            omega
          · intro m' hm'
            rcases List.mem_append.1 hm' with hm' | hm'
            · exact h.flat m' hm'
            · simp only [List.mem_singleton] at hm'; subst hm'; exact hkv
          · intro x hx y hy hne
            rcases List.mem_append.1 hx with hx | hx <;> rcases List.mem_append.1 hy with hy | hy
            · exact h.apart x hx y hy hne
            · simp only [List.mem_singleton] at hy; subst hy; exact (hap x hx).2
            · simp only [List.mem_singleton] at hx; subst hx; exact (hap y hy).1
            · simp only [List.mem_singleton] at hx hy; subst hx; subst hy; exact absurd rfl hne
        · cases hs
      · cases hs
    · -- it only reckons
      split at hs
      · rename_i hrd
        simp only [Bool.and_eq_true, Bool.not_eq_true'] at hrd
        split at hs
        · rename_i v S1 hop
          cases hs
          refine ⟨(step .read v).1, hgrd _ rfl, ?_, ?_, ?_, h.mnd, h.flat, h.apart⟩
          · intro x hx
            rcases List.mem_append.1 hx with hx | hx
            · exact (h.kind x hx).step (h.b.tm x hx) ((step .skip v).2.1 x hx) (.inr rfl) (fun m hm => hm)
            · simp only [List.mem_singleton] at hx; subst hx
              intro S
              simp only
              rw [aop_congr (hag v)]
              exact reader_free hrd.1 hrd.2 hop S
          · intro i hi
            obtain ⟨e, h1, h2⟩ := h.made i hi
            exact ⟨e, List.mem_append.2 (.inl h1), h2⟩
          · intro m hm
            obtain ⟨e, h1, h2⟩ := h.mix m hm
            exact ⟨e, List.mem_append.2 (.inl h1), h2⟩
        · cases hs
      · cases hs

theorem mops_inv {E : Env} {all : List Oper} {fr0 : AFr} {id : Nat} {M' : MR} : ∀ (os : List Oper) (k : Nat) (M : MR), MInv E all fr0 id k M → all.drop k = os → mops E all id k os M = some M' → MInv E all fr0 id all.length M'
  | [], k, M, h, hd, hs => by
    simp only [mops] at hs; cases hs
    have h1 : k ≤ all.length := by
      have := congrArg List.length h.b.ops
      rw [List.length_map, h.b.len, List.length_take] at this
      omega
    have h2 : all.length ≤ k := List.drop_eq_nil_iff.1 hd
    have : k = all.length := by omega
    rw [← this]; exact h
  | o :: r, k, M, h, hd, hs => by
    simp only [mops] at hs
    split at hs
    · rename_i M1 h1
      have ho : all[k]? = some o := by
        have : (all.drop k)[0]? = some o := by rw [hd]; rfl
        simpa using this
      refine mops_inv r (k + 1) M1 (mstep_inv h ho h1) ?_ hs
      have := congrArg List.tail hd
      simpa using this
    · cases hs

theorem minv_start {E : Env} {all : List Oper} {fr : AFr} {id : Nat} (hs : fr.size ≤ 512) : MInv E all fr id 0 { fr, ents := [], made := none, ins := [] } := by
  refine ⟨⟨by simp, by simp, hs, rfl, rfl, fun _ _ => rfl, ?_, ?_, ?_, ?_, ?_, ?_⟩, ?_, ?_, ?_, ?_, by simp, ?_, ?_⟩ <;> intro x hx <;> cases hx

end Go.AM
