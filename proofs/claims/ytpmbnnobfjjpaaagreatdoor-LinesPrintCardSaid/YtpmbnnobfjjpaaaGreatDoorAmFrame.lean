/- The abstract machine: frames; one operation of a region; a row of them. -/
import Derived.Test.YtpmbnnobfjjpaaaGreatDoorAmOps11
namespace Go.AM
set_option linter.unusedVariables false
set_option linter.unusedSimpArgs false

/-- the fence of a frame: wide; of a round of the loop in that block -/
def fence : Option Nat → Fence
  | none => Fence.wide
  | some l => Fence.wide.inRound l
theorem fence_fn (lo : Option Nat) (f : FuncId) : (fence lo).fn f := by cases lo <;> trivial
theorem fence_depth (lo : Option Nat) : (fence lo).depth.isSome = true → 1 ≤ 0 := by cases lo <;> simp [fence, Fence.wide]
theorem fence_round (lo : Option Nat) : (fence lo).round = lo := by cases lo <;> rfl
theorem calls_fence {lo : Option Nat} {P : Program} {f : FuncId} {args : Array Value} {w : World} {R : Ending → World → Prop} (h : CallsIn Fence.wide 0 P f args w R) : CallsIn (fence lo) 0 P f args w R := by
  cases lo <;> exact h
theorem round_fence {lo : Option Nat} {P : Program} {l : Nat} {f : FuncId} {tmps : Array Value} {as bd : Code} {w : World} {R : Ending → World → Prop} (h : RoundIn Fence.wide 0 P l f tmps as bd w R) :
    RoundIn (fence lo) 0 P l f tmps as bd w R := by
  cases lo <;> exact h

def DefRel (σ : Sig) : ADef → Deferred → Prop
  | .call d, D => ∃ cap us, D = { target := .fn d.fn cap.toArray, args := us.toArray } ∧ concL σ d.captured = some cap ∧ concL σ d.args = some us
  | .mark id, D => ∃ l, σ id = some l ∧ D = { target := .collected l.block, args := #[] }

inductive DefsRel (σ : Sig) : List ADef → List Deferred → Prop
  | nil : DefsRel σ [] []
  | cons {d : ADef} {D : Deferred} {ds : List ADef} {Ds : List Deferred} (h : DefRel σ d D) (t : DefsRel σ ds Ds) : DefsRel σ (d :: ds) (D :: Ds)

theorem DefRel.mono {σ σ' : Sig} (hle : σ.le σ') {d : ADef} {D : Deferred} (h : DefRel σ d D) : DefRel σ' d D := by
  cases d with
  | call d => obtain ⟨cap, us, h1, h2, h3⟩ := h; exact ⟨cap, us, h1, concL_mono hle _ _ h2, concL_mono hle _ _ h3⟩
  | mark id => obtain ⟨l, h1, h2⟩ := h; exact ⟨l, hle _ _ h1, h2⟩
theorem DefsRel.mono {σ σ' : Sig} (hle : σ.le σ') {ds : List ADef} {Ds : List Deferred} (h : DefsRel σ ds Ds) : DefsRel σ' ds Ds := by
  induction h with
  | nil => exact .nil
  | cons h _ ih => exact .cons (h.mono hle) ih
theorem DefsRel.append {σ : Sig} {a : List ADef} {A : List Deferred} {b : List ADef} {B : List Deferred} (h : DefsRel σ a A) (k : DefsRel σ b B) : DefsRel σ (a ++ b) (A ++ B) := by
  induction h with
  | nil => exact k
  | cons h _ ih => exact .cons h ih

structure FrRel (σ : Sig) (fr : AFr) (a : Act) : Prop where
  size : a.tmps.size = fr.size
  small : fr.size ≤ 512
  tmp : ∀ t, conc σ (fr.get t) = some (a.tmps.getD t undef)
  dfs : DefsRel σ fr.defers a.defers

theorem FrRel.mono {σ σ' : Sig} (hle : σ.le σ') {fr : AFr} {a : Act} (h : FrRel σ fr a) : FrRel σ' fr a :=
  ⟨h.size, h.small, fun t => conc_mono hle _ _ (h.tmp t), h.dfs.mono hle⟩

theorem FrRel.eval {σ : Sig} {fr : AFr} {a : Act} (h : FrRel σ fr a) (x : Operand) : conc σ (fr.eval x) = some (a.eval x) := by
  cases x with
  | tmp t => exact h.tmp t
  | const v => rfl
  | global g => rfl
  | func f => rfl

theorem conc_undef (σ : Sig) : conc σ undefA = some undef := rfl

theorem FrRel.put {σ : Sig} {fr : AFr} {a : Act} (h : FrRel σ fr a) (dst : Option Tmp) {v : AV} {u : Value} (hv : conc σ v = some u) : FrRel σ (fr.put dst v) (a.put dst u) := by
  cases dst with
  | none => exact h
  | some d =>
    refine ⟨by simp [Act.put, h.size], by simpa using h.small, fun t => ?_, by simpa [Act.put] using h.dfs⟩
    rw [AFr.get_put fr d t v h.small]
    simp only [Act.put]
    by_cases c : t = d ∧ d < fr.size
    · obtain ⟨rfl, hd⟩ := c
      rw [if_pos ⟨rfl, hd⟩, hv]
      have : t < a.tmps.size := by rw [h.size]; exact hd
      simp [this]
    · rw [if_neg c, h.tmp t]
      congr 1
      simp only [Array.getD_eq_getD_getElem?, Array.getElem?_setIfInBounds]
      by_cases e : d = t
      · subst e
        have hd : ¬ d < a.tmps.size := by rw [h.size]; intro h'; exact c ⟨rfl, h'⟩
        simp [hd]
      · simp [e]

theorem FrRel.push {σ : Sig} {fr : AFr} {a : Act} (h : FrRel σ fr a) {ds : List ADef} {Ds : List Deferred} (hd : DefsRel σ ds Ds) : FrRel σ { fr with defers := ds ++ fr.defers } { a with defers := Ds ++ a.defers } :=
  ⟨h.size, h.small, h.tmp, hd.append h.dfs⟩

theorem bool_of {σ : Sig} {v : AV} {b : Bool} (h : conc σ v = some (.bool b)) : v = .lit (.bool b) := by
  cases v <;> simp only [conc] at h
  case lit x => cases h; rfl
  all_goals
    (repeat' split at h) <;> cases h

theorem wanted_ok {σ : Sig} {fr : AFr} {a : Act} (h : FrRel σ fr a) (ops : Array Oper) (o : Oper) : aWanted ops.toList fr o = Region.wanted o (yielded ops a.tmps) := by
  cases hg : o.guard with
  | none => simp [aWanted, Region.wanted, hg]
  | some p =>
    obtain ⟨j, want⟩ := p
    simp only [aWanted, Region.wanted, hg, yielded, Array.getElem?_toList]
    cases hj : ops[j]? with
    | none => rfl
    | some g =>
      cases hd : g.dst with
      | none => simp [hd]
      | some d =>
        have ht := h.tmp d
        by_cases hlt : d < a.tmps.size
        · have e : a.tmps.getD d undef = a.tmps[d] := by simp [hlt]
          rw [e] at ht
          simp only [hd, Option.bind_some, Array.getElem?_eq_getElem hlt]
          cases hv : a.tmps[d] with
          | bool b =>
            rw [hv] at ht
            rw [bool_of ht]
            rfl
          | _ =>
            split
            · rename_i b hb
              rw [hb, hv] at ht
              simp [conc] at ht
            · rfl
        · have hlt' : ¬ d < fr.size := by rw [← h.size]; exact hlt
          simp [hd, hlt, AFr.get, hlt', undefA]

/-- what a call, a round, a deferred call of the abstract machine's means -/
def RetPost (σ : Sig) (S : AState) (w : World) (v : AV) (S' : AState) : Ending → World → Prop := fun e w' => ∃ u σ', e = .returned u ∧ conc σ' v = some u ∧ Rel σ' S' w' ∧ Ext σ S w σ' S' w'

structure RecsOk (E : Env) (R : Recs) : Prop where
  call : ∀ f args S v S', R.call f args S = some (v, S') → ∀ σ w us, Rel σ S w → concL σ args = some us → CallsIn Fence.wide 0 E.P f us.toArray w (RetPost σ S w v S')
  round : ∀ id args S v S', R.round id args S = some (v, S') → ∀ σ w us l, Rel σ S w → σ id = some l → concL σ args = some us →
    ∃ f tmps as bd, (Instr.yield l.block us.toArray).run E.P w = .ok (.round l.block f tmps as bd) w ∧ RoundIn Fence.wide 0 E.P l.block f tmps as bd w (RetPost σ S w v S')
  dcall : ∀ f args S S', R.dcall f args S = some S' → ∀ σ w us u, Rel σ S w → concL σ args = some us →
    (∃ fn c, E.P.funcs[f]? = some fn ∧ fn.body = some c) ∧ CallsDIn Fence.wide 0 E.P f us.toArray u w (fun e u' w' => u' = u ∧ (∃ v, e = .returned v) ∧ ∃ σ', Rel σ' S' w' ∧ Ext σ S w σ' S' w')

theorem aop_defer {E : Env} {fr : AFr} {S S' : AState} {o : Oper} {nx : ANext} {c : Call} (h : aop E fr S o = some (nx, S')) (ho : o.op = .defer c) : ∃ d, nx = .dfr d := by
  unfold aop at h
  rw [ho] at h
  simp only at h
  split at h
  · rw [obind_some] at h; obtain ⟨x, _, h⟩ := h; cases h; exact ⟨_, rfl⟩
  · cases h

/-- ONE OPERATION WITHIN A REGION -/
theorem aoper_ok {E : Env} (hE : EnvOk E) {R : Recs} (hR : RecsOk E R) {lo : Option Nat} (hp : R.plain = true → lo = none) {fr fr' : AFr} {S S' : AState} {σ : Sig} {w : World} {a : Act} {o : Oper}
    {next : Act → World → Prop} {Q : Exit → Act → World → Prop} (h : Rel σ S w) (hf : FrRel σ fr a) (ha : aoper E R o fr S = some (fr', S'))
    (hnext : ∀ σ' w' a', Rel σ' S' w' → FrRel σ' fr' a' → Ext σ S w σ' S' w' → next a' w') : o.wpIn (fence lo) 0 E.P a w next Q := by
  refine ⟨fun f _ => fence_fn lo f, ?_⟩
  rw [fence_round]
  have hsem : (∀ c, o.op ≠ .defer c) → o.semAt lo a.eval = execOp a.eval o := Oper.semAt_eq lo a.eval o
  unfold aoper at ha
  cases hop : aop E fr S o with
  | none => rw [hop] at ha; cases ha
  | some p =>
    obtain ⟨nx, S1⟩ := p
    rw [hop] at ha
    have hn := aop_ok hE h hf.eval hop
    have hd : ∀ c, o.op = .defer c → ∃ d, nx = .dfr d := fun c hc => aop_defer hop hc
    cases nx with
    | val v =>
      cases ha
      rw [hsem (fun c hc => by obtain ⟨d, hd⟩ := hd c hc; cases hd)]
      obtain ⟨σ', w', hr, h2, h3⟩ := hn
      have hle := h3.le h.dom
      rcases hr with ⟨u, h1, hv⟩ | ⟨h1, rfl⟩
      · rw [h1, Oper.uponIn_value]
        exact hnext σ' w' _ h2 ((hf.mono hle).put _ hv) h3
      · rw [h1, Oper.uponIn_skip]
        exact hnext σ' w' _ h2 ((hf.mono hle).put _ (conc_undef σ')) h3
    | enter f args =>
      rw [hsem (fun c hc => by obtain ⟨d, hd⟩ := hd c hc; cases hd)]
      obtain ⟨rfl, us, h1, h2⟩ := hn
      rw [h1, Oper.uponIn_enter]
      simp only at ha
      split at ha
      · rename_i v S2 hcall
        cases ha
        refine ⟨fence_depth lo, (calls_fence (hR.call f args _ _ _ hcall σ w us h h2)).mono fun e w' he => ?_⟩
        obtain ⟨u, σ', rfl, hv, k2, k3⟩ := he
        exact hnext σ' w' _ k2 ((hf.mono (k3.le h.dom)).put _ hv) k3
      · cases ha
    | round id args =>
      rw [hsem (fun c hc => by obtain ⟨d, hd⟩ := hd c hc; cases hd)]
      obtain ⟨rfl, l, us, hl, h2, h1⟩ := hn
      simp only at ha
      split at ha
      · rename_i v S2 hcall
        cases ha
        obtain ⟨f, tmps, as, bd, hy, hrd⟩ := hR.round id args _ _ _ hcall σ w us l h hl h2
        rw [h1, hy, Oper.uponIn_round]
        refine ⟨fence_depth lo, (round_fence hrd).mono fun e w' he => ?_⟩
        obtain ⟨u, σ', rfl, hv, k2, k3⟩ := he
        exact hnext σ' w' _ k2 ((hf.mono (k3.le h.dom)).put _ hv) k3
      · cases ha
    | dfr d =>
      simp only at ha
      split at ha
      · rename_i hpl
        cases ha
        obtain rfl := hp hpl
        obtain ⟨rfl, cap, us, h1, h2, h3⟩ := hn
        rw [Oper.semAt_none, h1, Oper.uponIn_defer]
        refine hnext σ w _ h ?_ (Ext.refl σ _ w)
        have := hf.push (ds := [.call d]) (.cons ⟨cap, us, rfl, h2, h3⟩ .nil)
        exact this.put _ (conc_undef σ)
      · cases ha

/-- a row of operations, by their places -/
inductive At (ops : Array Oper) : List Nat → List Oper → Prop
  | nil : At ops [] []
  | cons {i : Nat} {o : Oper} {l : List Nat} {r : List Oper} (h : ops[i]? = some o) (t : At ops l r) : At ops (i :: l) (o :: r)

theorem at_range (ops : Array Oper) : At ops (List.range ops.size) ops.toList := by
  have key : ∀ (k i : Nat), i + k = ops.size → At ops (List.range' i k) (ops.toList.drop i) := by
    intro k
    induction k with
    | zero =>
      intro i hi
      have : ops.toList.drop i = [] := List.drop_eq_nil_of_le (by simp; omega)
      rw [this]; exact .nil
    | succ k ih =>
      intro i hi
      rw [List.range'_succ, List.drop_eq_getElem_cons (by simp; omega)]
      exact .cons (by simp [Array.getElem?_eq_getElem (show i < ops.size by omega)]) (ih (i + 1) (by omega))
  have := key ops.size 0 (by omega)
  simpa [List.range_eq_range'] using this

theorem aops_ok {E : Env} (hE : EnvOk E) {R : Recs} (hR : RecsOk E R) {lo : Option Nat} (hp : R.plain = true → lo = none) {ops : Array Oper} {Q : Exit → Act → World → Prop} {fr' : AFr} {S' : AState} :
    ∀ {l : List Nat} {os : List Oper}, At ops l os → ∀ {fr : AFr} {S : AState} {σ : Sig} {w : World} {a : Act}, Rel σ S w → FrRel σ fr a → aops E R ops.toList os fr S = some (fr', S') →
      (∀ σ' w' a', Rel σ' S' w' → FrRel σ' fr' a' → Ext σ S w σ' S' w' → Q .normal a' w') → wpOpsIn (fence lo) 0 E.P ops Q l a w := by
  intro l os hat
  induction hat with
  | nil =>
    intro fr S σ w a h hf ha hQ
    cases ha
    exact hQ σ w a h hf (Ext.refl σ _ w)
  | cons ho _ ih =>
    intro fr S σ w a h hf ha hQ
    simp only [wpOpsIn, ho]
    simp only [aops] at ha
    rw [← wanted_ok hf ops _]
    split at ha
    · rename_i hw
      rw [if_pos hw]
      split at ha
      · rename_i fr1 S1 hop
        exact aoper_ok hE hR hp h hf hop fun σ1 w1 a1 h1 f1 e1 =>
          ih h1 f1 ha fun σ2 w2 a2 h2 f2 e2 => hQ σ2 w2 a2 h2 f2 (e1.trans e2)
      · cases ha
    · rename_i hw
      rw [if_neg hw]
      exact ⟨fun f _ => fence_fn lo f, ih h (hf.put _ (conc_undef σ)) ha hQ⟩

end Go.AM
