/- The abstract machine: code. -/
import Derived.Test.YtpmbnnobfjjpaaaGreatDoorAmFrame
namespace Go.AM
set_option linter.unusedVariables false
set_option linter.unusedSimpArgs false

/-- a region that draws its order, whatever the order -/
def DrawFor (E : Env) (lo : Option Nat) (ops : Array Oper) (fr fr' : AFr) (S S' : AState) : Prop :=
  ∀ (σ : Sig) (w : World) (a : Act) (t : Nat) (Q : Exit → Act → World → Prop), Rel σ S w → FrRel σ fr a →
    (∀ σ' w' a', Rel σ' S' w' → FrRel σ' fr' a' → Ext σ S w σ' S' w' → Q .normal a' w') → wpOpsIn (fence lo) 0 E.P ops Q (Region.schedule (E.P.follows .mixedOrders) ops t) a { w with drawn := w.drawn + 1 }
def DrawOk (E : Env) (R : Recs) (lo : Option Nat) : Prop :=
  ∀ (ops : Array Oper) (fr fr' : AFr) (S S' : AState), adraw E R ops.toList fr S = some (fr', S') → DrawFor E lo ops fr fr' S S'

def exitOf : AExit → Exit
  | .normal => .normal
  | .exit id => .exit id
  | .ret => .ret

/-- the round's loop lies in that block -/
def LoOk (σ : Sig) : Option Nat → Option Nat → Prop
  | none, lo => lo = none
  | some id, lo => ∃ l, σ id = some l ∧ lo = some l.block
theorem LoOk.mono {σ σ' : Sig} (hle : σ.le σ') {rnd lo : Option Nat} (h : LoOk σ rnd lo) : LoOk σ' rnd lo := by
  cases rnd with
  | none => exact h
  | some id => obtain ⟨l, h1, h2⟩ := h; exact ⟨l, hle _ _ h1, h2⟩

def Post (σ : Sig) (S : AState) (w : World) (e : AExit) (fr' : AFr) (S' : AState) : Exit → Act → World → Prop :=
  fun e' a' w' => e' = exitOf e ∧ ∃ σ', Rel σ' S' w' ∧ FrRel σ' fr' a' ∧ Ext σ S w σ' S' w'

theorem least {p : Nat → Prop} (h : ∃ k, p k) : ∃ k, p k ∧ ∀ j, p j → k ≤ j := by
  obtain ⟨k, hk⟩ := h
  induction k using Nat.strongRecOn with
  | _ k ih =>
    by_cases c : ∃ j, j < k ∧ p j
    · obtain ⟨j, hj, hp⟩ := c; exact ih j hj hp
    · refine ⟨k, hk, fun j hj => ?_⟩
      rcases Nat.lt_or_ge j k with h | h
      · exact absurd ⟨j, h, hj⟩ c
      · exact h

/-- a loop, by a number that falls -/
theorem loop_k {F : Fence} {n : Nat} {P : Program} {c : Code} {Q : Exit → Act → World → Prop} {a : Act} {w : World} (J : Nat → Act → World → Prop) {k : Nat} (h0 : J k a w)
    (round : ∀ k a w, J k a w → c.wpIn F n P (Exit.then (fun a' w' => ∃ j, j < k ∧ J j a' w') Q) a w) : (Code.loop c).wpIn F n P Q a w := by
  classical
  let μ : Act → World → Nat := fun a w => if h : ∃ k, J k a w then (least h).choose else 0
  refine wpIn_loop (fun a w => ∃ k, J k a w) μ ⟨k, h0⟩ fun a w hI => ?_
  have hμ : μ a w = (least hI).choose := by simp only [μ]; rw [dif_pos hI]
  have hs := (least hI).choose_spec
  refine wpIn_mono (round _ a w hs.1) fun e a' w' he => ?_
  cases e with
  | normal =>
    obtain ⟨j, hj, hJ⟩ := he
    refine ⟨⟨j, hJ⟩, ?_⟩
    rw [hμ]
    have hI' : ∃ k, J k a' w' := ⟨j, hJ⟩
    have : μ a' w' = (least hI').choose := by simp only [μ]; rw [dif_pos hI']
    rw [this]
    exact Nat.lt_of_le_of_lt ((least hI').choose_spec.2 j hJ) hj
  | exit id => exact he
  | goto l => exact he
  | ret => exact he
  | panic ch => exact he
  | outgrown => exact he

/-- behind a piece that ends as it does: what is asked of each end -/
theorem Post.mono {σ : Sig} {S : AState} {w : World} {e : AExit} {fr' : AFr} {S' : AState} {Q : Exit → Act → World → Prop}
    (hQ : ∀ σ' w' a', Rel σ' S' w' → FrRel σ' fr' a' → Ext σ S w σ' S' w' → Q (exitOf e) a' w') : ∀ e' a' w', Post σ S w e fr' S' e' a' w' → Q e' a' w' := by
  rintro e' a' w' ⟨rfl, σ', h1, h2, h3⟩
  exact hQ σ' w' a' h1 h2 h3

/-! ### a range over a function -/
theorem run_getObj_loop {P : Program} {w : World} {l : Nat} {r : Loop} (h : w.heap[l]? = some (.loop r)) : (getObj l).run P w = .ok (.loop r) w := by simp [getObj, Sem.run, h]
theorem run_getObj_deferred {P : Program} {w : World} {l : Nat} {r : Option (List Deferred)} (h : w.heap[l]? = some (.deferred r)) : (getObj l).run P w = .ok (.deferred r) w := by simp [getObj, Sem.run, h]

theorem get_tmps {σ : Sig} {fr : AFr} {a : Act} (h : FrRel σ fr a) (t : Nat) (ht : t < fr.size) : ∃ u, conc σ (match T.get FD fr.tmps t with | some v => v | none => undefA) = some u ∧ a.tmps[t]? = some u := by
  have hs : t < a.tmps.size := by rw [h.size]; exact ht
  refine ⟨a.tmps[t], ?_, Array.getElem?_eq_getElem hs⟩
  have := h.tmp t
  simp only [AFr.get, ht, if_true] at this
  cases hT : T.get FD fr.tmps t with
  | none => rw [hT] at this; simpa [hs] using this
  | some v => rw [hT] at this; simpa [hs] using this

theorem beq_busy {st : LoopState} : (st == .busy) = true ↔ st = .busy := by cases st <;> decide

theorem endLoop_ok {P : Program} {σ : Sig} {S S' : AState} {w : World} {id : Nat} {l : Loc} {e : AExit} (h : Rel σ S w) (hl : σ id = some l) (ha : aendLoop S id = some (e, S')) :
    ∃ jump w', (Instr.endLoop l.block).run P w = .ok jump w' ∧ Rel σ S' w' ∧ Ext σ S w σ S' w' ∧
      ((e = .normal ∧ jump = none) ∨ (e = .ret ∧ jump = some .ret) ∨ ∃ k, e = .exit k ∧ jump = some (.exit k)) := by
  unfold aendLoop at ha
  split at ha
  · rename_i st pend tmps size params as bd dblk hg
    split at ha
    · cases ha
    · rename_i hst
      obtain ⟨l', hl', ld, fn, tm, g1, g2, g3, g4, g5⟩ := h.obj id _ hg
      rw [hl] at hl'; cases hl'
      have hlt := h.blk id l hl
      have hnb : ¬ (st == LoopState.busy) = true := hst
      obtain ⟨r1, r2⟩ := rel_put (o' := .loop .exhausted pend tmps size params as bd dblk)
        (w' := setBlk w l.block (.loop { state := .exhausted, pending := pend, fn, tmps := tm, params := params.toArray, assign := as, body := bd, defers := ld.block })) h hg hl (by simp [setBlk]) (fun b hb => setBlk_other _ _ _ _ hb) rfl rfl rfl
        ⟨ld, fn, tm, g1, setBlk_self _ _ _ hlt, g3, g4, g5⟩
      have hrun : (Instr.endLoop l.block).run P w = .ok pend (setBlk w l.block (.loop { state := .exhausted, pending := pend, fn, tmps := tm, params := params.toArray, assign := as, body := bd, defers := ld.block })) := by
        have hset := fun O => run_setObj_at (P := P) O g2 (by simp)
        simp only [Instr.endLoop, Instr.getLoop, Sem.run_bind, run_getObj_loop g2, Result.andThen_ok, Sem.run_pure, if_neg hst, hset]
      split at ha
      · cases ha; exact ⟨_, _, hrun, r1, r2, .inl ⟨rfl, rfl⟩⟩
      · cases ha; exact ⟨_, _, hrun, r1, r2, .inr (.inl ⟨rfl, rfl⟩)⟩
      · cases ha; exact ⟨_, _, hrun, r1, r2, .inr (.inr ⟨_, rfl, rfl⟩)⟩
      · cases ha
  · cases ha

theorem loop_new {σ : Sig} {S S' : AState} {w : World} {fr : AFr} {a : Act} {ps : Array Tmp} {as bd : Code} {dblk id : Nat} {ld : Loc} {fn : FuncId} (h : Rel σ S w) (hf : FrRel σ fr a) (hd : σ dblk = some ld)
    (hn : S.new (.loop .ready none fr.tmps fr.size ps.toList as bd dblk) = some (id, S')) :
    ∃ σ', σ' id = some ⟨w.heap.size, 0, 0, 0⟩ ∧ Rel σ' S' (w.alloc (.loop { state := .ready, pending := none, fn, tmps := a.tmps, params := ps, assign := as, body := bd, defers := ld.block })) ∧
      Ext σ S w σ' S' (w.alloc (.loop { state := .ready, pending := none, fn, tmps := a.tmps, params := ps, assign := as, body := bd, defers := ld.block })) := by
  obtain ⟨rfl, _⟩ := AState.new_some hn
  have hσ : σ S.next = none := h.dom _ (Nat.le_refl _)
  have hle := upd_le (l := ⟨w.heap.size, 0, 0, 0⟩) hσ
  obtain ⟨r1, r2⟩ := rel_new h hn (.loop { state := .ready, pending := none, fn, tmps := a.tmps, params := ps, assign := as, body := bd, defers := ld.block }) ⟨w.heap.size, 0, 0, 0⟩ rfl
    ⟨ld, fn, a.tmps, hle _ _ hd, by have := alloc_self w (.loop { state := .ready, pending := none, fn, tmps := a.tmps, params := ps, assign := as, body := bd, defers := ld.block }); simpa using this, hf.size, hf.small, fun t ht => by
      obtain ⟨u, hu, hg⟩ := get_tmps hf t ht
      exact ⟨u, conc_mono hle _ _ hu, hg⟩⟩
  exact ⟨_, by simp, r1, r2⟩

/-- what a call through a function value is, in two steps -/
theorem call_split {E : Env} (hE : EnvOk E) {σ : Sig} {S S' : AState} {w : World} {f : AV} {uf : Value} {args : List AV} {us : List Value} {g : FuncId} {gargs : List AV} (h : Rel σ S w) (hf : conc σ f = some uf) (hargs : concL σ args = some us)
    (ha : aCall E S f args = some (.enter g gargs, S')) : S' = S ∧ ∃ d ys, (Deferred.ofValue uf us.toArray).run E.P w = .ok d w ∧ (invoke d.target d.args).run E.P w = .ok (.enter g ys.toArray) w ∧ concL σ gargs = some ys := by
  unfold aCall at ha
  rw [obind_some] at ha; obtain ⟨⟨fn, first, captured⟩, hfo, ha⟩ := ha
  obtain ⟨a, b, rfl, c1, c2⟩ := funcOf_ok hfo hf
  simp only at ha
  split at ha
  · rename_i g'
    obtain ⟨rfl, ys, h1, h2⟩ := callFunc_ok hE h (concL_append (concL_append c1 hargs) c2) ha
    refine ⟨rfl, { target := .fn (.func g') b.toArray, args := (a ++ us).toArray }, ys, by simp [Deferred.ofValue], ?_, h2⟩
    rw [← h1]
    simp [invoke]
  · cases ha

theorem rangeFunc_ok {E : Env} (hE : EnvOk E) {R : Recs} (hR : RecsOk E R) {rnd lo : Option Nat} {fuel : Nat} {f : Operand} {ps : Array Tmp} {as bd : Code} {fr fr' : AFr} {S S' : AState} {e : AExit} {σ : Sig} {w : World} {a : Act}
    (h : Rel σ S w) (hf : FrRel σ fr a) (hlo : LoOk σ rnd lo) (ha : acode E R rnd fuel (.rangeFunc f ps as bd) fr S = some (e, fr', S')) :
    (Code.rangeFunc f ps as bd).wpIn (fence lo) 0 E.P (Post σ S w e fr' S') a w := by
  unfold acode at ha
  split at ha
  · rename_i marks d S1 hm
    split at ha
    · rename_i id S2 hn
      split at ha
      · rename_i g gargs S3 hcall
        split at ha
        · rename_i x S4 hR4
          split at ha
          · rename_i e' S5 hend
            simp only [Option.some.injEq, Prod.mk.injEq] at ha
            obtain ⟨rfl, rfl, rfl⟩ := ha
            refine wpIn_rangeFunc fun fn _ => ?_
            -- the marks
            have hmarks : ∃ σ1 w1 Ms ld, Rel σ1 S1 w1 ∧ Ext σ S w σ1 S1 w1 ∧ σ1 d = some ld ∧ DefsRel σ1 marks Ms ∧
                ∀ O, (Instr.enterLoop fn a.tmps ps as bd (fence lo).round).run E.P w = .ok (w1.heap.size, Ms) (w1.alloc O) ∨ O ≠ .loop { state := .ready, pending := none, fn, tmps := a.tmps, params := ps, assign := as, body := bd, defers := ld.block } := by
              rw [fence_round]
              cases rnd with
              | none =>
                obtain rfl : lo = none := hlo
                simp only at hm
                rw [obind_some] at hm; obtain ⟨⟨d', S1'⟩, hd, hm⟩ := hm
                cases hm
                obtain ⟨rfl, _⟩ := AState.new_some hd
                obtain ⟨r1, r2⟩ := rel_new h hd (.deferred (some [])) ⟨w.heap.size, 0, 0, 0⟩ rfl (alloc_self w _)
                refine ⟨_, _, [{ target := .collected w.heap.size, args := #[] }], ⟨w.heap.size, 0, 0, 0⟩, r1, r2, by simp, .cons ⟨⟨w.heap.size, 0, 0, 0⟩, by simp, rfl⟩ .nil, fun O => ?_⟩
                by_cases hO : O = .loop { state := .ready, pending := none, fn, tmps := a.tmps, params := ps, assign := as, body := bd, defers := w.heap.size }
                · left; subst hO
                  simp [Instr.enterLoop]
                · exact .inr hO
              | some l0 =>
                obtain ⟨l, hl, rfl⟩ := hlo
                simp only at hm
                split at hm
                · rename_i st pend tm sz pr as' bd' dblk hg
                  cases hm
                  obtain ⟨l', hl', ld, fn', tm', g1, g2, _⟩ := h.obj l0 _ hg
                  rw [hl] at hl'; cases hl'
                  refine ⟨σ, w, [], ld, h, Ext.refl σ _ w, g1, .nil, fun O => ?_⟩
                  by_cases hO : O = .loop { state := .ready, pending := none, fn, tmps := a.tmps, params := ps, assign := as, body := bd, defers := ld.block }
                  · left; subst hO
                    simp [Instr.enterLoop, Instr.getLoop, run_getObj_loop g2]
                  · exact .inr hO
                · cases hm
            obtain ⟨σ1, w1, Ms, ld, r1, x1, hld, hms, henter⟩ := hmarks
            have hle1 := x1.le h.dom
            obtain ⟨σ2, s2, r2, x2⟩ := loop_new (fn := fn) r1 (hf.mono hle1) hld hn
            have hle2 := x2.le r1.dom
            have henter := (henter _).resolve_right (fun hne => hne rfl)
            obtain ⟨rfl, dd, ys, c1, c2, c3⟩ := call_split hE r2 (hf.mono (Sig.le_trans hle1 hle2) |>.eval f) (args := [.yield id]) (us := [.func (.yield w1.heap.size) #[] #[]]) (by simp [concL, conc, s2]) hcall
            refine ⟨w1.heap.size, Ms, _, dd, _, g, ys.toArray, _, henter, ?_, fun f' _ => fence_fn lo f', c2, fence_depth lo, (calls_fence (hR.call g gargs _ _ _ hR4 σ2 _ ys r2 c3)).mono fun en w3 hen => ?_⟩
            · have : resolve a.eval (rangeCall f w1.heap.size) 0 = Deferred.ofValue (a.eval f) [Value.func (.yield w1.heap.size) #[] #[]].toArray := by
                simp [resolve, Act.eval]
              rw [this]; exact c1
            · obtain ⟨u, σ3, rfl, hv, r3, x3⟩ := hen
              have hle3 := x3.le r2.dom
              obtain ⟨jump, w4, e1, r4, x4, hj⟩ := endLoop_ok (P := E.P) r3 (hle3 _ _ s2) hend
              refine ⟨jump, w4, e1, ?_⟩
              have hfin : ∀ ex, ex = exitOf e' → Post σ S w e' { fr with defers := marks ++ fr.defers } S5 ex { a with defers := Ms ++ a.defers } w4 := by
                rintro ex rfl
                refine ⟨rfl, σ3, r4, ?_, ((x1.trans x2).trans x3).trans x4⟩
                exact ((hf.mono hle1).push hms).mono (Sig.le_trans hle2 hle3)
              rcases hj with ⟨rfl, rfl⟩ | ⟨rfl, rfl⟩ | ⟨k, rfl, rfl⟩
              · exact hfin _ rfl
              · exact wpIn_ret (hfin _ rfl)
              · exact wpIn_exit (hfin _ rfl)
          · cases ha
        · cases ha
      · cases ha
    · cases ha
  · cases ha

theorem stepR_scope {P : Program} {b : Frame} {a : Act} {k : List Item} {cs : List Frame} {w : World} {c : Code} : step P (lone (b.atR a (.code (.scope c) :: k)) cs w) = .next (lone (b.atR a (.code c :: .inScope c :: k)) cs w) :=
  step_lone_go (by simp [stepG, stepG.exec, Frame.atR])
theorem stepR_inScope {P : Program} {b : Frame} {a : Act} {k : List Item} {cs : List Frame} {w : World} {c : Code} : step P (lone (b.atR a (.inScope c :: k)) cs w) = .next (lone (b.atR a k) cs w) :=
  step_lone_go (by simp [stepG, stepG.exec, Frame.atR])

/-- a scope through which the run goes without a goto -/
theorem wpIn_scope_straight {F : Fence} {n : Nat} {P : Program} {Q : Exit → Act → World → Prop} {a : Act} {w : World} {c : Code} (h : c.wpIn F n P Q a w) (hg : ∀ l a w, ¬ Q (.goto l) a w) : (Code.scope c).wpIn F n P Q a w := by
  intro b k cs hro hb hr
  have h0 : (lone (b.atR a (.code (.scope c) :: k)) cs w).fenced P F := fenced_calm hb hr rfl
  obtain ⟨e, a₁, w₁, hq, harr⟩ := h b (.inScope c :: k) cs hro hb hr
  have hx : ∀ i, exitTo i (.inScope c :: k) = exitTo i k := fun i => by simp [exitTo]
  cases e with
  | normal => exact ⟨.normal, a₁, w₁, hq, .head h0 stepR_scope (StepsIn.trans harr (.one (fenced_calm hb hr rfl) stepR_inScope))⟩
  | exit i => exact ⟨.exit i, a₁, w₁, hq, fun k' hk => .head h0 stepR_scope (harr.1 k' (by rw [hx]; exact hk)), fun hr' hk => let ⟨k₁, h1, h2⟩ := harr.2 hr' (by rw [hx]; exact hk); ⟨k₁, h1, .head h0 stepR_scope h2⟩⟩
  | goto l => exact absurd hq (hg l _ _)
  | ret => exact ⟨_, a₁, w₁, hq, .of_steps (.one h0 stepR_scope) harr⟩
  | panic ch => exact ⟨_, a₁, w₁, hq, .of_steps (.one h0 stepR_scope) harr⟩
  | outgrown => exact ⟨_, a₁, w₁, hq, .of_steps (.one h0 stepR_scope) harr⟩

/-- CODE -/
theorem acode_ok {E : Env} (hE : EnvOk E) {R : Recs} (hR : RecsOk E R) {rnd lo : Option Nat} (hp : R.plain = true → lo = none) (hD : DrawOk E R lo) {fuel : Nat} : ∀ (c : Code) {fr fr' : AFr} {S S' : AState} {e : AExit},
    acode E R rnd fuel c fr S = some (e, fr', S') → ∀ {σ : Sig} {w : World} {a : Act}, Rel σ S w → FrRel σ fr a → LoOk σ rnd lo → c.wpIn (fence lo) 0 E.P (Post σ S w e fr' S') a w := by
  intro c
  induction c with
  | skip => intro fr fr' S S' e ha σ w a h hf hlo; simp only [acode] at ha; cases ha; exact wpIn_skip ⟨rfl, σ, h, hf, Ext.refl σ _ w⟩
  | label l => intro fr fr' S S' e ha σ w a h hf hlo; simp only [acode] at ha; cases ha; exact wpIn_label ⟨rfl, σ, h, hf, Ext.refl σ _ w⟩
  | exit id => intro fr fr' S S' e ha σ w a h hf hlo; simp only [acode] at ha; cases ha; exact wpIn_exit ⟨rfl, σ, h, hf, Ext.refl σ _ w⟩
  | ret => intro fr fr' S S' e ha σ w a h hf hlo; simp only [acode] at ha; cases ha; exact wpIn_ret ⟨rfl, σ, h, hf, Ext.refl σ _ w⟩
  | goto l => intro fr fr' S S' e ha; simp only [acode] at ha; cases ha
  | refuse r => intro fr fr' S S' e ha; simp only [acode] at ha; cases ha
  | region id ops draw =>
    intro fr fr' S S' e ha σ w a h hf hlo
    simp only [acode] at ha
    split at ha
    · rename_i fr1 S1 hx
      cases ha
      cases draw with
      | true =>
        simp only [if_true] at hx
        exact wpIn_region_draw fun t => hD ops fr fr' S S' hx σ w a t _ h hf fun σ' w' a' h1 h2 h3 => ⟨rfl, σ', h1, h2, h3⟩
      | false =>
        simp only [Bool.false_eq_true, if_false] at hx
        exact wpIn_region (aops_ok hE hR hp (at_range ops) h hf hx fun σ' w' a' h1 h2 h3 => ⟨rfl, σ', h1, h2, h3⟩)
    · cases ha
  | seq x y ihx ihy =>
    intro fr fr' S S' e ha σ w a h hf hlo
    simp only [acode] at ha
    split at ha
    · rename_i fr1 S1 hx
      refine wpIn_seq (wpIn_mono (ihx hx h hf hlo) (Post.mono fun σ1 w1 a1 h1 f1 x1 => ?_))
      exact wpIn_mono (ihy ha h1 f1 (hlo.mono (x1.le h.dom))) (Post.mono fun σ2 w2 a2 h2 f2 x2 => ⟨rfl, σ2, h2, f2, x1.trans x2⟩)
    · rename_i hne
      have := ihx ha h hf hlo
      refine wpIn_seq (wpIn_mono this (Post.mono fun σ1 w1 a1 h1 f1 x1 => ?_))
      cases e with
      | normal => exact absurd ha (hne _ _)
      | exit id => exact ⟨rfl, σ1, h1, f1, x1⟩
      | ret => exact ⟨rfl, σ1, h1, f1, x1⟩
  | cond c x y ihx ihy =>
    intro fr fr' S S' e ha σ w a h hf hlo
    simp only [acode] at ha
    have hc := hf.eval c
    split at ha
    · rename_i hev
      rw [hev] at hc
      exact wpIn_cond_true (lit_of hc) (ihx ha h hf hlo)
    · rename_i hev
      rw [hev] at hc
      exact wpIn_cond_false (lit_of hc) (ihy ha h hf hlo)
    · cases ha
  | block id x ih =>
    intro fr fr' S S' e ha σ w a h hf hlo
    simp only [acode] at ha
    split at ha
    · rename_i i fr1 S1 hx
      refine wpIn_block (wpIn_mono (ih hx h hf hlo) (Post.mono fun σ1 w1 a1 h1 f1 x1 => ?_))
      simp only [exitOf, Exit.inBlock]
      split at ha
      · rename_i hi
        cases ha
        rw [if_pos (by simpa using hi)]
        exact ⟨rfl, σ1, h1, f1, x1⟩
      · rename_i hi
        cases ha
        rw [if_neg (by simpa using hi)]
        exact ⟨rfl, σ1, h1, f1, x1⟩
    · rename_i hne
      refine wpIn_block (wpIn_mono (ih ha h hf hlo) (Post.mono fun σ1 w1 a1 h1 f1 x1 => ?_))
      cases e with
      | normal => exact ⟨rfl, σ1, h1, f1, x1⟩
      | exit i => exact absurd ha (hne _ _ _)
      | ret => exact ⟨rfl, σ1, h1, f1, x1⟩
  | loop x ih =>
    intro fr fr' S S' e ha σ w a h hf hlo
    simp only [acode] at ha
    refine loop_k (fun k a1 w1 => ∃ fr1 S1 σ1, arounds (fun fr S => acode E R rnd fuel x fr S) k fr1 S1 = some (e, fr', S') ∧ Rel σ1 S1 w1 ∧ FrRel σ1 fr1 a1 ∧ Ext σ S w σ1 S1 w1) (k := fuel)
      ⟨fr, S, σ, ha, h, hf, Ext.refl σ _ w⟩ ?_
    rintro k a1 w1 ⟨fr1, S1, σ1, hk, h1, f1, x1⟩
    cases k with
    | zero => simp only [arounds] at hk; cases hk
    | succ k =>
      simp only [arounds] at hk
      split at hk
      · rename_i fr2 S2 hx
        refine wpIn_mono (ih hx h1 f1 (hlo.mono (x1.le h.dom))) (Post.mono fun σ2 w2 a2 h2 f2 x2 => ?_)
        exact ⟨k, Nat.lt_succ_self k, fr2, S2, σ2, hk, h2, f2, x1.trans x2⟩
      · rename_i hne
        refine wpIn_mono (ih hk h1 f1 (hlo.mono (x1.le h.dom))) (Post.mono fun σ2 w2 a2 h2 f2 x2 => ?_)
        cases e with
        | normal => exact absurd hk (hne _ _)
        | exit i => exact ⟨rfl, σ2, h2, f2, x1.trans x2⟩
        | ret => exact ⟨rfl, σ2, h2, f2, x1.trans x2⟩
  | scope x ih =>
    intro fr fr' S S' e ha σ w a h hf hlo
    simp only [acode] at ha
    exact wpIn_scope_straight (ih ha h hf hlo) (by rintro l a w ⟨h, _⟩; cases e <;> cases h)
  | rangeFunc f ps as bd _ _ =>
    intro fr fr' S S' e ha σ w a h hf hlo
    exact rangeFunc_ok hE hR h hf hlo ha

end Go.AM
