/- The abstract machine: functions, deferred calls, rounds. -/
import Derived.Test.YtpmbnnobfjjpaaaGreatDoorAmCode
namespace Go.AM
set_option linter.unusedVariables false
set_option linter.unusedSimpArgs false

theorem putArgs_get : ∀ (args : List AV) (i : Nat) (t : T AV), i + args.length ≤ 512 → ∀ j, j < 512 → T.get FD (putArgs i args t) j = if i ≤ j ∧ j < i + args.length then args[j - i]? else T.get FD t j
  | [], i, t, _, j, _ => by simp [putArgs]; omega
  | v :: r, i, t, h, j, hj => by
    simp only [List.length_cons] at h
    rw [putArgs, putArgs_get r (i + 1) _ (by omega) j hj]
    by_cases c : i + 1 ≤ j ∧ j < i + 1 + r.length
    · rw [if_pos c, if_pos (by simp; omega)]
      have : j - i = (j - (i + 1)) + 1 := by omega
      rw [this, List.getElem?_cons_succ]
    · rw [if_neg c, T.get_put FD t i j (.leaf v) (by simp [FD]; omega) (by simpa [FD] using hj)]
      by_cases e : j = i
      · subst e
        rw [if_pos rfl, if_pos (by simp)]
        simp [T.get_leaf]
      · rw [if_neg e, if_neg (by simp; omega)]

theorem nil_get {α : Type} (d n : Nat) : T.get d (T.nil : T α) n = none := T.get_nils d n

theorem enter_fr {σ : Sig} {args : List AV} {us : List Value} {n : Nat} (h : concL σ args = some us) (hn : max n args.length ≤ 512) :
    FrRel σ { tmps := putArgs 0 args .nil, size := max n args.length, defers := [] } { tmps := us.toArray ++ Array.replicate (n - us.toArray.size) undef, defers := [] } := by
  have hl := concL_length h
  refine ⟨?_, hn, fun t => ?_, .nil⟩
  · simp [hl]; omega
  · simp only [AFr.get]
    by_cases ht : t < max n args.length
    · rw [if_pos ht, putArgs_get args 0 .nil (by omega) t (by omega)]
      by_cases c : t < args.length
      · obtain ⟨u, hu, hc⟩ := concL_get h t args[t] (List.getElem?_eq_getElem c)
        have c' : t < us.length := by omega
        have : us[t] = u := by rw [List.getElem?_eq_getElem c'] at hu; exact Option.some.inj hu
        have e : (us.toArray ++ Array.replicate (n - us.toArray.size) undef)[t]? = some u := by
          rw [Array.getElem?_append_left (by simpa using c')]; simpa using hu
        simp only [Nat.zero_add, Nat.zero_le, true_and, c, if_true, Nat.sub_zero, List.getElem?_eq_getElem, hc, Array.getD_eq_getD_getElem?, e, Option.getD_some]
      · have c' : ¬ t < us.length := by omega
        simp only [Nat.zero_add, c, and_false, if_false, nil_get, conc_undef]
        congr 1
        simp only [Array.getD_eq_getD_getElem?, Array.getElem?_append, List.size_toArray, c', if_false, Array.getElem?_replicate]
        split <;> rfl
    · rw [if_neg ht, conc_undef]
      congr 1
      have : ¬ t < (us.toArray ++ Array.replicate (n - us.toArray.size) undef).size := by simp; omega
      rw [Array.getD_eq_getD_getElem?, Array.getElem?_eq_none (Nat.le_of_not_lt this)]
      rfl

/-! ### results -/
def resF (tmps : Array Value) : ResultVar → Sem Value
  | .tmp t => pure (tmps.getD t undef)
  | .cell b t => do loadVar t (← asAddr (tmps.getD b undef))

theorem results_eq (fn : Func) (tmps : Array Value) : results fn tmps = (do let vs ← fn.results.mapM (resF tmps); pure (if h : vs.size = 1 then vs[0] else .tuple vs)) := by
  unfold results
  congr 2

theorem results_ok {E : Env} {σ : Sig} {fr : AFr} {S : AState} {w : World} {a : Act} (h : Rel σ S w) (hf : FrRel σ fr a) : ∀ (rs : List ResultVar) (vs : List AV), aresults E fr S rs = some vs →
    ∃ us, concL σ vs = some us ∧ (rs.mapM (resF a.tmps)).run E.P w = .ok us w
  | [], vs, hv => by
    simp only [aresults] at hv; cases hv
    exact ⟨[], rfl, by simp⟩
  | r :: rs, vs, hv => by
    simp only [aresults] at hv
    rw [obind_some] at hv; obtain ⟨v, hv1, hv⟩ := hv
    rw [obind_some] at hv; obtain ⟨vs', hvs, hv⟩ := hv
    cases hv
    obtain ⟨us, c1, c2⟩ := results_ok h hf rs vs' hvs
    cases r with
    | tmp t =>
      simp only [aresult] at hv1; cases hv1
      refine ⟨a.tmps.getD t undef :: us, by rw [concL, hf.tmp t, c1], ?_⟩
      rw [List.mapM_cons]
      simp only [resF, Sem.run_bind, Sem.run_pure, Result.andThen_ok, c2]
    | cell b t =>
      simp only [aresult] at hv1
      obtain ⟨x, hx, hl⟩ := load_ok h (hf.tmp b) hv1
      refine ⟨x :: us, by rw [concL, hx, c1], ?_⟩
      have hp : ∃ A, a.tmps.getD b undef = .pointer (some A) := by
        have ht := hf.tmp b
        unfold aLoad at hv1
        split at hv1
        · rename_i id off heq
          rw [heq] at ht
          obtain ⟨l, _, e⟩ := ptr_of ht
          exact ⟨_, e⟩
        · cases hv1
      obtain ⟨A, hA⟩ := hp
      rw [hA] at hl
      have hl' : (loadVar t A).run E.P w = .ok x w := by simpa [Instr.loadAt, Instr.sureAddr] using hl
      have hl2 : (do let A ← asAddr (a.tmps.getD b undef); loadVar t A : Sem Value).run E.P w = .ok x w := by rw [hA]; simpa [asAddr] using hl'
      rw [List.mapM_cons]
      have hl3 : (resF a.tmps (.cell b t)).run E.P w = .ok x w := hl2
      simp only [Sem.run_bind, hl3, Sem.run_pure, Result.andThen_ok, c2]

theorem pack_ok {σ : Sig} {vs : List AV} {us : List Value} (h : concL σ vs = some us) : conc σ (pack vs) = some (if h : us.toArray.size = 1 then us.toArray[0] else .tuple us.toArray) := by
  have hl := concL_length h
  unfold pack
  split
  · obtain ⟨x, rfl, hx⟩ := concL1 h
    simp [hx]
  · rename_i hne
    have : ¬ us.length = 1 := by
      intro e
      match vs, hl, hne with
      | [v], _, hne => exact hne v rfl
      | [], hl, _ => rw [e] at hl; simp at hl
      | _ :: _ :: _, hl, _ => rw [e] at hl; simp at hl
    simp [this, conc, h]

theorem results_run {E : Env} {σ : Sig} {fr : AFr} {S : AState} {w : World} {a : Act} {fn : Func} {vs : List AV} (h : Rel σ S w) (hf : FrRel σ fr a) (hv : aresults E fr S fn.results.toList = some vs) :
    ∃ u, conc σ (pack vs) = some u ∧ (results fn a.tmps).run E.P w = .ok u w := by
  obtain ⟨us, c1, c2⟩ := results_ok h hf _ _ hv
  refine ⟨_, pack_ok c1, ?_⟩
  have c3 : (fn.results.mapM (resF a.tmps)).run E.P w = .ok us.toArray w := by
    rw [Array.mapM_eq_mapM_toList]
    simp [c2]
  rw [results_eq]
  simp only [Sem.run_bind, c3, Result.andThen_ok, Sem.run_pure]

/-! ### deferred calls, marks -/
theorem adefers_ok {E : Env} (hE : EnvOk E) {R : Recs} (hR : RecsOk E R) {fn : Func} {tmps : Array Value} {K : Ending → World → Prop} {S' : AState} : ∀ {ds : List ADef} {Ds : List Deferred} {σ : Sig} {S : AState} {w : World},
    DefsRel σ ds Ds → Rel σ S w → adefers E R ds S = some S' → (∀ σ' w', Rel σ' S' w' → Ext σ S w σ' S' w' → ∃ v, (results fn tmps).run E.P w' = .ok v w' ∧ K (.returned v) w') →
    LeavesInM Fence.wide 0 E.P fn tmps K Ds .returning w
  | _, _, σ, S, w, .nil, h, ha, hK => by
    simp only [adefers] at ha; cases ha
    exact hK σ w h (Ext.refl σ _ w)
  | _, _, σ, S, w, .cons (d := d) (D := D) (ds := ds) (Ds := Ds) hd ht, h, ha, hK => by
    refine ⟨by simp, ?_⟩
    cases d with
    | mark id =>
      obtain ⟨l, hl, rfl⟩ := hd
      simp only [adefers] at ha
      split at ha
      · rename_i hg
        obtain ⟨l', hl', ho⟩ := h.obj id _ hg
        rw [hl] at hl'; cases hl'
        have ho : w.heap[l.block]? = some (.deferred (some [])) := ho
        obtain ⟨r1, x1⟩ := rel_kill (w' := setBlk w l.block (.deferred none)) h hg hl (by simp [setBlk]) (fun b hb => setBlk_other _ _ _ _ hb) rfl rfl rfl
        refine .inl ⟨l.block, setBlk w l.block (.deferred none), rfl, ?_, adefers_ok hE hR ht r1 ha fun σ' w' k1 k2 => hK σ' w' k1 (x1.trans k2)⟩
        simp [Instr.takeDeferred, run_getObj_deferred ho, run_setObj_at (P := E.P) (.deferred none) ho (by simp)]
      · cases ha
    | call d =>
      obtain ⟨cap, us, rfl, c1, c2⟩ := hd
      simp only [adefers] at ha
      split at ha
      · rename_i g hg
        split at ha
        · rename_i S1 hdc
          obtain ⟨⟨gn, gc, hf, hb⟩, hcall⟩ := hR.dcall g (d.args ++ d.captured) S S1 hdc σ w (us ++ cap) .returning h (concL_append c2 c1)
          have hn : ¬ gn.name = "runtime.NumGoroutine" := by simpa using hE.nogo g gn hf
          refine .inr ⟨by simp [Fence.wide], d.fn, cap.toArray, g, (us ++ cap).toArray, rfl, ?_, fun _ _ => trivial, hcall.mono ?_⟩
          · simp [invoke, hg, callFunc, hf, hn, hb]
          · rintro e u' w' ⟨rfl, ⟨v, rfl⟩, σ', r1, x1⟩
            exact adefers_ok hE hR (ht.mono (x1.le h.dom)) r1 ha fun σ2 w2 k1 k2 => hK σ2 w2 k1 (x1.trans k2)
        · cases ha
      · cases ha

/-! ### calls -/
def DrawAll (E : Env) : Prop := ∀ (R : Recs) (lo : Option Nat), RecsOk E R → (R.plain = true → lo = none) → DrawOk E R lo
def HookOk (E : Env) (hook : Hook) : Prop := ∀ f args S v S', hook f args S = some (some (v, S')) → ∀ σ w us, Rel σ S w → concL σ args = some us → CallsIn Fence.wide 0 E.P f us.toArray w (RetPost σ S w v S')

theorem abody_ok {E : Env} (hE : EnvOk E) (hD : DrawAll E) {R : Recs} (hR : RecsOk E R) {fuel : Nat} {fn : Func} {c : Code} {args : List AV} {S S' : AState} {fr : AFr} (ha : abody E fuel R fn c args S = some (fr, S'))
    {σ : Sig} {w : World} {us : List Value} (h : Rel σ S w) (hargs : concL σ args = some us) {Q : Exit → Act → World → Prop}
    (hQ : ∀ e, e = .normal ∨ e = .ret → ∀ σ' w' a', Rel σ' S' w' → FrRel σ' fr a' → Ext σ S w σ' S' w' → Q e a' w') :
    c.wpIn Fence.wide 0 E.P Q { tmps := us.toArray ++ Array.replicate (fn.ntmps - us.toArray.size) undef, defers := [] } w := by
  unfold abody at ha
  split at ha
  · rename_i hn
    have hcode := fun {e : AExit} {fr' : AFr} {S' : AState} (hx : acode E R none fuel c { tmps := putArgs 0 args .nil, size := max fn.ntmps args.length, defers := [] } S = some (e, fr', S')) =>
      acode_ok hE hR (rnd := none) (lo := none) (fun _ => rfl) (hD R none hR (fun _ => rfl)) c hx h (enter_fr hargs hn) rfl
    split at ha
    · rename_i fr1 S1 hx
      cases ha
      exact wpIn_mono (hcode hx) (Post.mono fun σ' w' a' h1 h2 h3 => hQ _ (.inl rfl) σ' w' a' h1 h2 h3)
    · rename_i fr1 S1 hx
      cases ha
      exact wpIn_mono (hcode hx) (Post.mono fun σ' w' a' h1 h2 h3 => hQ _ (.inr rfl) σ' w' a' h1 h2 h3)
    · cases ha
  · cases ha

theorem acallF_ok {E : Env} (hE : EnvOk E) (hD : DrawAll E) {hook : Hook} (hH : HookOk E hook) {R : Recs} (hR : RecsOk E R) {fuel : Nat} {f : FuncId} {args : List AV} {S S' : AState} {v : AV} (ha : acallF E hook fuel R f args S = some (v, S'))
    {σ : Sig} {w : World} {us : List Value} (h : Rel σ S w) (hargs : concL σ args = some us) : CallsIn Fence.wide 0 E.P f us.toArray w (RetPost σ S w v S') := by
  unfold acallF at ha
  split at ha
  · rename_i r hr
    exact hH f args S v S' (by rw [hr, ha]) σ w us h hargs
  · split at ha
    · cases ha
    · rename_i fn hf
      split at ha
      · cases ha
      · rename_i c hb
        split at ha
        · rename_i fr S1 hx
          split at ha
          · rename_i S2 hdf
            rw [obind_some] at ha; obtain ⟨vs, hvs, ha⟩ := ha
            cases ha
            have hleave : ∀ σ' w' a', Rel σ' S1 w' → FrRel σ' fr a' → Ext σ S w σ' S1 w' → LeavesInM Fence.wide 0 E.P fn a'.tmps (RetPost σ S w (pack vs) S') a'.defers .returning w' := by
              intro σ1 w1 a1 h1 f1 x1
              refine adefers_ok hE hR f1.dfs h1 hdf fun σ2 w2 h2 x2 => ?_
              obtain ⟨u, hu, hrun⟩ := results_run (fn := fn) h2 (f1.mono (x2.le h1.dom)) hvs
              exact ⟨u, hrun, u, σ2, rfl, hu, h2, x1.trans x2⟩
            refine callsIn_of_wp_marks hf hb trivial (abody_ok hE hD hR hx h hargs fun e he σ' w' a' h1 h2 h3 => ?_)
            rcases he with rfl | rfl
            · exact hleave σ' w' a' h1 h2 h3
            · exact hleave σ' w' a' h1 h2 h3
          · cases ha
        · cases ha

theorem adcallF_ok {E : Env} (hE : EnvOk E) (hD : DrawAll E) {R : Recs} (hR : RecsOk E R) {fuel : Nat} {f : FuncId} {args : List AV} {S S' : AState} (ha : adcallF E fuel R f args S = some S')
    {σ : Sig} {w : World} {us : List Value} {u : FrameMode} (h : Rel σ S w) (hargs : concL σ args = some us) :
    (∃ fn c, E.P.funcs[f]? = some fn ∧ fn.body = some c) ∧ CallsDIn Fence.wide 0 E.P f us.toArray u w (fun e u' w' => u' = u ∧ (∃ v, e = .returned v) ∧ ∃ σ', Rel σ' S' w' ∧ Ext σ S w σ' S' w') := by
  unfold adcallF at ha
  split at ha
  · cases ha
  · rename_i fn hf
    split at ha
    · cases ha
    · rename_i c hb
      split at ha
      · rename_i fr S1 hx
        split at ha
        · rename_i hemp
          rw [obind_some] at ha; obtain ⟨vs, hvs, ha⟩ := ha
          cases ha
          have hdone : ∀ σ' w' a', Rel σ' S' w' → FrRel σ' fr a' → Ext σ S w σ' S' w' → a'.defers = [] ∧ ∃ v, (results fn a'.tmps).run E.P w' = .ok v w' ∧ ((∃ x, Ending.returned v = .returned x) ∧ ∃ σ', Rel σ' S' w' ∧ Ext σ S w σ' S' w') := by
            intro σ1 w1 a1 h1 f1 x1
            have hd := f1.dfs
            have he : fr.defers = [] := by simpa using hemp
            rw [he] at hd
            obtain ⟨u, hu, hrun⟩ := results_run (fn := fn) h1 f1 hvs
            refine ⟨?_, u, hrun, ⟨u, rfl⟩, σ1, h1, x1⟩
            generalize a1.defers = Ds at hd
            cases hd; rfl
          refine ⟨⟨fn, c, hf, hb⟩, callsDIn_of_wp (R := fun e w' => (∃ v, e = .returned v) ∧ ∃ σ', Rel σ' S' w' ∧ Ext σ S w σ' S' w') hf hb trivial (abody_ok hE hD hR hx h hargs fun e he σ' w' a' h1 h2 h3 => ?_)⟩
          rcases he with rfl | rfl
          · exact hdone σ' w' a' h1 h2 h3
          · exact hdone σ' w' a' h1 h2 h3
        · cases ha
      · cases ha

/-! ### rounds -/
theorem params_fr {σ : Sig} : ∀ (ps : List Tmp) (vs : List AV) (us : List Value) {fr : AFr} {a : Act}, FrRel σ fr a → concL σ vs = some us →
    FrRel σ { fr with tmps := putParams ps vs fr.size fr.tmps } { a with tmps := (ps.zip us).foldl (fun tm p => tm.setIfInBounds p.1 p.2) a.tmps }
  | [], vs, us, fr, a, h, hv => by simpa [putParams] using h
  | p :: ps, [], us, fr, a, h, hv => by simp [concL] at hv; subst hv; simpa [putParams] using h
  | p :: ps, v :: vs, us, fr, a, h, hv => by
    obtain ⟨u, l, rfl, hu, hl⟩ := concL_cons hv
    have h1 := h.put (some p) hu
    have h2 := params_fr ps vs l h1 hl
    simp only [putParams, List.zip_cons_cons, List.foldl_cons]
    by_cases c : p < fr.size
    · simpa [AFr.put, c, Act.put] using h2
    · simpa [AFr.put, c, Act.put] using h2

theorem aroundF_ok {E : Env} (hE : EnvOk E) (hD : DrawAll E) {R : Recs} (hR : RecsOk E R) {fuel : Nat} {id : Nat} {args : List AV} {S S' : AState} {v : AV} (ha : aroundF E fuel R id args S = some (v, S'))
    {σ : Sig} {w : World} {us : List Value} {l : Loc} (h : Rel σ S w) (hl : σ id = some l) (hargs : concL σ args = some us) :
    ∃ f tmps as bd, (Instr.yield l.block us.toArray).run E.P w = .ok (.round l.block f tmps as bd) w ∧ RoundIn Fence.wide 0 E.P l.block f tmps as bd w (RetPost σ S w v S') := by
  unfold aroundF at ha
  split at ha
  · rename_i st pend tmps size params as bd dblk hg
    split at ha
    · rename_i hlen
      have hlen : args.length = params.length := by simpa using hlen
      have hul := concL_length hargs
      have hR' : RecsOk E { R with plain := false } := ⟨hR.call, hR.round, hR.dcall⟩
      have hD' := hD { R with plain := false } (some l.block) hR' (by simp)
      have code := @acode_ok E hE { R with plain := false } hR' (some id) (some l.block) (by simp) hD' fuel
      split at ha
      · rename_i fr1 S1 hx1
        split at ha
        · rename_i pend1 t1 s1 p1 as1 bd1 d1 hg1
          split at ha
          · rename_i e fr2 S3 hx2
            split at ha
            · rename_i st3 pend3 t3 s3 p3 as3 bd3 d3 hg3
              obtain ⟨l', hl', ld, fn, tm, g1, g2, g3, g4, g5⟩ := h.obj id _ hg
              rw [hl] at hl'; cases hl'
              let a0 : Act := { tmps := (params.zip us).foldl (fun tm p => tm.setIfInBounds p.1 p.2) tm, defers := [] }
              refine ⟨fn, a0.tmps, as, bd, ?_, ?_⟩
              · have hne : us.length = params.length := by omega
                simp only [Instr.yield, Instr.getLoop, Sem.run_bind, run_getObj_loop g2, Result.andThen_ok, Sem.run_pure]
                simp [hne, a0]
              · have hbase : FrRel σ { tmps, size, defers := [] } { tmps := tm, defers := [] } := by
                  refine ⟨g3, g4, fun t => ?_, .nil⟩
                  simp only [AFr.get]
                  by_cases ht : t < size
                  · rw [if_pos ht]
                    obtain ⟨u, hu, hgu⟩ := g5 t ht
                    simp only [Array.getD_eq_getD_getElem?, hgu, Option.getD_some]
                    cases hT : T.get FD tmps t with
                    | none => rw [hT] at hu; exact hu
                    | some x => rw [hT] at hu; exact hu
                  · rw [if_neg ht, conc_undef]
                    rw [Array.getD_eq_getD_getElem?, Array.getElem?_eq_none (by omega)]
                    rfl
                have hfr := params_fr params args us hbase hargs
                refine roundIn_of_wpIn trivial (wpIn_mono (code as hx1 h hfr ⟨l, hl, rfl⟩) (Post.mono fun σ1 w1 a1 h1 f1 x1 => ?_))
                have hl1 := x1.le h.dom _ _ hl
                obtain ⟨l', hl', ld1, fn1, tm1, k1, k2, k3, k4, k5⟩ := h1.obj id _ hg1
                rw [hl1] at hl'; cases hl'
                let O1 : Obj := .loop { state := .busy, pending := pend1, fn := fn1, tmps := tm1, params := p1.toArray, assign := as1, body := bd1, defers := ld1.block }
                obtain ⟨r1, y1⟩ := rel_put (o' := .loop .busy pend1 t1 s1 p1 as1 bd1 d1) (w' := setBlk w1 l.block O1) h1 hg1 hl1 (by simp [setBlk]) (fun b hb => setBlk_other _ _ _ _ hb) rfl rfl rfl
                  ⟨ld1, fn1, tm1, k1, setBlk_self _ _ _ (h1.blk id l hl1), k3, k4, k5⟩
                refine ⟨setBlk w1 l.block O1, ?_, ?_⟩
                · have hset := run_setObj_at (P := E.P) O1 k2 (by simp)
                  simp only [Instr.beginRound, Instr.getLoop, Sem.run_bind, run_getObj_loop k2, Result.andThen_ok, Sem.run_pure]
                  rw [hset]
                  rfl
                · refine wpIn_mono (code bd hx2 r1 f1 ⟨l, hl1, rfl⟩) (Post.mono fun σ2 w2 a2 h2 f2 x2 => ?_)
                  have hl2 := x2.le r1.dom _ _ hl1
                  obtain ⟨l', hl', ld2, fn2, tm2, m1, m2, m3, m4, m5⟩ := h2.obj id _ hg3
                  rw [hl2] at hl'; cases hl'
                  have fin : ∀ (jump : Option Code) (st : LoopState), st = (if jump.isNone then LoopState.ready else .done) →
                      (some (v, S') : Option (AV × AState)) = some (litB jump.isNone, S3.put id (.loop st jump t3 s3 p3 as3 bd3 d3)) →
                      ∃ x w', (Instr.endRound l.block jump).run E.P w2 = .ok x w' ∧ RetPost σ S w v S' (.returned x) w' := by
                    intro jump st hst he
                    cases he
                    let O2 : Obj := .loop { state := st, pending := jump, fn := fn2, tmps := tm2, params := p3.toArray, assign := as3, body := bd3, defers := ld2.block }
                    obtain ⟨r2, y2⟩ := rel_put (o' := .loop st jump t3 s3 p3 as3 bd3 d3) (w' := setBlk w2 l.block O2) h2 hg3 hl2 (by simp [setBlk]) (fun b hb => setBlk_other _ _ _ _ hb) rfl rfl rfl
                      ⟨ld2, fn2, tm2, m1, setBlk_self _ _ _ (h2.blk id l hl2), m3, m4, m5⟩
                    refine ⟨.bool jump.isNone, setBlk w2 l.block O2, ?_, _, σ2, rfl, rfl, r2, ((x1.trans y1).trans x2).trans y2⟩
                    have hset := run_setObj_at (P := E.P) O2 m2 (by simp)
                    subst hst
                    simp only [Instr.endRound, Instr.getLoop, Sem.run_bind, run_getObj_loop m2, Result.andThen_ok, Sem.run_pure]
                    rw [hset]
                    rfl
                  cases e with
                  | normal => exact fin none .ready rfl ha.symm
                  | ret => exact fin (some .ret) .done rfl ha.symm
                  | exit k => exact fin (some (.exit k)) .done rfl ha.symm
            · cases ha
          · cases ha
        · cases ha
      · cases ha
    · cases ha
  · cases ha

/-- ALL OF IT -/
theorem arecs_ok {E : Env} (hE : EnvOk E) (hD : DrawAll E) {hook : Hook} (hH : HookOk E hook) (fuel : Nat) : ∀ n, RecsOk E (arecs E hook fuel n)
  | 0 => ⟨fun _ _ _ _ _ h => (by cases h), fun _ _ _ _ _ h => (by cases h), fun _ _ _ _ h => (by cases h)⟩
  | n + 1 =>
    have ih := arecs_ok hE hD hH fuel n
    ⟨fun _ _ _ _ _ ha _ _ _ h hargs => acallF_ok hE hD hH ih ha h hargs, fun _ _ _ _ _ ha _ _ _ _ h hl hargs => aroundF_ok hE hD ih ha h hl hargs, fun _ _ _ _ ha _ _ _ _ h hargs => adcallF_ok hE hD ih ha h hargs⟩

end Go.AM
