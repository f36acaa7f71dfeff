/- The abstract machine: ONE OPERATION. -/
import Derived.Test.YtpmbnnobfjjpaaaGreatDoorAmOps10
namespace Go.AM
set_option linter.unusedVariables false
set_option linter.unusedSimpArgs false

section vals
variable {P : Program} {S S' : AState} {nx : ANext}
theorem ret_val {v : AV} (h : ret S v = some (nx, S')) : ∃ v, nx = .val v := by cases h; exact ⟨_, rfl⟩

theorem aBuildSlice_val {t : TypeId} {n : Nat} {ps : List (Nat × AV)} (h : aBuildSlice P S t n ps = some (nx, S')) : ∃ v, nx = .val v := by
  unfold aBuildSlice at h
  split at h
  · rw [obind_some] at h; obtain ⟨n, _, h⟩ := h
    split at h
    · cases h
    · rw [obind_some] at h; obtain ⟨z, _, h⟩ := h
      split at h
      · cases h
      · rw [obind_some] at h; obtain ⟨cs, _, h⟩ := h
        split at h
        · rw [obind_some] at h; obtain ⟨x, _, h⟩ := h; exact ret_val h
        · cases h
  · cases h

theorem aMakeSlice_val {t : TypeId} {a b : AV} (h : aMakeSlice P S t a b = some (nx, S')) : ∃ v, nx = .val v := by
  unfold aMakeSlice at h
  split at h
  · rw [obind_some] at h; obtain ⟨n, _, h⟩ := h
    rw [obind_some] at h; obtain ⟨_, _, h⟩ := h
    rw [obind_some] at h; obtain ⟨_, _, h⟩ := h
    rw [obind_some] at h; obtain ⟨_, _, h⟩ := h
    split at h
    · rw [obind_some] at h; obtain ⟨x, _, h⟩ := h; exact ret_val h
    · cases h
  · cases h

theorem aConvert_val {s d : TypeId} {a : AV} (h : aConvert P S s d a = some (nx, S')) : ∃ v, nx = .val v := by
  unfold aConvert at h
  split at h
  · split at h
    · rw [obind_some] at h; obtain ⟨_, _, h⟩ := h; exact ret_val h
    · cases h
  · split at h
    · split at h
      · cases h
      · rw [obind_some] at h; obtain ⟨_, _, h⟩ := h
        rw [obind_some] at h; obtain ⟨_, _, h⟩ := h
        rw [obind_some] at h; obtain ⟨_, _, h⟩ := h
        exact ret_val h
    · cases h
  · split at h
    · rw [obind_some] at h; obtain ⟨_, _, h⟩ := h
      split at h
      · exact ret_val h
      · cases h
    · cases h
  · split at h
    · rw [obind_some] at h; obtain ⟨_, _, h⟩ := h
      split at h
      · exact ret_val h
      · cases h
    · cases h
  · rw [obind_some] at h; obtain ⟨_, _, h⟩ := h; exact ret_val h
  · cases h

theorem aCopy_val {ats : Array TypeId} {d s : AV} (h : aCopy P S ats d s = some (nx, S')) : ∃ v, nx = .val v := by
  unfold aCopy at h
  split at h
  · split at h
    · rw [obind_some] at h; obtain ⟨_, _, h⟩ := h
      rw [obind_some] at h; obtain ⟨_, _, h⟩ := h
      split at h
      · exact ret_val h
      · split at h
        · exact ret_val h
        · rw [obind_some] at h; obtain ⟨_, _, h⟩ := h
          split at h
          · split at h
            · exact ret_val h
            · cases h
          · cases h
      · cases h
    · cases h
  · cases h

theorem aAppend_val {ats : Array TypeId} {d s : AV} (h : aAppend P S ats d s = some (nx, S')) : ∃ v, nx = .val v := by
  unfold aAppend at h
  split at h
  · split at h
    · split at h
      · cases h
      · rw [obind_some] at h; obtain ⟨_, _, h⟩ := h
        simp only at h
        rw [obind_some] at h; obtain ⟨_, _, h⟩ := h
        split at h
        · split at h
          · split at h
            · exact ret_val h
            · rw [obind_some] at h; obtain ⟨_, _, h⟩ := h
              rw [obind_some] at h; obtain ⟨_, _, h⟩ := h
              exact ret_val h
          · split at h
            · split at h
              · rw [obind_some] at h; obtain ⟨_, _, h⟩ := h
                split at h
                · split at h
                  · exact ret_val h
                  · cases h
                · cases h
              · rw [obind_some] at h; obtain ⟨_, _, h⟩ := h
                rw [obind_some] at h; obtain ⟨_, _, h⟩ := h
                rw [obind_some] at h; obtain ⟨_, _, h⟩ := h
                exact ret_val h
            · split at h
              · exact ret_val h
              · rw [obind_some] at h; obtain ⟨_, _, h⟩ := h
                rw [obind_some] at h; obtain ⟨_, _, h⟩ := h
                split at h
                · split at h
                  · rw [obind_some] at h; obtain ⟨_, _, h⟩ := h
                    exact ret_val h
                  · cases h
                · cases h
          · cases h
        · cases h
    · cases h
  · cases h

theorem aBuiltin_val {E : Env} {b : Builtin} {ats : Array TypeId} {ty : TypeId} {args : List AV} (h : aBuiltin E S b ats ty args = some (nx, S')) : ∃ v, nx = .val v := by
  unfold aBuiltin at h
  split at h
  · split at h
    · exact aAppend_val h
    · cases h
  · exact aCopy_val h
  · repeat' split at h
    all_goals first | exact ret_val h | cases h
  · repeat' split at h
    all_goals first | exact ret_val h | cases h
  · rw [obind_some] at h; obtain ⟨_, _, h⟩ := h; exact ret_val h
  · repeat' split at h
    all_goals first | exact ret_val h | cases h
  · rw [obind_some] at h; obtain ⟨_, _, h⟩ := h; exact ret_val h
  · repeat' split at h
    all_goals first | exact ret_val h | cases h
  · exact ret_val h
  · repeat' split at h
    all_goals first | exact ret_val h | cases h
  · split at h
    · split at h
      · split at h
        · rw [obind_some] at h; obtain ⟨_, _, h⟩ := h
          rw [obind_some] at h; obtain ⟨_, _, h⟩ := h
          exact ret_val h
        · cases h
      · cases h
    · cases h
  · rw [obind_some] at h; obtain ⟨_, _, h⟩ := h
    rw [obind_some] at h; obtain ⟨_, _, h⟩ := h; exact ret_val h
  · rw [obind_some] at h; obtain ⟨_, _, h⟩ := h
    rw [obind_some] at h; obtain ⟨_, _, h⟩ := h; exact ret_val h
  · cases h

theorem aExtern_val {E : Env} {k : ExtK} {args : List AV} (h : aExtern E S k args = some (nx, S')) : ∃ v, nx = .val v := by
  unfold aExtern at h
  split at h
  · exact ret_val h
  · rw [obind_some] at h; obtain ⟨_, _, h⟩ := h; exact ret_val h
  · split at h
    · split at h
      · split at h
        · rw [obind_some] at h; obtain ⟨_, _, h⟩ := h; exact ret_val h
        · cases h
      · cases h
    · cases h
  · split at h
    · rw [obind_some] at h; obtain ⟨_, _, h⟩ := h; exact ret_val h
    · cases h
  · cases h
end vals

/-- what an operation's run has to do with what the abstract machine says -/
def NextOk (P : Program) (r : World → Result Next) (σ : Sig) (S : AState) (w : World) : ANext → AState → Prop
  | .val v, S' => ∃ σ' w', ((∃ u, r w = .ok (.value u) w' ∧ conc σ' v = some u) ∨ (r w = .ok .skip w' ∧ v = undefA)) ∧ Rel σ' S' w' ∧ Ext σ S w σ' S' w'
  | .enter f args, S' => S' = S ∧ ∃ us, r w = .ok (.enter f us.toArray) w ∧ concL σ args = some us
  | .round id args, S' => S' = S ∧ ∃ l us, σ id = some l ∧ concL σ args = some us ∧ r w = (Instr.yield l.block us.toArray).run P w
  | .dfr d, S' => S' = S ∧ ∃ cap us, r w = .ok (.defer { target := .fn d.fn cap.toArray, args := us.toArray }) w ∧ concL σ d.captured = some cap ∧ concL σ d.args = some us

theorem EndsN.ok {P : Program} {σ : Sig} {S S' : AState} {w : World} {s : Sem Next} {v : AV} (h : EndsN P σ S w s v S') : NextOk P (s.run P) σ S w (.val v) S' := by
  obtain ⟨σ', w', u, h1, h2, h3, h4⟩ := h
  exact ⟨σ', w', .inl ⟨u, h1, h2⟩, h3, h4⟩

theorem Ends.ok {P : Program} {σ : Sig} {S S' : AState} {w : World} {s : Sem Value} {v : AV} (h : Ends P σ S w s v S') : NextOk P (Sem.run P (do pure (.value (← s)))) σ S w (.val v) S' := h.next.ok

/-- what only looks -/
theorem look_ok {P : Program} {σ : Sig} {S S' : AState} {w : World} {s : Sem Value} {x : Option AV} {nx : ANext} (h : Rel σ S w) (hx : val S x = some (nx, S'))
    (hs : ∀ v, x = some v → ∃ u, conc σ v = some u ∧ s.run P w = .ok u w) : NextOk P (Sem.run P (do pure (.value (← s)))) σ S w nx S' := by
  unfold val at hx
  split at hx
  · cases hx
    obtain ⟨u, h1, h2⟩ := hs _ rfl
    exact (Ends.here h h2 h1).ok
  · cases hx

/-- what only writes -/
theorem write_ok {P : Program} {σ : Sig} {S S' : AState} {w : World} {s : Sem Unit} {x : Option AState} {nx : ANext} (hx : unit x = some (nx, S'))
    (hs : ∀ S', x = some S' → ∃ w', s.run P w = .ok () w' ∧ Rel σ S' w' ∧ Ext σ S w σ S' w') : NextOk P (Sem.run P (do s; pure .skip)) σ S w nx S' := by
  unfold unit at hx
  split at hx
  · cases hx
    obtain ⟨w', h1, h2, h3⟩ := hs _ rfl
    exact ⟨σ, w', .inr ⟨by simp [h1], rfl⟩, h2, h3⟩
  · cases hx

section
variable {σ : Sig} {fr : AFr} {ρ : Operand → Value}
theorem evalList_ok (hρ : ∀ x, conc σ (fr.eval x) = some (ρ x)) : ∀ l : List Operand, concL σ (evalList fr l) = some (l.map ρ)
  | [] => rfl
  | x :: r => by simp [evalList, concL, hρ, evalList_ok hρ r]
theorem evalParts_length : ∀ l : List (Nat × Operand), (evalParts fr l).length = l.length
  | [] => rfl
  | (i, x) :: r => by simp [evalParts, evalParts_length r]
theorem evalParts_ok (hρ : ∀ x, conc σ (fr.eval x) = some (ρ x)) : ∀ (l : List (Nat × Operand)) (j : Nat) (p : Nat × AV), (evalParts fr l)[j]? = some p → ∃ u, (l.map fun q => (q.1, ρ q.2))[j]? = some (p.1, u) ∧ conc σ p.2 = some u
  | [], j, p, h => by simp [evalParts] at h
  | (i, x) :: r, 0, p, h => by simp [evalParts] at h; subst h; exact ⟨ρ x, by simp, hρ x⟩
  | (i, x) :: r, j + 1, p, h => by
    simp only [evalParts, List.getElem?_cons_succ] at h
    obtain ⟨u, h1, h2⟩ := evalParts_ok hρ r j p h
    exact ⟨u, by simpa using h1, h2⟩
theorem opt_ok (hρ : ∀ x, conc σ (fr.eval x) = some (ρ x)) (x : Option Operand) : optConc σ (x.map fr.eval) (x.map ρ) := by
  cases x with
  | none => trivial
  | some x => exact hρ x
end

theorem map_toArray (ρ : Operand → Value) (a : Array Operand) : (a.toList.map ρ).toArray = a.map ρ := by apply Array.ext'; simp

theorem funcOf_ok {σ : Sig} {v : AV} {u : Value} {fn : Fn} {first captured : List AV} (h : aFuncOf v = some (fn, first, captured)) (hv : conc σ v = some u) :
    ∃ a b, u = .func fn a.toArray b.toArray ∧ concL σ first = some a ∧ concL σ captured = some b := by
  unfold aFuncOf at h
  split at h
  · obtain rfl := lit_of hv
    cases h
    exact ⟨_, _, by simp, concL_lits _, concL_lits _⟩
  · cases h
    simp only [conc] at hv
    split at hv
    · rename_i a b ha hb; cases hv; exact ⟨a, b, rfl, ha, hb⟩
    · cases hv
  · cases h

theorem callFunc_ok {E : Env} (hE : EnvOk E) {σ : Sig} {S S' : AState} {w : World} {f : FuncId} {args : List AV} {us : List Value} {nx : ANext} (h : Rel σ S w) (hargs : concL σ args = some us)
    (ha : aCallFunc E S f args = some (nx, S')) : NextOk E.P ((callFunc f us.toArray).run E.P) σ S w nx S' := by
  unfold aCallFunc at ha
  split at ha
  · cases ha
  · rename_i fn hf
    have hn : ¬ fn.name = "runtime.NumGoroutine" := by simpa using hE.nogo f fn hf
    split at ha
    · rename_i hb
      have hb : fn.body = none := by simpa using hb
      split at ha
      · rename_i k hk
        obtain ⟨fn', hf', h1, h2⟩ := hE.ext f k hk
        rw [hf] at hf'; cases hf'
        obtain ⟨v, rfl⟩ := aExtern_val ha
        obtain ⟨σ', w', u, e1, e2⟩ := extern_ok h hargs ha
        refine EndsN.ok ⟨σ', w', u, ?_, e2⟩
        simp [callFunc, hf, hn, hb, h1, h2, e1]
      · cases ha
    · rename_i hb
      have hb : ¬ fn.body = none := by simpa using hb
      cases ha
      refine ⟨rfl, us, ?_, hargs⟩
      simp [callFunc, hf, hn, hb]

theorem call_ok {E : Env} (hE : EnvOk E) {σ : Sig} {S S' : AState} {w : World} {f : AV} {uf : Value} {args : List AV} {us : List Value} {nx : ANext} (h : Rel σ S w) (hf : conc σ f = some uf) (hargs : concL σ args = some us)
    (ha : aCallY E S f args = some (nx, S')) : NextOk E.P (Sem.run E.P (do let d ← Deferred.ofValue uf us.toArray; invoke d.target d.args)) σ S w nx S' := by
  unfold aCallY at ha
  split at ha
  · rename_i id
    cases ha
    simp only [conc] at hf
    split at hf
    · rename_i l hl
      cases hf
      refine ⟨rfl, l, us, hl, hargs, ?_⟩
      simp [Deferred.ofValue, invoke]
    · cases hf
  · unfold aCall at ha
    rw [obind_some] at ha; obtain ⟨⟨fn, first, captured⟩, hfo, ha⟩ := ha
    obtain ⟨a, b, rfl, c1, c2⟩ := funcOf_ok hfo hf
    simp only at ha
    split at ha
    · rename_i g
      have := callFunc_ok hE h (concL_append (concL_append c1 hargs) c2) ha
      have e : (do let d ← Deferred.ofValue (.func (.func g) a.toArray b.toArray) us.toArray; invoke d.target d.args) = callFunc g (a ++ us ++ b).toArray := by
        simp [Deferred.ofValue, invoke]
      rw [e]; exact this
    · cases ha

set_option maxHeartbeats 3200000 in
/-- ONE OPERATION -/
theorem aop_ok {E : Env} (hE : EnvOk E) {σ : Sig} {S S' : AState} {w : World} {fr : AFr} {ρ : Operand → Value} {o : Oper} {nx : ANext} (h : Rel σ S w) (hρ : ∀ x, conc σ (fr.eval x) = some (ρ x))
    (ha : aop E fr S o = some (nx, S')) : NextOk E.P ((execOp ρ o).run E.P) σ S w nx S' := by
  unfold aop at ha
  unfold execOp
  cases ho : o.op <;> rw [ho] at ha <;> simp only at ha ⊢ <;> (try (cases ha; done))
  case move x => cases ha; exact EndsN.ok ⟨σ, w, ρ x, rfl, hρ x, h, Ext.refl σ S w⟩
  case assign x => cases ha; exact EndsN.ok ⟨σ, w, ρ x, rfl, hρ x, h, Ext.refl σ S w⟩
  case pick c a b =>
    have hc := hρ c
    split at ha
    · rename_i t hev
      rw [hev] at hc
      have hc := lit_of hc
      cases ha
      refine EndsN.ok ⟨σ, w, if t then ρ a else ρ b, ?_, ?_, h, Ext.refl σ S w⟩
      · cases t <;> simp [hc, asBool]
      · cases t <;> simp [hρ]
    · cases ha
  case alloc t =>
    rw [obind_some] at ha; obtain ⟨z, hz, ha⟩ := ha
    rw [obind_some] at ha; obtain ⟨⟨id, S1⟩, hrow, ha⟩ := ha
    cases ha
    exact (alloc_ok h hz hrow).ok
  case box t x =>
    rw [obind_some] at ha; obtain ⟨⟨id, S1⟩, hrow, ha⟩ := ha
    cases ha
    exact (box_ok h (hρ x) hrow).ok
  case build t ps =>
    refine look_ok h ha fun v hv => ?_
    exact build_ok (uparts := ps.map fun (i, x) => (i, ρ x)) (by simp [evalParts_length]) (fun j p hp => by
      obtain ⟨u, h1, h2⟩ := evalParts_ok hρ _ j p hp
      exact ⟨u, by rw [← Array.getElem?_toList]; simpa using h1, h2⟩) hv
  case buildSlice t n ps =>
    obtain ⟨v, rfl⟩ := aBuildSlice_val ha
    exact (buildSlice_ok (uparts := ps.map fun (i, x) => (i, ρ x)) h (by simp [evalParts_length]) (fun j p hp => by
      obtain ⟨u, h1, h2⟩ := evalParts_ok hρ _ j p hp
      exact ⟨u, by rw [← Array.getElem?_toList]; simpa using h1, h2⟩) ha).ok
  case load t a => exact look_ok h ha fun v hv => load_ok h (hρ a) hv
  case store t a x => exact write_ok ha fun S' hs => store_ok h (hρ a) (hρ x) hs
  case nilCheck x =>
    have hc := hρ x
    split at ha
    · rename_i i a hev
      rw [hev] at hc
      have hc0 := hc
      obtain ⟨l, hl, e⟩ := ptr_of hc
      cases ha
      exact EndsN.ok ⟨σ, w, _, by rw [e]; rfl, by rw [hc0, e], h, Ext.refl σ S w⟩
    · cases ha
  case binOp op t x y pl =>
    exact look_ok h ha fun v hv => binOp_ok (hρ x) (hρ y) hv
  case unOp op t x =>
    have hc := hρ x
    split at ha
    · rename_i v hev
      rw [hev] at hc
      have hc := lit_of hc
      refine look_ok h ha fun y hy => ?_
      obtain ⟨u, rfl, hu⟩ := lit_map hy
      exact ⟨u, rfl, by rw [hc]; exact hu w⟩
    · cases ha
  case convert s d x =>
    obtain ⟨v, rfl⟩ := aConvert_val ha
    exact (convert_ok h (hρ x) ha).ok
  case makeInterface t x =>
    split at ha
    · cases ha
    · rename_i td hni hu
      cases ha
      refine EndsN.ok ⟨σ, w, .iface t (ρ x), ?_, by simp [conc, hρ], h, Ext.refl σ S w⟩
      cases td <;> first | exact (hni _ rfl).elim | simp [Instr.makeInterface, underlying_run hu]
    · cases ha
  case makeFunc fn a b =>
    cases ha
    refine EndsN.ok ⟨σ, w, .func fn (a.map ρ) (b.map ρ), rfl, ?_, h, Ext.refl σ S w⟩
    simp [conc, evalList_ok hρ, map_toArray]
  case makeMap t r =>
    cases r with
    | none =>
      simp only at ha
      rw [obind_some] at ha; obtain ⟨⟨id, S1⟩, hn, ha⟩ := ha
      cases ha
      exact (makeMap_ok h hn).ok
    | some x => cases ha
  case makeSlice t l c =>
    obtain ⟨v, rfl⟩ := aMakeSlice_val ha
    exact (makeSlice_ok h (hρ l) (hρ c) ha).ok
  case slice t x lo hi mx => exact look_ok h ha fun v hv => slice_ok h (hρ x) (opt_ok hρ lo) (opt_ok hρ hi) (opt_ok hρ mx) hv
  case fieldAddr t x f => exact look_ok h ha fun v hv => fieldAddr_ok (hρ x) hv
  case field t x f => exact look_ok h ha fun v hv => field_ok (hρ x) hv
  case indexAddr t x i => exact look_ok h ha fun v hv => indexAddr_ok (hρ x) (hρ i) hv
  case index t x i => exact look_ok h ha fun v hv => index_ok (hρ x) (hρ i) hv
  case lookup t m k ok => exact look_ok h ha fun v hv => lookup_ok h (hρ m) (hρ k) hv
  case mapUpdate t m k v => exact write_ok ha fun S' hs => mapUpdate_ok h (hρ m) (hρ k) (hρ v) hs
  case insert t m k v => exact write_ok ha fun S' hs => mapUpdate_ok h (hρ m) (hρ k) (hρ v) hs
  case typeAssert x xt a ok => exact look_ok h ha fun v hv => typeAssert_ok (hρ x) hv
  case extract x i =>
    have hc := hρ x
    split at ha
    · rename_i vs hev
      rw [hev] at hc
      simp only [conc] at hc
      split at hc
      · rename_i us hus
        refine look_ok h ha fun v hv => ?_
        obtain ⟨u, hu, hcu⟩ := concL_get hus i v hv
        refine ⟨u, hcu, ?_⟩
        rw [← Option.some.inj hc]
        simp [Instr.extract, hu]
      · cases hc
    · rename_i vs hev
      rw [hev] at hc
      have hc := lit_of hc
      refine look_ok h ha fun v hv => ?_
      cases hg : vs[i]? with
      | none => rw [hg] at hv; cases hv
      | some u =>
        rw [hg] at hv; cases hv
        exact ⟨u, rfl, by rw [hc]; simp [Instr.extract, hg]⟩
    · cases ha
  case call c =>
    have hargs := evalList_ok hρ c.args.toList
    split at ha
    · rename_i f hcal
      have := call_ok hE h (hρ f) hargs ha
      have e : (do let d ← resolve ρ c o.type; invoke d.target d.args) = (do let d ← Deferred.ofValue (ρ f) (c.args.toList.map ρ).toArray; invoke d.target d.args : Sem Next) := by
        simp [resolve, hcal, map_toArray]
      rw [e]; exact this
    · rename_i b hcal
      obtain ⟨v, rfl⟩ := aBuiltin_val ha
      obtain ⟨cs, e⟩ : ∃ cs, (do let d ← resolve ρ c o.type; invoke d.target d.args) = builtin b c.argTypes o.type cs (c.args.toList.map ρ).toArray := by
        rw [map_toArray]
        exact ⟨_, by simp only [resolve, hcal]; rfl⟩
      rw [e]; exact (builtin_ok h hargs ha).ok
    · cases ha
  case «defer» c =>
    have hargs := evalList_ok hρ c.args.toList
    split at ha
    · rename_i f hcal
      rw [obind_some] at ha; obtain ⟨⟨fn, first, captured⟩, hfo, ha⟩ := ha
      cases ha
      obtain ⟨a, b, hu, c1, c2⟩ := funcOf_ok hfo (hρ f)
      refine ⟨rfl, b, a ++ c.args.toList.map ρ, ?_, c2, concL_append c1 hargs⟩
      simp [resolve, hcal, hu, Deferred.ofValue]
    · cases ha

end Go.AM
