/- The abstract machine: slices, comparisons, maps that are looked up, assertions. -/
import Derived.Test.YtpmbnnobfjjpaaaGreatDoorAmOps1
namespace Go.AM
set_option linter.unusedVariables false
set_option linter.unusedSimpArgs false

/-! ### slice expressions -/
/-- an optional bound, as the model has it -/
def optConc (σ : Sig) : Option AV → Option Value → Prop
  | none, none => True
  | some v, some u => conc σ v = some u
  | _, _ => False

theorem bound_run {P : Program} {w : World} {k : IntKind} {n y : Nat} {code : BoundsCode} (h : n ≤ y) : (Instr.sliceBound (.int k (n : Int)) y code).run P w = .ok n w := by
  have : (n : Int) ≤ (y : Int) := by omega
  simp [Instr.sliceBound, asIntOf, h]

theorem bnd_ok {σ : Sig} {d n : Nat} {v : Option AV} {u : Option Value} (h : bnd d v = some n) (hc : optConc σ v u) : (v = none ∧ u = none ∧ n = d) ∨ ∃ x k, v = some x ∧ u = some (.int k (n : Int)) := by
  cases v with
  | none => cases u with
    | none => left; simp [bnd] at h; exact ⟨rfl, rfl, h.symm⟩
    | some _ => exact hc.elim
  | some x =>
    cases u with
    | none => exact hc.elim
    | some y =>
      right
      obtain ⟨k, rfl⟩ := natOf_ok (σ := σ) (by simpa [bnd] using h) hc
      exact ⟨x, k, rfl, rfl⟩

/-- the bounds of a slice expression come out -/
theorem bounds_run {P : Program} {σ : Sig} {w : World} (isSlice : Bool) {len cap l h m : Nat} {lo hi mx : Option AV} {ulo uhi umx : Option Value}
    (hlo : optConc σ lo ulo) (hhi : optConc σ hi uhi) (hmx : optConc σ mx umx) (bl : bnd 0 lo = some l) (bh : bnd len hi = some h) (bm : bnd cap mx = some m)
    (hmh : mx ≠ none → hi ≠ none) (h1 : l ≤ h) (h2 : h ≤ m) (h3 : m ≤ cap) : (Instr.sliceBounds isSlice len cap ulo uhi umx).run P w = .ok (l, h, m) w := by
  unfold Instr.sliceBounds
  rcases bnd_ok bm hmx with ⟨rfl, rfl, rfl⟩ | ⟨x, k, rfl, rfl⟩
  · rcases bnd_ok bh hhi with ⟨rfl, rfl, rfl⟩ | ⟨x, k, rfl, rfl⟩
    · rcases bnd_ok bl hlo with ⟨rfl, rfl, rfl⟩ | ⟨x, k, rfl, rfl⟩
      · simp
      · simp [bound_run h1]
    · rcases bnd_ok bl hlo with ⟨rfl, rfl, rfl⟩ | ⟨x2, k2, rfl, rfl⟩
      · simp [bound_run h2]
      · simp [bound_run h2, bound_run h1]
  · rcases bnd_ok bh hhi with ⟨rfl, rfl, rfl⟩ | ⟨x2, k2, rfl, rfl⟩
    · exact absurd rfl (hmh (by simp))
    · rcases bnd_ok bl hlo with ⟨rfl, rfl, rfl⟩ | ⟨x3, k3, rfl, rfl⟩
      · simp [bound_run h3, bound_run h2]
      · simp [bound_run h3, bound_run h2, bound_run h1]

theorem subSlice_ok {σ : Sig} {id off l h m n : Nat} {lc : Loc} (hl : σ id = some lc) (h1 : l ≤ h) (h2 : h ≤ m) :
    conc σ (subSlice id off l h m n) = some (.slice (some (if m = l then (⟨lc.block, lc.off + off, none⟩ : Addr) else (⟨lc.block, lc.off + off, none⟩ : Addr).add (l * n))) (h - l) (m - l)) := by
  unfold subSlice
  by_cases e : m = l
  · subst e
    have : h - m ≤ 0 := by omega
    simp [conc, hl, this]
  · have : h - l ≤ m - l := by omega
    simp [conc, hl, e, this, add_mk, Nat.add_assoc]

theorem flatOpt_ok {σ : Sig} {v : Option AV} {u : Option Value} {x : Option Value} (h : flatOpt v = some x) (hc : optConc σ v u) : u = x := by
  cases v with
  | none => simp [flatOpt] at h; cases u with
    | none => exact h
    | some _ => exact hc.elim
  | some v =>
    cases u with
    | none => exact hc.elim
    | some u =>
      simp only [flatOpt] at h
      split at h
      · rename_i y hy
        cases h
        have := conc_flat (σ := σ) hy
        have hc' : conc σ v = some u := hc
        rw [hc'] at this; cases this; rfl
      · cases h

theorem isNone_opt {σ : Sig} {v : Option AV} {u : Option Value} (hc : optConc σ v u) (h : v.isNone = true) : u = none := by
  cases v <;> cases u <;> simp_all [optConc]

theorem or_bounds {hi mx : Option AV} (h : (mx.isNone || hi.isSome) = true) : mx ≠ none → hi ≠ none := by
  intro h1 h2
  subst h2
  cases mx <;> simp_all

theorem slice_ok {P : Program} {σ : Sig} {S : AState} {w : World} {t : TypeId} {x v : AV} {lo hi mx : Option AV} {u : Value} {ulo uhi umx : Option Value} (hr : Rel σ S w) (hx : conc σ x = some u)
    (hlo : optConc σ lo ulo) (hhi : optConc σ hi uhi) (hmx : optConc σ mx umx) (h : aSlice P S t x lo hi mx = some v) :
    ∃ y, conc σ v = some y ∧ (Instr.sliceAt t u ulo uhi umx).run P w = .ok y w := by
  unfold aSlice at h
  split at h
  · rename_i s
    simp only [conc, Option.some.injEq] at hx
    subst hx
    rw [obind_some] at h; obtain ⟨l, hl, h⟩ := h
    rw [obind_some] at h; obtain ⟨hh, hhv, h⟩ := h
    split at h
    · rename_i hn
      obtain ⟨y, rfl, hy⟩ := lit_map h
      rw [flatOpt_ok hl hlo, flatOpt_ok hhv hhi, isNone_opt hmx hn]
      exact ⟨y, by simp [conc], hy w⟩
    · cases h
  · simp only [conc, Option.some.injEq] at hx
    subst hx
    split at h
    · rename_i elem hu
      rw [obind_some] at h; obtain ⟨n, hsz, h⟩ := h
      rw [obind_some] at h; obtain ⟨l, hl, h⟩ := h
      rw [obind_some] at h; obtain ⟨hh, hhv, h⟩ := h
      rw [obind_some] at h; obtain ⟨m, hm, h⟩ := h
      split at h
      · rename_i hc
        simp only [Bool.and_eq_true, beq_iff_eq] at hc
        obtain ⟨⟨⟨rfl, rfl⟩, rfl⟩, hor⟩ := hc
        cases h
        refine ⟨.slice none 0 0, by simp [conc], ?_⟩
        have hb := bounds_run (P := P) (w := w) true hlo hhi hmx hl hhv hm (or_bounds hor) (Nat.le_refl _) (Nat.le_refl _) (Nat.le_refl _)
        simp [Instr.sliceAt, underlying_run hu, Instr.slice, hb, sizeOf_run hsz]
      · cases h
    · cases h
  · rename_i id off len cap
    obtain ⟨lc, c, hlc, rfl, hlen, hk1, hk2⟩ := slice_of hx
    split at h
    · rename_i elem hu
      rw [obind_some] at h; obtain ⟨n, hsz, h⟩ := h
      rw [obind_some] at h; obtain ⟨l, hl, h⟩ := h
      rw [obind_some] at h; obtain ⟨hh, hhv, h⟩ := h
      split at h
      · rename_i c'
        obtain rfl := hk1 c' rfl
        rw [obind_some] at h; obtain ⟨m, hm, h⟩ := h
        split at h
        · rename_i hc
          simp only [Bool.and_eq_true, decide_eq_true_eq] at hc
          obtain ⟨⟨⟨h1, h2⟩, h3⟩, hor⟩ := hc
          cases h
          refine ⟨_, subSlice_ok hlc h1 h2, ?_⟩
          have hb := bounds_run (P := P) (w := w) true hlo hhi hmx hl hhv hm (or_bounds hor) h1 h2 h3
          simp only [Instr.sliceAt, Sem.run_bind, underlying_run hu, Result.andThen_ok, Instr.slice, hb, sizeOf_run hsz, Sem.run_pure]
          split <;> simp_all
        · cases h
      · obtain ⟨hceq, hcle⟩ := hk2 rfl
        split at h
        · split at h
          · rename_i cells esz el ex hg
            split at h
            · rename_i hc
              simp only [Bool.and_eq_true, Bool.or_eq_true, decide_eq_true_eq, beq_iff_eq, bne_iff_ne] at hc
              obtain ⟨⟨⟨⟨he, hn0⟩, h1⟩, h2⟩, h3⟩ := hc
              cases h
              obtain ⟨lc', hlc', C, fz, _, _, _, hesz, _⟩ := hr.obj id _ hg
              rw [hlc] at hlc'; cases hlc'
              have hen : lc.esz = n := hesz.trans he
              have hdiv : (off + l * n) / lc.esz = off / lc.esz + l := by rw [hen, Nat.add_mul_div_right _ _ (by omega)]
              have hb := bounds_run (P := P) (w := w) true (cap := c) hlo hhi hmx hl hhv (m := c) (by simp [bnd]) (by simp) h1 (by omega) (Nat.le_refl _)
              have hle2 : off / lc.esz + l + (hh - l) ≤ lc.ecap := by omega
              refine ⟨.slice (some ⟨lc.block, lc.off + (off + l * n), none⟩) (hh - l) (c - l), ?_, ?_⟩
              · simp only [conc, hlc, hdiv, if_pos hle2, Option.some.injEq, Value.slice.injEq, true_and]
                omega
              · simp only [Instr.sliceAt, Sem.run_bind, underlying_run hu, Result.andThen_ok, Instr.slice, hb, sizeOf_run hsz, Sem.run_pure]
                rcases h3 with rfl | h3
                · split <;> simp [add_mk]
                · rw [if_neg (by omega)]
                  simp [add_mk, Nat.add_assoc]
            · cases h
          · cases h
        · rename_i mv
          rw [obind_some] at h; obtain ⟨m, hm, h⟩ := h
          split at h
          · rename_i hc
            simp only [Bool.and_eq_true, decide_eq_true_eq] at hc
            obtain ⟨⟨⟨h1, h2⟩, h3⟩, hor⟩ := hc
            cases h
            refine ⟨_, subSlice_ok hlc h1 h2, ?_⟩
            have hb := bounds_run (P := P) (w := w) true (cap := c) hlo hhi hmx hl hhv (m := m) (by simpa [bnd] using hm) (fun _ => by intro e; subst e; simp at hor) h1 h2 (by omega)
            simp only [Instr.sliceAt, Sem.run_bind, underlying_run hu, Result.andThen_ok, Instr.slice, hb, sizeOf_run hsz, Sem.run_pure]
            split <;> simp_all
          · cases h
    · cases h
  · rename_i id off
    obtain ⟨lc, hlc, rfl⟩ := ptr_of hx
    split at h
    · rename_i k elem hu
      rw [obind_some] at h; obtain ⟨n, hsz, h⟩ := h
      rw [obind_some] at h; obtain ⟨l, hl, h⟩ := h
      rw [obind_some] at h; obtain ⟨hh, hhv, h⟩ := h
      rw [obind_some] at h; obtain ⟨m, hm, h⟩ := h
      split at h
      · rename_i hc
        simp only [Bool.and_eq_true, decide_eq_true_eq] at hc
        obtain ⟨⟨⟨h1, h2⟩, h3⟩, hor⟩ := hc
        cases h
        refine ⟨_, subSlice_ok hlc h1 h2, ?_⟩
        have hb := bounds_run (P := P) (w := w) false hlo hhi hmx hl hhv hm (or_bounds hor) h1 h2 h3
        simp [Instr.sliceAt, underlying_run hu, Instr.sureAddr, hb, sizeOf_run hsz]
      · cases h
    · cases h
  · cases h

/-! ### comparisons -/
theorem eqGuard_run {P : Program} {w : World} {op : BinOp} {t : TypeId} {x y : Operand} {a b : Value} (h1 : ¬ (a = .nilIface ∧ b = .nilIface)) (h2 : ∀ c d, ¬ (a = .agg c ∧ b = .agg d)) :
    (eqGuard op t x y a b).run P w = .ok () w := by
  cases op <;> cases a <;> first | rfl | (cases b <;> first | rfl | exact absurd ⟨rfl, rfl⟩ h1 | exact absurd ⟨rfl, rfl⟩ (h2 _ _))

section
variable {P : Program} {w : World} {t : TypeId} (d : Nat)
theorem eqIn_ptrs {e : TypeId} {n b o o' : Nat} (hu : P.underlying t = some (.pointer e)) (hn : sizeT P e = some n) (h0 : n ≠ 0) :
    (Op.equalIn (d + 1) t (.pointer (some ⟨b, o, none⟩)) (.pointer (some ⟨b, o', none⟩))).run P w = .ok (o == o') w := by
  have e1 : ((⟨b, o, none⟩ : Addr) == ⟨b, o', none⟩) = (o == o') := by
    by_cases h : o = o'
    · subst h; simp
    · have : (⟨b, o, none⟩ : Addr) ≠ ⟨b, o', none⟩ := by intro e; injection e with _ e2 _; exact h e2
      rw [beq_eq_false_iff_ne.2 this, beq_eq_false_iff_ne.2 h]
  simp only [Op.equalIn, Sem.run_bind, underlying_run hu, Result.andThen_ok, sizeOf_run hn, ne_eq, h0, not_false_eq_true, if_true, sameAddr, beq_self_eq_true, e1]
  rfl
theorem eqIn_ptr_nil {e : TypeId} {a : Addr} (hu : P.underlying t = some (.pointer e)) : (Op.equalIn (d + 1) t (.pointer (some a)) (.pointer none)).run P w = .ok false w := by
  simp only [Op.equalIn, Sem.run_bind, underlying_run hu, Result.andThen_ok]; rfl
theorem eqIn_nil_ptr {e : TypeId} {a : Addr} (hu : P.underlying t = some (.pointer e)) : (Op.equalIn (d + 1) t (.pointer none) (.pointer (some a))).run P w = .ok false w := by
  simp only [Op.equalIn, Sem.run_bind, underlying_run hu, Result.andThen_ok]; rfl
theorem eqIn_slice_nil {e : TypeId} {a : Addr} {n c n' c' : Nat} (hu : P.underlying t = some (.slice e)) : (Op.equalIn (d + 1) t (.slice (some a) n c) (.slice none n' c')).run P w = .ok false w := by
  simp only [Op.equalIn, Sem.run_bind, underlying_run hu, Result.andThen_ok]; rfl
theorem eqIn_nil_slice {e : TypeId} {a : Addr} {n c n' c' : Nat} (hu : P.underlying t = some (.slice e)) : (Op.equalIn (d + 1) t (.slice none n' c') (.slice (some a) n c)).run P w = .ok false w := by
  simp only [Op.equalIn, Sem.run_bind, underlying_run hu, Result.andThen_ok]; rfl
theorem eqIn_map_nil {k e : TypeId} {b : Nat} (hu : P.underlying t = some (.map k e)) : (Op.equalIn (d + 1) t (.map (some b)) (.map none)).run P w = .ok false w := by
  simp only [Op.equalIn, Sem.run_bind, underlying_run hu, Result.andThen_ok]; rfl
theorem eqIn_nil_map {k e : TypeId} {b : Nat} (hu : P.underlying t = some (.map k e)) : (Op.equalIn (d + 1) t (.map none) (.map (some b))).run P w = .ok false w := by
  simp only [Op.equalIn, Sem.run_bind, underlying_run hu, Result.andThen_ok]; rfl
theorem eqIn_func_nil {ps rs : Array TypeId} {v : Bool} {f : Fn} {a b : Array Value} (hu : P.underlying t = some (.func ps rs v)) : (Op.equalIn (d + 1) t (.func f a b) .nilFunc).run P w = .ok false w := by
  simp only [Op.equalIn, Sem.run_bind, underlying_run hu, Result.andThen_ok]; rfl
theorem eqIn_nil_func {ps rs : Array TypeId} {v : Bool} {f : Fn} {a b : Array Value} (hu : P.underlying t = some (.func ps rs v)) : (Op.equalIn (d + 1) t .nilFunc (.func f a b)).run P w = .ok false w := by
  simp only [Op.equalIn, Sem.run_bind, underlying_run hu, Result.andThen_ok]; rfl
theorem eqIn_iface_nil {ms : Array (String × TypeId)} {u : TypeId} {v : Value} (hu : P.underlying t = some (.interface ms)) : (Op.equalIn (d + 1) t (.iface u v) .nilIface).run P w = .ok false w := by
  simp only [Op.equalIn, Sem.run_bind, underlying_run hu, Result.andThen_ok]; rfl
theorem eqIn_nil_iface {ms : Array (String × TypeId)} {u : TypeId} {v : Value} (hu : P.underlying t = some (.interface ms)) : (Op.equalIn (d + 1) t .nilIface (.iface u v)).run P w = .ok false w := by
  simp only [Op.equalIn, Sem.run_bind, underlying_run hu, Result.andThen_ok]; rfl
end

theorem eq_ok {P : Program} {σ : Sig} {w : World} {t : TypeId} {x y : AV} {a b : Value} {r : Bool} {ox oy : Operand} (hx : conc σ x = some a) (hy : conc σ y = some b) (h : aEq P t x y = some r) :
    (eqGuard .eql t ox oy a b).run P w = .ok () w ∧ (eqGuard .neq t ox oy a b).run P w = .ok () w ∧ (Op.equal t a b).run P w = .ok r w ∧
    (∀ op, (op = .eql ∨ op = .neq) → (binOp op t a b).run P w = .ok (.bool (if op = .eql then r else !r)) w) := by
  have key : ¬ (a = .nilIface ∧ b = .nilIface) ∧ (∀ c d, ¬ (a = .agg c ∧ b = .agg d)) ∧ (Op.equal t a b).run P w = .ok r w ∧
      (binOp .eql t a b = (do pure (.bool (← Op.equal t a b)) : Sem Value)) ∧ (binOp .neq t a b = (do pure (.bool (!(← Op.equal t a b))) : Sem Value)) := by
    unfold aEq at h
    split at h
    · rename_i e i p j q hu
      obtain ⟨l, hl, rfl⟩ := ptr_of hx
      obtain ⟨m, hm, rfl⟩ := ptr_of hy
      split at h
      · rename_i hij
        obtain rfl : i = j := by simpa using hij
        rw [hl] at hm; cases hm
        rw [obind_some] at h; obtain ⟨n, hn, h⟩ := h
        split at h
        · rename_i hn0
          cases h
          have hn0' : n ≠ 0 := by simpa using hn0
          have e1 : (l.off + p == l.off + q) = (p == q) := by
            by_cases e : p = q
            · subst e; simp
            · have : l.off + p ≠ l.off + q := by omega
              rw [beq_eq_false_iff_ne.2 this, beq_eq_false_iff_ne.2 e]
          exact ⟨by simp, by simp, by rw [← e1]; exact eqIn_ptrs 9999 hu hn hn0', rfl, rfl⟩
        · cases h
      · cases h
    · rename_i i p hu
      obtain ⟨l, hl, rfl⟩ := ptr_of hx
      simp only [conc, Option.some.injEq] at hy; subst hy
      cases h
      exact ⟨by simp, by simp, eqIn_ptr_nil 9999 hu, rfl, rfl⟩
    · rename_i i p hu
      obtain ⟨l, hl, rfl⟩ := ptr_of hy
      simp only [conc, Option.some.injEq] at hx; subst hx
      cases h
      exact ⟨by simp, by simp, eqIn_nil_ptr 9999 hu, rfl, rfl⟩
    · rename_i hu
      obtain ⟨l, c, hl, rfl, _⟩ := slice_of hx
      simp only [conc, Option.some.injEq] at hy; subst hy
      cases h
      exact ⟨by simp, by simp, eqIn_slice_nil 9999 hu, rfl, rfl⟩
    · rename_i hu
      obtain ⟨l, c, hl, rfl, _⟩ := slice_of hy
      simp only [conc, Option.some.injEq] at hx; subst hx
      cases h
      exact ⟨by simp, by simp, eqIn_nil_slice 9999 hu, rfl, rfl⟩
    · rename_i hu
      simp only [conc] at hx
      split at hx
      · cases hx
        simp only [conc, Option.some.injEq] at hy; subst hy
        cases h
        exact ⟨by simp, by simp, eqIn_map_nil 9999 hu, rfl, rfl⟩
      · cases hx
    · rename_i hu
      simp only [conc] at hy
      split at hy
      · cases hy
        simp only [conc, Option.some.injEq] at hx; subst hx
        cases h
        exact ⟨by simp, by simp, eqIn_nil_map 9999 hu, rfl, rfl⟩
      · cases hy
    · rename_i hu
      simp only [conc] at hx
      split at hx
      · cases hx
        simp only [conc, Option.some.injEq] at hy; subst hy
        cases h
        exact ⟨by simp, by simp, eqIn_func_nil 9999 hu, rfl, rfl⟩
      · cases hx
    · rename_i hu
      simp only [conc] at hy
      split at hy
      · cases hy
        simp only [conc, Option.some.injEq] at hx; subst hx
        cases h
        exact ⟨by simp, by simp, eqIn_nil_func 9999 hu, rfl, rfl⟩
      · cases hy
    · rename_i hu
      simp only [conc] at hx
      split at hx
      · cases hx
        simp only [conc, Option.some.injEq] at hy; subst hy
        cases h
        exact ⟨by simp, by simp, eqIn_iface_nil 9999 hu, rfl, rfl⟩
      · cases hx
    · rename_i hu
      simp only [conc] at hy
      split at hy
      · cases hy
        simp only [conc, Option.some.injEq] at hx; subst hx
        cases h
        exact ⟨by simp, by simp, eqIn_nil_iface 9999 hu, rfl, rfl⟩
      · cases hy
    · cases h
  obtain ⟨k1, k2, k3, k4, k5⟩ := key
  refine ⟨eqGuard_run k1 k2, eqGuard_run k1 k2, k3, fun op hop => ?_⟩
  rcases hop with rfl | rfl
  · rw [k4]; simp [k3]
  · rw [k5]; simp [k3]

theorem binOp_ok {P : Program} {σ : Sig} {w : World} {op : BinOp} {t : TypeId} {ox oy : Operand} {x y v : AV} {a b : Value} (hx : conc σ x = some a) (hy : conc σ y = some b)
    (h : aBinOp P op t ox oy x y = some v) : ∃ u, conc σ v = some u ∧ ((do eqGuard op t ox oy a b; binOp op t a b) : Sem Value).run P w = .ok u w := by
  unfold aBinOp at h
  split at h
  · rename_i a' b' ha hb
    have e1 := conc_flat (σ := σ) ha; rw [hx] at e1; cases e1
    have e2 := conc_flat (σ := σ) hb; rw [hy] at e2; cases e2
    obtain ⟨u, rfl, hu⟩ := lit_map h
    exact ⟨u, by simp [conc], hu w⟩
  · split at h
    · cases he : aEq P t x y with
      | none => rw [he] at h; cases h
      | some r =>
        rw [he] at h; cases h
        obtain ⟨h1, _, _, h4⟩ := eq_ok (w := w) (ox := ox) (oy := oy) hx hy he
        exact ⟨.bool r, by simp [conc, litB], by simp [h1, h4 .eql (.inl rfl)]⟩
    · cases he : aEq P t x y with
      | none => rw [he] at h; cases h
      | some r =>
        rw [he] at h; cases h
        obtain ⟨_, h2, _, h4⟩ := eq_ok (w := w) (ox := ox) (oy := oy) hx hy he
        exact ⟨.bool (!r), by simp [conc, litB], by simp [h2, h4 .neq (.inr rfl)]⟩
    · cases h

end Go.AM
