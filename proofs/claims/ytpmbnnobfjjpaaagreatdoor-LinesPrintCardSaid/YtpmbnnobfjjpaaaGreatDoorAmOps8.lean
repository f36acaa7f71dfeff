/- The abstract machine: builtins, functions without a body. -/
import Derived.Test.YtpmbnnobfjjpaaaGreatDoorAmOps7
import Derived.Lib.MakeNoZero
namespace Go.AM
set_option linter.unusedVariables false
set_option linter.unusedSimpArgs false

/-- where an operation that goes on in its own frame ends -/
def EndsN (P : Program) (σ : Sig) (S : AState) (w : World) (s : Sem Next) (v : AV) (S' : AState) : Prop :=
  ∃ σ' w' u, s.run P w = .ok (.value u) w' ∧ conc σ' v = some u ∧ Rel σ' S' w' ∧ Ext σ S w σ' S' w'

theorem Ends.next {P : Program} {σ : Sig} {S S' : AState} {w : World} {s : Sem Value} {v : AV} (h : Ends P σ S w s v S') : EndsN P σ S w (do pure (.value (← s))) v S' := by
  obtain ⟨σ', w', u, h1, h2⟩ := h
  exact ⟨σ', w', u, by simp [h1], h2⟩

/-- nothing changes -/
theorem Ends.here {P : Program} {σ : Sig} {S : AState} {w : World} {s : Sem Value} {v : AV} {u : Value} (h : Rel σ S w) (hs : s.run P w = .ok u w) (hv : conc σ v = some u) : Ends P σ S w s v S :=
  ⟨σ, w, u, hs, hv, h, Ext.refl σ S w⟩

theorem load_bytes {P : Program} {w : World} : ∀ (ns : List Int) (a : Addr) (acc : ByteArray), (∀ j x, ns[j]? = some x → w.cell? (a.add j) = some (.int .u8 x)) →
    (loadBytes a acc ns.length).run P w = .ok ⟨acc.data ++ (ns.map fun n => UInt8.ofNat n.toNat).toArray⟩ w
  | [], a, acc, _ => by simp [loadBytes]
  | x :: l, a, acc, h => by
    have h0 : w.cell? a = some (.int .u8 x) := by
      have := h 0 x rfl
      simpa [Addr.add] using this
    have ih := load_bytes (P := P) (w := w) l (a.add 1) (acc.push x.toNat.toUInt8) (fun j y hy => by
      have := h (j + 1) y (by simpa using hy)
      have e : (a.add 1).add j = a.add (j + 1) := by
        unfold Addr.add
        by_cases hj : j = 0
        · subst hj; simp
        · simp [hj]; omega
      rw [e]; exact this)
    simp only [List.length_cons, loadBytes, Sem.run_bind, run_load, h0, Result.andThen]
    rw [ih]
    congr 1
    apply ByteArray.ext
    simp [ByteArray.push]

theorem liesAt_off {P : Program} {e : TypeId} (hc : P.cellsOf e = 1) (count off n : Nat) (hn : off + n ≤ count) : liesAt P P.depth e count off e n = true := by
  have hd : P.depth = (2 * (P.types.size + Made.depth) + 1) + 1 := rfl
  rw [hd]
  simp only [liesAt, Bool.or_eq_true]
  left
  rw [hd]
  simp [rowAt, hc, hn, sameLayout, Nat.mod_one]

theorem unsafeString_ok {P : Program} {σ : Sig} {S : AState} {w : World} {ats : Array TypeId} {ty pt e : TypeId} {id off n : Nat} {cells : List AV} {esz : Nat} {ex : Bool} {vs : List Value} {bs : List UInt8} {l : Loc}
    (h : Rel σ S w) (hl : σ id = some l) (hat : ats[0]? = some pt) (hpt : P.underlying pt = some (.pointer e)) (hg : S.get id = some (.row cells esz e ex)) (h0 : n ≠ 0) (hsm : n ≤ 100000)
    (hb : off + n ≤ cells.length) (hc : P.cellsOf e = 1) (hvs : flatList ((cells.drop off).take n) = some vs) (hbs : aConvert.bytesFrom vs = some bs) :
    Ends P σ S w (Builtin.unsafeString_ ats ty #[.pointer (some ⟨l.block, l.off + off, none⟩), .int .i64 (n : Int)]) (.lit (.string ⟨bs.toArray⟩)) (S.kill id) := by
  obtain ⟨ns, rfl, rfl⟩ := bytesFrom_ok vs bs hbs
  obtain ⟨us, c1, c2, c3⟩ := row_cells h hg hl hb
  rw [concL_flat hvs] at c1; cases c1
  have hnl : ns.length = n := by simpa using c2
  obtain ⟨l', hl', C, fz, g1, _, ⟨us, g3, g4⟩, _⟩ := h.obj id _ hg
  rw [hl] at hl'; cases hl'
  have hul := concL_length g3
  have hlast := (Array.getElem?_eq_some_iff.1 (g4 (off + n - 1) _ (List.getElem?_eq_getElem (by omega)))).1
  have hsh : w.shape? l.block = some (e, C.size) := by simp [World.shape?, g1]
  have hlies := liesAt_off (P := P) hc (C.size / P.cellsOf e) (l.off + off) n (by rw [hc, Nat.div_one]; omega)
  have hlb := load_bytes (P := P) (w := w) ns ⟨l.block, l.off + off, none⟩ .empty (fun j x hj => c3 j _ (by simp [hj]))
  rw [hnl] at hlb
  have hmax : IntKind.i64.max = 9223372036854775807 := rfl
  have h1 : ¬ ((n : Int) < 0) := by omega
  have h2 : ¬ ((9223372036854775807 : Int) < (n : Int)) := by omega
  have hlt : l.block < w.heap.size := (Array.getElem?_eq_some_iff.1 g1).1
  obtain ⟨r1, r2⟩ := rel_kill (w' := w.freeze ⟨l.block, l.off + off, none⟩ n) h hg hl (by rw [freeze_eq w _ _ _ C e fz g1 h0]; simp [setBlk])
    (fun b hb => by rw [freeze_eq w _ _ _ C e fz g1 h0]; exact setBlk_other _ _ _ _ hb)
    (by rw [freeze_eq w _ _ _ C e fz g1 h0]; rfl) (by rw [freeze_eq w _ _ _ C e fz g1 h0]; rfl) (by rw [freeze_eq w _ _ _ C e fz g1 h0]; rfl)
  refine ⟨σ, _, _, ?_, rfl, r1, r2⟩
  have hdef : Builtin.unsafeString_ ats ty #[.pointer (some ⟨l.block, l.off + off, none⟩), .int .i64 (n : Int)] =
      (do
        let n' ← asInt (.int .i64 (n : Int))
        let some pt := ats[0]? | stuck "unsafe.String: no argument types"
        if n' < 0 then runtimePanic (.error "unsafe.String: len out of range")
        if n' > IntKind.i64.max then unsupported (.unsafePointer "String: a length above the largest int")
        if n' = 0 then pure (.string .empty)
        else if ← variablesAt ⟨l.block, l.off + off, none⟩ (← elemOf pt) n'.toNat then do
          let s ← loadBytes ⟨l.block, l.off + off, none⟩ .empty n'.toNat
          freeze ⟨l.block, l.off + off, none⟩ n'.toNat
          pure (.string s)
        else unsupported (.unsafePointer "String: not so many bytes at ptr")) := rfl
  rw [hdef]
  simp [asInt, asIntOf, hat, hmax, h1, h2, h0, elemOf, underlying_run hpt, variablesAt, hsh, hlies, hlb]

theorem allFlat_ok {σ : Sig} : ∀ {args : List AV} {us vs : List Value}, concL σ args = some us → allFlat args = some vs → us = vs
  | [], us, vs, h, k => by simp [concL] at h; simp [allFlat] at k; rw [h, k]
  | v :: r, us, vs, h, k => by
    obtain ⟨u, l, rfl, hu, hl⟩ := concL_cons h
    simp only [allFlat] at k
    split at k
    · rename_i a l' ha hl'
      cases k
      rw [conc_flat ha] at hu; cases hu
      rw [allFlat_ok hl hl']
    · cases k

theorem MapRel.size {σ : Sig} {es : List (AV × AV)} {E : Array MapEntry} (h : MapRel σ es E) : E.size = es.length := by
  obtain ⟨ks, vs, h1, h2, h3, _⟩ := h
  have := h3.length_eq
  have e1 := concL_length h1
  have e2 := concL_length h2
  simp at this e1 e2
  omega

theorem map_of {σ : Sig} {id : Nat} {u : Value} (h : conc σ (.map id) = some u) : ∃ l, σ id = some l ∧ u = .map (some l.block) := by
  simp only [conc] at h
  split at h
  · rename_i l hl; cases h; exact ⟨l, hl, rfl⟩
  · cases h

theorem run_getObj_map {P : Program} {w : World} {r : Nat} {es : Array MapEntry} {clock : Nat} (h : w.heap[r]? = some (.map es clock)) : (getObj r).run P w = .ok (.map es clock) w := by simp [getObj, Sem.run, h]

theorem run_setObj_at {P : Program} {w : World} {r : Nat} {O : Obj} (O' : Obj) (h : w.heap[r]? = some O) (hO : ∀ c e f, O ≠ .cells c e f) : (setObj r O').run P w = .ok () (setBlk w r O') := by
  cases O <;> first | exact absurd rfl (hO _ _ _) | simp [setObj, Sem.run, h, setBlk]

theorem concL2 {σ : Sig} {a b : AV} {us : List Value} (h : concL σ [a, b] = some us) : ∃ x y, us = [x, y] ∧ conc σ a = some x ∧ conc σ b = some y := by
  obtain ⟨x, l, rfl, hx, hl⟩ := concL_cons h
  obtain ⟨y, l, rfl, hy, hl⟩ := concL_cons hl
  simp [concL] at hl; subst hl
  exact ⟨x, y, rfl, hx, hy⟩
theorem concL1 {σ : Sig} {a : AV} {us : List Value} (h : concL σ [a] = some us) : ∃ x, us = [x] ∧ conc σ a = some x := by
  obtain ⟨x, l, rfl, hx, hl⟩ := concL_cons h
  simp [concL] at hl; subst hl
  exact ⟨x, rfl, hx⟩
theorem lit_of {σ : Sig} {x u : Value} (h : conc σ (.lit x) = some u) : u = x := by simp [conc] at h; exact h.symm

/-- THE BUILTINS -/
theorem builtin_ok {E : Env} {σ : Sig} {S S' : AState} {w : World} {b : Builtin} {ats : Array TypeId} {ty : TypeId} {args : List AV} {us : List Value} {v : AV} {cs : Array Bool} (h : Rel σ S w)
    (hargs : concL σ args = some us) (ha : aBuiltin E S b ats ty args = some (.val v, S')) : EndsN E.P σ S w (builtin b ats ty cs us.toArray) v S' := by
  unfold aBuiltin at ha
  split at ha
  · rename_i s x
    obtain ⟨a, c, rfl, h1, h2⟩ := concL2 hargs
    split at ha
    · rename_i hsz
      exact (append_ok (ty := ty) h h1 h2 ha (by simpa using hsz)).next
    · cases ha
  · obtain ⟨a, c, rfl, h1, h2⟩ := concL2 hargs
    exact (copy_ok (ty := ty) h h1 h2 ha).next
  · obtain ⟨a, rfl, h1⟩ := concL1 hargs
    obtain ⟨l, c, hl, rfl, _⟩ := slice_of h1
    split at ha
    · rename_i t ht
      split at ha
      · rename_i e hu
        cases ha
        exact (Ends.here h (by simp [Builtin.len_, ht, underlying_run hu, goInt]) rfl).next
      · cases ha
    · cases ha
  · rename_i id
    obtain ⟨a, rfl, h1⟩ := concL1 hargs
    obtain ⟨l, hl, rfl⟩ := map_of h1
    split at ha
    · rename_i t ht
      split at ha
      · rename_i k e es hu hg
        cases ha
        obtain ⟨l', hl', En, clock, g1, g2⟩ := h.obj id _ hg
        rw [hl] at hl'; cases hl'
        exact (Ends.here h (by simp [Builtin.len_, ht, underlying_run hu, goInt, run_getObj_map g1, g2.size]) rfl).next
      · cases ha
    · cases ha
  · obtain ⟨a, rfl, h1⟩ := concL1 hargs
    obtain rfl := lit_of h1
    rw [obind_some] at ha; obtain ⟨y, hy, ha⟩ := ha
    cases ha
    exact (Ends.here h (pureRun_ok _ hy w) rfl).next
  · obtain ⟨a, rfl, h1⟩ := concL1 hargs
    obtain ⟨l, c, hl, rfl, h2, h3⟩ := slice_of h1
    split at ha
    · rename_i t ht
      split at ha
      · rename_i e hu
        cases ha
        exact (Ends.here h (u := .int .i64 (c : Int)) (by simp [Builtin.cap_, ht, underlying_run hu, goInt]) (by simp_all [conc])).next
      · cases ha
    · cases ha
  · obtain ⟨a, rfl, h1⟩ := concL1 hargs
    obtain rfl := lit_of h1
    rw [obind_some] at ha; obtain ⟨y, hy, ha⟩ := ha
    cases ha
    exact (Ends.here h (pureRun_ok _ hy w) rfl).next
  · rename_i id off len cap
    obtain ⟨a, rfl, h1⟩ := concL1 hargs
    obtain ⟨l, c, hl, rfl, h2, h3⟩ := slice_of h1
    split at ha
    · cases ha
    · rename_i h0
      have h0' : len ≠ 0 := by simpa using h0
      cases ha
      exact (Ends.here h (Lib.run_unsafeSliceData_row w ats ty _ len c (by omega)) (by simp [conc, hl])).next
  · obtain ⟨a, rfl, h1⟩ := concL1 hargs
    obtain rfl := lit_of h1
    cases ha
    exact (Ends.here h (Lib.run_unsafeSliceData_nil w ats ty _ _) rfl).next
  · obtain ⟨a, c, rfl, h1, h2⟩ := concL2 hargs
    obtain rfl := lit_of h1
    obtain rfl := lit_of h2
    split at ha
    · rename_i pt hat
      cases ha
      have hmax : IntKind.i64.max = 9223372036854775807 := rfl
      have hdef : Builtin.unsafeString_ ats ty #[.pointer none, .int .i64 0] =
          (do
            let n ← asInt (.int .i64 0)
            let some pt := ats[0]? | stuck "unsafe.String: no argument types"
            if n < 0 then runtimePanic (.error "unsafe.String: len out of range")
            if n > IntKind.i64.max then unsupported (.unsafePointer "String: a length above the largest int")
            if n = 0 then pure (.string .empty)
            else runtimePanic (.error "unsafe.String: ptr is nil and len is not zero")) := rfl
      have hrun : (Builtin.unsafeString_ ats ty #[.pointer none, .int .i64 0]).run E.P w = .ok (.string .empty) w := by
        rw [hdef]
        simp [asInt, asIntOf, hat, hmax]
      exact (Ends.here h hrun rfl).next
    · cases ha
  · rename_i id off n
    obtain ⟨a, c, rfl, h1, h2⟩ := concL2 hargs
    obtain ⟨l, hl, rfl⟩ := ptr_of h1
    obtain rfl := lit_of h2
    split at ha
    · rename_i pt hat
      split at ha
      · rename_i e cells esz el ex hpt hg
        split at ha
        · rename_i hc
          simp only [Bool.and_eq_true, bne_iff_ne, ne_eq, decide_eq_true_eq, beq_iff_eq] at hc
          obtain ⟨⟨⟨⟨c1, c2⟩, rfl⟩, c4⟩, c5⟩ := hc
          rw [obind_some] at ha; obtain ⟨vs, hvs, ha⟩ := ha
          rw [obind_some] at ha; obtain ⟨bs, hbs, ha⟩ := ha
          cases ha
          exact (unsafeString_ok (ty := ty) h hl hat hpt hg c1 c2 c4 c5 hvs hbs).next
        · cases ha
      · cases ha
    · cases ha
  · rw [obind_some] at ha; obtain ⟨vs, hvs, ha⟩ := ha
    rw [obind_some] at ha; obtain ⟨y, hy, ha⟩ := ha
    obtain rfl := allFlat_ok hargs hvs
    cases ha
    exact (Ends.here h (pureRun_ok _ hy w) rfl).next
  · rw [obind_some] at ha; obtain ⟨vs, hvs, ha⟩ := ha
    rw [obind_some] at ha; obtain ⟨y, hy, ha⟩ := ha
    obtain rfl := allFlat_ok hargs hvs
    cases ha
    exact (Ends.here h (pureRun_ok _ hy w) rfl).next
  · cases ha

/-! ### functions without a body -/
def ExtK.run : ExtK → Array Value → Sem Value
  | .noEscape => Extern.AbiNoEscape.same
  | .indexByte => Extern.BytealgIndexByte.indexByte
  | .makeNoZero ps rs => Extern.BytealgMakeNoZero.makeNoZero ps rs
  | .mapsClone => Extern.MapsClone.clone

structure EnvOk (E : Env) : Prop where
  nogo : ∀ (f : FuncId) (fn : Func), E.P.funcs[f]? = some fn → (fn.name == "runtime.NumGoroutine") = false
  ext : ∀ f k, E.ext f = some k → ∃ fn, E.P.funcs[f]? = some fn ∧ Extern.findNext fn = none ∧ Extern.find fn = some k.run

theorem makeNoZero_ok {P : Program} {σ : Sig} {S S' : AState} {w : World} {ps rs : Array TypeId} {t elem : TypeId} {n id : Nat} (h : Rel σ S w) (ht : rs[0]? = some t) (hu : P.underlying t = some (.slice elem))
    (hn : n ≤ 100000) (hr : aNewRow S [] 1 elem false = some (id, S')) : Ends P σ S w (Extern.BytealgMakeNoZero.makeNoZero ps rs #[.int .i64 (n : Int)]) (.slice id 0 n none) S' := by
  have hdef : Extern.BytealgMakeNoZero.makeNoZero ps rs #[.int .i64 (n : Int)] =
      (do
        let some t := rs[0]? | stuck "bytealg.MakeNoZero: no result type"
        let .slice elem ← underlying t | stuck "bytealg.MakeNoZero: slice type expected"
        if (n : Int) < 0 || (n : Int) > 2 ^ 48 then runtimePanic (.error "makeslice: len out of range")
        let cap ← choose (.appendCap (n : Int).toNat 0 elem)
        askRoom cap
        let bytes ← choose (.extern "internal/bytealg.MakeNoZero.bytes" 0)
        let a ← newRow elem (Extern.BytealgMakeNoZero.digits cap bytes #[])
        pure (.slice (some a) (n : Int).toNat cap)) := rfl
  let cs := Extern.BytealgMakeNoZero.digits (grownCap w n 0 elem) ((Question.extern "internal/bytealg.MakeNoZero.bytes" 0).cut (w.tape (w.drawn + 1) (.extern "internal/bytealg.MakeNoZero.bytes" 0))) #[]
  have hcs : cs.size = grownCap w n 0 elem := by simp [cs, Lib.size_digits]
  have hge := grownCap_ge w n 0 elem
  have h1 : ¬ (n : Int) < 0 := by omega
  have h2 : ¬ (281474976710656 : Int) < (n : Int) := by omega
  obtain ⟨σ', s1, s2, s3, s4, _⟩ := newRow_ok (P := P) (us := []) h.drew.drew rfl hr cs.toList (fun e => by cases e) cs.size (by simp)
  simp only [List.nil_append, Array.toArray_toList] at s2 s3 s4
  refine ⟨σ', _, .slice (some ⟨w.heap.size, 0, none⟩) n cs.size, ?_, ?_, s3, drew_start (drew_start s4)⟩
  · rw [hdef]
    have hrow : (newRow elem cs).run P w.drew.drew = .ok ⟨w.heap.size, 0, none⟩ (w.drew.drew.alloc (.cells cs elem)) := s2
    simp [ht, underlying_run hu, h1, h2, Question.forced, hcs]
    rfl
  · have : σ' id = some ⟨w.heap.size, 0, cs.size, 1⟩ := s1
    simp [conc, this, hcs, hge]

theorem extern_ok {E : Env} {σ : Sig} {S S' : AState} {w : World} {k : ExtK} {args : List AV} {us : List Value} {v : AV} (h : Rel σ S w)
    (hargs : concL σ args = some us) (ha : aExtern E S k args = some (.val v, S')) : Ends E.P σ S w (k.run us.toArray) v S' := by
  unfold aExtern at ha
  split at ha
  · obtain ⟨a, rfl, h1⟩ := concL1 hargs
    cases ha
    exact Ends.here h rfl h1
  · obtain ⟨a, c, rfl, h1, h2⟩ := concL2 hargs
    obtain rfl := lit_of h1
    obtain rfl := lit_of h2
    rw [obind_some] at ha; obtain ⟨y, hy, ha⟩ := ha
    cases ha
    exact Ends.here h (pureRun_ok _ hy w) rfl
  · rename_i ps rs n
    obtain ⟨a, rfl, h1⟩ := concL1 hargs
    obtain rfl := lit_of h1
    split at ha
    · rename_i t ht
      split at ha
      · rename_i elem hu
        split at ha
        · rename_i hn
          rw [obind_some] at ha; obtain ⟨⟨id, S1⟩, hrow, ha⟩ := ha
          cases ha
          exact makeNoZero_ok (ps := ps) h ht hu hn hrow
        · cases ha
      · cases ha
    · cases ha
  · rename_i t id
    obtain ⟨a, rfl, h1⟩ := concL1 hargs
    simp only [conc] at h1
    split at h1
    · rename_i u hu
      cases h1
      split at hu
      · rename_i l hl
        cases hu
        split at ha
        · rename_i es hg
          rw [obind_some] at ha; obtain ⟨⟨id', S1⟩, hn, ha⟩ := ha
          cases ha
          obtain ⟨l', hl', En, clock, g1, g2⟩ := h.obj id _ hg
          rw [hl] at hl'; cases hl'
          obtain ⟨rfl, _⟩ := AState.new_some hn
          have hσ : σ S.next = none := h.dom _ (Nat.le_refl _)
          obtain ⟨r1, r2⟩ := rel_new h hn (.map En clock) ⟨w.heap.size, 0, 0, 0⟩ rfl (by
            obtain ⟨ks, vs, k1, k2, k3⟩ := g2
            exact ⟨En, clock, alloc_self w _, ks, vs, concL_mono (upd_le hσ) _ _ k1, concL_mono (upd_le hσ) _ _ k2, k3⟩)
          refine ⟨_, _, .iface t (.map (some w.heap.size)), ?_, by simp [conc], r1, r2⟩
          have hdef : ExtK.mapsClone.run [Value.iface t (.map (some l.block))].toArray = (do
            let .map entries clock ← getObj l.block | stuck "maps.clone: a map expected"
            pure (.iface t (.map (some (← newObj (.map entries clock)))))) := rfl
          rw [hdef]
          simp [run_getObj_map g1]
        · cases ha
      · cases hu
    · cases h1
  · cases ha

end Go.AM
