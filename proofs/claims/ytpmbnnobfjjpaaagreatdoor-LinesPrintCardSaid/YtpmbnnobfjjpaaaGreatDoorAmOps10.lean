/- The abstract machine: map operations, interfaces. -/
import Derived.Test.YtpmbnnobfjjpaaaGreatDoorAmOps9
namespace Go.AM
set_option linter.unusedVariables false
set_option linter.unusedSimpArgs false

theorem zip_unique {k u u' : Value} : ∀ {ks vs : List Value}, ks.Nodup → (k, u) ∈ ks.zip vs → (k, u') ∈ ks.zip vs → u = u'
  | [], vs, _, h, _ => by simp at h
  | a :: ks, [], _, h, _ => by simp at h
  | a :: ks, b :: vs, hn, h, h' => by
    simp only [List.zip_cons_cons, List.mem_cons, Prod.mk.injEq] at h h'
    have hn' := List.nodup_cons.1 hn
    rcases h with ⟨rfl, rfl⟩ | h <;> rcases h' with ⟨h1, rfl⟩ | h'
    · rfl
    · exact absurd (List.of_mem_zip h').1 hn'.1
    · subst h1; exact absurd (List.of_mem_zip h).1 hn'.1
    · exact zip_unique hn'.2 h h'

/-- the keys of a map are known -/
theorem keys_known {σ : Sig} {es : List (AV × AV)} {E : Array MapEntry} {ks vs : List Value} {Q : Value → Prop} (hk : concL σ (es.map (·.1)) = some ks) (hl : ks.length = vs.length)
    (hp : (E.toList.map fun e => (e.key, e.val)).Perm (ks.zip vs)) (h : ∀ p ∈ es, ∃ k', p.1.flat = some k' ∧ Q k') : (∀ e ∈ E.toList, Q e.key) ∧ ∀ k ∈ ks, Q k := by
  have hks : ∀ k ∈ ks, Q k := by
    intro k hk'
    obtain ⟨j, hj, rfl⟩ := List.mem_iff_getElem.1 hk'
    have hl' := concL_length hk
    simp only [List.length_map] at hl'
    obtain ⟨x, hx, hc⟩ := concL_get hk j (es[j]'(by omega)).1 (by simp [List.getElem?_eq_getElem (show j < es.length by omega)])
    obtain ⟨k', h1, h2⟩ := h _ (List.getElem_mem (show j < es.length by omega))
    rw [conc_flat h1] at hc
    cases hc
    rw [List.getElem?_eq_getElem hj] at hx
    cases hx
    exact h2
  refine ⟨fun e he => hks _ ?_, hks⟩
  have : (e.key, e.val) ∈ ks.zip vs := hp.mem_iff.1 (List.mem_map.2 ⟨e, he, rfl⟩)
  exact (List.of_mem_zip this).1

theorem map_cells {σ : Sig} {a : List (AV × AV)} {c x : AV} {b : List (AV × AV)} {ks vs : List Value} (h1 : concL σ ((a ++ (c, x) :: b).map (·.1)) = some ks) (h2 : concL σ ((a ++ (c, x) :: b).map (·.2)) = some vs) :
    ∃ ka k kb va v vb, ks = ka ++ k :: kb ∧ vs = va ++ v :: vb ∧ concL σ (a.map (·.1)) = some ka ∧ concL σ (a.map (·.2)) = some va ∧ conc σ c = some k ∧ conc σ x = some v ∧
      concL σ (b.map (·.1)) = some kb ∧ concL σ (b.map (·.2)) = some vb ∧ ka.length = va.length := by
  induction a generalizing ks vs with
  | nil =>
    obtain ⟨k, kb, rfl, hk, hkb⟩ := concL_cons h1
    obtain ⟨v, vb, rfl, hv, hvb⟩ := concL_cons h2
    exact ⟨[], k, kb, [], v, vb, rfl, rfl, rfl, rfl, hk, hv, hkb, hvb, rfl⟩
  | cons p a ih =>
    obtain ⟨k0, ks', rfl, hk0, hks⟩ := concL_cons h1
    obtain ⟨v0, vs', rfl, hv0, hvs⟩ := concL_cons h2
    obtain ⟨ka, k, kb, va, v, vb, rfl, rfl, c1, c2, c3, c4, c5, c6, c7⟩ := ih hks hvs
    exact ⟨k0 :: ka, k, kb, v0 :: va, v, vb, rfl, rfl, by simp [concL, hk0, c1], by simp [concL, hv0, c2], c3, c4, c5, c6, by simp [c7]⟩

/-- what a search tells, on both sides -/
theorem found {σ : Sig} {es : List (AV × AV)} {E : Array MapEntry} {k : Value} {v : AV} (hm : MapRel σ es E) (hf : findE k es = some (some v)) :
    (∀ e ∈ E.toList, ∃ b, keyEq k e.key = some b) ∧ ∃ a e b, E.toList = a ++ e :: b ∧ scan k E.toList 0 = some (a.length, e.val) ∧ e.key = k ∧ conc σ v = some e.val := by
  obtain ⟨ks, vs, h1, h2, h3, h4⟩ := hm
  obtain ⟨⟨a, c', b, rfl, e2, e3⟩, hkn⟩ := findE_some hf
  have hlen : ks.length = vs.length := by have e1 := concL_length h1; have e2 := concL_length h2; simp at e1 e2; omega
  obtain ⟨q1, q2⟩ := keys_known (Q := fun k' => ∃ b, keyEq k k' = some b) h1 hlen h3 (fun p hp => let ⟨k', b, x, y⟩ := hkn p hp; ⟨k', x, b, y⟩)
  refine ⟨q1, ?_⟩
  obtain ⟨ka, k0, kb, va, v0, vb, rfl, rfl, _, _, c3, c4, _, _, c7⟩ := map_cells h1 h2
  rw [conc_flat e2] at c3; cases c3
  have hmem : (k, v0) ∈ (ka ++ k :: kb).zip (va ++ v0 :: vb) := by
    rw [List.zip_append c7]; simp
  have hE : ∃ e ∈ E.toList, keyEq k e.key = some true := by
    obtain ⟨e, he, hee⟩ := List.mem_map.1 (h3.mem_iff.2 hmem)
    simp only [Prod.mk.injEq] at hee
    exact ⟨e, he, by rw [hee.1]; exact keyEq_refl (q2 k (by simp))⟩
  obtain ⟨a', e, b', x1, x2, x3⟩ := scan_some 0 hE
  refine ⟨a', e, b', x1, by simpa using x2, x3, ?_⟩
  have : (k, e.val) ∈ (ka ++ k :: kb).zip (va ++ v0 :: vb) := h3.mem_iff.1 (List.mem_map.2 ⟨e, by rw [x1]; simp, by rw [x3]⟩)
  rw [zip_unique h4 this hmem]; exact c4

theorem notFound {σ : Sig} {es : List (AV × AV)} {E : Array MapEntry} {k : Value} (hm : MapRel σ es E) (hf : findE k es = some none) :
    (∀ e ∈ E.toList, ∃ b, keyEq k e.key = some b) ∧ scan k E.toList 0 = none := by
  obtain ⟨ks, vs, h1, h2, h3, h4⟩ := hm
  obtain ⟨hkn, _⟩ := findE_none hf
  have hlen : ks.length = vs.length := by have e1 := concL_length h1; have e2 := concL_length h2; simp at e1 e2; omega
  obtain ⟨q1, q2⟩ := keys_known (Q := fun k' => keyEq k k' = some false) h1 hlen h3 hkn
  exact ⟨fun e he => ⟨false, q1 e he⟩, scan_none 0 q1⟩

/-- LOOKUP -/
theorem lookup_ok {P : Program} {σ : Sig} {S : AState} {w : World} {t : TypeId} {m k v : AV} {um uk : Value} {ok : Bool} (h : Rel σ S w) (hm : conc σ m = some um) (hk : conc σ k = some uk)
    (ha : aLookup P S t m k ok = some v) : ∃ y, conc σ v = some y ∧ (Instr.lookup t um uk ok).run P w = .ok y w := by
  unfold aLookup at ha
  split at ha
  · rename_i kt et hu
    rw [obind_some] at ha; obtain ⟨es, hes, ha⟩ := ha
    rw [obind_some] at ha; obtain ⟨kv0, hkv, ha⟩ := ha
    rw [conc_flat hkv] at hk; cases hk
    split at ha
    · rename_i hok
      rw [obind_some] at ha; obtain ⟨r, hr, ha⟩ := ha
      have hget : ∃ E : Array MapEntry, MapRel σ es E ∧ ((um = .map none ∧ E = #[]) ∨ ∃ b clock, um = .map (some b) ∧ w.heap[b]? = some (.map E clock)) := by
        unfold aEntries at hes
        split at hes
        · cases hes
          obtain rfl := lit_of hm
          exact ⟨#[], ⟨[], [], rfl, rfl, by simp, by simp⟩, .inl ⟨rfl, rfl⟩⟩
        · rename_i id
          split at hes
          · rename_i es' hg
            cases hes
            obtain ⟨l, hl, rfl⟩ := map_of hm
            obtain ⟨l', hl', E, clock, g1, g2⟩ := h.obj id _ hg
            rw [hl] at hl'; cases hl'
            exact ⟨E, g2, .inr ⟨_, clock, rfl, g1⟩⟩
          · cases hes
        · cases hes
      obtain ⟨E, hrel, hsrc⟩ := hget
      cases r with
      | some v' =>
        simp only [Option.some.injEq] at ha; subst ha
        obtain ⟨q1, a, e, b, x1, x2, x3, x4⟩ := found hrel hr
        refine ⟨if ok then .tuple #[e.val, .bool true] else e.val, ?_, ?_⟩
        · cases ok <;> simp [conc, concL, litB, x4]
        · rcases hsrc with ⟨rfl, rfl⟩ | ⟨b, clock, rfl, hb⟩
          · simp [scan] at x2
          · simp only [Instr.lookup, Sem.run_bind, underlying_run hu, Result.andThen_ok, run_getObj_map hb, Sem.run_pure, check_ok hok, findKey_ok hok _ q1, x2]
      | none =>
        simp only at ha
        rw [obind_some] at ha; obtain ⟨z, hz, ha⟩ := ha
        simp only [Option.some.injEq] at ha; subst ha
        obtain ⟨q1, q2⟩ := notFound hrel hr
        obtain ⟨zv, rfl, hzv⟩ := zeroValue_run (w := w) hz
        refine ⟨if ok then .tuple #[zv, .bool false] else zv, ?_, ?_⟩
        · cases ok <;> simp [conc, concL, litB]
        · rcases hsrc with ⟨rfl, rfl⟩ | ⟨b, clock, rfl, hb⟩
          · simp only [Instr.lookup, Sem.run_bind, underlying_run hu, Result.andThen_ok, Sem.run_pure, check_ok hok, findKey_ok hok _ q1, q2, hzv]
          · simp only [Instr.lookup, Sem.run_bind, underlying_run hu, Result.andThen_ok, run_getObj_map hb, Sem.run_pure, check_ok hok, findKey_ok hok _ q1, q2, hzv]
    · cases ha
  · cases ha

theorem same_self {k : Value} {P : Program} {t : TypeId} (hk : keyOk P t k = true) (n : Nat) : Instr.sameBits (n + 2) k k = true := by
  rcases keyOk_cases hk with ⟨ik, kk, a, hu, rfl⟩ | ⟨a, hu, rfl⟩ | ⟨a, hu, rfl⟩ | ⟨e, ik, x, y, hu, he, hs, rfl⟩
  · simp [Instr.sameBits]
  · simp [Instr.sameBits, bytes_refl]
  · simp [Instr.sameBits]
  · simp [Instr.sameBits]

theorem modify_mid (a : List MapEntry) (e : MapEntry) (b : List MapEntry) (f : MapEntry → MapEntry) : (a ++ e :: b).modify a.length f = a ++ f e :: b := by
  induction a with
  | nil => rfl
  | cons x a ih => simp [ih]

/-- MAP UPDATE -/
theorem mapUpdate_ok {P : Program} {σ : Sig} {S S' : AState} {w : World} {t : TypeId} {m k v : AV} {um uk uv : Value} (h : Rel σ S w) (hm : conc σ m = some um) (hk : conc σ k = some uk) (hv : conc σ v = some uv)
    (ha : aMapUpdate P S t m k v = some S') : ∃ w', (Instr.mapUpdate t um uk uv).run P w = .ok () w' ∧ Rel σ S' w' ∧ Ext σ S w σ S' w' := by
  unfold aMapUpdate at ha
  split at ha
  · rename_i kt et id hu
    rw [obind_some] at ha; obtain ⟨es, hes, ha⟩ := ha
    rw [obind_some] at ha; obtain ⟨kv0, hkv, ha⟩ := ha
    have hck := hk
    rw [conc_flat hkv] at hk; cases hk
    split at ha
    · rename_i hok
      rw [obind_some] at ha; obtain ⟨r, hr, ha⟩ := ha
      cases ha
      unfold aEntries at hes
      simp only at hes
      split at hes
      · rename_i es' hg
        cases hes
        obtain ⟨l, hl, rfl⟩ := map_of hm
        obtain ⟨l', hl', E, clock, g1, g2⟩ := h.obj id _ hg
        rw [hl] at hl'; cases hl'
        have hlt := h.blk id l hl
        have hfin : ∀ (E' : Array MapEntry) (clock' : Nat), (Instr.mapUpdate t (.map (some l.block)) uk uv).run P w = .ok () (setBlk w l.block (.map E' clock')) → MapRel σ (setE uk k v es) E' →
            ∃ w', (Instr.mapUpdate t (.map (some l.block)) uk uv).run P w = .ok () w' ∧ Rel σ (S.put id (.map (setE uk k v es))) w' ∧ Ext σ S w σ (S.put id (.map (setE uk k v es))) w' := by
          intro E' clock' h1 h2
          obtain ⟨r1, r2⟩ := rel_put (w' := setBlk w l.block (.map E' clock')) (o' := .map (setE uk k v es)) h hg hl (by simp [setBlk]) (fun b hb => setBlk_other _ _ _ _ hb) rfl rfl rfl ⟨E', clock', setBlk_self _ _ _ hlt, h2⟩
          exact ⟨_, h1, r1, r2⟩
        have hset := fun O => run_setObj_at (P := P) O g1 (by simp)
        cases r with
        | some v' =>
          obtain ⟨q1, a, e, b, x1, x2, x3, x4⟩ := found g2 hr
          refine hfin (E.modify a.length fun e => { e with key := uk, val := uv }) clock ?_ ?_
          · have hi : E[a.length]? = some e := by
              rw [← Array.getElem?_toList, x1]; simp
            have hsame : Instr.sameBits 10000 e.key uk = true := by rw [x3]; exact same_self hok 9998
            simp only [Instr.mapUpdate, Sem.run_bind, underlying_run hu, Result.andThen_ok, run_getObj_map g1, check_ok hok, findKey_ok hok _ q1, x2, hi, Option.map_some, Option.getD_some, Instr.keyThatStays, hsame, if_true, Sem.run_pure, hset]
          · obtain ⟨ks, vs, h1, h2, h3, h4⟩ := g2
            obtain ⟨⟨a', c', b', rfl, e2, e3⟩, hkn⟩ := findE_some hr
            rw [e3]
            obtain ⟨ka, k0, kb, va, v0, vb, rfl, rfl, c1, c2, c3, c4, c5, c6, c7⟩ := map_cells h1 h2
            rw [conc_flat e2] at c3; cases c3
            refine ⟨ka ++ uk :: kb, va ++ uv :: vb, ?_, ?_, ?_, h4⟩
            · rw [List.map_append, List.map_cons]
              exact concL_append c1 (by simp [concL, hck, c5])
            · rw [List.map_append, List.map_cons]
              exact concL_append c2 (by simp [concL, hv, c6])
            · rw [Array.toList_modify, x1, modify_mid]
              rw [x1] at h3
              rw [List.zip_append c7] at h3 ⊢
              simp only [List.map_append, List.map_cons, List.zip_cons_cons] at h3 ⊢
              have hev : e.val = v0 := by
                rw [x4] at c4; exact Option.some.inj c4
              rw [x3, hev] at h3
              have h5 := (List.perm_middle.symm.trans h3).trans List.perm_middle
              have h6 := (List.perm_cons _).1 h5
              exact (List.perm_middle.trans ((List.perm_cons _).2 h6)).trans List.perm_middle.symm
        | none =>
          obtain ⟨q1, q2⟩ := notFound g2 hr
          refine hfin (E.push { key := uk, val := uv, born := clock }) (clock + 1) ?_ ?_
          · simp only [Instr.mapUpdate, Sem.run_bind, underlying_run hu, Result.andThen_ok, run_getObj_map g1, check_ok hok, findKey_ok hok _ q1, q2, hset]
          · obtain ⟨ks, vs, h1, h2, h3, h4⟩ := g2
            obtain ⟨hkn, e3⟩ := findE_none hr
            rw [e3]
            have hlen : ks.length = vs.length := by have e1 := concL_length h1; have e2 := concL_length h2; simp at e1 e2; omega
            obtain ⟨_, q4⟩ := keys_known (Q := fun k' => keyEq uk k' = some false) h1 hlen h3 hkn
            refine ⟨ks ++ [uk], vs ++ [uv], ?_, ?_, ?_, ?_⟩
            · rw [List.map_append]; exact concL_append h1 (by simp [concL, hck])
            · rw [List.map_append]; exact concL_append h2 (by simp [concL, hv])
            · rw [List.zip_append hlen]
              simp only [Array.toList_push, List.map_append, List.map_cons, List.map_nil, List.zip_cons_cons, List.zip_nil_right]
              exact h3.append_right _
            · rw [List.nodup_append]
              refine ⟨h4, by simp, ?_⟩
              intro x hx y hy
              simp only [List.mem_singleton] at hy
              subst hy
              rintro rfl
              have := q4 x hx
              rw [keyEq_refl ⟨_, this⟩] at this
              cases this
      · cases hes
    · cases ha
  · cases ha

/-! ### interfaces, tuples -/
theorem iface_of {σ : Sig} {t : TypeId} {v : AV} {u : Value} (h : conc σ (.iface t v) = some u) : ∃ x, conc σ v = some x ∧ u = .iface t x := by
  simp only [conc] at h
  split at h
  · rename_i x hx; cases h; exact ⟨x, hx, rfl⟩
  · cases h

theorem typeAssert_ok {P : Program} {σ : Sig} {w : World} {x v : AV} {u : Value} {xt a : TypeId} {ok : Bool} (hx : conc σ x = some u) (h : aTypeAssert P x a ok = some v) :
    ∃ y, conc σ v = some y ∧ (Instr.typeAssert u xt a ok).run P w = .ok y w := by
  unfold aTypeAssert at h
  split at h
  · cases h
  · rename_i td t v' hni hu
    obtain ⟨y, hy, rfl⟩ := iface_of hx
    split at h
    · rename_i ht
      simp only [Option.some.injEq] at h; subst h; subst ht
      refine ⟨if ok then .tuple #[y, .bool true] else y, by cases ok <;> simp [conc, concL, litB, hy], ?_⟩
      cases td <;> first | exact absurd rfl (hni _) | simp [Instr.typeAssert, underlying_run hu]
    · rename_i ht
      split at h
      · rename_i hok
        rw [obind_some] at h; obtain ⟨z, hz, h⟩ := h
        simp only [Option.some.injEq] at h; subst h
        obtain ⟨zv, rfl, hzv⟩ := zeroValue_run (w := w) hz
        have ht' : ¬ t = a := ht
        refine ⟨.tuple #[zv, .bool false], by simp [conc, concL, litB], ?_⟩
        cases td <;> first | exact absurd rfl (hni _) | simp [Instr.typeAssert, underlying_run hu, ht', hok, hzv]
      · cases h
  · rename_i td hni hu
    obtain rfl := lit_of hx
    split at h
    · rename_i hok
      rw [obind_some] at h; obtain ⟨z, hz, h⟩ := h
      simp only [Option.some.injEq] at h; subst h
      obtain ⟨zv, rfl, hzv⟩ := zeroValue_run (w := w) hz
      refine ⟨.tuple #[zv, .bool false], by simp [conc, concL, litB], ?_⟩
      cases td <;> first | exact absurd rfl (hni _) | simp [Instr.typeAssert, underlying_run hu, hok, hzv]
    · cases h
  · cases h

theorem makeMap_ok {P : Program} {σ : Sig} {S S' : AState} {w : World} {t : TypeId} {id : Nat} (h : Rel σ S w) (hn : S.new (.map []) = some (id, S')) : Ends P σ S w (Instr.makeMap t none) (.map id) S' := by
  obtain ⟨rfl, _⟩ := AState.new_some hn
  obtain ⟨r1, r2⟩ := rel_new h hn (.map #[] 0) ⟨w.heap.size, 0, 0, 0⟩ rfl ⟨#[], 0, alloc_self w _, [], [], rfl, rfl, by simp, by simp⟩
  exact ⟨_, _, .map (some w.heap.size), by simp [Instr.makeMap], by simp [conc], r1, r2⟩

end Go.AM
