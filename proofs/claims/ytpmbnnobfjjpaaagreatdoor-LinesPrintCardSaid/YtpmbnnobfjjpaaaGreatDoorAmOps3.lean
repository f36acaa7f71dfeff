/- The abstract machine: stores, and what is new. -/
import Derived.Test.YtpmbnnobfjjpaaaGreatDoorAmOps2
namespace Go.AM
set_option linter.unusedVariables false
set_option linter.unusedSimpArgs false

/-- a world with another thing in a block -/
def setBlk (w : World) (b : Nat) (O : Obj) : World := { w with heap := w.heap.setIfInBounds b O }
@[simp] theorem setBlk_size (w : World) (b : Nat) (O : Obj) : (setBlk w b O).heap.size = w.heap.size := by simp [setBlk]
theorem setBlk_self (w : World) (b : Nat) (O : Obj) (h : b < w.heap.size) : (setBlk w b O).heap[b]? = some O := by simp [setBlk, h]
theorem setBlk_other (w : World) (b c : Nat) (O : Obj) (h : c ≠ b) : (setBlk w b O).heap[c]? = w.heap[c]? := by
  simp [setBlk, Ne.symm h]

def splice (C : Array Value) (k : Nat) (vs : List Value) : Array Value := (C.toList.take k ++ vs ++ C.toList.drop (k + vs.length)).toArray
theorem splice_size {C : Array Value} {k : Nat} {vs : List Value} (h : k + vs.length ≤ C.size) : (splice C k vs).size = C.size := by simp [splice]; omega
theorem splice_nil (C : Array Value) (k : Nat) : splice C k [] = C := by simp [splice]
theorem splice_get {C : Array Value} {k : Nat} {vs : List Value} (h : k + vs.length ≤ C.size) (j : Nat) :
    (splice C k vs)[j]? = if j < k then C[j]? else if j < k + vs.length then vs[j - k]? else C[j]? := by
  have hk : min k C.size = k := by omega
  simp only [splice, List.getElem?_toArray, List.getElem?_append, List.length_append, List.length_take, Array.length_toList, hk]
  by_cases h1 : j < k
  · simp [h1, show j < k + vs.length by omega]
  · by_cases h2 : j < k + vs.length
    · simp [h1, h2]
    · simp only [h1, h2, if_false, List.getElem?_drop]
      rw [show k + vs.length + (j - (k + vs.length)) = j by omega]
      simp
theorem splice_cons {C : Array Value} {k : Nat} {v : Value} {vs : List Value} (h : k + (vs.length + 1) ≤ C.size) : splice (C.setIfInBounds k v) (k + 1) vs = splice C k (v :: vs) := by
  apply Array.ext_getElem?
  intro j
  rw [splice_get (by simp; omega), splice_get (by simp; omega)]
  simp only [Array.getElem?_setIfInBounds, List.length_cons]
  by_cases h1 : j < k
  · simp [h1, show j < k + 1 by omega, show ¬ k = j by omega]
  · by_cases h2 : j = k
    · subst h2; simp [show j < C.size by omega]
    · have e : j - k = (j - (k + 1)) + 1 := by omega
      by_cases h3 : j < k + 1 + vs.length
      · simp [h1, show ¬ j < k + 1 by omega, h3, show j < k + (vs.length + 1) by omega, e]
      · simp [h1, show ¬ j < k + 1 by omega, h3, show ¬ j < k + (vs.length + 1) by omega, show ¬ k = j by omega]

theorem setBlk_setBlk (w : World) (b : Nat) (O O' : Obj) : setBlk (setBlk w b O) b O' = setBlk w b O' := by simp [setBlk]
theorem setBlk_same (w : World) (b : Nat) (O : Obj) (h : w.heap[b]? = some O) : setBlk w b O = w := by
  unfold setBlk
  have : w.heap.setIfInBounds b O = w.heap := by
    apply Array.ext_getElem?
    intro j
    rw [Array.getElem?_setIfInBounds]
    split
    · rename_i e; subst e
      obtain ⟨hlt, hv⟩ := Array.getElem?_eq_some_iff.1 h
      simp [hlt, hv]
    · rfl
  rw [this]

theorem setCell_eq (w : World) (b o : Nat) (C : Array Value) (t : TypeId) (fz : Nat × Nat) (v : Value) (h : w.heap[b]? = some (.cells C t fz)) :
    w.setCell ⟨b, o, none⟩ v = setBlk w b (.cells (C.setIfInBounds o v) t fz) := by
  unfold World.setCell setBlk
  have : (w.heap.modify b fun x => match x with
      | .cells c elem frozen => .cells (if (⟨b, o, none⟩ : Addr).spot.isSome then c else c.setIfInBounds o v) elem frozen
      | o => o) = w.heap.setIfInBounds b (.cells (C.setIfInBounds o v) t fz) := by
    apply Array.ext_getElem?
    intro j
    rw [Array.getElem?_modify, Array.getElem?_setIfInBounds]
    by_cases e : b = j
    · subst e
      obtain ⟨hlt, hv⟩ := Array.getElem?_eq_some_iff.1 h
      simp [hv, hlt]
    · simp [e]
  exact congrArg (fun hp => { w with heap := hp }) this

theorem storeCells_run {P : Program} (b o : Nat) (t : TypeId) (fz : Nat × Nat) : ∀ (vs : List Value) (i : Nat) (C : Array Value) (w : World), w.heap[b]? = some (.cells C t fz) → o + i + vs.length ≤ C.size →
    (∀ j, j < C.size → ¬ (fz.1 ≤ j ∧ j < fz.2)) → (∀ v ∈ vs, v.oneCell' = true) →
    (storeCells ⟨b, o, none⟩ vs i).run P w = .ok () (setBlk w b (.cells (splice C (o + i) vs) t fz))
  | [], i, C, w, hg, _, _, _ => by
    rw [splice_nil, setBlk_same w b _ hg]; rfl
  | v :: rest, i, C, w, hg, hl, hf, h1 => by
    have hi : o + i < C.size := by simp at hl; omega
    have hb : b < w.heap.size := (Array.getElem?_eq_some_iff.1 hg).1
    have hcell : w.cell? ⟨b, o + i, none⟩ = some C[o + i] := by simp [World.cell?, hg, hi]
    have hfro : w.frozen? ⟨b, o + i, none⟩ = false := by
      have := hf (o + i) hi
      simp only [World.frozen?, hg]
      simpa using this
    have hst : (store ((⟨b, o, none⟩ : Addr).add i) v).run P w = .ok () (setBlk w b (.cells (C.setIfInBounds (o + i) v) t fz)) := by
      rw [add_mk, run_store P w _ v _ (h1 v (by simp)), hcell]
      simp [hfro, setCell_eq w b (o + i) C t fz v hg]
    have ih := storeCells_run (P := P) b o t fz rest (i + 1) (C.setIfInBounds (o + i) v) (setBlk w b (.cells (C.setIfInBounds (o + i) v) t fz)) (setBlk_self _ _ _ hb) (by simp at hl ⊢; omega)
      (fun j hj => hf j (by simpa using hj)) (fun x hx => h1 x (by simp [hx]))
    simp only [storeCells, Sem.run_bind, hst, Result.andThen_ok, ih, setBlk_setBlk]
    rw [← Nat.add_assoc, splice_cons (by simp at hl; omega)]

/-- a row some of whose cells are written anew -/
theorem row_set {σ : Sig} {w : World} {l : Loc} {cells new : List AV} {esz : Nat} {elem : TypeId} {exact : Bool} {off : Nat} {ns : List Value} (h : ObjRel σ w l (.row cells esz elem exact))
    (hn : concL σ new = some ns) (h1 : allOne new = true) (hb : off + new.length ≤ cells.length) (hlt : l.block < w.heap.size) :
    ∃ C fz, w.heap[l.block]? = some (.cells C elem fz) ∧ l.off + off + ns.length ≤ C.size ∧ (∀ j, j < C.size → ¬ (fz.1 ≤ j ∧ j < fz.2)) ∧
      ObjRel σ (setBlk w l.block (.cells (splice C (l.off + off) ns) elem fz)) l (.row (listSet cells off new) esz elem exact) := by
  obtain ⟨C, fz, g1, g2, ⟨us, g3, g4⟩, g5, g6, g7, g8⟩ := h
  have hnl := concL_length hn
  have hul := concL_length g3
  have hsz : l.off + off + ns.length ≤ C.size := by
    rcases Nat.eq_zero_or_pos (off + new.length) with h0 | h0
    · have : l.off ≤ C.size := by
        have := Nat.zero_le (l.ecap * l.esz)
        omega
      omega
    · have hlast : us[off + new.length - 1]? = some us[off + new.length - 1] := List.getElem?_eq_getElem (by omega)
      have := g4 _ _ hlast
      have := (Array.getElem?_eq_some_iff.1 this).1
      omega
  refine ⟨C, fz, g1, hsz, g8, splice C (l.off + off) ns, fz, setBlk_self _ _ _ hlt, allOne_listSet g2 h1 hb, ⟨_, concL_listSet g3 hn hb, ?_⟩, g5, ?_, ?_, ?_⟩
  · intro j u hj
    rw [splice_get hsz]
    have hmin : min off us.length = off := by omega
    simp only [List.getElem?_append, List.length_append, List.length_take, hmin] at hj
    by_cases c1 : j < off
    · rw [if_pos (by omega)] at hj
      simp only [c1, if_true, List.getElem?_take] at hj
      rw [if_pos (by omega)]
      exact g4 j u hj
    · by_cases c2 : j < off + ns.length
      · simp only [c1, c2, if_true, if_false] at hj
        rw [if_neg (by omega), if_pos (by omega), show l.off + j - (l.off + off) = j - off by omega]
        exact hj
      · simp only [c2, if_false, List.getElem?_drop] at hj
        rw [if_neg (by omega), if_neg (by omega)]
        rw [show off + new.length + (j - (off + ns.length)) = j by omega] at hj
        exact g4 j u hj
  · rw [splice_size hsz]; exact g6
  · intro hex
    obtain ⟨e1, e2⟩ := g7 hex
    rw [splice_size hsz, listSet_length _ _ _ hb]
    exact ⟨e1, e2⟩
  · intro j hj
    rw [splice_size hsz] at hj
    exact g8 j hj

/-- writing cells into a row: in the abstract, and in the world -/
theorem put_cells {P : Program} {σ : Sig} {S : AState} {w : World} {id off esz : Nat} {elem : TypeId} {ex : Bool} {cells new : List AV} {ns : List Value} {l : Loc} (h : Rel σ S w)
    (hg : S.get id = some (.row cells esz elem ex)) (hl : σ id = some l) (hn : concL σ new = some ns) (h1 : allOne new = true) (hb : off + new.length ≤ cells.length) :
    ∃ w', (storeCells ⟨l.block, l.off + off, none⟩ ns).run P w = .ok () w' ∧ Rel σ (S.put id (.row (listSet cells off new) esz elem ex)) w' ∧ Ext σ S w σ (S.put id (.row (listSet cells off new) esz elem ex)) w' := by
  obtain ⟨l', hl', hr⟩ := h.obj id _ hg
  rw [hl] at hl'; cases hl'
  have hlt := h.blk id l hl
  obtain ⟨C, fz, g1, g2, g3, g4⟩ := row_set hr hn h1 hb hlt
  have hrun := storeCells_run (P := P) l.block (l.off + off) elem fz ns 0 C w g1 (by simpa using g2) g3 (concL_ones hn h1)
  simp only [Nat.add_zero] at hrun
  refine ⟨_, hrun, rel_put h hg hl (by simp) (fun b hb => setBlk_other _ _ _ _ hb) rfl rfl rfl g4⟩

/-- STORE -/
theorem store_ok {P : Program} {σ : Sig} {S S' : AState} {w : World} {t : TypeId} {a v : AV} {ua uv : Value} (h : Rel σ S w) (ha : conc σ a = some ua) (hv : conc σ v = some uv)
    (hs : aStore P S t a v = some S') : ∃ w', (Instr.storeAt t ua uv).run P w = .ok () w' ∧ Rel σ S' w' ∧ Ext σ S w σ S' w' := by
  unfold aStore at hs
  split at hs
  · rename_i id off
    obtain ⟨l, hl, rfl⟩ := ptr_of ha
    split at hs
    · rename_i cells esz el ex hg
      simp only at hs
      rw [obind_some] at hs; obtain ⟨n, hn, hs⟩ := hs
      split at hs
      · rename_i hc
        simp only [Bool.and_eq_true, beq_iff_eq, decide_eq_true_eq] at hc
        obtain ⟨⟨c1, c2⟩, c3⟩ := hc
        cases hs
        have hcc := conc_cells hv
        obtain ⟨w', hrun, hr, he⟩ := put_cells (P := P) (off := off) h hg hl hcc c3 (by omega)
        refine ⟨w', ?_, hr, he⟩
        have hsz : uv.cells.size = n := by rw [← c1, ← concL_length hcc]; simp
        simp [Instr.storeAt, Instr.sureAddr, storeVar, sizeOf_run hn, hsz, hrun]
      · cases hs
    · cases hs
  · cases hs

/-- A NEW ROW of known cells, maybe with more behind them -/
theorem newRow_ok {P : Program} {σ : Sig} {S S' : AState} {w : World} {cells : List AV} {us : List Value} {esz id : Nat} {elem : TypeId} {exact : Bool} (h : Rel σ S w)
    (hc : concL σ cells = some us) (hn : aNewRow S cells esz elem exact = some (id, S')) (more : List Value) (hm : exact = true → more = []) (ecap : Nat) (hcap : ecap * esz ≤ us.length + more.length) :
    ∃ σ', σ' id = some ⟨w.heap.size, 0, ecap, esz⟩ ∧ (newRow elem (us ++ more).toArray).run P w = .ok ⟨w.heap.size, 0, none⟩ (w.alloc (.cells (us ++ more).toArray elem)) ∧
      Rel σ' S' (w.alloc (.cells (us ++ more).toArray elem)) ∧ Ext σ S w σ' S' (w.alloc (.cells (us ++ more).toArray elem)) ∧ σ.le σ' := by
  unfold aNewRow at hn
  split at hn
  · rename_i h1
    obtain ⟨hid, _, _, _⟩ := AState.new_some hn
    have hσ : σ id = none := by rw [hid]; exact h.dom _ (Nat.le_refl _)
    have hle := upd_le (l := ⟨w.heap.size, 0, ecap, esz⟩) hσ
    obtain ⟨hr, he⟩ := rel_new h hn (.cells (us ++ more).toArray elem) ⟨w.heap.size, 0, ecap, esz⟩ rfl (by
      refine ⟨(us ++ more).toArray, (0, 0), ?_, h1, ⟨us, concL_mono hle _ _ hc, ?_⟩, rfl, ?_, ?_, ?_⟩
      · show (w.heap.push _)[w.heap.size]? = _
        simp
      · intro j u hj
        simp only [Nat.zero_add, List.getElem?_toArray]
        have : j < us.length := by
          rcases Nat.lt_or_ge j us.length with h' | h'
          · exact h'
          · rw [List.getElem?_eq_none h'] at hj; cases hj
        rw [List.getElem?_append_left this]; exact hj
      · simpa using hcap
      · intro hex
        have := concL_length hc
        simp [hm hex, this]
      · intro j _; simp)
    exact ⟨_, by simp, rfl, hr, he, hle⟩
  · cases hn

theorem Ext.val {σ σ' : Sig} {S S' : AState} {w w' : World} (h : Ext σ S w σ' S' w') (hr : Rel σ S w) {v : AV} {u : Value} (hv : conc σ v = some u) : conc σ' v = some u :=
  conc_mono (h.le hr.dom) _ _ hv

end Go.AM
