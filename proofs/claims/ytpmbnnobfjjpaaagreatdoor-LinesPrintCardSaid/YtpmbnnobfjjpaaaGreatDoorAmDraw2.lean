/- The abstract machine: drawn regions: new things under a number that was set aside; heaps with things added. -/
import Derived.Test.YtpmbnnobfjjpaaaGreatDoorAmDraw1
namespace Go.AM
set_option linter.unusedVariables false
set_option linter.unusedSimpArgs false

/-! ### heaps with things added -/
@[simp] theorem plus_next : ∀ (l : List (Nat × AObj)) (S : AState), (plus S l).next = S.next
  | [], _ => rfl
  | (i, o) :: r, S => by simp [plus, plus_next r S]

theorem plus_none : ∀ (l : List (Nat × AObj)) (S : AState) (id : Nat), (∀ p ∈ l, p.1 < 65536) → (∀ p ∈ l, p.1 ≠ id) → (plus S l).get id = S.get id
  | [], _, _, _, _ => rfl
  | (i, o) :: r, S, id, hl, hn => by
    rw [plus, AState.get_put _ i id o (hl (i, o) (by simp))]
    rw [if_neg (fun e => hn _ (List.mem_cons_self) e.symm)]
    exact plus_none r S id (fun p hp => hl p (by simp [hp])) (fun p hp => hn p (by simp [hp]))

theorem plus_some : ∀ (l : List (Nat × AObj)) (S : AState) (id : Nat) (o : AObj), (∀ p ∈ l, p.1 < 65536) → (∀ p ∈ l, ∀ q ∈ l, p.1 = q.1 → p = q) → (id, o) ∈ l → (plus S l).get id = some o
  | [], _, _, _, _, _, h => by cases h
  | (i, x) :: r, S, id, o, hl, hu, h => by
    rw [plus, AState.get_put _ i id x (hl (i, x) (by simp))]
    by_cases e : id = i
    · subst e
      have := hu (id, o) h (id, x) (by simp) rfl
      cases this
      simp
    · rw [if_neg e]
      rcases List.mem_cons.1 h with h' | h'
      · cases h'; exact absurd rfl e
      · exact plus_some r S id o (fun p hp => hl p (by simp [hp])) (fun p hp q hq => hu p (by simp [hp]) q (by simp [hq])) h'

def pend (d : DNew) (c : Nat) : Prop := ∀ g, d.gone = some g → c ≤ g
theorem pendB_iff {d : DNew} {c : Nat} : pendB d c = true ↔ pend d c := by
  unfold pendB pend
  cases d.gone <;> simp

theorem mem_seen {bef : List Nat} {c : Nat} : ∀ {news : List DNew} {id : Nat} {o : AObj}, (id, o) ∈ seenNews bef c news ↔ ∃ d ∈ news, d.ix ∈ bef ∧ pend d c ∧ d.id = id ∧ d.obj = o
  | [], id, o => by simp [seenNews]
  | d :: r, id, o => by
    simp only [seenNews]
    split
    · rename_i h
      simp only [Bool.and_eq_true, List.contains_iff_mem, pendB_iff] at h
      simp only [List.mem_cons, Prod.mk.injEq, mem_seen (news := r)]
      constructor
      · rintro (⟨rfl, rfl⟩ | ⟨d', h1, h2⟩)
        · exact ⟨d, .inl rfl, h.1, h.2, rfl, rfl⟩
        · exact ⟨d', .inr h1, h2⟩
      · rintro ⟨d', rfl | h1, h2⟩
        · exact .inl ⟨h2.2.2.1.symm, h2.2.2.2.symm⟩
        · exact .inr ⟨d', h1, h2⟩
    · rename_i h
      simp only [Bool.and_eq_true, List.contains_iff_mem, pendB_iff, not_and] at h
      rw [mem_seen (news := r)]
      constructor
      · rintro ⟨d', h1, h2⟩; exact ⟨d', List.mem_cons_of_mem _ h1, h2⟩
      · rintro ⟨d', h1, h2⟩
        rcases List.mem_cons.1 h1 with rfl | h1
        · exact absurd h2.2.1 (h h2.1)
        · exact ⟨d', h1, h2⟩

structure NewsOk (news : List DNew) : Prop where
  lt : ∀ d ∈ news, d.id < 65536
  uniq : ∀ d ∈ news, ∀ d' ∈ news, d.id = d'.id → d = d'

theorem seen_lt {news : List DNew} (h : NewsOk news) {bef : List Nat} {c : Nat} : ∀ p ∈ seenNews bef c news, p.1 < 65536 := by
  rintro ⟨id, o⟩ hp
  obtain ⟨d, h1, _, _, rfl, _⟩ := mem_seen.1 hp
  exact h.lt d h1
theorem seen_uniq {news : List DNew} (h : NewsOk news) {bef : List Nat} {c : Nat} : ∀ p ∈ seenNews bef c news, ∀ q ∈ seenNews bef c news, p.1 = q.1 → p = q := by
  rintro ⟨id, o⟩ hp ⟨id', o'⟩ hq e
  obtain ⟨d, h1, _, _, e1, e2⟩ := mem_seen.1 hp
  obtain ⟨d', h1', _, _, e1', e2'⟩ := mem_seen.1 hq
  simp only at e
  obtain rfl := h.uniq d h1 d' h1' (by rw [e1, e1', e])
  rw [← e1, ← e2, ← e1', ← e2']

theorem seen_get {news : List DNew} (h : NewsOk news) {bef : List Nat} {c : Nat} {S : AState} {d : DNew} (hd : d ∈ news) (h1 : d.ix ∈ bef) (h2 : pend d c) : (plus S (seenNews bef c news)).get d.id = some d.obj :=
  plus_some _ S _ _ (seen_lt h) (seen_uniq h) (mem_seen.2 ⟨d, hd, h1, h2, rfl, rfl⟩)
theorem seen_none {news : List DNew} (h : NewsOk news) {bef : List Nat} {c : Nat} {S : AState} {id : Nat} (hn : ∀ d ∈ news, d.ix ∈ bef → pend d c → d.id ≠ id) : (plus S (seenNews bef c news)).get id = S.get id := by
  refine plus_none _ S id (seen_lt h) ?_
  rintro ⟨i, o⟩ hp
  obtain ⟨d, h1, h2, h3, rfl, _⟩ := mem_seen.1 hp
  exact hn d h1 h2 h3

/-! ### a new thing under a number that was set aside -/
/-- what stays: all but one number, all old blocks -/
structure Added (σ : Sig) (A : AState) (w : World) (id : Nat) (σ' : Sig) (A' : AState) (w' : World) : Prop where
  same : ∀ j, j ≠ id → σ' j = σ j
  size : w.heap.size ≤ w'.heap.size
  keep : ∀ b, b < w.heap.size → ¬ Foot σ A b → w'.heap[b]? = w.heap[b]? ∧ ¬ Foot σ' A' b
  os : w'.os = w.os
  tape : w'.tape = w.tape
  output : w'.output = w.output

theorem rel_add {σ : Sig} {A : AState} {w : World} {o : AObj} {id : Nat} (h : Rel σ A w) (hσ : σ id = none) (hlt : id < A.next) (hid : id < 65536) (O : Obj) (l : Loc) (hl : l.block = w.heap.size)
    (ho : ObjRel (upd σ id l) (w.alloc O) l o) : Rel (upd σ id l) (A.put id o) (w.alloc O) ∧ Added σ A w id (upd σ id l) (A.put id o) (w.alloc O) := by
  have hle := upd_le (l := l) hσ
  have hget := fun j => AState.get_put A id j o hid
  have hold : ∀ b, b < w.heap.size → (w.alloc O).heap[b]? = w.heap[b]? := fun b hb => by
    show (w.heap.push O)[b]? = _
    rw [Array.getElem?_push, if_neg (by omega)]
  refine ⟨⟨?_, ?_, ?_, ?_⟩, ⟨?_, by simp, ?_, rfl, rfl, rfl⟩⟩
  · intro j hj
    rw [AState.next_put] at hj
    have : j ≠ id := by omega
    simp only [upd, if_neg this]
    exact h.dom j hj
  · intro j m hj
    simp only [upd] at hj
    rw [World.size_alloc]
    split at hj
    · cases hj; omega
    · have := h.blk j m hj; omega
  · intro j x hj
    rw [hget] at hj
    split at hj
    · rename_i e; subst e; cases hj; exact ⟨l, by simp, ho⟩
    · rename_i e
      obtain ⟨m, hm, hr⟩ := h.obj j x hj
      exact ⟨m, by simp [upd, e, hm], hr.of_block hle (hold _ (h.blk j m hm))⟩
  · intro j k x y m n hj hk hm hn' hne
    rw [hget] at hj hk
    by_cases ej : j = id <;> by_cases ek : k = id
    · exact absurd (ej.trans ek.symm) hne
    · simp only [ek, if_false] at hk
      simp only [upd, ej, if_true, Option.some.injEq] at hm
      simp only [upd, ek, if_false] at hn'
      have := h.blk k n hn'
      subst hm; omega
    · simp only [ej, if_false] at hj
      simp only [upd, ek, if_true, Option.some.injEq] at hn'
      simp only [upd, ej, if_false] at hm
      have := h.blk j m hm
      subst hn'; omega
    · simp only [ej, ek, if_false] at hj hk
      simp only [upd, ej, ek, if_false] at hm hn'
      exact h.sep j k x y m n hj hk hm hn' hne
  · intro j hj; simp [upd, hj]
  · intro b hb hf
    refine ⟨hold b hb, ?_⟩
    rintro ⟨j, x, m, hj, hm, rfl⟩
    rw [hget] at hj
    by_cases ej : j = id
    · simp only [upd, ej, if_true, Option.some.injEq] at hm
      subst hm; omega
    · simp only [ej, if_false] at hj
      simp only [upd, ej, if_false] at hm
      exact hf ⟨j, x, m, hj, hm, rfl⟩

/-- where a new thing's operation ends -/
def AddOk (r : World → Result Next) (σ : Sig) (A : AState) (w : World) (id : Nat) (v : AV) (x : AObj) : Prop :=
  ∃ σ' w' u, r w = .ok (.value u) w' ∧ conc σ' v = some u ∧ Rel σ' (A.put id x) w' ∧ Added σ A w id σ' (A.put id x) w'

/-- a new row -/
theorem row_add (P : Program) {σ : Sig} {A : AState} {w : World} {cells : List AV} {us : List Value} {esz id : Nat} {elem : TypeId} (h : Rel σ A w) (hσ : σ id = none) (hlt : id < A.next) (hid : id < 65536)
    (hc : concL σ cells = some us) (h1 : allOne cells = true) (ecap : Nat) (hcap : ecap * esz ≤ us.length) :
    ∃ σ', σ' id = some ⟨w.heap.size, 0, ecap, esz⟩ ∧ (newRow elem us.toArray).run P w = .ok ⟨w.heap.size, 0, none⟩ (w.alloc (.cells us.toArray elem)) ∧
      Rel σ' (A.put id (.row cells esz elem true)) (w.alloc (.cells us.toArray elem)) ∧ Added σ A w id σ' (A.put id (.row cells esz elem true)) (w.alloc (.cells us.toArray elem)) := by
  have hle := upd_le (l := ⟨w.heap.size, 0, ecap, esz⟩) hσ
  obtain ⟨r1, r2⟩ := rel_add (o := .row cells esz elem true) h hσ hlt hid (.cells us.toArray elem) ⟨w.heap.size, 0, ecap, esz⟩ rfl (by
    refine ⟨us.toArray, (0, 0), alloc_self w _, h1, ⟨us, concL_mono hle _ _ hc, ?_⟩, rfl, by simpa using hcap, ?_, ?_⟩
    · intro j u hj; simpa using hj
    · intro _; simp [concL_length hc]
    · intro j _; simp)
  exact ⟨_, by simp, rfl, r1, r2⟩

/-- what 'aNewRow' has to do with it -/
theorem newRow_of {n id : Nat} {cells : List AV} {esz : Nat} {elem : TypeId} {S' : AState} (h : aNewRow { heap := .nil, next := n } cells esz elem true = some (id, S')) :
    id = n ∧ n < 65536 ∧ allOne cells = true ∧ S'.get n = some (.row cells esz elem true) := by
  unfold aNewRow at h
  split at h
  · rename_i h1
    obtain ⟨rfl, hlt, _, hg⟩ := AState.new_some h
    exact ⟨rfl, hlt, h1, by rw [hg]; simp⟩
  · cases h

set_option maxHeartbeats 1600000 in
theorem newThing_ok {E : Env} {σ : Sig} {A : AState} {w : World} {fr : AFr} {ρ : Operand → Value} {o : Oper} {id : Nat} {v : AV} {x : AObj} (h : Rel σ A w) (hσ : σ id = none) (hlt : id < A.next)
    (hρ : ∀ x, conc σ (fr.eval x) = some (ρ x)) (hn : isNew o.op = true) (ht : newThing E fr o id = some (v, x)) : AddOk ((execOp ρ o).run E.P) σ A w id v x ∧ id < 65536 := by
  unfold newThing at ht
  split at ht
  · rename_i v' S' hop
    split at ht
    · rename_i x' hx
      simp only [Option.some.injEq, Prod.mk.injEq] at ht
      obtain ⟨rfl, rfl⟩ := ht
      unfold aop at hop
      cases ho : o.op <;> rw [ho] at hop hn <;> (try (cases hn; done)) <;> simp only at hop
      case alloc t =>
        rw [obind_some] at hop; obtain ⟨z, hz, hop⟩ := hop
        rw [obind_some] at hop; obtain ⟨⟨id', S1⟩, hrow, hop⟩ := hop
        cases hop
        obtain ⟨rfl, hid, h1, hg⟩ := newRow_of hrow
        rw [hg] at hx; cases hx
        obtain ⟨zv, rfl, hzv⟩ := zeroValue_run (w := w) hz
        have hc : concL σ (AV.lit zv).cells = some zv.cells.toList := conc_cells (by simp [conc])
        have hl := concL_length hc
        obtain ⟨σ', s1, s2, s3, s4⟩ := row_add E.P (elem := t) (esz := (AV.lit zv).cells.length) h hσ hlt hid hc h1 1 (by simp at hl ⊢; omega)
        simp only [Array.toArray_toList] at s2 s3 s4
        refine ⟨⟨σ', _, .pointer (some ⟨w.heap.size, 0, none⟩), ?_, by simp [conc, s1], s3, s4⟩, hid⟩
        have hnv : (newVar t zv).run E.P w = .ok ⟨w.heap.size, 0, none⟩ (w.alloc (.cells zv.cells t)) := s2
        simp [execOp, ho, Instr.alloc, hzv, hnv]
      case box t y =>
        rw [obind_some] at hop; obtain ⟨⟨id', S1⟩, hrow, hop⟩ := hop
        cases hop
        obtain ⟨rfl, hid, h1, hg⟩ := newRow_of hrow
        rw [hg] at hx; cases hx
        have hc := conc_cells (hρ y)
        have hl := concL_length hc
        obtain ⟨σ', s1, s2, s3, s4⟩ := row_add E.P (elem := t) (esz := (fr.eval y).cells.length) h hσ hlt hid hc h1 1 (by simp at hl ⊢; omega)
        simp only [Array.toArray_toList] at s2 s3 s4
        refine ⟨⟨σ', _, .pointer (some ⟨w.heap.size, 0, none⟩), ?_, by simp [conc, s1], s3, s4⟩, hid⟩
        have hnv : (newVar t (ρ y)).run E.P w = .ok ⟨w.heap.size, 0, none⟩ (w.alloc (.cells (ρ y).cells t)) := s2
        simp [execOp, ho, Instr.box, hnv]
      case makeMap t r =>
        cases r with
        | some y => cases hn
        | none =>
          simp only at hop
          rw [obind_some] at hop; obtain ⟨⟨id', S1⟩, hnew, hop⟩ := hop
          cases hop
          obtain ⟨rfl, hid, _, hg⟩ := AState.new_some hnew
          rw [hg] at hx; simp only [if_true] at hx; cases hx
          obtain ⟨r1, r2⟩ := rel_add (o := .map []) h hσ hlt hid (.map #[] 0) ⟨w.heap.size, 0, 0, 0⟩ rfl ⟨#[], 0, alloc_self w _, [], [], rfl, rfl, by simp, by simp⟩
          exact ⟨⟨_, _, .map (some w.heap.size), by simp [execOp, ho, Instr.makeMap], by simp [conc], r1, r2⟩, hid⟩
      case buildSlice t len ps =>
        unfold aBuildSlice at hop
        split at hop
        · rename_i elem hu
          rw [obind_some] at hop; obtain ⟨n, hn', hop⟩ := hop
          split at hop
          · cases hop
          · rename_i hsm
            simp only [Bool.or_eq_true, beq_iff_eq, decide_eq_true_eq, not_or] at hsm
            rw [obind_some] at hop; obtain ⟨z, hz, hop⟩ := hop
            split at hop
            · cases hop
            · rename_i hzl
              simp only [bne_iff_ne, ne_eq, Decidable.not_not] at hzl
              rw [obind_some] at hop; obtain ⟨cs, hcs, hop⟩ := hop
              split at hop
              case isFalse => cases hop
              rename_i hcl
              rw [obind_some] at hop; obtain ⟨⟨id', S1⟩, hrow, hop⟩ := hop
              cases hop
              obtain ⟨rfl, hid, h1, hg⟩ := newRow_of hrow
              rw [hg] at hx; cases hx
              obtain ⟨zv, rfl, hzv⟩ := zeroValue_run (w := w) hz
              have hzc : concL σ (AV.lit zv).cells = some zv.cells.toList := conc_cells (by simp [conc])
              have hzs : zv.cells.size = n := by rw [← hzl, ← concL_length hzc]; simp
              have hrep := repeat_conc hzc len
              let uparts : Array (Nat × Value) := ps.map fun (i, x) => (i, ρ x)
              have hp' : ∀ (j : Nat) (p : Nat × AV), (evalParts fr ps.toList)[j]? = some p → ∃ u, uparts.toList[j]? = some (p.1, u) ∧ conc σ p.2 = some u := fun j p hj => by
                obtain ⟨u, h1, h2⟩ := evalParts_ok hρ _ j p hj
                exact ⟨u, by simpa [uparts] using h1, h2⟩
              obtain ⟨r, hr1, hr2⟩ := fill_ok (fun i => some (i * n, n)) (evalParts fr ps.toList) uparts.toList _ _ cs hrep (by simp [uparts, evalParts_length]) hp' hcs
              have hlen := concL_length hr1
              have hsz : r.size = len * n := by
                have : cs.length = len * n := by simpa using hcl
                rw [← this, ← hlen]; simp
              obtain ⟨σ', s1, s2, s3, s4⟩ := row_add E.P (elem := elem) (esz := n) h hσ hlt hid hr1 h1 len (by simp [hsz])
              simp only [Array.toArray_toList] at s2 s3 s4
              refine ⟨⟨σ', _, .slice (some ⟨w.heap.size, 0, none⟩) len len, ?_, by simp [conc, s1], s3, s4⟩, hid⟩
              have hfill : Instr.fill (fun i => some (i * n, n)) ((Array.range (len * n)).map fun i => zv.cells[i % zv.cells.size]!) uparts.toList = some r := by
                rw [range_map, ← hr2, ← hzs]; simp
              have c1 : ¬ (len * n > 2 ^ 24) := by omega
              have hrun : (Instr.buildSlice t len uparts).run E.P w = .ok (.slice (some ⟨w.heap.size, 0, none⟩) len len) (w.alloc (.cells r elem)) := by
                by_cases h0 : len * n = 0
                · rw [h0, range0] at hfill
                  simp [Instr.buildSlice, underlying_run hu, sizeOf_run hn', h0, range0, hfill, s2]
                · simp only [Instr.buildSlice, Sem.run_bind, underlying_run hu, sizeOf_run hn', Result.andThen_ok, if_neg c1, h0, if_false, hzv, Sem.run_pure, hfill, s2]
              simp only [execOp, ho]
              have : (do pure (Next.value (← Instr.buildSlice t len uparts)) : Sem Next).run E.P w = .ok (.value (.slice (some ⟨w.heap.size, 0, none⟩) len len)) (w.alloc (.cells r elem)) := by simp [hrun]
              exact this
        · cases hop
    · cases ht
  · cases ht

end Go.AM
