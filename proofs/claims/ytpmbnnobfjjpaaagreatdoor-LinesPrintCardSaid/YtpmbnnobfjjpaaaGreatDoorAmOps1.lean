/- The abstract machine: the operations that only read or reckon. -/
import Derived.Test.YtpmbnnobfjjpaaaGreatDoorAmHeap
import Derived.Laws.Tables
import Derived.Laws.Small
namespace Go.AM
set_option linter.unusedVariables false
set_option linter.unusedSimpArgs false

theorem pureRun_ok {α : Type} {P : Program} : ∀ (s : Sem α) {a : α}, pureRun P s = some a → ∀ w, s.run P w = .ok a w := by
  intro s
  induction s with
  | pure x => intro a h w; simp [pureRun] at h; subst h; rfl
  | program k ih => intro a h w; simp only [pureRun] at h; exact ih P h w
  | _ => intro a h w; simp [pureRun] at h

theorem lit_map {P : Program} {s : Sem Value} {v : AV} (h : (pureRun P s).map AV.lit = some v) : ∃ u, v = .lit u ∧ ∀ w, s.run P w = .ok u w := by
  cases hp : pureRun P s with
  | none => rw [hp] at h; cases h
  | some u => rw [hp] at h; cases h; exact ⟨u, rfl, pureRun_ok s hp⟩

/-! ### structs -/
theorem listSet_eq : ∀ (cs : List AV) (off : Nat) (new : List AV), off + new.length ≤ cs.length → listSet cs off new = cs.take off ++ new ++ cs.drop (off + new.length)
  | cs, 0, new, _ => by cases cs <;> simp [listSet]
  | [], off + 1, new, h => by simp at h
  | c :: cs, off + 1, new, h => by
    have ih := listSet_eq cs off new (by simp at h; omega)
    simp only [listSet, ih, List.take_succ_cons, List.cons_append]
    congr 2
    rw [show off + 1 + new.length = (off + new.length) + 1 from by omega, List.drop_succ_cons]

theorem listSet_length (cs : List AV) (off : Nat) (new : List AV) (h : off + new.length ≤ cs.length) : (listSet cs off new).length = cs.length := by
  rw [listSet_eq cs off new h]; simp; omega

theorem concL_listSet {σ : Sig} {cs new : List AV} {us ns : List Value} {off : Nat} (h : concL σ cs = some us) (hn : concL σ new = some ns) (hb : off + new.length ≤ cs.length) :
    concL σ (listSet cs off new) = some (us.take off ++ ns ++ us.drop (off + new.length)) := by
  rw [listSet_eq cs off new hb]
  exact concL_append (concL_append (concL_take off h) hn) (concL_drop _ h)

theorem allOne_append : ∀ {a b : List AV}, allOne a = true → allOne b = true → allOne (a ++ b) = true
  | [], _, _, hb => hb
  | x :: r, b, ha, hb => by simp only [allOne, Bool.and_eq_true, List.cons_append] at ha ⊢; exact ⟨ha.1, allOne_append ha.2 hb⟩
theorem allOne_take : ∀ {a : List AV} (n : Nat), allOne a = true → allOne (a.take n) = true
  | [], n, _ => by simp [allOne]
  | x :: r, 0, _ => by simp [allOne]
  | x :: r, n + 1, h => by simp only [allOne, Bool.and_eq_true, List.take_succ_cons] at h ⊢; exact ⟨h.1, allOne_take n h.2⟩
theorem allOne_drop : ∀ {a : List AV} (n : Nat), allOne a = true → allOne (a.drop n) = true
  | [], n, _ => by simp [allOne]
  | x :: r, 0, h => by simpa using h
  | x :: r, n + 1, h => by simp only [allOne, Bool.and_eq_true] at h; simpa using allOne_drop n h.2
theorem allOne_listSet {cs new : List AV} {off : Nat} (h : allOne cs = true) (hn : allOne new = true) (hb : off + new.length ≤ cs.length) : allOne (listSet cs off new) = true := by
  rw [listSet_eq cs off new hb]
  exact allOne_append (allOne_append (allOne_take _ h) hn) (allOne_drop _ h)

theorem foldl_set (off : Nat) : ∀ (vs : List Value) (k : Nat) (cs : List Value), off + k + vs.length ≤ cs.length →
    ((vs.zipIdx k).foldl (fun (acc : Array Value) (p : Value × Nat) => acc.setIfInBounds (off + p.2) p.1) cs.toArray) = (cs.take (off + k) ++ vs ++ cs.drop (off + k + vs.length)).toArray
  | [], k, cs, _ => by simp
  | v :: r, k, cs, h => by
    have hl : off + k < cs.length := by simp at h; omega
    simp only [List.zipIdx_cons, List.foldl_cons]
    have h1 : cs.toArray.setIfInBounds (off + k) v = (cs.set (off + k) v).toArray := by simp
    rw [h1, foldl_set off r (k + 1) (cs.set (off + k) v) (by simp at h ⊢; omega)]
    congr 1
    have e1 : (cs.set (off + k) v).take (off + (k + 1)) = cs.take (off + k) ++ [v] := by
      rw [← Nat.add_assoc, List.take_succ_eq_append_getElem (by simpa using hl)]
      congr 1
      · apply List.ext_getElem?
        intro j
        simp only [List.getElem?_take, List.getElem?_set]
        by_cases hj : j < off + k
        · have : off + k ≠ j := by omega
          simp [hj, this]
        · simp [hj]
      · simp
    have e2 : (cs.set (off + k) v).drop (off + (k + 1) + r.length) = cs.drop (off + k + (v :: r).length) := by
      rw [List.drop_set_of_lt (by omega)]
      congr 1
      simp; omega
    rw [e1, e2]; simp

theorem fill_ok {σ : Sig} (place : Nat → Option (Nat × Nat)) : ∀ (parts : List (Nat × AV)) (uparts : List (Nat × Value)) (cells : List AV) (us : List Value) (cs : List AV),
    concL σ cells = some us → uparts.length = parts.length → (∀ (j : Nat) (p : Nat × AV), parts[j]? = some p → ∃ u, uparts[j]? = some (p.1, u) ∧ conc σ p.2 = some u) →
    aFill place cells parts = some cs → ∃ r, concL σ cs = some r.toList ∧ Instr.fill place us.toArray uparts = some r
  | [], uparts, cells, us, cs, hc, hl, _, h => by
    simp [aFill] at h; subst h
    have : uparts = [] := by cases uparts <;> simp_all
    subst this
    exact ⟨us.toArray, by simpa using hc, rfl⟩
  | (i, v) :: rest, uparts, cells, us, cs, hc, hl, hp, h => by
    obtain ⟨u, hu, hcv⟩ := hp 0 (i, v) rfl
    have hcv : conc σ v = some u := hcv
    obtain ⟨ur, rfl⟩ : ∃ ur, uparts = (i, u) :: ur := by
      cases uparts with
      | nil => simp at hu
      | cons x r => simp at hu; exact ⟨r, by rw [hu]⟩
    simp only [aFill] at h
    cases hpl : place i with
    | none => rw [hpl] at h; cases h
    | some os =>
      obtain ⟨off, size⟩ := os
      rw [hpl] at h
      simp only at h
      split at h
      · rename_i hcond
        simp only [Bool.and_eq_true, beq_iff_eq, decide_eq_true_eq] at hcond
        obtain ⟨⟨h1, h2⟩, h3⟩ := hcond
        have hcc := conc_cells hcv
        have hcl := concL_length hcc
        have hul := concL_length hc
        have hset := concL_listSet hc hcc (off := off) (by omega)
        obtain ⟨r, hr1, hr2⟩ := fill_ok place rest ur _ _ cs hset (by simpa using hl) (fun j p hj => by
          obtain ⟨x, hx, hxc⟩ := hp (j + 1) p (by simpa using hj)
          exact ⟨x, by simpa using hx, hxc⟩) h
        refine ⟨r, hr1, ?_⟩
        simp only [Instr.fill, hpl]
        have hsz : u.cells.size = size := by rw [← h1, ← hcl]; simp
        have c1 : ¬ (u.cells.size ≠ size || off + u.cells.size > us.toArray.size) = true := by
          simp only [hsz, ne_eq, not_true_eq_false, decide_false, Bool.false_or, List.size_toArray]
          simp; omega
        rw [if_neg c1]
        have hf := foldl_set off u.cells.toList 0 us (by simp only [Array.length_toList, hsz]; omega)
        rw [← hr2]
        congr 1
        have : Array.foldl (fun (acc : Array Value) (p : Value × Nat) => acc.setIfInBounds (off + p.2) p.1) us.toArray u.cells.zipIdx = (List.take off us ++ u.cells.toList ++ List.drop (off + v.cells.length) us).toArray := by
          rw [← Array.foldl_toList, Array.toList_zipIdx, hf]
          simp only [Nat.add_zero, Array.length_toList, hsz, h1]
        exact this
      · cases h

theorem places_ok {P : Program} : ∀ (fs : List Field) (pl : List (Nat × Nat)), places P fs = some pl → fs.mapM (fun f => (P.info? f.type).map fun i => (f.offset, i.size)) = some pl
  | [], pl, h => by simp [places] at h; subst h; rfl
  | f :: fs, pl, h => by
    simp only [places, obind_some] at h
    obtain ⟨n, hn, r, hr, h⟩ := h
    cases h
    unfold sizeT at hn
    cases hi : P.info? f.type with
    | none => rw [hi] at hn; cases hn
    | some i =>
      rw [hi] at hn; cases hn
      simp [List.mapM_cons, hi, places_ok fs r hr]

theorem build_ok {P : Program} {σ : Sig} {w : World} {t : TypeId} {parts : List (Nat × AV)} {uparts : Array (Nat × Value)} {v : AV} (hl : uparts.size = parts.length)
    (hp : ∀ (j : Nat) (p : Nat × AV), parts[j]? = some p → ∃ u, uparts[j]? = some (p.1, u) ∧ conc σ p.2 = some u) (h : aBuild P t parts = some v) :
    ∃ u, conc σ v = some u ∧ (Instr.build t uparts).run P w = .ok u w := by
  unfold aBuild at h
  rw [obind_some] at h; obtain ⟨z, hz, h⟩ := h
  unfold zeroT at hz
  cases hi : P.info? t with
  | none => rw [hi] at hz; cases hz
  | some it =>
    rw [hi] at hz
    cases hzz : it.zero with
    | none => simp [hzz] at hz
    | some zv =>
      simp [hzz] at hz; subst hz
      have hzc : concL σ (AV.lit zv).cells = some zv.cells.toList := conc_cells (by simp [conc])
      have hp' : ∀ (j : Nat) (p : Nat × AV), parts[j]? = some p → ∃ u, uparts.toList[j]? = some (p.1, u) ∧ conc σ p.2 = some u := fun j p hj => by simpa using hp j p hj
      cases hu : P.underlying t with
      | none => simp [hu] at h
      | some d =>
        rw [hu] at h
        cases d <;> try (simp at h; done)
        case struct fields =>
          simp only [obind_some] at h
          obtain ⟨pl, hpl, cs, hcs, h⟩ := h
          cases h
          obtain ⟨r, hr1, hr2⟩ := fill_ok (fun i => pl[i]?) parts uparts.toList _ _ cs hzc (by simpa using hl) hp' hcs
          refine ⟨.agg r, by simp [conc, hr1], run_build w t uparts r ?_⟩
          unfold Program.built
          simp only [hi, hu, hzz, places_ok _ _ hpl]
          simpa using hr2
        case array n e =>
          simp only [obind_some] at h
          obtain ⟨m, hm, cs, hcs, h⟩ := h
          cases h
          obtain ⟨r, hr1, hr2⟩ := fill_ok (fun i => some (i * m, m)) parts uparts.toList _ _ cs hzc (by simpa using hl) hp' hcs
          refine ⟨.agg r, by simp [conc, hr1], run_build w t uparts r ?_⟩
          unfold Program.built
          unfold sizeT at hm
          cases hie : P.info? e with
          | none => rw [hie] at hm; cases hm
          | some ie =>
            rw [hie] at hm; cases hm
            simp only [hi, hu, hzz, hie]
            simpa using hr2

theorem part_ok {P : Program} {σ : Sig} {w : World} {t : TypeId} {cs : List AV} {us : List Value} {off : Nat} {v : AV} (hc : concL σ cs = some us) (h : aPart P t cs off = some v) :
    ∃ u, conc σ v = some u ∧ (part t us.toArray off).run P w = .ok u w := by
  unfold aPart at h
  split at h
  · rename_i ha
    rw [obind_some] at h; obtain ⟨n, hn, h⟩ := h
    cases h
    refine ⟨.agg ((us.drop off).take n).toArray, by simp [conc, concL_take n (concL_drop off hc)], ?_⟩
    simp [part, isAgg_run ha, sizeOf_run hn]
  · rename_i ha
    obtain ⟨u, hu, hcu⟩ := concL_get hc off v h
    exact ⟨u, hcu, by simp [part, isAgg_run ha, hu]⟩
  · cases h

/-- what an aggregate is made of -/
theorem agg_of {σ : Sig} {cs : List AV} {u : Value} (h : conc σ (.agg cs) = some u) : ∃ us, u = .agg us.toArray ∧ concL σ cs = some us := by
  simp only [conc] at h
  split at h
  · rename_i l hl; cases h; exact ⟨l, rfl, hl⟩
  · cases h

theorem field_ok {P : Program} {σ : Sig} {w : World} {t : TypeId} {x v : AV} {f : Nat} {u : Value} (hx : conc σ x = some u) (h : aField P t x f = some v) :
    ∃ y, conc σ v = some y ∧ (Instr.field t u f).run P w = .ok y w := by
  unfold aField at h
  split at h
  · rename_i fields cs hu
    obtain ⟨us, rfl, hc⟩ := agg_of hx
    split at h
    · rename_i fd hf
      obtain ⟨y, hy, hr⟩ := part_ok (P := P) (w := w) hc h
      exact ⟨y, hy, by simp [Instr.field, underlying_run hu, hf, asAgg, hr]⟩
    · cases h
  · rename_i fields cs hu
    simp only [conc, Option.some.injEq] at hx
    subst hx
    split at h
    · rename_i fd hf
      obtain ⟨y, hy, hr⟩ := part_ok (P := P) (w := w) (concL_lits (σ := σ) cs.toList) h
      exact ⟨y, hy, by simpa [Instr.field, underlying_run hu, hf, asAgg] using hr⟩
    · cases h
  · cases h

theorem ptr_of {σ : Sig} {id off : Nat} {u : Value} (h : conc σ (.ptr id off) = some u) : ∃ l, σ id = some l ∧ u = .pointer (some ⟨l.block, l.off + off, none⟩) := by
  simp only [conc] at h
  split at h
  · rename_i l hl; cases h; exact ⟨l, hl, rfl⟩
  · cases h
theorem slice_of {σ : Sig} {id off len : Nat} {cap : Option Nat} {u : Value} (h : conc σ (.slice id off len cap) = some u) :
    ∃ l c, σ id = some l ∧ u = .slice (some ⟨l.block, l.off + off, none⟩) len c ∧ len ≤ c ∧ (∀ k, cap = some k → c = k) ∧ (cap = none → c = l.ecap - off / l.esz ∧ off / l.esz + len ≤ l.ecap) := by
  simp only [conc] at h
  split at h
  · rename_i l hl
    split at h
    · rename_i c
      split at h
      · rename_i hle; cases h; exact ⟨l, c, hl, rfl, hle, (fun k hk => by cases hk; rfl), (fun hk => by cases hk)⟩
      · cases h
    · split at h
      · rename_i hle; cases h; exact ⟨l, l.ecap - off / l.esz, hl, rfl, (by omega), (fun k hk => by cases hk), (fun _ => ⟨rfl, hle⟩)⟩
      · cases h
  · cases h

theorem fieldAddr_ok {P : Program} {σ : Sig} {w : World} {t : TypeId} {x v : AV} {f : Nat} {u : Value} (hx : conc σ x = some u) (h : aFieldAddr P t x f = some v) :
    ∃ y, conc σ v = some y ∧ (Instr.fieldAt t u f).run P w = .ok y w := by
  unfold aFieldAddr at h
  split at h
  · rename_i fields id off hu
    obtain ⟨l, hl, rfl⟩ := ptr_of hx
    split at h
    · rename_i fd hf
      rw [obind_some] at h; obtain ⟨n, hn, h⟩ := h
      split at h
      · cases h
      · rename_i hn0
        cases h
        have hn0' : ¬ n = 0 := by simpa using hn0
        refine ⟨.pointer (some ⟨l.block, l.off + off + fd.offset, none⟩), by simp [conc, hl, Nat.add_assoc], ?_⟩
        simp [Instr.fieldAt, underlying_run hu, hf, Instr.sureAddr, fieldPlace, sizeOf_run hn, hn0', add_mk]
    · cases h
  · cases h

theorem natOf_ok {σ : Sig} {v : AV} {n : Nat} {u : Value} (h : natOf v = some n) (hu : conc σ v = some u) : ∃ k, u = .int k (n : Int) := by
  unfold natOf at h
  split at h
  · rename_i k m
    cases h
    simp only [conc, Option.some.injEq] at hu
    exact ⟨k, hu.symm⟩
  · cases h

theorem indexAddr_ok {P : Program} {σ : Sig} {w : World} {t : TypeId} {x ix v : AV} {u ui : Value} (hx : conc σ x = some u) (hi : conc σ ix = some ui) (h : aIndexAddr P t x ix = some v) :
    ∃ y, conc σ v = some y ∧ (Instr.indexAt t u ui).run P w = .ok y w := by
  unfold aIndexAddr at h
  rw [obind_some] at h; obtain ⟨i, hn, h⟩ := h
  obtain ⟨k, rfl⟩ := natOf_ok hn hi
  split at h
  · rename_i len elem id off hu
    obtain ⟨l, hl, rfl⟩ := ptr_of hx
    rw [obind_some] at h; obtain ⟨n, hsz, h⟩ := h
    split at h
    · rename_i hlt
      cases h
      refine ⟨.pointer (some ⟨l.block, l.off + off + i * n, none⟩), by simp [conc, hl, Nat.add_assoc], ?_⟩
      simp [Instr.indexAt, asIntOf, underlying_run hu, Instr.sureAddr, sizeOf_run hsz, hlt, add_mk]
    · cases h
  · rename_i elem id off len cap hu
    obtain ⟨l, c, hl, rfl, _⟩ := slice_of hx
    rw [obind_some] at h; obtain ⟨n, hsz, h⟩ := h
    split at h
    · rename_i hlt
      cases h
      refine ⟨.pointer (some ⟨l.block, l.off + off + i * n, none⟩), by simp [conc, hl, Nat.add_assoc], ?_⟩
      simp [Instr.indexAt, asIntOf, underlying_run hu, sizeOf_run hsz, hlt, add_mk]
    · cases h
  · cases h

theorem index_ok {P : Program} {σ : Sig} {w : World} {t : TypeId} {x ix v : AV} {u ui : Value} (hx : conc σ x = some u) (hi : conc σ ix = some ui) (h : aIndex P t x ix = some v) :
    ∃ y, conc σ v = some y ∧ (Instr.index t u ui).run P w = .ok y w := by
  unfold aIndex at h
  split at h
  · rename_i s
    simp only [conc, Option.some.injEq] at hx
    subst hx
    split at h
    · rename_i i hf
      have := conc_flat (σ := σ) hf
      rw [hi] at this; cases this
      obtain ⟨y, rfl, hr⟩ := lit_map h
      exact ⟨y, by simp [conc], hr w⟩
    · cases h
  · rename_i cs
    obtain ⟨us, rfl, hc⟩ := agg_of hx
    split at h
    · rename_i len elem hu
      rw [obind_some] at h; obtain ⟨i, hn, h⟩ := h
      obtain ⟨k, rfl⟩ := natOf_ok hn hi
      rw [obind_some] at h; obtain ⟨n, hsz, h⟩ := h
      split at h
      · rename_i hlt
        obtain ⟨y, hy, hr⟩ := part_ok (P := P) (w := w) hc h
        exact ⟨y, hy, by simp [Instr.index, asIntOf, underlying_run hu, sizeOf_run hsz, hlt, hr]⟩
      · cases h
    · cases h
  · rename_i cs
    simp only [conc, Option.some.injEq] at hx
    subst hx
    split at h
    · rename_i len elem hu
      rw [obind_some] at h; obtain ⟨i, hn, h⟩ := h
      obtain ⟨k, rfl⟩ := natOf_ok hn hi
      rw [obind_some] at h; obtain ⟨n, hsz, h⟩ := h
      split at h
      · rename_i hlt
        obtain ⟨y, hy, hr⟩ := part_ok (P := P) (w := w) (concL_lits (σ := σ) cs.toList) h
        exact ⟨y, hy, by simpa [Instr.index, asIntOf, underlying_run hu, sizeOf_run hsz, hlt] using hr⟩
      · cases h
    · cases h
  · cases h

end Go.AM
