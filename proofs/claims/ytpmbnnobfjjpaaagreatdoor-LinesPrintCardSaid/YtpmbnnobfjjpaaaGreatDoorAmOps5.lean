/- The abstract machine: copy, new things, conversions. -/
import Derived.Test.YtpmbnnobfjjpaaaGreatDoorAmOps4
namespace Go.AM
set_option linter.unusedVariables false
set_option linter.unusedSimpArgs false

theorem first_ok {P : Program} {σ : Sig} {S : AState} {w : World} {n m k : Nat} {v : AV} {u : Value} {cs : List AV} (h : Rel σ S w) (hv : conc σ v = some u) (hc : aCells S n v = some cs) (hm : lenOf v = some m)
    (hk : k ≤ m) : ∃ us, concL σ cs = some us ∧ us.length = m * n ∧ (Builtin.firstCells n k u).run P w = .ok (us.take (k * n)).toArray w := by
  unfold aCells at hc
  split at hc
  · cases hc
    simp only [conc, Option.some.injEq] at hv; subst hv
    simp [lenOf] at hm; subst hm
    exact ⟨[], rfl, by simp, by simp [Builtin.firstCells]⟩
  · rename_i s
    split at hc
    · rename_i hn
      have hn1 : n = 1 := by simpa using hn
      subst hn1
      cases hc
      simp only [conc, Option.some.injEq] at hv; subst hv
      simp [lenOf] at hm; subst hm
      refine ⟨_, concL_u8 _, by simp, ?_⟩
      have e2 : (s.extract 0 k).data.map (fun b => Value.int .u8 b.toNat) = ((s.data.toList.map fun b => Value.int .u8 b.toNat).take (k * 1)).toArray := by
        apply Array.ext'
        simp [ByteArray.data_extract]
      simp only [Builtin.firstCells, Sem.run_pure, e2]
    · cases hc
  · rename_i id off len cap
    obtain ⟨l, c, hl, rfl, hlen, _⟩ := slice_of hv
    simp [lenOf] at hm; subst hm
    split at hc
    · rename_i h0
      have h0' : len = 0 := by simpa using h0
      subst h0'
      obtain rfl : k = 0 := by omega
      cases hc
      exact ⟨[], rfl, by simp, by simp [Builtin.firstCells, loadCells, loadCellsFrom]⟩
    · split at hc
      · rename_i cells esz el ex hg
        split at hc
        · rename_i hb
          cases hc
          obtain ⟨us, h1, h2, h3⟩ := row_cells h hg hl hb
          refine ⟨us, h1, h2, run_firstCells_some (P := P) w n k _ len c (us.take (k * n)) ?_ fun j v hj => ?_⟩
          · have := Nat.mul_le_mul_right n hk
            simp; omega
          · rw [List.getElem?_take] at hj
            split at hj
            · exact h3 j v hj
            · cases hj
        · cases hc
      · cases hc
  · cases hc

theorem first0_ok {P : Program} {σ : Sig} {w : World} {n m : Nat} {x : AV} {ux : Value} (hx : conc σ x = some ux) (hm : lenOf x = some m) :
    Builtin.lenOf ux = Sem.pure m ∧ (Builtin.firstCells n 0 ux).run P w = .ok (#[] : Array Value) w := by
  unfold lenOf at hm
  split at hm
  · simp only [conc, Option.some.injEq] at hx; subst hx; cases hm
    exact ⟨rfl, by simp [Builtin.firstCells]⟩
  · rename_i q
    simp only [conc, Option.some.injEq] at hx; subst hx
    simp only [Option.some.injEq] at hm
    exact ⟨by simp [Builtin.lenOf, hm]; rfl, by simp [Builtin.firstCells]⟩
  · obtain ⟨l, c, hl, rfl, _⟩ := slice_of hx
    simp only [Option.some.injEq] at hm; subst hm
    exact ⟨rfl, by simp [Builtin.firstCells, loadCells, loadCellsFrom]⟩
  · cases hm

theorem copy_ok {P : Program} {σ : Sig} {S S' : AState} {w : World} {ats : Array TypeId} {ty : TypeId} {d s v : AV} {ud us : Value} (h : Rel σ S w) (hd : conc σ d = some ud) (hs : conc σ s = some us)
    (ha : aCopy P S ats d s = some (.val v, S')) : Ends P σ S w (Builtin.copy_ ats ty #[ud, us]) v S' := by
  unfold aCopy at ha
  split at ha
  · rename_i dt hdt
    split at ha
    · rename_i elem hu
      rw [obind_some] at ha; obtain ⟨n, hn, ha⟩ := ha
      rw [obind_some] at ha; obtain ⟨sl, hsl, ha⟩ := ha
      obtain ⟨l1, l2⟩ := first0_ok (P := P) (w := w) (n := n) hs hsl
      split at ha
      · cases ha
        simp only [conc, Option.some.injEq] at hd; subst hd
        refine ⟨σ, w, .int .i64 0, ?_, rfl, h, Ext.refl σ S w⟩
        simp [Builtin.copy_, hdt, underlying_run hu, sizeOf_run hn, l1, l2, goInt]
      · rename_i id off dl cap
        obtain ⟨l, c, hl, rfl, hlen, _⟩ := slice_of hd
        split at ha
        · rename_i hk0
          have hk0' : Nat.min sl dl = 0 := by simpa using hk0
          cases ha
          refine ⟨σ, w, .int .i64 0, ?_, rfl, h, Ext.refl σ S w⟩
          simp only [Builtin.copy_, hdt, List.getElem?_toArray, List.getElem?_cons_zero, List.getElem?_cons_succ, Sem.run_bind, underlying_run hu, Result.andThen_ok, l1, Sem.run_pure', hk0', sizeOf_run hn, l2]
          simp [storeCells, goInt]
        · rename_i hk0
          rw [obind_some] at ha; obtain ⟨src, hsrc, ha⟩ := ha
          split at ha
          · rename_i cells esz el ex hg
            split at ha
            · rename_i hc
              simp only [Bool.and_eq_true, decide_eq_true_eq] at hc
              cases ha
              obtain ⟨ss, s1, s2, s3⟩ := first_ok (P := P) (k := Nat.min sl dl) h hs hsrc hsl (Nat.min_le_left _ _)
              have hlt : Nat.min sl dl * n ≤ sl * n := Nat.mul_le_mul_right _ (Nat.min_le_left _ _)
              have hsl2 : (src.take (Nat.min sl dl * n)).length = Nat.min sl dl * n := by
                rw [List.length_take, ← concL_length s1, s2]; exact Nat.min_eq_left hlt
              obtain ⟨w', p1, p2, p3⟩ := put_cells (P := P) (off := off) h hg hl (concL_take (Nat.min sl dl * n) s1) hc.2 (by rw [hsl2]; exact hc.1)
              refine ⟨σ, w', .int .i64 (Nat.min sl dl : Nat), ?_, rfl, p2, p3⟩
              simp only [Builtin.copy_, hdt, List.getElem?_toArray, List.getElem?_cons_zero, List.getElem?_cons_succ, Sem.run_bind, underlying_run hu, Result.andThen_ok, l1, Sem.run_pure', sizeOf_run hn, s3, p1]
              simp [goInt]
            · cases ha
          · cases ha
      · cases ha
    · cases ha
  · cases ha

/-- ALLOC, BOX -/
theorem newVar_ok {P : Program} {σ : Sig} {S S' : AState} {w : World} {cells : List AV} {u : Value} {id : Nat} {t : TypeId} (h : Rel σ S w) (hc : concL σ cells = some u.cells.toList)
    (hn : aNewRow S cells cells.length t true = some (id, S')) :
    ∃ σ' w', (newVar t u).run P w = .ok ⟨w.heap.size, 0, none⟩ w' ∧ conc σ' (.ptr id 0) = some (.pointer (some ⟨w.heap.size, 0, none⟩)) ∧ Rel σ' S' w' ∧ Ext σ S w σ' S' w' := by
  have hl := concL_length hc
  obtain ⟨σ', s1, s2, s3, s4, _⟩ := newRow_ok (P := P) h hc hn [] (fun _ => rfl) 1 (by simp at hl ⊢; omega)
  simp only [List.append_nil, Array.toArray_toList] at s2 s3 s4
  exact ⟨σ', _, s2, by simp [conc, s1], s3, s4⟩

theorem alloc_ok {P : Program} {σ : Sig} {S S' : AState} {w : World} {z : AV} {id : Nat} {t : TypeId} (h : Rel σ S w) (hz : zeroT P t = some z)
    (hn : aNewRow S z.cells z.cells.length t true = some (id, S')) : Ends P σ S w (Instr.alloc t true (.tuple #[])) (.ptr id 0) S' := by
  obtain ⟨v, rfl, hv⟩ := zeroValue_run (w := w) hz
  have hc : concL σ (AV.lit v).cells = some v.cells.toList := conc_cells (by simp [conc])
  obtain ⟨σ', w', h1, h2, h3, h4⟩ := newVar_ok (P := P) h hc hn
  exact ⟨σ', w', _, by simp [Instr.alloc, hv, h1], h2, h3, h4⟩

theorem box_ok {P : Program} {σ : Sig} {S S' : AState} {w : World} {x : AV} {u : Value} {id : Nat} {t : TypeId} (h : Rel σ S w) (hx : conc σ x = some u)
    (hn : aNewRow S x.cells x.cells.length t true = some (id, S')) : Ends P σ S w (Instr.box t u) (.ptr id 0) S' := by
  obtain ⟨σ', w', h1, h2, h3, h4⟩ := newVar_ok (P := P) h (conc_cells hx) hn
  exact ⟨σ', w', _, by simp [Instr.box, h1], h2, h3, h4⟩

theorem repeatCells_length (z : List AV) : ∀ n, (repeatCells z n).length = n * z.length
  | 0 => by simp [repeatCells]
  | n + 1 => by simp [repeatCells, repeatCells_length z n, Nat.add_mul, Nat.add_comm]

theorem repeat_conc {σ : Sig} {z : List AV} {zs : List Value} (h : concL σ z = some zs) : ∀ n, concL σ (repeatCells z n) = some ((List.range (n * zs.length)).map fun i => zs[i % zs.length]!)
  | 0 => by simp [repeatCells, concL]
  | n + 1 => by
    simp only [repeatCells]
    rw [concL_append h (repeat_conc h n)]
    congr 1
    apply List.ext_getElem?
    intro j
    simp only [List.getElem?_append, List.getElem?_map]
    by_cases hj : j < zs.length
    · have : j < (n + 1) * zs.length := by rw [Nat.add_mul]; omega
      simp [hj, List.getElem?_range this, Nat.mod_eq_of_lt hj]
    · by_cases h2 : j < (n + 1) * zs.length
      · have h3 : j - zs.length < n * zs.length := by rw [Nat.add_mul] at h2; omega
        have h4 : (j - zs.length) % zs.length = j % zs.length := by
          conv => rhs; rw [show j = (j - zs.length) + zs.length by omega]
          rw [Nat.add_mod_right]
        simp [hj, List.getElem?_range h2, List.getElem?_range h3, h4]
      · have h3 : ¬ j - zs.length < n * zs.length := by rw [Nat.add_mul] at h2; omega
        simp [hj, h2, h3]

theorem range0 {α : Type} (f : Nat → α) : (Array.range 0).map f = #[] := by apply Array.ext'; simp

theorem range_map (z : Array Value) (n : Nat) : (Array.range n).map (fun i => z[i % z.size]!) = ((List.range n).map fun i => z.toList[i % z.toList.length]!).toArray := by
  apply Array.ext'
  simp only [Array.toList_map, Array.toList_range, Array.length_toList]
  apply List.map_congr_left
  intro i _
  simp [getElem!_def]

theorem buildSlice_ok {P : Program} {σ : Sig} {S S' : AState} {w : World} {t : TypeId} {len : Nat} {parts : List (Nat × AV)} {uparts : Array (Nat × Value)} {v : AV} (h : Rel σ S w) (hl : uparts.size = parts.length)
    (hp : ∀ (j : Nat) (p : Nat × AV), parts[j]? = some p → ∃ u, uparts[j]? = some (p.1, u) ∧ conc σ p.2 = some u) (ha : aBuildSlice P S t len parts = some (.val v, S')) :
    Ends P σ S w (Instr.buildSlice t len uparts) v S' := by
  unfold aBuildSlice at ha
  split at ha
  · rename_i elem hu
    rw [obind_some] at ha; obtain ⟨n, hn, ha⟩ := ha
    split at ha
    · cases ha
    · rename_i hsm
      simp only [Bool.or_eq_true, beq_iff_eq, decide_eq_true_eq, not_or] at hsm
      rw [obind_some] at ha; obtain ⟨z, hz, ha⟩ := ha
      split at ha
      · cases ha
      · rename_i hzl
        simp only [bne_iff_ne, ne_eq, Decidable.not_not] at hzl
        rw [obind_some] at ha; obtain ⟨cs, hcs, ha⟩ := ha
        split at ha
        case isFalse => cases ha
        rename_i hcl
        rw [obind_some] at ha; obtain ⟨⟨id, S1⟩, hrow, ha⟩ := ha
        cases ha
        obtain ⟨zv, rfl, hzv⟩ := zeroValue_run (w := w) hz
        have hzc : concL σ (AV.lit zv).cells = some zv.cells.toList := conc_cells (by simp [conc])
        have hzs : zv.cells.size = n := by rw [← hzl, ← concL_length hzc]; simp
        have hrep := repeat_conc hzc len
        have hp' : ∀ (j : Nat) (p : Nat × AV), parts[j]? = some p → ∃ u, uparts.toList[j]? = some (p.1, u) ∧ conc σ p.2 = some u := fun j p hj => by simpa using hp j p hj
        obtain ⟨r, hr1, hr2⟩ := fill_ok (fun i => some (i * n, n)) parts uparts.toList _ _ cs hrep (by simpa using hl) hp' hcs
        have hlen := concL_length hr1
        have hsz : r.size = len * n := by
          have : cs.length = len * n := by simpa using hcl
          rw [← this, ← hlen]; simp
        obtain ⟨σ', s1, s2, s3, s4, _⟩ := newRow_ok (P := P) h hr1 hrow [] (fun _ => rfl) len (by simp [hsz])
        simp only [List.append_nil, Array.toArray_toList] at s2 s3 s4
        refine ⟨σ', _, .slice (some ⟨w.heap.size, 0, none⟩) len len, ?_, by simp [conc, s1], s3, s4⟩
        have hfill : Instr.fill (fun i => some (i * n, n)) ((Array.range (len * n)).map fun i => zv.cells[i % zv.cells.size]!) uparts.toList = some r := by
          rw [range_map, ← hr2, ← hzs]; simp
        have c1 : ¬ (len * n > 2 ^ 24) := by omega
        by_cases h0 : len * n = 0
        · rw [h0, range0] at hfill
          simp [Instr.buildSlice, underlying_run hu, sizeOf_run hn, h0, range0, hfill, s2]
        · simp only [Instr.buildSlice, Sem.run_bind, underlying_run hu, sizeOf_run hn, Result.andThen_ok, if_neg c1, h0, if_false, hzv, Sem.run_pure, hfill, s2]
  · cases ha

end Go.AM
