/- The abstract machine: append, copy. -/
import Derived.Test.YtpmbnnobfjjpaaaGreatDoorAmOps3
import Derived.Laws.AppendOwn
namespace Go.AM
set_option linter.unusedVariables false
set_option linter.unusedSimpArgs false

theorem flat_u8 (s : ByteArray) : allOne (s.data.toList.map fun b => AV.lit (.int .u8 b.toNat)) = true := by
  generalize s.data.toList = l
  induction l with
  | nil => rfl
  | cons b r ih => simpa [allOne, AV.one] using ih

theorem concL_u8 {σ : Sig} (l : List UInt8) : concL σ (l.map fun b => AV.lit (.int .u8 b.toNat)) = some (l.map fun b => Value.int .u8 b.toNat) := by
  induction l with
  | nil => rfl
  | cons b r ih => simp [concL, conc, ih]

/-- the elements of a slice or a string are read -/
theorem cells_ok {P : Program} {σ : Sig} {S : AState} {w : World} {n m : Nat} {v : AV} {u : Value} {cs : List AV} (h : Rel σ S w) (hv : conc σ v = some u) (hc : aCells S n v = some cs) (hm : lenOf v = some m) :
    ∃ us, concL σ cs = some us ∧ us.length = m * n ∧ (Builtin.firstCells n m u).run P w = .ok us.toArray w ∧ Builtin.lenOf u = Sem.pure m := by
  unfold aCells at hc
  split at hc
  · cases hc
    simp only [conc, Option.some.injEq] at hv; subst hv
    simp [lenOf] at hm; subst hm
    exact ⟨[], rfl, by simp, by simp [Builtin.firstCells], rfl⟩
  · rename_i s
    split at hc
    · rename_i hn
      have hn1 : n = 1 := by simpa using hn
      subst hn1
      cases hc
      simp only [conc, Option.some.injEq] at hv; subst hv
      simp [lenOf] at hm; subst hm
      refine ⟨_, concL_u8 _, by simp, ?_, rfl⟩
      have e : s.extract 0 s.size = s := by simp
      have e2 : s.data.map (fun b => Value.int .u8 b.toNat) = (s.data.toList.map fun b => Value.int .u8 b.toNat).toArray := by
        apply Array.ext'
        simp
      simp only [Builtin.firstCells, e, Sem.run_pure, e2]
    · cases hc
  · rename_i id off len cap
    obtain ⟨l, c, hl, rfl, hlen, _⟩ := slice_of hv
    simp [lenOf] at hm; subst hm
    split at hc
    · rename_i h0
      have h0' : len = 0 := by simpa using h0
      subst h0'
      cases hc
      exact ⟨[], rfl, by simp, by simp [Builtin.firstCells, loadCells, loadCellsFrom], rfl⟩
    · split at hc
      · rename_i cells esz el ex hg
        split at hc
        · rename_i hb
          cases hc
          obtain ⟨us, h1, h2, h3⟩ := row_cells h hg hl hb
          exact ⟨us, h1, h2, by simpa using run_firstCells_some (P := P) w n len _ len c us h2 h3, rfl⟩
        · cases hc
      · cases hc
  · cases hc

/-! ### append -/
/-- append's text behind its looks at the types, where what is appended is no number -/
def appendBody (elem : TypeId) (size : Nat) (base : Option Addr) (sLen sCap : Nat) (x : Value) : Sem Value := do
  let n ← Builtin.lenOf x
  let appended : Sem (Array Value) := Builtin.firstCells size n x
  let need := sLen + n
  if need ≤ sCap then
    let new ← appended
    if let some a := base then storeCells (a.add (sLen * size)) new.toList
    pure (.slice base need sCap)
  else
    if (need : Int) > IntKind.i64.max ∧ ((← typeInfo elem).bytes = 0) then runtimePanic (.error "growslice: len out of range")
    if Builtin.nextslicecap need sCap * (← typeInfo elem).bytes > 2 ^ 48 then (do
      if !(← Builtin.mayShare size sLen n base x) then mark .noRoom
      unsupported (.resourceLimit "append: a slice or a string whose bytes no memory bears"))
    let newCap ← choose (.appendCap need sCap elem)
    askRoom (newCap * (← typeInfo elem).bytes)
    let old ← Builtin.firstCells size sLen (.slice base sLen sCap)
    let new ← appended
    let rest := Builtin.zeroCells (← zeroValue elem).cells (newCap - need)
    pure (.slice (some (← newRow elem (old ++ new ++ rest))) need newCap)

theorem append_body {P : Program} {w : World} {st xt ty elem : TypeId} {xd : TypeDesc} {n sLen sCap : Nat} {base : Option Addr} {x : Value}
    (h1 : P.underlying st = some (.slice elem)) (h2 : P.underlying xt = some xd) (h3 : ∀ k, xd ≠ .int k) (h4 : sizeT P elem = some n) :
    (Builtin.append_ #[st, xt] ty #[.slice base sLen sCap, x]).run P w = (appendBody elem n base sLen sCap x).run P w := by
  cases xd with
  | int k => exact absurd rfl (h3 k)
  | _ =>
    unfold Builtin.append_ appendBody
    simp only [List.getElem?_toArray, List.getElem?_cons_zero, List.getElem?_cons_succ, Sem.run_bind, underlying_run h1, underlying_run h2, sizeOf_run h4, Result.andThen_ok, Sem.run_pure, Bool.not_false, Bool.false_eq_true, if_false, if_true, false_or]
    rfl

theorem append_room_run {P : Program} {w w' : World} {elem : TypeId} {n m sLen sCap : Nat} {a : Addr} {x : Value} {news : List Value}
    (h5 : Builtin.lenOf x = Sem.pure m) (h6 : (Builtin.firstCells n m x).run P w = .ok news.toArray w) (h7 : sLen + m ≤ sCap) (h8 : (storeCells (a.add (sLen * n)) news).run P w = .ok () w') :
    (appendBody elem n (some a) sLen sCap x).run P w = .ok (.slice (some a) (sLen + m) sCap) w' := by
  simp [appendBody, h5, h6, h7, h8]

theorem append_grow_run {P : Program} {w : World} {elem : TypeId} {i : TypeInfo} {z : Value} {m sLen sCap : Nat} {base : Option Addr} {x : Value} {olds news : List Value}
    (h4 : P.info? elem = some i) (h5 : Builtin.lenOf x = Sem.pure m) (hz : i.zero = some z)
    (h6 : (Builtin.firstCells i.size m x).run P w.drew = .ok news.toArray w.drew) (h7 : (Builtin.firstCells i.size sLen (.slice base sLen sCap)).run P w.drew = .ok olds.toArray w.drew)
    (hg : sCap < sLen + m) (hb : i.bytes ≤ 4096) (hsm : sLen + m ≤ 2000000) :
    (appendBody elem i.size base sLen sCap x).run P w = .ok (.slice (some ⟨w.heap.size, 0, none⟩) (sLen + m) (grownCap w (sLen + m) sCap elem))
      (w.drew.alloc (.cells (olds ++ news ++ (Builtin.zeroCells z.cells (grownCap w (sLen + m) sCap elem - (sLen + m))).toList).toArray elem)) := by
  have c1 : ¬ (sLen + m ≤ sCap) := by omega
  have c2 : ¬ (9223372036854775807 < ((sLen : Int) + (m : Int))) := by omega
  have c3 : ¬ (281474976710656 < Builtin.nextslicecap (sLen + m) sCap * i.bytes) := by
    have g1 := nextslicecap_le (need := sLen + m) (old := sCap) hg
    have g2 : Builtin.nextslicecap (sLen + m) sCap * i.bytes ≤ (2 * (sLen + m)) * 4096 := Nat.mul_le_mul g1 hb
    omega
  simp [appendBody, typeInfo, zeroValue, h4, hz, h5, c1, c2, c3, Question.forced, newRow, grownCap, h6, h7]
  congr 2
  apply Array.ext'
  simp

/-- where an operation ends: a value, a world, the relation -/
def Ends (P : Program) (σ : Sig) (S : AState) (w : World) (s : Sem Value) (v : AV) (S' : AState) : Prop :=
  ∃ σ' w' u, s.run P w = .ok u w' ∧ conc σ' v = some u ∧ Rel σ' S' w' ∧ Ext σ S w σ' S' w'

theorem drew_start {σ σ' : Sig} {S S' : AState} {w w' : World} (h : Ext σ S w.drew σ' S' w') : Ext σ S w σ' S' w' := (Ext.drew σ S w).trans h

theorem len0_ok {P : Program} {σ : Sig} {w : World} {n : Nat} {x : AV} {ux : Value} (hx : conc σ x = some ux) (hm : lenOf x = some 0) :
    Builtin.lenOf ux = Sem.pure 0 ∧ (Builtin.firstCells n 0 ux).run P w = .ok (#[] : Array Value) w := by
  unfold lenOf at hm
  split at hm
  · simp only [conc, Option.some.injEq] at hx; subst hx
    exact ⟨rfl, by simp [Builtin.firstCells]⟩
  · rename_i q
    simp only [conc, Option.some.injEq] at hx; subst hx
    simp only [Option.some.injEq] at hm
    exact ⟨by simp [Builtin.lenOf, hm]; rfl, by simp [Builtin.firstCells]⟩
  · obtain ⟨l, c, hl, rfl, _⟩ := slice_of hx
    simp only [Option.some.injEq] at hm; subst hm
    exact ⟨rfl, by simp [Builtin.firstCells, loadCells, loadCellsFrom]⟩
  · cases hm

theorem appSmall_ok {ei : TypeInfo} {m : Nat} {sl : Option Nat} (h : appSmall ei m sl = true) :
    ei.size ≠ 0 ∧ ei.bytes ≤ 4096 ∧ m ≤ 1000000 ∧ (∃ l, sl = some l ∧ l ≤ 1000000) ∧ ∃ z, ei.zero = some z ∧ z.cells.size = ei.size := by
  unfold appSmall at h
  simp only [Bool.and_eq_true, bne_iff_ne, decide_eq_true_eq] at h
  obtain ⟨⟨⟨⟨h1, h2⟩, h3⟩, h4⟩, h5⟩ := h
  refine ⟨h1, h2, h3, ?_, ?_⟩
  · cases sl with
    | none => simp at h4
    | some l => exact ⟨l, rfl, by simpa using h4⟩
  · cases hz : ei.zero with
    | none => simp [hz] at h5
    | some z => exact ⟨z, rfl, by simpa [hz] using h5⟩

theorem append_ok {P : Program} {σ : Sig} {S S' : AState} {w : World} {ats : Array TypeId} {ty : TypeId} {s x v : AV} {us ux : Value} (h : Rel σ S w) (hs : conc σ s = some us) (hx : conc σ x = some ux)
    (ha : aAppend P S ats s x = some (.val v, S')) (hats : ats.size = 2) : Ends P σ S w (Builtin.append_ ats ty #[us, ux]) v S' := by
  unfold aAppend at ha
  split at ha
  · rename_i st xt hst hxt
    obtain rfl : ats = #[st, xt] := by
      apply Array.ext_getElem?
      intro j
      match j with
      | 0 => simpa using hst
      | 1 => simpa using hxt
      | j + 2 => simp [hats]
    split at ha
    · rename_i elem xd hu1 hu2
      split at ha
      · cases ha
      · rename_i hnint
        have h3 : ∀ k, xd ≠ .int k := fun k e => hnint k e
        rw [obind_some] at ha; obtain ⟨ei, hei, ha⟩ := ha
        simp only at ha
        rw [obind_some] at ha; obtain ⟨m, hm, ha⟩ := ha
        have h4 : sizeT P elem = some ei.size := by simp [sizeT, hei]
        split at ha
        · rename_i hsmall
          obtain ⟨hn0, hb, hmm, hsl, z, hz, hzc⟩ := appSmall_ok hsmall
          split at ha
          · -- nil
            simp only [conc, Option.some.injEq] at hs
            subst hs
            split at ha
            · rename_i hm0
              have hm0' : m = 0 := by simpa using hm0
              subst hm0'
              cases ha
              have hl0 := len0_ok (P := P) (w := w) (n := ei.size) hx hm
              refine ⟨σ, w, .slice none 0 0, ?_, by simp [conc], h, Ext.refl σ S w⟩
              rw [append_body hu1 hu2 h3 h4]
              simp [appendBody, hl0.1, hl0.2]
            · rename_i hm0
              have hm0' : m ≠ 0 := by simpa using hm0
              rw [obind_some] at ha; obtain ⟨new, hnew, ha⟩ := ha
              rw [obind_some] at ha; obtain ⟨⟨id, S1⟩, hrow, ha⟩ := ha
              cases ha
              obtain ⟨ns, n1, n2, n3, n4⟩ := cells_ok (P := P) h.drew hx hnew hm
              have hge := grownCap_ge w (0 + m) 0 elem
              have hrun := append_grow_run (P := P) (w := w) (base := none) (sLen := 0) (sCap := 0) (olds := []) hei n4 hz n3 (by simp [Builtin.firstCells]) (by omega) (by omega) (by omega)
              obtain ⟨σ', s1, _, s3, s4, s5⟩ := newRow_ok (P := P) h.drew n1 hrow (Builtin.zeroCells z.cells (grownCap w (0 + m) 0 elem - (0 + m))).toList (fun e => by cases e) (grownCap w (0 + m) 0 elem)
                (by rw [n2, Array.length_toList, size_zeroCells, hzc, ← Nat.add_mul]; exact Nat.mul_le_mul_right _ (by omega))
              refine ⟨σ', _, .slice (some ⟨w.heap.size, 0, none⟩) (0 + m) (grownCap w (0 + m) 0 elem), ?_, ?_, s3, drew_start s4⟩
              · rw [append_body hu1 hu2 h3 h4, hrun]
                simp only [List.nil_append]
              · simp only [conc, s1, World.size_drew]
                rw [if_pos (by simp only [Nat.zero_div]; omega)]
                simp
          · rename_i id off len cap
            obtain ⟨l, c, hl, rfl, hlen, hk1, hk2⟩ := slice_of hs
            have hsl' : len ≤ 1000000 := by obtain ⟨q, e, hq⟩ := hsl; simp [lenOf] at e; omega
            split at ha
            · rename_i c'
              obtain rfl := hk1 c' rfl
              split at ha
              · rename_i hroom
                rw [obind_some] at ha; obtain ⟨new, hnew, ha⟩ := ha
                obtain ⟨ns, n1, n2, n3, n4⟩ := cells_ok (P := P) h hx hnew hm
                split at ha
                · rename_i cells esz el ex hg
                  split at ha
                  · rename_i hc
                    simp only [Bool.and_eq_true, decide_eq_true_eq] at hc
                    cases ha
                    have hnl := concL_length n1
                    obtain ⟨w', p1, p2, p3⟩ := put_cells (P := P) (off := off + len * ei.size) h hg hl n1 hc.2 (by rw [← hnl, n2]; have := hc.1; rw [Nat.add_mul] at this; omega)
                    refine ⟨σ, w', .slice (some ⟨l.block, l.off + off, none⟩) (len + m) c, ?_, ?_, p2, p3⟩
                    · rw [append_body hu1 hu2 h3 h4]
                      exact append_room_run n4 n3 hroom (by rw [add_mk, Nat.add_assoc]; exact p1)
                    · simp [conc, hl, hroom]
                  · cases ha
                · cases ha
              · rename_i hroom
                rw [obind_some] at ha; obtain ⟨old, hold, ha⟩ := ha
                rw [obind_some] at ha; obtain ⟨new, hnew, ha⟩ := ha
                rw [obind_some] at ha; obtain ⟨⟨id', S1⟩, hrow, ha⟩ := ha
                cases ha
                obtain ⟨os, o1, o2, o3, _⟩ := cells_ok (P := P) h.drew hs hold (m := len) rfl
                obtain ⟨ns, n1, n2, n3, n4⟩ := cells_ok (P := P) h.drew hx hnew hm
                have hge := grownCap_ge w (len + m) c elem
                have hrun := append_grow_run (P := P) (w := w) hei n4 hz n3 o3 (by omega) (by omega) (by omega)
                obtain ⟨σ', s1, _, s3, s4, s5⟩ := newRow_ok (P := P) h.drew (concL_append o1 n1) hrow (Builtin.zeroCells z.cells (grownCap w (len + m) c elem - (len + m))).toList (fun e => by cases e) (grownCap w (len + m) c elem)
                  (by rw [List.length_append, n2, o2, Array.length_toList, size_zeroCells, hzc, ← Nat.add_mul, ← Nat.add_mul]; exact Nat.mul_le_mul_right _ (by omega))
                refine ⟨σ', _, .slice (some ⟨w.heap.size, 0, none⟩) (len + m) (grownCap w (len + m) c elem), ?_, ?_, s3, drew_start s4⟩
                · rw [append_body hu1 hu2 h3 h4, hrun]
                · simp only [conc, s1, Nat.zero_div, Nat.zero_add, World.size_drew]
                  rw [if_pos (by omega)]
                  simp
            · obtain ⟨hceq, hcle⟩ := hk2 rfl
              split at ha
              · rename_i hm0
                have hm0' : m = 0 := by simpa using hm0
                subst hm0'
                cases ha
                have hl0 := len0_ok (P := P) (w := w) (n := ei.size) hx hm
                refine ⟨σ, w, .slice (some ⟨l.block, l.off + off, none⟩) len c, ?_, hs, h, Ext.refl σ S w⟩
                rw [append_body hu1 hu2 h3 h4]
                have : len ≤ c := hlen
                simp [appendBody, hl0.1, hl0.2, this, storeCells]
              · rename_i hm0
                have hm0' : m ≠ 0 := by simpa using hm0
                rw [obind_some] at ha; obtain ⟨old, hold, ha⟩ := ha
                rw [obind_some] at ha; obtain ⟨new, hnew, ha⟩ := ha
                split at ha
                · rename_i cells esz el ex hg
                  split at ha
                  · rename_i hc
                    simp only [Bool.and_eq_true, beq_iff_eq] at hc
                    obtain ⟨⟨he1, he2⟩, he3⟩ := hc
                    rw [obind_some] at ha; obtain ⟨⟨id', S1⟩, hrow, ha⟩ := ha
                    cases ha
                    by_cases hroom : len + m ≤ c
                    · -- there is room: the block is taken over
                      obtain ⟨os, o1, o2, _, _⟩ := cells_ok (P := P) h hs hold (m := len) rfl
                      obtain ⟨ns, n1, n2, n3, n4⟩ := cells_ok (P := P) h hx hnew hm
                      obtain ⟨l', hl', C, fz, g1, g2, g3, g4, g5, g6, g7⟩ := h.obj id _ hg
                      rw [hl] at hl'; cases hl'
                      have hesz : l.esz = ei.size := g4.trans he1
                      have hlt := h.blk id l hl
                      have hdvd : off = off / ei.size * ei.size := by
                        have := Nat.div_add_mod off ei.size
                        rw [he3, Nat.add_zero, Nat.mul_comm] at this
                        exact this.symm
                      have hcap : off + (len + m) * ei.size ≤ l.ecap * ei.size := by
                        rw [hdvd, ← Nat.add_mul]
                        apply Nat.mul_le_mul_right
                        rw [hesz] at hceq hcle
                        omega
                      have hfits : l.off + (off + len * ei.size) + ns.length ≤ C.size := by
                        rw [n2]
                        rw [hesz] at g5
                        rw [Nat.add_mul] at hcap
                        omega
                      have hones : ∀ u ∈ ns, u.oneCell' = true := by
                        unfold aNewRow at hrow
                        split at hrow
                        · rename_i h1
                          have := concL_ones (concL_append o1 n1) h1
                          exact fun u hu => this u (by simp [hu])
                        · cases hrow
                      have hst := storeCells_run (P := P) l.block (l.off + (off + len * ei.size)) elem fz ns 0 C w (by rw [← he2]; exact g1) (by simpa using hfits) g7 hones
                      simp only [Nat.add_zero] at hst
                      have hnew' : (S.kill id).new (.row (old ++ new) ei.size elem false) = some (id', S1) := by
                        unfold aNewRow at hrow
                        split at hrow
                        · exact hrow
                        · cases hrow
                      have h1' : allOne (old ++ new) = true := by
                        unfold aNewRow at hrow
                        split at hrow
                        · assumption
                        · cases hrow
                      have hid : id' = S.next := (AState.new_some hnew').1
                      have hσ : σ id' = none := by rw [hid]; exact h.dom _ (Nat.le_refl _)
                      have hle := upd_le (l := ⟨l.block, l.off + off, c, ei.size⟩) hσ
                      have hC : C.size = (splice C (l.off + (off + len * ei.size)) ns).size := (splice_size hfits).symm
                      obtain ⟨r1, r2⟩ := rel_over (l' := ⟨l.block, l.off + off, c, ei.size⟩) h hg hl hnew' rfl (w' := setBlk w l.block (.cells (splice C (l.off + (off + len * ei.size)) ns) elem fz)) (by simp) (fun b hb => setBlk_other _ _ _ _ hb) rfl rfl rfl (by
                        refine ⟨_, fz, setBlk_self _ _ _ hlt, h1', ⟨os ++ ns, concL_mono hle _ _ (concL_append o1 n1), ?_⟩, rfl, ?_, fun e => (by cases e), ?_⟩
                        · intro j u hj
                          show (splice C (l.off + (off + len * ei.size)) ns)[l.off + off + j]? = some u
                          rw [splice_get hfits]
                          rw [List.getElem?_append] at hj
                          by_cases c1 : j < os.length
                          · rw [if_pos c1] at hj
                            rw [if_pos (by rw [o2] at c1; omega)]
                            obtain ⟨us2, q1, q2⟩ := g3
                            have hcell := hold
                            unfold aCells at hcell
                            simp only [hg] at hcell
                            split at hcell
                            · cases hcell
                              simp [concL] at o1; subst o1; simp at c1
                            · split at hcell
                              · cases hcell
                                have ho : os = (us2.drop off).take (len * ei.size) := by
                                  have := concL_take (len * ei.size) (concL_drop off q1)
                                  rw [o1] at this; exact Option.some.inj this
                                rw [ho, List.getElem?_take, if_pos (by rw [o2] at c1; exact c1), List.getElem?_drop] at hj
                                have := q2 (off + j) u hj
                                rwa [← Nat.add_assoc] at this
                              · cases hcell
                          · rw [if_neg c1] at hj
                            have hjl : j - os.length < ns.length := by
                              rcases Nat.lt_or_ge (j - os.length) ns.length with h' | h'
                              · exact h'
                              · rw [List.getElem?_eq_none h'] at hj; cases hj
                            rw [if_neg (by rw [o2] at c1; omega), if_pos (by rw [o2] at c1 hjl; omega)]
                            rw [show l.off + off + j - (l.off + (off + len * ei.size)) = j - os.length by rw [o2] at c1 ⊢; omega]
                            exact hj
                        · rw [← hC]
                          simp only
                          rw [hesz] at g5 hceq
                          have : off + c * ei.size ≤ l.ecap * ei.size := by
                            rw [hdvd, ← Nat.add_mul]
                            apply Nat.mul_le_mul_right
                            omega
                          omega
                        · intro j hj
                          rw [← hC] at hj
                          exact g7 j hj)
                      refine ⟨_, _, .slice (some ⟨l.block, l.off + off, none⟩) (len + m) c, ?_, ?_, r1, r2⟩
                      · rw [append_body hu1 hu2 h3 h4]
                        exact append_room_run n4 n3 hroom (by rw [add_mk, Nat.add_assoc]; exact hst)
                      · simp only [conc, upd_self, Nat.zero_div, Nat.zero_add]
                        rw [if_pos hroom]
                        simp
                    · have hk := (rel_kill h.drew hg hl (w' := w.drew) rfl (fun _ _ => rfl) rfl rfl rfl)
                      obtain ⟨os, o1, o2, o3, _⟩ := cells_ok (P := P) h.drew hs hold (m := len) rfl
                      obtain ⟨ns, n1, n2, n3, n4⟩ := cells_ok (P := P) h.drew hx hnew hm
                      have hge := grownCap_ge w (len + m) c elem
                      have hrun := append_grow_run (P := P) (w := w) hei n4 hz n3 o3 (by omega) (by omega) (by omega)
                      obtain ⟨σ', s1, _, s3, s4, s5⟩ := newRow_ok (P := P) hk.1 (concL_append o1 n1) hrow (Builtin.zeroCells z.cells (grownCap w (len + m) c elem - (len + m))).toList (fun e => by cases e) (grownCap w (len + m) c elem)
                        (by rw [List.length_append, n2, o2, Array.length_toList, size_zeroCells, hzc, ← Nat.add_mul, ← Nat.add_mul]; exact Nat.mul_le_mul_right _ (by omega))
                      refine ⟨σ', _, .slice (some ⟨w.heap.size, 0, none⟩) (len + m) (grownCap w (len + m) c elem), ?_, ?_, s3, drew_start (hk.2.trans s4)⟩
                      · rw [append_body hu1 hu2 h3 h4, hrun]
                      · simp only [conc, s1, Nat.zero_div, Nat.zero_add, World.size_drew]
                        rw [if_pos (by omega)]
                        simp
                  · cases ha
                · cases ha
          · cases ha
        · cases ha
    · cases ha
  · cases ha

end Go.AM
