/- The abstract machine: conversions, unsafe strings, functions without a body. -/
import Derived.Test.YtpmbnnobfjjpaaaGreatDoorAmOps6
namespace Go.AM
set_option linter.unusedVariables false
set_option linter.unusedSimpArgs false

theorem u8_list (bs : List UInt8) (ns : List Int) (h : bs = ns.map fun n => UInt8.ofNat n.toNat) : ns.foldl (fun r n => r.push (UInt8.ofNat n.toNat)) ByteArray.empty = ⟨bs.toArray⟩ := by
  rw [foldl_push, h]
  apply ByteArray.ext
  simp

theorem convert_ok {P : Program} {σ : Sig} {S S' : AState} {w : World} {src dst : TypeId} {x v : AV} {u : Value} (h : Rel σ S w) (hx : conc σ x = some u)
    (ha : aConvert P S src dst x = some (.val v, S')) : Ends P σ S w (convert src dst u) v S' := by
  unfold aConvert at ha
  split at ha
  · rename_i d0 e s hsrc hdst
    simp only [conc, Option.some.injEq] at hx; subst hx
    split at ha
    · rename_i he
      rw [obind_some] at ha; obtain ⟨⟨id, S1⟩, hrow, ha⟩ := ha
      cases ha
      obtain ⟨σ', w', y, h1, h2, h3, h4⟩ := strToBytes_ok (P := P) h hrow
      refine ⟨σ', w', y, ?_, h2, h3, h4⟩
      rw [← h1]
      cases d0 <;> simp [convert, underlying_run hsrc, underlying_run hdst, underlying_run he]
    · cases ha
  · rename_i e id off len cap hsrc hdst
    split at ha
    · rename_i he
      split at ha
      · cases ha
      · rename_i hsm
        rw [obind_some] at ha; obtain ⟨cs, hcs, ha⟩ := ha
        rw [obind_some] at ha; obtain ⟨vs, hvs, ha⟩ := ha
        rw [obind_some] at ha; obtain ⟨bs, hbs, ha⟩ := ha
        cases ha
        obtain ⟨ns, rfl, hb⟩ := bytesFrom_ok vs bs hbs
        obtain ⟨us, c1, c2, c3, _⟩ := cells_ok (P := P) h hx hcs (m := len) rfl
        rw [concL_flat hvs] at c1; cases c1
        obtain ⟨l, c, hl, rfl, _⟩ := slice_of hx
        refine ⟨σ, w, .string ⟨bs.toArray⟩, ?_, by simp [conc], h, Ext.refl σ S w⟩
        rw [run_convert_bytes_string w src dst e _ _ _ hsrc he hdst, run_bytesToString w _ len c ns (by simpa [Builtin.firstCells] using c3), u8_list bs ns hb]
    · cases ha
  · rename_i t id off hsrc hdst
    obtain ⟨l, hl, rfl⟩ := ptr_of hx
    split at ha
    · rename_i cells esz el ex hg
      rw [obind_some] at ha; obtain ⟨n, hn, ha⟩ := ha
      split at ha
      · rename_i hc
        simp only [Bool.and_eq_true, bne_iff_ne, ne_eq, decide_eq_true_eq] at hc
        cases ha
        refine ⟨σ, w, _, ?_, hx, h, Ext.refl σ S w⟩
        obtain ⟨l', hl', C, fz, g1, _, ⟨us, g3, g4⟩, _⟩ := h.obj id _ hg
        rw [hl] at hl'; cases hl'
        have hul := concL_length g3
        have hoff : l.off + off < C.size := by
          have := g4 off us[off] (List.getElem?_eq_getElem (by omega))
          exact (Array.getElem?_eq_some_iff.1 this).1
        have hsh : w.shape? l.block = some (el, C.size) := by simp [World.shape?, g1]
        have hnl : ¬ (C.size ≤ l.off + off) := by omega
        simp [convert, underlying_run hsrc, underlying_run hdst, Conv.unsafePointer, Conv.seenAt, viewAt, hsh, cellsIn, sizeOf_run hn, hc.1, hnl]
      · cases ha
    · cases ha
  · rename_i t id off hsrc hdst
    obtain ⟨l, hl, rfl⟩ := ptr_of hx
    split at ha
    · rename_i cells esz el hg
      rw [obind_some] at ha; obtain ⟨n, hn, ha⟩ := ha
      split at ha
      · rename_i hc
        simp only [Bool.and_eq_true, bne_iff_ne, ne_eq] at hc
        cases ha
        refine ⟨σ, w, _, ?_, hx, h, Ext.refl σ S w⟩
        obtain ⟨l', hl', C, fz, g1, _, _, _, _, g6, _⟩ := h.obj id _ hg
        rw [hl] at hl'; cases hl'
        obtain ⟨e0, e1⟩ := g6 rfl
        have hsh : w.shape? l.block = some (el, C.size) := by simp [World.shape?, g1]
        have hlies : liesAt P P.depth el (C.size / P.cellsOf el) (l.off + off) t 1 = true := by rw [e0, e1, Nat.zero_add]; exact hc.2
        simp [convert, underlying_run hsrc, underlying_run hdst, Conv.unsafePointer, Conv.seenAt, viewAt, hsh, sizeOf_run hn, hc.1, variablesAt, hlies]
      · cases ha
    · cases ha
  · rename_i x1 x2 y
    simp only [conc, Option.some.injEq] at hx; subst hx
    rw [obind_some] at ha; obtain ⟨y', hy, ha⟩ := ha
    cases ha
    exact ⟨σ, w, y', pureRun_ok _ hy w, by simp [conc], h, Ext.refl σ S w⟩
  · cases ha

end Go.AM
