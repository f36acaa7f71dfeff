/- The abstract machine: make, conversions, unsafe strings. -/
import Derived.Test.YtpmbnnobfjjpaaaGreatDoorAmOps5
import Derived.IntWalk
import Derived.Laws.BytesString
import Derived.Lib.UnsafeStr
import Derived.Laws.NewFold
namespace Go.AM
set_option linter.unusedVariables false
set_option linter.unusedSimpArgs false

theorem makeSlice_ok {P : Program} {σ : Sig} {S S' : AState} {w : World} {t : TypeId} {l c v : AV} {ul uc : Value} (h : Rel σ S w) (hl : conc σ l = some ul) (hc : conc σ c = some uc)
    (ha : aMakeSlice P S t l c = some (.val v, S')) : Ends P σ S w (Instr.makeSlice t ul uc) v S' := by
  unfold aMakeSlice at ha
  split at ha
  · rename_i elem hu
    rw [obind_some] at ha; obtain ⟨len, hlen, ha⟩ := ha
    rw [obind_some] at ha; obtain ⟨cap, hcap, ha⟩ := ha
    rw [obind_some] at ha; obtain ⟨n, hn, ha⟩ := ha
    rw [obind_some] at ha; obtain ⟨z, hz, ha⟩ := ha
    obtain ⟨kl, rfl⟩ := natOf_ok hlen hl
    obtain ⟨kc, rfl⟩ := natOf_ok hcap hc
    split at ha
    · rename_i hcond
      simp only [Bool.and_eq_true, decide_eq_true_eq, beq_iff_eq] at hcond
      obtain ⟨⟨⟨⟨c1, c2⟩, c3⟩, c4⟩, c5⟩ := hcond
      rw [obind_some] at ha; obtain ⟨⟨id, S1⟩, hrow, ha⟩ := ha
      cases ha
      obtain ⟨zv, rfl, hzv⟩ := zeroValue_run (w := w) hz
      have hzc : concL σ (AV.lit zv).cells = some zv.cells.toList := conc_cells (by simp [conc])
      have hzs : zv.cells.size = n := by rw [← c4, ← concL_length hzc]; simp
      have hrep := repeat_conc hzc cap
      obtain ⟨ie, hie, hby⟩ : ∃ ie, P.info? elem = some ie ∧ ie.bytes ≤ 1000 := by
        unfold bytesSmall at c5
        cases hi : P.info? elem with
        | none => simp [hi] at c5
        | some ie => exact ⟨ie, rfl, by simpa [hi] using c5⟩
      obtain ⟨σ', s1, s2, s3, s4, _⟩ := newRow_ok (P := P) h hrep hrow [] (fun _ => rfl) cap (by simp [hzs])
      simp only [List.append_nil] at s2 s3 s4
      have hti : (typeInfo elem).run P w = .ok ie w := by simp [typeInfo, hie]
      have e1 : IntKind.i64.wrap (len : Int) = len := IntWalk.i64_in _ (by omega)
      have e2 : IntKind.i64.wrap (cap : Int) = cap := IntWalk.i64_in _ (by omega)
      have b1 : ¬ (281474976710656 < (ie.bytes : Int) * (cap : Int)) := by
        have : (ie.bytes : Int) * (cap : Int) ≤ 1000 * 10000 := by
          have h1 : ie.bytes * cap ≤ 1000 * 10000 := Nat.mul_le_mul hby c2
          omega
        omega
      have b2 : ¬ ((cap : Int) < 0) := by omega
      have b3 : ¬ ((len : Int) < 0) := by omega
      have b4 : ¬ ((cap : Int) < (len : Int)) := by omega
      refine ⟨σ', _, .slice (some ⟨w.heap.size, 0, none⟩) len cap, ?_, by simp [conc, s1, c1], s3, s4⟩
      have hmap : (Array.range (cap * n)).map (fun i => zv.cells[i % zv.cells.size]!) = ((List.range (cap * zv.cells.toList.length)).map fun i => zv.cells.toList[i % zv.cells.toList.length]!).toArray := by
        rw [range_map]; simp [hzs]
      by_cases h0 : cap * n = 0
      · have e0 : cap * zv.cells.toList.length = 0 := by simpa [hzs] using h0
        rw [e0] at s2
        simp only [List.range_zero, List.map_nil] at s2
        simp [Instr.makeSlice, underlying_run hu, asInt, asIntOf, hti, e1, e2, b1, b2, b3, b4, sizeOf_run hn, h0, range0, s2, hzs]
      · rw [← hmap] at s2 s3 s4 ⊢
        have hbody : (Instr.makeSlice t (.int kl len) (.int kc cap)).run P w =
            ((newRow elem ((Array.range (cap * n)).map fun i => zv.cells[i % zv.cells.size]!)).run P w).andThen fun a w' => .ok (.slice (some a) len cap) w' := by
          simp only [Instr.makeSlice, Sem.run_bind, underlying_run hu, asInt, asIntOf, hti, Sem.run_pure, Result.andThen_ok, e1, e2]
          have d1 : (decide ((cap : Int) < 0) || decide (281474976710656 < (ie.bytes : Int) * (cap : Int))) = false := by simp [b1, b2]
          simp [d1, b3, b4]
          rw [sizeOf_run hn]
          simp only [Result.andThen_ok, if_neg h0, hzv]
        rw [hbody, s2]; rfl
    · cases ha
  · cases ha

/-! ### conversions -/
theorem bytesFrom_ok : ∀ (vs : List Value) (bs : List UInt8), aConvert.bytesFrom vs = some bs → ∃ ns : List Int, vs = ns.map (Value.int .u8) ∧ bs = ns.map fun n => UInt8.ofNat n.toNat
  | [], bs, h => by simp [aConvert.bytesFrom] at h; subst h; exact ⟨[], rfl, rfl⟩
  | v :: r, bs, h => by
    unfold aConvert.bytesFrom at h
    split at h
    · rename_i e; cases e
    · rename_i n r' e
      cases e
      split at h
      · rename_i l hl
        cases h
        obtain ⟨ns, rfl, rfl⟩ := bytesFrom_ok r l hl
        exact ⟨n :: ns, rfl, rfl⟩
      · cases h
    · cases h

theorem foldl_push : ∀ (ns : List Int) (s : ByteArray), ns.foldl (fun r n => r.push (UInt8.ofNat n.toNat)) s = ⟨s.data ++ (ns.map fun n => UInt8.ofNat n.toNat).toArray⟩
  | [], s => by simp
  | n :: r, s => by
    simp only [List.foldl_cons, foldl_push r]
    apply ByteArray.ext
    simp [ByteArray.push]

theorem freeze_eq (w : World) (b o k : Nat) (C : Array Value) (t : TypeId) (fz : Nat × Nat) (h : w.heap[b]? = some (.cells C t fz)) (hk : k ≠ 0) :
    w.freeze ⟨b, o, none⟩ k = setBlk w b (.cells C t (if fz.1 == fz.2 then (o, o + k) else (min fz.1 o, max fz.2 (o + k)))) := by
  unfold World.freeze setBlk
  rw [if_neg hk]
  congr 1
  apply Array.ext_getElem?
  intro j
  rw [Array.getElem?_modify, Array.getElem?_setIfInBounds]
  by_cases e : b = j
  · subst e
    obtain ⟨hlt, hv⟩ := Array.getElem?_eq_some_iff.1 h
    simp [hv, hlt]
  · simp [e]

theorem alloc_setBlk (w : World) (O O' : Obj) : setBlk (w.alloc O) w.heap.size O' = w.alloc O' := by
  unfold setBlk
  show { (w.alloc O) with heap := (w.heap.push O).setIfInBounds w.heap.size O' } = { w with heap := w.heap.push O' }
  have : (w.heap.push O).setIfInBounds w.heap.size O' = w.heap.push O' := by
    apply Array.ext_getElem?
    intro j
    rw [Array.getElem?_setIfInBounds, Array.getElem?_push, Array.getElem?_push]
    by_cases e : w.heap.size = j
    · subst e; simp
    · simp [e, Ne.symm e]
  rw [this]; rfl

theorem alloc_self (w : World) (O : Obj) : (w.alloc O).heap[w.heap.size]? = some O := by
  show (w.heap.push O)[w.heap.size]? = _
  simp

theorem strToBytes_ok {P : Program} {σ : Sig} {S S' : AState} {w : World} {e : TypeId} {s : ByteArray} {id : Nat} (h : Rel σ S w)
    (hn : aNewRow S (s.data.toList.map fun b => AV.lit (.int .u8 b.toNat)) 1 e false = some (id, S')) : Ends P σ S w (Conv.stringToBytes e s) (.slice id 0 s.size none) S' := by
  unfold aNewRow at hn
  rw [if_pos (flat_u8 s)] at hn
  obtain ⟨hid, _, _, _⟩ := AState.new_some hn
  have hσ : σ id = none := by rw [hid]; exact h.dom _ (Nat.le_refl _)
  have hge := grownCap_ge w s.size 0 e
  let C : Array Value := s.data.map (fun b => Value.int .u8 b.toNat) ++ Array.replicate (grownCap w s.size 0 e - s.size) (.int .u8 0)
  have hC : C.size = grownCap w s.size 0 e := by simp [C]; omega
  have hle := upd_le (l := ⟨w.heap.size, 0, grownCap w s.size 0 e, 1⟩) hσ
  obtain ⟨r1, r2⟩ := rel_new h.drew hn (.cells C e (C.size, C.size + 1)) ⟨w.heap.size, 0, grownCap w s.size 0 e, 1⟩ rfl (by
    refine ⟨C, (C.size, C.size + 1), ?_, flat_u8 s, ⟨_, concL_u8 _, ?_⟩, rfl, ?_, fun e => (by cases e), ?_⟩
    · show (w.heap.push _)[w.heap.size]? = _
      simp
    · intro j u hj
      have : j < s.size := by
        rcases Nat.lt_or_ge j s.size with h' | h'
        · exact h'
        · rw [List.getElem?_eq_none (by simpa using h')] at hj; cases hj
      simp only [Nat.zero_add, C]
      rw [Array.getElem?_append_left (by simpa using this)]
      simpa using hj
    · simp only; omega
    · intro j hj; omega)
  refine ⟨_, _, .slice (some ⟨w.heap.size, 0, none⟩) s.size (grownCap w s.size 0 e), ?_, ?_, r1, drew_start r2⟩
  · have hf : ((w.drew.alloc (.cells C e)).freeze ⟨w.heap.size, C.size, none⟩ 1) = w.drew.alloc (.cells C e (C.size, C.size + 1)) := by
      rw [freeze_eq _ w.heap.size C.size 1 C e (0, 0) (alloc_self w.drew _) (by omega)]
      exact alloc_setBlk w.drew _ _
    have hsh : (w.drew.alloc (.cells C e)).shape? w.heap.size = some (e, C.size) := by
      have := alloc_self w.drew (.cells C e)
      unfold World.shape?
      rw [show w.drew.heap.size = w.heap.size from rfl] at this
      rw [this]
    have hrow : (newRow e C).run P w.drew = .ok ⟨w.heap.size, 0, none⟩ (w.drew.alloc (.cells C e)) := rfl
    have hmark : (markStringish ⟨w.heap.size, 0, none⟩).run P (w.drew.alloc (.cells C e)) = .ok () (w.drew.alloc (.cells C e (C.size, C.size + 1))) := by
      simp only [markStringish, Sem.run_bind, run_shape, Result.andThen_ok, hsh, run_freeze, hf]
    simp only [Conv.stringToBytes, Sem.run_bind, run_choose_drew, Question.forced, Bool.false_eq_true, if_false, Result.andThen_ok]
    show ((newRow e C).run P w.drew).andThen _ = _
    rw [hrow]
    simp only [Result.andThen_ok, hmark, Sem.run_pure]
    rfl
  · simp only [conc, upd_self, Nat.zero_div, Nat.zero_add]
    rw [if_pos hge]
    simp

end Go.AM
