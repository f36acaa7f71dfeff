/- The abstract machine: what its values and heaps mean in a world; laws of the trie. -/
import Derived.Test.YtpmbnnobfjjpaaaGreatDoorAmDef
import Derived.Laws.Sem
import Derived.Laws.World
import Derived.Laws.Cells
import Derived.Laws.Append
import Derived.Below
namespace Go.AM
set_option linter.unusedVariables false
set_option linter.unusedSimpArgs false
open Go.RowKit (Below)

/-! ### the trie -/
theorem two_pow_succ (d : Nat) : 2 ^ (d + 1) = 2 * 2 ^ d := by rw [Nat.pow_succ, Nat.mul_comm]

theorem T.get_put {α : Type} : ∀ (d : Nat) (t : T α) (n m : Nat) (x : T α), n < 2 ^ d → m < 2 ^ d →
    T.get d (T.put d t n x) m = if m = n then T.get 0 x 0 else T.get d t m
  | 0, t, n, m, x, hn, hm => by
    have h1 : n = 0 := by simp at hn; omega
    have h2 : m = 0 := by simp at hm; omega
    subst h1; subst h2
    rw [if_pos rfl]; rfl
  | d + 1, t, n, m, x, hn, hm => by
    rw [two_pow_succ] at hn hm
    have ih := fun t' => T.get_put d t' (n / 2) (m / 2) x (by omega) (by omega)
    rcases Nat.mod_two_eq_zero_or_one n with h0 | h0 <;> rcases Nat.mod_two_eq_zero_or_one m with h1 | h1
    · rw [T.put_0 d t n x h0, T.get_node0 d _ _ m h1, ih, T.get_0 d t m h1]
      by_cases e : m = n
      · rw [if_pos e, if_pos (by omega)]
      · rw [if_neg e, if_neg (by omega)]
    · rw [T.put_0 d t n x h0, T.get_node1 d _ _ m h1, T.get_1 d t m h1, if_neg (by omega)]
    · rw [T.put_1 d t n x h0, T.get_node0 d _ _ m h1, T.get_0 d t m h1, if_neg (by omega)]
    · rw [T.put_1 d t n x h0, T.get_node1 d _ _ m h1, ih, T.get_1 d t m h1]
      by_cases e : m = n
      · rw [if_pos e, if_pos (by omega)]
      · rw [if_neg e, if_neg (by omega)]

theorem AState.get_put (S : AState) (id j : Nat) (o : AObj) (h : id < 65536) : (S.put id o).get j = if j = id then some o else S.get j := by
  unfold AState.get AState.put
  by_cases hj : j < 65536
  · simp only [hj, if_true]
    rw [T.get_put HD S.heap id j (.leaf o) (by simpa [HD] using h) (by simpa [HD] using hj)]
    simp [T.get_leaf, T.get_none]
  · have : j ≠ id := by omega
    simp [hj, this]

theorem AState.get_kill (S : AState) (id j : Nat) (h : id < 65536) : (S.kill id).get j = if j = id then none else S.get j := by
  unfold AState.get AState.kill
  by_cases hj : j < 65536
  · simp only [hj, if_true]
    rw [T.get_put HD S.heap id j .nil (by simpa [HD] using h) (by simpa [HD] using hj)]
    simp [T.get_leaf, T.get_none]
  · have : j ≠ id := by omega
    simp [hj, this]

theorem AState.get_lt {S : AState} {id : Nat} {o : AObj} (h : S.get id = some o) : id < 65536 := by
  unfold AState.get at h
  split at h
  · assumption
  · cases h

@[simp] theorem AState.next_put (S : AState) (id : Nat) (o : AObj) : (S.put id o).next = S.next := rfl
@[simp] theorem AState.next_kill (S : AState) (id : Nat) : (S.kill id).next = S.next := rfl

theorem AState.new_some {S S' : AState} {o : AObj} {id : Nat} (h : S.new o = some (id, S')) :
    id = S.next ∧ S.next < 65536 ∧ S'.next = S.next + 1 ∧ ∀ j, S'.get j = if j = S.next then some o else S.get j := by
  unfold AState.new at h
  split at h
  · rename_i hlt
    simp only [Option.some.injEq, Prod.mk.injEq] at h
    obtain ⟨rfl, rfl⟩ := h
    exact ⟨rfl, hlt, rfl, fun j => by have := AState.get_put S S.next j o hlt; simpa [AState.put, AState.get] using this⟩
  · cases h

theorem AFr.get_put (f : AFr) (d t : Nat) (v : AV) (hs : f.size ≤ 512) : (f.put (some d) v).get t = if t = d ∧ d < f.size then v else f.get t := by
  unfold AFr.put AFr.get
  by_cases hd : d < f.size
  · by_cases ht : t < f.size
    · simp only [hd, if_true, ht, and_true]
      rw [T.get_put FD f.tmps d t (.leaf v) (by simp [FD]; omega) (by simp [FD]; omega)]
      by_cases h : t = d <;> simp [h, T.get_leaf]
    · have : t ≠ d := by omega
      simp [hd, ht, this]
  · simp [hd]

@[simp] theorem AFr.size_put (f : AFr) (d : Option Tmp) (v : AV) : (f.put d v).size = f.size := by
  unfold AFr.put; cases d <;> simp; split <;> rfl
@[simp] theorem AFr.defers_put (f : AFr) (d : Option Tmp) (v : AV) : (f.put d v).defers = f.defers := by
  unfold AFr.put; cases d <;> simp; split <;> rfl

/-! ### what a value means -/
/-- where a thing lies: its block, the first cell's place, how many elements may stand there, an element's cells -/
structure Loc where
  block : Nat
  off : Nat
  ecap : Nat
  esz : Nat

abbrev Sig := Nat → Option Loc

mutual
def conc (σ : Sig) : AV → Option Value
  | .lit v => some v
  | .ptr id off => match σ id with | some l => some (.pointer (some ⟨l.block, l.off + off, none⟩)) | none => none
  | .slice id off len cap =>
    match σ id with
    | some l =>
      match cap with
      | some c => if len ≤ c then some (.slice (some ⟨l.block, l.off + off, none⟩) len c) else none
      | none => if off / l.esz + len ≤ l.ecap then some (.slice (some ⟨l.block, l.off + off, none⟩) len (l.ecap - off / l.esz)) else none
    | none => none
  | .map id => match σ id with | some l => some (.map (some l.block)) | none => none
  | .func fn first captured => match concL σ first, concL σ captured with | some a, some b => some (.func fn a.toArray b.toArray) | _, _ => none
  | .yield id => match σ id with | some l => some (.func (.yield l.block) #[] #[]) | none => none
  | .iface t v => match conc σ v with | some u => some (.iface t u) | none => none
  | .agg cs => match concL σ cs with | some l => some (.agg l.toArray) | none => none
  | .tuple vs => match concL σ vs with | some l => some (.tuple l.toArray) | none => none
def concL (σ : Sig) : List AV → Option (List Value)
  | [] => some []
  | v :: r => match conc σ v, concL σ r with | some u, some l => some (u :: l) | _, _ => none
end

/-- where all that is known stays known -/
def Sig.le (σ σ' : Sig) : Prop := ∀ id l, σ id = some l → σ' id = some l
theorem Sig.le_refl (σ : Sig) : σ.le σ := fun _ _ h => h
theorem Sig.le_trans {a b c : Sig} (h : a.le b) (k : b.le c) : a.le c := fun id l hl => k id l (h id l hl)

mutual
theorem conc_mono {σ σ' : Sig} (h : σ.le σ') : ∀ (v : AV) (u : Value), conc σ v = some u → conc σ' v = some u
  | .lit v, u, hu => by simpa [conc] using hu
  | .ptr id off, u, hu => by
    simp only [conc] at hu ⊢
    split at hu
    · rename_i l hl; rw [h id l hl]; exact hu
    · cases hu
  | .slice id off len cap, u, hu => by
    simp only [conc] at hu ⊢
    split at hu
    · rename_i l hl; rw [h id l hl]; exact hu
    · cases hu
  | .map id, u, hu => by
    simp only [conc] at hu ⊢
    split at hu
    · rename_i l hl; rw [h id l hl]; exact hu
    · cases hu
  | .func fn first captured, u, hu => by
    simp only [conc] at hu ⊢
    split at hu
    · rename_i a b ha hb; rw [concL_mono h first a ha, concL_mono h captured b hb]; exact hu
    · cases hu
  | .yield id, u, hu => by
    simp only [conc] at hu ⊢
    split at hu
    · rename_i l hl; rw [h id l hl]; exact hu
    · cases hu
  | .iface t v, u, hu => by
    simp only [conc] at hu ⊢
    split at hu
    · rename_i a ha; rw [conc_mono h v a ha]; exact hu
    · cases hu
  | .agg cs, u, hu => by
    simp only [conc] at hu ⊢
    split at hu
    · rename_i a ha; rw [concL_mono h cs a ha]; exact hu
    · cases hu
  | .tuple vs, u, hu => by
    simp only [conc] at hu ⊢
    split at hu
    · rename_i a ha; rw [concL_mono h vs a ha]; exact hu
    · cases hu
theorem concL_mono {σ σ' : Sig} (h : σ.le σ') : ∀ (vs : List AV) (us : List Value), concL σ vs = some us → concL σ' vs = some us
  | [], us, hu => by simpa [concL] using hu
  | v :: r, us, hu => by
    simp only [concL] at hu ⊢
    split at hu
    · rename_i a b ha hb; rw [conc_mono h v a ha, concL_mono h r b hb]; exact hu
    · cases hu
end

theorem concL_cons {σ : Sig} {v : AV} {r : List AV} {us : List Value} (h : concL σ (v :: r) = some us) : ∃ u l, us = u :: l ∧ conc σ v = some u ∧ concL σ r = some l := by
  simp only [concL] at h
  split at h
  · rename_i a b ha hb; cases h; exact ⟨a, b, rfl, ha, hb⟩
  · cases h

theorem concL_length {σ : Sig} : ∀ {vs : List AV} {us : List Value}, concL σ vs = some us → us.length = vs.length
  | [], us, h => by simp [concL] at h; subst h; rfl
  | v :: r, us, h => by obtain ⟨u, l, rfl, _, hl⟩ := concL_cons h; simp [concL_length hl]

theorem concL_get {σ : Sig} : ∀ {vs : List AV} {us : List Value}, concL σ vs = some us → ∀ (j : Nat) (v : AV), vs[j]? = some v → ∃ u, us[j]? = some u ∧ conc σ v = some u
  | [], us, _, j, v, hj => by simp at hj
  | v :: r, us, h, j, w, hj => by
    obtain ⟨u, l, rfl, hu, hl⟩ := concL_cons h
    cases j with
    | zero => simp at hj; subst hj; exact ⟨u, by simp, hu⟩
    | succ j => simp at hj; obtain ⟨x, hx, hc⟩ := concL_get hl j w hj; exact ⟨x, by simpa using hx, hc⟩

theorem concL_append {σ : Sig} : ∀ {a b : List AV} {x y : List Value}, concL σ a = some x → concL σ b = some y → concL σ (a ++ b) = some (x ++ y)
  | [], b, x, y, hx, hy => by simp [concL] at hx; subst hx; simpa using hy
  | v :: r, b, x, y, hx, hy => by
    obtain ⟨u, l, rfl, hu, hl⟩ := concL_cons hx
    simp [concL, hu, concL_append hl hy]

theorem concL_of_get {σ : Sig} : ∀ {vs : List AV}, (∀ (j : Nat) (v : AV), vs[j]? = some v → ∃ u, conc σ v = some u) → ∃ us, concL σ vs = some us
  | [], _ => ⟨[], rfl⟩
  | v :: r, h => by
    obtain ⟨u, hu⟩ := h 0 v rfl
    obtain ⟨l, hl⟩ := concL_of_get (vs := r) (fun j w hj => h (j + 1) w (by simpa using hj))
    exact ⟨u :: l, by simp [concL, hu, hl]⟩

theorem concL_take {σ : Sig} : ∀ {vs : List AV} {us : List Value} (n : Nat), concL σ vs = some us → concL σ (vs.take n) = some (us.take n)
  | [], us, n, h => by simp [concL] at h; subst h; simp [concL]
  | v :: r, us, n, h => by
    obtain ⟨u, l, rfl, hu, hl⟩ := concL_cons h
    cases n with
    | zero => simp [concL]
    | succ n => simp [concL, hu, concL_take n hl]
theorem concL_drop {σ : Sig} : ∀ {vs : List AV} {us : List Value} (n : Nat), concL σ vs = some us → concL σ (vs.drop n) = some (us.drop n)
  | [], us, n, h => by simp [concL] at h; subst h; simp [concL]
  | v :: r, us, n, h => by
    obtain ⟨u, l, rfl, hu, hl⟩ := concL_cons h
    cases n with
    | zero => simp [concL, hu, hl]
    | succ n => simpa using concL_drop n hl
theorem concL_lits {σ : Sig} : ∀ (vs : List Value), concL σ (vs.map .lit) = some vs
  | [] => rfl
  | v :: r => by simp [concL, conc, concL_lits r]
theorem concL_flat {σ : Sig} : ∀ {cs : List AV} {l : List Value}, flatList cs = some l → concL σ cs = some l
  | [], l, h => by simp [flatList] at h; subst h; rfl
  | .lit v :: r, l, h => by
    simp only [flatList] at h
    split at h
    · rename_i x hx; cases h; simp [concL, conc, concL_flat hx]
    · cases h
  | .ptr .. :: _, _, h | .slice .. :: _, _, h | .map .. :: _, _, h | .func .. :: _, _, h | .yield .. :: _, _, h | .iface .. :: _, _, h | .agg .. :: _, _, h | .tuple .. :: _, _, h => by simp [flatList] at h
theorem conc_flat {σ : Sig} {v : AV} {u : Value} (h : v.flat = some u) : conc σ v = some u := by
  cases v <;> simp only [AV.flat] at h
  case lit x => simpa [conc] using h
  case agg cs =>
    split at h
    · rename_i l hl; cases h; simp [conc, concL_flat hl]
    · cases h
  all_goals cases h

/-- the cells of what a value means -/
theorem conc_cells {σ : Sig} {v : AV} {u : Value} (h : conc σ v = some u) : concL σ v.cells = some u.cells.toList := by
  cases v with
  | agg cs =>
    simp only [conc] at h
    split at h
    · rename_i l hl; cases h; simpa [AV.cells, Value.cells] using hl
    · cases h
  | lit x =>
    simp only [conc, Option.some.injEq] at h
    subst h
    cases x <;> simp [AV.cells, Value.cells, concL, conc, concL_lits]
  | ptr id off =>
    have h' := h
    simp only [conc] at h
    split at h
    · cases h; simp [AV.cells, Value.cells, concL, h']
    · cases h
  | slice id off len cap =>
    have h' := h
    simp only [conc] at h
    repeat' split at h
    all_goals first | (cases h; simp [AV.cells, Value.cells, concL, h']; done) | cases h
  | map id =>
    have h' := h
    simp only [conc] at h
    split at h
    · cases h; simp [AV.cells, Value.cells, concL, h']
    · cases h
  | func fn a b =>
    have h' := h
    simp only [conc] at h
    split at h
    · cases h; simp [AV.cells, Value.cells, concL, h']
    · cases h
  | yield id =>
    have h' := h
    simp only [conc] at h
    split at h
    · cases h; simp [AV.cells, Value.cells, concL, h']
    · cases h
  | iface t v =>
    have h' := h
    simp only [conc] at h
    split at h
    · cases h; simp [AV.cells, Value.cells, concL, h']
    · cases h
  | tuple vs =>
    have h' := h
    simp only [conc] at h
    split at h
    · cases h; simp [AV.cells, Value.cells, concL, h']
    · cases h

theorem conc_one {σ : Sig} {v : AV} {u : Value} (h : conc σ v = some u) (h1 : v.one = true) : u.oneCell' = true := by
  cases v <;> simp only [conc] at h
  case lit x => obtain rfl := Option.some.inj h; cases x <;> simp_all [AV.one, Value.oneCell']
  case agg => simp [AV.one] at h1
  case tuple => simp [AV.one] at h1
  all_goals
    (repeat' split at h) <;> first | (cases h; rfl) | cases h

theorem allOne_get : ∀ {cs : List AV}, allOne cs = true → ∀ (j : Nat) (v : AV), cs[j]? = some v → v.one = true
  | [], _, j, v, hj => by simp at hj
  | c :: r, h, j, v, hj => by
    simp only [allOne, Bool.and_eq_true] at h
    cases j with
    | zero => simp at hj; subst hj; exact h.1
    | succ j => simp at hj; exact allOne_get h.2 j v hj

theorem concL_ones {σ : Sig} {vs : List AV} {us : List Value} (h : concL σ vs = some us) (h1 : allOne vs = true) : ∀ u ∈ us, u.oneCell' = true := by
  intro u hu
  obtain ⟨j, hj, rfl⟩ := List.mem_iff_getElem.1 hu
  have hl := concL_length h
  obtain ⟨x, hx, hc⟩ := concL_get h j vs[j] (by simp [show j < vs.length by omega])
  have : us[j] = x := by simpa [hj] using hx
  rw [this]
  exact conc_one hc (allOne_get h1 j vs[j] (by simp [show j < vs.length by omega]))

/-! ### what a heap means -/
/-- a map's entries, in whatever order -/
def MapRel (σ : Sig) (es : List (AV × AV)) (E : Array MapEntry) : Prop :=
  ∃ ks vs, concL σ (es.map (·.1)) = some ks ∧ concL σ (es.map (·.2)) = some vs ∧ (E.toList.map fun e => (e.key, e.val)).Perm (ks.zip vs) ∧ ks.Nodup

def ObjRel (σ : Sig) (w : World) (l : Loc) : AObj → Prop
  | .row cells esz elem exact => ∃ C fz, w.heap[l.block]? = some (.cells C elem fz) ∧ allOne cells = true ∧
      (∃ us, concL σ cells = some us ∧ ∀ j u, us[j]? = some u → C[l.off + j]? = some u) ∧
      l.esz = esz ∧ l.off + l.ecap * l.esz ≤ C.size ∧ (exact = true → l.off = 0 ∧ C.size = cells.length) ∧ (∀ j, j < C.size → ¬ (fz.1 ≤ j ∧ j < fz.2))
  | .map es => ∃ E clock, w.heap[l.block]? = some (.map E clock) ∧ MapRel σ es E
  | .deferred => w.heap[l.block]? = some (.deferred (some []))
  | .fixed b o => l.block = b ∧ w.heap[b]? = some o
  | .loop state pending tmps size params assign body dblk => ∃ ld fn tm, σ dblk = some ld ∧
      w.heap[l.block]? = some (.loop { state, pending, fn, tmps := tm, params := params.toArray, assign, body, defers := ld.block }) ∧
      tm.size = size ∧ size ≤ 512 ∧ ∀ t, t < size → ∃ u, conc σ (match T.get FD tmps t with | some v => v | none => undefA) = some u ∧ tm[t]? = some u

structure Rel (σ : Sig) (S : AState) (w : World) : Prop where
  dom : ∀ id, S.next ≤ id → σ id = none
  blk : ∀ id l, σ id = some l → l.block < w.heap.size
  obj : ∀ id o, S.get id = some o → ∃ l, σ id = some l ∧ ObjRel σ w l o
  sep : ∀ id id' o o' l l', S.get id = some o → S.get id' = some o' → σ id = some l → σ id' = some l' → id ≠ id' → l.block ≠ l'.block

/-- the blocks that the heap's things lie in -/
def Foot (σ : Sig) (S : AState) (b : Nat) : Prop := ∃ id o l, S.get id = some o ∧ σ id = some l ∧ l.block = b

/-- from one state and world to a later one -/
structure Ext (σ : Sig) (S : AState) (w : World) (σ' : Sig) (S' : AState) (w' : World) : Prop where
  next : S.next ≤ S'.next
  same : ∀ id, id < S.next → σ' id = σ id
  size : w.heap.size ≤ w'.heap.size
  keep : ∀ b, b < w.heap.size → ¬ Foot σ S b → w'.heap[b]? = w.heap[b]? ∧ ¬ Foot σ' S' b
  os : w'.os = w.os
  tape : w'.tape = w.tape
  output : w'.output = w.output

theorem Ext.le {σ σ' : Sig} {S S' : AState} {w w' : World} (h : Ext σ S w σ' S' w') (hd : ∀ id, S.next ≤ id → σ id = none) : σ.le σ' := by
  intro id l hl
  by_cases hlt : id < S.next
  · rw [h.same id hlt]; exact hl
  · rw [hd id (by omega)] at hl; cases hl

theorem Ext.refl (σ : Sig) (S : AState) (w : World) : Ext σ S w σ S w := ⟨Nat.le_refl _, fun _ _ => rfl, Nat.le_refl _, fun _ _ h => ⟨rfl, h⟩, rfl, rfl, rfl⟩
theorem Ext.trans {σ σ' σ'' : Sig} {S S' S'' : AState} {w w' w'' : World} (h : Ext σ S w σ' S' w') (k : Ext σ' S' w' σ'' S'' w'') : Ext σ S w σ'' S'' w'' :=
  ⟨Nat.le_trans h.next k.next, fun id hid => by rw [k.same id (by have := h.next; omega), h.same id hid], Nat.le_trans h.size k.size,
   fun b hb hf => by
     obtain ⟨h1, h2⟩ := h.keep b hb hf
     obtain ⟨k1, k2⟩ := k.keep b (by have := h.size; omega) h2
     exact ⟨k1.trans h1, k2⟩, k.os.trans h.os, k.tape.trans h.tape, k.output.trans h.output⟩

/-- a draw changes nothing -/
theorem ObjRel.drew {σ : Sig} {w : World} {l : Loc} {o : AObj} (h : ObjRel σ w l o) : ObjRel σ w.drew l o := by
  cases o <;> exact h
theorem Rel.drew {σ : Sig} {S : AState} {w : World} (h : Rel σ S w) : Rel σ S w.drew :=
  ⟨h.dom, h.blk, fun id o ho => let ⟨l, hl, hr⟩ := h.obj id o ho; ⟨l, hl, hr.drew⟩, h.sep⟩
theorem Ext.drew (σ : Sig) (S : AState) (w : World) : Ext σ S w σ S w.drew := ⟨Nat.le_refl _, fun _ _ => rfl, Nat.le_refl _, fun _ _ h => ⟨rfl, h⟩, rfl, rfl, rfl⟩

/-- what an object means hangs on its own block alone -/
theorem ObjRel.of_block {σ σ' : Sig} {w w' : World} {l : Loc} {o : AObj} (h : ObjRel σ w l o) (hle : σ.le σ') (hb : w'.heap[l.block]? = w.heap[l.block]?) : ObjRel σ' w' l o := by
  cases o with
  | row cells esz elem exact =>
    obtain ⟨C, fz, h1, h2, ⟨us, h3, h4⟩, h5⟩ := h
    exact ⟨C, fz, hb.trans h1, h2, ⟨us, concL_mono hle _ _ h3, h4⟩, h5⟩
  | map es =>
    obtain ⟨E, clock, h1, ks, vs, h2, h3, h4⟩ := h
    exact ⟨E, clock, hb.trans h1, ks, vs, concL_mono hle _ _ h2, concL_mono hle _ _ h3, h4⟩
  | deferred => exact hb.trans h
  | fixed b o => exact ⟨h.1, by rw [← h.1, hb, h.1]; exact h.2⟩
  | loop state pending tmps size params assign body dblk =>
    obtain ⟨ld, fn, tm, h1, h2, h3, h4, h5⟩ := h
    refine ⟨ld, fn, tm, hle _ _ h1, hb.trans h2, h3, h4, fun t ht => ?_⟩
    obtain ⟨u, hu, hg⟩ := h5 t ht
    exact ⟨u, conc_mono hle _ _ hu, hg⟩

end Go.AM
