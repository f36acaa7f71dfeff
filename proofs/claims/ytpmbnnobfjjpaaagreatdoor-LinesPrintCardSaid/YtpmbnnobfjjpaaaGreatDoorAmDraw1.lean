/- The abstract machine: drawn regions: what an operation hangs on; the frame rule. -/
import Derived.Test.YtpmbnnobfjjpaaaGreatDoorAmCalls
namespace Go.AM
set_option linter.unusedVariables false
set_option linter.unusedSimpArgs false

/-! ### an operation hangs on its own temporaries -/
theorem mem_operTmps : ∀ {l : List Operand} {t : Tmp}, .tmp t ∈ l → t ∈ operTmps l
  | x :: r, t, h => by
    rcases List.mem_cons.1 h with e | h
    · subst e; simp [operTmps]
    · have := mem_operTmps h
      cases x <;> simp [operTmps, this]

/-- two frames tell the same of these operands -/
def Agree (l : List Operand) (f g : AFr) : Prop := ∀ x ∈ l, f.eval x = g.eval x

theorem agree_of {l : List Operand} {f g : AFr} (h : ∀ t ∈ operTmps l, f.get t = g.get t) : Agree l f g := by
  intro x hx
  cases x with
  | tmp t => exact h t (mem_operTmps hx)
  | const v => rfl
  | global v => rfl
  | func v => rfl

theorem evalList_agree {f g : AFr} : ∀ {l : List Operand}, Agree l f g → evalList f l = evalList g l
  | [], _ => rfl
  | x :: r, h => by simp only [evalList]; rw [h x (by simp), evalList_agree fun y hy => h y (by simp [hy])]
theorem evalParts_agree {f g : AFr} : ∀ {l : List (Nat × Operand)}, Agree (l.map (·.2)) f g → evalParts f l = evalParts g l
  | [], _ => rfl
  | (i, x) :: r, h => by simp only [evalParts]; rw [h x (by simp), evalParts_agree fun y hy => h y (by simp at hy ⊢; exact .inr hy)]
theorem opt_agree {f g : AFr} {x : Option Operand} (h : Agree x.toList f g) : x.map f.eval = x.map g.eval := by
  cases x with
  | none => rfl
  | some x => simp [h x (by simp)]

theorem aop_congr {E : Env} {f g : AFr} {S : AState} {o : Oper} (h : Agree o.op.operands.toList f g) : aop E f S o = aop E g S o := by
  unfold aop
  cases ho : o.op <;> rw [ho] at h <;> simp only [Op.operands] at h ⊢
  case move x => rw [h x (by simp)]
  case assign x => rw [h x (by simp)]
  case pick c a b => rw [h c (by simp), h a (by simp), h b (by simp)]
  case box t x => rw [h x (by simp)]
  case build t ps => rw [evalParts_agree (by simpa using h)]
  case buildSlice t n ps => rw [evalParts_agree (by simpa using h)]
  case load t a => rw [h a (by simp)]
  case store t a v => rw [h a (by simp), h v (by simp)]
  case nilCheck x => rw [h x (by simp)]
  case binOp op t x y p => rw [h x (by simp), h y (by simp)]
  case unOp op t x => rw [h x (by simp)]
  case convert s d x => rw [h x (by simp)]
  case makeInterface t x => rw [h x (by simp)]
  case makeFunc fn a b => rw [evalList_agree (fun x hx => h x (by simp at hx ⊢; exact .inl hx)), evalList_agree (fun x hx => h x (by simp at hx ⊢; exact .inr hx))]
  case makeSlice t l c => rw [h l (by simp), h c (by simp)]
  case slice t x lo hi mx =>
    rw [h x (by simp), opt_agree (x := lo) (fun y hy => h y (by simp at hy ⊢; simp [hy])), opt_agree (x := hi) (fun y hy => h y (by simp at hy ⊢; simp [hy])), opt_agree (x := mx) (fun y hy => h y (by simp at hy ⊢; simp [hy]))]
  case fieldAddr t x f => rw [h x (by simp)]
  case field t x f => rw [h x (by simp)]
  case indexAddr t x i => rw [h x (by simp), h i (by simp)]
  case index t x i => rw [h x (by simp), h i (by simp)]
  case lookup t m k ok => rw [h m (by simp), h k (by simp)]
  case mapUpdate t m k v => rw [h m (by simp), h k (by simp), h v (by simp)]
  case insert t m k v => rw [h m (by simp), h k (by simp), h v (by simp)]
  case typeAssert x t a ok => rw [h x (by simp)]
  case extract x i => rw [h x (by simp)]
  case call c =>
    unfold Call.operands at h
    cases hc : c.callee with
    | value fo => rw [hc] at h; simp only at h ⊢; rw [h fo (by simp), evalList_agree (fun x hx => h x (by simp at hx ⊢; simp [hx]))]
    | builtin b => rw [hc] at h; simp only at h ⊢; rw [evalList_agree (fun x hx => h x (by simp at hx ⊢; simp [hx]))]
    | invoke r n => rfl
  case «defer» c =>
    unfold Call.operands at h
    cases hc : c.callee with
    | value fo => rw [hc] at h; simp only at h ⊢; rw [h fo (by simp), evalList_agree (fun x hx => h x (by simp at hx ⊢; simp [hx]))]
    | builtin b => rfl
    | invoke r n => rfl

theorem aWanted_congr {all : List Oper} {f g : AFr} {o : Oper} (h : ∀ t ∈ guardTmps all o, f.get t = g.get t) : aWanted all f o = aWanted all g o := by
  unfold guardTmps at h
  unfold aWanted
  cases hg : o.guard with
  | none => rfl
  | some p =>
    obtain ⟨j, want⟩ := p
    rw [hg] at h
    simp only at h ⊢
    cases hj : all[j]? with
    | none => rfl
    | some x =>
      rw [hj] at h
      simp only at h ⊢
      cases hd : x.dst with
      | none => rfl
      | some d =>
        rw [hd] at h
        simp only at h ⊢
        rw [h d (by simp)]

/-! ### readers -/
theorem val_same {S S' : AState} {x : Option AV} {nx : ANext} (h : val S x = some (nx, S')) : S' = S ∧ ∃ v, x = some v ∧ nx = .val v := by
  unfold val at h
  split at h
  · cases h; exact ⟨rfl, _, rfl, rfl⟩
  · cases h

theorem val_ex {S : AState} {v : AV} {x : Option AV} (h : x = some v) : val S x = some (.val v, S) := by rw [h]; rfl

/-- the builtins that only look -/
theorem look_builtin {E : Env} {S S' : AState} {b : Builtin} {ats : Array TypeId} {ty : TypeId} {args : List AV} {nx : ANext} (hb : b = .len ∨ b = .cap ∨ b = .min ∨ b = .max ∨ b = .unsafeSliceData)
    (h : aBuiltin E S b ats ty args = some (nx, S')) : S' = S := by
  unfold aBuiltin at h
  split at h
  · simp at hb
  · simp at hb
  · repeat' split at h
    all_goals first | (cases h; rfl) | cases h
  · repeat' split at h
    all_goals first | (cases h; rfl) | cases h
  · rw [obind_some] at h; obtain ⟨_, _, h⟩ := h; cases h; rfl
  · repeat' split at h
    all_goals first | (cases h; rfl) | cases h
  · rw [obind_some] at h; obtain ⟨_, _, h⟩ := h; cases h; rfl
  · repeat' split at h
    all_goals first | (cases h; rfl) | cases h
  · cases h; rfl
  · simp at hb
  · simp at hb
  · rw [obind_some] at h; obtain ⟨_, _, h⟩ := h
    rw [obind_some] at h; obtain ⟨_, _, h⟩ := h; cases h; rfl
  · rw [obind_some] at h; obtain ⟨_, _, h⟩ := h
    rw [obind_some] at h; obtain ⟨_, _, h⟩ := h; cases h; rfl
  · cases h

theorem reader_builtin {c : Call} {b : Builtin} (hc : c.callee = .builtin b) (h : isReader (.call c) = true) : b = .len ∨ b = .cap ∨ b = .min ∨ b = .max ∨ b = .unsafeSliceData := by
  simp only [isReader, hc] at h
  cases b <;> simp_all

set_option maxHeartbeats 1000000 in
/-- a reader leaves the heap alone -/
theorem reader_same {E : Env} {f : AFr} {S S' : AState} {o : Oper} {nx : ANext} (hr : isReader o.op = true) (h : aop E f S o = some (nx, S')) : S' = S := by
  unfold aop at h
  cases ho : o.op <;> rw [ho] at h hr <;> (try (cases hr; done)) <;> simp only at h
  case move x => cases h; rfl
  case assign x => cases h; rfl
  case pick c a b => split at h <;> cases h; rfl
  case build t ps => exact (val_same h).1
  case load t a => exact (val_same h).1
  case nilCheck x => split at h <;> cases h; rfl
  case binOp op t x y p => exact (val_same h).1
  case unOp op t x => split at h <;> first | exact (val_same h).1 | cases h
  case makeInterface t x => split at h <;> cases h; rfl
  case makeFunc fn a b => cases h; rfl
  case slice t x lo hi mx => exact (val_same h).1
  case fieldAddr t x f => exact (val_same h).1
  case field t x f => exact (val_same h).1
  case indexAddr t x i => exact (val_same h).1
  case index t x i => exact (val_same h).1
  case lookup t m k ok => exact (val_same h).1
  case typeAssert x t a ok => exact (val_same h).1
  case extract x i => split at h <;> first | exact (val_same h).1 | cases h
  case call c =>
    cases hc : c.callee with
    | builtin b => rw [hc] at h; exact look_builtin (reader_builtin hc hr) h
    | value fo => simp only [isReader, hc] at hr; cases hr
    | invoke r n => simp only [isReader, hc] at hr; cases hr

/-- the builtins that do not look at the heap -/
theorem free_builtin {E : Env} {S S' : AState} {b : Builtin} {ats : Array TypeId} {ty : TypeId} {args : List AV} {v : AV} (hb : b = .cap ∨ b = .min ∨ b = .max ∨ b = .unsafeSliceData)
    (h : aBuiltin E S b ats ty args = some (.val v, S')) (T : AState) : aBuiltin E T b ats ty args = some (.val v, T) := by
  unfold aBuiltin at h ⊢
  split at h
  · simp at hb
  · simp at hb
  · simp at hb
  · simp at hb
  · simp at hb
  · split at h
    · rename_i t ht
      split at h
      · rename_i e hu; cases h; rfl
      · cases h
    · cases h
  · rw [obind_some] at h; obtain ⟨y, hy, h⟩ := h; cases h; simp [hy, obind, ret]
  · split at h
    · cases h
    · rename_i h0; cases h; simp [h0, ret]
  · cases h; rfl
  · simp at hb
  · simp at hb
  · rw [obind_some] at h; obtain ⟨y, hy, h⟩ := h
    rw [obind_some] at h; obtain ⟨z, hz, h⟩ := h; cases h; simp [hy, hz, obind, ret]
  · rw [obind_some] at h; obtain ⟨y, hy, h⟩ := h
    rw [obind_some] at h; obtain ⟨z, hz, h⟩ := h; cases h; simp [hy, hz, obind, ret]
  · cases h

set_option maxHeartbeats 1000000 in
/-- a reader that does not look at the heap tells the same at every heap -/
theorem reader_free {E : Env} {f : AFr} {S S' : AState} {o : Oper} {v : AV} (hr : isReader o.op = true) (hl : isLook o.op = false) (h : aop E f S o = some (.val v, S')) (T : AState) : aop E f T o = some (.val v, T) := by
  unfold aop at h ⊢
  cases ho : o.op <;> rw [ho] at h hr hl <;> (try (cases hr; done)) <;> (try (cases hl; done)) <;> simp only at h ⊢
  case move x => cases h; rfl
  case assign x => cases h; rfl
  case pick c a b =>
    split at h
    · rename_i t ht; cases h; simp [ret]
    · cases h
  case build t ps => obtain ⟨_, u, hu, e⟩ := val_same h; cases e; exact val_ex hu
  case nilCheck x =>
    split at h
    · rename_i t ht; cases h; simp [ret]
    · cases h
  case binOp op t x y p => obtain ⟨_, u, hu, e⟩ := val_same h; cases e; exact val_ex hu
  case unOp op t x =>
    split at h
    · rename_i y hy; obtain ⟨_, u, hu, e⟩ := val_same h; cases e; exact val_ex hu
    · cases h
  case makeInterface t x =>
    split at h
    · cases h
    · cases h; simp [ret]
    · cases h
  case makeFunc fn a b => cases h; rfl
  case fieldAddr t x f => obtain ⟨_, u, hu, e⟩ := val_same h; cases e; exact val_ex hu
  case field t x f => obtain ⟨_, u, hu, e⟩ := val_same h; cases e; exact val_ex hu
  case indexAddr t x i => obtain ⟨_, u, hu, e⟩ := val_same h; cases e; exact val_ex hu
  case index t x i => obtain ⟨_, u, hu, e⟩ := val_same h; cases e; exact val_ex hu
  case typeAssert x t a ok => obtain ⟨_, u, hu, e⟩ := val_same h; cases e; exact val_ex hu
  case extract x i =>
    split at h
    · obtain ⟨_, u, hu, e⟩ := val_same h; cases e; exact val_ex hu
    · obtain ⟨_, u, hu, e⟩ := val_same h; cases e; exact val_ex hu
    · cases h
  case call c =>
    cases hc : c.callee with
    | builtin b =>
      rw [hc] at h
      refine free_builtin ?_ h T
      rcases reader_builtin hc hr with rfl | hb
      · simp only [isLook, hc] at hl; cases hl
      · exact hb
    | value fo => simp only [isReader, hc] at hr; cases hr
    | invoke r n => simp only [isReader, hc] at hr; cases hr

/-! ### the same value -/
theorem sameB_eq : ∀ {a b : Value}, Value.sameB a b = true → a = b
  | a, b, h => by
    unfold Value.sameB at h
    split at h <;> (try (cases h; done))
    · simp at h; rw [h]
    · simp at h; rw [h.1, h.2]
    · rename_i x y
      simp only [beq_iff_eq] at h
      cases x; cases y
      simp only at h
      rw [Array.ext' h]
    · simp at h; rw [h]
    · rfl
    · rfl
    · rfl
    · rfl
    · rename_i f a b g c d
      simp only [Bool.and_eq_true, beq_iff_eq, Array.isEmpty_iff] at h
      obtain ⟨⟨⟨⟨rfl, rfl⟩, rfl⟩, rfl⟩, rfl⟩ := h
      rfl

theorem same1_eq : ∀ {a b : AV}, AV.same1 a b = true → a = b
  | a, b, h => by
    unfold AV.same1 at h
    split at h
    · rw [sameB_eq h]
    · simp only [Bool.and_eq_true, beq_iff_eq] at h; rw [h.1, h.2]
    · simp only [Bool.and_eq_true, beq_iff_eq] at h; rw [h.1.1.1, h.1.1.2, h.1.2, h.2]
    · simp only [beq_iff_eq] at h; rw [h]
    · simp only [Bool.and_eq_true, beq_iff_eq] at h; rw [h.1, sameB_eq h.2]
    · simp only [Bool.and_eq_true, beq_iff_eq] at h; rw [h.1.1, h.1.2, h.2]
    · simp only [beq_iff_eq] at h; rw [h]
    · simp only [Bool.and_eq_true, beq_iff_eq] at h; rw [h.1.1, h.1.2, h.2]
    · simp only [Bool.and_eq_true, beq_iff_eq] at h; rw [h.1.1, h.1.2, h.2]
    · cases h
theorem same1L_eq : ∀ {a b : List AV}, same1L a b = true → a = b
  | [], [], _ => rfl
  | x :: a, y :: b, h => by
    simp only [same1L, Bool.and_eq_true] at h
    rw [same1_eq h.1, same1L_eq h.2]
theorem same_eq : ∀ {a b : AV}, AV.same a b = true → a = b
  | a, b, h => by
    unfold AV.same at h
    split at h
    · rw [same1L_eq h]
    · rw [same1L_eq h]
    · exact same1_eq h

/-! ### calls that leave a value -/
theorem aoperV_congr {E : Env} {R : Recs} {o : Oper} {f g : AFr} {S : AState} (h : Agree o.op.operands.toList f g) : aoperV E R o f S = aoperV E R o g S := by
  unfold aoperV; rw [aop_congr h]
theorem aoper_of_V {E : Env} {R : Recs} {o : Oper} {f : AFr} {S S' : AState} {v : AV} (h : aoperV E R o f S = some (v, S')) : aoper E R o f S = some (f.put o.dst v, S') := by
  unfold aoperV at h
  unfold aoper
  split at h
  · rename_i v' S1 hop; cases h; simp only [hop]
  · rename_i f' args S1 hop; simp only [hop, h]
  · rename_i id args S1 hop; simp only [hop, h]
  · cases h
theorem aoperV_of_val {E : Env} {R : Recs} {o : Oper} {f : AFr} {S S' : AState} {v : AV} (h : aop E f S o = some (.val v, S')) : aoperV E R o f S = some (v, S') := by
  unfold aoperV; rw [h]

/-! ### the frame rule -/
theorem Rel.sub {σ : Sig} {A B : AState} {w : World} (h : Rel σ A w) (hs : ∀ id o, B.get id = some o → A.get id = some o) (hn : B.next = A.next) : Rel σ B w :=
  ⟨fun id hid => h.dom id (by omega), h.blk, fun id o ho => h.obj id o (hs id o ho), fun id id' o o' l l' ho ho' => h.sep id id' o o' l l' (hs _ _ ho) (hs _ _ ho')⟩

theorem Rel.congr {σ : Sig} {A B : AState} {w : World} (h : Rel σ A w) (hs : ∀ id, B.get id = A.get id) (hn : B.next = A.next) : Rel σ B w := h.sub (fun id o ho => by rw [← hs]; exact ho) hn

theorem Ext.congr {σ σ' : Sig} {S A B : AState} {w w' : World} (h : Ext σ S w σ' A w') (hs : ∀ id, B.get id = A.get id) (hn : B.next = A.next) : Ext σ S w σ' B w' :=
  ⟨by rw [hn]; exact h.next, h.same, h.size, fun b hb hf => ⟨(h.keep b hb hf).1, fun ⟨id, o, l, h1, h2, h3⟩ => (h.keep b hb hf).2 ⟨id, o, l, by rw [← hs]; exact h1, h2, h3⟩⟩, h.os, h.tape, h.output⟩

theorem frame_rule {σ σ' : Sig} {A A₁ B B' : AState} {w w' : World} (h : Rel σ A w) (hs : ∀ id o, A₁.get id = some o → A.get id = some o) (hn : A₁.next = A.next) (hB : Rel σ' B w') (hx : Ext σ A₁ w σ' B w')
    (hnext : B'.next = B.next) (hex : ∀ id o, A.get id = some o → A₁.get id = none → B'.get id = some o) (hrest : ∀ id, (∀ o, A.get id = some o → A₁.get id ≠ none) → B'.get id = B.get id) :
    Rel σ' B' w' ∧ Ext σ A w σ' B' w' := by
  have h1 : Rel σ A₁ w := h.sub hs hn
  have hle := hx.le h1.dom
  -- what stands aside
  have aside : ∀ id o, A.get id = some o → A₁.get id = none → ∃ l, σ id = some l ∧ σ' id = some l ∧ ObjRel σ' w' l o ∧ ¬ Foot σ' B l.block := by
    intro id o ho hnone
    obtain ⟨l, hl, hr⟩ := h.obj id o ho
    have hnf : ¬ Foot σ A₁ l.block := by
      rintro ⟨j, x, m, hj, hm, e⟩
      have hne : j ≠ id := by rintro rfl; rw [hnone] at hj; cases hj
      exact h.sep j id x o m l (hs _ _ hj) ho hm hl hne e
    obtain ⟨k1, k2⟩ := hx.keep l.block (h.blk id l hl) hnf
    exact ⟨l, hl, hle _ _ hl, hr.of_block hle k1, k2⟩
  have split : ∀ id o, B'.get id = some o → (A.get id = some o ∧ A₁.get id = none) ∨ B.get id = some o := by
    intro id o ho
    by_cases c : ∃ x, A.get id = some x ∧ A₁.get id = none
    · obtain ⟨x, c1, c2⟩ := c
      rw [hex id x c1 c2] at ho; cases ho
      exact .inl ⟨c1, c2⟩
    · right
      rw [← hrest id fun x hx hn => c ⟨x, hx, hn⟩]; exact ho
  refine ⟨⟨fun id hid => hB.dom id (by omega), hB.blk, ?_, ?_⟩, ⟨by rw [hnext, ← hn]; exact hx.next, fun id hid => hx.same id (by omega), hx.size, ?_, hx.os, hx.tape, hx.output⟩⟩
  · intro id o ho
    rcases split id o ho with ⟨c1, c2⟩ | c
    · obtain ⟨l, _, e2, e3, _⟩ := aside id o c1 c2; exact ⟨l, e2, e3⟩
    · exact hB.obj id o c
  · intro id id' o o' l l' ho ho' hl hl' hne
    rcases split id o ho with ⟨c1, c2⟩ | c <;> rcases split id' o' ho' with ⟨d1, d2⟩ | d
    · obtain ⟨m, e1, e2, _⟩ := aside id o c1 c2
      obtain ⟨m', e1', e2', _⟩ := aside id' o' d1 d2
      rw [hl] at e2; cases e2
      rw [hl'] at e2'; cases e2'
      exact h.sep id id' o o' l l' c1 d1 e1 e1' hne
    · obtain ⟨m, e1, e2, _, e4⟩ := aside id o c1 c2
      rw [hl] at e2; cases e2
      exact fun e => e4 ⟨id', o', l', d, hl', e.symm⟩
    · obtain ⟨m, e1, e2, _, e4⟩ := aside id' o' d1 d2
      rw [hl'] at e2; cases e2
      exact fun e => e4 ⟨id, o, l, c, hl, e⟩
    · exact hB.sep id id' o o' l l' c d hl hl' hne
  · intro b hb hf
    have hnf : ¬ Foot σ A₁ b := fun ⟨j, x, m, hj, hm, e⟩ => hf ⟨j, x, m, hs _ _ hj, hm, e⟩
    obtain ⟨k1, k2⟩ := hx.keep b hb hnf
    refine ⟨k1, ?_⟩
    rintro ⟨j, x, m, hj, hm, e⟩
    rcases split j x hj with ⟨c1, c2⟩ | c
    · obtain ⟨m', e1, e2, _⟩ := aside j x c1 c2
      rw [hm] at e2; cases e2
      exact hf ⟨j, x, m, c1, e1, e⟩
    · exact k2 ⟨j, x, m, c, hm, e⟩

end Go.AM
