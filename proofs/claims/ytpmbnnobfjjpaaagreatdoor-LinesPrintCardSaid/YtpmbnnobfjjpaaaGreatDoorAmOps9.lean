/- The abstract machine: maps. -/
import Derived.Test.YtpmbnnobfjjpaaaGreatDoorAmOps8
namespace Go.AM
set_option linter.unusedVariables false
set_option linter.unusedSimpArgs false

theorem mk_beq (x y : Array UInt8) : (ByteArray.mk x == ByteArray.mk y) = (x == y) := rfl
theorem bytes_beq {a b : ByteArray} (h : (a == b) = true) : a = b := by
  cases a; cases b
  rw [mk_beq] at h
  rw [eq_of_beq h]
theorem bytes_refl (a : ByteArray) : (a == a) = true := by
  cases a
  rw [mk_beq]
  simp

theorem keyEq_true : ∀ {k k' : Value}, keyEq k k' = some true → k = k'
  | k, k', h => by
    unfold keyEq at h
    split at h
    · split at h
      · rename_i hk; simp only [Option.some.injEq, beq_iff_eq] at h; rw [hk, h]
      · cases h
    · simp only [Option.some.injEq] at h; rw [bytes_beq h]
    · simp only [Option.some.injEq, beq_iff_eq] at h; rw [h]
    · rename_i a b
      split at h
      · rename_i k x l y k' x' l' y' ha hb
        split at h
        · rename_i hk
          simp only [Option.some.injEq, Bool.and_eq_true, beq_iff_eq] at h
          have : a.toList = b.toList := by rw [ha, hb, hk.1, hk.2, h.1, h.2]
          rw [Array.ext' this]
        · cases h
      · cases h
    · cases h

theorem keyEq_refl {k k' : Value} (h : ∃ b, keyEq k k' = some b) : keyEq k k = some true := by
  obtain ⟨b, h⟩ := h
  unfold keyEq at h
  split at h
  · simp [keyEq]
  · simp [keyEq, bytes_refl]
  · simp [keyEq]
  · rename_i a b'
    split at h
    · rename_i ha hb; simp [keyEq, ha]
    · cases h
  · cases h

/-! ### the abstract side -/
theorem findE_some {k : Value} : ∀ {es : List (AV × AV)} {v : AV}, findE k es = some (some v) →
    (∃ a c' b, es = a ++ (c', v) :: b ∧ c'.flat = some k ∧ ∀ c x, setE k c x es = a ++ (c, x) :: b) ∧ ∀ p ∈ es, ∃ k' b, p.1.flat = some k' ∧ keyEq k k' = some b
  | [], v, h => by simp [findE] at h
  | (c', u) :: r, v, h => by
    simp only [findE] at h
    split at h
    · rename_i k' hf
      split at h
      · rename_i x h1 h2
        cases h
        have hr : ∀ p ∈ r, ∃ k' b, p.1.flat = some k' ∧ keyEq k k' = some b := by
          cases x with
          | some y => exact (findE_some h2).2
          | none => exact findE_none_known h2
        refine ⟨⟨[], c', r, rfl, by rw [hf, keyEq_true h1], fun c x => by simp [setE, hf, h1]⟩, ?_⟩
        intro p hp
        rcases List.mem_cons.1 hp with rfl | hp
        · exact ⟨k', true, hf, h1⟩
        · exact hr p hp
      · rename_i x h1 h2
        cases h
        obtain ⟨⟨a, c2, b, e1, e2, e3⟩, hr⟩ := findE_some h2
        refine ⟨⟨(c', u) :: a, c2, b, by rw [e1]; rfl, e2, fun c x => by simp [setE, hf, h1, e3]⟩, ?_⟩
        intro p hp
        rcases List.mem_cons.1 hp with rfl | hp
        · exact ⟨k', false, hf, h1⟩
        · exact hr p hp
      · cases h
    · cases h
where
  findE_none_known {k : Value} : ∀ {es : List (AV × AV)}, findE k es = some none → ∀ p ∈ es, ∃ k' b, p.1.flat = some k' ∧ keyEq k k' = some b
    | [], _, p, hp => by cases hp
    | (c', u) :: r, h, p, hp => by
      simp only [findE] at h
      split at h
      · rename_i k' hf
        split at h
        · cases h
        · rename_i x h1 h2
          cases h
          rcases List.mem_cons.1 hp with rfl | hp
          · exact ⟨k', false, hf, h1⟩
          · exact findE_none_known h2 p hp
        · cases h
      · cases h

theorem findE_none {k : Value} : ∀ {es : List (AV × AV)}, findE k es = some none →
    (∀ p ∈ es, ∃ k', p.1.flat = some k' ∧ keyEq k k' = some false) ∧ ∀ c x, setE k c x es = es ++ [(c, x)]
  | [], _ => ⟨fun p hp => by (cases hp), fun c x => rfl⟩
  | (c', u) :: r, h => by
    simp only [findE] at h
    split at h
    · rename_i k' hf
      split at h
      · cases h
      · rename_i x h1 h2
        cases h
        obtain ⟨hr, hs⟩ := findE_none h2
        refine ⟨?_, fun c x => by simp [setE, hf, h1, hs]⟩
        intro p hp
        rcases List.mem_cons.1 hp with rfl | hp
        · exact ⟨k', hf, h1⟩
        · exact hr p hp
      · cases h
    · cases h

/-! ### the model's side -/
def scan (k : Value) : List MapEntry → Nat → Option (Nat × Value)
  | [], _ => none
  | e :: es, i => if keyEq k e.key == some true then some (i, e.val) else scan k es (i + 1)

theorem scan_none {k : Value} : ∀ {es : List MapEntry} (i : Nat), (∀ e ∈ es, keyEq k e.key = some false) → scan k es i = none
  | [], _, _ => rfl
  | e :: es, i, h => by
    simp only [scan, h e (by simp)]
    exact scan_none (i + 1) fun x hx => h x (by simp [hx])

theorem scan_some {k : Value} : ∀ {es : List MapEntry} (i : Nat), (∃ e ∈ es, keyEq k e.key = some true) → ∃ a e b, es = a ++ e :: b ∧ scan k es i = some (i + a.length, e.val) ∧ e.key = k
  | [], _, h => by obtain ⟨e, he, _⟩ := h; cases he
  | e :: es, i, h => by
    by_cases h1 : keyEq k e.key = some true
    · exact ⟨[], e, es, rfl, by simp [scan, h1], (keyEq_true h1).symm⟩
    · obtain ⟨x, hx, hk⟩ := h
      have hx' : x ∈ es := by
        rcases List.mem_cons.1 hx with rfl | h'
        · exact absurd hk h1
        · exact h'
      obtain ⟨a, y, b, e1, e2, e3⟩ := scan_some (i + 1) ⟨x, hx', hk⟩
      refine ⟨e :: a, y, b, by rw [e1]; rfl, ?_, e3⟩
      simp only [scan, beq_iff_eq, h1, if_false, e2, List.length_cons]
      congr 2; omega

theorem two_ints {a : Array Value} {x y : Value} (h : a.toList = [x, y]) : a = #[x, y] := Array.ext' h

theorem part_cell {P : Program} {w : World} {e : TypeId} {ik : IntKind} {cs : Array Value} {j : Nat} {v : Value} (he : P.underlying e = some (.int ik)) (h : cs[j]? = some v) : (part e cs j).run P w = .ok v w := by
  simp [part, isAgg, underlying_run he, h]

theorem equal_int {P : Program} {w : World} {e : TypeId} {ik k k' : IntKind} {d : Nat} {a b : Int} (he : P.underlying e = some (.int ik)) (hk : k = k') : (Op.equalIn (d + 1) e (.int k a) (.int k' b)).run P w = .ok (a == b) w := by
  subst hk
  simp [Op.equalIn, underlying_run he]

theorem equal_pair {P : Program} {w : World} {t e : TypeId} {ik : IntKind} {d : Nat} {k l k' l' : IntKind} {x y x' y' : Int} (ht : P.underlying t = some (.array 2 e)) (he : P.underlying e = some (.int ik)) (hs : sizeT P e = some 1)
    (h1 : k = k') (h2 : l = l') : (Op.equalIn (d + 2) t (.agg #[.int k x, .int l y]) (.agg #[.int k' x', .int l' y'])).run P w = .ok (x == x' && y == y') w := by
  have p0 : ∀ a b, (part e #[a, b] 0).run P w = .ok a w := fun a b => part_cell he rfl
  have p1 : ∀ a b, (part e #[a, b] 1).run P w = .ok b w := fun a b => part_cell he rfl
  have q0 := equal_int (P := P) (w := w) (d := d) (a := x) (b := x') he h1
  have q1 := equal_int (P := P) (w := w) (d := d) (a := y) (b := y') he h2
  rw [Op.equalIn]
  simp only [Sem.run_bind, underlying_run ht, Result.andThen_ok, sizeOf_run hs]
  cases hx : (x == x') <;> cases hy : (y == y') <;>
    simp [Std.Legacy.Range.forIn_eq_forIn_range', Std.Legacy.Range.size, List.range', p0, p1, q0, q1, hx, hy]

theorem check_pair {P : Program} {w : World} {t e : TypeId} {ik : IntKind} {d : Nat} {k l : IntKind} {x y : Int} {em : Bool} (ht : P.underlying t = some (.array 2 e)) (he : P.underlying e = some (.int ik)) (hs : sizeT P e = some 1) :
    (Instr.checkKey em (d + 2) t (.agg #[.int k x, .int l y])).run P w = .ok () w := by
  have p0 : ∀ a b, (part e #[a, b] 0).run P w = .ok a w := fun a b => part_cell he rfl
  have p1 : ∀ a b, (part e #[a, b] 1).run P w = .ok b w := fun a b => part_cell he rfl
  have c : ∀ k x, (Instr.checkKey em (d + 1) e (.int k x)).run P w = .ok () w := fun k x => by simp [Instr.checkKey, underlying_run he]
  rw [Instr.checkKey]
  simp only [Sem.run_bind, underlying_run ht, Result.andThen_ok]
  simp [Std.Legacy.Range.forIn_eq_forIn_range', Std.Legacy.Range.size, List.range', p0, p1, c, sizeOf_run hs]

/-- what a fitting key is -/
theorem keyOk_cases {P : Program} {t : TypeId} {k : Value} (h : keyOk P t k = true) :
    (∃ ik kk a, P.underlying t = some (.int ik) ∧ k = .int kk a) ∨ (∃ a, P.underlying t = some .string ∧ k = .string a) ∨ (∃ a, P.underlying t = some .bool ∧ k = .bool a) ∨
      ∃ e ik x y, P.underlying t = some (.array 2 e) ∧ P.underlying e = some (.int ik) ∧ sizeT P e = some 1 ∧ k = .agg #[.int ik x, .int ik y] := by
  unfold keyOk at h
  split at h
  · rename_i hu; exact .inl ⟨_, _, _, hu, rfl⟩
  · rename_i hu; exact .inr (.inl ⟨_, hu, rfl⟩)
  · rename_i hu; exact .inr (.inr (.inl ⟨_, hu, rfl⟩))
  · rename_i e a hu
    split at h
    · rename_i ik k1 x l1 y he hs ha
      simp only [Bool.and_eq_true, beq_iff_eq] at h
      refine .inr (.inr (.inr ⟨e, ik, x, y, hu, he, hs, ?_⟩))
      rw [two_ints ha, h.1, h.2]
    · cases h
  · cases h

theorem check_one {P : Program} {w : World} {t : TypeId} {td : TypeDesc} {k : Value} {em : Bool} {d : Nat} (hu : P.underlying t = some td) (h1 : ∀ m, td ≠ .interface m) (h2 : ∀ n e, td ≠ .array n e) (h3 : ∀ f, td ≠ .struct f) :
    (Instr.checkKey em (d + 1) t k).run P w = .ok () w := by
  rw [Instr.checkKey]
  simp only [Sem.run_bind, underlying_run hu, Result.andThen_ok]
  cases td <;> simp_all

theorem check_ok {P : Program} {w : World} {t : TypeId} {k : Value} {em : Bool} (h : keyOk P t k = true) : (Instr.checkKey em 10000 t k).run P w = .ok () w := by
  rcases keyOk_cases h with ⟨ik, kk, a, hu, rfl⟩ | ⟨a, hu, rfl⟩ | ⟨a, hu, rfl⟩ | ⟨e, ik, x, y, hu, he, hs, rfl⟩
  · exact check_one (d := 9999) hu (by simp) (by simp) (by simp)
  · exact check_one (d := 9999) hu (by simp) (by simp) (by simp)
  · exact check_one (d := 9999) hu (by simp) (by simp) (by simp)
  · exact check_pair (d := 9998) hu he hs

theorem findNow_ok {kind : TypeDesc} {k : Value} (hs : ∀ k', Instr.sameNow kind k k' = keyEq k k') : ∀ (es : List MapEntry) (i : Nat), (∀ e ∈ es, ∃ b, keyEq k e.key = some b) → Instr.findNow kind k es i = some (scan k es i)
  | [], i, _ => rfl
  | e :: es, i, h => by
    obtain ⟨b, hb⟩ := h e (by simp)
    have ih := findNow_ok hs es (i + 1) fun x hx => h x (by simp [hx])
    simp only [Instr.findNow, hs, hb, scan]
    cases b <;> simp [ih]

theorem findAsking_ok {P : Program} {w : World} {t : TypeId} {k : Value} (hs : ∀ k' b, keyEq k k' = some b → (Op.equal t k k').run P w = .ok b w) : ∀ (es : List MapEntry) (i : Nat), (∀ e ∈ es, ∃ b, keyEq k e.key = some b) →
    (Instr.findAsking t k es i).run P w = .ok (scan k es i) w
  | [], i, _ => rfl
  | e :: es, i, h => by
    obtain ⟨b, hb⟩ := h e (by simp)
    have ih := findAsking_ok hs es (i + 1) fun x hx => h x (by simp [hx])
    simp only [Instr.findAsking, Sem.run_bind, hs _ b hb, scan, hb, Result.andThen_ok]
    cases b <;> simp [ih]

theorem findKey_ok {P : Program} {w : World} {t : TypeId} {k : Value} (hk : keyOk P t k = true) (es : List MapEntry) (h : ∀ e ∈ es, ∃ b, keyEq k e.key = some b) :
    (Instr.findKey t k es).run P w = .ok (scan k es 0) w := by
  rcases keyOk_cases hk with ⟨ik, kk, a, hu, rfl⟩ | ⟨a, hu, rfl⟩ | ⟨a, hu, rfl⟩ | ⟨e, ik, x, y, hu, he, hs, rfl⟩
  · have := findNow_ok (kind := .int ik) (k := .int kk a) (fun k' => by cases k' <;> simp [Instr.sameNow, keyEq]) es 0 h
    simp [Instr.findKey, underlying_run hu, this]
  · have := findNow_ok (kind := .string) (k := .string a) (fun k' => by cases k' <;> simp [Instr.sameNow, keyEq]) es 0 h
    simp [Instr.findKey, underlying_run hu, this]
  · have := findNow_ok (kind := .bool) (k := .bool a) (fun k' => by cases k' <;> simp [Instr.sameNow, keyEq]) es 0 h
    simp [Instr.findKey, underlying_run hu, this]
  · have hask := findAsking_ok (P := P) (w := w) (t := t) (k := .agg #[.int ik x, .int ik y]) (fun k' b hb => by
      unfold keyEq at hb
      split at hb <;> try (first | cases hb; done | (rename_i e1; cases e1))
      rename_i a1 b1
      split at hb
      · rename_i p1 p2 p3 p4 q1 q2 q3 q4 ha hb'
        simp only [List.cons.injEq, Value.int.injEq, and_true] at ha
        obtain ⟨⟨rfl, rfl⟩, rfl, rfl⟩ := ha
        split at hb
        · rename_i hkk
          cases hb
          rw [two_ints hb']
          exact equal_pair (d := 9998) hu he hs hkk.1 hkk.2
        · cases hb
      · cases hb) es 0 h
    cases es with
    | nil => simp [Instr.findKey, underlying_run hu, Instr.findNow, scan]
    | cons m r => simp [Instr.findKey, underlying_run hu, Instr.findNow, Instr.sameNow, hask]

end Go.AM
