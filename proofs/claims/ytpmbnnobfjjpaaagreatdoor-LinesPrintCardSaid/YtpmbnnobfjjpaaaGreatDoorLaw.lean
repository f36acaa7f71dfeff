/- A part of the proof that selvagelaw22.LinesScript answers true at every text. -/
import Derived.Test.YtpmbnnobfjjpaaaGreatDoorSg
import Derived.Test.YtpmbnnobfjjpaaaGreatDoorWe
namespace Go.Proofs
set_option linter.unusedVariables false
set_option linter.unusedSimpArgs false
open Go.RowKit Go.Lns

def TrueDrew (w : World) (e : Ending) (w' : World) : Prop := e = .returned (.bool true) ∧ ∃ n, w' = w.drewN n

theorem same_any {w : World} {v1 v2 : Value} {xs : List Int} {base n : Nat} (hn : xs.length ≤ 1000) (h1 : HoldsI w v1 xs) (hl : n = xs.length) (h2 : w.ownsRow base 3 1 v2 n (xs.map (Value.int .i64))) : Calls Tryz.prog 7 #[v1, v2] w (TrueDrew w) := by
  subst hl
  rcases h1 with ⟨rfl, rfl⟩ | ⟨g1, o1, c1, rfl, _, h0, hc1⟩
  · obtain ⟨_, ⟨rfl, _⟩ | ⟨g, cap, cur, rfl, _⟩⟩ := h2
    · exact (same_nil none none 0 0 w).mono fun e w' he => ⟨he.1, 0, he.2.symm⟩
    · exact (same_nil none (some ⟨g, 0, none⟩) 0 cap w).mono fun e w' he => ⟨he.1, 0, he.2.symm⟩
  · obtain ⟨_, ⟨rfl, hz⟩ | ⟨g, cap, cur, rfl, _, hb, _, _, _, ht⟩⟩ := h2
    · omega
    · refine (same_pos g1 g o1 0 xs.length c1 cap xs xs w hn rfl rfl hc1 (fun j hj => ?_)).mono fun e w' he => ⟨by rw [he.1, decide_eq_true rfl], he.2⟩
      have e1 : (cur.toList.take (xs.length * 1))[j]? = some (Value.int .i64 (xs.getD j 0)) := by
        rw [ht, List.getElem?_map, List.getElem?_eq_getElem hj]
        simp [List.getD, List.getElem?_eq_getElem hj]
      rw [Go.AM.cell_of_block hb, Nat.zero_add]
      rw [Nat.mul_one, List.getElem?_take] at e1
      rw [if_pos hj] at e1
      rw [← Array.getElem?_toList]; exact e1

theorem HoldsI.later {w w' : World} {v : Value} {xs : List Int} (h : HoldsI w v xs) (hb : Below w.heap.size w w') : HoldsI w' v xs := by
  rcases h with h | ⟨g, o, c, h1, h2, h3, h4⟩
  · exact .inl h
  · exact .inr ⟨g, o, c, h1, by have := hb.size; omega, h3, fun j hj => (hb.cell (p := ⟨g, o + j, none⟩) h2).trans (h4 j hj)⟩

theorem scanR_len : ∀ (l pre : List UInt8) (xs : List Int), scanR pre l = some xs → xs.length ≤ l.length + 1
  | [], pre, xs, h => by
    unfold scanR at h
    cases hw : wordL pre with
    | none => rw [hw] at h; cases h
    | some v => rw [hw] at h; cases h; simp
  | c :: r, pre, xs, h => by
    unfold scanR at h
    split at h
    · cases hw : wordL pre with
      | none => rw [hw] at h; cases h
      | some v =>
        rw [hw] at h
        cases hs : scanR [] r with
        | none => rw [hs] at h; cases h
        | some l =>
          rw [hs] at h; cases h
          have := scanR_len r [] l hs
          simp only [List.length_cons]; omega
    · have := scanR_len r _ xs h
      simp only [List.length_cons]; omega

theorem out_len (s : ByteArray) (hs : s.size ≤ 300) : (outOf (script s.data.toList)).length ≤ 1000 := by
  unfold script
  split
  · simp [outOf]
  · cases h : scanR [] s.data.toList with
    | none => simp [outOf]
    | some l =>
      have := scanR_len _ _ _ h
      have hl : s.data.toList.length = s.size := Array.length_toList
      show l.length ≤ 1000
      omega

/-- bytealg.MaxLen holds an int -/
def MaxIs (w : World) : Prop := ∃ C t fz m, w.heap[1]? = some (.cells C t fz) ∧ C[0]? = some (.int .i64 m)
theorem MaxIs.later {w w' : World} (h : MaxIs w) (hb : Below w.heap.size w w') : MaxIs w' := by
  obtain ⟨C, t, fz, m, h1, h2⟩ := h
  have hlt : 1 < w.heap.size := (Array.getElem?_eq_some_iff.1 h1).1
  exact ⟨C, t, fz, m, (hb.block 1 hlt).trans h1, h2⟩

def TrueBelow (w : World) (e : Ending) (w' : World) : Prop := e = .returned (.bool true) ∧ Below w.heap.size w w'
/-- lives() answers true -/
def LivesOk : Prop := ∀ w, MaxIs w → Calls Tryz.prog 8 #[] w (TrueBelow w)

theorem below_drewN (w : World) : ∀ n, Below w.heap.size w (w.drewN n)
  | 0 => Below.refl _ _
  | n + 1 => (below_drewN w n).drew

def FivePost (s : ByteArray) (w : World) (e : Ending) (w' : World) : Prop := ∃ v, e = .returned (.tuple #[v, .int .i64 (errOf (script s.data.toList))]) ∧ Hid (HoldsI w' v (outOf (script s.data.toList)) ∧ Below w.heap.size w w')

set_option maxHeartbeats 1000000 in
theorem law_body (lv : LivesOk) (s t : ByteArray) (W : World) (hm : Hid (MaxIs W)) (ht : t.size ≤ 300) (hc : s.size ≤ 300 ∧ s = t ∨ 300 < s.size ∧ s.extract 0 300 = t) :
    Calls Tryz.prog 3 #[.string s] W (TrueBelow W) := by
  obtain ⟨er, her⟩ : ∃ er, er = errOf (script t.data.toList) := ⟨_, rfl⟩
  obtain ⟨xs, hxs⟩ : ∃ xs, xs = outOf (script t.data.toList) := ⟨_, rfl⟩
  have hxl : xs.length ≤ 1000 := by rw [hxs]; exact out_len t ht
  have HX := Lib.hid hxl
  have c5 : ∀ w, Hid (MaxIs w) → Calls Tryz.prog 5 #[.string t] w fun e w' => ∃ v, e = .returned (.tuple #[v, .int .i64 er]) ∧ Hid (HoldsI w' v xs) ∧ Hid (Below w.heap.size w w') := fun w hw => by
    obtain ⟨C, ty, fz, m, h1, h2⟩ := hw.out
    exact (walk_script t w (by omega) h1 h2).mono fun e w' ⟨v, h3, h4, h5⟩ => ⟨v, by rw [h3, her], Lib.hid (by rw [hxs]; exact h4), Lib.hid h5⟩
  have c6 : ∀ w, Calls Tryz.prog 6 #[.string t] w fun e w' => ∃ v, e = .returned (.tuple #[v, .int .i64 er]) ∧ Hid (w'.ownsRow w.heap.size 3 1 v xs.length (xs.map (Value.int .i64))) ∧ Hid (Below w.heap.size w w') := fun w =>
    (walk_refscript t w ht).mono fun e w' ⟨v, h3, h4, h5⟩ => ⟨v, by rw [h3, her], Lib.hid (by rw [hxs]; exact h4), Lib.hid h5⟩
  clear her hxs hxl
  rcases hc with ⟨h1, rfl⟩ | ⟨h1, h2⟩
  · have hcond : ((s.size : Int) > 300) ↔ False := iff_false_intro (by omega)
    go_enter Tryz.func3, Tryz.ntmps3
    go_wp2_with (first | (go_at_call 5; refine (c5 _ hm).mono ?_; rintro e w1 ⟨v1, rfl, hh1, hb1⟩) | (go_at_call 6; refine (c6 _).mono ?_; rintro e w2 ⟨v2, rfl, hh2, hb2⟩) | (go_at_call 7; refine (same_any HX.out (hh1.out.later hb2.out) rfl hh2.out).mono ?_; rintro e w3 ⟨rfl, n3, rfl⟩) | (go_at_call 8; refine (lv _ (((hm.out.later hb1.out).later hb2.out).later (below_drewN _ n3))).mono ?_; rintro e w4 ⟨rfl, hb4⟩))
    go_ret
    refine ⟨rfl, ?_⟩
    have q1 := hb1.out
    have q2 := hb2.out
    exact ((q1.trans (q2.mono q1.size)).trans ((below_drewN _ n3).mono (by have := q1.size; have := q2.size; omega))).trans (hb4.mono (by have := q1.size; have := q2.size; have := (below_drewN w2 n3).size; omega))
  · have hsl : ∀ w, (Instr.slice 9 (.string s) none (some (.int .i64 300)) none).run Tryz.prog w = .ok (.string t) w := by
      intro w
      rw [run_slice_string_to_if w 9 s .i64 300 Tryz.underlying9, if_pos ⟨by omega, by omega⟩, ← h2]
      rfl
    have hcond : ((s.size : Int) > 300) := by omega
    clear h2
    go_enter Tryz.func3, Tryz.ntmps3
    go_wp2_with (first | (go_at_call 5; refine (c5 _ hm).mono ?_; rintro e w1 ⟨v1, rfl, hh1, hb1⟩) | (go_at_call 6; refine (c6 _).mono ?_; rintro e w2 ⟨v2, rfl, hh2, hb2⟩) | (go_at_call 7; refine (same_any HX.out (hh1.out.later hb2.out) rfl hh2.out).mono ?_; rintro e w3 ⟨rfl, n3, rfl⟩) | (go_at_call 8; refine (lv _ (((hm.out.later hb1.out).later hb2.out).later (below_drewN _ n3))).mono ?_; rintro e w4 ⟨rfl, hb4⟩))
    go_ret
    refine ⟨rfl, ?_⟩
    have q1 := hb1.out
    have q2 := hb2.out
    exact ((q1.trans (q2.mono q1.size)).trans ((below_drewN _ n3).mono (by have := q1.size; have := q2.size; omega))).trans (hb4.mono (by have := q1.size; have := q2.size; have := (below_drewN w2 n3).size; omega))

/-- LinesScript answers true, at every text, in whatever world holds an int in bytealg.MaxLen; what was there is as it was -/
theorem walk_law (lv : LivesOk) (s : ByteArray) (W : World) (hm : MaxIs W) : Calls Tryz.prog 3 #[.string s] W (TrueBelow W) := by
  by_cases h : s.size ≤ 300
  · exact law_body lv s s W (Lib.hid hm) h (.inl ⟨h, rfl⟩)
  · exact law_body lv s (s.extract 0 300) W (Lib.hid hm) (by rw [ByteArray.size_extract]; omega) (.inr ⟨by omega, rfl⟩)
end Go.Proofs
