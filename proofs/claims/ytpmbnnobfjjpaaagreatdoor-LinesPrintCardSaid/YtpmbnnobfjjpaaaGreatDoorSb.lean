/- A part of the proof that selvagelaw22.LinesScript answers true at every text. -/
import Derived.Test.YtpmbnnobfjjpaaaGreatDoorSa
import Derived.Test.YtpmbnnobfjjpaaaGreatDoorAmWalk2
namespace Go.Proofs
set_option linter.unusedVariables false
set_option linter.unusedSimpArgs false
open Go.AM
set_option linter.unusedSimpArgs false

theorem took_next (S : AState) (T4 : Nat) (v : AV) (xs : List Int) (x : Int) : (took S T4 v xs x).next = S.next + 2 := by
  unfold took; split <;> rfl

theorem took_t4 (S : AState) (T4 : Nat) (v : AV) (xs : List Int) (x : Int) (hv : OwnA S v xs) (h4 : T4 < 65536) : (took S T4 v xs x).get T4 = some (.row [.slice (S.next + 1) 0 (xs.length + 1) none] 1 22 true) := by
  rcases hv with ⟨rfl, rfl⟩ | ⟨r, rfl, _⟩
  · show (AState.put _ T4 _).get T4 = _
    rw [get_put _ _ _ _ h4, if_pos rfl]; rfl
  · show (AState.put _ T4 _).get T4 = _
    rw [get_put _ _ _ _ h4, if_pos rfl]

theorem took_own (S : AState) (T4 : Nat) (v : AV) (xs : List Int) (x : Int) (hv : OwnA S v xs) (h4 : T4 < S.next) (hn : S.next + 2 < 65536) : OwnA (took S T4 v xs x) (.slice (S.next + 1) 0 (xs.length + 1) none) (xs ++ [x]) := by
  have hx : (xs ++ [x]).length = xs.length + 1 := List.length_append
  refine .inr ⟨S.next + 1, by rw [hx], by rw [hx]; omega, ?_, by rw [took_next]; omega⟩
  rcases hv with ⟨rfl, rfl⟩ | ⟨r, rfl, _⟩
  · show (AState.put _ T4 _).get _ = _
    rw [get_put _ _ _ _ (by omega), if_neg (by omega), get_bump, get_put _ _ _ _ (by omega), if_pos rfl]; rfl
  · show (AState.put _ T4 _).get _ = _
    rw [get_put _ _ _ _ (by omega), if_neg (by omega), get_bump, get_put _ _ _ _ (by omega), if_pos rfl, List.map_append]; rfl

theorem took_old (S : AState) (T4 : Nat) (v : AV) (xs : List Int) (x : Int) (hv : OwnA S v xs) (h4 : T4 < S.next) (hn : S.next + 2 < 65536) (j : Nat) (hj : j < S.next) (hj4 : j ≠ T4) (hjr : ∀ r n, v = .slice r 0 n none → j ≠ r) : (took S T4 v xs x).get j = S.get j := by
  rcases hv with ⟨rfl, rfl⟩ | ⟨r, rfl, _, _, hr⟩
  · show (AState.put _ T4 _).get _ = _
    rw [get_put _ _ _ _ (by omega), if_neg hj4, get_bump, get_put _ _ _ _ (by omega), if_neg (by omega), get_bump, get_put _ _ _ _ (by omega), if_neg (by omega)]
  · have := hjr r _ rfl
    show (AState.put _ T4 _).get _ = _
    rw [get_put _ _ _ _ (by omega), if_neg hj4, get_bump, get_put _ _ _ _ (by omega), if_neg (by omega), get_kill _ _ _ (by omega), if_neg this, get_bump, get_put _ _ _ _ (by omega), if_neg (by omega)]

/-- the loop's record -/
noncomputable def recO (st : LoopState) (pd : Option Code) (tm : T AV) (D : Nat) : AObj := .loop st pd tm 31 [12] (rfA Tryz.f5.body) (rfB Tryz.f5.body) D

/-- where lines.Script stands between two words -/
structure In5 (S : AState) (mx : AObj) (tm : T AV) (L B D T2 T3 T4 : Nat) (v : AV) (xs : List Int) : Prop where
  hL : S.get L = some (recO .ready none tm D)
  h2 : ∃ v2, S.get T2 = some (.row [v2] 1 22 true)
  h3 : ∃ v3, S.get T3 = some (.row [v3] 1 23 true)
  h4 : S.get T4 = some (.row [v] 1 22 true)
  hD : S.get D = some .deferred
  h0 : S.get 0 = some mx
  own : OwnA S v xs
  far : ∀ r n, v = .slice r 0 n none → r ≠ 0 ∧ r ≠ L ∧ r ≠ B ∧ r ≠ D ∧ r ≠ T2 ∧ r ≠ T3 ∧ r ≠ T4

structure Ids (L B D T2 T3 T4 N : Nat) : Prop where
  l : T2 = N ∧ T3 = N + 1 ∧ T4 = N + 2 ∧ B = N + 3 ∧ D = N + 4 ∧ L = N + 5
  n : 0 < N

structure Tm5 (tm : T AV) (T2 T3 T4 : Nat) : Prop where
  t2 : tget tm 31 2 = .ptr T2 0
  t3 : tget tm 31 3 = .ptr T3 0
  t4 : tget tm 31 4 = .ptr T4 0

set_option maxRecDepth 20000 in
theorem assign5 (R : Recs) (rnd : Option Nat) (fuel : Nat) (tm : T AV) (w : AV) (S : AState) :
    acode eS R rnd fuel (rfA Tryz.f5.body) ⟨putParams [12] [w] 31 tm, 31, []⟩ S = some (.normal, ⟨tput (tput tm 12 w) 5 w, 31, []⟩, S) := by
  simp only [rfA, Tryz.f5, rfOf, orE_some, orE_none]
  simp (disch := omega) only [code_seq, code_region, code_cond, code_block, code_skip, code_ret, code_exit, codeK_eq, seqK_normal, seqK_ret, seqK_exit, blockK_normal, blockK_ret, blockK_exit, condK_true, condK_false, regK_eq, putK_eq, oper_eq, operK_val, operK_enter, operK_round, opsK_eq, ops_cons, ops_nil, wantK_true, wantK_false, wanted_0, wanted_g, guardK_some, isB_bool, ↓reduceIte, obind_val, aop_move, aop_assign, aop_store, aop_load, aop_alloc, aop_box, aop_makeFunc, aop_binOp, aop_callv, aop_callb, aop_pick, aop_extract, aop_buildSlice, aop_unOp, pickK_true, pickK_false, extK_lit, extK_tup, unK_not, val_some, unit_some, eval_tmp, eval_const, eval_func, get_mk, put_mk, put_none, tget_tput, get_put, get_bump, next_bump, next_put, next_kill, Nat.reduceEqDiff, ret_eq, evalList, evalParts, eS_P, List.getElem?_cons, Nat.reduceSub, Bool.false_eq_true, beq_self_eq_true, Bool.not_true, Bool.not_false, b_tf, b_ft, b_tt, b_ff, putParams_cons, putParams_nil]

/-- a round where the word is none -/
theorem round_bad (hook : Hook) (mx : AObj) (hk : HookS hook mx) (fuel n L B D T2 T3 T4 N : Nat) (hi : Ids L B D T2 T3 T4 N) (tm : T AV) (ht : Tm5 tm T2 T3 T4) (w : ByteArray) (S : AState) (v : AV) (xs : List Int) (hw : w.size ≤ 400) (hN : N + 6 ≤ S.next) (hS : S.next < 60000)
    (h : In5 S mx tm L B D T2 T3 T4 v xs) (hn : wordO w = none) :
    ∃ S', (arecs eS hook fuel (n + 2)).round L [.lit (.string w)] S = some (litB false, S') ∧ S'.get L = some (recO .done (some .ret) tm D) ∧ S'.get T2 = some (.row [.lit (.slice none 0 0)] 1 22 true) ∧ S'.get T3 = some (.row [.lit (.int .i64 40)] 1 23 true) ∧ S'.get D = some .deferred ∧ S'.get 0 = some mx ∧ S'.next = S.next := by
  obtain ⟨⟨e2, e3, e4, eB, eD, eL⟩, hN0⟩ := hi
  obtain ⟨v2, g2⟩ := h.h2
  obtain ⟨v3, g3⟩ := h.h3
  have hA := assign5 { arecs eS hook fuel (n + 1) with plain := false } (some L) fuel tm (.lit (.string w)) S
  have t2 : tget (tput (tput tm 12 (.lit (.string w))) 5 (.lit (.string w))) 31 2 = .ptr T2 0 := by rw [tget_tput _ _ _ _ _ (by omega) (by omega), if_neg (by omega), tget_tput _ _ _ _ _ (by omega) (by omega), if_neg (by omega)]; exact ht.t2
  have t3 : tget (tput (tput tm 12 (.lit (.string w))) 5 (.lit (.string w))) 31 3 = .ptr T3 0 := by rw [tget_tput _ _ _ _ _ (by omega) (by omega), if_neg (by omega), tget_tput _ _ _ _ _ (by omega) (by omega), if_neg (by omega)]; exact ht.t3
  have t4 : tget (tput (tput tm 12 (.lit (.string w))) 5 (.lit (.string w))) 31 4 = .ptr T4 0 := by rw [tget_tput _ _ _ _ _ (by omega) (by omega), if_neg (by omega), tget_tput _ _ _ _ _ (by omega) (by omega), if_neg (by omega)]; exact ht.t4
  have t5 : tget (tput (tput tm 12 (.lit (.string w))) 5 (.lit (.string w))) 31 5 = .lit (.string w) := by rw [tget_tput _ _ _ _ _ (by omega) (by omega), if_pos rfl]
  have g2' : (S.put L (recO .busy none tm D)).get T2 = some (.row [v2] 1 22 true) := by rw [get_put _ _ _ _ (by omega), if_neg (by omega)]; exact g2
  have g3' : (S.put L (recO .busy none tm D)).get T3 = some (.row [v3] 1 23 true) := by rw [get_put _ _ _ _ (by omega), if_neg (by omega)]; exact g3
  have hB : ∃ fr2, acode eS { arecs eS hook fuel (n + 1) with plain := false } (some L) fuel (rfB Tryz.f5.body) ⟨tput (tput tm 12 (.lit (.string w))) 5 (.lit (.string w)), 31, []⟩ (S.put L (recO .busy none tm D)) =
      some (.ret, fr2, ((S.put L (recO .busy none tm D)).put T2 (.row [.lit (.slice none 0 0)] 1 22 true)).put T3 (.row [.lit (.int .i64 40)] 1 23 true)) := by
    cases hr : ((readL w.data.toList).2 != 0)
    · refine body_bad2 hook mx hk fuel n L T2 T3 T4 _ w _ hw hr ?_ (by omega) (by omega) (by simp; omega) t2 t3 t4 t5 g2' g3'
      rcases read_none hn with h1 | h1
      · exact absurd (by simpa using hr) h1
      · have : ((⟨(Lib.trimPrefix w.data.toList [45]).toArray⟩ : ByteArray).size) = (Lib.trimPrefix w.data.toList [45]).length := by show (Lib.trimPrefix w.data.toList [45]).toArray.size = _; simp
        rw [this]; simp; omega
    · exact body_bad1 hook mx hk fuel n L T2 T3 T4 _ w _ hw hr (by omega) (by omega) (by simp; omega) t2 t3 t4 t5 g2' g3'
  obtain ⟨fr2, hB⟩ := hB
  have hL3 : (((S.put L (recO .busy none tm D)).put T2 (.row [.lit (.slice none 0 0)] 1 22 true)).put T3 (.row [.lit (.int .i64 40)] 1 23 true)).get L = some (recO .busy none tm D) := by
    rw [get_put _ _ _ _ (by omega), if_neg (by omega), get_put _ _ _ _ (by omega), if_neg (by omega), get_put _ _ _ _ (by omega), if_pos rfl]
  refine ⟨_, round_ret h.hL rfl hA hB hL3, ?_, ?_, ?_, ?_, ?_, rfl⟩
  · rw [get_put _ _ _ _ (by omega), if_pos rfl]; rfl
  · rw [get_put _ _ _ _ (by omega), if_neg (by omega), get_put _ _ _ _ (by omega), if_neg (by omega), get_put _ _ _ _ (by omega), if_pos rfl]
  · rw [get_put _ _ _ _ (by omega), if_neg (by omega), get_put _ _ _ _ (by omega), if_pos rfl]
  · rw [get_put _ _ _ _ (by omega), if_neg (by omega), get_put _ _ _ _ (by omega), if_neg (by omega), get_put _ _ _ _ (by omega), if_neg (by omega), get_put _ _ _ _ (by omega), if_neg (by omega)]; exact h.hD
  · rw [get_put _ _ _ _ (by omega), if_neg (by omega), get_put _ _ _ _ (by omega), if_neg (by omega), get_put _ _ _ _ (by omega), if_neg (by omega), get_put _ _ _ _ (by omega), if_neg (by omega)]; exact h.h0

/-- a round that takes its word -/
theorem round_good (hook : Hook) (mx : AObj) (hk : HookS hook mx) (fuel n L B D T2 T3 T4 N : Nat) (hi : Ids L B D T2 T3 T4 N) (tm : T AV) (ht : Tm5 tm T2 T3 T4) (w : ByteArray) (S : AState) (v : AV) (xs : List Int) (x : Int) (hw : w.size ≤ 400) (hN : N + 6 ≤ S.next) (hS : S.next < 60000) (hxl : xs.length ≤ 1000)
    (h : In5 S mx tm L B D T2 T3 T4 v xs) (hx : wordO w = some x) :
    ∃ S' v', (arecs eS hook fuel (n + 2)).round L [.lit (.string w)] S = some (litB true, S') ∧ In5 S' mx tm L B D T2 T3 T4 v' (xs ++ [x]) ∧ S'.get B = S.get B ∧ S'.next = S.next + 2 := by
  obtain ⟨⟨e2, e3, e4, eB, eD, eL⟩, hN0⟩ := hi
  obtain ⟨v2, g2⟩ := h.h2
  obtain ⟨v3, g3⟩ := h.h3
  have hA := assign5 { arecs eS hook fuel (n + 1) with plain := false } (some L) fuel tm (.lit (.string w)) S
  have t4 : tget (tput (tput tm 12 (.lit (.string w))) 5 (.lit (.string w))) 31 4 = .ptr T4 0 := by rw [tget_tput _ _ _ _ _ (by omega) (by omega), if_neg (by omega), tget_tput _ _ _ _ _ (by omega) (by omega), if_neg (by omega)]; exact ht.t4
  have t5 : tget (tput (tput tm 12 (.lit (.string w))) 5 (.lit (.string w))) 31 5 = .lit (.string w) := by rw [tget_tput _ _ _ _ _ (by omega) (by omega), if_pos rfl]
  have g4' : (S.put L (recO .busy none tm D)).get T4 = some (.row [v] 1 22 true) := by rw [get_put _ _ _ _ (by omega), if_neg (by omega)]; exact h.h4
  have own' : OwnA (S.put L (recO .busy none tm D)) v xs := by
    rcases h.own with h1 | ⟨r, h1, h2, h3, h4⟩
    · exact .inl h1
    · exact .inr ⟨r, h1, h2, by rw [get_put _ _ _ _ (by omega), if_neg (h.far r _ h1).2.1]; exact h3, h4⟩
  have hrd := read_some hx
  have hr1 : (readL w.data.toList).1 = x := by rw [hrd]
  obtain ⟨fr2, hB⟩ := body_good hook mx hk fuel n L T2 T3 T4 (tput (tput tm 12 (.lit (.string w))) 5 (.lit (.string w))) w (S.put L (recO .busy none tm D)) hw (by rw [hrd]; rfl)
    (by have := trim_some hx
        have h5 : ((⟨(Lib.trimPrefix w.data.toList [45]).toArray⟩ : ByteArray).size) = (Lib.trimPrefix w.data.toList [45]).length := by show (Lib.trimPrefix w.data.toList [45]).toArray.size = _; simp
        rw [h5]; simp; omega) (by rw [next_put]; omega) (by rw [next_put]; omega) t4 t5 hxl g4' own' (fun r hr => (h.far r _ hr).2.2.2.2.2.2)
  rw [hr1] at hB
  have hfar : ∀ j, (j = 0 ∨ j = L ∨ j = B ∨ j = D ∨ j = T2 ∨ j = T3) → (took (S.put L (recO .busy none tm D)) T4 v xs x).get j = (S.put L (recO .busy none tm D)).get j := by
    intro j hj
    refine took_old _ _ _ _ _ own' (by rw [next_put]; omega) (by rw [next_put]; omega) j (by rw [next_put]; omega) (by omega) ?_
    intro r k hr
    have := h.far r k hr
    omega
  have hL3 : (took (S.put L (recO .busy none tm D)) T4 v xs x).get L = some (recO .busy none tm D) := by
    rw [hfar L (by simp), get_put _ _ _ _ (by omega), if_pos rfl]
  refine ⟨_, .slice (S.next + 1) 0 (xs.length + 1) none, round_normal h.hL rfl hA hB hL3, ⟨?_, ⟨v2, ?_⟩, ⟨v3, ?_⟩, ?_, ?_, ?_, ?_, ?_⟩, ?_, ?_⟩
  · rw [get_put _ _ _ _ (by omega), if_pos rfl]; rfl
  · rw [get_put _ _ _ _ (by omega), if_neg (by omega), hfar T2 (by simp), get_put _ _ _ _ (by omega), if_neg (by omega)]; exact g2
  · rw [get_put _ _ _ _ (by omega), if_neg (by omega), hfar T3 (by simp), get_put _ _ _ _ (by omega), if_neg (by omega)]; exact g3
  · rw [get_put _ _ _ _ (by omega), if_neg (by omega), took_t4 _ _ _ _ _ own' (by omega)]; rfl
  · rw [get_put _ _ _ _ (by omega), if_neg (by omega), hfar D (by simp), get_put _ _ _ _ (by omega), if_neg (by omega)]; exact h.hD
  · rw [get_put _ _ _ _ (by omega), if_neg (by omega), hfar 0 (by simp), get_put _ _ _ _ (by omega), if_neg (by omega)]; exact h.h0
  · have := took_own (S.put L (recO .busy none tm D)) T4 v xs x own' (by rw [next_put]; omega) (by rw [next_put]; omega)
    rcases this with ⟨h1, _⟩ | ⟨r, h1, h2, h3, h4⟩
    · cases h1
    · have hr' : (S.put L (recO .busy none tm D)).next + 1 = r := by injection h1
      subst hr'
      refine .inr ⟨_, by rw [List.length_append]; rfl, h2, ?_, ?_⟩
      · rw [get_put _ _ _ _ (by omega), if_neg (by omega)]; exact h3
      · rw [next_put]; exact h4
  · intro r k hr
    cases hr
    omega
  · rw [get_put _ _ _ _ (by omega), if_neg (by omega), hfar B (by simp), get_put _ _ _ _ (by omega), if_neg (by omega)]
  · rw [next_put, took_next, next_put]
end Go.Proofs

namespace Go.Proofs
set_option linter.unusedVariables false
set_option linter.unusedSimpArgs false
open Go.AM
set_option linter.unusedSimpArgs false

def lpOf : Code → Option Code
  | .loop b => some b
  | .seq a b => orE (lpOf a) (fun _ => lpOf b)
  | .block _ b => lpOf b
  | .scope b => lpOf b
  | _ => none
def lpB (c : Option Code) : Code := match c with | some c => (match lpOf c with | some b => b | none => .skip) | none => .skip

def cutV (s : ByteArray) : Value := .tuple #[.string ⟨(Lib.cut s.data.toList [32]).1.toArray⟩, .string ⟨(Lib.cut s.data.toList [32]).2.1.toArray⟩, .bool (Lib.cut s.data.toList [32]).2.2]

set_option maxRecDepth 20000 in
/-- one round of the words' own loop: the word is taken, or not -/
theorem words_go (hook : Hook) (mx : AObj) (hk : HookS hook mx) (fuel n L B : Nat) (tm : T AV) (s : ByteArray) (S S2 : AState) (ok : Bool) (hs : s.size ≤ 400) (h0 : S.get 0 = some mx)
    (t0 : tget tm 16 0 = .yield L) (t1 : tget tm 16 1 = .ptr B 0) (t3 : tget tm 16 3 = .lit (.bool true)) (hB : S.get B = some (.row [.lit (.string s)] 1 9 true)) (_hBl : B < 65536)
    (hr : (arecs eS hook fuel (n + 1)).round L [.lit (.string ⟨(Lib.cut s.data.toList [32]).1.toArray⟩)] (S.put B (.row [.lit (.string ⟨(Lib.cut s.data.toList [32]).2.1.toArray⟩)] 1 9 true)) = some (litB ok, S2)) :
    ∃ tm', codeK eS (arecs eS hook fuel (n + 1)) none fuel (lpB Tryz.f19.body) ⟨tm, 16, []⟩ S = some (if ok then .normal else .ret, ⟨tm', 16, []⟩, S2) ∧ tget tm' 16 0 = .yield L ∧ tget tm' 16 1 = .ptr B 0 ∧ tget tm' 16 3 = .lit (.bool (Lib.cut s.data.toList [32]).2.2) := by
  have c20 : (arecs eS hook fuel (n + 1)).call 20 [.lit (.string s), .lit (.string { data := #[32] })] S = some (.lit (cutV s), S) := call_hook (hk.h20 s ⟨#[32]⟩ S hs h0)
  have lB : aLoad Tryz.prog S 9 (.ptr B 0) = some (.lit (.string s)) := load_cell _ _ _ _ _ _ _ _ gT9 hB
  have sB : aStore Tryz.prog S 9 (.ptr B 0) (.lit (.string ⟨(Lib.cut s.data.toList [32]).2.1.toArray⟩)) = some (S.put B (.row [.lit (.string ⟨(Lib.cut s.data.toList [32]).2.1.toArray⟩)] 1 9 true)) := store_cell _ _ _ _ _ _ _ _ _ sT9 hB rfl rfl
  have e0 : ∀ S, extK (.lit (cutV s)) 0 S = some (.val (.lit (.string ⟨(Lib.cut s.data.toList [32]).1.toArray⟩)), S) := fun _ => rfl
  have e1 : ∀ S, extK (.lit (cutV s)) 1 S = some (.val (.lit (.string ⟨(Lib.cut s.data.toList [32]).2.1.toArray⟩)), S) := fun _ => rfl
  have e2 : ∀ S, extK (.lit (cutV s)) 2 S = some (.val (.lit (.bool (Lib.cut s.data.toList [32]).2.2)), S) := fun _ => rfl
  simp only [lpB, Tryz.f19, lpOf, orE_some, orE_none]
  cases ok
  · simp only [litB] at hr
    simp (disch := omega) only [code_seq, code_region, code_cond, code_block, code_skip, code_ret, code_exit, codeK_eq, seqK_normal, seqK_ret, seqK_exit, blockK_normal, blockK_ret, blockK_exit, condK_true, condK_false, regK_eq, putK_eq, oper_eq, operK_val, operK_enter, operK_round, opsK_eq, ops_cons, ops_nil, wantK_true, wantK_false, wanted_0, wanted_g, guardK_some, isB_bool, ↓reduceIte, obind_val, aop_move, aop_assign, aop_store, aop_load, aop_alloc, aop_box, aop_makeFunc, aop_binOp, aop_callv, aop_callb, aop_pick, aop_extract, aop_buildSlice, aop_unOp, pickK_true, pickK_false, extK_lit, extK_tup, unK_not, val_some, unit_some, eval_tmp, eval_const, eval_func, get_mk, put_mk, put_none, tget_tput, get_put, get_bump, next_bump, next_put, next_kill, Nat.reduceEqDiff, ret_eq, evalList, evalParts, eS_P, List.getElem?_cons, Nat.reduceSub, Bool.false_eq_true, beq_self_eq_true, Bool.not_true, Bool.not_false, b_tf, b_ft, b_tt, b_ff, t0, t1, t3, call20, c20, lB, sB, e0, e1, e2, calY_yield, hr]
    refine ⟨_, rfl, ?_, ?_, ?_⟩ <;> simp (disch := omega) only [tget_tput, Nat.reduceEqDiff, ↓reduceIte, t0, t1, t3]
  · simp only [litB] at hr
    simp (disch := omega) only [code_seq, code_region, code_cond, code_block, code_skip, code_ret, code_exit, codeK_eq, seqK_normal, seqK_ret, seqK_exit, blockK_normal, blockK_ret, blockK_exit, condK_true, condK_false, regK_eq, putK_eq, oper_eq, operK_val, operK_enter, operK_round, opsK_eq, ops_cons, ops_nil, wantK_true, wantK_false, wanted_0, wanted_g, guardK_some, isB_bool, ↓reduceIte, obind_val, aop_move, aop_assign, aop_store, aop_load, aop_alloc, aop_box, aop_makeFunc, aop_binOp, aop_callv, aop_callb, aop_pick, aop_extract, aop_buildSlice, aop_unOp, pickK_true, pickK_false, extK_lit, extK_tup, unK_not, val_some, unit_some, eval_tmp, eval_const, eval_func, get_mk, put_mk, put_none, tget_tput, get_put, get_bump, next_bump, next_put, next_kill, Nat.reduceEqDiff, ret_eq, evalList, evalParts, eS_P, List.getElem?_cons, Nat.reduceSub, Bool.false_eq_true, beq_self_eq_true, Bool.not_true, Bool.not_false, b_tf, b_ft, b_tt, b_ff, t0, t1, t3, call20, c20, lB, sB, e0, e1, e2, calY_yield, hr]
    refine ⟨_, rfl, ?_, ?_, ?_⟩ <;> simp (disch := omega) only [tget_tput, Nat.reduceEqDiff, ↓reduceIte, t0, t1, t3]

set_option maxRecDepth 20000 in
theorem words_end (hook : Hook) (fuel n : Nat) (tm : T AV) (S : AState) (t3 : tget tm 16 3 = .lit (.bool false)) :
    ∃ tm', codeK eS (arecs eS hook fuel (n + 1)) none fuel (lpB Tryz.f19.body) ⟨tm, 16, []⟩ S = some (.exit 0, ⟨tm', 16, []⟩, S) := by
  simp only [lpB, Tryz.f19, lpOf, orE_some, orE_none]
  simp (disch := omega) only [code_seq, code_region, code_cond, code_block, code_skip, code_ret, code_exit, codeK_eq, seqK_normal, seqK_ret, seqK_exit, blockK_normal, blockK_ret, blockK_exit, condK_true, condK_false, regK_eq, putK_eq, oper_eq, operK_val, operK_enter, operK_round, opsK_eq, ops_cons, ops_nil, wantK_true, wantK_false, wanted_0, wanted_g, guardK_some, isB_bool, ↓reduceIte, obind_val, aop_move, aop_assign, aop_store, aop_load, aop_alloc, aop_box, aop_makeFunc, aop_binOp, aop_callv, aop_callb, aop_pick, aop_extract, aop_buildSlice, aop_unOp, pickK_true, pickK_false, extK_lit, extK_tup, unK_not, val_some, unit_some, eval_tmp, eval_const, eval_func, get_mk, put_mk, put_none, tget_tput, get_put, get_bump, next_bump, next_put, next_kill, Nat.reduceEqDiff, ret_eq, evalList, evalParts, eS_P, List.getElem?_cons, Nat.reduceSub, Bool.false_eq_true, beq_self_eq_true, Bool.not_true, Bool.not_false, b_tf, b_ft, b_tt, b_ff, t3]
  exact ⟨_, rfl⟩

/-- what lines.Script's loop leaves -/
def Out5 (S' : AState) (mx : AObj) (tm : T AV) (L D T2 T3 T4 : Nat) (xs : List Int) (o : Option (List Int)) : Prop :=
  S'.get D = some .deferred ∧ S'.get 0 = some mx ∧
  match o with
  | some l => S'.get L = some (recO .ready none tm D) ∧ (∃ v2, S'.get T2 = some (.row [v2] 1 22 true)) ∧ (∃ v3, S'.get T3 = some (.row [v3] 1 23 true)) ∧ ∃ v, S'.get T4 = some (.row [v] 1 22 true) ∧ OwnA S' v (xs ++ l) ∧ ∀ r n, v = .slice r 0 n none → r ≠ 0 ∧ r ≠ L ∧ r ≠ D ∧ r ≠ T2 ∧ r ≠ T3 ∧ r ≠ T4
  | none => S'.get L = some (recO .done (some .ret) tm D) ∧ S'.get T2 = some (.row [.lit (.slice none 0 0)] 1 22 true) ∧ S'.get T3 = some (.row [.lit (.int .i64 40)] 1 23 true)

theorem In5.box {S : AState} {mx : AObj} {tm : T AV} {L B D T2 T3 T4 N : Nat} {v : AV} {xs : List Int} (h : In5 S mx tm L B D T2 T3 T4 v xs) (hi : Ids L B D T2 T3 T4 N) (hB : B < 60000) (x : AObj) : In5 (S.put B x) mx tm L B D T2 T3 T4 v xs := by
  obtain ⟨⟨e2, e3, e4, eB, eD, eL⟩, hN0⟩ := hi
  obtain ⟨v2, g2⟩ := h.h2
  obtain ⟨v3, g3⟩ := h.h3
  refine ⟨?_, ⟨v2, ?_⟩, ⟨v3, ?_⟩, ?_, ?_, ?_, ?_, h.far⟩
  · rw [get_put _ _ _ _ (by omega), if_neg (by omega)]; exact h.hL
  · rw [get_put _ _ _ _ (by omega), if_neg (by omega)]; exact g2
  · rw [get_put _ _ _ _ (by omega), if_neg (by omega)]; exact g3
  · rw [get_put _ _ _ _ (by omega), if_neg (by omega)]; exact h.h4
  · rw [get_put _ _ _ _ (by omega), if_neg (by omega)]; exact h.hD
  · rw [get_put _ _ _ _ (by omega), if_neg (by omega)]; exact h.h0
  · rcases h.own with h1 | ⟨r, h1, h2, h3, h4⟩
    · exact .inl h1
    · exact .inr ⟨r, h1, h2, by rw [get_put _ _ _ _ (by omega), if_neg (h.far r _ h1).2.2.1]; exact h3, h4⟩

theorem size_mk (l : List UInt8) : (⟨l.toArray⟩ : ByteArray).size = l.length := by show l.toArray.size = _; simp
theorem data_mk (l : List UInt8) : (⟨l.toArray⟩ : ByteArray).data.toList = l := by simp

theorem words_loop (hook : Hook) (mx : AObj) (hk : HookS hook mx) (fuel n L B D T2 T3 T4 N : Nat) (hi : Ids L B D T2 T3 T4 N) (tm : T AV) (ht : Tm5 tm T2 T3 T4) : ∀ (m : Nat) (l : List UInt8) (k : Nat) (fm : T AV) (S : AState) (v : AV) (xs : List Int), l.length ≤ m → m + 2 ≤ k → m + xs.length ≤ 1000 → l.length ≤ 400 → N + 6 ≤ S.next → S.next + 2 * m + 4 < 60000 →
    In5 S mx tm L B D T2 T3 T4 v xs → S.get B = some (.row [.lit (.string ⟨l.toArray⟩)] 1 9 true) → tget fm 16 0 = .yield L → tget fm 16 1 = .ptr B 0 → tget fm 16 3 = .lit (.bool true) →
    ∃ e fm' S', arounds (codeK eS (arecs eS hook fuel (n + 2)) none fuel (lpB Tryz.f19.body)) k ⟨fm, 16, []⟩ S = some (e, ⟨fm', 16, []⟩, S') ∧ (e = .exit 0 ∨ e = .ret) ∧ Out5 S' mx tm L D T2 T3 T4 xs (scanR [] l) := by
  intro m
  induction m with
  | zero => ?_
  | succ m ih => ?_
  all_goals
    intro l k fm S v xs hl hkk hm hl4 hN hS h hB t0 t1 t3
    have hi' := hi
    obtain ⟨⟨e2, e3, e4, eB, eD, eL⟩, hN0⟩ := hi'
    have hs : (⟨l.toArray⟩ : ByteArray).size ≤ 400 := by rw [size_mk]; exact hl4
    have hcl := cut_len1 l
    have hw : (⟨(Lib.cut l [32]).1.toArray⟩ : ByteArray).size ≤ 400 := by rw [size_mk]; omega
    have hI := h.box hi (by omega) (.row [.lit (.string ⟨(Lib.cut l [32]).2.1.toArray⟩)] 1 9 true)
    have hsc : scanR [] l = scanC [] l := scanR_cut l []
    have hwl : wordL ([] ++ (Lib.cut l [32]).1) = wordO ⟨(Lib.cut l [32]).1.toArray⟩ := rfl
    obtain ⟨k, rfl⟩ : ∃ k', k = k' + 1 := ⟨k - 1, by omega⟩
    cases hx : wordO ⟨(Lib.cut l [32]).1.toArray⟩ with
    | none =>
      obtain ⟨S', hr, q1, q2, q3, q4, q5, q6⟩ := round_bad hook mx hk fuel n L B D T2 T3 T4 N hi tm ht _ _ v xs hw (by rw [next_put]; exact hN) (by rw [next_put]; omega) hI hx
      obtain ⟨tm', hc, _⟩ := words_go hook mx hk fuel (n + 1) L B fm ⟨l.toArray⟩ S S' false hs h.h0 t0 t1 t3 hB (by omega) (by rw [data_mk]; exact hr)
      refine ⟨.ret, tm', S', rounds_stop hc (by intro e; cases e), .inr rfl, ?_⟩
      rw [hsc]; unfold scanC; rw [hwl, hx]
      exact ⟨q4, q5, q1, q2, q3⟩
    | some x =>
      obtain ⟨S', v', hr, hI', hB', hn'⟩ := round_good hook mx hk fuel n L B D T2 T3 T4 N hi tm ht _ _ v xs x hw (by rw [next_put]; exact hN) (by rw [next_put]; omega) (by omega) hI hx
      obtain ⟨tm', hc, u0, u1, u3⟩ := words_go hook mx hk fuel (n + 1) L B fm ⟨l.toArray⟩ S S' true hs h.h0 t0 t1 t3 hB (by omega) (by rw [data_mk]; exact hr)
      rw [rounds_go hc]
      rw [data_mk] at u3
      rw [hsc]; unfold scanC; rw [hwl, hx]
      cases hf : (Lib.cut l [32]).2.2 with
      | false =>
        rw [hf] at u3
        obtain ⟨k, rfl⟩ : ∃ k', k = k' + 1 := ⟨k - 1, by omega⟩
        obtain ⟨tm'', hc2⟩ := words_end hook fuel (n + 1) tm' S' u3
        refine ⟨.exit 0, tm'', S', rounds_stop hc2 (by intro e; cases e), .inl rfl, ?_⟩
        exact ⟨hI'.hD, hI'.h0, hI'.hL, hI'.h2, hI'.h3, v', hI'.h4, hI'.own, fun r n hr => by have := hI'.far r n hr; exact ⟨this.1, this.2.1, this.2.2.2.1, this.2.2.2.2.1, this.2.2.2.2.2.1, this.2.2.2.2.2.2⟩⟩
      | true =>
        rw [hf] at u3
        have hcut := cut_len l hf
        first
        | (exfalso; omega)
        | (rw [next_put] at hn'
           obtain ⟨e, fm', S'', ha, he, ho⟩ := ih (Lib.cut l [32]).2.1 k tm' S' v' (xs ++ [x]) (by omega) (by omega) (by rw [List.length_append]; simp only [List.length_cons, List.length_nil]; omega) (by omega) (by omega) (by omega) hI' (by rw [hB', get_put _ _ _ _ (by omega), if_pos rfl]) u0 u1 u3
           refine ⟨e, fm', S'', ha, he, ?_⟩
           cases hq : scanR [] (Lib.cut l [32]).2.1 with
           | none => rw [hq] at ho; exact ho
           | some l' =>
             rw [hq] at ho
             obtain ⟨a1, a2, a3, a4, a5, v'', a6, a7, a8⟩ := ho
             refine ⟨a1, a2, a3, a4, a5, v'', a6, ?_, a8⟩
             rw [List.append_assoc] at a7; exact a7)
end Go.Proofs

namespace Go.Proofs
set_option linter.unusedVariables false
set_option linter.unusedSimpArgs false
open Go.AM
set_option linter.unusedSimpArgs false

theorem call_fin {E : Env} {hook : Hook} {fuel n : Nat} {f : FuncId} {args : List AV} {S S' S'' : AState} {fn : Func} {c : Code} {fr : AFr} {vs : List AV} {e : AExit} {size : Nat} (hh : hook f args S = none) (hf : E.P.funcs[f]? = some fn) (hc : fn.body = some c)
    (hn : max fn.ntmps args.length = size) (h5 : size ≤ 512) (h : acode E (arecs E hook fuel n) none fuel c ⟨putArgs 0 args .nil, size, []⟩ S = some (e, fr, S')) (he : e = .normal ∨ e = .ret)
    (hd : adefers E (arecs E hook fuel n) fr.defers S' = some S'') (hr : aresults E fr S'' fn.results.toList = some vs) :
    (arecs E hook fuel (n + 1)).call f args S = some (pack vs, S'') := callF_eq hh hf hc (body_eq hn h5 h he) hd hr

set_option maxRecDepth 20000 in
/-- the words, told one by one -/
theorem am19 (hook : Hook) (mx : AObj) (hk : HookS hook mx) (fuel n L B D T2 T3 T4 N : Nat) (hi : Ids L B D T2 T3 T4 N) (tm : T AV) (ht : Tm5 tm T2 T3 T4) (l : List UInt8) (S : AState) (hl : l.length ≤ 400) (hN : N + 6 ≤ S.next) (hS : S.next < 50000) (hf : 403 ≤ fuel)
    (h : In5 S mx tm L B D T2 T3 T4 (.lit (.slice none 0 0)) []) (hB : S.get B = some (.row [.lit (.string ⟨l.toArray⟩)] 1 9 true)) :
    ∃ S', (arecs eS hook fuel (n + 3)).call 19 [.yield L, .ptr B 0] S = some (.tuple [], S') ∧ Out5 S' mx tm L D T2 T3 T4 [] (scanR [] l) := by
  have a0 : tget (tput (tput (tput .nil 0 (.yield L)) 1 (.ptr B 0)) 3 (.lit (.bool true))) 16 0 = .yield L := by simp (disch := omega) only [tget_tput, Nat.reduceEqDiff, ↓reduceIte]
  have a1 : tget (tput (tput (tput .nil 0 (.yield L)) 1 (.ptr B 0)) 3 (.lit (.bool true))) 16 1 = .ptr B 0 := by simp (disch := omega) only [tget_tput, Nat.reduceEqDiff, ↓reduceIte]
  have a3 : tget (tput (tput (tput .nil 0 (.yield L)) 1 (.ptr B 0)) 3 (.lit (.bool true))) 16 3 = .lit (.bool true) := by simp (disch := omega) only [tget_tput, Nat.reduceEqDiff, ↓reduceIte]
  obtain ⟨e, fm', S', hr, he, ho⟩ := words_loop hook mx hk fuel n L B D T2 T3 T4 N hi tm ht l.length l fuel (tput (tput (tput .nil 0 (.yield L)) 1 (.ptr B 0)) 3 (.lit (.bool true))) S _ [] (Nat.le_refl _) (by omega) (by simp; omega) hl hN (by omega) h hB a0 a1 a3
  have hcode : ∃ e', acode eS (arecs eS hook fuel (n + 2)) none fuel (match Tryz.f19.body with | some c => c | none => .skip) ⟨putArgs 0 [.yield L, .ptr B 0] .nil, 16, []⟩ S = some (e', ⟨fm', 16, []⟩, S') ∧ (e' = .normal ∨ e' = .ret) := by
    simp only [lpB, Tryz.f19, lpOf, orE_some, orE_none] at hr
    rcases he with rfl | rfl
    · simp (disch := omega) only [Tryz.f19, code_loop, putArgs_cons, putArgs_nil, Nat.zero_add, hr, code_seq, code_region, code_cond, code_block, code_skip, code_ret, code_exit, codeK_eq, seqK_normal, seqK_ret, seqK_exit, blockK_normal, blockK_ret, blockK_exit, condK_true, condK_false, regK_eq, putK_eq, oper_eq, operK_val, operK_enter, operK_round, opsK_eq, ops_cons, ops_nil, wantK_true, wantK_false, wanted_0, wanted_g, guardK_some, isB_bool, ↓reduceIte, obind_val, aop_move, aop_assign, aop_store, aop_load, aop_alloc, aop_box, aop_makeFunc, aop_binOp, aop_callv, aop_callb, aop_pick, aop_extract, aop_buildSlice, aop_unOp, pickK_true, pickK_false, extK_lit, extK_tup, unK_not, val_some, unit_some, eval_tmp, eval_const, eval_func, get_mk, put_mk, put_none, tget_tput, get_put, get_bump, next_bump, next_put, next_kill, Nat.reduceEqDiff, ret_eq, evalList, evalParts, eS_P, List.getElem?_cons, Nat.reduceSub, Bool.false_eq_true, beq_self_eq_true, Bool.not_true, Bool.not_false, b_tf, b_ft, b_tt, b_ff]
      exact ⟨_, rfl, .inl rfl⟩
    · simp (disch := omega) only [Tryz.f19, code_loop, putArgs_cons, putArgs_nil, Nat.zero_add, hr, code_seq, code_region, code_cond, code_block, code_skip, code_ret, code_exit, codeK_eq, seqK_normal, seqK_ret, seqK_exit, blockK_normal, blockK_ret, blockK_exit, condK_true, condK_false, regK_eq, putK_eq, oper_eq, operK_val, operK_enter, operK_round, opsK_eq, ops_cons, ops_nil, wantK_true, wantK_false, wanted_0, wanted_g, guardK_some, isB_bool, ↓reduceIte, obind_val, aop_move, aop_assign, aop_store, aop_load, aop_alloc, aop_box, aop_makeFunc, aop_binOp, aop_callv, aop_callb, aop_pick, aop_extract, aop_buildSlice, aop_unOp, pickK_true, pickK_false, extK_lit, extK_tup, unK_not, val_some, unit_some, eval_tmp, eval_const, eval_func, get_mk, put_mk, put_none, tget_tput, get_put, get_bump, next_bump, next_put, next_kill, Nat.reduceEqDiff, ret_eq, evalList, evalParts, eS_P, List.getElem?_cons, Nat.reduceSub, Bool.false_eq_true, beq_self_eq_true, Bool.not_true, Bool.not_false, b_tf, b_ft, b_tt, b_ff]
      exact ⟨_, rfl, .inr rfl⟩
  obtain ⟨e', hcode, he'⟩ := hcode
  exact ⟨S', call_fin (vs := []) (size := 16) (hk.h19 _ _) Tryz.func19 rfl rfl (by decide) hcode he' rfl rfl, ho⟩
end Go.Proofs
