/- A part of the proof that selvagelaw22.LinesScript answers true at every text. -/
import Derived.Test.YtpmbnnobfjjpaaaGreatDoorSb
namespace Go.Proofs
set_option linter.unusedVariables false
set_option linter.unusedSimpArgs false
open Go.AM
set_option linter.unusedSimpArgs false

/-- the closure of the words -/
theorem am11 (hook : Hook) (mx : AObj) (hk : HookS hook mx) (fuel n : Nat) (s : ByteArray) (S : AState) (hS : S.next < 60000) :
    (arecs eS hook fuel (n + 1)).call 11 [.lit (.string s)] S = some (.func (.func 19) [] [.ptr S.next 0], (S.put S.next (.row [.lit (.string s)] 1 9 true)).bump) := by
  have hn : aNewRow S [.lit (.string s)] 1 9 true = some (S.next, (S.put S.next (.row [.lit (.string s)] 1 9 true)).bump) := by
    show S.new _ = _
    exact new_eq _ _ (by omega)
  have hc : ∃ fr, acode eS (arecs eS hook fuel n) none fuel (match Tryz.f11.body with | some c => c | none => .skip) ⟨putArgs 0 [.lit (.string s)] .nil, 4, []⟩ S = some (.ret, ⟨fr, 4, []⟩, (S.put S.next (.row [.lit (.string s)] 1 9 true)).bump) ∧ tget fr 4 2 = .func (.func 19) [] [.ptr S.next 0] := by
    simp (disch := omega) only [Tryz.f11, putArgs_cons, putArgs_nil, Nat.zero_add, AV.cells, List.length_cons, List.length_nil, hn, code_seq, code_region, code_cond, code_block, code_skip, code_ret, code_exit, codeK_eq, seqK_normal, seqK_ret, seqK_exit, blockK_normal, blockK_ret, blockK_exit, condK_true, condK_false, regK_eq, putK_eq, oper_eq, operK_val, operK_enter, operK_round, opsK_eq, ops_cons, ops_nil, wantK_true, wantK_false, wanted_0, wanted_g, guardK_some, isB_bool, ↓reduceIte, obind_val, aop_move, aop_assign, aop_store, aop_load, aop_alloc, aop_box, aop_makeFunc, aop_binOp, aop_callv, aop_callb, aop_pick, aop_extract, aop_buildSlice, aop_unOp, pickK_true, pickK_false, extK_lit, extK_tup, unK_not, val_some, unit_some, eval_tmp, eval_const, eval_func, get_mk, put_mk, put_none, tget_tput, get_put, get_bump, next_bump, next_put, next_kill, Nat.reduceEqDiff, ret_eq, evalList, evalParts, eS_P, List.getElem?_cons, Nat.reduceSub, Bool.false_eq_true, beq_self_eq_true, Bool.not_true, Bool.not_false, b_tf, b_ft, b_tt, b_ff]
    refine ⟨_, rfl, ?_⟩
    simp (disch := omega) only [tget_tput, Nat.reduceEqDiff, ↓reduceIte]
  obtain ⟨fr, hc, h2⟩ := hc
  refine call_fin (vs := [.func (.func 19) [] [.ptr S.next 0]]) (size := 4) (hk.h11 _ _) Tryz.func11 rfl rfl (by decide) hc (.inr rfl) rfl ?_
  show obind (some (tget fr 4 2)) _ = _
  rw [h2]; rfl

def Res5 (o : Option (List Int)) (S' : AState) (v : AV) : Prop := match o with | some l => OwnA S' v l | none => v = .lit (.slice none 0 0)

set_option maxRecDepth 20000 in
/-- lines.Script at the empty text -/
theorem am5_nil (hook : Hook) (mx : AObj) (hk : HookS hook mx) (fuel n : Nat) (s : ByteArray) (S : AState) (hs : (s.toList == (⟨#[]⟩ : ByteArray).toList) = true) (h0 : 0 < S.next) (hS : S.next < 40000) (hm : S.get 0 = some mx) :
    ∃ S' v, (arecs eS hook fuel (n + 5)).call 5 [.lit (.string s)] S = some (.tuple [v, .lit (.int .i64 0)], S') ∧ v = .lit (.slice none 0 0) ∧ S'.get 0 = some mx := by
  have n2 : aNewRow S [.lit (.slice none 0 0)] 1 22 true = some (S.next, (S.put S.next (.row [.lit (.slice none 0 0)] 1 22 true)).bump) := new_eq _ _ (by omega)
  have n3 : aNewRow (S.put S.next (.row [.lit (.slice none 0 0)] 1 22 true)).bump [.lit (.int .i64 0)] 1 23 true = some (S.next + 1, ((S.put S.next (.row [.lit (.slice none 0 0)] 1 22 true)).bump.put (S.next + 1) (.row [.lit (.int .i64 0)] 1 23 true)).bump) :=
    new_eq _ _ (by rw [next_bump, next_put]; omega)
  have s2 : aStore Tryz.prog ((S.put S.next (.row [.lit (.slice none 0 0)] 1 22 true)).bump.put (S.next + 1) (.row [.lit (.int .i64 0)] 1 23 true)).bump 22 (.ptr S.next 0) (.lit (.slice none 0 0)) = some _ :=
    store_cell _ _ _ _ _ _ _ _ _ sT22 (by rw [get_bump, get_put _ _ _ _ (by omega), if_neg (by omega), get_bump, get_put _ _ _ _ (by omega), if_pos rfl]) rfl rfl
  have s3 : aStore Tryz.prog (((S.put S.next (.row [.lit (.slice none 0 0)] 1 22 true)).bump.put (S.next + 1) (.row [.lit (.int .i64 0)] 1 23 true)).bump.put S.next (.row [.lit (.slice none 0 0)] 1 22 true)) 23 (.ptr (S.next + 1) 0) (.lit (.int .i64 0)) = some _ :=
    store_cell _ _ _ _ _ _ _ _ _ sT23 (by rw [get_put _ _ _ _ (by omega), if_neg (by omega), get_bump, get_put _ _ _ _ (by omega), if_pos rfl]) rfl rfl
  have hc : ∃ fr S', acode eS (arecs eS hook fuel (n + 4)) none fuel (match Tryz.f5.body with | some c => c | none => .skip) ⟨putArgs 0 [.lit (.string s)] .nil, 31, []⟩ S = some (.ret, ⟨fr, 31, []⟩, S') ∧ tget fr 31 2 = .ptr S.next 0 ∧ tget fr 31 3 = .ptr (S.next + 1) 0 ∧
      S' = (((S.put S.next (.row [.lit (.slice none 0 0)] 1 22 true)).bump.put (S.next + 1) (.row [.lit (.int .i64 0)] 1 23 true)).bump.put S.next (.row [.lit (.slice none 0 0)] 1 22 true)).put (S.next + 1) (.row [.lit (.int .i64 0)] 1 23 true) := by
    simp (disch := omega) only [Tryz.f5, putArgs_cons, putArgs_nil, Nat.zero_add, zT22, zT23, AV.cells, List.length_cons, List.length_nil, n2, n3, s2, s3, eql_strs, hs, code_seq, code_region, code_cond, code_block, code_skip, code_ret, code_exit, codeK_eq, seqK_normal, seqK_ret, seqK_exit, blockK_normal, blockK_ret, blockK_exit, condK_true, condK_false, regK_eq, putK_eq, oper_eq, operK_val, operK_enter, operK_round, opsK_eq, ops_cons, ops_nil, wantK_true, wantK_false, wanted_0, wanted_g, guardK_some, isB_bool, ↓reduceIte, obind_val, aop_move, aop_assign, aop_store, aop_load, aop_alloc, aop_box, aop_makeFunc, aop_binOp, aop_callv, aop_callb, aop_pick, aop_extract, aop_buildSlice, aop_unOp, pickK_true, pickK_false, extK_lit, extK_tup, unK_not, val_some, unit_some, eval_tmp, eval_const, eval_func, get_mk, put_mk, put_none, tget_tput, get_put, get_bump, next_bump, next_put, next_kill, Nat.reduceEqDiff, ret_eq, evalList, evalParts, eS_P, List.getElem?_cons, Nat.reduceSub, Bool.false_eq_true, beq_self_eq_true, Bool.not_true, Bool.not_false, b_tf, b_ft, b_tt, b_ff]
    refine ⟨_, _, rfl, ?_, ?_, rfl⟩ <;> simp (disch := omega) only [tget_tput, Nat.reduceEqDiff, ↓reduceIte]
  obtain ⟨fr, S', hc, t2, t3, hS'⟩ := hc
  have g2 : S'.get S.next = some (.row [.lit (.slice none 0 0)] 1 22 true) := by rw [hS', get_put _ _ _ _ (by omega), if_neg (by omega), get_put _ _ _ _ (by omega), if_pos rfl]
  have g3 : S'.get (S.next + 1) = some (.row [.lit (.int .i64 0)] 1 23 true) := by rw [hS', get_put _ _ _ _ (by omega), if_pos rfl]
  have g0 : S'.get 0 = some mx := by
    rw [hS', get_put _ _ _ _ (by omega), if_neg (by omega), get_put _ _ _ _ (by omega), if_neg (by omega), get_bump, get_put _ _ _ _ (by omega), if_neg (by omega), get_bump, get_put _ _ _ _ (by omega), if_neg (by omega)]; exact hm
  refine ⟨S', _, call_fin (vs := [.lit (.slice none 0 0), .lit (.int .i64 0)]) (size := 31) (hk.h5 _ _) Tryz.func5 rfl rfl (by decide) hc (.inr rfl) rfl ?_, rfl, g0⟩
  show obind (aLoad Tryz.prog S' 22 (tget fr 31 2)) (fun v => obind (obind (aLoad Tryz.prog S' 23 (tget fr 31 3)) _) _) = _
  rw [t2, t3, load_cell _ _ _ _ _ _ _ _ gT22 g2, load_cell _ _ _ _ _ _ _ _ gT23 g3]
  rfl

set_option maxRecDepth 20000 in
/-- lines.Script at any other text -/
theorem am5_ne (hook : Hook) (mx : AObj) (hk : HookS hook mx) (fuel n : Nat) (s : ByteArray) (S : AState) (hs : (s.toList == (⟨#[]⟩ : ByteArray).toList) = false) (hsz : s.size ≤ 400) (hf : 403 ≤ fuel) (h0 : 0 < S.next) (hS : S.next < 40000) (hm : S.get 0 = some mx) :
    ∃ S' v, (arecs eS hook fuel (n + 5)).call 5 [.lit (.string s)] S = some (.tuple [v, .lit (.int .i64 (errOf (scanR [] s.data.toList)))], S') ∧ Res5 (scanR [] s.data.toList) S' v ∧ S'.get 0 = some mx := by
  obtain ⟨N, hN⟩ : ∃ N, N = S.next := ⟨_, rfl⟩
  obtain ⟨A2, hA2⟩ : ∃ A, A = (S.put N (.row [.lit (.slice none 0 0)] 1 22 true)).bump := ⟨_, rfl⟩
  obtain ⟨A3, hA3⟩ : ∃ A, A = (A2.put (N + 1) (.row [.lit (.int .i64 0)] 1 23 true)).bump := ⟨_, rfl⟩
  obtain ⟨A4, hA4⟩ : ∃ A, A = (A3.put (N + 2) (.row [.lit (.slice none 0 0)] 1 22 true)).bump := ⟨_, rfl⟩
  obtain ⟨A5, hA5⟩ : ∃ A, A = (A4.put (N + 3) (.row [.lit (.string s)] 1 9 true)).bump := ⟨_, rfl⟩
  have m2 : A2.next = N + 1 := by rw [hA2, next_bump, next_put, hN]
  have m3 : A3.next = N + 2 := by rw [hA3, next_bump, next_put, m2]
  have m4 : A4.next = N + 3 := by rw [hA4, next_bump, next_put, m3]
  have m5 : A5.next = N + 4 := by rw [hA5, next_bump, next_put, m4]
  have n2 : aNewRow S [.lit (.slice none 0 0)] 1 22 true = some (N, A2) := by
    have := new_eq S (.row [.lit (.slice none 0 0)] 1 22 true) (by omega); rw [← hN, ← hA2] at this; exact this
  have n3 : aNewRow A2 [.lit (.int .i64 0)] 1 23 true = some (N + 1, A3) := by
    have := new_eq A2 (.row [.lit (.int .i64 0)] 1 23 true) (by omega); rw [m2, ← hA3] at this; exact this
  have n4 : aNewRow A3 [.lit (.slice none 0 0)] 1 22 true = some (N + 2, A4) := by
    have := new_eq A3 (.row [.lit (.slice none 0 0)] 1 22 true) (by omega); rw [m3, ← hA4] at this; exact this
  have c11 : (arecs eS hook fuel (n + 4)).call 11 [.lit (.string s)] A4 = some (.func (.func 19) [] [.ptr (N + 3) 0], A5) := by
    have := am11 hook mx hk fuel (n + 3) s A4 (by omega); rw [m4, ← hA5] at this; exact this
  obtain ⟨tm, htm⟩ : ∃ tm, tm = tput (tput (tput (tput (tput (tput (tput (tput .nil 0 (.lit (.string s))) 2 (.ptr N 0)) 3 (.ptr (N + 1) 0)) 8 (.lit (.string s))) 9 (.lit (.bool false))) 4 (.ptr (N + 2) 0)) 10 (.lit (.string s))) 11 (.func (.func 19) [] [.ptr (N + 3) 0]) := ⟨_, rfl⟩
  have ht : Tm5 tm N (N + 1) (N + 2) := by
    constructor <;> rw [htm] <;> simp (disch := omega) only [tget_tput, Nat.reduceEqDiff, ↓reduceIte]
  have t11 : tget tm 31 11 = .func (.func 19) [] [.ptr (N + 3) 0] := by rw [htm]; simp (disch := omega) only [tget_tput, Nat.reduceEqDiff, ↓reduceIte]
  obtain ⟨A6, hA6⟩ : ∃ A, A = (A5.put (N + 4) .deferred).bump := ⟨_, rfl⟩
  obtain ⟨A7, hA7⟩ : ∃ A, A = (A6.put (N + 5) (recO .ready none tm (N + 4))).bump := ⟨_, rfl⟩
  have m6 : A6.next = N + 5 := by rw [hA6, next_bump, next_put, m5]
  have m7 : A7.next = N + 6 := by rw [hA7, next_bump, next_put, m6]
  have q7 : ∀ j, A7.get j = if j = N + 5 then some (recO .ready none tm (N + 4)) else if j = N + 4 then some .deferred else if j = N + 3 then some (.row [.lit (.string s)] 1 9 true) else if j = N + 2 then some (.row [.lit (.slice none 0 0)] 1 22 true) else
      if j = N + 1 then some (.row [.lit (.int .i64 0)] 1 23 true) else if j = N then some (.row [.lit (.slice none 0 0)] 1 22 true) else S.get j := by
    intro j
    rw [hA7, get_bump, get_put _ _ _ _ (by omega), hA6, get_bump, get_put _ _ _ _ (by omega), hA5, get_bump, get_put _ _ _ _ (by omega), hA4, get_bump, get_put _ _ _ _ (by omega), hA3, get_bump, get_put _ _ _ _ (by omega), hA2, get_bump, get_put _ _ _ _ (by omega)]
  have hi : Ids (N + 5) (N + 3) (N + 4) N (N + 1) (N + 2) N := ⟨⟨rfl, rfl, rfl, rfl, rfl, rfl⟩, by omega⟩
  have hin : In5 A7 mx tm (N + 5) (N + 3) (N + 4) N (N + 1) (N + 2) (.lit (.slice none 0 0)) [] := by
    refine ⟨?_, ⟨.lit (.slice none 0 0), ?_⟩, ⟨.lit (.int .i64 0), ?_⟩, ?_, ?_, ?_, .inl ⟨rfl, rfl⟩, fun r n h => by cases h⟩
    · rw [q7, if_pos rfl]
    · rw [q7, if_neg (by omega), if_neg (by omega), if_neg (by omega), if_neg (by omega), if_neg (by omega), if_pos rfl]
    · rw [q7, if_neg (by omega), if_neg (by omega), if_neg (by omega), if_neg (by omega), if_pos rfl]
    · rw [q7, if_neg (by omega), if_neg (by omega), if_neg (by omega), if_pos rfl]
    · rw [q7, if_neg (by omega), if_pos rfl]
    · rw [q7, if_neg (by omega), if_neg (by omega), if_neg (by omega), if_neg (by omega), if_neg (by omega), if_neg (by omega)]; exact hm
  have hlen : s.data.toList.length ≤ 400 := by rw [Array.length_toList]; exact hsz
  obtain ⟨S4, hc19, ho⟩ := am19 hook mx hk fuel (n + 1) (N + 5) (N + 3) (N + 4) N (N + 1) (N + 2) N hi tm ht s.data.toList A7 hlen (by omega) (by omega) hf hin (by rw [q7, if_neg (by omega), if_neg (by omega), if_pos rfl])
  have hcal : aCall eS A7 (AFr.eval ⟨tm, 31, []⟩ (.tmp 11)) [.yield (A5.next + 1)] = some (.enter 19 [.yield (N + 5), .ptr (N + 3) 0], A7) := by
    rw [eval_tmp, get_mk, t11, m5]
    exact cal_func A7 19 _ _ Tryz.f19 _ Tryz.func19 rfl
  obtain ⟨od, o0, om⟩ := ho
  cases hsc : scanR [] s.data.toList with
  | none =>
    rw [hsc] at om
    obtain ⟨o1, o2, o3⟩ := om
    obtain ⟨S5, hE, hS5⟩ : ∃ S5, aendLoop S4 (A5.next + 1) = some (.ret, S5) ∧ S5 = S4.put (N + 5) (.loop .exhausted (some .ret) tm 31 [12] (rfA Tryz.f5.body) (rfB Tryz.f5.body) (N + 4)) := ⟨_, by rw [m5]; exact endLoop_ret o1, rfl⟩
    have hrf := code_rangeFunc (R := arecs eS hook fuel (n + 4)) (fuel := fuel) (f := .tmp 11) (ps := #[12]) (ag := rfA Tryz.f5.body) (bd := rfB Tryz.f5.body) (fr := ⟨tm, 31, []⟩) (S := A5) (by omega) (by rw [m5, hA7, hA6]; rfl) hcal hc19 hE
    rw [htm, m5] at hrf
    simp only [rfA, rfB, Tryz.f5, rfOf, orE_some, orE_none] at hrf
    have hc : ∃ fr, acode eS (arecs eS hook fuel (n + 4)) none fuel (match Tryz.f5.body with | some c => c | none => .skip) ⟨putArgs 0 [.lit (.string s)] .nil, 31, []⟩ S = some (.ret, ⟨fr, 31, [.mark (N + 4)]⟩, S5) ∧ tget fr 31 2 = .ptr N 0 ∧ tget fr 31 3 = .ptr (N + 1) 0 := by
      simp (disch := omega) only [Tryz.f5, putArgs_cons, putArgs_nil, Nat.zero_add, zT22, zT23, AV.cells, List.length_cons, List.length_nil, n2, n3, n4, call11, c11, eql_strs, hs, hrf, code_seq, code_region, code_cond, code_block, code_skip, code_ret, code_exit, codeK_eq, seqK_normal, seqK_ret, seqK_exit, blockK_normal, blockK_ret, blockK_exit, condK_true, condK_false, regK_eq, putK_eq, oper_eq, operK_val, operK_enter, operK_round, opsK_eq, ops_cons, ops_nil, wantK_true, wantK_false, wanted_0, wanted_g, guardK_some, isB_bool, ↓reduceIte, obind_val, aop_move, aop_assign, aop_store, aop_load, aop_alloc, aop_box, aop_makeFunc, aop_binOp, aop_callv, aop_callb, aop_pick, aop_extract, aop_buildSlice, aop_unOp, pickK_true, pickK_false, extK_lit, extK_tup, unK_not, val_some, unit_some, eval_tmp, eval_const, eval_func, get_mk, put_mk, put_none, tget_tput, get_put, get_bump, next_bump, next_put, next_kill, Nat.reduceEqDiff, ret_eq, evalList, evalParts, eS_P, List.getElem?_cons, Nat.reduceSub, Bool.false_eq_true, beq_self_eq_true, Bool.not_true, Bool.not_false, b_tf, b_ft, b_tt, b_ff]
      refine ⟨_, rfl, ?_, ?_⟩ <;> simp (disch := omega) only [tget_tput, Nat.reduceEqDiff, ↓reduceIte]
    obtain ⟨fr, hc, t2, t3⟩ := hc
    have hk2 : adefers eS (arecs eS hook fuel (n + 4)) [.mark (N + 4)] S5 = some (S5.kill (N + 4)) := defers_mark (by rw [hS5, get_put _ _ _ _ (by omega), if_neg (by omega)]; exact od)
    have g2 : (S5.kill (N + 4)).get N = some (.row [.lit (.slice none 0 0)] 1 22 true) := by rw [get_kill _ _ _ (by omega), if_neg (by omega), hS5, get_put _ _ _ _ (by omega), if_neg (by omega)]; exact o2
    have g3 : (S5.kill (N + 4)).get (N + 1) = some (.row [.lit (.int .i64 40)] 1 23 true) := by rw [get_kill _ _ _ (by omega), if_neg (by omega), hS5, get_put _ _ _ _ (by omega), if_neg (by omega)]; exact o3
    refine ⟨_, _, call_fin (vs := [.lit (.slice none 0 0), .lit (.int .i64 40)]) (size := 31) (hk.h5 _ _) Tryz.func5 rfl rfl (by decide) hc (.inr rfl) hk2 ?_, rfl, ?_⟩
    · show obind (aLoad Tryz.prog (S5.kill (N + 4)) 22 (tget fr 31 2)) (fun v => obind (obind (aLoad Tryz.prog (S5.kill (N + 4)) 23 (tget fr 31 3)) _) _) = _
      rw [t2, t3, load_cell _ _ _ _ _ _ _ _ gT22 g2, load_cell _ _ _ _ _ _ _ _ gT23 g3]
      rfl
    · rw [get_kill _ _ _ (by omega), if_neg (by omega), hS5, get_put _ _ _ _ (by omega), if_neg (by omega)]; exact o0
  | some l =>
    rw [hsc] at om
    obtain ⟨o1, ⟨v2, o2⟩, ⟨v3, o3⟩, v, o4, own, far⟩ := om
    rw [List.nil_append] at own
    obtain ⟨S5, hE, hS5⟩ : ∃ S5, aendLoop S4 (A5.next + 1) = some (.normal, S5) ∧ S5 = S4.put (N + 5) (.loop .exhausted none tm 31 [12] (rfA Tryz.f5.body) (rfB Tryz.f5.body) (N + 4)) := ⟨_, by rw [m5]; exact endLoop_ready o1, rfl⟩
    have hrf := code_rangeFunc (R := arecs eS hook fuel (n + 4)) (fuel := fuel) (f := .tmp 11) (ps := #[12]) (ag := rfA Tryz.f5.body) (bd := rfB Tryz.f5.body) (fr := ⟨tm, 31, []⟩) (S := A5) (by omega) (by rw [m5, hA7, hA6]; rfl) hcal hc19 hE
    rw [htm, m5] at hrf
    simp only [rfA, rfB, Tryz.f5, rfOf, orE_some, orE_none] at hrf
    have l4 : aLoad Tryz.prog S5 22 (.ptr (N + 2) 0) = some v := load_cell _ _ _ _ _ _ _ _ gT22 (by rw [hS5, get_put _ _ _ _ (by omega), if_neg (by omega)]; exact o4)
    have hvc : v.cells = [v] ∧ v.one = true := by
      rcases own with ⟨rfl, _⟩ | ⟨r, rfl, _⟩ <;> exact ⟨rfl, rfl⟩
    have s2 : aStore Tryz.prog S5 22 (.ptr N 0) v = some (S5.put N (.row [v] 1 22 true)) := store_cell _ _ _ _ _ _ _ _ _ sT22 (by rw [hS5, get_put _ _ _ _ (by omega), if_neg (by omega)]; exact o2) hvc.1 hvc.2
    have s3 : aStore Tryz.prog (S5.put N (.row [v] 1 22 true)) 23 (.ptr (N + 1) 0) (.lit (.int .i64 0)) = some ((S5.put N (.row [v] 1 22 true)).put (N + 1) (.row [.lit (.int .i64 0)] 1 23 true)) :=
      store_cell _ _ _ _ _ _ _ _ _ sT23 (by rw [get_put _ _ _ _ (by omega), if_neg (by omega), hS5, get_put _ _ _ _ (by omega), if_neg (by omega)]; exact o3) rfl rfl
    have hc : ∃ fr, acode eS (arecs eS hook fuel (n + 4)) none fuel (match Tryz.f5.body with | some c => c | none => .skip) ⟨putArgs 0 [.lit (.string s)] .nil, 31, []⟩ S = some (.ret, ⟨fr, 31, [.mark (N + 4)]⟩, (S5.put N (.row [v] 1 22 true)).put (N + 1) (.row [.lit (.int .i64 0)] 1 23 true)) ∧ tget fr 31 2 = .ptr N 0 ∧ tget fr 31 3 = .ptr (N + 1) 0 := by
      simp (disch := omega) only [Tryz.f5, putArgs_cons, putArgs_nil, Nat.zero_add, zT22, zT23, AV.cells, List.length_cons, List.length_nil, n2, n3, n4, call11, c11, eql_strs, hs, hrf, l4, s2, s3, code_seq, code_region, code_cond, code_block, code_skip, code_ret, code_exit, codeK_eq, seqK_normal, seqK_ret, seqK_exit, blockK_normal, blockK_ret, blockK_exit, condK_true, condK_false, regK_eq, putK_eq, oper_eq, operK_val, operK_enter, operK_round, opsK_eq, ops_cons, ops_nil, wantK_true, wantK_false, wanted_0, wanted_g, guardK_some, isB_bool, ↓reduceIte, obind_val, aop_move, aop_assign, aop_store, aop_load, aop_alloc, aop_box, aop_makeFunc, aop_binOp, aop_callv, aop_callb, aop_pick, aop_extract, aop_buildSlice, aop_unOp, pickK_true, pickK_false, extK_lit, extK_tup, unK_not, val_some, unit_some, eval_tmp, eval_const, eval_func, get_mk, put_mk, put_none, tget_tput, get_put, get_bump, next_bump, next_put, next_kill, Nat.reduceEqDiff, ret_eq, evalList, evalParts, eS_P, List.getElem?_cons, Nat.reduceSub, Bool.false_eq_true, beq_self_eq_true, Bool.not_true, Bool.not_false, b_tf, b_ft, b_tt, b_ff]
      refine ⟨_, rfl, ?_, ?_⟩ <;> simp (disch := omega) only [tget_tput, Nat.reduceEqDiff, ↓reduceIte]
    obtain ⟨fr, hc, t2, t3⟩ := hc
    obtain ⟨S6, hS6⟩ : ∃ S6, S6 = (S5.put N (.row [v] 1 22 true)).put (N + 1) (.row [.lit (.int .i64 0)] 1 23 true) := ⟨_, rfl⟩
    rw [← hS6] at hc
    have q6 : ∀ j, j ≠ N → j ≠ N + 1 → j ≠ N + 5 → S6.get j = S4.get j := by
      intro j h1 h2 h3
      rw [hS6, get_put _ _ _ _ (by omega), if_neg h2, get_put _ _ _ _ (by omega), if_neg h1, hS5, get_put _ _ _ _ (by omega), if_neg h3]
    have hk2 : adefers eS (arecs eS hook fuel (n + 4)) [.mark (N + 4)] S6 = some (S6.kill (N + 4)) := defers_mark (by rw [q6 _ (by omega) (by omega) (by omega)]; exact od)
    have g2 : (S6.kill (N + 4)).get N = some (.row [v] 1 22 true) := by rw [get_kill _ _ _ (by omega), if_neg (by omega), hS6, get_put _ _ _ _ (by omega), if_neg (by omega), get_put _ _ _ _ (by omega), if_pos rfl]
    have g3 : (S6.kill (N + 4)).get (N + 1) = some (.row [.lit (.int .i64 0)] 1 23 true) := by rw [get_kill _ _ _ (by omega), if_neg (by omega), hS6, get_put _ _ _ _ (by omega), if_pos rfl]
    refine ⟨_, v, call_fin (vs := [v, .lit (.int .i64 0)]) (size := 31) (hk.h5 _ _) Tryz.func5 rfl rfl (by decide) hc (.inr rfl) hk2 ?_, ?_, ?_⟩
    · show obind (aLoad Tryz.prog (S6.kill (N + 4)) 22 (tget fr 31 2)) (fun v => obind (obind (aLoad Tryz.prog (S6.kill (N + 4)) 23 (tget fr 31 3)) _) _) = _
      rw [t2, t3, load_cell _ _ _ _ _ _ _ _ gT22 g2, load_cell _ _ _ _ _ _ _ _ gT23 g3]
      rfl
    · rcases own with h1 | ⟨r, h1, h2, h3, h4⟩
      · exact .inl h1
      · have := far r _ h1
        refine .inr ⟨r, h1, h2, ?_, ?_⟩
        · rw [get_kill _ _ _ (by omega), if_neg (by omega), q6 _ (by omega) (by omega) (by omega)]; exact h3
        · show r < S6.next
          rw [hS6, next_put, next_put, hS5, next_put]; exact h4
    · rw [get_kill _ _ _ (by omega), if_neg (by omega), q6 _ (by omega) (by omega) (by omega)]; exact o0
end Go.Proofs
